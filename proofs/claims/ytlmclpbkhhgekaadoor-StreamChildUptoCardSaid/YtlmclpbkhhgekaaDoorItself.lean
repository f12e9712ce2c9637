/- Walks: the ancestors of a stream, its last ancestor. -/
import Derived.Test.YtlmclpbkhhgekaaDoorForest
import Derived.Test.YtlmclpbkhhgekaaDoorStr
import Derived.Test.YtlmclpbkhhgekaaDoorStrMem
import Derived.Test.YtlmclpbkhhgekaaDoorRuleW
import Derived.Test.YtlmclpbkhhgekaaDoorNewS
set_option linter.unusedVariables false
set_option linter.unusedSimpArgs false
namespace Go.Proofs.YtlmclpbkhhgekaaDoor
open Go Go.RowKit Sy

theorem info_intE : (Tryd.prog.info? 3).map (fun i => (i.zero, i.size, i.bytes)) = some (some (.int .i64 0), 1, 8) := by kernel_rfl
def intCells (l : List Nat) : List Value := l.map fun (x : Nat) => Value.int .i64 (x : Int)
/-- Since w0 only new blocks, among them v's row, which holds the numbers l. -/
structure OwnI (w0 w : World) (v : Value) (l : List Nat) : Prop where
  calm : Calm w0 w
  own : w.ownsRow w0.heap.size 3 1 v l.length (intCells l)
theorem OwnI.nil {w0 w : World} (h : Calm w0 w) : OwnI w0 w (.slice none 0 0) [] := ⟨h, World.ownsRow_nil _ _ _ _⟩
theorem OwnI.to {w0 w w' : World} {v : Value} {ls : List Nat} (h : OwnI w0 w v ls) (hc : Calm w w') : OwnI w0 w' v ls := ⟨h.calm.trans hc, owns_calm h.own hc⟩
/-- Numbers in memory. -/
def IntsAt (w : World) (A : Option Addr) (l : List Nat) : Prop := 0 < l.length → ∃ g, A = some ⟨g, 0, none⟩ ∧ g < w.heap.size ∧ ∀ (k x : Nat), l[k]? = some x → w.cell? ⟨g, k, none⟩ = some (.int .i64 (x : Int))
theorem IntsAt.calm {w w' : World} {A : Option Addr} {l : List Nat} (h : IntsAt w A l) (hc : Calm w w') : IntsAt w' A l := fun h0 => by
  obtain ⟨g, rfl, hg, hk⟩ := h h0
  exact ⟨g, rfl, Nat.lt_of_lt_of_le hg hc.size, fun k x hx => Calm.at_ hc (hk k x hx) hg⟩
theorem OwnI.ints {w0 w : World} {v : Value} {l : List Nat} (h : OwnI w0 w v l) : ∃ A c, v = .slice A l.length c ∧ IntsAt w A l := by
  rcases h.own.2 with ⟨rfl, h0⟩ | ⟨g, cap, cur, rfl, hg, hh, hcap, hm, hs, ht⟩
  · exact ⟨none, 0, by rw [h0], fun h => by omega⟩
  · have hlt : g < w.heap.size := by
      rcases Nat.lt_or_ge g w.heap.size with h | h
      · exact h
      · rw [Array.getElem?_eq_none h] at hh; cases hh
    refine ⟨_, cap, rfl, fun _ => ⟨g, rfl, hlt, fun k x hx => ?_⟩⟩
    have := h.own.cells (g := g) rfl k (.int .i64 (x : Int)) (by simp [intCells, hx])
    rw [Addr.add_lit] at this
    simpa using this
theorem wpList_append_int {ops : Array Oper} {rest : List Oper} {o : Oper} {a : Act} {Q : Exit → Act → World → Prop} {w : World} (hgd : o.guard = none) (s x : Operand)
    (ho : o.op = .call { callee := .builtin .append, args := #[s, x], argTypes := #[73, 73] }) (w0 : World) (v : Value) (ls : List Nat) (hs : a.eval s = v) (hown : OwnI w0 w v ls)
    (b off c : Nat) (hx : a.eval x = .slice (some ⟨b, off, none⟩) 1 c) (l : Nat) (hcell : w.cell? ⟨b, off, none⟩ = some (.int .i64 (l : Int))) (hlen : ls.length ≤ 2000000)
    (h : ∀ v' w', OwnI w0 w' v' (ls ++ [l]) → wpList Tryd.prog ops Q rest (a.put o.dst v') w') : wpList Tryd.prog ops Q (o :: rest) a w := by
  obtain ⟨i0, hi0, hz0, hz1, hz2⟩ := info_parts info_intE
  refine wpList_append_own w hgd s x 73 ho w0.heap.size 3 i0 _ 1 8 Tryd.underlying73 hi0 hz0 hz1 hz2 rfl (by decide) v ls.length (intCells ls) hs hown.own ⟨b, off, none⟩ 1 c [.int .i64 (l : Int)] hx rfl (fun j u hj => ?_) (by simp [Value.oneCell']) (by unfold maxLen; omega) (by omega) hown.calm.size ?_
  · cases j with
    | zero =>
      simp only [List.getElem?_cons_zero, Option.some.injEq] at hj
      subst hj
      simpa [Addr.add_lit] using hcell
    | succ j => simp at hj
  · intro v' w' ho' hg _
    refine h v' w' ⟨Below.trans hown.calm (owns_below hown.own hown.calm.size hg), ?_⟩
    rw [List.length_append]
    simpa [intCells] using ho'

/-- What is left of a chain of at most m streams. -/
def restA (ss : List Strm) : Nat → Option Nat → List Nat
  | 0, _ => []
  | _ + 1, none => []
  | m + 1, some p => p :: aboveN ss m p
theorem aboveN_rest (ss : List Strm) (m i : Nat) : aboveN ss m i = restA ss m (parentI ss i) := by
  cases m with
  | zero => rfl
  | succ m =>
    unfold aboveN
    rcases parentI ss i with _ | p <;> rfl
theorem restA_none (ss : List Strm) (m : Nat) : restA ss m none = [] := by cases m <;> rfl
def lenV : Value → Nat
  | .slice _ n _ => n
  | _ => 0

/-- A list of indices as a result. -/
def AboveEnd (l : List Nat) (e : Ending) (w' : World) : Prop := ∃ A c, e = .returned (.slice A l.length c) ∧ IntsAt w' A l

set_option maxHeartbeats 2000000 in
theorem above_c (ss : List Strm) (F : Nat) (A : Option Addr) (n c i : Nat) (w : World) (hf : ForestAt w F A n c ss) (hi : i < n) :
    Calls Tryd.prog 36 #[.pointer (some ⟨F, 0, none⟩), .int .i64 i] w fun e w' => AboveEnd (above ss i) e w' ∧ Calm w w' := by
  have hn := hf.hn
  have hlen := hf.strms.len
  rw [hn] at hlen
  have HF := Lib.hid hf
  have HN := Lib.hid hn
  have K : Hid (∀ (W : World) (p : Nat), Calm w W → p < n → Calls Tryd.prog 43 #[.pointer (some ⟨F, 0, none⟩), .int .i64 p] W fun e w' => e = .returned (parV (parentI ss p)) ∧ Calm W w') := fun W p hW hp => parent_c ss F A n c p W (hf.calm hW) hp
  have f0 := hf.c0
  have hlt := hf.lt
  clear hf hn
  obtain ⟨o0, ho0⟩ : ∃ o0, parentI ss i = o0 := ⟨_, rfl⟩
  have hk0 := K.out w i (Calm.refl w) hi
  rw [ho0] at hk0
  unfold parV at hk0
  have HO := Lib.hid ho0
  clear ho0
  go_enter Tryd.func36, Tryd.ntmps36
  go_wp2_with (go_at_call 43; refine hk0.mono ?_; rintro e w1 ⟨rfl, hc1⟩)
  have HC1 := Lib.hid hc1
  clear hc1 f0 hk0
  go_loopw [5, 6, 7] (fun v p q wr => ∃ (acc : List Nat) (o : Option Nat), acc.length ≤ n ∧ p = .int .i64 ((o.getD 0 : Nat) : Int) ∧ q = .bool o.isSome ∧ Hid (OwnI w wr v acc) ∧ Hid (above ss i = acc ++ restA ss (n - acc.length) o) ∧ Hid (∀ x, o = some x → x < n)) (fun v _ _ _ => n - lenV v)
  case atStart =>
    refine ⟨[], o0, Nat.zero_le _, rfl, rfl, OwnI.nil HC1.out, ?_, fun x hx => ?_⟩
    · show _ = _
      rw [List.nil_append, List.length_nil, Nat.sub_zero, ← HO.out, ← aboveN_rest, ← HN.out]
      rfl
    · rw [← HN.out]
      exact parentI_lt (HO.out.trans hx)
  case round =>
    obtain ⟨acc, o, hacc, rfl, rfl, HV, HA, HL⟩ := hrel
    obtain ⟨VA, vc, rfl, hia⟩ := HV.out.ints
    obtain ⟨m, hm⟩ : ∃ m, acc.length = m := ⟨_, rfl⟩
    have HV2 : Hid (OwnI w wr (.slice VA m vc) acc) := by rw [← hm]; exact HV
    have hvc := HV.out.calm
    clear HV
    have HV := HV2
    clear HV2
    rw [hm] at hacc ⊢
    have f0 := Calm.at_ HV.out.calm HF.out.c0 hlt
    cases o with
    | none =>
      have hE : Hid (AboveEnd (above ss i) (.returned (.slice VA m vc)) wr) := by
        have e := HA.out
        rw [restA_none, List.append_nil] at e
        exact ⟨VA, vc, by rw [e, hm], by rw [e]; exact hia⟩
      simp only [Option.getD_none, Option.isSome_none]
      clear hia
      go_wp2
      go_ret
      exact ⟨hE.out, HV.out.calm⟩
    | some p =>
      simp only [Option.getD_some, Option.isSome_some]
      by_cases hlt2 : m < n
      · have hpn := HL.out p rfl
        have HM := Lib.hid hm
        clear hm hia
        obtain ⟨o2, ho2⟩ : ∃ o2, parentI ss p = o2 := ⟨_, rfl⟩
        have HO2 := Lib.hid ho2
        have K2 : Hid (∀ W, Calm w W → Calls Tryd.prog 43 #[.pointer (some ⟨F, 0, none⟩), .int .i64 p] W fun e w' => e = .returned (.tuple #[.int .i64 ((o2.getD 0 : Nat) : Int), .bool o2.isSome]) ∧ Calm W w') := fun W hW => by
          have := K.out W p hW hpn
          rw [ho2] at this
          exact this
        clear ho2
        go_wp2_with (first
          | (at_builtin; refine wpList_append_int rfl (.tmp 31) (.tmp 33) rfl w _ acc rfl (HV.out.to ((Calm.refl wr).alloc (.cells #[.int .i64 (p : Int)] 3))) wr.heap.size 0 1 rfl p (by simp [go_sem]) (by rw [HM.out]; omega) ?_; intro v5 w5 hown5)
          | (go_at_call 43; refine (K2.out w5 hown5.calm).mono ?_; rintro e w6 ⟨rfl, hc6⟩))
        go_roundw
        case rel =>
          refine ⟨acc ++ [p], o2, by rw [List.length_append, HM.out]; simp; omega, rfl, rfl, hown5.to hc6, ?_, fun x hx => ?_⟩
          · show _ = _
            rw [HA.out, HM.out, List.length_append, HM.out, List.append_assoc]
            congr 1
            obtain ⟨d, hd⟩ : ∃ d, n - m = d + 1 := ⟨n - m - 1, by omega⟩
            rw [hd, show n - (m + [p].length) = d by simp; omega]
            show p :: aboveN ss d p = _
            rw [aboveN_rest, HO2.out]
            rfl
          · rw [← HN.out]
            exact parentI_lt (HO2.out.trans hx)
        case measure =>
          obtain ⟨A5, c5, e5, _⟩ := hown5.ints
          have hl5 : (acc ++ [p]).length = m + 1 := by rw [List.length_append, HM.out]; rfl
          rw [e5]
          simp only [lenV, hl5]
          omega
      · obtain rfl : m = n := by omega
        have hE : Hid (AboveEnd (above ss i) (.returned (.slice VA m vc)) wr) := by
          have e := HA.out
          rw [hm, Nat.sub_self] at e
          rw [show restA ss 0 (some p) = [] from rfl, List.append_nil] at e
          exact ⟨VA, vc, by rw [e, hm], by rw [e]; exact hia⟩
        clear hia hm
        go_wp2
        go_ret
        exact ⟨hE.out, HV.out.calm⟩

theorem getLastD_take : ∀ (l : List Nat) (k x : Nat) (d : Nat), l[k]? = some x → (l.take (k + 1)).getLastD d = x := fun l k x d h => by
  obtain ⟨hlt, rfl⟩ := List.getElem?_eq_some_iff.1 h
  rw [List.take_succ_eq_append_getElem hlt, List.getLastD_concat]
set_option maxHeartbeats 2000000 in
theorem top_c (ss : List Strm) (F : Nat) (A : Option Addr) (n c i : Nat) (w : World) (hf : ForestAt w F A n c ss) (hi : i < n) :
    Calls Tryd.prog 70 #[.pointer (some ⟨F, 0, none⟩), .int .i64 i] w fun e w' => e = .returned (.int .i64 (topI ss i : Nat)) ∧ Calm w w' := by
  have hK := above_c ss F A n c i w hf hi
  obtain ⟨l, hl⟩ : ∃ l, above ss i = l := ⟨_, rfl⟩
  have ht : Hid (topI ss i = l.getLastD i) := by show _ = _; unfold topI; rw [hl]
  have hll : l.length ≤ 1048577 := by
    have h1 := aboveN_len (ss := ss) ss.length i
    have h2 := hf.strms.len
    have h3 : l.length ≤ ss.length := by rw [← hl]; exact h1
    omega
  rw [hl] at hK
  clear hf hl
  go_enter Tryd.func70, Tryd.ntmps70
  go_wp2_with (go_at_call 36; refine hK.mono ?_; rintro e w1 ⟨⟨VA, vc, rfl, hia⟩, hc1⟩)
  have HI := Lib.hid hia
  have HC1 := Lib.hid hc1
  obtain ⟨m, hm⟩ : ∃ m, l.length = m := ⟨_, rfl⟩
  have HM := Lib.hid hm
  rw [hm] at hll ⊢
  clear hia hc1 hm
  go_loopw [1, 9] (fun u q wr => ∃ k : Nat, k ≤ m ∧ q = .int .i64 k ∧ u = .int .i64 (((l.take k).getLastD i : Nat) : Int) ∧ Hid (Calm w1 wr)) (fun _ q _ => m - (intOf q).toNat)
  case atStart => exact ⟨0, Nat.zero_le _, rfl, by simp, Calm.refl _⟩
  case round =>
    obtain ⟨k, hk, rfl, rfl, HC⟩ := hrel
    by_cases hlt : k < m
    · obtain ⟨x, hx⟩ : ∃ x, l[k]? = some x := ⟨_, List.getElem?_eq_getElem (by rw [HM.out]; exact hlt)⟩
      obtain ⟨g, rfl, hg, hat⟩ := HI.out.calm HC.out (by rw [HM.out]; omega)
      have c0 := hat k x hx
      have HX := Lib.hid hx
      clear hat hx
      go_wp2
      go_roundw
      case rel => exact ⟨k + 1, by omega, by go_num, by rw [getLastD_take l k x i HX.out], HC.out⟩
      case measure => simp [intOf]; omega
    · obtain rfl : k = m := by omega
      have hE : Hid (topI ss i = (l.take k).getLastD i) := by show _ = _; rw [ht.out, List.take_of_length_le (by rw [HM.out]; exact Nat.le_refl _)]
      go_wp2
      go_ret
      exact ⟨by rw [hE.out]; rfl, HC1.out.trans HC.out⟩
end Go.Proofs.YtlmclpbkhhgekaaDoor
set_option linter.unusedVariables false
set_option linter.unusedSimpArgs false
namespace Go.Proofs.YtlmclpbkhhgekaaDoor
open Go Go.RowKit Sy

/-- A box of a path line. -/
structure BoxL (w1 : World) (B : Nat) (a : Pl) (κ : Int) (np nf : Nat) (rp rf : Bool) : Prop where
  lt : B < w1.heap.size
  c0 : w1.cell? ⟨B, 0, none⟩ = some (.int .i64 κ)
  c1 : w1.cell? ⟨B, 1, none⟩ = some (.slice a.AL np a.cl)
  c2 : w1.cell? ⟨B, 2, none⟩ = some (.bool rp)
  c3 : w1.cell? ⟨B, 3, none⟩ = some (.slice a.AR nf a.cr)
  c4 : w1.cell? ⟨B, 4, none⟩ = some (.bool rf)
theorem BoxL.calm {w1 w2 : World} {B : Nat} {a : Pl} {κ : Int} {np nf : Nat} {rp rf : Bool} (h : BoxL w1 B a κ np nf rp rf) (hc : Calm w1 w2) : BoxL w2 B a κ np nf rp rf :=
  ⟨Nat.lt_of_lt_of_le h.lt hc.size, Calm.at_ hc h.c0 h.lt, Calm.at_ hc h.c1 h.lt, Calm.at_ hc h.c2 h.lt, Calm.at_ hc h.c3 h.lt, Calm.at_ hc h.c4 h.lt⟩
theorem BoxL.new (w : World) (a : Pl) (κ : Int) (np nf : Nat) (rp rf : Bool) : BoxL (w.alloc (.cells #[.int .i64 κ, .slice a.AL np a.cl, .bool rp, .slice a.AR nf a.cr, .bool rf] 35)) w.heap.size a κ np nf rp rf :=
  ⟨by simp, by simp [go_sem], by simp [go_sem], by simp [go_sem], by simp [go_sem], by simp [go_sem]⟩

theorem imported_c (a : Pl) (κ : Int) (np nf : Nat) (rp rf : Bool) (w : World) :
    Calls Tryd.prog 46 #[.agg #[.int .i64 κ, .slice a.AL np a.cl, .bool rp, .slice a.AR nf a.cr, .bool rf]] w fun e w' => e = .returned (.agg #[.bool false, .slice a.AL np a.cl, .bool rp, .slice a.AR nf a.cr, .bool rf]) ∧ Calm w w' := by
  go_enter Tryd.func46, Tryd.ntmps46
  go_wp2
  refine bodyPost_ret (v := .agg #[.bool false, .slice a.AL np a.cl, .bool rp, .slice a.AR nf a.cr, .bool rf]) ?_ rfl ⟨rfl, ?_⟩
  · rw [results_cell1 rfl]
    go_simp
  · exact ((Calm.refl w).alloc _).alloc _

set_option maxHeartbeats 4000000 in
theorem pathLine_c (x : Line) (a : Pl) (κ : Int) (np nf : Nat) (rp rf : Bool) (w : World) (hr : RuleU w a x.rule) (hκ : x.kind = κ) (hnp : x.path.parts.length = np) (hnf : x.frm.parts.length = nf) (hrp : x.path.rest = rp) (hrf : x.frm.rest = rf) :
    Calls Tryd.prog 69 #[.agg #[.int .i64 κ, .slice a.AL np a.cl, .bool rp, .slice a.AR nf a.cr, .bool rf]] w fun e w' => e = .returned (.bool (lineOk x)) ∧ Calm w w' := by
  obtain ⟨w1, hw1⟩ : ∃ w1, w1 = w.alloc (.cells #[.int .i64 κ, .slice a.AL np a.cl, .bool rp, .slice a.AR nf a.cr, .bool rf] 35) := ⟨_, rfl⟩
  have hc1 : Calm w w1 := by rw [hw1]; exact (Calm.refl w).alloc _
  have hbox : BoxL w1 w.heap.size a κ np nf rp rf := by rw [hw1]; exact BoxL.new w a κ np nf rp rf
  have hru := hr.calm hc1
  obtain ⟨v, hv⟩ : ∃ v, patErr x.path = v := ⟨_, rfl⟩
  have KP : Hid (Calls Tryd.prog 83 #[.agg #[.slice a.AL np a.cl, .bool rp]] w1 fun e w' => e = .returned (.int .i64 v) ∧ Calm w1 w') := by
    have := pcheckG_c x.path a.AL a.cl w1 hru.lr.toG hru.lroom hru.lcap
    rw [hnp, hrp, hv] at this
    exact this
  obtain ⟨rr, hrr⟩ : ∃ rr, ruleErr x.rule = rr := ⟨_, rfl⟩
  have KR : Hid (∀ W, Calm w1 W → Calls Tryd.prog 67 #[.agg #[.bool false, .slice a.AL np a.cl, .bool rp, .slice a.AR nf a.cr, .bool rf]] W fun e w' => e = .returned (.int .i64 rr) ∧ Calm W w') := fun W hW => by
    have h1 := rule_c x.rule a W (hru.calm hW)
    unfold ruleV at h1
    have e1 : x.rule.left.parts.length = np := hnp
    have e2 : x.rule.right.parts.length = nf := hnf
    have e3 : x.rule.left.rest = rp := hrp
    have e4 : x.rule.right.rest = rf := hrf
    rw [e1, e2, e3, e4, hrr] at h1
    exact h1
  have HW := Lib.hid hw1
  have HC := Lib.hid hc1
  have HB := Lib.hid hbox
  have HRU := Lib.hid hru
  have HX := Lib.hid (And.intro hκ (And.intro hnp (And.intro hnf (And.intro hrp hrf))))
  have HV := Lib.hid hv
  have HR := Lib.hid hrr
  have b1 := hbox.c1
  have b2 := hbox.c2
  rw [hw1] at b1 b2
  have hlk : Hid (lineOk x = (v == 0 && x.path.parts.getD 0 [] == viewN && (if κ = 3 then rr == 0 && x.frm.parts.getD 0 [] != viewN else (κ == 1 || κ == 2 || κ == 4) && x.frm.parts.isEmpty && !rf))) := by
    show _ = _
    unfold lineOk
    rw [hv, hrr, hκ, hrf]
  clear hw1 hc1 hbox hr hru hκ hnp hnf hrp hrf hv hrr
  go_enter Tryd.func69, Tryd.ntmps69
  by_cases hv0 : v = 0
  · subst hv0
    obtain ⟨b, o, l, hA, hb, hl, hll, hcell⟩ := HRU.out.lr.get (k := 0) (by have := (patErr_form HV.out).1; exact this)
    obtain ⟨AL, cl, AR, cr⟩ := a
    simp only at hA
    subst hA
    rw [Nat.add_zero] at hcell
    have hnp0 : 0 < np := by have := (patErr_form HV.out).1; rw [HX.out.2.1] at this; exact this
    have hl2 : x.path.parts.getD 0 [] = l := by
      have e : x.path.parts[0]? = some l := hl
      simp [List.getD_eq_getElem?_getD, e]
    obtain ⟨z, hz⟩ : ∃ z, x.frm.parts.getD 0 [] = z := ⟨_, rfl⟩
    have he : x.frm.parts.isEmpty = decide (nf = 0) := by
      rw [← HX.out.2.2.1]
      cases x.frm.parts <;> simp
    have hlk2 : Hid (lineOk x = (l == [118, 105, 101, 119] && (if κ = 3 then rr == 0 && z != [118, 105, 101, 119] else (κ == 1 || κ == 2 || κ == 4) && decide (nf = 0) && !rf))) := by
      show _ = _
      rw [hlk.out, hl2, hz, he]
      rfl
    have HZ := Lib.hid hz
    have HB' := HB
    clear hlk hl2 hz he hl hll
    by_cases h3 : κ = 3 ∧ rr = 0
    · obtain ⟨rfl, rfl⟩ := h3
      obtain ⟨b', o', l', hA', hb', hl', hll', hcell'⟩ := HRU.out.rr.get (k := 0) (by have := (patErr_form (ruleErr_twin.1 HR.out).rp).1; exact this)
      simp only at hA'
      subst hA'
      rw [Nat.add_zero] at hcell'
      have hnf0 : 0 < nf := by have := (patErr_form (ruleErr_twin.1 HR.out).rp).1; rw [show x.rule.right.parts.length = nf from HX.out.2.2.1] at this; exact this
      obtain rfl : z = l' := by
        have e : x.frm.parts[0]? = some l' := hl'
        rw [← HZ.out]
        simp [List.getD_eq_getElem?_getD, e]
      clear hl' hll'
      simp only [if_true] at hlk2
      go_wp2_with (first
        | (go_at_call 83; rw [← HW.out]; refine KP.out.mono ?_; rintro e w2 ⟨rfl, hc2⟩; have d0 := (HB.out.calm hc2).c0; have d1 := (HB.out.calm hc2).c1; have d2 := (HB.out.calm hc2).c2; have d3 := (HB.out.calm hc2).c3; have d4 := (HB.out.calm hc2).c4; have dl := Calm.at_ hc2 hcell hb)
        | (go_at_call 46; refine (imported_c ⟨some ⟨b, o, none⟩, cl, some ⟨b', o', none⟩, cr⟩ 3 np nf rp rf _).mono ?_; rintro e w3 ⟨rfl, hc3⟩)
        | (go_at_call 67; refine (KR.out w3 (hc2.trans hc3)).mono ?_; rintro e w4 ⟨rfl, hc4⟩; have hc24 := hc2.trans (hc3.trans hc4); have z0 := (HB.out.calm hc24).c0; have z1 := (HB.out.calm hc24).c1; have z2 := (HB.out.calm hc24).c2; have z3 := (HB.out.calm hc24).c3; have z4 := (HB.out.calm hc24).c4; have zl := Calm.at_ hc24 hcell' hb'))
      all_goals first
        | (go_ret; exact ⟨ret_bool (by rw [hlk2.out]; first | (simp [*]; done) | (simp_all; done) | (simp_all [bne]; done)), HC.out.trans hc2⟩)
        | (go_ret; exact ⟨ret_bool (by rw [hlk2.out]; first | (simp [*]; done) | (simp [*, bne]; done) | (simp_all [bne]; done)), HC.out.trans hc24⟩)
    · by_cases h4 : κ = 3
      · subst h4
        have hr0 : ¬ rr = 0 := fun e => h3 ⟨rfl, e⟩
        have hrb : (rr == 0) = false := by simpa using hr0
        simp only [if_true] at hlk2
        clear h3
        go_wp2_with (first
          | (go_at_call 83; rw [← HW.out]; refine KP.out.mono ?_; rintro e w2 ⟨rfl, hc2⟩; have d0 := (HB.out.calm hc2).c0; have d1 := (HB.out.calm hc2).c1; have d2 := (HB.out.calm hc2).c2; have d3 := (HB.out.calm hc2).c3; have d4 := (HB.out.calm hc2).c4; have dl := Calm.at_ hc2 hcell hb)
          | (go_at_call 46; refine (imported_c ⟨some ⟨b, o, none⟩, cl, AR, cr⟩ 3 np nf rp rf _).mono ?_; rintro e w3 ⟨rfl, hc3⟩)
          | (go_at_call 67; refine (KR.out w3 (hc2.trans hc3)).mono ?_; rintro e w4 ⟨rfl, hc4⟩; have hc24 := hc2.trans (hc3.trans hc4)))
        all_goals first
          | (go_ret; exact ⟨ret_bool (by rw [hlk2.out]; first | (simp [*]; done) | (simp_all; done) | (simp_all [bne]; done)), HC.out.trans hc2⟩)
          | (go_ret; exact ⟨ret_bool (by rw [hlk2.out]; first | (simp [*]; done) | (simp [*, bne]; done) | (simp_all [bne]; done)), HC.out.trans hc24⟩)
      · have h3b : (κ == 3) = false := by simpa using h4
        rw [if_neg h4] at hlk2
        clear h3
        go_wp2_with (go_at_call 83; rw [← HW.out]; refine KP.out.mono ?_; rintro e w2 ⟨rfl, hc2⟩; have d0 := (HB.out.calm hc2).c0; have d1 := (HB.out.calm hc2).c1; have d2 := (HB.out.calm hc2).c2; have d3 := (HB.out.calm hc2).c3; have d4 := (HB.out.calm hc2).c4; have dl := Calm.at_ hc2 hcell hb)
        all_goals first
          | (go_ret; exact ⟨ret_bool (by rw [hlk2.out]; first | (simp [*]; done) | (simp_all; done) | (simp_all [bne]; done)), HC.out.trans hc2⟩)
  · have hvb : (v != 0) = true := by simpa using hv0
    have hE : Hid (lineOk x = false) := by
      show _ = _
      rw [hlk.out]
      simp [hv0]
    clear hv0
    go_wp2_with (go_at_call 83; rw [← HW.out]; refine KP.out.mono ?_; rintro e w2 ⟨rfl, hc2⟩)
    go_ret
    exact ⟨ret_bool hE.out.symm, HC.out.trans hc2⟩
end Go.Proofs.YtlmclpbkhhgekaaDoor
set_option linter.unusedVariables false
set_option linter.unusedSimpArgs false
namespace Go.Proofs.YtlmclpbkhhgekaaDoor
open Go Go.RowKit Sy

theorem all_to {α : Type} {v : List α} {n : Nat} {P : α → Prop} (hn : v.length = n) (h : ∀ j q, j < n → v[j]? = some q → P q) : ∀ r ∈ v, P r := fun r hr => by
  obtain ⟨j, hj, e⟩ := List.mem_iff_getElem.1 hr
  exact h j r (by omega) (by rw [← e]; exact List.getElem?_eq_getElem hj)
theorem snoc_at {α : Type} {v : List α} {k : Nat} {r : α} {P : α → Prop} (h : v[k]? = some r) (hr : P r) (hg : ∀ j q, j < k → v[j]? = some q → P q) : ∀ j q, j < k + 1 → v[j]? = some q → P q := fun j q hj hq => by
  by_cases e : j = k
  · subst e
    rw [h] at hq
    cases hq
    exact hr
  · exact hg j q (by omega) hq

/-- A box of a stream. -/
structure BoxS (w1 : World) (B : Nat) (nm pa : Str) (PA : Option Addr) (np pc : Nat) : Prop where
  lt : B < w1.heap.size
  c0 : w1.cell? ⟨B, 0, none⟩ = some (.string (bs nm))
  c1 : w1.cell? ⟨B, 1, none⟩ = some (.string (bs pa))
  c2 : w1.cell? ⟨B, 2, none⟩ = some (.slice PA np pc)
theorem BoxS.calm {w1 w2 : World} {B : Nat} {nm pa : Str} {PA : Option Addr} {np pc : Nat} (h : BoxS w1 B nm pa PA np pc) (hc : Calm w1 w2) : BoxS w2 B nm pa PA np pc :=
  ⟨Nat.lt_of_lt_of_le h.lt hc.size, Calm.at_ hc h.c0 h.lt, Calm.at_ hc h.c1 h.lt, Calm.at_ hc h.c2 h.lt⟩
theorem BoxS.new (w : World) (nm pa : Str) (PA : Option Addr) (np pc : Nat) : BoxS (w.alloc (.cells #[.string (bs nm), .string (bs pa), .slice PA np pc] 38)) w.heap.size nm pa PA np pc :=
  ⟨by simp, by simp [go_sem], by simp [go_sem], by simp [go_sem]⟩

set_option maxHeartbeats 4000000 in
theorem itself_c (ss : List Strm) (F : Nat) (A : Option Addr) (n c i : Nat) (w : World) (hf : ForestAt w F A n c ss) (hi : i < n) :
    Calls Tryd.prog 48 #[.pointer (some ⟨F, 0, none⟩), .int .i64 i] w fun e w' => e = .returned (.int .i64 (ownErr ss i)) ∧ Calm w w' := by
  obtain ⟨B, hB, hI⟩ := hf.idx
  have hn := hf.hn
  have hlen := hf.strms.len
  rw [hn] at hlen
  obtain ⟨b, o, s, PA, pc, rfl, hb, hr, hat, hsu⟩ := hf.strms.get (k := i) (by rw [hn]; exact hi)
  have hlt := hf.lt
  have f0 := hf.c0
  have c0 := hat.c0
  have c1 := hat.c1
  have c2 := hat.c2
  have hs := strm_at hr
  obtain ⟨nm, hnm⟩ : ∃ nm, s.name = nm := ⟨_, rfl⟩
  obtain ⟨pa, hpa⟩ : ∃ pa, s.parent = pa := ⟨_, rfl⟩
  obtain ⟨np, hnp⟩ : ∃ np, s.paths.length = np := ⟨_, rfl⟩
  have hnl := hsu.name
  rw [hnm] at c0 hnl
  rw [hpa] at c1
  rw [hnp] at c2
  have hE : Hid (ownErr ss i = if comp nm = false ∨ 24 < nm.length ∨ nm = viewN then 81 else if (findI ss nm).getD 0 < i then 82 else if s.paths.all lineOk = false then 85 else if 12 < np then 80 else 0) := by
    show _ = _
    unfold ownErr
    rw [hs, hnm, hnp]
  obtain ⟨w1, hw1⟩ : ∃ w1, w1 = w.alloc (.cells #[.string (bs nm), .string (bs pa), .slice PA np pc] 38) := ⟨_, rfl⟩
  have hc1 : Calm w w1 := by rw [hw1]; exact (Calm.refl w).alloc _
  have hbox : BoxS w1 w.heap.size nm pa PA np pc := by rw [hw1]; exact BoxS.new w nm pa PA np pc
  obtain ⟨cv, hcv⟩ : ∃ cv, comp nm = cv := ⟨_, rfl⟩
  have hcomp : Hid (∀ W, Calls Tryd.prog 64 #[.string (bs nm)] W fun e w' => e = .returned (.bool cv) ∧ W = w') := fun W => comp_v nm cv W (by omega) hcv
  have HW := Lib.hid hw1
  have HC := Lib.hid hc1
  have HB := Lib.hid hbox
  have HCv := Lib.hid hcv
  have HL := Lib.hid hsu.lines
  have HNp := Lib.hid hnp
  have HI := Lib.hid hI
  have HBc := Lib.hid hB
  have k0 := hbox.c0
  have hnpl := hsu.lines.len
  rw [hnp] at hnpl
  have hbs := bs_size nm
  clear hs hnm hpa hnp hat hsu hr hf hn hw1 hc1 hbox hcv hI hB
  cases cv with
  | false =>
    have hE2 : Hid (ownErr ss i = 81) := by
      show _ = _
      rw [hE.out, if_pos (.inl HCv.out)]
    clear hE
    go_enter Tryd.func48, Tryd.ntmps48
    go_wp2_with (first | (go_at_call 64; rw [← HW.out]; refine (hcomp.out _).mono ?_; rintro e w2 ⟨rfl, rfl⟩))
    go_ret
    exact ⟨ret_int hE2.out.symm, HC.out⟩
  | true =>
    by_cases h24 : 24 < nm.length
    · have hE2 : Hid (ownErr ss i = 81) := by
        show _ = _
        rw [hE.out, if_pos (.inr (.inl h24))]
      clear hE
      go_enter Tryd.func48, Tryd.ntmps48
      go_wp2_with (first | (go_at_call 64; rw [← HW.out]; refine (hcomp.out _).mono ?_; rintro e w2 ⟨rfl, rfl⟩))
      go_ret
      exact ⟨ret_int hE2.out.symm, HC.out⟩
    · by_cases hvw : nm = viewN
      · have hvb : (nm == [118, 105, 101, 119]) = true := by simpa [viewN] using hvw
        have hE2 : Hid (ownErr ss i = 81) := by
          show _ = _
          rw [hE.out, if_pos (.inr (.inr hvw))]
        clear hE hvw
        go_enter Tryd.func48, Tryd.ntmps48
        go_wp2_with (first | (go_at_call 64; rw [← HW.out]; refine (hcomp.out _).mono ?_; rintro e w2 ⟨rfl, rfl⟩))
        go_ret
        exact ⟨ret_int hE2.out.symm, HC.out⟩
      · have hvb : (nm == [118, 105, 101, 119]) = false := by simpa [viewN] using hvw
        have hE2 : Hid (ownErr ss i = if (findI ss nm).getD 0 < i then 82 else if s.paths.all lineOk = false then 85 else if 12 < np then 80 else 0) := by
          show _ = _
          rw [hE.out, if_neg (fun h => h.elim (fun h => by rw [HCv.out] at h; cases h) (fun h => h.elim h24 hvw))]
        clear hE hvw
        obtain ⟨j, hj⟩ : ∃ j, (findI ss nm).getD 0 = j := ⟨_, rfl⟩
        rw [hj] at hE2
        have g0 := fun p : CalmTo w1 => p.cell (Calm.at_ HC.out HBc.out hlt) (Nat.lt_of_lt_of_le hlt HC.out.size)
        have g1 := fun p : CalmTo w1 => p.cell k0 HB.out.lt
        have g2 := fun p : CalmTo w1 => (HI.out.2 p.w nm (HC.out.trans p.h) hnl).2
        simp only [hj] at g2
        clear hj
        go_enter Tryd.func48, Tryd.ntmps48
        by_cases hji : j < i
        · have hE3 : Hid (ownErr ss i = 82) := by
            show _ = _
            rw [hE2.out, if_pos hji]
          clear hE2
          go_wp2_with (first | (go_at_call 64; rw [← HW.out]; refine (hcomp.out _).mono ?_; rintro e w2 ⟨rfl, rfl⟩))
          refine wp_region_calm (by kernel_rfl) (by kernel_rfl) ?_
          repeat (go_big_quiet_step (fail))
          refine wpQuiet_nil ?_
          intro w7 hc7
          go_wp2
          go_ret
          exact ⟨ret_int hE3.out.symm, HC.out.trans hc7⟩
        · have hE3 : Hid (ownErr ss i = if s.paths.all lineOk = false then 85 else if 12 < np then 80 else 0) := by
            show _ = _
            rw [hE2.out, if_neg hji]
          clear hE2
          go_wp2_with (first | (go_at_call 64; rw [← HW.out]; refine (hcomp.out _).mono ?_; rintro e w2 ⟨rfl, rfl⟩))
          refine wp_region_calm (by kernel_rfl) (by kernel_rfl) ?_
          repeat (go_big_quiet_step (fail))
          refine wpQuiet_nil ?_
          intro w7 hc7
          have k2 := (HB.out.calm hc7).c2
          have HC7 := Lib.hid hc7
          clear g0 g1 g2 hc7 k0
          go_wp2_with fail
          go_loopw [42] (fun q wr => ∃ k : Nat, k ≤ np ∧ q = .int .i64 k ∧ Hid (∀ j x, j < k → s.paths[j]? = some x → lineOk x = true) ∧ Hid (Calm w7 wr)) (fun q _ => np - (intOf q).toNat)
          case atStart => exact ⟨0, Nat.zero_le _, rfl, fun j x hj => absurd hj (Nat.not_lt_zero _), Calm.refl _⟩
          case round =>
            obtain ⟨k, hk, rfl, HG, HCr⟩ := hrel
            by_cases hkl : k < np
            · obtain ⟨b', o', x, a, rfl, hb', hx, hxa, hru⟩ := (HL.out.calm (HC.out.trans (HC7.out.trans HCr.out))).get (k := k) (by rw [HNp.out]; exact hkl)
              have c0 := hxa.c0
              have c1 := hxa.c1
              have c2 := hxa.c2
              have c3 := hxa.c3
              have c4 := hxa.c4
              obtain ⟨κ, h0⟩ : ∃ κ, x.kind = κ := ⟨_, rfl⟩
              obtain ⟨npp, h1⟩ : ∃ npp, x.path.parts.length = npp := ⟨_, rfl⟩
              obtain ⟨nf, h2⟩ : ∃ nf, x.frm.parts.length = nf := ⟨_, rfl⟩
              obtain ⟨rp, h3⟩ : ∃ rp, x.path.rest = rp := ⟨_, rfl⟩
              obtain ⟨rf, h4⟩ : ∃ rf, x.frm.rest = rf := ⟨_, rfl⟩
              obtain ⟨lo, hlo⟩ : ∃ lo, lineOk x = lo := ⟨_, rfl⟩
              have KL : Hid (∀ W, Calm wr W → Calls Tryd.prog 69 #[.agg #[.int .i64 κ, .slice a.AL npp a.cl, .bool rp, .slice a.AR nf a.cr, .bool rf]] W fun e w' => e = .returned (.bool lo) ∧ Calm W w') := fun W hW => by
                have := pathLine_c x a κ npp nf rp rf W (hru.calm hW) h0 h1 h2 h3 h4
                rw [hlo] at this
                exact this
              rw [h0] at c0
              rw [h1] at c1
              rw [h3] at c2
              rw [h2] at c3
              rw [h4] at c4
              have HX := Lib.hid hx
              have HLo := Lib.hid hlo
              clear hxa hru h0 h1 h2 h3 h4 hx hlo
              cases lo with
              | true =>
                go_wp2_with (go_at_call 69; refine (KL.out _ ((Calm.refl _).alloc _)).mono ?_; rintro e w8 ⟨rfl, hc8⟩)
                go_roundw
                case rel => exact ⟨k + 1, by omega, by go_num, snoc_at HX.out HLo.out HG.out, HCr.out.trans (((Calm.refl _).alloc _).trans hc8)⟩
                case measure => simp [intOf]; omega
              | false =>
                have hE4 : Hid (ownErr ss i = 85) := by
                  show _ = _
                  rw [hE3.out, if_pos]
                  rw [List.all_eq_false]
                  exact ⟨x, List.mem_of_getElem? HX.out, by rw [HLo.out]; decide⟩
                go_wp2_with (go_at_call 69; refine (KL.out _ ((Calm.refl _).alloc _)).mono ?_; rintro e w8 ⟨rfl, hc8⟩)
                go_ret
                exact ⟨ret_int hE4.out.symm, HC.out.trans (HC7.out.trans (HCr.out.trans (((Calm.refl _).alloc _).trans hc8)))⟩
            · obtain rfl : k = np := by omega
              have hE4 : Hid (ownErr ss i = if 12 < k then 80 else 0) := by
                show _ = _
                have hal : s.paths.all lineOk = true := List.all_eq_true.2 (all_to HNp.out HG.out)
                rw [hE3.out, if_neg (by rw [hal]; decide)]
              have k3 := (HB.out.calm (HC7.out.trans HCr.out)).c2
              by_cases h12 : 12 < k
              · go_wp2
                go_ret
                exact ⟨by rw [hE4.out, if_pos h12]; rfl, HC.out.trans (HC7.out.trans HCr.out)⟩
              · go_wp2
                go_ret
                exact ⟨by rw [hE4.out, if_neg h12]; rfl, HC.out.trans (HC7.out.trans HCr.out)⟩

set_option maxHeartbeats 1000000 in
theorem parmiss_c (ss : List Strm) (F : Nat) (A : Option Addr) (n c i : Nat) (w : World) (hf : ForestAt w F A n c ss) (hi : i < n) :
    Calls Tryd.prog 49 #[.pointer (some ⟨F, 0, none⟩), .int .i64 i] w fun e w' => e = .returned (.int .i64 (parErr ss i)) ∧ Calm w w' := by
  have hk := parent_c ss F A n c i w hf hi
  have hn := hf.hn
  have hlen := hf.strms.len
  rw [hn] at hlen
  obtain ⟨b, o, s, PA, pc, rfl, hb, hr, hat, hsu⟩ := hf.strms.get (k := i) (by rw [hn]; exact hi)
  have hlt := hf.lt
  have HF0 := Lib.hid hf.c0
  have HC1 := Lib.hid hat.c1
  have hs := strm_at hr
  obtain ⟨pi, hpi⟩ : ∃ pi, parentI ss i = pi := ⟨_, rfl⟩
  have hE : Hid (parErr ss i = if pi = none ∧ s.parent ≠ [] then 83 else 0) := by
    show _ = _
    unfold parErr
    rw [hs, hpi]
  rw [hpi] at hk
  unfold parV at hk
  obtain ⟨pa, hpa⟩ : ∃ pa, s.parent = pa := ⟨_, rfl⟩
  rw [hpa] at HC1 hE
  clear hs hat hsu hr hf hn hpi hpa
  go_enter Tryd.func49, Tryd.ntmps49
  cases pi with
  | some p =>
    simp only [Option.getD_some, Option.isSome_some] at hk
    go_wp2_with (go_at_call 43; refine hk.mono ?_; rintro e w1 ⟨rfl, hc1⟩)
    go_ret
    exact ⟨ret_int (by rw [hE.out]; simp), hc1⟩
  | none =>
    simp only [Option.getD_none, Option.isSome_none] at hk
    cases pa with
    | nil =>
      have e0 : Hid (bs [] = ⟨#[]⟩) := rfl
      go_wp2_with (go_at_call 43; refine hk.mono ?_; rintro e w1 ⟨rfl, hc1⟩; have f0 := Calm.at_ hc1 HF0.out hlt; have c1 := Calm.at_ hc1 HC1.out hb; rw [e0.out] at c1)
      go_ret
      exact ⟨ret_int (by rw [hE.out]; simp), hc1⟩
    | cons x t =>
      have hne : (x :: t).isEmpty = false := rfl
      have hE2 : Hid (parErr ss i = 83) := by
        show _ = _
        rw [hE.out, if_pos ⟨rfl, by simp⟩]
      clear hE
      obtain ⟨pa, hpa⟩ : ∃ pa, x :: t = pa := ⟨_, rfl⟩
      rw [hpa] at HC1 hne
      clear hpa
      go_wp2_with (go_at_call 43; refine hk.mono ?_; rintro e w1 ⟨rfl, hc1⟩; have f0 := Calm.at_ hc1 HF0.out hlt; have c1 := Calm.at_ hc1 HC1.out hb)
      go_ret
      exact ⟨ret_int hE2.out.symm, hc1⟩

theorem above_len {ss : List Strm} {i : Nat} (h : ss.length ≤ 1048577) : (above ss i).length ≤ 1048577 := Nat.le_trans (aboveN_len _ _) h

set_option maxHeartbeats 1000000 in
theorem deep_c (ss : List Strm) (F : Nat) (A : Option Addr) (n c i : Nat) (w : World) (hf : ForestAt w F A n c ss) (hi : i < n) :
    Calls Tryd.prog 51 #[.pointer (some ⟨F, 0, none⟩), .int .i64 i] w fun e w' => e = .returned (.int .i64 (deepErr ss i)) ∧ Calm w w' := by
  have hk := above_c ss F A n c i w hf hi
  have hlen := above_len (i := i) hf.strms.len
  have hE : Hid (deepErr ss i = if 6 < 1 + (above ss i).length then 80 else 0) := rfl
  obtain ⟨l, hl⟩ : ∃ l, above ss i = l := ⟨_, rfl⟩
  rw [hl] at hk hlen hE
  obtain ⟨m, hm⟩ : ∃ m, l.length = m := ⟨_, rfl⟩
  have hk2 : Calls Tryd.prog 36 #[.pointer (some ⟨F, 0, none⟩), .int .i64 i] w fun e w' => (∃ A2 c2, e = .returned (.slice A2 m c2)) ∧ Calm w w' := hk.mono fun e w' ⟨⟨A2, c2, h1, _⟩, h2⟩ => ⟨⟨A2, c2, by rw [h1, hm]⟩, h2⟩
  rw [hm] at hE hlen
  clear hk hf hl hm
  go_enter Tryd.func51, Tryd.ntmps51
  by_cases h6 : 6 < 1 + m
  · have h6' : (6 : Int) < 1 + (m : Int) := by omega
    go_wp2_with (go_at_call 36; refine hk2.mono ?_; rintro e w1 ⟨⟨VA, vc, rfl⟩, hc1⟩)
    go_ret
    exact ⟨ret_int (by rw [hE.out, if_pos h6]), hc1⟩
  · have h6' : ¬ (6 : Int) < 1 + (m : Int) := by omega
    go_wp2_with (go_at_call 36; refine hk2.mono ?_; rintro e w1 ⟨⟨VA, vc, rfl⟩, hc1⟩)
    go_ret
    exact ⟨ret_int (by rw [hE.out, if_neg h6]), hc1⟩

set_option maxHeartbeats 1000000 in
theorem cycle_c (ss : List Strm) (F : Nat) (A : Option Addr) (n c i : Nat) (w : World) (hf : ForestAt w F A n c ss) (hi : i < n) :
    Calls Tryd.prog 50 #[.pointer (some ⟨F, 0, none⟩), .int .i64 i] w fun e w' => e = .returned (.int .i64 (cycErr ss i)) ∧ Calm w w' := by
  have hk := above_c ss F A n c i w hf hi
  have hlen := above_len (i := i) hf.strms.len
  have hnn : n ≤ 1048577 := by rw [← hf.hn]; exact hf.strms.len
  have hE : Hid (cycErr ss i = if i ∈ above ss i then 84 else 0) := rfl
  obtain ⟨l, hl⟩ : ∃ l, above ss i = l := ⟨_, rfl⟩
  rw [hl] at hk hlen hE
  obtain ⟨m, hm⟩ : ∃ m, l.length = m := ⟨_, rfl⟩
  unfold AboveEnd at hk
  rw [hm] at hk hlen
  have HM := Lib.hid hm
  clear hf hl hm
  go_enter Tryd.func50, Tryd.ntmps50
  go_wp2_with (go_at_call 36; refine hk.mono ?_; rintro e w1 ⟨⟨VA, vc, rfl, hia⟩, hc1⟩)
  have HI := Lib.hid hia
  have HC1 := Lib.hid hc1
  clear hia hc1 hk
  go_loopw [11] (fun q wr => ∃ k : Nat, k ≤ m ∧ q = .int .i64 k ∧ Hid (∀ j x, j < k → l[j]? = some x → x ≠ i) ∧ Hid (Calm w1 wr)) (fun q _ => m - (intOf q).toNat)
  case atStart => exact ⟨0, Nat.zero_le _, rfl, fun j x hj => absurd hj (Nat.not_lt_zero _), Calm.refl _⟩
  case round =>
    obtain ⟨k, hk, rfl, HG, HC⟩ := hrel
    by_cases hlt : k < m
    · obtain ⟨x, hx⟩ : ∃ x, l[k]? = some x := ⟨_, List.getElem?_eq_getElem (by rw [HM.out]; exact hlt)⟩
      obtain ⟨g, rfl, hg, hat⟩ := HI.out.calm HC.out (by rw [HM.out]; omega)
      have c0 := hat k x hx
      have HX := Lib.hid hx
      clear hat hx
      by_cases hxi : x = i
      · subst hxi
        have hE2 : Hid (cycErr ss x = 84) := by
          show _ = _
          rw [hE.out, if_pos (List.mem_of_getElem? HX.out)]
        go_wp2
        go_ret
        exact ⟨ret_int hE2.out.symm, HC1.out.trans HC.out⟩
      · have hxb : ((x : Int) == (i : Int)) = false := by simpa using (by omega : ¬ (x : Int) = i)
        have HXI := Lib.hid hxi
        clear hxi
        go_wp2
        go_roundw
        case rel => exact ⟨k + 1, by omega, by go_num, snoc_at HX.out HXI.out HG.out, HC.out⟩
        case measure => simp [intOf]; omega
    · obtain rfl : k = m := by omega
      have hE2 : Hid (cycErr ss i = 0) := by
        show _ = _
        rw [hE.out, if_neg]
        intro hmem
        exact all_to HM.out HG.out i hmem rfl
      go_wp2
      go_ret
      exact ⟨by rw [hE2.out]; rfl, HC1.out.trans HC.out⟩
end Go.Proofs.YtlmclpbkhhgekaaDoor
