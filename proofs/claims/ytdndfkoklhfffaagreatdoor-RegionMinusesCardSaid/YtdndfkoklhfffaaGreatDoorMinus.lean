/- Walks: slices.Clone of patterns; rows of regions. -/
import Derived.Test.YtdndfkoklhfffaaGreatDoorGMeetV
set_option linter.unusedVariables false
set_option linter.unusedSimpArgs false
namespace Go.Proofs.YtdndfkoklhfffaaGreatDoor
open Go Go.RowKit Sy

theorem own_empty {w : World} : OwnX encP 2 24 w (w.alloc (.cells #[] 24)) (.slice (some ⟨w.heap.size, 0, none⟩) 0 0) [] :=
  ⟨(Calm.refl w).alloc _, World.ownsRow_made (base := w.heap.size) (e := 24) (size := 2) w #[] 0 (Nat.le_refl _) (by decide) rfl⟩
def CloneP (w : World) (l : List NewP) (e : Ending) (w' : World) : Prop := ∃ A c, e = .returned (.slice A l.length c) ∧ OwnX encP 2 24 w w' (.slice A l.length c) l
set_option maxRecDepth 100000 in
set_option maxHeartbeats 2000000 in
theorem clonep_c (l : List NewP) (A : Option Addr) (n c : Nat) (w : World) (hX : ReadX encP 2 w A l) (hn : l.length = n) (hle : n ≤ 100000) :
    Calls Tryz.prog 30 #[.slice A n c] w fun e w' => CloneP w l e w' := by
  have q25 : ∀ (w : World) (a : Option Addr) (n c n' c' : Nat), (binOp .eql 25 (.slice a n c) (.slice none n' c')).run Tryz.prog w = .ok (.bool a.isNone) w := fun w a n c n' c' => Lib.run_eql_slice_nil w _ _ a n c n' c' Tryz.underlying25
  cases A with
  | none =>
    have h0 : l = [] := Classical.byContradiction fun hne => by
      obtain ⟨b, o, hA, _⟩ := hX hne
      cases hA
    subst h0
    obtain rfl : 0 = n := by simpa using hn
    go_enter Tryz.func30, Tryz.ntmps30
    go_wp2
    go_ret
    exact ⟨none, 0, rfl, OwnX.nil (Calm.refl w)⟩
  | some ad =>
    have HO := Lib.hid (own_empty (w := w))
    have HR := Lib.hid (ReadX.calm (enc := encP) hX ((Calm.refl w).alloc (.cells #[] 24)))
    have HN := Lib.hid hn
    clear hX hn
    go_enter Tryz.func30, Tryz.ntmps30
    go_wp2_with (at_builtin; refine wpList_append_ps rfl (.tmp 5) (.tmp 6) rfl w _ [] l rfl HO.out (some ad) n c rfl HN.out HR.out (by simp; omega) ?_; intro v6 w6 hown6 hgr6; obtain ⟨A6, c6, hv6⟩ := hown6.len_shape; subst hv6)
    go_ret
    rw [List.nil_append] at hown6
    exact ⟨A6, c6, rfl, hown6⟩

/-! ### rows of regions -/
structure NewG where
  A : Option Addr
  c : Nat
  HA : Option Addr
  hc : Nat
  g : Reg
deriving Inhabited
def encG (x : NewG) : List Value := [.slice x.A x.g.b.parts.length x.c, .bool x.g.b.rest, .slice x.HA x.g.hs.length x.hc]
theorem encG_len (x : NewG) : (encG x).length = 3 := rfl
theorem encG_one (x : NewG) : ∀ u ∈ encG x, u.oneCell' = true := by simp [encG, Value.oneCell']
def NewG.ok (w : World) (B : Nat) (x : NewG) : Prop := RegN w B x.A x.c x.HA x.hc x.g
theorem PatsN.own {w w' : World} {B : Nat} {A : Option Addr} {c : Nat} {ps : List Pat} (h : PatsN w B A c ps) {B0 n K : Nat} {v : Value} {T : TypeId} {xs : List Value} (hT : 24 ≠ T) (hS : 9 ≠ T) (hown : w.ownsRow B0 T K v n xs) (hg : w.grownBy w' v.ownBlock) : PatsN w' B A c ps := by
  obtain ⟨l, h1, h2, h3⟩ := h.ex
  refine ⟨⟨l, h1, ?_, fun x hx => (h3 x hx).own hS hown hg⟩, h.room, h.cap⟩
  rcases h2 with h2 | ⟨g, hA, hgB, hr⟩
  · exact .inl h2
  · refine .inr ⟨g, hA, hgB, hr.grown hg fun e => ?_⟩
    obtain ⟨cs, hh⟩ := hr.kind
    rcases hown.2 with ⟨rfl, _⟩ | ⟨g', cap, cur, rfl, _, hgh, _⟩
    · simp [Value.ownBlock] at e
    · have e2 : g = g' := by simpa [Value.ownBlock] using e
      rw [e2, hgh] at hh
      injection hh with hh
      injection hh with _ ht
      exact hT ht.symm
theorem RegN.own {w w' : World} {B : Nat} {A : Option Addr} {c : Nat} {HA : Option Addr} {hc : Nat} {g : Reg} (h : RegN w B A c HA hc g) {B0 n K : Nat} {v : Value} {T : TypeId} {xs : List Value} (hT : 24 ≠ T) (hS : 9 ≠ T) (hown : w.ownsRow B0 T K v n xs) (hg : w.grownBy w' v.ownBlock) : RegN w' B A c HA hc g := ⟨h.base.own hS hown hg, h.holes.own hT hS hown hg⟩
theorem info_reg : (Tryz.prog.info? 27).map (fun i => (i.zero, i.size, i.bytes)) = some (some (.agg #[.slice none 0 0, .bool false, .slice none 0 0]), 3, 56) := by kernel_rfl
theorem run_append_g {w0 w : World} {v : Value} {l m : List NewG} {A : Option Addr} {n c : Nat} (ty : TypeId) (hown : OwnX encG 3 27 w0 w v l) (hm : m.length = n) (hrd : ReadX encG 3 w A m) (hl : l.length + n ≤ 1000000) :
    ∃ v' w', (Builtin.append_ #[34, 34] ty #[v, .slice A n c]).run Tryz.prog w = .ok v' w' ∧ OwnX encG 3 27 w0 w' v' (l ++ m) ∧ w.grownBy w' v.ownBlock := by
  obtain ⟨i0, hi0, hz0, hz1, hz2⟩ := info_parts info_reg
  exact run_append_xs (P := Tryz.prog) (ty := ty) (c := c) Tryz.underlying34 hi0 hz0 hz1 hz2 rfl (by decide) encG_len encG_one hown hm hrd hl (by decide)
theorem step_append_g {ops : Array Oper} {o : Oper} {a : Act} {w : World} {K : Act → World → Prop} {Q : Exit → Act → World → Prop} {E : Prop}
    (hg : o.guard = none) (s x : Operand) (hop : o.op = Op.call { callee := Callee.builtin Builtin.append, args := #[s, x], argTypes := #[34, 34] })
    (w0 : World) (v : Value) (l m : List NewG) (hs : a.eval s = v) (hown : OwnX encG 3 27 w0 w v l) (A : Option Addr) (n c : Nat) (hx : a.eval x = .slice A n c) (hm : m.length = n)
    (hrd : ReadX encG 3 w A m) (hl : l.length + n ≤ 1000000)
    (hK : ∀ v' w', OwnX encG 3 27 w0 w' v' (l ++ m) → w.grownBy w' v.ownBlock → K (a.put o.dst v') w') :
    if Region.wanted o (yielded ops a.tmps) = true then Oper.wp Tryz.prog o a w K Q else E := by
  have hw : Region.wanted o (yielded ops a.tmps) = true := by simp [Region.wanted, hg]
  rw [if_pos hw]
  obtain ⟨v', w', hr, h2, h3⟩ := run_append_g (c := c) o.type hown hm hrd hl
  unfold Oper.wp
  simp [execOp, hop, resolve, invoke, builtin, hs, hx, Result.andThen]
  rw [hr]
  exact hK v' w' h2 h3
theorem wpList_append_g {ops : Array Oper} {rest : List Oper} {o : Oper} {a : Act} {Q : Exit → Act → World → Prop} {w : World} (hgd : o.guard = none) (s x : Operand)
    (ho : o.op = .call { callee := .builtin .append, args := #[s, x], argTypes := #[34, 34] }) (w0 : World) (v : Value) (l m : List NewG) (hs : a.eval s = v) (hown : OwnX encG 3 27 w0 w v l) (A : Option Addr) (n c : Nat) (hx : a.eval x = .slice A n c) (hm : m.length = n)
    (hrd : ReadX encG 3 w A m) (hl : l.length + n ≤ 1000000)
    (h : ∀ v' w', OwnX encG 3 27 w0 w' v' (l ++ m) → w.grownBy w' v.ownBlock → wpList Tryz.prog ops Q rest (a.put o.dst v') w') : wpList Tryz.prog ops Q (o :: rest) a w := by
  refine wpList_plain hgd fun _ hK => ?_
  obtain ⟨v', w', hr, h2, h3⟩ := run_append_g (c := c) o.type hown hm hrd hl
  unfold Oper.wp execOp
  simp only [ho, resolve, invoke, builtin, Sem.run_bind, Sem.run_pure, Result.andThen_ok, List.map_toArray, List.map_cons, List.map_nil, hs, hx]
  rw [hr]
  exact hK _ _ (h v' w' h2 h3)
theorem read_newG {w : World} {n : Nat} (y : NewG) (h : w.heap.size = n) : ReadX encG 3 (w.alloc (.cells #[.slice y.A y.g.b.parts.length y.c, .bool y.g.b.rest, .slice y.HA y.g.hs.length y.hc] 27)) (some ⟨n, 0, none⟩) [y] := fun _ => by
  refine ⟨n, 0, rfl, by rw [← h]; simp [go_sem], fun k x hk i u hu => ?_⟩
  have h0 : k = 0 := by
    have := (List.getElem?_eq_some_iff.1 hk).1
    simp at this
    exact this
  subst h0
  obtain rfl : y = x := by simpa using hk
  subst h
  rw [cell_of_row _ w.heap.size _ _ _ _ (heap_alloc_new w _)]
  simpa [encG] using hu
theorem own_litG {w : World} (y : NewG) : OwnX encG 3 27 w (w.alloc (.cells #[.slice y.A y.g.b.parts.length y.c, .bool y.g.b.rest, .slice y.HA y.g.hs.length y.hc] 27)) (.slice (some ⟨w.heap.size, 0, none⟩) 1 1) [y] :=
  ⟨(Calm.refl w).alloc _, by
    have := World.ownsRow_lit (base := w.heap.size) (e := 27) (size := 3) w #[.slice y.A y.g.b.parts.length y.c, .bool y.g.b.rest, .slice y.HA y.g.hs.length y.hc] 1 (Nat.le_refl _) (by decide) rfl
    simpa [encs, encG] using this⟩
theorem RowX.at3G {w : World} {g : Nat} {T : TypeId} {l : List NewG} (h : RowX encG 3 T w g 0 l) {k : Nat} {x : NewG} (hk : l[k]? = some x) :
    w.cell? ⟨g, k * 3, none⟩ = some (.slice x.A x.g.b.parts.length x.c) ∧ w.cell? ⟨g, k * 3 + 1, none⟩ = some (.bool x.g.b.rest) ∧ w.cell? ⟨g, k * 3 + 2, none⟩ = some (.slice x.HA x.g.hs.length x.hc) := by
  have h0 := h.cell k x hk 0 _ rfl
  have h1 := h.cell k x hk 1 _ rfl
  have h2 := h.cell k x hk 2 _ rfl
  rw [Nat.zero_add] at h0 h1 h2
  exact ⟨h0, h1, h2⟩
end Go.Proofs.YtdndfkoklhfffaaGreatDoor
set_option linter.unusedVariables false
set_option linter.unusedSimpArgs false
namespace Go.Proofs.YtdndfkoklhfffaaGreatDoor
open Go Go.RowKit Sy

theorem OwnX.base {α : Type} {enc : α → List Value} {K : Nat} {T : TypeId} {w00 w0 w : World} {v : Value} {l : List α} (h : OwnX enc K T w0 w v l) (h0 : Calm w00 w0) : OwnX enc K T w00 w v l := by
  refine ⟨h0.trans h.calm, h.own.1, ?_⟩
  rcases h.own.2 with h2 | ⟨g, cap, cur, hv, hg, hh, r⟩
  · exact .inl h2
  · exact .inr ⟨g, cap, cur, hv, Nat.le_trans h0.size hg, hh, r⟩
/-- The pieces of the first k cuts, in a row of the call's own. -/
structure PcI (w3 wr : World) (x y : Reg) (v : Value) (l : List NewG) (k : Nat) : Prop where
  own : OwnX encG 3 27 w3 wr v l
  is : l.map (·.g) = piecesTo x y k
  each : ∀ z ∈ l, z.ok wr w3.heap.size
theorem PcI.calm {w3 wr w2 : World} {x y : Reg} {v : Value} {l : List NewG} {k : Nat} (h : PcI w3 wr x y v l k) (hc : Calm wr w2) : PcI w3 w2 x y v l k := ⟨h.own.to hc, h.is, fun z hz => RegN.calm (h.each z hz) hc⟩
theorem PcI.len {w3 wr : World} {x y : Reg} {v : Value} {l : List NewG} {k : Nat} (h : PcI w3 wr x y v l k) : l.length ≤ k + 1 := by
  have h1 := congrArg List.length h.is
  rw [List.length_map] at h1
  have := piecesTo_len x y k
  omega
theorem PcI.miss {w3 wr w2 : World} {x y : Reg} {v : Value} {l : List NewG} {k : Nat} {p : Pat} (h : PcI w3 wr x y v l k) (hp : (cuts y)[k]? = some p) (hm : meetP x.b p = none) (hc : Calm wr w2) : PcI w3 w2 x y v l (k + 1) := by
  refine ⟨h.own.to hc, ?_, fun z hz => RegN.calm (h.each z hz) hc⟩
  rw [piecesTo_succ, h.is]
  unfold pieceAt
  rw [hp]
  simp [hm]
theorem PcI.hit {w3 wr w2 w4 : World} {x y : Reg} {v v' : Value} {l : List NewG} {k : Nat} {p m : Pat} {z : NewG} (h : PcI w3 wr x y v l k) (hp : (cuts y)[k]? = some p) (hm : meetP x.b p = some m) (hz : z.g = ⟨m, redL m (x.hs ++ (cuts y).take k)⟩) (hc : Calm wr w2) (hown : OwnX encG 3 27 w3 w4 v' (l ++ [z])) (ho : z.ok w2 w3.heap.size) (hg : w2.grownBy w4 v.ownBlock) : PcI w3 w4 x y v' (l ++ [z]) (k + 1) := by
  refine ⟨hown, ?_, fun u hu => ?_⟩
  · rw [piecesTo_succ, List.map_append, h.is]
    congr 1
    unfold pieceAt
    rw [hp]
    simp [hm, hz]
  · rcases List.mem_append.1 hu with hu | hu
    · exact RegN.own (RegN.calm (h.each u hu) hc) (by decide) (by decide) (h.own.to hc).own hg
    · rw [List.mem_singleton.1 hu]
      exact RegN.own ho (by decide) (by decide) (h.own.to hc).own hg
def liveTo (l : List NewG) (i : Nat) : List NewG := (l.take i).filter fun z => gLen z.g != 0
theorem liveTo_succ {l : List NewG} {i : Nat} {z : NewG} (h : l[i]? = some z) : liveTo l (i + 1) = liveTo l i ++ (if gLen z.g = 0 then [] else [z]) := by
  obtain ⟨hlt, rfl⟩ := List.getElem?_eq_some_iff.1 h
  unfold liveTo
  rw [List.take_succ_eq_append_getElem hlt, List.filter_append]
  congr 1
  by_cases h2 : gLen l[i].g = 0 <;> simp [h2]
theorem liveTo_map (l : List NewG) : (liveTo l l.length).map (·.g) = liveOf (l.map (·.g)) := by
  unfold liveTo liveOf
  rw [List.take_length, List.filter_map]
  rfl
theorem liveTo_sub {l : List NewG} {i : Nat} : ∀ z ∈ liveTo l i, z ∈ l := fun z hz => List.mem_of_mem_take (List.mem_filter.1 hz).1
theorem liveTo_len (l : List NewG) (i : Nat) : (liveTo l i).length ≤ i := by
  have h1 := List.length_filter_le (fun z : NewG => gLen z.g != 0) (l.take i)
  rw [List.length_take] at h1
  unfold liveTo
  omega
def MinusEnd (x y : Reg) (e : Ending) (w' : World) : Prop := ∃ A c l, e = .returned (.tuple #[.slice A (List.length l) c, .int .i64 (minusR x y).2]) ∧ l.map (·.g) = (minusR x y).1 ∧ (∀ z ∈ l, RegA w' z.A z.c z.HA z.g.b z.g.hs) ∧ ReadX encG 3 w' A l ∧ l.length ≤ 10000 ∧ l.length ≤ c ∧ c ≤ 9223372036854775807
theorem takeX {w : World} {A : Option Addr} {l : List NewP} (h : PatsX w A l) (k : Nat) : PatsX w A (l.take k) := by
  refine ⟨fun z hz => h.each z (List.mem_of_mem_take hz), fun hne => ?_⟩
  obtain ⟨b, o, hA, hb, hk⟩ := h.read (fun e => hne (by rw [e]; simp))
  exact ⟨b, o, hA, hb, fun j z hj i u hu => hk j z (by rw [List.getElem?_take] at hj; split at hj; exact hj; cases hj) i u hu⟩

theorem read_new {w : World} {n : Nat} (y : NewP) (h : w.heap.size = n) : ReadX encP 2 (w.alloc (.cells #[.slice y.A y.p.parts.length y.c, .bool y.p.rest] 24)) (some ⟨n, 0, none⟩) [y] := fun _ => by
  refine ⟨n, 0, rfl, by rw [← h]; simp [go_sem], fun k x hk i u hu => ?_⟩
  have h0 : k = 0 := by
    have := (List.getElem?_eq_some_iff.1 hk).1
    simp at this
    exact this
  subst h0
  obtain rfl : y = x := by simpa using hk
  have := new_p y h i u hu
  simpa using this
theorem own_litN {w : World} (z : NewG) {n pm : Nat} {re : Bool} (h1 : z.g.b.parts.length = n) (h2 : z.g.b.rest = re) (h3 : z.g.hs.length = pm) : OwnX encG 3 27 w (w.alloc (.cells #[.slice z.A n z.c, .bool re, .slice z.HA pm z.hc] 27)) (.slice (some ⟨w.heap.size, 0, none⟩) 1 1) [z] := by
  subst h1 h2 h3
  exact own_litG z
theorem read_newN {w : World} {k : Nat} (z : NewG) {n pm : Nat} {re : Bool} (h1 : z.g.b.parts.length = n) (h2 : z.g.b.rest = re) (h3 : z.g.hs.length = pm) (h : w.heap.size = k) : ReadX encG 3 (w.alloc (.cells #[.slice z.A n z.c, .bool re, .slice z.HA pm z.hc] 27)) (some ⟨k, 0, none⟩) [z] := by
  subst h1 h2 h3
  exact read_newG z h
theorem read_newM {w : World} {k : Nat} (y : NewP) {n : Nat} {re : Bool} (h1 : y.p.parts.length = n) (h2 : y.p.rest = re) (h : w.heap.size = k) : ReadX encP 2 (w.alloc (.cells #[.slice y.A n y.c, .bool re] 24)) (some ⟨k, 0, none⟩) [y] := by
  subst h1 h2
  exact read_new y h
set_option maxRecDepth 100000 in
set_option maxHeartbeats 16000000 in
theorem gminus_c (x y : Reg) (n m n' m' : Nat) (re re' : Bool) (A : Option Addr) (c : Nat) (HA : Option Addr) (hc : Nat) (A' : Option Addr) (c' : Nat) (HA' : Option Addr) (hc' : Nat) (w : World) (h : RegA w A c HA x.b x.hs) (h' : RegA w A' c' HA' y.b y.hs)
    (hn : x.b.parts.length = n) (hm : x.hs.length = m) (hre : x.b.rest = re) (hn' : y.b.parts.length = n') (hm' : y.hs.length = m') (hre' : y.b.rest = re') (hl : m + m' ≤ 1000) (hmc : m ≤ hc) (hmc63 : hc ≤ 9223372036854775807) :
    Calls Tryz.prog 13 #[.agg #[.slice A n c, .bool re, .slice HA m hc], .agg #[.slice A' n' c', .bool re', .slice HA' m' hc']] w fun e w' => MinusEnd x y e w' ∧ Calm w w' := by
  obtain ⟨w1, hw1⟩ : ∃ w1, w1 = (w.alloc (.cells #[.slice A n c, .bool re, .slice HA m hc] 27)).alloc (.cells #[.slice A' n' c', .bool re', .slice HA' m' hc'] 27) := ⟨_, rfl⟩
  have hc1 : Calm w w1 := by rw [hw1]; exact ((Calm.refl w).alloc _).alloc _
  have hbox : Box2 w1 w.heap.size A n c re HA m hc A' n' c' re' HA' m' hc' := by rw [hw1]; exact box2_new w A n c re HA m hc A' n' c' re' HA' m' hc'
  obtain ⟨v, hv⟩ : ∃ v, bothErr x y = v := ⟨_, rfl⟩
  have K0 := both_c x y v n m n' m' re re' A c HA hc A' c' HA' hc' w1 (h.calm hc1) (h'.calm hc1) hv hn hm hre hn' hm' hre'
  have HX := Lib.hid (h.calm hc1)
  have HY := Lib.hid (h'.calm hc1)
  have HN := Lib.hid (And.intro hn (And.intro hm hre))
  have HN' := Lib.hid (And.intro hn' (And.intro hm' hre'))
  have HW := Lib.hid hw1
  have HC := Lib.hid hc1
  have HB := Lib.hid hbox
  have HV := Lib.hid hv
  clear hw1 hc1 hbox h h' hn hm hre hn' hm' hre' hv
  by_cases h0 : v = 0
  · subst h0
    obtain ⟨gx, gy⟩ := bothErr_zero HV.out
    obtain ⟨gx1, gx2, -⟩ := gErr_zero gx
    obtain ⟨gy1, gy2, -⟩ := gErr_zero gy
    obtain ⟨cn, hcn⟩ : ∃ cn, (cuts y).length = cn := ⟨_, rfl⟩
    have hcnm : cn ≤ m' := by rw [← hcn, ← HN'.out.2.1]; exact redL_len _ _
    obtain ⟨pm, hpm⟩ : ∃ pm, (redL x.b (x.hs ++ [y.b])).length = pm := ⟨_, rfl⟩
    obtain ⟨lx, hlx, hXl⟩ := HX.out.holes.places
    have hlxn : lx.length = m := by rw [← HN.out.2.1, ← hlx, List.length_map]
    have KR0 : Hid (∀ W, Calm w1 W → Calls Tryz.prog 22 #[.agg #[.slice A' n' c', .bool re'], .slice HA' m' hc'] W fun e w' => (∃ A3 c3 HA3 hc3, e = .returned (.agg #[.slice A3 n' c3, .bool re', .slice HA3 cn hc3]) ∧ NewS w' W.heap.size A3 c3 y.b.parts ∧ PatsN w' W.heap.size HA3 hc3 (cuts y)) ∧ Calm W w') := fun W hW => by
      have hy := HY.out.calm hW
      have := reduce_c y.b y.hs A' c' HA' m' hc' W ⟨hy.base, hy.room, hy.cap⟩ hy.holes HN'.out.2.1 gy1 gy2
      unfold RedEnd at this
      rw [HN'.out.1, HN'.out.2.2, show (redL y.b y.hs).length = cn from hcn] at this
      exact this
    have KR1 : Hid (∀ AC cC W, Calm w1 W → PatsR W AC (x.hs ++ [y.b]) → Calls Tryz.prog 22 #[.agg #[.slice A n c, .bool re], .slice AC (m + 1) cC] W fun e w' => (∃ A3 c3 HA3 hc3, e = .returned (.agg #[.slice A3 n c3, .bool re, .slice HA3 pm hc3]) ∧ NewS w' W.heap.size A3 c3 x.b.parts ∧ PatsN w' W.heap.size HA3 hc3 (redL x.b (x.hs ++ [y.b]))) ∧ Calm W w') := fun AC cC W hW h1 => by
      have hx := HX.out.calm hW
      have := reduce_c x.b (x.hs ++ [y.b]) A c AC (m + 1) cC W ⟨hx.base, hx.room, hx.cap⟩ h1 (by rw [List.length_append, HN.out.2.1]; rfl) gx1 (fun p hp => (List.mem_append.1 hp).elim (gx2 p) (fun h => by rw [List.mem_singleton.1 h]; exact gy1))
      unfold RedEnd at this
      rw [HN.out.1, HN.out.2.2, hpm] at this
      exact this
    have HJoin0 : ∀ W0, Calm w1 W0 → ∀ W AA nn cc, OwnX encP 2 24 W0 W (.slice AA nn cc) (lx ++ [⟨A', c', y.b⟩]) → PatsR W AA (x.hs ++ [y.b]) := fun W0 h0 W AA nn cc hown => by
      have hy := HY.out.calm (h0.trans hown.calm)
      have := own_reads hown (fun z hz => by
        rcases List.mem_append.1 hz with h | h
        · exact (hXl.each z h).calm (h0.trans hown.calm)
        · rw [List.mem_singleton.1 h]
          exact ⟨hy.base, hy.room, hy.cap⟩) (by rw [List.length_append, hlxn]; simp; omega)
      rw [List.map_append, hlx] at this
      exact this
    have HJ0 := Lib.hid HJoin0
    have HCn := Lib.hid hcn
    have HGx := Lib.hid (And.intro gx (And.intro gy (And.intro gx1 (And.intro gx2 (And.intro gy1 gy2)))))
    have HLx := Lib.hid (And.intro hlxn (And.intro hlx hXl))
    have HPm := Lib.hid hpm
    have HNy : Hid (∀ W, Calm w1 W → PatA W A' c' y.b) := fun W hW => by
      have := HY.out.calm hW
      exact ⟨this.base, this.room, this.cap⟩
    clear gx gy gx1 gx2 gy1 gy2 hcn hpm hlx hXl hlxn HJoin0
    have hfd : ∀ (W : World) (A3 : Option Addr) (c3 : Nat) (HA7 : Option Addr) (hc7 : Nat), (Instr.field 27 (.agg #[.slice A3 n' c3, .bool re', .slice HA7 cn hc7]) 1).run Tryz.prog W = .ok (.slice HA7 cn hc7) W := fun _ _ _ _ _ => by kernel_rfl
    go_enter Tryz.func13, Tryz.ntmps13
    go_wp2_with fail
    rw [← HW.out]
    refine K0.mono ?_
    rintro e w2 ⟨rfl, hc2⟩
    have b2 := HB.out.calm hc2
    have y0 := b2.y0
    have y1 := b2.y1
    have y2 := b2.y2
    clear b2
    go_wp2_with fail
    refine (KR0.out w2 hc2).mono ?_
    rintro e w3 ⟨⟨A3, c3, HA7, hc7, rfl, _, hp3⟩, hc3⟩
    clear y0 y1 y2
    go_upto_region 5 with (fail)
    obtain ⟨lc, hlc, hXc⟩ := hp3.places
    have hlcn : lc.length = cn := by rw [← HCn.out, ← hlc, List.length_map]
    have hbx := HB.out.calm (hc2.trans hc3)
    have hlt0 : w.heap.size < w3.heap.size := by have := hbx.size; omega
    have hlt1 : w.heap.size + 1 < w3.heap.size := by have := hbx.size; omega
    have HSX : Hid (∀ W, Calm w3 W → W.cell? ⟨w.heap.size, 0, none⟩ = some (.slice A n c) ∧ W.cell? ⟨w.heap.size, 1, none⟩ = some (.bool re) ∧ W.cell? ⟨w.heap.size, 2, none⟩ = some (.slice HA m hc) ∧ W.cell? ⟨w.heap.size + 1, 0, none⟩ = some (.slice A' n' c') ∧ W.cell? ⟨w.heap.size + 1, 1, none⟩ = some (.bool re')) := fun W hW =>
      ⟨Calm.at_ hW hbx.x0 hlt0, Calm.at_ hW hbx.x1 hlt0, Calm.at_ hW hbx.x2 hlt0, Calm.at_ hW hbx.y0 hlt1, Calm.at_ hW hbx.y1 hlt1⟩
    have HC3 := Lib.hid (hc2.trans hc3)
    have HJoin := Lib.hid (HJ0.out w3 (hc2.trans hc3))
    have HLc := Lib.hid (And.intro hlcn (And.intro hlc hXc))
    have HRoom := Lib.hid (And.intro hp3.room hp3.cap)
    clear hc2 hc3 hp3 hlcn hlc hXc hbx hlt0 hlt1 K0 KR0
    go_cut [8] (fun s wx => ∃ A8 c8 z, s = .slice A8 1 c8 ∧ Hid (PcI w3 wx x y (.slice A8 1 c8) [z] 0))
    case first =>
      go_region_held3 (fun W => W.cell? ⟨w.heap.size, 0, none⟩ = some (.slice A n c) ∧ W.cell? ⟨w.heap.size, 1, none⟩ = some (.bool re) ∧ W.cell? ⟨w.heap.size, 2, none⟩ = some (.slice HA m hc) ∧ W.cell? ⟨w.heap.size + 1, 0, none⟩ = some (.slice A' n' c') ∧ W.cell? ⟨w.heap.size + 1, 1, none⟩ = some (.bool re'))
        (first
          | exact HSX.out _ (Below.drew (Calm.refl _))
          | exact HSX.out _ (Below.drew ((Calm.refl _).alloc _))
          | exact HSX.out _ hcz
          | exact HSX.out _ (hcz.alloc _)
          | exact HSX.out _ hcy
          | exact HSX.out _ (hcy.alloc _)
          | exact HSX.out _ hcx
          | exact HSX.out _ (hcx.alloc _)
          | go_keep)
        (first
          | (go_at_call 30; refine (clonep_c lx HA m hc _ (HLx.out.2.2.read.calm (HC3.out.trans (by first | exact Below.drew (Calm.refl _) | exact Below.drew ((Calm.refl _).alloc _)))) HLx.out.1 (by omega)).mono ?_; rintro e w6 ⟨A6, c6, he6, hown6⟩; rw [HLx.out.1] at he6 hown6; subst he6; (first | have hRd : ReadX encP 2 w6 (some ⟨w3.heap.size, 0, none⟩) [⟨A', c', y.b⟩] := ((read_newM ⟨A', c', y.b⟩ HN'.out.1 HN'.out.2.2 rfl).calm (Below.drew (Calm.refl _))).calm hown6.calm | skip); have hown6' : OwnX encP 2 24 w3 w6 (.slice A6 m c6) lx := hown6.base (by first | exact Below.drew (Calm.refl _) | exact Below.drew ((Calm.refl _).alloc _)); have hcx : Calm w3 w6 := hown6'.calm)
          | (refine step_append_ps rfl (.tmp 32) (.tmp 35) rfl w3 (.slice A6 m c6) lx [⟨A', c', y.b⟩] (by simp [Act.eval, Act.put]) (hown6'.to (by first | exact Calm.refl _ | exact (Calm.refl _).alloc _)) _ 1 1 rfl rfl (by first | exact hRd | exact read_newM ⟨A', c', y.b⟩ HN'.out.1 HN'.out.2.2 rfl) (by rw [HLx.out.1]; omega) ?_; intro v8 w8 hown8 hgr8; obtain ⟨A8, c8, hv8⟩ := hown8.len_shape; rw [List.length_append, HLx.out.1, List.length_singleton] at hv8; subst hv8; have hcy : Calm w3 w8 := hown8.calm; have hP8 := HJoin.out w8 _ _ _ hown8)
          | (go_at_call 22; refine (KR1.out A8 c8 w8 (HC3.out.trans hcy) hP8).mono ?_; rintro e w9 ⟨⟨A9, c9, HA9, hc9', rfl, hn9, hp9⟩, hc9⟩; have hcz : Calm w3 w9 := hcy.trans hc9))
      all_goals
        have hP : Hid (PcI w3 (w9.alloc (.cells #[.slice A9 n c9, .bool re, .slice HA9 pm hc9'] 27)) x y (.slice (some ⟨w9.heap.size, 0, none⟩) 1 1) [⟨A9, c9, HA9, hc9', piece0 x y⟩] 0) := by
          refine ⟨(own_litN ⟨A9, c9, HA9, hc9', piece0 x y⟩ HN.out.1 HN.out.2.2 HPm.out).base hcz, rfl, fun z hz => ?_⟩
          rw [List.mem_singleton.1 hz]
          exact ((regN_of hn9 hp9 HX.out.base.len HX.out.base.each).mono hcy.size).calm ((Calm.refl w9).alloc _)
        clear hn9 hp9 hc9 hcz hP8 hown8 hgr8 hcy hcx hown6' hown6
        go_wp2_with fail
        go_meet
        case rel => exact ⟨_, _, _, rfl, hP⟩
    case rest =>
      obtain ⟨A8, c8, z0, rfl, HP0⟩ := hcut
      have HPl : Hid ([z0].length = 1) := rfl
      go_wp2_with fail
      go_loopw [8, 41] (fun s q wr => ∃ (k : Nat) (l : List NewG) (A8 : Option Addr) (L c8 : Nat), k ≤ cn ∧ q = .int .i64 k ∧ s = .slice A8 L c8 ∧ Hid (l.length = L) ∧ Hid (PcI w3 wr x y (.slice A8 L c8) l k)) (fun _ q _ => cn - (intOf q).toNat)
      case atStart => exact ⟨0, [z0], A8, 1, c8, Nat.zero_le _, rfl, rfl, HPl, HP0⟩
      case round =>
        clear HP0 HPl
        obtain ⟨k, l, A8, L, c8, hk, rfl, rfl, HLl, HPk⟩ := hrel
        have HCk : Hid (Calm w3 wr) := HPk.out.own.calm
        have hLk : L ≤ k + 1 := by rw [← HLl.out]; exact HPk.out.len
        by_cases hlt : k < cn
        · obtain ⟨px, hpx⟩ : ∃ px, lc[k]? = some px := ⟨_, List.getElem?_eq_getElem (by rw [HLc.out.1]; exact hlt)⟩
          have hcut : (cuts y)[k]? = some px.p := by rw [← HLc.out.2.1, List.getElem?_map, hpx]; rfl
          have gp : patErr px.p = 0 := cuts_good px.p (List.mem_of_getElem? hcut)
          obtain ⟨b0, o0, rfl, hb0, hk0⟩ := HLc.out.2.2.read (fun e => by rw [e] at hpx; simp at hpx)
          have q1 := Calm.at_ HCk.out (hk0 k px hpx 0 _ rfl) hb0
          have q2 := Calm.at_ HCk.out (hk0 k px hpx 1 _ rfl) hb0
          rw [Nat.add_zero] at q1
          have hb1 := Nat.lt_of_lt_of_le hb0 HCk.out.size
          have hk7 : k ≤ hc7 := by
            have := HRoom.out.1
            rw [HCn.out] at this
            omega
          have hc763 := HRoom.out.2
          obtain ⟨wB, hwB⟩ : ∃ wB, wB = wr.alloc (.cells #[.slice px.A px.p.parts.length px.c, .bool px.p.rest] 24) := ⟨_, rfl⟩
          have hcB : Calm wr wB := by rw [hwB]; exact (Calm.refl wr).alloc _
          have hPA : PatA wB px.A px.c px.p := (HLc.out.2.2.each px (List.mem_of_getElem? hpx)).calm (HCk.out.trans hcB)
          have hx := HX.out.calm (HC3.out.trans (HCk.out.trans hcB))
          have hBA : PatA wB A c x.b := ⟨hx.base, hx.room, hx.cap⟩
          have bB := HB.out.calm (HC3.out.trans HCk.out)
          have x0 := bB.x0
          have x1 := bB.x1
          have hlt0 : w.heap.size < wr.heap.size := by have := bB.size; omega
          have HWB := Lib.hid hwB
          have HCB := Lib.hid hcB
          have HCut := Lib.hid hcut
          rcases hmt : meetP x.b px.p with _ | mm
          · have hcall := meet_no x.b px.p A px.A c px.c wB hBA hPA HGx.out.2.2.1 gp hmt
            rw [HN.out.1, HN.out.2.2] at hcall
            have HM := Lib.hid hmt
            clear hwB hcB hPA hBA hpx hcut gp hmt hk0 hx bB hb0
            go_wp2_with (go_at_call 21; rw [← HWB.out]; refine hcall.mono ?_; rintro e w5 ⟨rfl, hc5⟩)
            go_roundw
            case rel => exact ⟨k + 1, l, A8, L, c8, by omega, by go_num, rfl, HLl, HPk.out.miss HCut.out HM.out (HCB.out.trans (hc5.trans ((Calm.refl _).alloc _)))⟩
            case measure => simp [intOf]; omega
          · have hcall := meet_yes x.b px.p mm A px.A c px.c wB hBA hPA HGx.out.2.2.1 gp hmt
            rw [HN.out.1, HN.out.2.2] at hcall
            obtain ⟨gn, hgn⟩ : ∃ gn, mm.parts.length = gn := ⟨_, rfl⟩
            obtain ⟨gr, hgr⟩ : ∃ gr, mm.rest = gr := ⟨_, rfl⟩
            obtain ⟨gm, hgm⟩ : ∃ gm, (redL mm (x.hs ++ (cuts y).take k)).length = gm := ⟨_, rfl⟩
            obtain ⟨Nk, hNk⟩ : ∃ Nk, (x.hs ++ (cuts y).take k).length = Nk := ⟨_, rfl⟩
            rw [hgn, hgr] at hcall
            have KCat : Hid (∀ W gg, Calm w3 W → W.cell? ⟨gg, 0, none⟩ = some (.slice HA m hc) → W.cell? ⟨gg, 1, none⟩ = some (.slice (some ⟨b0, o0, none⟩) k hc7) → gg < W.heap.size → Calls Tryz.prog 23 #[.slice (some ⟨gg, 0, none⟩) 2 2] W fun e w' => (∃ AC cC, e = .returned (.slice AC Nk cC) ∧ PatsR w' AC (x.hs ++ (cuts y).take k)) ∧ Calm W w') := fun W gg hW k0 k1 hgg => by
              have hpt := ((takeX HLc.out.2.2 k).calm hW).reads (by rw [List.length_take, HLc.out.1]; omega)
              rw [List.map_take, HLc.out.2.1] at hpt
              have := concat_c x.hs ((cuts y).take k) HA (some ⟨b0, o0, none⟩) m k hc hc7 gg 2 W (HX.out.calm (HC3.out.trans hW)).holes hpt HN.out.2.1 (by rw [List.length_take, HCn.out]; omega) (by omega) k0 k1 hgg
              unfold CatEnd at this
              rw [hNk] at this
              exact this
            have KRk : Hid (∀ A2 c2 AC cC W, PatA W A2 c2 mm → PatsR W AC (x.hs ++ (cuts y).take k) → Calls Tryz.prog 22 #[.agg #[.slice A2 gn c2, .bool gr], .slice AC Nk cC] W fun e w' => (∃ A3 c3 HA3 hc3, e = .returned (.agg #[.slice A3 gn c3, .bool gr, .slice HA3 gm hc3]) ∧ NewS w' W.heap.size A3 c3 mm.parts ∧ PatsN w' W.heap.size HA3 hc3 (redL mm (x.hs ++ (cuts y).take k))) ∧ Calm W w') := fun A2 c2 AC cC W h1 h2 => by
              have := reduce_c mm (x.hs ++ (cuts y).take k) A2 c2 AC Nk cC W h1 h2 hNk (meetP_some hmt).2.2.2 (fun p hp => (List.mem_append.1 hp).elim (HGx.out.2.2.2.1 p) (fun h => cuts_good p (List.mem_of_mem_take h)))
              unfold RedEnd at this
              rw [hgn, hgr, hgm] at this
              exact this
            have HM := Lib.hid (And.intro hmt (And.intro hgn (And.intro hgr hgm)))
            clear hwB hcB hPA hBA hpx hcut gp hmt hk0 hx bB hb0 hgn hgr hgm hNk
            go_wp2_with (go_at_call 21; rw [← HWB.out]; refine hcall.mono ?_; rintro e w5 ⟨⟨A2, c2, rfl, hs5⟩, hc5⟩)
            obtain ⟨wC, hwC⟩ : ∃ wC, wC = w5.alloc (.cells #[.slice A2 gn c2, .bool gr] 24) := ⟨_, rfl⟩
            rw [← hwC]
            have hcC : Calm w5 wC := by rw [hwC]; exact (Calm.refl w5).alloc _
            have t0 : wC.cell? ⟨w5.heap.size, 0, none⟩ = some (.slice A2 gn c2) := by rw [hwC]; simp [go_sem]
            have t1 : wC.cell? ⟨w5.heap.size, 1, none⟩ = some (.bool gr) := by rw [hwC]; simp [go_sem]
            have tlt : w5.heap.size < wC.heap.size := by rw [hwC]; simp [go_sem]
            have HCC := Lib.hid (HCB.out.trans (hc5.trans hcC))
            have HSm : Hid (SmallN wC w3.heap.size ⟨A2, c2, mm⟩) := (hs5.calm hcC).mono (HCk.out.trans HCB.out).size
            have bC := HB.out.calm (HC3.out.trans (HCk.out.trans HCC.out))
            have HSX : Hid (∀ W, Calm wC W → W.cell? ⟨w5.heap.size, 0, none⟩ = some (.slice A2 gn c2) ∧ W.cell? ⟨w5.heap.size, 1, none⟩ = some (.bool gr) ∧ W.cell? ⟨w.heap.size, 2, none⟩ = some (.slice HA m hc)) := fun W hW =>
              ⟨Calm.at_ hW t0 tlt, Calm.at_ hW t1 tlt, Calm.at_ hW bC.x2 (by have := bC.size; omega)⟩
            have hfar5 : some w5.heap.size ≠ (Value.slice A8 L c8).ownBlock := fun e => by
              have h1 := HPk.out.own.blk_lt e
              have h2 := (HCB.out.trans hc5).size
              omega
            have hfar0 : some w.heap.size ≠ (Value.slice A8 L c8).ownBlock := HPk.out.own.far (by have := (HB.out.calm HC3.out).size; omega)
            have HSF : Hid (∀ W W', Calm wC W → W.grownBy W' (Value.slice A8 L c8).ownBlock → W'.cell? ⟨w5.heap.size, 0, none⟩ = some (.slice A2 gn c2) ∧ W'.cell? ⟨w5.heap.size, 1, none⟩ = some (.bool gr) ∧ W'.cell? ⟨w.heap.size, 2, none⟩ = some (.slice HA m hc)) := fun W W' hW hg =>
              ⟨hg.cell (HSX.out W hW).1 hfar5, hg.cell (HSX.out W hW).2.1 hfar5, hg.cell (HSX.out W hW).2.2 hfar0⟩
            clear hwC hcC hs5 hc5 t0 t1 tlt bC x0 x1 q1 q2 hlt0 hfar5 hfar0
            go_wp2_with fail
            go_region_held3 (fun W => W.cell? ⟨w5.heap.size, 0, none⟩ = some (.slice A2 gn c2) ∧ W.cell? ⟨w5.heap.size, 1, none⟩ = some (.bool gr) ∧ W.cell? ⟨w.heap.size, 2, none⟩ = some (.slice HA m hc))
              (first
                | exact HSX.out _ (Below.drew (Calm.refl _))
                | exact HSX.out _ (Below.drew ((Calm.refl _).alloc _))
                | exact HSF.out _ _ (hcy.alloc _) hgr8
                | exact HSX.out _ hcy
                | exact HSX.out _ (hcy.alloc _)
                | exact HSX.out _ hcx
                | exact HSX.out _ (hcx.alloc _)
                | go_keep)
              (first
                | (go_at_call 23; refine (KCat.out _ _ (HCk.out.trans (HCC.out.trans (Below.drew ((Calm.refl _).alloc _)))) (by simp [go_sem]) (by simp [go_sem]) (by simp [go_sem])).mono ?_; rintro e w6 ⟨⟨AC, cC, rfl, hP6⟩, hcD⟩; have hcx : Calm wC w6 := Calm.trans (Below.drew ((Calm.refl _).alloc _)) hcD)
                | (go_at_call 22; refine (KRk.out A2 c2 AC cC w6 (HSm.out.calm hcx).a hP6).mono ?_; rintro e w7 ⟨⟨A3, c3, HA3, hc3, rfl, hn7, hp7⟩, hc7'⟩; have hcy : Calm wC w7 := Calm.trans hcx hc7')
                | (refine step_append_g rfl (.tmp 54) (.tmp 64) rfl w3 (.slice A8 L c8) l [⟨A3, c3, HA3, hc3, ⟨mm, redL mm (x.hs ++ (cuts y).take k)⟩⟩] (by simp [Act.eval, Act.put]) (HPk.out.own.to (HCC.out.trans (hcy.alloc _))) _ 1 1 rfl rfl (read_newN ⟨A3, c3, HA3, hc3, ⟨mm, redL mm (x.hs ++ (cuts y).take k)⟩⟩ HM.out.2.1 HM.out.2.2.1 HM.out.2.2.2 rfl) (by rw [HLl.out]; omega) ?_; intro v8 w8 hown8 hgr8; obtain ⟨A9, c9, hv8⟩ := hown8.len_shape; rw [List.length_append, HLl.out, List.length_singleton] at hv8; subst hv8))
            all_goals
              have hreg := (regN_of hn7 hp7 HSm.out.few HSm.out.each).mono (Nat.le_trans (HCk.out.trans HCC.out).size hcx.size)
              have HH := Lib.hid (HPk.out.hit HCut.out HM.out.1 rfl (HCC.out.trans (hcy.alloc _)) hown8 (hreg.calm ((Calm.refl w7).alloc _)) hgr8)
              have HLe : Hid ((l ++ [(⟨A3, c3, HA3, hc3, ⟨mm, redL mm (x.hs ++ (cuts y).take k)⟩⟩ : NewG)]).length = L + 1) := by
                show _ = _
                rw [List.length_append, HLl.out]
                rfl
              clear hown8 hgr8 hcx hcy hreg hn7 hp7 hP6 hcD hc7'
              try simp only [List.getElem_toArray, List.getElem_cons_succ, List.getElem_cons_zero, Act.put, List.setIfInBounds_toArray, List.set_cons_succ, List.set_cons_zero]
              go_wp2
              go_roundw
              case rel => exact ⟨k + 1, _, A9, L + 1, c9, by omega, by go_num, rfl, HLe, HH.out⟩
              case measure => simp [intOf]; omega
        · obtain rfl : k = cn := by omega
          have hrow := HPk.out.own.row encG_len
          have hlpos : l.length ≠ 0 := fun e => by
            have h1 := HPk.out.is
            rw [List.eq_nil_of_length_eq_zero e] at h1
            cases h1
          rcases hrow with ⟨_, h0⟩ | ⟨g8, c9, hv8, _, _, hg8, hrow⟩
          · exact absurd (by rw [h0]; rfl) hlpos
          obtain ⟨rfl, -, rfl⟩ : A8 = some ⟨g8, 0, none⟩ ∧ L = l.length ∧ c8 = c9 := by simpa using hv8
          have hpl : l.map (·.g) = pieces x y := by
            have := HPk.out.is
            rw [← HCn.out] at this
            exact this
          have HPL := Lib.hid hpl
          have hL6 : L ≤ 2000 := by omega
          obtain ⟨wS, hwS⟩ : ∃ wS, wS = wr := ⟨_, rfl⟩
          have HO0 : Hid (OwnX encG 3 27 wS wr (.slice none 0 0) []) := by rw [hwS]; exact OwnX.nil (Calm.refl _)
          have HRow : Hid (RowX encG 3 27 wS g8 0 l ∧ ∀ z ∈ l, z.ok wS w3.heap.size) := by rw [hwS]; exact ⟨hrow, HPk.out.each⟩
          have HCS : Hid (Calm w3 wS) := by rw [hwS]; exact HCk.out
          clear hrow hlpos hpl hv8 hwS hg8
          go_wp2_with fail
          go_loopw [13, 69] (fun s q wq => ∃ (i : Nat) (A13 : Option Addr) (L13 c13 : Nat), i ≤ L ∧ q = .int .i64 i ∧ s = .slice A13 L13 c13 ∧ Hid ((liveTo l i).length = L13) ∧ Hid (OwnX encG 3 27 wS wq (.slice A13 L13 c13) (liveTo l i)) ∧ Hid (∀ j z, j < i → l[j]? = some z → z.g.hs.length ≤ 64)) (fun _ q _ => L - (intOf q).toNat)
          case atStart => exact ⟨0, none, 0, 0, Nat.zero_le _, rfl, rfl, rfl, HO0.out, fun j z hj => absurd hj (Nat.not_lt_zero _)⟩
          case round =>
            clear HO0
            obtain ⟨wq, rfl⟩ : ∃ wq, wq = wr := ⟨_, rfl⟩
            obtain ⟨i, A13, L13, c13, hi, rfl, rfl, HL13, HOq, HI⟩ := hrel
            have HCq : Hid (Calm wS wq) := HOq.out.calm
            have hL13 : L13 ≤ i := by rw [← HL13.out]; exact liveTo_len _ _
            by_cases hlt2 : i < L
            · obtain ⟨z, hz⟩ : ∃ z, l[i]? = some z := ⟨_, List.getElem?_eq_getElem (by rw [HLl.out]; exact hlt2)⟩
              have hrq := HRow.out.1.calm HCq.out
              obtain ⟨d0, d1, d2⟩ := hrq.at3G hz
              have hrlt := hrq.lt
              obtain ⟨zn, hzn⟩ : ∃ zn, z.g.b.parts.length = zn := ⟨_, rfl⟩
              obtain ⟨zr, hzr⟩ : ∃ zr, z.g.b.rest = zr := ⟨_, rfl⟩
              obtain ⟨zm, hzm⟩ : ∃ zm, z.g.hs.length = zm := ⟨_, rfl⟩
              rw [hzn] at d0
              rw [hzr] at d1
              rw [hzm] at d2
              obtain ⟨wB, hwB⟩ : ∃ wB, wB = wq.alloc (.cells #[.slice z.A zn z.c, .bool zr, .slice z.HA zm z.hc] 27) := ⟨_, rfl⟩
              have hcB : Calm wq wB := by rw [hwB]; exact (Calm.refl wq).alloc _
              have hBz : BoxR wB wq.heap.size z.A zn z.c zr z.HA zm z.hc := by rw [hwB]; exact boxR_new wq z.A zn z.c zr z.HA zm z.hc
              have hzl := List.mem_of_getElem? hz
              have hok := RegN.calm (HRow.out.2 z hzl) (HCq.out.trans hcB)
              have HZ := Lib.hid (And.intro hzn (And.intro hzr (And.intro hzm hz)))
              have HWB := Lib.hid hwB
              have HCB := Lib.hid hcB
              have HBz := Lib.hid hBz
              have hls := liveTo_succ hz
              have HLs := Lib.hid hls
              clear hrq hwB hcB hBz hzn hzr hzm hls
              by_cases h64 : 64 < zm
              · have hE : Hid (minusR x y = ([], 52)) := by
                  show minusR x y = ([], 52)
                  have ht : tooMany (pieces x y) = true := by
                    unfold tooMany
                    rw [List.any_eq_true]
                    exact ⟨z.g, by rw [← HPL.out]; exact List.mem_map.2 ⟨z, hzl, rfl⟩, by rw [HZ.out.2.2.1]; exact decide_eq_true h64⟩
                  unfold minusR
                  rw [if_neg (by rw [HV.out]; simp), if_pos ht]
                clear hzl hok
                go_wp2
                rw [← HWB.out]
                go_ret2
                exact ⟨⟨none, 0, [], by rw [hE.out]; rfl, by rw [hE.out]; rfl, (fun z hz => by cases hz), (fun h => absurd rfl h), Nat.zero_le _, Nat.zero_le _, Nat.zero_le _⟩, HC.out.trans (HC3.out.trans (HCS.out.trans (HCq.out.trans HCB.out)))⟩
              · have hra := RegN.a hok (by show z.g.hs.length ≤ 16384; rw [HZ.out.2.2.1]; omega)
                obtain ⟨vz, hvz⟩ : ∃ vz, (gLen z.g == 0) = vz := ⟨_, rfl⟩
                have hcall := void_v z.g vz zn zm zr z.A z.c z.HA z.hc wB hra hvz HZ.out.1 HZ.out.2.2.1 HZ.out.2.1
                have HVz := Lib.hid hvz
                have hI2 : Hid (∀ j z, j < i + 1 → l[j]? = some z → z.g.hs.length ≤ 64) := fun j z' hj hz' => by
                  by_cases e : j = i
                  · subst e
                    rw [HZ.out.2.2.2] at hz'
                    obtain rfl := Option.some.inj hz'
                    rw [HZ.out.2.2.1]
                    omega
                  · exact HI.out j z' (by omega) hz'
                clear hzl hok hra hvz
                cases vz with
                | true =>
                  have hl2 : Hid (liveTo l (i + 1) = liveTo l i) := by
                    show _ = _
                    rw [HLs.out, if_pos (by simpa using HVz.out)]
                    simp
                  go_wp2_with fail
                  rw [← HWB.out]
                  refine hcall.mono ?_
                  rintro e w9 ⟨rfl, hc9⟩
                  have HO9 := Lib.hid (HOq.out.to (HCB.out.trans hc9))
                  clear hc9
                  go_wp2
                  go_roundw
                  case rel => exact ⟨i + 1, A13, L13, c13, by omega, by go_num, rfl, Lib.hid (by rw [hl2.out]; exact HL13.out), Lib.hid (by rw [hl2.out]; exact HO9.out), hI2⟩
                  case measure => simp [intOf]; omega
                | false =>
                  have hl2 : Hid (liveTo l (i + 1) = liveTo l i ++ [z]) := by
                    show _ = _
                    rw [HLs.out, if_neg (by simpa using HVz.out)]
                  go_wp2_with fail
                  rw [← HWB.out]
                  refine hcall.mono ?_
                  rintro e w9 ⟨rfl, hc9⟩
                  have hb9 := HBz.out.calm hc9
                  have e0 := hb9.x0
                  have e1 := hb9.x1
                  have e2 := hb9.x2
                  have elt := hb9.lt
                  have HC9 := Lib.hid (HCB.out.trans hc9)
                  clear hb9 hc9 d0 d1 d2
                  go_wp2_with (at_builtin; refine wpList_append_g rfl (.tmp 83) (.tmp 85) rfl wS (.slice A13 L13 c13) (liveTo l i) [z] rfl (HOq.out.to (HC9.out.trans ((Calm.refl _).alloc _))) _ 1 1 rfl rfl (read_newN z HZ.out.1 HZ.out.2.1 HZ.out.2.2.1 rfl) (by rw [HL13.out]; omega) ?_; intro v8 w8 hown8 hgr8; obtain ⟨A9, c9, hv8⟩ := hown8.len_shape; rw [List.length_append, HL13.out, List.length_singleton] at hv8; subst hv8)
                  have HH := Lib.hid hown8
                  clear hown8 hgr8 e0 e1 e2 elt
                  go_wp2
                  go_roundw
                  case rel => exact ⟨i + 1, A9, L13 + 1, c9, by omega, by go_num, rfl, Lib.hid (by rw [hl2.out, List.length_append, HL13.out]; rfl), Lib.hid (by rw [hl2.out]; exact HH.out), hI2⟩
                  case measure => simp [intOf]; omega
            · obtain rfl : i = L := by omega
              have hlive : Hid ((liveTo l i).map (·.g) = liveOf (pieces x y)) := by
                show _ = _
                rw [← HPL.out, ← HLl.out]
                exact liveTo_map l
              have hE : Hid (minusR x y = (liveOf (pieces x y), 0)) := by
                show _ = _
                have ht : tooMany (pieces x y) = false := by
                  unfold tooMany
                  rw [List.any_eq_false]
                  intro g hg
                  rw [← HPL.out] at hg
                  obtain ⟨z, hz, rfl⟩ := List.mem_map.1 hg
                  obtain ⟨j, hj, e⟩ := List.mem_iff_getElem.1 hz
                  have := HI.out j z (by rw [← HLl.out]; exact hj) (by rw [List.getElem?_eq_getElem hj, e])
                  simp
                  omega
                unfold minusR
                rw [if_neg (by rw [HV.out]; simp), ht]
                rfl
              have hregs : Hid (∀ z ∈ liveTo l i, RegA wq z.A z.c z.HA z.g.b z.g.hs) := fun z hz => by
                have hzl := liveTo_sub z hz
                obtain ⟨j, hj, e⟩ := List.mem_iff_getElem.1 hzl
                have := HI.out j z (by rw [← HLl.out]; exact hj) (by rw [List.getElem?_eq_getElem hj, e])
                exact RegN.a (RegN.calm (HRow.out.2 z hzl) HCq.out) (by omega)
              have hread : Hid (ReadX encG 3 wq A13 (liveTo l i)) := by
                rcases HOq.out.row encG_len with ⟨_, h0⟩ | ⟨g, c9, hv, _, _, _, hr⟩
                · exact fun hne => absurd h0 hne
                · obtain ⟨rfl, _, _⟩ : A13 = some ⟨g, 0, none⟩ ∧ L13 = (liveTo l i).length ∧ c13 = c9 := by simpa using hv
                  exact fun _ => ⟨g, 0, rfl, hr.lt, hr.cell⟩
              have hcap : Hid ((liveTo l i).length ≤ c13 ∧ c13 ≤ 9223372036854775807) := by
                rcases HOq.out.row encG_len with ⟨hv, h0⟩ | ⟨g, c9, hv, h1, h2, _, hr⟩
                · rw [h0]
                  obtain ⟨_, _, rfl⟩ : A13 = none ∧ L13 = 0 ∧ c13 = 0 := by simpa using hv
                  exact ⟨Nat.le_refl _, Nat.zero_le _⟩
                · obtain ⟨_, _, rfl⟩ : A13 = some ⟨g, 0, none⟩ ∧ L13 = (liveTo l i).length ∧ c13 = c9 := by simpa using hv
                  exact ⟨h1, h2⟩
              have hfin : Hid (MinusEnd x y (.returned (.tuple #[.slice A13 L13 c13, .int .i64 0])) wq) :=
                ⟨A13, c13, liveTo l i, by rw [hE.out, HL13.out], by rw [hE.out]; exact hlive.out, hregs.out, hread.out, by rw [HL13.out]; omega, hcap.out.1, hcap.out.2⟩
              go_wp2
              go_ret2
              exact ⟨hfin.out, HC.out.trans (HC3.out.trans (HCS.out.trans HCq.out))⟩
  · have hb : (v == 0) = false := by simpa using h0
    have hE : Hid (minusR x y = ([], v)) := by
      show _ = _
      unfold minusR
      rw [HV.out, if_pos h0]
    clear h0
    go_enter Tryz.func13, Tryz.ntmps13
    go_wp2_with fail
    rw [← HW.out]
    refine K0.mono ?_
    rintro e w2 ⟨rfl, hc2⟩
    go_wp2
    go_ret2
    exact ⟨⟨none, 0, [], by rw [hE.out]; rfl, by rw [hE.out]; rfl, (fun z hz => by cases hz), (fun h => absurd rfl h), Nat.zero_le _, Nat.zero_le _, Nat.zero_le _⟩, HC.out.trans hc2⟩
end Go.Proofs.YtdndfkoklhfffaaGreatDoor
