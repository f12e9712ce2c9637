/- Walks: small and awake of the laws of views. -/
import Derived.Test.YtoaelfdkamgdaaaDoorViewF
import Derived.Deep.RegionLaw
set_option linter.unusedVariables false
set_option linter.unusedSimpArgs false
namespace Go.Proofs.YtoaelfdkamgdaaaDoor
open Go Go.RowKit Sy

/-- An append of a slice of strings, nil or not, to a row of strings of the call's own, as a step of a region that draws its order. -/
theorem step_app {ops : Array Oper} {o : Oper} {a : Act} {w : World} {K : Act → World → Prop} {Q : Exit → Act → World → Prop} {E : Prop}
    (hg : o.guard = none) (s x : Operand) (hop : o.op = Op.call { callee := Callee.builtin Builtin.append, args := #[s, x], argTypes := #[23, 23] })
    (w0 : World) (v : Value) (ls : List Str) (hs : a.eval s = v) (hown : OwnS w0 w v ls) (AX : Option Addr) (m c : Nat) (hx : a.eval x = .slice AX m c) (news : List Str) (hm : news.length = m) (hrd : StrsU w AX news) (hl : ls.length + m ≤ 4000000)
    (hK : ∀ v' w', OwnS w0 w' v' (ls ++ news) → K (a.put o.dst v') w') :
    if Region.wanted o (yielded ops a.tmps) = true then Oper.wp Tryd.prog o a w K Q else E := by
  have hw : Region.wanted o (yielded ops a.tmps) = true := by simp [Region.wanted, hg]
  rw [if_pos hw]
  obtain ⟨i0, hi0, hz0, hz1, hz2⟩ := info_parts info_strE
  have hrun : ∃ v' w', (Builtin.append_ #[23, 23] o.type #[v, .slice AX m c]).run Tryd.prog w = .ok v' w' ∧ OwnS w0 w' v' (ls ++ news) := by
    cases AX with
    | none =>
      have h0 : news = [] := by
        cases news with
        | nil => rfl
        | cons y t =>
          obtain ⟨b, o', hA, _⟩ := hrd.at_ (by simp)
          cases hA
      subst h0
      obtain rfl : 0 = m := by simpa using hm
      refine ⟨v, w, ?_, by rw [List.append_nil]; exact hown⟩
      rcases hown.own.2 with ⟨rfl, h1⟩ | ⟨g, cap, cur, rfl, _, _, hnc, _⟩
      · simp [Builtin.append_, run_underlying Tryd.underlying23, sizeOf, typeInfo, hi0, Builtin.lenOf, Builtin.firstCells]
      · simp [Builtin.append_, run_underlying Tryd.underlying23, sizeOf, typeInfo, hi0, Builtin.lenOf, Builtin.firstCells, hnc, storeCells]
    | some ad =>
      have hnews : ∀ (j : Nat) (u : Value), (strCells news)[j]? = some u → w.cell? (ad.add j) = some u := fun j u hj => by
        simp only [strCells, List.getElem?_map, Option.map_eq_some_iff] at hj
        obtain ⟨l, hl1, rfl⟩ := hj
        obtain ⟨b, o', hA, hb, hk⟩ := hrd.at_ (by have := (List.getElem?_eq_some_iff.1 hl1).1; omega)
        obtain rfl := Option.some.inj hA
        simpa [Addr.add_lit] using hk j l hl1
      have h1 : ∀ u ∈ strCells news, u.oneCell' = true := fun u hu => by
        obtain ⟨l, _, rfl⟩ := List.mem_map.1 hu
        rfl
      obtain ⟨v', w', hr, h2, h3, _⟩ := run_append_own (P := Tryd.prog) w w0.heap.size 23 o.type 9 i0 _ 1 16 Tryd.underlying23 hi0 hz0 hz1 hz2 rfl (by decide) v ls.length (strCells ls) hown.own ad m c (strCells news) (by rw [strCells, List.length_map, hm, Nat.mul_one]) hnews h1 (by unfold maxLen; omega) (by omega) hown.calm.size
      exact ⟨v', w', hr, Below.trans hown.calm (owns_below hown.own hown.calm.size h3), by rw [List.length_append, hm]; simpa [strCells] using h2⟩
  obtain ⟨v', w', hr, h2⟩ := hrun
  unfold Oper.wp
  simp [execOp, hop, resolve, invoke, builtin, hs, hx, Result.andThen]
  rw [hr]
  exact hK v' w' h2

def partsOf (r : Rule) : List Str := r.left.parts ++ r.right.parts
def sumTo (v : List Rule) (k : Nat) : Nat := ((v.take k).map fun r => (partsOf r).length).sum
def smallW (v : List Rule) : Bool := (v.all fun r => (partsOf r).all fun x => decide (x.length ≤ 60)) && decide (v.length ≤ 20) && decide (sumTo v v.length ≤ 200)
theorem sumTo_succ {v : List Rule} {k : Nat} {r : Rule} (h : v[k]? = some r) : sumTo v (k + 1) = sumTo v k + (r.left.parts.length + r.right.parts.length) := by
  obtain ⟨hlt, rfl⟩ := List.getElem?_eq_some_iff.1 h
  rw [sumTo, List.take_succ_eq_append_getElem hlt, List.map_append, List.sum_append, sumTo]
  simp [partsOf]
theorem le_sum_mem : ∀ {l : List Nat} {x : Nat}, x ∈ l → x ≤ l.sum
  | y :: l, x, h => by
    rw [List.sum_cons]
    rcases List.mem_cons.1 h with rfl | h
    · omega
    · have := le_sum_mem h
      omega
theorem sumTo_le (v : List Rule) {k : Nat} {r : Rule} (h : v[k]? = some r) : (partsOf r).length ≤ sumTo v v.length := by
  rw [sumTo, List.take_length]
  exact le_sum_mem (List.mem_map.2 ⟨r, List.mem_of_getElem? h, rfl⟩)
theorem smallW_small {v : List Rule} (h : smallW v = true) : (∀ r ∈ v, SmallV r) ∧ v.length ≤ 20 := by
  rw [smallW, Bool.and_eq_true, Bool.and_eq_true, decide_eq_true_eq, decide_eq_true_eq] at h
  refine ⟨fun r hr => ?_, h.1.2⟩
  obtain ⟨j, hj, e⟩ := List.mem_iff_getElem.1 hr
  have h1 := sumTo_le v (List.getElem?_eq_getElem hj)
  rw [e] at h1
  have h2 := List.all_eq_true.1 (List.all_eq_true.1 h.1.1 r hr)
  have h3 : (partsOf r).length = r.left.parts.length + r.right.parts.length := by rw [partsOf, List.length_append]
  exact ⟨by omega, fun x hx => by simpa using h2 x (List.mem_append_left _ hx), by omega, fun x hx => by simpa using h2 x (List.mem_append_right _ hx)⟩

set_option maxHeartbeats 4000000 in
theorem smallv_c (v : List Rule) (y : Bool) (A : Option Addr) (n c : Nat) (w : World) (hv : RulesU w A v) (hn : v.length = n) (hy : smallW v = y) :
    Calls Tryd.prog 11 #[.slice A n c] w fun e w' => e = .returned (.bool y) ∧ Calm w w' := by
  have hlen := hv.len
  rw [hn] at hlen
  have HN := Lib.hid hn
  have HV := Lib.hid hv
  have HY := Lib.hid hy
  clear hn hv hy
  go_enter Tryd.func11, Tryd.ntmps11
  go_wp2_with fail
  go_loopw [3, 10] (fun u q wr => ∃ (k S : Nat), k ≤ n ∧ q = .int .i64 k ∧ u = .int .i64 S ∧ S ≤ k * 2097154 ∧ Hid (sumTo v k = S) ∧ Hid (∀ j r, j < k → v[j]? = some r → ∀ x ∈ partsOf r, x.length ≤ 60) ∧ Hid (Calm w wr)) (fun _ q _ => n - (intOf q).toNat)
  case atStart => exact ⟨0, 0, Nat.zero_le _, rfl, rfl, Nat.zero_le _, rfl, fun j r hj => absurd hj (Nat.not_lt_zero _), Calm.refl _⟩
  case round =>
    obtain ⟨k, S, hk, rfl, rfl, hS, HS, HG, HC⟩ := hrel
    by_cases hlt : k < n
    · obtain ⟨b, o, r, a, rfl, hb, hr, hat, hru⟩ := (HV.out.calm HC.out).get (k := k) (by rw [HN.out]; exact hlt)
      have hss := sumTo_succ hr
      rw [HS.out] at hss
      have hll := hru.lr.len
      have hrl := hru.rr.len
      have HR := Lib.hid hr
      have HSS := Lib.hid hss
      have c0 := hat.c0
      have c1 := hat.c1
      have c2 := hat.c2
      have c3 := hat.c3
      have c4 := hat.c4
      obtain ⟨nl, hnl⟩ : ∃ nl, r.left.parts.length = nl := ⟨_, rfl⟩
      obtain ⟨nr, hnr⟩ : ∃ nr, r.right.parts.length = nr := ⟨_, rfl⟩
      obtain ⟨lr, hlr⟩ : ∃ lr, r.left.rest = lr := ⟨_, rfl⟩
      obtain ⟨rr, hrr⟩ : ∃ rr, r.right.rest = rr := ⟨_, rfl⟩
      obtain ⟨ex, hex⟩ : ∃ ex, r.excl = ex := ⟨_, rfl⟩
      rw [hnl] at hll c1
      rw [hnr] at hrl c3
      rw [hlr] at c2
      rw [hrr] at c4
      rw [hex] at c0
      rw [hnl, hnr] at hss
      obtain ⟨wB, hwB⟩ : ∃ wB, wB = wr.alloc (.cells #[.bool ex, .slice a.AL nl a.cl, .bool lr, .slice a.AR nr a.cr, .bool rr] 27) := ⟨_, rfl⟩
      have hcB : Calm wr wB := by rw [hwB]; exact (Calm.refl wr).alloc _
      have hUB := hru.calm hcB
      have hzB : wr.heap.size < wB.heap.size := by rw [hwB]; simp
      have g1 : wB.cell? ⟨wr.heap.size, 1, none⟩ = some (.slice a.AL nl a.cl) := by rw [hwB]; simp
      have g3 : wB.cell? ⟨wr.heap.size, 3, none⟩ = some (.slice a.AR nr a.cr) := by rw [hwB]; simp
      have HB := Lib.hid hwB
      have HU := Lib.hid hUB
      have HCB := Lib.hid hcB
      have HNl := Lib.hid (And.intro hnl hnr)
      clear hr hss hat hru hnl hnr hlr hrr hex hwB hUB hcB
      have hlm : (r.left.parts ++ r.right.parts).length = nl + nr := by rw [List.length_append, HNl.out.1, HNl.out.2]
      go_wp2
      rw [← HB.out]
      go_region_law ((first
        | (refine step_app rfl (.const (.slice none 0 0)) (.tmp 27) rfl wB (.slice none 0 0) [] rfl (OwnS.nil (by first | exact Calm.refl _ | exact (Calm.refl _).drewN _)) a.AL nl a.cl (by simp [Act.eval, Act.put]) r.left.parts HNl.out.1 (HU.out.lr.calm (by first | exact Calm.refl _ | exact (Calm.refl _).drewN _)) (by simp; omega) ?_; intro v5 w5 hown5; have q3 := hown5.calm.at_ g3 hzB)
        | (refine step_app rfl (.tmp 28) (.tmp 31) rfl wB v5 r.left.parts (by simp [Act.eval, Act.put]) (hown5.to (by first | exact Calm.refl _ | exact (Calm.refl _).drewN _)) a.AR nr a.cr (by simp [Act.eval, Act.put]) r.right.parts HNl.out.2 (HU.out.rr.calm (hown5.calm.trans (by first | exact Calm.refl _ | exact (Calm.refl _).drewN _))) (by rw [HNl.out.1]; omega) ?_; intro v6 w6 hown6; obtain ⟨A9, c9, hv9, hle9, hat9⟩ := owns_strs hown6.own; rw [hlm] at hv9; subst hv9)))
      all_goals
        have hpl : Hid (∀ x ∈ r.left.parts ++ r.right.parts, x.length ≤ 1048576) := fun x hx => by
          rcases List.mem_append.1 hx with h | h
          · exact HU.out.lr.each x h
          · exact HU.out.rr.each x h
        have H6 := Lib.hid hown6
        have HAt := Lib.hid hat9
        clear hown6 hat9 hown5 q3 g1 g3 hle9
        simp only [List.getElem_toArray, List.getElem_cons_succ, List.getElem_cons_zero, Act.put, List.setIfInBounds_toArray, List.set_cons_succ, List.set_cons_zero]
        go_wp2
        go_loop [34] (fun q => ∃ i : Nat, i ≤ nl + nr ∧ q = .int .i64 i ∧ Hid (∀ j x, j < i → (r.left.parts ++ r.right.parts)[j]? = some x → x.length ≤ 60)) (fun q => (nl + nr) - (intOf q).toNat)
        case atStart => exact ⟨0, Nat.zero_le _, rfl, fun j x hj => absurd hj (Nat.not_lt_zero _)⟩
        case round =>
          obtain ⟨i, hi, rfl, HI⟩ := hrel
          by_cases hilt : i < nl + nr
          · obtain ⟨g, rfl, _, hg, hcells⟩ := HAt.out (by rw [hlm]; omega)
            obtain ⟨x, hx⟩ : ∃ x, (r.left.parts ++ r.right.parts)[i]? = some x := ⟨_, List.getElem?_eq_getElem (by rw [hlm]; exact hilt)⟩
            have hcx := hcells i x hx
            have hxl := hpl.out x (List.mem_of_getElem? hx)
            have HX := Lib.hid hx
            clear hcells hx
            have hsz := bs_size x
            by_cases h60 : x.length ≤ 60
            · go_wp2
              go_round
              case rel =>
                refine ⟨i + 1, by omega, by go_num, fun j z hj hz => ?_⟩
                by_cases e : j = i
                · subst e
                  rw [HX.out] at hz
                  cases hz
                  exact h60
                · exact HI.out j z (by omega) hz
              case measure => simp [intOf]; omega
            · have hE : Hid (smallW v = false) := by
                show smallW v = false
                have : (v.all fun r => (partsOf r).all fun x => decide (x.length ≤ 60)) = false := by
                  rw [List.all_eq_false]
                  refine ⟨r, List.mem_of_getElem? HR.out, ?_⟩
                  rw [Bool.not_eq_true, List.all_eq_false]
                  exact ⟨x, List.mem_of_getElem? HX.out, by simpa using h60⟩
                rw [smallW, this]
                rfl
              go_wp2
              go_ret
              exact ⟨ret_bool (by rw [← HY.out, hE.out]), HC.out.trans (HCB.out.trans H6.out.calm)⟩
          · obtain rfl : i = nl + nr := by omega
            go_wp2
            go_roundw
            case rel =>
              refine ⟨k + 1, S + (nl + nr), by omega, by go_num, by go_num, by omega, (by show sumTo v (k + 1) = _; rw [HSS.out, HNl.out.1, HNl.out.2]), fun j q hj hq x hx => ?_, HC.out.trans (HCB.out.trans H6.out.calm)⟩
              by_cases e : j = k
              · subst e
                rw [HR.out] at hq
                cases hq
                obtain ⟨t, ht, rfl⟩ := List.mem_iff_getElem.1 hx
                have ht' : t < nl + nr := by rw [← hlm]; exact ht
                exact HI.out t _ ht' (List.getElem?_eq_getElem ht)
              · exact HG.out j q (by omega) hq x hx
            case measure => simp [intOf]; omega
    · obtain rfl : k = n := by omega
      have hE : Hid (smallW v = (decide (k ≤ 20) && decide (S ≤ 200))) := by
        show smallW v = _
        have h1 : (v.all fun r => (partsOf r).all fun x => decide (x.length ≤ 60)) = true := List.all_eq_true.2 fun q hq => List.all_eq_true.2 fun x hx => by
          obtain ⟨j, hj, e⟩ := List.mem_iff_getElem.1 hq
          simpa using HG.out j q (by rw [← HN.out]; exact hj) (by rw [← e]; exact List.getElem?_eq_getElem hj) x hx
        rw [smallW, h1, HN.out, HS.out]
        rfl
      by_cases h20 : k ≤ 20
      · by_cases h200 : S ≤ 200
        · go_wp2
          go_ret
          exact ⟨ret_bool (by rw [← HY.out, hE.out]; simp [h20, h200]; omega), HC.out⟩
        · go_wp2
          go_ret
          exact ⟨ret_bool (by rw [← HY.out, hE.out]; simp [h20, h200]; omega), HC.out⟩
      · go_wp2
        go_ret
        exact ⟨ret_bool (by rw [← HY.out, hE.out]; simp [h20]), HC.out⟩
end Go.Proofs.YtoaelfdkamgdaaaDoor
