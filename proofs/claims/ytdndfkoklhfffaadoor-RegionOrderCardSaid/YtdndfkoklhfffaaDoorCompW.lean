/- Walks: slices.CompactFunc, slices.ContainsFunc over holes; the closure that tells whether a hole lies inside another. -/
import Derived.Test.YtdndfkoklhfffaaDoorHoleW
import Derived.IntWalk
import Derived.Lib.SliceRun
set_option linter.unusedVariables false
set_option linter.unusedSimpArgs false
namespace Go.Proofs.YtdndfkoklhfffaaDoor
open Go Go.RowKit Sy

def keepsH (l : List NewP) (j : Nat) : Bool := j == 0 || !(patText (l.getD j default).p == patText (l.getD (j - 1) default).p)
def dedTo (l : List NewP) (m : Nat) : List NewP := ((List.range m).filter (keepsH l)).map fun j => l.getD j default
theorem dedTo_succ (l : List NewP) (m : Nat) : dedTo l (m + 1) = dedTo l m ++ (if keepsH l m then [l.getD m default] else []) := by
  unfold dedTo
  rw [List.range_succ, List.filter_append, List.map_append]
  congr 1
  by_cases h : keepsH l m <;> simp [h]
theorem getD_some {l : List NewP} {j : Nat} {x : NewP} (h : l[j]? = some x) : l.getD j default = x := by simp [List.getD_eq_getElem?_getD, h]
theorem dedTo_all {l : List NewP} {m : Nat} (hm : m ≤ l.length) (h : ∀ j, j < m → keepsH l j = true) : dedTo l m = l.take m := by
  unfold dedTo
  rw [List.filter_eq_self.2 (fun j hj => h j (List.mem_range.1 hj))]
  apply List.ext_getElem
  · simp [hm]
  · intro i h1 h2
    have hi : i < m := by simpa using h1
    simp [List.getD_eq_getElem?_getD, show i < l.length by omega]
theorem dedTo_sub {l : List NewP} {m : Nat} (hm : m ≤ l.length) : ∀ x ∈ dedTo l m, x ∈ l := fun x hx => by
  obtain ⟨j, hj, rfl⟩ := List.mem_map.1 hx
  have hj := List.mem_range.1 (List.mem_filter.1 hj).1
  rw [getD_some (List.getElem?_eq_getElem (show j < l.length by omega))]
  exact List.getElem_mem _
theorem dedTo_mem {l : List NewP} (hg : ∀ x ∈ l, patErr x.p = 0) (y : Pat) : y ∈ (dedTo l l.length).map (·.p) ↔ y ∈ l.map (·.p) := by
  constructor
  · intro h
    obtain ⟨x, hx, rfl⟩ := List.mem_map.1 h
    exact List.mem_map.2 ⟨x, dedTo_sub (Nat.le_refl _) x hx, rfl⟩
  · intro h
    obtain ⟨x, hx, rfl⟩ := List.mem_map.1 h
    obtain ⟨j, hj, e⟩ := List.mem_iff_getElem.1 hx
    subst e
    have key : ∀ j (hj : j < l.length), (l[j]).p ∈ (dedTo l l.length).map (·.p) := fun j => by
      induction j with
      | zero =>
        intro hj
        refine List.mem_map.2 ⟨l[0], List.mem_map.2 ⟨0, List.mem_filter.2 ⟨List.mem_range.2 hj, rfl⟩, getD_some (List.getElem?_eq_getElem hj)⟩, rfl⟩
      | succ j ih =>
        intro hj
        by_cases hk : keepsH l (j + 1) = true
        · exact List.mem_map.2 ⟨l[j + 1], List.mem_map.2 ⟨j + 1, List.mem_filter.2 ⟨List.mem_range.2 hj, hk⟩, getD_some (List.getElem?_eq_getElem hj)⟩, rfl⟩
        · have e : patText (l[j + 1]).p = patText (l[j]).p := by
            unfold keepsH at hk
            rw [getD_some (List.getElem?_eq_getElem hj), show j + 1 - 1 = j by omega, getD_some (List.getElem?_eq_getElem (show j < l.length by omega))] at hk
            simpa using hk
          rw [patText_inj (hg _ (List.getElem_mem _)) (hg _ (List.getElem_mem _)) e]
          exact ih (by omega)
    exact key j hj
theorem dedTo_strict {l : List NewP} (hs : l.Pairwise (fun x y => leT x.p y.p)) : ((dedTo l l.length).map (·.p)).Pairwise ltT := by
  unfold dedTo
  rw [List.pairwise_map, List.pairwise_map]
  refine List.Pairwise.imp_of_mem ?_ (List.Pairwise.filter _ List.pairwise_lt_range)
  intro i j hi hj hij
  have hj2 := List.mem_filter.1 hj
  have hjl := List.mem_range.1 hj2.1
  have hil : i < l.length := by omega
  obtain ⟨t, rfl⟩ : ∃ t, j = t + 1 := ⟨j - 1, by omega⟩
  have hk := hj2.2
  unfold keepsH at hk
  rw [getD_some (List.getElem?_eq_getElem hjl), show t + 1 - 1 = t by omega, getD_some (List.getElem?_eq_getElem (show t < l.length by omega))] at hk
  rw [getD_some (List.getElem?_eq_getElem hil), getD_some (List.getElem?_eq_getElem hjl)]
  have hne : patText (l[t + 1]).p ≠ patText (l[t]).p := by simpa using hk
  have hpw := List.pairwise_iff_getElem.1 hs
  have h1 : leT (l[t]).p (l[t + 1]).p := hpw t (t + 1) (by omega) hjl (by omega)
  have h2 : ltT (l[t]).p (l[t + 1]).p := by
    have : Lib.compareBytes (patText (l[t]).p) (patText (l[t + 1]).p) ≠ 0 := fun e => hne (cmp_zero.1 e).symm
    unfold leT at h1
    unfold ltT
    omega
  by_cases e : i = t
  · subst e
    exact h2
  · have h3 : leT (l[i]).p (l[t]).p := hpw i t hil (by omega) (by omega)
    by_cases h4 : Lib.compareBytes (patText (l[i]).p) (patText (l[t]).p) = 0
    · unfold ltT at h2 ⊢
      rw [cmp_zero.1 h4]
      exact h2
    · exact ltT_trans (by unfold leT at h3; unfold ltT; omega) h2

structure CompI (l : List NewP) (m k : Nat) (L : List NewP) : Prop where
  size : L.length = l.length
  len : (dedTo l m).length = k
  lt : k < m
  low : ∀ j, j < k → (dedTo l m)[j]? = L[j]?
  high : ∀ j, k ≤ j → L[j]? = l[j]?
theorem CompI.start {l : List NewP} {k0 : Nat} (hk0 : k0 < l.length) (hall : ∀ j, j < k0 → keepsH l j = true) (hdup : keepsH l k0 = false) : CompI l (k0 + 1) k0 l := by
  have e : dedTo l (k0 + 1) = l.take k0 := by rw [dedTo_succ, hdup, dedTo_all (by omega) hall]; simp
  exact ⟨rfl, by rw [e]; simp; omega, Nat.lt_succ_self _, fun j hj => by rw [e, List.getElem?_take, if_pos hj], fun _ _ => rfl⟩
theorem CompI.keep {l L : List NewP} {m k : Nat} {x : NewP} (h : CompI l m k L) (hm : l[m]? = some x) (hk : keepsH l m = true) : CompI l (m + 1) (k + 1) (L.set k x) := by
  have hml := (List.getElem?_eq_some_iff.1 hm).1
  have e : dedTo l (m + 1) = dedTo l m ++ [x] := by rw [dedTo_succ, hk, if_pos rfl, getD_some hm]
  refine ⟨by rw [List.length_set]; exact h.size, by rw [e, List.length_append, h.len]; rfl, by have := h.lt; omega, fun j hj => ?_, fun j hj => ?_⟩
  · rw [e]
    by_cases hjk : j = k
    · subst hjk
      rw [List.getElem?_append_right (by rw [h.len]; exact Nat.le_refl _), h.len, Nat.sub_self, List.getElem?_set_self (by have := h.lt; rw [h.size]; omega)]
      rfl
    · rw [List.getElem?_append_left (by rw [h.len]; omega), List.getElem?_set_ne (Ne.symm hjk)]
      exact h.low j (by omega)
  · rw [List.getElem?_set_ne (by omega)]
    exact h.high j (by omega)
theorem CompI.skip {l L : List NewP} {m k : Nat} (h : CompI l m k L) (hk : keepsH l m = false) : CompI l (m + 1) k L := by
  have e : dedTo l (m + 1) = dedTo l m := by rw [dedTo_succ, hk]; simp
  exact ⟨h.size, by rw [e]; exact h.len, by have := h.lt; omega, fun j hj => by rw [e]; exact h.low j hj, h.high⟩
theorem CompI.mem {l L : List NewP} {m k : Nat} (h : CompI l m k L) (hm : m ≤ l.length) : ∀ x ∈ L, x ∈ l := fun x hx => by
  obtain ⟨j, hj, e⟩ := List.mem_iff_getElem.1 hx
  subst e
  by_cases hjk : j < k
  · have := h.low j hjk
    rw [List.getElem?_eq_getElem hj] at this
    exact dedTo_sub hm _ (List.mem_of_getElem? this)
  · have := h.high j (by omega)
    rw [List.getElem?_eq_getElem hj] at this
    exact List.mem_of_getElem? this.symm
/-- The three cells of a hole. -/
theorem RowX.at3 {w : World} {g : Nat} {T : TypeId} {l : List NewP} (h : RowX encH 3 T w g 0 l) {k : Nat} {x : NewP} (hk : l[k]? = some x) :
    w.cell? ⟨g, k * 3, none⟩ = some (.slice x.A x.p.parts.length x.c) ∧ w.cell? ⟨g, k * 3 + 1, none⟩ = some (.bool x.p.rest) ∧ w.cell? ⟨g, k * 3 + 2, none⟩ = some (.string (bs (patText x.p))) := by
  have h0 := h.cell k x hk 0 _ rfl
  have h1 := h.cell k x hk 1 _ rfl
  have h2 := h.cell k x hk 2 _ rfl
  rw [Nat.zero_add] at h0 h1 h2
  exact ⟨h0, h1, h2⟩

/-- What is asked of the test on two holes: are the texts equal? -/
def EqH (g : Nat) : Prop := ∀ (x y : NewP) (v : Bool) (W : World), (patText x.p == patText y.p) = v → Calls Tryd.prog g #[.agg #[.slice x.A x.p.parts.length x.c, .bool x.p.rest, .string (bs (patText x.p))], .agg #[.slice y.A y.p.parts.length y.c, .bool y.p.rest, .string (bs (patText y.p))]] W fun e w' => e = .returned (.bool v) ∧ Calm W w'
def CompEnd (l : List NewP) (T : TypeId) (g c : Nat) (w : World) (e : Ending) (w' : World) : Prop := e = .returned (.slice (some ⟨g, 0, none⟩) (dedTo l l.length).length c) ∧ RowX encH 3 T w' g 0 (dedTo l l.length) ∧ w.grownBy w' (some g)
theorem run_clear_x {P : Program} (w : World) (t e ty : TypeId) (z : Value) (K : Nat) (ht : P.underlying t = some (.slice e)) (hv : ∀ w, (zeroValue e).run P w = .ok z w) (hz : z.cells.size = K) (hone : ∀ u ∈ z.cells.toList, u.oneCell' = true) (hK : 0 < K) (b o n c : Nat) (hn : 0 < n)
    (hc : ∀ j, j < n * K → (w.cell? ⟨b, o + j, none⟩).isSome = true) (hf : ∀ j, j < n * K → w.frozen? ⟨b, o + j, none⟩ = false) :
    (Builtin.clear_ #[t] ty #[.slice (some ⟨b, o, none⟩) n c]).run P w = .ok (.tuple #[]) (w.setCells b o (Builtin.zeroCells z.cells n).toList) ∧ (Builtin.zeroCells z.cells n).toList.length = n * K := by
  have hlen : (Builtin.zeroCells z.cells n).toList.length = n * K := by simp [Builtin.zeroCells, hz]
  have hone' : ∀ v ∈ (Builtin.zeroCells z.cells n).toList, v.oneCell' = true := by
    intro v hv'
    simp only [Builtin.zeroCells, Array.toList_map, List.mem_map] at hv'
    obtain ⟨i, _, rfl⟩ := hv'
    have hi : i % z.cells.size < z.cells.size := Nat.mod_lt _ (by rw [hz]; exact hK)
    rw [getElem!_pos z.cells _ hi]
    exact hone _ (by simp)
  have hst := run_storeCells_cells (P := P) b o (Builtin.zeroCells z.cells n).toList 0 w (by rw [hlen]; simpa using hc) (by rw [hlen]; simpa using hf) hone'
  simp only [Nat.add_zero] at hst
  obtain ⟨m, rfl⟩ : ∃ m, n = m + 1 := ⟨n - 1, by omega⟩
  exact ⟨by simp [Builtin.clear_, run_underlying ht, hv, hst], hlen⟩

set_option maxHeartbeats 8000000 in
theorem compf_c (f : Nat) (eg : ∀ args w, (callFunc f args).run Tryd.prog w = .ok (.enter f args) w) (hf : EqH f) (l : List NewP) (g c : Nat) (w : World) (hr : RowX encH 3 101 w g 0 l) (hl : l.length ≤ 1000000) (hlc : l.length ≤ c) (hc : c ≤ 9223372036854775807) :
    Calls Tryd.prog 84 #[.slice (some ⟨g, 0, none⟩) l.length c, .func (.func f) #[] #[]] w fun e w' => CompEnd l 101 g c w e w' := by
  obtain ⟨n, hn⟩ : ∃ n, l.length = n := ⟨_, rfl⟩
  rw [hn] at hl hlc
  have HN := Lib.hid hn
  have HR := Lib.hid hr
  have HF := Lib.hid hf
  rw [hn]
  clear hn hr hf
  have HAll : Hid ((∀ j, j < n → keepsH l j = true) → ∀ w', w.grownBy w' (some g) → RowX encH 3 101 w' g 0 l → CompEnd l 101 g c w (.returned (.slice (some ⟨g, 0, none⟩) n c)) w') := fun h w' hg hr' => by
    have e : dedTo l l.length = l := by rw [dedTo_all (Nat.le_refl _) (fun j hj => h j (by rw [← HN.out]; exact hj)), List.take_length]
    exact ⟨by rw [e, HN.out], by rw [e]; exact hr', hg⟩
  by_cases h2 : n < 2
  · go_enter Tryd.func84, Tryd.ntmps84
    go_wp2
    go_ret
    exact HAll.out (fun j hj => by
      rcases j with _ | j
      · rfl
      · omega) w (calm_grown (Calm.refl w)) HR.out
  · go_enter Tryd.func84, Tryd.ntmps84
    go_wp2_with fail
    go_loopw [5] (fun u wr => ∃ J : Nat, 1 ≤ J ∧ J ≤ n ∧ u = .int .i64 J ∧ Hid (∀ j, j < J → keepsH l j = true) ∧ Hid (Calm w wr)) (fun u _ => n - (intOf u).toNat)
    case atStart => exact ⟨1, Nat.le_refl _, by omega, rfl, (fun j hj => by
      have e : j = 0 := by omega
      rw [e]
      rfl), Calm.refl _⟩
    case round =>
      obtain ⟨J, hJ1, hJn, rfl, HK, HC⟩ := hrel
      by_cases hlt : J < n
      · obtain ⟨x, hx⟩ : ∃ x, l[J]? = some x := ⟨_, List.getElem?_eq_getElem (by rw [HN.out]; exact hlt)⟩
        obtain ⟨y, hy⟩ : ∃ y, l[J - 1]? = some y := ⟨_, List.getElem?_eq_getElem (by rw [HN.out]; omega)⟩
        have hrw := HR.out.calm HC.out
        obtain ⟨cx0, cx1, cx2⟩ := hrw.at3 hx
        obtain ⟨cy0, cy1, cy2⟩ := hrw.at3 hy
        obtain ⟨v, hv⟩ : ∃ v, (patText x.p == patText y.p) = v := ⟨_, rfl⟩
        have K1 := Lib.hid (fun p : CalmTo wr => HF.out x y v p.w hv)
        have e0 := fun p : CalmTo wr => p.cell cx0 hrw.lt
        have e1 := fun p : CalmTo wr => p.cell cx1 hrw.lt
        have e2 := fun p : CalmTo wr => p.cell cx2 hrw.lt
        have e3 := fun p : CalmTo wr => p.cell cy0 hrw.lt
        have e4 := fun p : CalmTo wr => p.cell cy1 hrw.lt
        have e5 := fun p : CalmTo wr => p.cell cy2 hrw.lt
        have hkv : Hid (keepsH l J = !v) := by
          show keepsH l J = !v
          unfold keepsH
          rw [getD_some hx, getD_some hy, hv]
          have : (J == 0) = false := by simp; omega
          rw [this]
          rfl
        have HRw := Lib.hid hrw
        have z1 : IntKind.i64.wrap ((J : Int) - 1) = (J : Int) - 1 := IntWalk.i64_in _ (by omega)
        have z2 : (0 : Int) ≤ (J : Int) - 1 := by omega
        have z3 : ((J : Int) - 1).toNat = J - 1 := by omega
        have z4 : (J : Int) - 1 < (n : Int) := by omega
        clear hrw hx hy hv cx0 cx1 cx2 cy0 cy1 cy2
        go_wp2_with fail
        refine wp_region_calm (by kernel_rfl) (by kernel_rfl) ?_
        repeat (go_big_quiet_step ((go_at_fn f; exact calmOf (K1.out _))))
        refine wpQuiet_nil ?_
        intro w3 hc3
        have HC3 := Lib.hid (HC.out.trans hc3)
        have HR3 := Lib.hid (HRw.out.calm hc3)
        clear e0 e1 e2 e3 e4 e5 z1 z2 z3 z4 hc3
        cases v with
        | false =>
          go_wp2
          go_roundw
          case rel =>
            refine ⟨J + 1, by omega, by omega, by go_num, fun j hj => ?_, HC3.out⟩
            by_cases e : j = J
            · rw [e]
              exact hkv.out
            · exact HK.out j (by omega)
          case measure => simp [intOf]; omega
        | true =>
          have hJc : J ≤ c := by omega
          go_wp2_with fail
          go_loopw [5, 7] (fun u5 u7 wr => ∃ (kk k2 : Nat) (L : List NewP), u5 = .int .i64 kk ∧ u7 = .int .i64 k2 ∧ 1 ≤ k2 ∧ J + k2 ≤ n ∧ kk < J + k2 ∧ Hid (CompI l (J + k2) kk L) ∧ Hid (RowX encH 3 101 wr g 0 L) ∧ Hid (w.grownBy wr (some g))) (fun _ u7 _ => n - J - (intOf u7).toNat)
          case atStart => exact ⟨J, 1, l, rfl, rfl, Nat.le_refl _, by omega, by omega, CompI.start (by rw [HN.out]; exact hlt) HK.out hkv.out, HR3.out, calm_grown HC3.out⟩
          case round =>
            obtain ⟨kk, k2, L, rfl, rfl, hk1, hk2, hkk, HI, HRL, HG⟩ := hrel
            have hLl : Hid (L.length = n) := HI.out.size.trans HN.out
            by_cases hlt2 : J + k2 < n
            · obtain ⟨x2, hx⟩ : ∃ x2, l[J + k2]? = some x2 := ⟨_, List.getElem?_eq_getElem (by rw [HN.out]; exact hlt2)⟩
              obtain ⟨y2, hy⟩ : ∃ y2, l[J + (k2 - 1)]? = some y2 := ⟨_, List.getElem?_eq_getElem (by rw [HN.out]; omega)⟩
              have hX : L[J + k2]? = some x2 := (HI.out.high _ (by omega)).trans hx
              have hY : L[J + (k2 - 1)]? = some y2 := (HI.out.high _ (by omega)).trans hy
              obtain ⟨cx0, cx1, cx2⟩ := HRL.out.at3 hX
              obtain ⟨cy0, cy1, cy2⟩ := HRL.out.at3 hY
              rw [Nat.add_mul] at cx0 cx1 cx2 cy0 cy1 cy2
              obtain ⟨v2, hv⟩ : ∃ v2, (patText x2.p == patText y2.p) = v2 := ⟨_, rfl⟩
              have K2 := Lib.hid (fun p : CalmTo wr => HF.out x2 y2 v2 p.w hv)
              have e0 := fun p : CalmTo wr => p.cell cx0 HRL.out.lt
              have e1 := fun p : CalmTo wr => p.cell cx1 HRL.out.lt
              have e2 := fun p : CalmTo wr => p.cell cx2 HRL.out.lt
              have e3 := fun p : CalmTo wr => p.cell cy0 HRL.out.lt
              have e4 := fun p : CalmTo wr => p.cell cy1 HRL.out.lt
              have e5 := fun p : CalmTo wr => p.cell cy2 HRL.out.lt
              have hkv2 : Hid (keepsH l (J + k2) = !v2) := by
                show keepsH l (J + k2) = !v2
                unfold keepsH
                rw [getD_some hx, show J + k2 - 1 = J + (k2 - 1) by omega, getD_some hy, hv]
                have : (J + k2 == 0) = false := by simp; omega
                rw [this]
                rfl
              have z1 : IntKind.i64.wrap ((k2 : Int) - 1) = (k2 : Int) - 1 := IntWalk.i64_in _ (by omega)
              have z2 : (0 : Int) ≤ (k2 : Int) - 1 := by omega
              have z3 : ((k2 : Int) - 1).toNat = k2 - 1 := by omega
              have z4 : (k2 : Int) - 1 < ((n - J : Nat) : Int) := by omega
              have z5 : (k2 : Int) < ((n - J : Nat) : Int) := by omega
              have HX2 := Lib.hid (And.intro hx hX)
              clear hx hy hX hY hv cx0 cx1 cx2 cy0 cy1 cy2
              go_wp2_with fail
              refine wp_region_calm (by kernel_rfl) (by kernel_rfl) ?_
              repeat (go_big_quiet_step ((go_at_fn f; exact calmOf (K2.out _))))
              refine wpQuiet_nil ?_
              intro w4 hc4
              have HR4 := Lib.hid (HRL.out.calm hc4)
              have HG4 := Lib.hid (HG.out.trans (calm_grown hc4))
              clear e0 e1 e2 e3 e4 e5 z1 z2 z3 z4 hc4
              cases v2 with
              | true =>
                go_wp2
                go_roundw
                case rel => exact ⟨kk, k2 + 1, L, rfl, by go_num, by omega, by omega, by omega, HI.out.skip hkv2.out, HR4.out, HG4.out⟩
                case measure => simp [intOf]; omega
              | false =>
                obtain ⟨y3, hy3⟩ : ∃ y3, L[kk]? = some y3 := ⟨_, List.getElem?_eq_getElem (by rw [hLl.out]; omega)⟩
                obtain ⟨cx0, cx1, cx2⟩ := HR4.out.at3 HX2.out.2
                obtain ⟨cy0, cy1, cy2⟩ := HR4.out.at3 hy3
                rw [Nat.add_mul] at cx0 cx1 cx2
                have f0 := HR4.out.free (kk * 3)
                have f1 := HR4.out.free (kk * 3 + 1)
                have f2 := HR4.out.free (kk * 3 + 2)
                have hput : Hid (RowX encH 3 101 (((w4.setCell ⟨g, kk * 3, none⟩ (.slice x2.A x2.p.parts.length x2.c)).setCell ⟨g, kk * 3 + 1, none⟩ (.bool x2.p.rest)).setCell ⟨g, kk * 3 + 2, none⟩ (.string (bs (patText x2.p)))) g 0 (L.set kk x2)) := by
                  have := HR4.out.put encH_len (k := kk) (by rw [hLl.out]; omega) x2
                  rw [Nat.zero_add] at this
                  exact this
                have hgr : Hid (w.grownBy (((w4.setCell ⟨g, kk * 3, none⟩ (.slice x2.A x2.p.parts.length x2.c)).setCell ⟨g, kk * 3 + 1, none⟩ (.bool x2.p.rest)).setCell ⟨g, kk * 3 + 2, none⟩ (.string (bs (patText x2.p)))) (some g)) := HG4.out.trans (grown_setCells g (kk * 3) (encH x2))
                have hkn : kk < n := by omega
                clear hy3
                go_wp2
                go_roundw
                case rel => exact ⟨kk + 1, k2 + 1, L.set kk x2, by go_num, by go_num, by omega, by omega, by omega, HI.out.keep HX2.out.1 hkv2.out, hput.out, hgr.out⟩
                case measure => simp [intOf]; omega
            · have hend : J + k2 = n := by omega
              have hkn : kk < n := by omega
              obtain ⟨hcl, hzl⟩ : (∀ ty, (Builtin.clear_ #[99] ty #[.slice (some ⟨g, kk * 3, none⟩) (n - kk) (c - kk)]).run Tryd.prog wr = .ok (.tuple #[]) (wr.setCells g (kk * 3) (Builtin.zeroCells (Value.agg #[.slice none 0 0, .bool false, .string ⟨#[]⟩]).cells (n - kk)).toList)) ∧ True := by
                refine ⟨fun ty => ?_, trivial⟩
                exact (run_clear_x wr 99 101 ty (.agg #[.slice none 0 0, .bool false, .string ⟨#[]⟩]) 3 Tryd.underlying99 Tryd.zeroValue101 rfl (by simp [Value.cells, Value.oneCell']) (by decide) g (kk * 3) (n - kk) (c - kk) (by omega) (fun j hj => by
                  have hjk : kk + j / 3 < n := by omega
                  have := HRL.out.cell (kk + j / 3) _ (List.getElem?_eq_getElem (by rw [hLl.out]; exact hjk)) (j % 3) _ (List.getElem?_eq_getElem (by rw [encH_len]; omega))
                  rw [show 0 + (kk + j / 3) * 3 + j % 3 = kk * 3 + j by omega] at this
                  rw [this]
                  rfl) (fun j hj => HRL.out.free _)).1
              have hfin : Hid (CompEnd l 101 g c w (.returned (.slice (some ⟨g, 0, none⟩) kk c)) (wr.setCells g (kk * 3) (Builtin.zeroCells (Value.agg #[.slice none 0 0, .bool false, .string ⟨#[]⟩]).cells (n - kk)).toList)) := by
                have hI := HI.out
                rw [hend] at hI
                have hl2 : (dedTo l l.length).length = kk := by rw [HN.out]; exact hI.len
                refine ⟨by rw [hl2], ⟨kind_setCells (w := wr) _ _ _ HRL.out.kind, fun k x hk i u hu => ?_⟩, HG.out.trans (grown_setCells g (kk * 3) _)⟩
                have hkl : k < kk := by rw [← hl2]; exact (List.getElem?_eq_some_iff.1 hk).1
                have hi : i < 3 := (List.getElem?_eq_some_iff.1 hu).1
                rw [HN.out, hI.low k hkl] at hk
                rw [World.cell?_setCells_out g _ (kk * 3) wr ⟨g, 0 + k * 3 + i, none⟩ (fun _ _ => .inl (by show 0 + k * 3 + i < kk * 3; omega))]
                exact HRL.out.cell k x hk i u hu
              generalize (Builtin.zeroCells (Value.agg #[.slice none 0 0, .bool false, .string ⟨#[]⟩]).cells (n - kk)).toList = zs at hcl hfin
              clear hend
              go_wp2
              go_ret
              exact hfin.out
      · obtain rfl : J = n := by omega
        have hE := Lib.hid (HAll.out HK.out wr (calm_grown HC.out) (HR.out.calm HC.out))
        go_wp2
        go_ret
        exact hE.out
end Go.Proofs.YtdndfkoklhfffaaDoor
