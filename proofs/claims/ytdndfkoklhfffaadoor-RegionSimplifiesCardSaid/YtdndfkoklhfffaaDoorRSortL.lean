/- The reference's way to simplify, as lists: the sort by exchange, the keeping. No program in sight. -/
import Derived.Test.YtdndfkoklhfffaaDoorRed3W
set_option linter.unusedVariables false
set_option linter.unusedSimpArgs false
namespace Go.Proofs.YtdndfkoklhfffaaDoor
open Go Go.RowKit Sy

theorem less_cmp : ∀ x y : Str, Op.bytesLess x y = decide (Lib.compareBytes x y < 0)
  | [], [] => by simp [Op.bytesLess, Lib.compareBytes]
  | a :: x, [] => by simp [Op.bytesLess, Lib.compareBytes]
  | [], b :: y => by simp [Op.bytesLess, Lib.compareBytes]
  | a :: x, b :: y => by
    have ih := less_cmp x y
    unfold Op.bytesLess Lib.compareBytes
    by_cases h1 : a < b
    · simp [h1]
    · by_cases h2 : b < a
      · have hne : a ≠ b := fun e => by subst e; exact UInt8.lt_irrefl a h2
        simp [h1, h2, hne]
      · have : a = b := UInt8.le_antisymm (UInt8.not_lt.1 h2) (UInt8.not_lt.1 h1)
        subst this
        simp [h1, ih]
/-- Up to the place i all but the one at k are in order. -/
def Srt (l : List NewP) (i k : Nat) : Prop := ∀ (a b : Nat) (x y : NewP), a < b → b ≤ i → b ≠ k → l[a]? = some x → l[b]? = some y → leT x.p y.p
/-- The first i are in order. -/
def SrtTo (l : List NewP) (i : Nat) : Prop := ∀ (a b : Nat) (x y : NewP), a < b → b < i → l[a]? = some x → l[b]? = some y → leT x.p y.p
theorem srt_start {l : List NewP} {i : Nat} (h : SrtTo l i) : Srt l i i := fun a b x y hab hb hne hx hy => h a b x y hab (by omega) hx hy
theorem srt_zero {l : List NewP} {i : Nat} (h : Srt l i 0) : SrtTo l (i + 1) := fun a b x y hab hb hx hy => h a b x y hab (by omega) (by omega) hx hy
theorem leT_of_not {p q : Pat} (h : Op.bytesLess (patText q) (patText p) = false) : leT p q := by
  rw [less_cmp, decide_eq_false_iff_not] at h
  unfold leT
  have := cmp_neg (patText p) (patText q)
  omega
theorem leT_of_lt {p q : Pat} (h : Op.bytesLess (patText p) (patText q) = true) : leT p q := by
  rw [less_cmp, decide_eq_true_eq] at h
  unfold leT
  omega
theorem srt_done {l : List NewP} {i k : Nat} {x y : NewP} (h : Srt l i (k + 1)) (hki : k + 1 ≤ i) (hx : l[k]? = some x) (hy : l[k + 1]? = some y) (hn : Op.bytesLess (patText y.p) (patText x.p) = false) : SrtTo l (i + 1) := by
  intro a b u v hab hb hu hv
  by_cases e : b = k + 1
  · subst e
    rw [hy] at hv
    obtain rfl := Option.some.inj hv
    have hxy := leT_of_not hn
    by_cases e2 : a = k
    · subst e2
      rw [hx] at hu
      obtain rfl := Option.some.inj hu
      exact hxy
    · exact leT_trans (h a k u x (by omega) (by omega) (by omega) hu hx) hxy
  · exact h a b u v hab (by omega) e hu hv
theorem srt_step {l : List NewP} {i k : Nat} {x y : NewP} (h : Srt l i (k + 1)) (hki : k + 1 ≤ i) (hil : i < l.length) (hx : l[k]? = some x) (hy : l[k + 1]? = some y) (hlt : Op.bytesLess (patText y.p) (patText x.p) = true) : Srt ((l.set (k + 1) x).set k y) i k := by
  have hyx := leT_of_lt hlt
  have e0 : ((l.set (k + 1) x).set k y)[k]? = some y := List.getElem?_set_self (by rw [List.length_set]; omega)
  have e1 : ((l.set (k + 1) x).set k y)[k + 1]? = some x := by
    rw [List.getElem?_set_ne (by omega)]
    exact List.getElem?_set_self (by omega)
  have e2 : ∀ j, j ≠ k → j ≠ k + 1 → ((l.set (k + 1) x).set k y)[j]? = l[j]? := fun j h1 h2 => by
    rw [List.getElem?_set_ne (Ne.symm h1), List.getElem?_set_ne (Ne.symm h2)]
  intro a b u v hab hb hne hu hv
  by_cases hb1 : b = k + 1
  · subst hb1
    rw [e1] at hv
    obtain rfl := Option.some.inj hv
    by_cases ha : a = k
    · subst ha
      rw [e0] at hu
      obtain rfl := Option.some.inj hu
      exact hyx
    · rw [e2 a ha (by omega)] at hu
      exact h a k u x (by omega) (by omega) (by omega) hu hx
  · rw [e2 b hne hb1] at hv
    by_cases ha : a = k
    · subst ha
      rw [e0] at hu
      obtain rfl := Option.some.inj hu
      exact h (a + 1) b y v (by omega) hb hb1 hy hv
    · by_cases ha1 : a = k + 1
      · subst ha1
        rw [e1] at hu
        obtain rfl := Option.some.inj hu
        exact h k b x v (by omega) hb hb1 hx hv
      · rw [e2 a ha ha1] at hu
        exact h a b u v hab hb hb1 hu hv
theorem swap_mem {l : List NewP} {k : Nat} {x y : NewP} (hx : l[k]? = some x) (hy : l[k + 1]? = some y) (z : NewP) : z ∈ (l.set (k + 1) x).set k y ↔ z ∈ l := by
  obtain ⟨hkl, hx2⟩ := List.getElem?_eq_some_iff.1 hx
  obtain ⟨hkl1, hy2⟩ := List.getElem?_eq_some_iff.1 hy
  have e0 : ((l.set (k + 1) x).set k y)[k]? = some y := List.getElem?_set_self (by rw [List.length_set]; omega)
  have e1 : ((l.set (k + 1) x).set k y)[k + 1]? = some x := by
    rw [List.getElem?_set_ne (by omega)]
    exact List.getElem?_set_self (by omega)
  have e2 : ∀ j, j ≠ k → j ≠ k + 1 → ((l.set (k + 1) x).set k y)[j]? = l[j]? := fun j h1 h2 => by
    rw [List.getElem?_set_ne (Ne.symm h1), List.getElem?_set_ne (Ne.symm h2)]
  constructor
  · intro h
    obtain ⟨j, hj⟩ := List.mem_iff_getElem?.1 h
    by_cases h1 : j = k
    · subst h1
      rw [e0] at hj
      obtain rfl := Option.some.inj hj
      exact List.mem_of_getElem? hy
    · by_cases h2 : j = k + 1
      · subst h2
        rw [e1] at hj
        obtain rfl := Option.some.inj hj
        exact List.mem_of_getElem? hx
      · rw [e2 j h1 h2] at hj
        exact List.mem_of_getElem? hj
  · intro h
    obtain ⟨j, hj⟩ := List.mem_iff_getElem?.1 h
    by_cases h1 : j = k
    · subst h1
      rw [hx] at hj
      obtain rfl := Option.some.inj hj
      exact List.mem_of_getElem? e1
    · by_cases h2 : j = k + 1
      · subst h2
        rw [hy] at hj
        obtain rfl := Option.some.inj hj
        exact List.mem_of_getElem? e0
      · rw [← e2 j h1 h2] at hj
        exact List.mem_of_getElem? hj
theorem srtTo_pairwise {l : List NewP} (h : SrtTo l l.length) : (l.map (·.p)).Pairwise leT := by
  rw [List.pairwise_map, List.pairwise_iff_getElem]
  intro i j hi hj hij
  exact h i j _ _ hij hj (List.getElem?_eq_getElem hi) (List.getElem?_eq_getElem hj)

/-! ### the keeping -/
/-- Is the hole x at the place i thrown out by the hole y at the place j? -/
def outR (i j : Nat) (x y : Pat) : Bool := decide (i ≠ j) && insideP x y && (decide (j < i) || decide (x ≠ y))
def keepTo (l : List NewP) (i : Nat) (x : Pat) (j : Nat) : Bool := (List.range j).all fun t => match l[t]? with
  | some y => !outR i t x y.p
  | none => true
theorem keepTo_zero (l : List NewP) (i : Nat) (x : Pat) : keepTo l i x 0 = true := rfl
theorem keepTo_succ {l : List NewP} {i j : Nat} {x : Pat} {y : NewP} (hy : l[j]? = some y) : keepTo l i x (j + 1) = (keepTo l i x j && !outR i j x y.p) := by
  unfold keepTo
  rw [List.range_succ, List.all_append, List.all_cons, List.all_nil, Bool.and_true, hy]
theorem keepTo_end {l : List NewP} {i : Nat} {x : NewP} (hx : l[i]? = some x) : keepTo l i x.p l.length = keepR (l.map (·.p)) i := by
  unfold keepTo keepR
  rw [List.length_map]
  rw [Bool.eq_iff_iff, List.all_eq_true, List.all_eq_true]
  refine forall_congr' fun j => forall_congr' fun _ => ?_
  rw [List.getElem?_map, List.getElem?_map, hx]
  rcases l[j]? with _ | y
  · simp
  · simp only [Option.map_some]
    unfold outR
    rfl
/-- Of the first n those that are kept. -/
def keptR (l : List NewP) (n : Nat) : List NewP := (List.range n).filterMap fun i => if keepR (l.map (·.p)) i then l[i]? else none
theorem keptR_succ {l : List NewP} {i : Nat} {x : NewP} (hx : l[i]? = some x) : keptR l (i + 1) = keptR l i ++ (if keepR (l.map (·.p)) i then [x] else []) := by
  unfold keptR
  rw [List.range_succ, List.filterMap_append]
  congr 1
  by_cases h : keepR (l.map (·.p)) i = true
  · simp [h, hx]
  · simp [h]
theorem keptR_map (l : List NewP) (n : Nat) : (keptR l n).map (·.p) = refKeep (l.map (·.p)) n := by
  unfold keptR refKeep
  rw [List.map_filterMap]
  congr 1
  funext i
  split
  · rw [List.getElem?_map]
  · rfl
theorem keptR_sub {l : List NewP} {n : Nat} : ∀ x ∈ keptR l n, x ∈ l := fun x hx => by
  obtain ⟨i, _, hi⟩ := List.mem_filterMap.1 hx
  split at hi
  · exact List.mem_of_getElem? hi
  · cases hi
theorem keptR_len (l : List NewP) (n : Nat) : (keptR l n).length ≤ n := by
  have := List.length_filterMap_le (fun i => if keepR (l.map (·.p)) i then l[i]? else none) (List.range n)
  rw [List.length_range] at this
  exact this
end Go.Proofs.YtdndfkoklhfffaaDoor
