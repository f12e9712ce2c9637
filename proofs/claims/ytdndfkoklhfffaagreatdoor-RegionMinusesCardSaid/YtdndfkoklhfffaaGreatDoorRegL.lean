/- The plain laws of regions: intersections, what is left. No program in sight. -/
import Derived.Test.YtdndfkoklhfffaaGreatDoorReduceL
set_option linter.unusedVariables false
set_option linter.unusedSimpArgs false
namespace Go.Proofs.YtdndfkoklhfffaaGreatDoor.Sy

structure Reg where
  b : Pat
  hs : List Pat
deriving DecidableEq, Inhabited

def gErr (g : Reg) : Int := regErr g.b g.hs
def bothErr (x y : Reg) : Int := if gErr x = 0 then gErr y else gErr x
def hasG (g : Reg) (l : List Str) : Bool := hasL g.b g.hs l
def gLen (g : Reg) : Nat := leastLen g.b g.hs
def meetG (m : Pat) (x y : Reg) : Reg := ⟨m, redL m (x.hs ++ y.hs)⟩
/-- The intersection, or none; the error. -/
def meetR (x y : Reg) : Option Reg × Int :=
  if bothErr x y ≠ 0 then (none, bothErr x y) else
  match meetP x.b y.b with
  | none => (none, 0)
  | some m => if 64 < (meetG m x y).hs.length then (none, 52) else if gLen (meetG m x y) = 0 then (none, 0) else (some (meetG m x y), 0)

theorem gErr_zero {g : Reg} (h : gErr g = 0) : patErr g.b = 0 ∧ (∀ p ∈ g.hs, patErr p = 0) ∧ g.hs.length ≤ 64 := by
  unfold gErr regErr at h
  split at h
  · cases h
  · rename_i h1
    split at h
    · cases h
    · rename_i h2
      split at h
      · cases h
      · rename_i h3
        refine ⟨by omega, fun p hp => ?_, by omega⟩
        rw [Bool.not_eq_true, List.any_eq_false] at h2
        have := h2 p hp
        simpa using this
theorem gErr_of {g : Reg} (h1 : patErr g.b = 0) (h2 : ∀ p ∈ g.hs, patErr p = 0) (h3 : g.hs.length ≤ 64) : gErr g = 0 := by
  unfold gErr
  rw [regErr_end h1 (fun j h _ hj => h2 h (List.mem_of_getElem? hj)), if_neg (by omega)]
theorem bothErr_zero {x y : Reg} (h : bothErr x y = 0) : gErr x = 0 ∧ gErr y = 0 := by
  unfold bothErr at h
  split at h
  · rename_i h1
    exact ⟨h1, h⟩
  · rename_i h1
    exact absurd h h1
theorem bothErr_of {x y : Reg} (h1 : gErr x = 0) (h2 : gErr y = 0) : bothErr x y = 0 := by rw [bothErr, if_pos h1, h2]

/-! ### the intersection -/
theorem meetG_good {x y : Reg} {m : Pat} (hm : meetP x.b y.b = some m) : patErr m = 0 ∧ ∀ p ∈ (meetG m x y).hs, patErr p = 0 := ⟨(meetP_some hm).2.2.2, fun p hp => redL_good p hp⟩
theorem meetG_has {x y : Reg} {m : Pat} (hx : gErr x = 0) (hy : gErr y = 0) (hm : meetP x.b y.b = some m) {l : List Str} (hc : l.all comp = true) : hasG (meetG m x y) l = (hasG x l && hasG y l) := by
  obtain ⟨x1, x2, _⟩ := gErr_zero hx
  obtain ⟨y1, y2, _⟩ := gErr_zero hy
  obtain ⟨_, _, h3, h4⟩ := meetP_some hm
  show hasL m (redL m (x.hs ++ y.hs)) l = (hasL x.b x.hs l && hasL y.b y.hs l)
  rw [redL_has h4 (fun p hp => (List.mem_append.1 hp).elim (x2 p) (y2 p)) hc]
  unfold hasL
  rw [meetL_match (allOk_of x1) (allOk_of y1) h3 hc, List.any_append]
  generalize x.hs.any (fun h => matchL h l) = a
  generalize y.hs.any (fun h => matchL h l) = b
  cases matchL x.b l <;> cases matchL y.b l <;> cases a <;> cases b <;> rfl
theorem meetG_none {x y : Reg} (hx : gErr x = 0) (hy : gErr y = 0) (hm : meetP x.b y.b = none) {l : List Str} (hc : l.all comp = true) : (hasG x l && hasG y l) = false := by
  rw [meetP, if_pos ⟨(gErr_zero hx).1, (gErr_zero hy).1⟩] at hm
  have := meetL_nomatch hm hc
  unfold hasG hasL
  generalize x.hs.any (fun h => matchL h l) = a
  generalize y.hs.any (fun h => matchL h l) = b
  revert this
  cases matchL x.b l <;> cases matchL y.b l <;> cases a <;> cases b <;> simp
theorem pos_of {p : Pat} (h : patErr p = 0) : 0 < p.parts.length := (patErr_iff.1 h).1
/-- An intersection that is there. -/
theorem meetR_some {x y g : Reg} (h : (meetR x y).1 = some g) : gErr x = 0 ∧ gErr y = 0 ∧ (meetR x y).2 = 0 ∧ gErr g = 0 ∧ gLen g ≠ 0 ∧ ∃ m, meetP x.b y.b = some m ∧ g = meetG m x y := by
  unfold meetR at h ⊢
  split at h
  · cases h
  · rename_i h0
    obtain ⟨hx, hy⟩ := bothErr_zero (by simpa using h0)
    rw [if_neg h0]
    rcases hm : meetP x.b y.b with _ | m
    · rw [hm] at h
      cases h
    · rw [hm] at h
      simp only at h ⊢
      split at h
      · cases h
      · rename_i h1
        split at h
        · cases h
        · rename_i h2
          obtain rfl := Option.some.inj h
          rw [if_neg h1, if_neg h2]
          obtain ⟨g1, g2⟩ := meetG_good hm
          exact ⟨hx, hy, rfl, gErr_of g1 g2 (by omega), h2, m, rfl, rfl⟩
/-- The paths of the intersection. -/
theorem meetR_has {x y : Reg} (h : (meetR x y).2 = 0) : gErr x = 0 ∧ gErr y = 0 ∧ ∀ l : List Str, l.all comp = true → (match (meetR x y).1 with | some g => hasG g l | none => false) = (hasG x l && hasG y l) := by
  by_cases h0 : bothErr x y = 0
  · obtain ⟨hx, hy⟩ := bothErr_zero h0
    refine ⟨hx, hy, fun l hc => ?_⟩
    unfold meetR at h ⊢
    rw [if_neg (by simpa using h0)] at h ⊢
    rcases hm : meetP x.b y.b with _ | m
    · exact (meetG_none hx hy hm hc).symm
    · rw [hm] at h
      simp only at h ⊢
      have hh := meetG_has hx hy hm hc
      split at h
      · cases h
      · rename_i h1
        rw [if_neg h1]
        by_cases h2 : gLen (meetG m x y) = 0
        · have h3 : hasG (meetG m x y) l = false := least_none (b := (meetG m x y).b) (pos_of (meetG_good hm).1) h2 hc
          rw [if_pos h2, ← hh, h3]
        · rw [if_neg h2]
          exact hh
  · unfold meetR at h
    rw [if_pos h0] at h
    exact absurd h h0
theorem meetG_comm (m : Pat) (x y : Reg) : meetG m x y = meetG m y x := by
  unfold meetG
  rw [redL_same (qs := y.hs ++ x.hs) (fun p => by rw [List.mem_append, List.mem_append]; exact or_comm)]
theorem bothErr_comm (x y : Reg) : bothErr x y = 0 ↔ bothErr y x = 0 :=
  ⟨fun h => bothErr_of (bothErr_zero h).2 (bothErr_zero h).1, fun h => bothErr_of (bothErr_zero h).2 (bothErr_zero h).1⟩
theorem meetR_comm (x y : Reg) : (meetR x y).1 = (meetR y x).1 ∧ ((meetR x y).2 = 0 ↔ (meetR y x).2 = 0) := by
  by_cases h0 : bothErr x y = 0
  · have h1 := (bothErr_comm x y).1 h0
    unfold meetR
    rw [if_neg (by simpa using h0), if_neg (by simpa using h1), meetP_comm y.b x.b]
    rcases meetP x.b y.b with _ | m
    · exact ⟨rfl, Iff.rfl⟩
    · simp only
      rw [meetG_comm m y x]
      exact ⟨rfl, Iff.rfl⟩
  · have h1 := fun e => h0 ((bothErr_comm x y).2 e)
    unfold meetR
    rw [if_pos h0, if_pos h1]
    exact ⟨rfl, fun h => absurd h h0, fun h => absurd h h1⟩
theorem meetP_self {p : Pat} (h : patErr p = 0) : meetP p p = some p := meetP_inside h h (insideP_refl (allOk_of h))
/-- A region with itself. -/
theorem meetR_self (x : Reg) : (meetR x x).2 = gErr x ∧ ∀ g, (meetR x x).1 = some g → g = ⟨x.b, redL x.b x.hs⟩ := by
  by_cases h0 : gErr x = 0
  · have h1 := bothErr_of h0 h0
    obtain ⟨x1, x2, x3⟩ := gErr_zero h0
    have he : meetG x.b x x = ⟨x.b, redL x.b x.hs⟩ := by
      unfold meetG
      rw [redL_same (qs := x.hs) (fun p => by rw [List.mem_append]; exact or_self_iff)]
    unfold meetR
    rw [if_neg (by simpa using h1), meetP_self x1]
    simp only
    rw [he]
    have := redL_len x.b x.hs
    rw [if_neg (show ¬ 64 < (⟨x.b, redL x.b x.hs⟩ : Reg).hs.length by simp only; omega), h0]
    split
    · exact ⟨rfl, fun g hg => by cases hg⟩
    · exact ⟨rfl, fun g hg => (Option.some.inj hg).symm⟩
  · have h1 : bothErr x x = gErr x := by rw [bothErr, if_neg h0]
    unfold meetR
    rw [if_pos (by rw [h1]; exact h0), h1]
    exact ⟨rfl, fun g hg => by cases hg⟩

/-! ### what is left -/
def cuts (y : Reg) : List Pat := redL y.b y.hs
def piece0 (x y : Reg) : Reg := ⟨x.b, redL x.b (x.hs ++ [y.b])⟩
def pieceAt (x y : Reg) (k : Nat) : Option Reg := match (cuts y)[k]? with
  | some h => (meetP x.b h).map fun m => ⟨m, redL m (x.hs ++ (cuts y).take k)⟩
  | none => none
def piecesTo (x y : Reg) (k : Nat) : List Reg := piece0 x y :: (List.range k).filterMap (pieceAt x y)
def pieces (x y : Reg) : List Reg := piecesTo x y (cuts y).length
theorem piecesTo_succ (x y : Reg) (k : Nat) : piecesTo x y (k + 1) = piecesTo x y k ++ (pieceAt x y k).toList := by
  unfold piecesTo
  rw [List.range_succ, List.filterMap_append, List.cons_append]
  rcases h : pieceAt x y k with _ | g <;> simp [h]
theorem piecesTo_len (x y : Reg) (k : Nat) : (piecesTo x y k).length ≤ k + 1 := by
  have := List.length_filterMap_le (pieceAt x y) (List.range k)
  rw [List.length_range] at this
  unfold piecesTo
  rw [List.length_cons]
  omega
def tooMany (gs : List Reg) : Bool := gs.any fun g => decide (64 < g.hs.length)
def liveOf (gs : List Reg) : List Reg := gs.filter fun g => gLen g != 0
/-- The regions that are left of x behind y; the error. -/
def minusR (x y : Reg) : List Reg × Int := if bothErr x y ≠ 0 then ([], bothErr x y) else if tooMany (pieces x y) then ([], 52) else (liveOf (pieces x y), 0)
theorem piece0_has {x y : Reg} (hx : gErr x = 0) (hy : gErr y = 0) {l : List Str} (hc : l.all comp = true) : hasG (piece0 x y) l = (hasG x l && !matchL y.b l) := by
  obtain ⟨x1, x2, _⟩ := gErr_zero hx
  obtain ⟨y1, _, _⟩ := gErr_zero hy
  show hasL x.b (redL x.b (x.hs ++ [y.b])) l = _
  rw [redL_has x1 (fun p hp => (List.mem_append.1 hp).elim (x2 p) (fun h => by rw [List.mem_singleton.1 h]; exact y1)) hc]
  unfold hasG hasL
  rw [List.any_append, List.any_cons, List.any_nil, Bool.or_false]
  generalize x.hs.any (fun h => matchL h l) = a
  cases matchL x.b l <;> cases matchL y.b l <;> cases a <;> rfl
theorem cuts_good {y : Reg} : ∀ h ∈ cuts y, patErr h = 0 := redL_good
theorem cuts_in {y : Reg} {h : Pat} (hh : h ∈ cuts y) {l : List Str} (hc : l.all comp = true) (hm : matchL h l = true) : matchL y.b l = true :=
  insideP_match (allOk_of (cuts_good h hh)) (meetsL_in h (redL_mem.1 hh).1) hc hm
theorem cuts_has {y : Reg} (hy : gErr y = 0) {l : List Str} (hc : l.all comp = true) : hasG y l = (matchL y.b l && !(cuts y).any fun h => matchL h l) := by
  obtain ⟨y1, y2, _⟩ := gErr_zero hy
  have := redL_has y1 y2 hc
  unfold hasG cuts
  rw [← this]
  rfl
def pieceHas (x y : Reg) (k : Nat) (l : List Str) : Bool := match pieceAt x y k with
  | some g => hasG g l
  | none => false
theorem pieceAt_has {x y : Reg} (hx : gErr x = 0) {k : Nat} {h : Pat} (hk : (cuts y)[k]? = some h) {l : List Str} (hc : l.all comp = true) : pieceHas x y k l = (hasG x l && matchL h l && !((cuts y).take k).any fun h => matchL h l) := by
  obtain ⟨x1, x2, _⟩ := gErr_zero hx
  have hg := cuts_good h (List.mem_of_getElem? hk)
  unfold pieceHas pieceAt
  rw [hk]
  simp only
  rcases hm : meetP x.b h with _ | m
  · rw [meetP, if_pos ⟨x1, hg⟩] at hm
    have := meetL_nomatch hm hc
    simp only [Option.map_none]
    unfold hasG hasL
    revert this
    generalize x.hs.any (fun h => matchL h l) = a
    cases matchL x.b l <;> cases matchL h l <;> cases a <;> simp
  · obtain ⟨_, _, h3, h4⟩ := meetP_some hm
    simp only [Option.map_some]
    show hasL m (redL m (x.hs ++ (cuts y).take k)) l = _
    rw [redL_has h4 (fun p hp => (List.mem_append.1 hp).elim (x2 p) (fun h => cuts_good p (List.mem_of_mem_take h))) hc]
    unfold hasG hasL
    rw [meetL_match (allOk_of x1) (allOk_of hg) h3 hc, List.any_append]
    generalize x.hs.any (fun h => matchL h l) = a
    generalize ((cuts y).take k).any (fun h => matchL h l) = b
    cases matchL x.b l <;> cases matchL h l <;> cases a <;> cases b <;> rfl
theorem pieces_count {x y : Reg} (hx : gErr x = 0) {l : List Str} (hc : l.all comp = true) : ∀ k, k ≤ (cuts y).length → ((List.range k).filterMap (pieceAt x y)).countP (fun g => hasG g l) = if (hasG x l && ((cuts y).take k).any fun h => matchL h l) then 1 else 0
  | 0, _ => by simp
  | k + 1, hk => by
    have ih := pieces_count (y := y) hx hc k (by omega)
    have hkk := List.getElem?_eq_getElem (show k < (cuts y).length by omega)
    have hp := pieceAt_has hx hkk hc
    rw [List.range_succ, List.filterMap_append, List.countP_append, ih]
    rw [List.take_succ_eq_append_getElem (show k < (cuts y).length by omega), List.any_append, List.any_cons, List.any_nil, Bool.or_false]
    have e : ([k].filterMap (pieceAt x y)).countP (fun g => hasG g l) = if pieceHas x y k l then 1 else 0 := by
      unfold pieceHas
      rcases h : pieceAt x y k with _ | g
      · simp [h]
      · simp [h, List.countP_cons]
    rw [e, hp]
    generalize hasG x l = a
    generalize ((cuts y).take k).any (fun h => matchL h l) = b
    generalize matchL (cuts y)[k] l = d
    cases a <;> cases b <;> cases d <;> rfl
/-- Of the pieces one has the path, if x has it and y has not. -/
theorem all_count {x y : Reg} (hx : gErr x = 0) (hy : gErr y = 0) {l : List Str} (hc : l.all comp = true) : (pieces x y).countP (fun g => hasG g l) = if (hasG x l && !hasG y l) then 1 else 0 := by
  unfold pieces piecesTo
  rw [List.countP_cons, pieces_count hx hc _ (Nat.le_refl _), List.take_length, piece0_has hx hy hc, cuts_has hy hc]
  have hin : ((cuts y).any fun h => matchL h l) = true → matchL y.b l = true := fun h => by
    obtain ⟨p, hp, hm⟩ := List.any_eq_true.1 h
    exact cuts_in hp hc hm
  revert hin
  generalize (cuts y).any (fun h => matchL h l) = a
  cases hasG x l <;> cases matchL y.b l <;> cases a <;> simp
theorem piece_good {x y : Reg} (hx : gErr x = 0) : ∀ g ∈ pieces x y, patErr g.b = 0 ∧ ∀ p ∈ g.hs, patErr p = 0 := by
  intro g hg
  rcases List.mem_cons.1 hg with rfl | hg
  · exact ⟨(gErr_zero hx).1, fun p hp => redL_good p hp⟩
  · obtain ⟨k, _, hk⟩ := List.mem_filterMap.1 hg
    unfold pieceAt at hk
    split at hk
    · rcases hm : meetP x.b _ with _ | m
      · rw [hm] at hk
        cases hk
      · rw [hm] at hk
        obtain rfl := Option.some.inj hk
        exact ⟨(meetP_some hm).2.2.2, fun p hp => redL_good p hp⟩
    · cases hk
theorem live_count {gs : List Reg} (hg : ∀ g ∈ gs, patErr g.b = 0) {l : List Str} (hc : l.all comp = true) : (liveOf gs).countP (fun g => hasG g l) = gs.countP (fun g => hasG g l) := by
  induction gs with
  | nil => rfl
  | cons g r ih =>
    have ih := ih (fun y hy => hg y (by simp [hy]))
    unfold liveOf at ih ⊢
    rw [List.filter_cons, List.countP_cons]
    split
    · rw [List.countP_cons, ih]
    · rename_i h
      have h0 : gLen g = 0 := by simpa using h
      have := least_none (pos_of (hg g (by simp))) h0 hc
      rw [ih]
      have e : hasG g l = false := this
      rw [e]
      simp
/-- The regions that are left: each is a region with paths; a path lies in one of them, if x has it and y has not. -/
theorem minusR_zero {x y : Reg} (h : (minusR x y).2 = 0) : gErr x = 0 ∧ gErr y = 0 ∧ (∀ g ∈ (minusR x y).1, gErr g = 0 ∧ gLen g ≠ 0) ∧ ∀ l : List Str, l.all comp = true → (minusR x y).1.countP (fun g => hasG g l) = if (hasG x l && !hasG y l) then 1 else 0 := by
  by_cases h0 : bothErr x y = 0
  · obtain ⟨hx, hy⟩ := bothErr_zero h0
    unfold minusR at h ⊢
    rw [if_neg (by simpa using h0)] at h ⊢
    split at h
    · cases h
    · rename_i h1
      rw [if_neg h1]
      refine ⟨hx, hy, fun g hg => ?_, fun l hc => ?_⟩
      · obtain ⟨g1, g2⟩ := List.mem_filter.1 hg
        obtain ⟨p1, p2⟩ := piece_good hx g g1
        refine ⟨gErr_of p1 p2 ?_, by simpa using g2⟩
        rw [tooMany, Bool.not_eq_true, List.any_eq_false] at h1
        have := h1 g g1
        simpa using this
      · show (liveOf _).countP _ = _
        rw [live_count (fun g hg => (piece_good hx g hg).1) hc, all_count hx hy hc]
  · unfold minusR at h
    rw [if_pos h0] at h
    exact absurd h h0

/-! ### the parts -/
def partsR (x y : Reg) : List Reg := (minusR x y).1 ++ (meetR x y).1.toList
theorem parts_count {x y : Reg} (h1 : (meetR x y).2 = 0) (h2 : (minusR x y).2 = 0) {l : List Str} (hc : l.all comp = true) : (partsR x y).countP (fun g => hasG g l) = if hasG x l then 1 else 0 := by
  unfold partsR
  rw [List.countP_append, (minusR_zero h2).2.2.2 l hc]
  have := (meetR_has h1).2.2 l hc
  have e : (meetR x y).1.toList.countP (fun g => hasG g l) = if (hasG x l && hasG y l) then 1 else 0 := by
    rw [← this]
    rcases (meetR x y).1 with _ | g <;> simp [List.countP_cons]
  rw [e]
  cases hasG x l <;> cases hasG y l <;> rfl
theorem parts_good {x y : Reg} (h2 : (minusR x y).2 = 0) : ∀ g ∈ partsR x y, gErr g = 0 ∧ gLen g ≠ 0 := by
  intro g hg
  rcases List.mem_append.1 hg with hg | hg
  · exact (minusR_zero h2).2.2.1 g hg
  · have hg' : (meetR x y).1 = some g := by
      rcases h : (meetR x y).1 with _ | g'
      · rw [h] at hg
        cases hg
      · rw [h] at hg
        rw [List.mem_singleton.1 hg]
    obtain ⟨_, _, _, h4, h5, _⟩ := meetR_some hg'
    exact ⟨h4, h5⟩
theorem count_two {α : Type} {p : α → Bool} : ∀ (L : List α) (i k : Nat) (a b : α), k < i → L[k]? = some a → L[i]? = some b → p a = true → p b = true → 2 ≤ L.countP p
  | [], i, k, a, b, _, h, _, _, _ => by simp at h
  | c :: L, 0, k, a, b, h, _, _, _, _ => absurd h (Nat.not_lt_zero _)
  | c :: L, i + 1, 0, a, b, _, h1, h2, ha, hb => by
    simp only [List.getElem?_cons_zero, Option.some.injEq] at h1
    simp only [List.getElem?_cons_succ] at h2
    subst h1
    rw [List.countP_cons, if_pos ha]
    have : 0 < L.countP p := List.countP_pos_iff.2 ⟨b, List.mem_of_getElem? h2, hb⟩
    omega
  | c :: L, i + 1, k + 1, a, b, h, h1, h2, ha, hb => by
    simp only [List.getElem?_cons_succ] at h1 h2
    have := count_two L i k a b (by omega) h1 h2 ha hb
    rw [List.countP_cons]
    omega
/-- No two of the parts meet. -/
theorem parts_disj {x y : Reg} (h1 : (meetR x y).2 = 0) (h2 : (minusR x y).2 = 0) {i k : Nat} {a b : Reg} (hik : k < i) (hk : (partsR x y)[k]? = some a) (hi : (partsR x y)[i]? = some b) : (meetR b a).1 = none := by
  rcases hm : (meetR b a).1 with _ | g
  · rfl
  · exfalso
    obtain ⟨hb, ha, h0, hg, hl, _⟩ := meetR_some hm
    obtain ⟨g1, _, g3⟩ := gErr_zero hg
    have hin := least_in (allOk_of g1) g3 hl
    have hc := comps_comp (allOk_of g1) g.hs (leastLen g.b g.hs) (leastLen g.b g.hs)
    obtain ⟨l, hl2⟩ : ∃ l, comps g.b g.hs (leastLen g.b g.hs) (leastLen g.b g.hs) = l := ⟨_, rfl⟩
    rw [hl2] at hin hc
    have := (meetR_has h0).2.2 l hc
    rw [hm] at this
    simp only at this
    have hgl : hasG g l = true := hin
    rw [hgl] at this
    have hab : hasG b l = true ∧ hasG a l = true := by
      rw [← Bool.and_eq_true]
      exact this.symm
    have h3 := count_two (p := fun g => hasG g l) (partsR x y) i k a b hik hk hi hab.2 hab.1
    rw [parts_count h1 h2 hc] at h3
    split at h3 <;> omega
/-- There are parts, if there is a path. -/
theorem parts_empty {x y : Reg} (h1 : (meetR x y).2 = 0) (h2 : (minusR x y).2 = 0) : gLen x = 0 ↔ partsR x y = [] := by
  obtain ⟨hx, _, _⟩ := meetR_has h1
  obtain ⟨x1, _, x3⟩ := gErr_zero hx
  constructor
  · intro h0
    apply Classical.byContradiction
    intro hne
    obtain ⟨g, hg⟩ := List.exists_mem_of_ne_nil _ hne
    obtain ⟨hg1, hg2⟩ := parts_good h2 g hg
    obtain ⟨g1, _, g3⟩ := gErr_zero hg1
    have hin := least_in (allOk_of g1) g3 hg2
    have hc := comps_comp (allOk_of g1) g.hs (leastLen g.b g.hs) (leastLen g.b g.hs)
    have h4 := parts_count h1 h2 hc
    have h5 : hasG x (comps g.b g.hs (leastLen g.b g.hs) (leastLen g.b g.hs)) = false := least_none (pos_of x1) h0 hc
    rw [h5] at h4
    have h6 : 0 < (partsR x y).countP (fun g' => hasG g' (comps g.b g.hs (leastLen g.b g.hs) (leastLen g.b g.hs))) := List.countP_pos_iff.2 ⟨g, hg, hin⟩
    simp at h4
    rw [List.countP_pos_iff] at h6
    obtain ⟨g', hg', hh'⟩ := h6
    have := h4 g' hg'
    rw [hh'] at this
    cases this
  · intro he
    apply Classical.byContradiction
    intro h0
    have hin := least_in (allOk_of x1) x3 h0
    have hc := comps_comp (allOk_of x1) x.hs (leastLen x.b x.hs) (leastLen x.b x.hs)
    have h4 := parts_count h1 h2 hc
    have h5 : hasG x (comps x.b x.hs (leastLen x.b x.hs) (leastLen x.b x.hs)) = true := hin
    rw [h5, he] at h4
    simp at h4
end Go.Proofs.YtdndfkoklhfffaaGreatDoor.Sy
