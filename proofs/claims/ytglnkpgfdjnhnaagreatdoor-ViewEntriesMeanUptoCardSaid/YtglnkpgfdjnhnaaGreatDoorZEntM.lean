/- Entries in memory; the holes on the way. -/
import Derived.Test.YtglnkpgfdjnhnaaGreatDoorZReduceL
import Derived.Test.YtglnkpgfdjnhnaaGreatDoorZNarL
import Derived.Test.YtglnkpgfdjnhnaaGreatDoorZViewLaw
import Derived.Test.YtglnkpgfdjnhnaaGreatDoorZPatsB
import Derived.Test.YtglnkpgfdjnhnaaGreatDoorZKinds
import Derived.Test.YtglnkpgfdjnhnaaGreatDoorZRRule
set_option linter.unusedVariables false
set_option linter.unusedSimpArgs false
namespace Go.Proofs.YtglnkpgfdjnhnaaGreatDoor.Sy

structure Reg where
  b : Pat
  hs : List Pat
deriving DecidableEq, Inhabited

def gErr (g : Reg) : Int := regErr g.b g.hs
def bothErr (x y : Reg) : Int := if gErr x = 0 then gErr y else gErr x
def hasG (g : Reg) (l : List Str) : Bool := hasL g.b g.hs l
def gLen (g : Reg) : Nat := leastLen g.b g.hs
def meetG (m : Pat) (x y : Reg) : Reg := ⟨m, redL m (x.hs ++ y.hs)⟩
/-- The intersection, or none; the error. -/
def meetR (x y : Reg) : Option Reg × Int :=
  if bothErr x y ≠ 0 then (none, bothErr x y) else
  match meetP x.b y.b with
  | none => (none, 0)
  | some m => if 64 < (meetG m x y).hs.length then (none, 52) else if gLen (meetG m x y) = 0 then (none, 0) else (some (meetG m x y), 0)

theorem gErr_zero {g : Reg} (h : gErr g = 0) : patErr g.b = 0 ∧ (∀ p ∈ g.hs, patErr p = 0) ∧ g.hs.length ≤ 64 := by
  unfold gErr regErr at h
  split at h
  · cases h
  · rename_i h1
    split at h
    · cases h
    · rename_i h2
      split at h
      · cases h
      · rename_i h3
        refine ⟨by omega, fun p hp => ?_, by omega⟩
        rw [Bool.not_eq_true, List.any_eq_false] at h2
        have := h2 p hp
        simpa using this
theorem gErr_of {g : Reg} (h1 : patErr g.b = 0) (h2 : ∀ p ∈ g.hs, patErr p = 0) (h3 : g.hs.length ≤ 64) : gErr g = 0 := by
  unfold gErr
  rw [regErr_end h1 (fun j h _ hj => h2 h (List.mem_of_getElem? hj)), if_neg (by omega)]
theorem bothErr_zero {x y : Reg} (h : bothErr x y = 0) : gErr x = 0 ∧ gErr y = 0 := by
  unfold bothErr at h
  split at h
  · rename_i h1
    exact ⟨h1, h⟩
  · rename_i h1
    exact absurd h h1
theorem bothErr_of {x y : Reg} (h1 : gErr x = 0) (h2 : gErr y = 0) : bothErr x y = 0 := by rw [bothErr, if_pos h1, h2]

/-! ### the intersection -/
theorem meetG_good {x y : Reg} {m : Pat} (hm : meetP x.b y.b = some m) : patErr m = 0 ∧ ∀ p ∈ (meetG m x y).hs, patErr p = 0 := ⟨(meetP_some hm).2.2.2, fun p hp => redL_good p hp⟩
theorem meetG_has {x y : Reg} {m : Pat} (hx : gErr x = 0) (hy : gErr y = 0) (hm : meetP x.b y.b = some m) {l : List Str} (hc : l.all comp = true) : hasG (meetG m x y) l = (hasG x l && hasG y l) := by
  obtain ⟨x1, x2, _⟩ := gErr_zero hx
  obtain ⟨y1, y2, _⟩ := gErr_zero hy
  obtain ⟨_, _, h3, h4⟩ := meetP_some hm
  show hasL m (redL m (x.hs ++ y.hs)) l = (hasL x.b x.hs l && hasL y.b y.hs l)
  rw [redL_has h4 (fun p hp => (List.mem_append.1 hp).elim (x2 p) (y2 p)) hc]
  unfold hasL
  rw [meetL_match (allOk_of x1) (allOk_of y1) h3 hc, List.any_append]
  generalize x.hs.any (fun h => matchL h l) = a
  generalize y.hs.any (fun h => matchL h l) = b
  cases matchL x.b l <;> cases matchL y.b l <;> cases a <;> cases b <;> rfl
theorem meetG_none {x y : Reg} (hx : gErr x = 0) (hy : gErr y = 0) (hm : meetP x.b y.b = none) {l : List Str} (hc : l.all comp = true) : (hasG x l && hasG y l) = false := by
  rw [meetP, if_pos ⟨(gErr_zero hx).1, (gErr_zero hy).1⟩] at hm
  have := meetL_nomatch hm hc
  unfold hasG hasL
  generalize x.hs.any (fun h => matchL h l) = a
  generalize y.hs.any (fun h => matchL h l) = b
  revert this
  cases matchL x.b l <;> cases matchL y.b l <;> cases a <;> cases b <;> simp
theorem pos_of {p : Pat} (h : patErr p = 0) : 0 < p.parts.length := (patErr_iff.1 h).1
/-- An intersection that is there. -/
theorem meetR_some {x y g : Reg} (h : (meetR x y).1 = some g) : gErr x = 0 ∧ gErr y = 0 ∧ (meetR x y).2 = 0 ∧ gErr g = 0 ∧ gLen g ≠ 0 ∧ ∃ m, meetP x.b y.b = some m ∧ g = meetG m x y := by
  unfold meetR at h ⊢
  split at h
  · cases h
  · rename_i h0
    obtain ⟨hx, hy⟩ := bothErr_zero (by simpa using h0)
    rw [if_neg h0]
    rcases hm : meetP x.b y.b with _ | m
    · rw [hm] at h
      cases h
    · rw [hm] at h
      simp only at h ⊢
      split at h
      · cases h
      · rename_i h1
        split at h
        · cases h
        · rename_i h2
          obtain rfl := Option.some.inj h
          rw [if_neg h1, if_neg h2]
          obtain ⟨g1, g2⟩ := meetG_good hm
          exact ⟨hx, hy, rfl, gErr_of g1 g2 (by omega), h2, m, rfl, rfl⟩
/-- The paths of the intersection. -/
theorem meetR_has {x y : Reg} (h : (meetR x y).2 = 0) : gErr x = 0 ∧ gErr y = 0 ∧ ∀ l : List Str, l.all comp = true → (match (meetR x y).1 with | some g => hasG g l | none => false) = (hasG x l && hasG y l) := by
  by_cases h0 : bothErr x y = 0
  · obtain ⟨hx, hy⟩ := bothErr_zero h0
    refine ⟨hx, hy, fun l hc => ?_⟩
    unfold meetR at h ⊢
    rw [if_neg (by simpa using h0)] at h ⊢
    rcases hm : meetP x.b y.b with _ | m
    · exact (meetG_none hx hy hm hc).symm
    · rw [hm] at h
      simp only at h ⊢
      have hh := meetG_has hx hy hm hc
      split at h
      · cases h
      · rename_i h1
        rw [if_neg h1]
        by_cases h2 : gLen (meetG m x y) = 0
        · have h3 : hasG (meetG m x y) l = false := least_none (b := (meetG m x y).b) (pos_of (meetG_good hm).1) h2 hc
          rw [if_pos h2, ← hh, h3]
        · rw [if_neg h2]
          exact hh
  · unfold meetR at h
    rw [if_pos h0] at h
    exact absurd h h0
theorem meetG_comm (m : Pat) (x y : Reg) : meetG m x y = meetG m y x := by
  unfold meetG
  rw [redL_same (qs := y.hs ++ x.hs) (fun p => by rw [List.mem_append, List.mem_append]; exact or_comm)]
theorem bothErr_comm (x y : Reg) : bothErr x y = 0 ↔ bothErr y x = 0 :=
  ⟨fun h => bothErr_of (bothErr_zero h).2 (bothErr_zero h).1, fun h => bothErr_of (bothErr_zero h).2 (bothErr_zero h).1⟩
theorem meetR_comm (x y : Reg) : (meetR x y).1 = (meetR y x).1 ∧ ((meetR x y).2 = 0 ↔ (meetR y x).2 = 0) := by
  by_cases h0 : bothErr x y = 0
  · have h1 := (bothErr_comm x y).1 h0
    unfold meetR
    rw [if_neg (by simpa using h0), if_neg (by simpa using h1), meetP_comm y.b x.b]
    rcases meetP x.b y.b with _ | m
    · exact ⟨rfl, Iff.rfl⟩
    · simp only
      rw [meetG_comm m y x]
      exact ⟨rfl, Iff.rfl⟩
  · have h1 := fun e => h0 ((bothErr_comm x y).2 e)
    unfold meetR
    rw [if_pos h0, if_pos h1]
    exact ⟨rfl, fun h => absurd h h0, fun h => absurd h h1⟩
theorem meetP_self {p : Pat} (h : patErr p = 0) : meetP p p = some p := meetP_inside h h (insideP_refl (allOk_of h))
/-- A region with itself. -/
theorem meetR_self (x : Reg) : (meetR x x).2 = gErr x ∧ ∀ g, (meetR x x).1 = some g → g = ⟨x.b, redL x.b x.hs⟩ := by
  by_cases h0 : gErr x = 0
  · have h1 := bothErr_of h0 h0
    obtain ⟨x1, x2, x3⟩ := gErr_zero h0
    have he : meetG x.b x x = ⟨x.b, redL x.b x.hs⟩ := by
      unfold meetG
      rw [redL_same (qs := x.hs) (fun p => by rw [List.mem_append]; exact or_self_iff)]
    unfold meetR
    rw [if_neg (by simpa using h1), meetP_self x1]
    simp only
    rw [he]
    have := redL_len x.b x.hs
    rw [if_neg (show ¬ 64 < (⟨x.b, redL x.b x.hs⟩ : Reg).hs.length by simp only; omega), h0]
    split
    · exact ⟨rfl, fun g hg => by cases hg⟩
    · exact ⟨rfl, fun g hg => (Option.some.inj hg).symm⟩
  · have h1 : bothErr x x = gErr x := by rw [bothErr, if_neg h0]
    unfold meetR
    rw [if_pos (by rw [h1]; exact h0), h1]
    exact ⟨rfl, fun g hg => by cases hg⟩

/-! ### what is left -/
def cuts (y : Reg) : List Pat := redL y.b y.hs
def piece0 (x y : Reg) : Reg := ⟨x.b, redL x.b (x.hs ++ [y.b])⟩
def pieceAt (x y : Reg) (k : Nat) : Option Reg := match (cuts y)[k]? with
  | some h => (meetP x.b h).map fun m => ⟨m, redL m (x.hs ++ (cuts y).take k)⟩
  | none => none
def piecesTo (x y : Reg) (k : Nat) : List Reg := piece0 x y :: (List.range k).filterMap (pieceAt x y)
def pieces (x y : Reg) : List Reg := piecesTo x y (cuts y).length
theorem piecesTo_succ (x y : Reg) (k : Nat) : piecesTo x y (k + 1) = piecesTo x y k ++ (pieceAt x y k).toList := by
  unfold piecesTo
  rw [List.range_succ, List.filterMap_append, List.cons_append]
  rcases h : pieceAt x y k with _ | g <;> simp [h]
theorem piecesTo_len (x y : Reg) (k : Nat) : (piecesTo x y k).length ≤ k + 1 := by
  have := List.length_filterMap_le (pieceAt x y) (List.range k)
  rw [List.length_range] at this
  unfold piecesTo
  rw [List.length_cons]
  omega
def tooMany (gs : List Reg) : Bool := gs.any fun g => decide (64 < g.hs.length)
def liveOf (gs : List Reg) : List Reg := gs.filter fun g => gLen g != 0
/-- The regions that are left of x behind y; the error. -/
def minusR (x y : Reg) : List Reg × Int := if bothErr x y ≠ 0 then ([], bothErr x y) else if tooMany (pieces x y) then ([], 52) else (liveOf (pieces x y), 0)
theorem piece0_has {x y : Reg} (hx : gErr x = 0) (hy : gErr y = 0) {l : List Str} (hc : l.all comp = true) : hasG (piece0 x y) l = (hasG x l && !matchL y.b l) := by
  obtain ⟨x1, x2, _⟩ := gErr_zero hx
  obtain ⟨y1, _, _⟩ := gErr_zero hy
  show hasL x.b (redL x.b (x.hs ++ [y.b])) l = _
  rw [redL_has x1 (fun p hp => (List.mem_append.1 hp).elim (x2 p) (fun h => by rw [List.mem_singleton.1 h]; exact y1)) hc]
  unfold hasG hasL
  rw [List.any_append, List.any_cons, List.any_nil, Bool.or_false]
  generalize x.hs.any (fun h => matchL h l) = a
  cases matchL x.b l <;> cases matchL y.b l <;> cases a <;> rfl
theorem cuts_good {y : Reg} : ∀ h ∈ cuts y, patErr h = 0 := redL_good
theorem cuts_in {y : Reg} {h : Pat} (hh : h ∈ cuts y) {l : List Str} (hc : l.all comp = true) (hm : matchL h l = true) : matchL y.b l = true :=
  insideP_match (allOk_of (cuts_good h hh)) (meetsL_in h (redL_mem.1 hh).1) hc hm
theorem cuts_has {y : Reg} (hy : gErr y = 0) {l : List Str} (hc : l.all comp = true) : hasG y l = (matchL y.b l && !(cuts y).any fun h => matchL h l) := by
  obtain ⟨y1, y2, _⟩ := gErr_zero hy
  have := redL_has y1 y2 hc
  unfold hasG cuts
  rw [← this]
  rfl
def pieceHas (x y : Reg) (k : Nat) (l : List Str) : Bool := match pieceAt x y k with
  | some g => hasG g l
  | none => false
theorem pieceAt_has {x y : Reg} (hx : gErr x = 0) {k : Nat} {h : Pat} (hk : (cuts y)[k]? = some h) {l : List Str} (hc : l.all comp = true) : pieceHas x y k l = (hasG x l && matchL h l && !((cuts y).take k).any fun h => matchL h l) := by
  obtain ⟨x1, x2, _⟩ := gErr_zero hx
  have hg := cuts_good h (List.mem_of_getElem? hk)
  unfold pieceHas pieceAt
  rw [hk]
  simp only
  rcases hm : meetP x.b h with _ | m
  · rw [meetP, if_pos ⟨x1, hg⟩] at hm
    have := meetL_nomatch hm hc
    simp only [Option.map_none]
    unfold hasG hasL
    revert this
    generalize x.hs.any (fun h => matchL h l) = a
    cases matchL x.b l <;> cases matchL h l <;> cases a <;> simp
  · obtain ⟨_, _, h3, h4⟩ := meetP_some hm
    simp only [Option.map_some]
    show hasL m (redL m (x.hs ++ (cuts y).take k)) l = _
    rw [redL_has h4 (fun p hp => (List.mem_append.1 hp).elim (x2 p) (fun h => cuts_good p (List.mem_of_mem_take h))) hc]
    unfold hasG hasL
    rw [meetL_match (allOk_of x1) (allOk_of hg) h3 hc, List.any_append]
    generalize x.hs.any (fun h => matchL h l) = a
    generalize ((cuts y).take k).any (fun h => matchL h l) = b
    cases matchL x.b l <;> cases matchL h l <;> cases a <;> cases b <;> rfl
theorem pieces_count {x y : Reg} (hx : gErr x = 0) {l : List Str} (hc : l.all comp = true) : ∀ k, k ≤ (cuts y).length → ((List.range k).filterMap (pieceAt x y)).countP (fun g => hasG g l) = if (hasG x l && ((cuts y).take k).any fun h => matchL h l) then 1 else 0
  | 0, _ => by simp
  | k + 1, hk => by
    have ih := pieces_count (y := y) hx hc k (by omega)
    have hkk := List.getElem?_eq_getElem (show k < (cuts y).length by omega)
    have hp := pieceAt_has hx hkk hc
    rw [List.range_succ, List.filterMap_append, List.countP_append, ih]
    rw [List.take_succ_eq_append_getElem (show k < (cuts y).length by omega), List.any_append, List.any_cons, List.any_nil, Bool.or_false]
    have e : ([k].filterMap (pieceAt x y)).countP (fun g => hasG g l) = if pieceHas x y k l then 1 else 0 := by
      unfold pieceHas
      rcases h : pieceAt x y k with _ | g
      · simp [h]
      · simp [h, List.countP_cons]
    rw [e, hp]
    generalize hasG x l = a
    generalize ((cuts y).take k).any (fun h => matchL h l) = b
    generalize matchL (cuts y)[k] l = d
    cases a <;> cases b <;> cases d <;> rfl
/-- Of the pieces one has the path, if x has it and y has not. -/
theorem all_count {x y : Reg} (hx : gErr x = 0) (hy : gErr y = 0) {l : List Str} (hc : l.all comp = true) : (pieces x y).countP (fun g => hasG g l) = if (hasG x l && !hasG y l) then 1 else 0 := by
  unfold pieces piecesTo
  rw [List.countP_cons, pieces_count hx hc _ (Nat.le_refl _), List.take_length, piece0_has hx hy hc, cuts_has hy hc]
  have hin : ((cuts y).any fun h => matchL h l) = true → matchL y.b l = true := fun h => by
    obtain ⟨p, hp, hm⟩ := List.any_eq_true.1 h
    exact cuts_in hp hc hm
  revert hin
  generalize (cuts y).any (fun h => matchL h l) = a
  cases hasG x l <;> cases matchL y.b l <;> cases a <;> simp
theorem piece_good {x y : Reg} (hx : gErr x = 0) : ∀ g ∈ pieces x y, patErr g.b = 0 ∧ ∀ p ∈ g.hs, patErr p = 0 := by
  intro g hg
  rcases List.mem_cons.1 hg with rfl | hg
  · exact ⟨(gErr_zero hx).1, fun p hp => redL_good p hp⟩
  · obtain ⟨k, _, hk⟩ := List.mem_filterMap.1 hg
    unfold pieceAt at hk
    split at hk
    · rcases hm : meetP x.b _ with _ | m
      · rw [hm] at hk
        cases hk
      · rw [hm] at hk
        obtain rfl := Option.some.inj hk
        exact ⟨(meetP_some hm).2.2.2, fun p hp => redL_good p hp⟩
    · cases hk
theorem live_count {gs : List Reg} (hg : ∀ g ∈ gs, patErr g.b = 0) {l : List Str} (hc : l.all comp = true) : (liveOf gs).countP (fun g => hasG g l) = gs.countP (fun g => hasG g l) := by
  induction gs with
  | nil => rfl
  | cons g r ih =>
    have ih := ih (fun y hy => hg y (by simp [hy]))
    unfold liveOf at ih ⊢
    rw [List.filter_cons, List.countP_cons]
    split
    · rw [List.countP_cons, ih]
    · rename_i h
      have h0 : gLen g = 0 := by simpa using h
      have := least_none (pos_of (hg g (by simp))) h0 hc
      rw [ih]
      have e : hasG g l = false := this
      rw [e]
      simp
/-- The regions that are left: each is a region with paths; a path lies in one of them, if x has it and y has not. -/
theorem minusR_zero {x y : Reg} (h : (minusR x y).2 = 0) : gErr x = 0 ∧ gErr y = 0 ∧ (∀ g ∈ (minusR x y).1, gErr g = 0 ∧ gLen g ≠ 0) ∧ ∀ l : List Str, l.all comp = true → (minusR x y).1.countP (fun g => hasG g l) = if (hasG x l && !hasG y l) then 1 else 0 := by
  by_cases h0 : bothErr x y = 0
  · obtain ⟨hx, hy⟩ := bothErr_zero h0
    unfold minusR at h ⊢
    rw [if_neg (by simpa using h0)] at h ⊢
    split at h
    · cases h
    · rename_i h1
      rw [if_neg h1]
      refine ⟨hx, hy, fun g hg => ?_, fun l hc => ?_⟩
      · obtain ⟨g1, g2⟩ := List.mem_filter.1 hg
        obtain ⟨p1, p2⟩ := piece_good hx g g1
        refine ⟨gErr_of p1 p2 ?_, by simpa using g2⟩
        rw [tooMany, Bool.not_eq_true, List.any_eq_false] at h1
        have := h1 g g1
        simpa using this
      · show (liveOf _).countP _ = _
        rw [live_count (fun g hg => (piece_good hx g hg).1) hc, all_count hx hy hc]
  · unfold minusR at h
    rw [if_pos h0] at h
    exact absurd h h0

/-! ### the parts -/
def partsR (x y : Reg) : List Reg := (minusR x y).1 ++ (meetR x y).1.toList
theorem parts_count {x y : Reg} (h1 : (meetR x y).2 = 0) (h2 : (minusR x y).2 = 0) {l : List Str} (hc : l.all comp = true) : (partsR x y).countP (fun g => hasG g l) = if hasG x l then 1 else 0 := by
  unfold partsR
  rw [List.countP_append, (minusR_zero h2).2.2.2 l hc]
  have := (meetR_has h1).2.2 l hc
  have e : (meetR x y).1.toList.countP (fun g => hasG g l) = if (hasG x l && hasG y l) then 1 else 0 := by
    rw [← this]
    rcases (meetR x y).1 with _ | g <;> simp [List.countP_cons]
  rw [e]
  cases hasG x l <;> cases hasG y l <;> rfl
theorem parts_good {x y : Reg} (h2 : (minusR x y).2 = 0) : ∀ g ∈ partsR x y, gErr g = 0 ∧ gLen g ≠ 0 := by
  intro g hg
  rcases List.mem_append.1 hg with hg | hg
  · exact (minusR_zero h2).2.2.1 g hg
  · have hg' : (meetR x y).1 = some g := by
      rcases h : (meetR x y).1 with _ | g'
      · rw [h] at hg
        cases hg
      · rw [h] at hg
        rw [List.mem_singleton.1 hg]
    obtain ⟨_, _, _, h4, h5, _⟩ := meetR_some hg'
    exact ⟨h4, h5⟩
theorem count_two {α : Type} {p : α → Bool} : ∀ (L : List α) (i k : Nat) (a b : α), k < i → L[k]? = some a → L[i]? = some b → p a = true → p b = true → 2 ≤ L.countP p
  | [], i, k, a, b, _, h, _, _, _ => by simp at h
  | c :: L, 0, k, a, b, h, _, _, _, _ => absurd h (Nat.not_lt_zero _)
  | c :: L, i + 1, 0, a, b, _, h1, h2, ha, hb => by
    simp only [List.getElem?_cons_zero, Option.some.injEq] at h1
    simp only [List.getElem?_cons_succ] at h2
    subst h1
    rw [List.countP_cons, if_pos ha]
    have : 0 < L.countP p := List.countP_pos_iff.2 ⟨b, List.mem_of_getElem? h2, hb⟩
    omega
  | c :: L, i + 1, k + 1, a, b, h, h1, h2, ha, hb => by
    simp only [List.getElem?_cons_succ] at h1 h2
    have := count_two L i k a b (by omega) h1 h2 ha hb
    rw [List.countP_cons]
    omega
/-- No two of the parts meet. -/
theorem parts_disj {x y : Reg} (h1 : (meetR x y).2 = 0) (h2 : (minusR x y).2 = 0) {i k : Nat} {a b : Reg} (hik : k < i) (hk : (partsR x y)[k]? = some a) (hi : (partsR x y)[i]? = some b) : (meetR b a).1 = none := by
  rcases hm : (meetR b a).1 with _ | g
  · rfl
  · exfalso
    obtain ⟨hb, ha, h0, hg, hl, _⟩ := meetR_some hm
    obtain ⟨g1, _, g3⟩ := gErr_zero hg
    have hin := least_in (allOk_of g1) g3 hl
    have hc := comps_comp (allOk_of g1) g.hs (leastLen g.b g.hs) (leastLen g.b g.hs)
    obtain ⟨l, hl2⟩ : ∃ l, comps g.b g.hs (leastLen g.b g.hs) (leastLen g.b g.hs) = l := ⟨_, rfl⟩
    rw [hl2] at hin hc
    have := (meetR_has h0).2.2 l hc
    rw [hm] at this
    simp only at this
    have hgl : hasG g l = true := hin
    rw [hgl] at this
    have hab : hasG b l = true ∧ hasG a l = true := by
      rw [← Bool.and_eq_true]
      exact this.symm
    have h3 := count_two (p := fun g => hasG g l) (partsR x y) i k a b hik hk hi hab.2 hab.1
    rw [parts_count h1 h2 hc] at h3
    split at h3 <;> omega
/-- There are parts, if there is a path. -/
theorem parts_empty {x y : Reg} (h1 : (meetR x y).2 = 0) (h2 : (minusR x y).2 = 0) : gLen x = 0 ↔ partsR x y = [] := by
  obtain ⟨hx, _, _⟩ := meetR_has h1
  obtain ⟨x1, _, x3⟩ := gErr_zero hx
  constructor
  · intro h0
    apply Classical.byContradiction
    intro hne
    obtain ⟨g, hg⟩ := List.exists_mem_of_ne_nil _ hne
    obtain ⟨hg1, hg2⟩ := parts_good h2 g hg
    obtain ⟨g1, _, g3⟩ := gErr_zero hg1
    have hin := least_in (allOk_of g1) g3 hg2
    have hc := comps_comp (allOk_of g1) g.hs (leastLen g.b g.hs) (leastLen g.b g.hs)
    have h4 := parts_count h1 h2 hc
    have h5 : hasG x (comps g.b g.hs (leastLen g.b g.hs) (leastLen g.b g.hs)) = false := least_none (pos_of x1) h0 hc
    rw [h5] at h4
    have h6 : 0 < (partsR x y).countP (fun g' => hasG g' (comps g.b g.hs (leastLen g.b g.hs) (leastLen g.b g.hs))) := List.countP_pos_iff.2 ⟨g, hg, hin⟩
    simp at h4
    rw [List.countP_pos_iff] at h6
    obtain ⟨g', hg', hh'⟩ := h6
    have := h4 g' hg'
    rw [hh'] at this
    cases this
  · intro he
    apply Classical.byContradiction
    intro h0
    have hin := least_in (allOk_of x1) x3 h0
    have hc := comps_comp (allOk_of x1) x.hs (leastLen x.b x.hs) (leastLen x.b x.hs)
    have h4 := parts_count h1 h2 hc
    have h5 : hasG x (comps x.b x.hs (leastLen x.b x.hs) (leastLen x.b x.hs)) = true := hin
    rw [h5, he] at h4
    simp at h4
end Go.Proofs.YtglnkpgfdjnhnaaGreatDoor.Sy
set_option linter.unusedVariables false
set_option linter.unusedSimpArgs false
namespace Go.Proofs.YtglnkpgfdjnhnaaGreatDoor.Sy

structure Ent where
  left : Pat
  right : Pat
  hs : List Pat
deriving DecidableEq, Inhabited
def Ent.reg (x : Ent) : Reg := ⟨x.left, x.hs⟩
def Ent.rule (x : Ent) : Rule := ⟨false, x.left, x.right⟩
/-- The holes that the later lines make, or none where a limit is exceeded. -/
def entHoles (r : Rule) : List Rule → Option (List Pat)
  | [] => some []
  | q :: ls => if (narR r q.right).2 ≠ 0 then none else (entHoles r ls).map fun hs => q.left :: ((narR r q.right).1.map (·.left)).toList ++ hs
def entOf (r : Rule) (hs : List Pat) : Ent := ⟨r.left, r.right, redL r.left hs⟩
def entsL : List Rule → Option (List Ent)
  | [] => some []
  | r :: ls => if r.excl then entsL ls else match entHoles r ls with
    | none => none
    | some hs => (entsL ls).map fun es => if leastLen r.left (redL r.left hs) = 0 then es else entOf r hs :: es
def entE (v : List Rule) : List Ent × Int := if viewErr v ≠ 0 then ([], viewErr v) else match entsL v with
  | none => ([], 61)
  | some es => (es, 0)

theorem narR_match {r : Rule} {q : Pat} (hr : ruleErr r = 0) (hq : patErr q = 0) (h0 : (narR r q).2 = 0) {l : List Str} (hc : l.all comp = true) (hl : matchL r.left l = true) :
    ((narR r q).1.map (·.left)).toList.any (fun h => matchL h l) = matchL q (trL r.left r.right l) := by
  have htw := ruleErr_twin.1 hr
  have hr2 : ruleErr ⟨false, r.right, r.left⟩ = 0 := ruleErr_twin.2 htw.turn
  obtain ⟨g1, g2, g3, g4⟩ := tr_twin htw hc hl
  unfold narR at h0 ⊢
  rw [if_neg (by simpa using hr)] at h0 ⊢
  simp only at h0 ⊢
  rcases hn : (narL ⟨false, r.right, r.left⟩ q).1 with _ | n
  · have := narL_none hr2 hq hn h0 g2 g1
    rw [this]
    rfl
  · have := narL_right hn g2 g1
    simp only at this
    rw [g4] at this
    simp only [Option.map_some, Option.toList, List.any_cons, List.any_nil, Bool.or_false]
    exact this
theorem narR_good {r n : Rule} {q : Pat} (h : (narR r q).1 = some n) : patErr n.left = 0 := by
  unfold narR at h
  by_cases h0 : ruleErr r ≠ 0
  · rw [if_pos h0] at h
    cases h
  · rw [if_neg h0] at h
    simp only at h
    rcases hn : (narL ⟨false, r.right, r.left⟩ q).1 with _ | m
    · rw [hn] at h; cases h
    · rw [hn] at h
      obtain rfl := Option.some.inj h
      exact (ruleErr_twin.1 (narL_good hn)).rp
theorem entHoles_good {r : Rule} : ∀ {ls : List Rule} {hs : List Pat}, (∀ q ∈ ls, ruleErr q = 0) → entHoles r ls = some hs → (∀ h ∈ hs, patErr h = 0) ∧ hs.length ≤ 2 * ls.length
  | [], hs, _, h => by
    obtain rfl := Option.some.inj h
    exact ⟨fun h hh => (by cases hh), (by simp)⟩
  | q :: ls, hs, hq, h => by
    unfold entHoles at h
    split at h
    · cases h
    · obtain ⟨hs', h1, rfl⟩ := Option.map_eq_some_iff.1 h
      obtain ⟨h2, h3⟩ := entHoles_good (fun y hy => hq y (by simp [hy])) h1
      have hql := (ruleErr_twin.1 (hq q (by simp))).lp
      refine ⟨fun x hx => ?_, ?_⟩
      · simp only [List.cons_append, List.mem_cons, List.mem_append] at hx
        rcases hx with rfl | hx | hx
        · exact hql
        · rw [Option.mem_toList] at hx
          obtain ⟨n, hn, rfl⟩ := Option.map_eq_some_iff.1 hx
          exact narR_good hn
        · exact h2 x hx
      · rcases (narR r q.right).1 with _ | n
        · simp
          omega
        · simp
          omega
theorem entHoles_any {r : Rule} (hr : ruleErr r = 0) {l : List Str} (hc : l.all comp = true) (hl : matchL r.left l = true) : ∀ {ls : List Rule} {hs : List Pat}, (∀ q ∈ ls, ruleErr q = 0) → entHoles r ls = some hs →
    hs.any (fun h => matchL h l) = ls.any fun q => matchL q.left l || matchL q.right (trL r.left r.right l)
  | [], hs, _, h => by
    obtain rfl := Option.some.inj h
    rfl
  | q :: ls, hs, hq, h => by
    unfold entHoles at h
    split at h
    · cases h
    · rename_i h0
      obtain ⟨hs', h1, rfl⟩ := Option.map_eq_some_iff.1 h
      have ih := entHoles_any hr hc hl (fun y hy => hq y (by simp [hy])) h1
      have hn := narR_match hr (ruleErr_twin.1 (hq q (by simp))).rp (by simpa using h0) hc hl
      rw [List.cons_append, List.any_cons, List.any_append, ih, hn, List.any_cons]
      cases matchL q.left l <;> simp
/-- The region of a line's entry. -/
theorem entOf_has {r : Rule} (hr : ruleErr r = 0) {ls : List Rule} {hs : List Pat} (hq : ∀ q ∈ ls, ruleErr q = 0) (h : entHoles r ls = some hs) {l : List Str} (hc : l.all comp = true) :
    hasG (entOf r hs).reg l = (matchL r.left l && !ls.any fun q => matchL q.left l || matchL q.right (trL r.left r.right l)) := by
  have h1 : hasG (entOf r hs).reg l = hasL r.left hs l := redL_has (ruleErr_twin.1 hr).lp (entHoles_good hq h).1 hc
  rw [h1]
  unfold hasL
  rcases hl : matchL r.left l with _ | _
  · rfl
  · rw [entHoles_any hr hc hl hq h]
theorem matchS_path {p : Pat} (hp : patErr p = 0) {s : Str} {l : List Str} (h : pathOf s = some l) : matchS p s = matchL p l := by
  unfold matchS
  rw [h]
  simp [okPat, hp]
theorem lastIx_neg {α : Type} {f : α → Bool} {v : List α} : lastIx f v < 0 ↔ v.any f = false := by
  rcases lastIx_cases f v with ⟨h1, h2⟩ | ⟨k, a, h1, h2, h3, _⟩
  · rw [h1]
    refine ⟨fun _ => ?_, fun _ => by decide⟩
    rw [List.any_eq_false]
    exact fun a ha => by rw [h2 a ha]; decide
  · rw [h1]
    refine ⟨fun h => by omega, fun h => ?_⟩
    have := List.any_eq_false.1 h a (List.mem_of_getElem? h2)
    exact absurd h3 this
/-- What the first line adds: the paths that no later line touches. -/
theorem cons_fwd {v : List Rule} {r : Rule} {s : Str} {l : List Str} (h : viewErr (r :: v) = 0) (hs : pathOf s = some l) :
    vfwd (r :: v) s = if v.any (fun q => matchL q.left l) then vfwd v s else if matchL r.left l && !r.excl && !v.any (fun q => matchL q.right (trL r.left r.right l)) then fwd r s else none := by
  obtain ⟨hv, hr⟩ := viewErr_cons h
  have hgood := (viewErr_ok.1 hv).1
  have hc := (pathOf_some hs).2.1
  have hL : v.any (fun q => matchS q.left s) = v.any (fun q => matchL q.left l) := by
    rw [Bool.eq_iff_iff, List.any_eq_true, List.any_eq_true]
    exact ⟨fun ⟨q, hq, e⟩ => ⟨q, hq, by rw [← matchS_path (ruleErr_twin.1 (hgood q hq)).lp hs]; exact e⟩, fun ⟨q, hq, e⟩ => ⟨q, hq, by rw [matchS_path (ruleErr_twin.1 (hgood q hq)).lp hs]; exact e⟩⟩
  by_cases hd : 0 ≤ decL v s
  · have : v.any (fun q => matchL q.left l) = true := by
      rw [← hL]
      rcases hx : v.any (fun q => matchS q.left s) with _ | _
      · have := lastIx_neg.2 hx
        unfold decL at hd
        omega
      · rfl
    rw [this, if_pos rfl]
    exact (first_some h (by unfold decides; rw [if_pos hv]; exact hd)).2
  · have hneg : decL v s < 0 := by omega
    have hany : v.any (fun q => matchL q.left l) = false := by rw [← hL]; exact lastIx_neg.1 hneg
    rw [hany, if_neg (by decide)]
    have hms := matchS_path (ruleErr_twin.1 hr).lp hs
    have hdec : decL (r :: v) s = if matchL r.left l then 0 else -1 := by rw [decL_cons, if_neg hd, hms]
    rcases hm : matchL r.left l with _ | _
    · simp only [Bool.false_and, Bool.false_eq_true, if_false]
      rcases hw : vfwd (r :: v) s with _ | u
      · rfl
      · obtain ⟨_, k, q, g1, _⟩ := vfwd_some.1 hw
        rw [hdec, hm] at g1
        simp at g1
        try omega
    · rw [hm, if_pos rfl] at hdec
      obtain ⟨t, ht⟩ := (fwd_match hr).2 (hms.trans hm)
      obtain ⟨l', _, hp', _, ht', hpt⟩ := fwd_some ht
      obtain rfl : l = l' := by rw [hs] at hp'; exact Option.some.inj hp'
      have hR : v.any (fun q => matchS q.right t) = v.any (fun q => matchL q.right (trL r.left r.right l)) := by
        rw [Bool.eq_iff_iff, List.any_eq_true, List.any_eq_true]
        exact ⟨fun ⟨q, hq, e⟩ => ⟨q, hq, by rw [← matchS_path (ruleErr_twin.1 (hgood q hq)).rp hpt]; exact e⟩, fun ⟨q, hq, e⟩ => ⟨q, hq, by rw [matchS_path (ruleErr_twin.1 (hgood q hq)).rp hpt]; exact e⟩⟩
      have hdr : decR (r :: v) t ≤ 0 ↔ v.any (fun q => matchL q.right (trL r.left r.right l)) = false := by
        rw [← hR, ← lastIx_neg]
        show _ ↔ decR v t < 0
        rw [decR_cons]
        split
        · omega
        · have : decR v t < 0 := by omega
          split <;> omega
      rcases hx : r.excl with _ | _
      · rcases ha : v.any (fun q => matchL q.right (trL r.left r.right l)) with _ | _
        · simp only [Bool.not_false, Bool.and_true, if_true]
          rw [ht]
          exact vfwd_some.2 ⟨h, 0, r, by rw [hdec]; rfl, rfl, hx, ht, hdr.2 ha⟩
        · simp only [Bool.not_true, Bool.and_false, Bool.false_eq_true, if_false]
          rcases hw : vfwd (r :: v) s with _ | u
          · rfl
          · obtain ⟨_, k, q, g1, g2, _, g4, g5⟩ := vfwd_some.1 hw
            rw [hdec] at g1
            obtain rfl : k = 0 := by omega
            obtain rfl : r = q := by simpa using g2
            rw [ht] at g4
            obtain rfl := Option.some.inj g4
            have := hdr.1 (by simpa using g5)
            rw [ha] at this
            cases this
      · simp only [Bool.not_true, Bool.and_false, Bool.false_and, Bool.false_eq_true, if_false]
        rcases hw : vfwd (r :: v) s with _ | u
        · rfl
        · obtain ⟨_, k, q, g1, g2, g3, _⟩ := vfwd_some.1 hw
          rw [hdec] at g1
          obtain rfl : k = 0 := by omega
          obtain rfl : r = q := by simpa using g2
          rw [hx] at g3
          cases g3

/-- The right path by the first entry that has a path. -/
def byE (es : List Ent) (s : Str) (l : List Str) : Option Str := match es.find? (fun x => hasG x.reg l) with
  | some x => fwd x.rule s
  | none => none
theorem rule_fwd (r : Rule) (hs : List Pat) (s : Str) : fwd (entOf r hs).rule s = fwd r s := rfl
theorem find_none_count {α : Type} {p : α → Bool} {l : List α} (h : l.countP p = 0) : l.find? p = none := by
  rw [List.find?_eq_none]
  intro x hx
  exact List.countP_eq_zero.1 h x hx
/-- The entries mean what the view means; no two of them have a path. -/
theorem ents_mean {s : Str} {l : List Str} (hs : pathOf s = some l) : ∀ {v : List Rule} {es : List Ent}, viewErr v = 0 → entsL v = some es → byE es s l = vfwd v s ∧ es.countP (fun x => hasG x.reg l) = if (vfwd v s).isSome then 1 else 0
  | [], es, hv, h => by
    obtain rfl := Option.some.inj h
    have : vfwd [] s = none := by
      rcases hw : vfwd [] s with _ | u
      · rfl
      · obtain ⟨_, k, q, _, g2, _⟩ := vfwd_some.1 hw
        simp at g2
    rw [this]
    exact ⟨rfl, rfl⟩
  | r :: v, es, hv, h => by
    obtain ⟨hv1, hr⟩ := viewErr_cons hv
    have hgood := (viewErr_ok.1 hv1).1
    have hc := (pathOf_some hs).2.1
    rw [cons_fwd hv hs]
    unfold entsL at h
    by_cases hx : r.excl = true
    · rw [if_pos hx] at h
      obtain ⟨i1, i2⟩ := ents_mean hs hv1 h
      rw [hx]
      simp only [Bool.not_true, Bool.and_false, Bool.false_and, Bool.false_eq_true, if_false]
      rcases ha : v.any (fun q => matchL q.left l) with _ | _
      · simp only [Bool.false_eq_true, if_false]
        have hz : vfwd v s = none := by
          rcases hw : vfwd v s with _ | u
          · rfl
          · obtain ⟨_, k, q, g1, g2, _, g4, _⟩ := vfwd_some.1 hw
            obtain ⟨l', g5, g6, g7, _⟩ := fwd_some g4
            obtain rfl : l = l' := by rw [hs] at g6; exact Option.some.inj g6
            have := List.any_eq_false.1 ha q (List.mem_of_getElem? g2)
            rw [g7] at this
            exact absurd rfl this
        rw [hz] at i1 i2
        exact ⟨i1, i2⟩
      · simp only [if_true]
        exact ⟨i1, i2⟩
    · rw [if_neg hx] at h
      have hx0 : r.excl = false := by simpa using hx
      rcases hh : entHoles r v with _ | hs'
      · rw [hh] at h; cases h
      · rw [hh] at h
        simp only at h
        obtain ⟨es', h1, h2⟩ := Option.map_eq_some_iff.1 h
        obtain ⟨i1, i2⟩ := ents_mean hs hv1 h1
        have hhas := entOf_has hr hgood hh hc
        -- whether the entry is there or not, what it has is the same
        have key : byE es s l = (if hasG (entOf r hs').reg l then fwd r s else byE es' s l) ∧ es.countP (fun x => hasG x.reg l) = es'.countP (fun x => hasG x.reg l) + if hasG (entOf r hs').reg l then 1 else 0 := by
          subst h2
          by_cases hz : leastLen r.left (redL r.left hs') = 0
          · have : hasG (entOf r hs').reg l = false := least_none (pos_of (ruleErr_twin.1 hr).lp) hz hc
            rw [if_pos hz, this]
            exact ⟨rfl, rfl⟩
          · rw [if_neg hz]
            refine ⟨?_, by rw [List.countP_cons]⟩
            unfold byE
            rw [List.find?_cons]
            rcases hasG (entOf r hs').reg l with _ | _
            · rfl
            · rfl
        rw [key.1, key.2, hx0]
        simp only [Bool.not_false, Bool.and_true]
        rcases ha : v.any (fun q => matchL q.left l) with _ | _
        · have hz : vfwd v s = none := by
            rcases hw : vfwd v s with _ | u
            · rfl
            · obtain ⟨_, k, q, g1, g2, _, g4, _⟩ := vfwd_some.1 hw
              obtain ⟨l', g5, g6, g7, _⟩ := fwd_some g4
              obtain rfl : l = l' := by rw [hs] at g6; exact Option.some.inj g6
              have := List.any_eq_false.1 ha q (List.mem_of_getElem? g2)
              rw [g7] at this
              exact absurd rfl this
          rw [hz] at i1 i2
          have e : hasG (entOf r hs').reg l = (matchL r.left l && !v.any (fun q => matchL q.right (trL r.left r.right l))) := by
            rw [hhas]
            congr 2
            rw [Bool.eq_iff_iff, List.any_eq_true, List.any_eq_true]
            exact ⟨fun ⟨q, hq, e⟩ => ⟨q, hq, by
              have := List.any_eq_false.1 ha q hq
              simp only [Bool.or_eq_true] at e
              rcases e with e | e
              · exact absurd e this
              · exact e⟩, fun ⟨q, hq, e⟩ => ⟨q, hq, by rw [e, Bool.or_true]⟩⟩
          rw [← e, i1, i2]
          rw [if_neg (show ¬ (false = true) by decide)]
          rcases hb : hasG (entOf r hs').reg l with _ | _
          · exact ⟨rfl, rfl⟩
          · rw [e] at hb
            simp only [Bool.and_eq_true] at hb
            obtain ⟨t, ht⟩ := (fwd_match hr).2 ((matchS_path (ruleErr_twin.1 hr).lp hs).trans hb.1)
            rw [ht]
            exact ⟨rfl, rfl⟩
        · have e : hasG (entOf r hs').reg l = false := by
            rw [hhas]
            obtain ⟨q, hq, e⟩ := List.any_eq_true.1 ha
            have : v.any (fun q => matchL q.left l || matchL q.right (trL r.left r.right l)) = true := List.any_eq_true.2 ⟨q, hq, by rw [e, Bool.true_or]⟩
            rw [this]
            simp
          rw [e]
          simp only [if_true, Bool.false_eq_true, if_false, Nat.add_zero]
          exact ⟨i1, i2⟩
/-- What the entries are. -/
theorem ents_good : ∀ {v : List Rule} {es : List Ent}, viewErr v = 0 → entsL v = some es → es.length ≤ v.length ∧ ∀ x ∈ es, ruleErr x.rule = 0 ∧ gErr x.reg = 0 ∧ ∃ r ∈ v, x.left = r.left ∧ x.right = r.right
  | [], es, hv, h => by
    obtain rfl := Option.some.inj h
    exact ⟨Nat.le_refl _, fun x hx => by cases hx⟩
  | r :: v, es, hv, h => by
    obtain ⟨hv1, hr⟩ := viewErr_cons hv
    have hgood := (viewErr_ok.1 hv1).1
    have hlen := (viewErr_ok.1 hv1).2
    unfold entsL at h
    by_cases hx : r.excl = true
    · rw [if_pos hx] at h
      obtain ⟨h1, h2⟩ := ents_good hv1 h
      exact ⟨by rw [List.length_cons]; omega, fun x hx => ⟨(h2 x hx).1, (h2 x hx).2.1, by obtain ⟨q, hq, e⟩ := (h2 x hx).2.2; exact ⟨q, List.mem_cons_of_mem _ hq, e⟩⟩⟩
    · rw [if_neg hx] at h
      rcases hh : entHoles r v with _ | hs'
      · rw [hh] at h; cases h
      · rw [hh] at h
        simp only at h
        obtain ⟨es', h1, h2⟩ := Option.map_eq_some_iff.1 h
        obtain ⟨g1, g2⟩ := ents_good hv1 h1
        obtain ⟨k1, k2⟩ := entHoles_good hgood hh
        have keep : ∀ x ∈ es', ruleErr x.rule = 0 ∧ gErr x.reg = 0 ∧ ∃ q ∈ r :: v, x.left = q.left ∧ x.right = q.right := fun x hx => ⟨(g2 x hx).1, (g2 x hx).2.1, by obtain ⟨q, hq, e⟩ := (g2 x hx).2.2; exact ⟨q, List.mem_cons_of_mem _ hq, e⟩⟩
        subst h2
        split
        · exact ⟨by rw [List.length_cons]; omega, keep⟩
        · refine ⟨by rw [List.length_cons, List.length_cons]; omega, fun x hx => ?_⟩
          rcases List.mem_cons.1 hx with rfl | hx
          · refine ⟨ruleErr_twin.2 (ruleErr_twin.1 hr), gErr_of (ruleErr_twin.1 hr).lp (fun p hp => redL_good p hp) ?_, r, by simp, rfl, rfl⟩
            have := redL_len r.left hs'
            show (redL r.left hs').length ≤ 64
            omega
          · exact keep x hx
end Go.Proofs.YtglnkpgfdjnhnaaGreatDoor.Sy
set_option linter.unusedVariables false
set_option linter.unusedSimpArgs false
namespace Go.Proofs.YtglnkpgfdjnhnaaGreatDoor
open Go Go.RowKit Sy

structure NewE where
  LA : Option Addr
  lc : Nat
  RA : Option Addr
  rc : Nat
  HA : Option Addr
  hc : Nat
  e : Ent
deriving Inhabited
def encE (x : NewE) : List Value := [.slice x.LA x.e.left.parts.length x.lc, .bool x.e.left.rest, .slice x.RA x.e.right.parts.length x.rc, .bool x.e.right.rest, .slice x.HA x.e.hs.length x.hc]
theorem encE_len (x : NewE) : (encE x).length = 5 := rfl
theorem encE_one (x : NewE) : ∀ u ∈ encE x, u.oneCell' = true := by simp [encE, Value.oneCell']
theorem info_ent : (Tryz.prog.info? 51).map (fun i => (i.zero, i.size, i.bytes)) = some (some (.agg #[.slice none 0 0, .bool false, .slice none 0 0, .bool false, .slice none 0 0]), 5, 88) := by kernel_rfl
/-- An entry in the call's own memory. -/
structure EntN (w : World) (B : Nat) (x : NewE) : Prop where
  l : SmallN w B ⟨x.LA, x.lc, x.e.left⟩
  r : SmallN w B ⟨x.RA, x.rc, x.e.right⟩
  h : PatsN w B x.HA x.hc x.e.hs
  few : x.e.hs.length ≤ 16384
theorem EntN.calm {w w' : World} {B : Nat} {x : NewE} (h : EntN w B x) (hc : Calm w w') : EntN w' B x := ⟨h.l.calm hc, h.r.calm hc, h.h.calm hc, h.few⟩
theorem EntN.mono {w : World} {B B' : Nat} {x : NewE} (h : EntN w B x) (hB : B' ≤ B) : EntN w B' x := ⟨h.l.mono hB, h.r.mono hB, h.h.mono hB, h.few⟩
theorem EntN.own {w w' : World} {B : Nat} {x : NewE} (h : EntN w B x) {B0 n K : Nat} {v : Value} {T : TypeId} {xs : List Value} (hT : 36 ≠ T) (hS : 9 ≠ T) (hown : w.ownsRow B0 T K v n xs) (hg : w.grownBy w' v.ownBlock) : EntN w' B x :=
  ⟨h.l.own hS hown hg, h.r.own hS hown hg, h.h.own hT hS hown hg, h.few⟩
/-- An entry that can be read. -/
structure EntU (w : World) (z : NewE) : Prop where
  l : PatA w z.LA z.lc z.e.left
  r : PatA w z.RA z.rc z.e.right
  h : PatsR w z.HA z.e.hs
  room : z.e.hs.length ≤ z.hc
  cap : z.hc ≤ 9223372036854775807
theorem EntU.calm {w w' : World} {z : NewE} (h : EntU w z) (hc : Calm w w') : EntU w' z := ⟨h.l.calm hc, h.r.calm hc, h.h.calm hc, h.room, h.cap⟩
theorem EntN.u {w : World} {B : Nat} {x : NewE} (h : EntN w B x) : EntU w x := ⟨h.l.a, h.r.a, h.h.reads h.few, h.h.room, h.h.cap⟩
/-- A slice of entries reads as es. -/
def EntsR (w : World) (A : Option Addr) (es : List Ent) : Prop := ∃ zs : List NewE, zs.map (·.e) = es ∧ ReadX encE 5 w A zs ∧ ∀ z ∈ zs, EntU w z
theorem EntsR.calm {w w' : World} {A : Option Addr} {es : List Ent} (h : EntsR w A es) (hc : Calm w w') : EntsR w' A es := by
  obtain ⟨zs, h1, h2, h3⟩ := h
  exact ⟨zs, h1, h2.calm hc, fun z hz => (h3 z hz).calm hc⟩
theorem EntsR.get {w : World} {A : Option Addr} {es : List Ent} (h : EntsR w A es) {k : Nat} (hk : k < es.length) : ∃ (b o : Nat) (z : NewE), A = some ⟨b, o, none⟩ ∧ b < w.heap.size ∧ es[k]? = some z.e ∧
    w.cell? ⟨b, o + k * 5, none⟩ = some (.slice z.LA z.e.left.parts.length z.lc) ∧ w.cell? ⟨b, o + k * 5 + 1, none⟩ = some (.bool z.e.left.rest) ∧ w.cell? ⟨b, o + k * 5 + 2, none⟩ = some (.slice z.RA z.e.right.parts.length z.rc) ∧ w.cell? ⟨b, o + k * 5 + 3, none⟩ = some (.bool z.e.right.rest) ∧ w.cell? ⟨b, o + k * 5 + 4, none⟩ = some (.slice z.HA z.e.hs.length z.hc) ∧ EntU w z := by
  obtain ⟨zs, rfl, h2, h3⟩ := h
  rw [List.length_map] at hk
  obtain ⟨b, o, hA, hb, hc⟩ := h2 (fun e => by rw [e] at hk; simp at hk)
  have hz := List.getElem?_eq_getElem hk
  exact ⟨b, o, zs[k], hA, hb, by rw [List.getElem?_map, hz]; rfl, hc k _ hz 0 _ rfl, hc k _ hz 1 _ rfl, hc k _ hz 2 _ rfl, hc k _ hz 3 _ rfl, hc k _ hz 4 _ rfl, h3 _ (List.mem_of_getElem? hz)⟩
theorem read_newE {w : World} {n : Nat} (y : NewE) {l r h : Nat} {lb rb : Bool} (hn : w.heap.size = n) (hl : y.e.left.parts.length = l) (hlb : y.e.left.rest = lb) (hr : y.e.right.parts.length = r) (hrb : y.e.right.rest = rb) (hh : y.e.hs.length = h) : ReadX encE 5 (w.alloc (.cells #[.slice y.LA l y.lc, .bool lb, .slice y.RA r y.rc, .bool rb, .slice y.HA h y.hc] 51)) (some ⟨n, 0, none⟩) [y] := fun _ => by
  refine ⟨n, 0, rfl, by rw [← hn]; simp [go_sem], fun k x hk i u hu => ?_⟩
  have h0 : k = 0 := by
    have := (List.getElem?_eq_some_iff.1 hk).1
    simp at this
    exact this
  subst h0
  obtain rfl : y = x := by simpa using hk
  subst hn hl hlb hr hrb hh
  rw [cell_of_row _ w.heap.size _ _ _ _ (heap_alloc_new w _)]
  simpa [encE] using hu
theorem read_newH {w : World} {n : Nat} (y : NewP) {m : Nat} {r : Bool} (h : w.heap.size = n) (hm : y.p.parts.length = m) (hr : y.p.rest = r) : ReadX encP 2 (w.alloc (.cells #[.slice y.A m y.c, .bool r] 36)) (some ⟨n, 0, none⟩) [y] := fun _ => by
  refine ⟨n, 0, rfl, by rw [← h]; simp [go_sem], fun k x hk i u hu => ?_⟩
  have h0 : k = 0 := by
    have := (List.getElem?_eq_some_iff.1 hk).1
    simp at this
    exact this
  subst h0
  obtain rfl : y = x := by simpa using hk
  subst h hm hr
  rw [cell_of_row _ w.heap.size _ _ _ _ (heap_alloc_new w _)]
  simpa [encP] using hu

/-! ### the holes of one line -/
theorem entHoles_snoc {r q : Rule} : ∀ {ls : List Rule}, entHoles r (ls ++ [q]) = match entHoles r ls with
    | none => none
    | some hs => if (narR r q.right).2 ≠ 0 then none else some (hs ++ q.left :: ((narR r q.right).1.map (·.left)).toList)
  | [] => by
    simp only [List.nil_append, entHoles]
    by_cases h : (narR r q.right).2 ≠ 0
    · rw [if_pos h, if_pos h]
    · rw [if_neg h, if_neg h]
      simp
  | x :: ls => by
    have ih := entHoles_snoc (r := r) (q := q) (ls := ls)
    simp only [List.cons_append, entHoles]
    rw [ih]
    by_cases h : (narR r x.right).2 ≠ 0
    · rw [if_pos h, if_pos h]
    · rw [if_neg h, if_neg h]
      rcases entHoles r ls with _ | hs
      · rfl
      · simp only [Option.map_some]
        by_cases h2 : (narR r q.right).2 ≠ 0
        · rw [if_pos h2, if_pos h2]
          rfl
        · rw [if_neg h2, if_neg h2]
          simp
theorem entHoles_stop {r : Rule} {ls : List Rule} (h : entHoles r ls = none) : ∀ ms : List Rule, entHoles r (ls ++ ms) = none
  | [] => by rw [List.append_nil]; exact h
  | m :: ms => by
    have h2 : entHoles r (ls ++ [m]) = none := by rw [entHoles_snoc, h]
    have := entHoles_stop h2 ms
    rw [List.append_assoc] at this
    exact this
/-- The holes of the first k later lines. -/
structure HolI (w0 wr : World) (v : Value) (r : Rule) (ls : List Rule) (k : Nat) (ys : List NewP) : Prop where
  own : OwnX encP 2 36 w0 wr v ys
  is : entHoles r (ls.take k) = some (ys.map (·.p))
  each : ∀ y ∈ ys, PatA w0 y.A y.c y.p ∨ SmallN wr w0.heap.size y
theorem HolI.nil {w0 : World} (r : Rule) (ls : List Rule) : HolI w0 w0 (.slice none 0 0) r ls 0 [] := ⟨OwnX.nil (Calm.refl _), rfl, fun y hy => by cases hy⟩
theorem take_snoc {α : Type} {ls : List α} {k : Nat} {q : α} (hq : ls[k]? = some q) : ls.take (k + 1) = ls.take k ++ [q] := by
  rw [List.take_add_one, hq]
  rfl
theorem HolI.len {w0 wr : World} {v : Value} {r : Rule} {ls : List Rule} {k : Nat} {ys : List NewP} (h : HolI w0 wr v r ls k ys) (hg : ∀ q ∈ ls, ruleErr q = 0) (hr : True) : ys.length ≤ 2 * k := by
  have := (entHoles_good (fun q hq => hg q (List.mem_of_mem_take hq)) h.is).2
  rw [List.length_map, List.length_take] at this
  omega
/-- One later line: its left side, then the call. -/
theorem HolI.stop {w0 wr : World} {v : Value} {r q : Rule} {ls : List Rule} {k : Nat} {ys : List NewP} (h : HolI w0 wr v r ls k ys) (hq : ls[k]? = some q) (hx : (narR r q.right).2 ≠ 0) : entHoles r ls = none := by
  have h1 : entHoles r (ls.take (k + 1)) = none := by
    rw [take_snoc hq, entHoles_snoc, h.is]
    simp only
    rw [if_pos hx]
  have := entHoles_stop h1 (ls.drop (k + 1))
  rw [List.take_append_drop] at this
  exact this
theorem HolI.skip {w0 wr w2 w3 : World} {v v2 : Value} {r q : Rule} {ls : List Rule} {k : Nat} {ys : List NewP} {x : NewP} (h : HolI w0 wr v r ls k ys) (hq : ls[k]? = some q) (hx : (narR r q.right).2 = 0) (hn : (narR r q.right).1 = none) (hxp : x.p = q.left) (hxe : PatA w0 x.A x.c x.p) (hc : Calm wr w2) (hg : w2.grownBy w3 v.ownBlock) (hown : OwnX encP 2 36 w0 w3 v2 (ys ++ [x])) :
    HolI w0 w3 v2 r ls (k + 1) (ys ++ [x]) := by
  refine ⟨hown, ?_, fun y hy => ?_⟩
  · rw [take_snoc hq, entHoles_snoc, h.is]
    simp only
    rw [if_neg (by simpa using hx), hn, List.map_append]
    simp [hxp]
  · rcases List.mem_append.1 hy with hy | hy
    · rcases h.each y hy with h1 | h1
      · exact .inl h1
      · exact .inr ((h1.calm hc).own (by decide) (h.own.to hc).own hg)
    · rw [List.mem_singleton] at hy
      subst hy
      exact .inl hxe
theorem HolI.hit {w0 wr w2 w3 w4 w5 : World} {v v2 v3 : Value} {r q n : Rule} {ls : List Rule} {k : Nat} {ys : List NewP} {x z : NewP} (h : HolI w0 wr v r ls k ys) (hq : ls[k]? = some q) (hx : (narR r q.right).2 = 0) (hn : (narR r q.right).1 = some n) (hxp : x.p = q.left) (hxe : PatA w0 x.A x.c x.p) (hc : Calm wr w2) (hg : w2.grownBy w3 v.ownBlock) (hown : OwnX encP 2 36 w0 w3 v2 (ys ++ [x]))
    (hzp : z.p = n.left) (hc2 : Calm w3 w4) (hz : SmallN w4 w0.heap.size z) (hg2 : w4.grownBy w5 v2.ownBlock) (hown2 : OwnX encP 2 36 w0 w5 v3 ((ys ++ [x]) ++ [z])) :
    HolI w0 w5 v3 r ls (k + 1) ((ys ++ [x]) ++ [z]) := by
  refine ⟨hown2, ?_, fun y hy => ?_⟩
  · rw [take_snoc hq, entHoles_snoc, h.is]
    simp only
    rw [if_neg (by simpa using hx), hn, List.map_append, List.map_append]
    simp [hxp, hzp]
  · rcases List.mem_append.1 hy with hy | hy
    · rcases List.mem_append.1 hy with hy | hy
      · rcases h.each y hy with h1 | h1
        · exact .inl h1
        · exact .inr (((((h1.calm hc).own (by decide) (h.own.to hc).own hg)).calm hc2).own (by decide) (hown.to hc2).own hg2)
      · rw [List.mem_singleton] at hy
        subst hy
        exact .inl hxe
    · rw [List.mem_singleton] at hy
      subst hy
      exact .inr (hz.own (by decide) (hown.to hc2).own hg2)
/-- The holes as an argument of Reduce. -/
theorem HolI.reads {w0 wr : World} {v : Value} {r : Rule} {ls : List Rule} {k : Nat} {ys : List NewP} (h : HolI w0 wr v r ls k ys) (hl : ys.length ≤ 16384) : ∃ A c, v = .slice A ys.length c ∧ PatsR wr A (ys.map (·.p)) := by
  obtain ⟨A, c, e, _, _, h3⟩ := h.own.places (fun y hy => by
    rcases h.each y hy with h1 | h1
    · exact h1.calm h.own.calm
    · exact h1.a)
  exact ⟨A, c, e, h3.reads hl⟩
end Go.Proofs.YtglnkpgfdjnhnaaGreatDoor
