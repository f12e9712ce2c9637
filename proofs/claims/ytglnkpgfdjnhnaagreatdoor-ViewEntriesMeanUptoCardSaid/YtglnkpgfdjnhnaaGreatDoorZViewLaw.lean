/- The laws on views, in plain words. No program in sight. -/
import Derived.Test.YtglnkpgfdjnhnaaGreatDoorZView
set_option linter.unusedVariables false
set_option linter.unusedSimpArgs false
namespace Go.Proofs.YtglnkpgfdjnhnaaGreatDoor.Sy

theorem decL_snoc (v : List Rule) (r : Rule) (s : Str) : decL (v ++ [r]) s = if matchS r.left s then (v.length : Int) else decL v s := lastIx_snoc _ v r
theorem decR_snoc (v : List Rule) (r : Rule) (s : Str) : decR (v ++ [r]) s = if matchS r.right s then (v.length : Int) else decR v s := lastIx_snoc _ v r
theorem decL_ge (v : List Rule) (s : Str) : -1 ≤ decL v s ∧ decL v s < v.length := lastIx_ge _ v
theorem decR_ge (v : List Rule) (s : Str) : -1 ≤ decR v s ∧ decR v s < v.length := lastIx_ge _ v
theorem viewErr_snoc {v : List Rule} {r : Rule} (h : viewErr (v ++ [r]) = 0) : viewErr v = 0 ∧ ruleErr r = 0 := by
  obtain ⟨h1, h2⟩ := viewErr_ok.1 h
  rw [List.length_append] at h2
  simp only [List.length_cons, List.length_nil] at h2
  exact ⟨viewErr_ok.2 ⟨fun q hq => h1 q (by simp [hq]), by omega⟩, h1 r (by simp)⟩
theorem viewErr_cons {v : List Rule} {r : Rule} (h : viewErr (r :: v) = 0) : viewErr v = 0 ∧ ruleErr r = 0 := by
  obtain ⟨h1, h2⟩ := viewErr_ok.1 h
  rw [List.length_cons] at h2
  exact ⟨viewErr_ok.2 ⟨fun q hq => h1 q (by simp [hq]), by omega⟩, h1 r (by simp)⟩

/-- The last line relates what it matches, unless it excludes it. -/
theorem last_match {v : List Rule} {r : Rule} {s : Str} (h : viewErr (v ++ [r]) = 0) (hm : matchS r.left s = true) : vfwd (v ++ [r]) s = if r.excl then none else fwd r s := by
  obtain ⟨h1, h2⟩ := viewErr_snoc h
  have hd : decL (v ++ [r]) s = v.length := by rw [decL_snoc, hm]; rfl
  have hg : (v ++ [r])[v.length]? = some r := by simp
  obtain ⟨t, ht⟩ := (fwd_match h2).2 hm
  unfold vfwd
  rw [if_pos h, hd, if_pos (by omega), Int.toNat_natCast, hg]
  simp only
  split
  · rfl
  · rw [ht]
    simp only
    have := (decR_ge (v ++ [r]) t).2
    rw [List.length_append] at this
    simp only [List.length_cons, List.length_nil] at this
    rw [if_neg (by omega)]
theorem getElem?_snoc_lt {α : Type} {v : List α} {r : α} {k : Nat} (h : k < v.length) : (v ++ [r])[k]? = v[k]? := List.getElem?_append_left h
/-- A path that the last line does not match. -/
theorem last_other {v : List Rule} {r : Rule} {s : Str} (h : viewErr (v ++ [r]) = 0) (hm : matchS r.left s = false) : vfwd (v ++ [r]) s = (match vfwd v s with
    | some t => if matchS r.right t then none else some t
    | none => none) := by
  obtain ⟨h1, h2⟩ := viewErr_snoc h
  have hd : decL (v ++ [r]) s = decL v s := by rw [decL_snoc, hm]; rfl
  have hlt := (decL_ge v s).2
  rcases hf : vfwd v s with _ | t
  · simp only
    rcases hw : vfwd (v ++ [r]) s with _ | u
    · rfl
    · exfalso
      obtain ⟨_, k, q, g1, g2, g3, g4, g5⟩ := vfwd_some.1 hw
      rw [hd] at g1
      rw [getElem?_snoc_lt (by omega)] at g2
      rw [decR_snoc] at g5
      have : vfwd v s = some u := vfwd_some.2 ⟨h1, k, q, g1, g2, g3, g4, by
        split at g5
        · omega
        · exact g5⟩
      rw [hf] at this
      cases this
  · simp only
    obtain ⟨_, k, q, g1, g2, g3, g4, g5⟩ := vfwd_some.1 hf
    have hk := (List.getElem?_eq_some_iff.1 g2).1
    rcases hr : matchS r.right t with _ | _
    · simp only [Bool.false_eq_true, if_false]
      exact vfwd_some.2 ⟨h, k, q, by rw [hd, g1], by rw [getElem?_snoc_lt hk, g2], g3, g4, by rw [decR_snoc, hr]; exact g5⟩
    · simp only [if_true]
      rcases hw : vfwd (v ++ [r]) s with _ | u
      · rfl
      · exfalso
        obtain ⟨_, k2, q2, e1, e2, e3, e4, e5⟩ := vfwd_some.1 hw
        rw [hd, g1] at e1
        have e6 : k = k2 := by omega
        subst e6
        rw [getElem?_snoc_lt hk, g2] at e2
        cases e2
        rw [g4] at e4
        cases e4
        rw [decR_snoc, hr] at e5
        simp only [if_true] at e5
        omega

theorem decL_cons (r : Rule) (v : List Rule) (s : Str) : decL (r :: v) s = if 0 ≤ decL v s then decL v s + 1 else if matchS r.left s then 0 else -1 := rfl
theorem decR_cons (r : Rule) (v : List Rule) (s : Str) : decR (r :: v) s = if 0 ≤ decR v s then decR v s + 1 else if matchS r.right s then 0 else -1 := rfl
theorem first_none {v : List Rule} {r : Rule} {s : Str} (h : viewErr (r :: v) = 0) (hn : decides v s < 0) : (decides (r :: v) s = 0 ↔ matchS r.left s = true) ∧ decides (r :: v) s ≤ 0 := by
  obtain ⟨h1, h2⟩ := viewErr_cons h
  unfold decides at hn ⊢
  rw [if_pos h1] at hn
  rw [if_pos h, decL_cons, if_neg (by omega)]
  rcases matchS r.left s with _ | _
  · simp
  · simp
theorem first_some {v : List Rule} {r : Rule} {s : Str} (h : viewErr (r :: v) = 0) (hn : 0 ≤ decides v s) : decides (r :: v) s = decides v s + 1 ∧ vfwd (r :: v) s = vfwd v s := by
  obtain ⟨h1, h2⟩ := viewErr_cons h
  unfold decides at hn ⊢
  rw [if_pos h1] at hn ⊢
  have hd : decL (r :: v) s = decL v s + 1 := by rw [decL_cons, if_pos hn]
  rw [if_pos h]
  refine ⟨hd, ?_⟩
  have hR : ∀ t (k : Int), 0 ≤ k → (decR (r :: v) t ≤ k + 1 ↔ decR v t ≤ k) := fun t k hk => by
    rw [decR_cons]
    split
    · omega
    · split <;> omega
  rcases hf : vfwd v s with _ | t
  · rcases hw : vfwd (r :: v) s with _ | u
    · rfl
    · exfalso
      obtain ⟨_, k, q, g1, g2, g3, g4, g5⟩ := vfwd_some.1 hw
      rw [hd] at g1
      obtain ⟨j, rfl⟩ : ∃ j, k = j + 1 := ⟨k - 1, by omega⟩
      have : vfwd v s = some u := vfwd_some.2 ⟨h1, j, q, by omega, by simpa using g2, g3, g4, by
        have := (hR u j (by omega)).1 (by omega)
        exact this⟩
      rw [hf] at this
      cases this
  · obtain ⟨_, k, q, g1, g2, g3, g4, g5⟩ := vfwd_some.1 hf
    exact vfwd_some.2 ⟨h, k + 1, q, by rw [hd, g1]; rfl, by simpa using g2, g3, g4, by
      have := (hR t k (by omega)).2 g5
      omega⟩
theorem vbwd_back {v : List Rule} {s t : Str} (h : vbwd v s = some t) : vfwd v t = some s := by
  have := vfwd_back (v := turnV v) h
  rw [vbwd, turnV_turnV] at this
  exact this
theorem decided {v : List Rule} {s t : Str} (h : vfwd v s = some t) : ∃ (k : Nat) (r : Rule), decides v s = k ∧ v[k]? = some r ∧ r.excl = false ∧ fwd r s = some t := by
  obtain ⟨h0, k, r, h1, h2, h3, h4, _⟩ := vfwd_some.1 h
  exact ⟨k, r, by rw [decides, if_pos h0, h1], h2, h3, h4⟩
theorem decides_lt (v : List Rule) (s : Str) : decides v s < v.length ∧ -1 ≤ decides v s := by
  unfold decides
  split
  · exact ⟨(decL_ge v s).2, (decL_ge v s).1⟩
  · omega
end Go.Proofs.YtglnkpgfdjnhnaaGreatDoor.Sy
