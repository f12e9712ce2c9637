/- Walks: a part within a part. -/
import Derived.Test.YtlmclpbkhhgekaaDoorWalkF
set_option linter.unusedVariables false
set_option linter.unusedSimpArgs false
namespace Go.Proofs.YtlmclpbkhhgekaaDoor
open Go Go.RowKit Sy

/-- A callee that leaves the world alone, met in a world some draws on. -/
theorem quietL {P : Program} {f : FuncId} {args : Array Value} {w : World} {n : Nat} {v : Value} (h : Calls P f args (w.drewN n) fun e w' => e = .returned v ∧ w.drewN n = w') : Calls P f args (w.drewN n) fun e w'' => e = .returned v ∧ ∃ m, w'' = w.drewN m :=
  h.mono fun _ _ ⟨he, hw⟩ => ⟨he, n, hw.symm⟩

set_option maxHeartbeats 400000 in
theorem pwith_u (a b : Str) (w : World) (ha : a.length ≤ 2097152) (hb : b.length ≤ 2097152) : Calls Tryd.prog 97 #[.string (bs a), .string (bs b)] w fun e w' => e = .returned (.bool (inside a b)) ∧ Calm w w' := by
  by_cases hab : a = b
  · subst hab
    have hv : inside a a = true := by simp [inside]
    rw [hv]
    clear hv
    go_enter Tryd.func97, Tryd.ntmps97
    go_wp2
    go_ret
    exact ⟨rfl, Calm.refl w⟩
  · have hne : (a == b) = false := by simpa using hab
    rcases hsb : isStar b with _ | _
    · have hv : inside a b = false := by simp [inside, hne, hsb]
      rw [hv]
      clear hv hab
      go_enter Tryd.func97, Tryd.ntmps97
      go_wp2_with (go_at_call 85; refine (isStar_v _ _ _ hsb).mono ?_; rintro e w' ⟨rfl, rfl⟩)
      go_ret
      exact ⟨rfl, Calm.refl w⟩
    · rcases hsa : isStar a with _ | _
      · have hv : inside a b = mtch b a := by simp [inside, hne, hsa, hsb]
        rw [hv]
        clear hv hab
        have hm := mpart_u b a w hb (by omega)
        generalize mtch b a = r at hm ⊢
        go_enter Tryd.func97, Tryd.ntmps97
        go_wp2_with (first | (go_at_call_of 85 (bs b); refine (isStar_v _ _ _ hsb).mono ?_; rintro e w' ⟨rfl, rfl⟩) | (go_at_call_of 85 (bs a); refine (isStar_v _ _ _ hsa).mono ?_; rintro e w' ⟨rfl, rfl⟩) | (go_at_call 84; refine hm.mono ?_; rintro e w' ⟨rfl, rfl⟩))
        go_ret
        exact ⟨rfl, Calm.refl w⟩
      · have hv : inside a b = endsWith a.tail b.tail := by simp [inside, hne, hsa, hsb]
        rw [hv]
        clear hv hab
        have hx := bs_tail a a.length rfl
        have hy := bs_tail b b.length rfl
        have hm := fun W => hasSuffix_c a.tail b.tail W (by simp; omega)
        have hp1 : 1 ≤ a.length := by
          cases a with
          | nil => cases hsa
          | cons x t => simp
        have hp2 : 1 ≤ b.length := by
          cases b with
          | nil => cases hsb
          | cons x t => simp
        generalize endsWith a.tail b.tail = r at hm ⊢
        go_enter Tryd.func97, Tryd.ntmps97
        go_wp2_with (first | (go_at_call_of 85 (bs b); refine (isStar_v _ _ _ hsb).mono ?_; rintro e w' ⟨rfl, rfl⟩) | (go_at_call_of 85 (bs a); refine (isStar_v _ _ _ hsa).mono ?_; rintro e w' ⟨rfl, rfl⟩))
        go_quiet ((go_at_call 59; exact quietL (hm _)))
        go_wp2
        go_ret
        exact ⟨rfl, (Calm.refl w).drewN _⟩
theorem pwith_c (a b : Str) (w : World) (ha : a.length ≤ 16384) (hb : b.length ≤ 16384) : Calls Tryd.prog 97 #[.string (bs a), .string (bs b)] w fun e w' => e = .returned (.bool (inside a b)) ∧ Calm w w' := pwith_u a b w (by omega) (by omega)
end Go.Proofs.YtlmclpbkhhgekaaDoor
