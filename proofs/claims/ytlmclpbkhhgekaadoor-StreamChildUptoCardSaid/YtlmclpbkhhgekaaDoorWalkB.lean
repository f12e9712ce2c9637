/- Walks: the reference's components and parts. -/
import Derived.Test.YtlmclpbkhhgekaaDoorWalkA
set_option linter.unusedVariables false
set_option linter.unusedSimpArgs false
namespace Go.Proofs.YtlmclpbkhhgekaaDoor
open Go Go.RowKit Sy

def letters : List UInt8 := [65, 66, 67, 68, 69, 70, 71, 72, 73, 74, 75, 76, 77, 78, 79, 80, 81, 82, 83, 84, 85, 86, 87, 88, 89, 90, 97, 98, 99, 100, 101, 102, 103, 104, 105, 106, 107, 108, 109, 110, 111, 112, 113, 114, 115, 116, 117, 118, 119, 120, 121, 122, 48, 49, 50, 51, 52, 53, 54, 55, 56, 57, 95, 46, 43, 45]
/-- The place of a byte among the letters, or -1. -/
def lix (b : UInt8) : Int := Lib.indexByte letters b
theorem lix_fin : ∀ n : Fin 256, (decide (lix (UInt8.ofNat n.val) < 0)) = !isByte (UInt8.ofNat n.val) := by decide +kernel
theorem lix_neg (b : UInt8) : decide (lix b < 0) = !isByte b := by
  have := lix_fin ⟨b.toNat, b.toNat_lt⟩
  simpa using this
theorem lix_yes {b : UInt8} (h : isByte b = true) : 0 ≤ lix b := by
  have := lix_neg b
  rw [h] at this
  simpa using this
theorem lix_no {b : UInt8} (h : isByte b = false) : lix b < 0 := by
  have := lix_neg b
  rw [h] at this
  simpa using this

theorem letters_c (L : ByteArray) (hL : L.data.toList = letters) (b : UInt8) (w : World) : Calls Tryd.prog 53 #[.string L, .int .u8 (b.toNat : Int)] w fun e w' => e = .returned (.int .i64 (lix b)) ∧ w = w' :=
  (Tryd.strings_IndexByte L (b.toNat : Int) w).mono fun _ _ ⟨he, hw⟩ => ⟨by rw [he, hL]; simp [lix], hw.symm⟩

set_option maxHeartbeats 400000 in
theorem rcomp_c (l : List UInt8) (w : World) (hl : l.length ≤ 140737488355328) : Calls Tryd.prog 26 #[.string (bs l)] w fun e w' => e = .returned (.bool (comp l)) ∧ w = w' := by
  cases l with
  | nil =>
    go_enter Tryd.func26, Tryd.ntmps26
    go_wp2
    go_ret
    exact ⟨rfl, rfl⟩
  | cons c t =>
    simp only [List.length_cons] at hl
    by_cases h46 : c = 46
    · subst h46
      go_enter Tryd.func26, Tryd.ntmps26
      go_wp2
      go_ret
      exact ⟨rfl, rfl⟩
    · have hc : ((c.toNat : Int) == 46) = false := by
        rw [beq_eq_false_iff_ne]
        intro e
        exact h46 (UInt8.toNat_inj.1 (by simp; omega))
      have H46 : Hid (c ≠ 46) := h46
      clear h46
      go_enter Tryd.func26, Tryd.ntmps26
      go_wp2_with fail
      go_loop [3] (fun i => ∃ k : Nat, k ≤ t.length + 1 ∧ i = .int .i64 k ∧ Hid (((c :: t).take k).all isByte = true)) (fun i => t.length + 1 - (intOf i).toNat)
      case atStart => exact ⟨0, Nat.zero_le _, rfl, rfl⟩
      case round =>
        obtain ⟨k, hk, rfl, hh⟩ := hrel
        by_cases hlt : k < t.length + 1
        · obtain ⟨b, hb⟩ : ∃ b, (c :: t)[k]'(by simpa using hlt) = b := ⟨_, rfl⟩
          cases hib : isByte b with
          | true =>
            have h0 := lix_yes hib
            go_wp2_with (go_at_call 53; refine (letters_c _ (by decide +kernel) _ _).mono ?_; rintro e w' ⟨rfl, rfl⟩)
            go_round
            case rel => exact ⟨k + 1, by omega, by go_num, all_step (by simpa using hlt) hb hh.out hib⟩
            case measure => simp [intOf]; omega
          | false =>
            have h0 := lix_no hib
            go_wp2_with (go_at_call 53; refine (letters_c _ (by decide +kernel) _ _).mono ?_; rintro e w' ⟨rfl, rfl⟩)
            go_ret
            exact ⟨ret_bool (by rw [comp_all c t H46.out, all_stop (by simpa using hlt) hb hib]), rfl⟩
        · go_wp2
          go_ret
          have hk2 : k = t.length + 1 := by omega
          exact ⟨ret_bool (by rw [comp_all c t H46.out]; have := hh.out; rw [hk2, List.take_of_length_le (by simp)] at this; exact this.symm), rfl⟩
end Go.Proofs.YtlmclpbkhhgekaaDoor
