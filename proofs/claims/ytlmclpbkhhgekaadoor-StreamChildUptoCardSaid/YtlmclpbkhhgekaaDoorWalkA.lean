/- Walks: bytes, components, the forms of parts. -/
import Derived.Test.YtlmclpbkhhgekaaDoorRead
import Derived.Test.YtlmclpbkhhgekaaDoorShelf
import Derived.WalkLawsBesides
import Derived.WalkSpells
set_option linter.unusedVariables false
set_option linter.unusedSimpArgs false
namespace Go.Proofs.YtlmclpbkhhgekaaDoor
open Go Go.RowKit Sy

theorem isByte_iff (c : UInt8) : isByte c = true ↔ (65 ≤ (c.toNat : Int) ∧ (c.toNat : Int) ≤ 90) ∨ (97 ≤ (c.toNat : Int) ∧ (c.toNat : Int) ≤ 122) ∨ (48 ≤ (c.toNat : Int) ∧ (c.toNat : Int) ≤ 57) ∨ (c.toNat : Int) = 95 ∨ (c.toNat : Int) = 46 ∨ (c.toNat : Int) = 43 ∨ (c.toNat : Int) = 45 := by
  have e : ∀ k : UInt8, (c = k) ↔ (c.toNat : Int) = k.toNat := fun k => by rw [← UInt8.toNat_inj]; omega
  simp only [isByte, Bool.or_eq_true, Bool.and_eq_true, decide_eq_true_eq, beq_iff_eq, UInt8.le_iff_toNat_le, e]
  simp only [UInt8.reduceToNat]
  omega

set_option maxHeartbeats 400000 in
theorem isByte_c (c : UInt8) (w : World) : Calls Tryd.prog 80 #[.int .u8 (c.toNat : Int)] w fun e w' => e = .returned (.bool (isByte c)) ∧ w = w' := by
  go_enter Tryd.func80, Tryd.ntmps80
  go_wp2
  all_goals
    go_ret
    refine ⟨ret_bool ?_, rfl⟩
    rw [Bool.eq_iff_iff, isByte_iff]
    simp
    omega

theorem isByte_v (c : UInt8) (b : Bool) (w : World) (h : isByte c = b) : Calls Tryd.prog 80 #[.int .u8 (c.toNat : Int)] w fun e w' => e = .returned (.bool b) ∧ w = w' := h ▸ isByte_c c w

/-- All of k bytes are allowed. -/
theorem all_take_succ (l : List UInt8) (k : Nat) (h : k < l.length) (b : UInt8) (hb : l[k]? = some b) : (l.take (k + 1)).all isByte = ((l.take k).all isByte && isByte b) := by
  rw [List.take_succ_eq_append_getElem h]
  have : l[k] = b := by rw [List.getElem?_eq_getElem h] at hb; exact Option.some.inj hb
  simp [this]

theorem comp_all (c : UInt8) (t : List UInt8) (h : c ≠ 46) : comp (c :: t) = (c :: t).all isByte := by
  have h' : (c != 46) = true := bne_iff_ne.2 h
  simp only [comp, h', Bool.true_and, List.all_cons]
theorem all_step {l : List UInt8} {k : Nat} {b : UInt8} (hk : k < l.length) (hb : l[k] = b) (h : (l.take k).all isByte = true) (hs : isByte b = true) : (l.take (k + 1)).all isByte = true := by
  rw [List.take_succ_eq_append_getElem hk, hb]
  simp only [List.all_append, List.all_cons, List.all_nil, Bool.and_true, Bool.and_eq_true]
  exact ⟨h, hs⟩
theorem all_stop {l : List UInt8} {k : Nat} {b : UInt8} (hk : k < l.length) (hb : l[k] = b) (hs : isByte b = false) : l.all isByte = false := by
  rw [List.all_eq_false]
  exact ⟨b, by rw [← hb]; exact List.getElem_mem hk, by simp [hs]⟩

set_option maxHeartbeats 400000 in
theorem comp_c (l : List UInt8) (w : World) (hl : l.length ≤ 140737488355328) : Calls Tryd.prog 64 #[.string (bs l)] w fun e w' => e = .returned (.bool (comp l)) ∧ w = w' := by

  cases l with
  | nil =>
    go_enter Tryd.func64, Tryd.ntmps64
    go_wp2
    go_ret
    exact ⟨rfl, rfl⟩
  | cons c t =>
    simp only [List.length_cons] at hl
    by_cases h46 : c = 46
    · subst h46
      go_enter Tryd.func64, Tryd.ntmps64
      go_wp2
      go_ret
      exact ⟨rfl, rfl⟩
    · have hc : ((c.toNat : Int) == 46) = false := by
        rw [beq_eq_false_iff_ne]
        intro e
        exact h46 (UInt8.toNat_inj.1 (by simp; omega))
      have H46 : Hid (c ≠ 46) := h46
      clear h46
      go_enter Tryd.func64, Tryd.ntmps64
      go_wp2_with fail
      go_loop [13] (fun i => ∃ k : Nat, k ≤ t.length + 1 ∧ i = .int .i64 k ∧ Hid (((c :: t).take k).all isByte = true)) (fun i => t.length + 1 - (intOf i).toNat)
      case atStart => exact ⟨0, Nat.zero_le _, rfl, rfl⟩
      case round =>
        obtain ⟨k, hk, rfl, hh⟩ := hrel
        by_cases hlt : k < t.length + 1
        · obtain ⟨b, hb⟩ : ∃ b, (c :: t)[k]'(by simpa using hlt) = b := ⟨_, rfl⟩
          cases hib : isByte b with
          | true =>
            go_wp2_with (go_at_call 80; refine (isByte_v _ _ _ hib).mono ?_; rintro e w' ⟨rfl, rfl⟩)
            go_round
            case rel => exact ⟨k + 1, by omega, by go_num, all_step (by simpa using hlt) hb hh.out hib⟩
            case measure => simp [intOf]; omega
          | false =>
            go_wp2_with (go_at_call 80; refine (isByte_v _ _ _ hib).mono ?_; rintro e w' ⟨rfl, rfl⟩)
            go_ret
            exact ⟨ret_bool (by rw [comp_all c t H46.out, all_stop (by simpa using hlt) hb hib]), rfl⟩
        · go_wp2
          go_ret
          have hk2 : k = t.length + 1 := by omega
          exact ⟨ret_bool (by rw [comp_all c t H46.out]; have := hh.out; rw [hk2, List.take_of_length_le (by simp)] at this; exact this.symm), rfl⟩

theorem comp_v (l : List UInt8) (b : Bool) (w : World) (hl : l.length ≤ 140737488355328) (h : comp l = b) : Calls Tryd.prog 64 #[.string (bs l)] w fun e w' => e = .returned (.bool b) ∧ w = w' := h ▸ comp_c l w hl

theorem hasPrefix42 (l : List UInt8) : Lib.hasPrefix l [42] = isStar l := by
  cases l with
  | nil => rfl
  | cons c t =>
    show ((42 == c) && ([] : List UInt8).isPrefixOf t) = (c == 42)
    rw [List.isPrefixOf_nil_left, Bool.and_true, Bool.eq_iff_iff, beq_iff_eq, beq_iff_eq]
    exact ⟨Eq.symm, Eq.symm⟩
theorem hasStar_c (l : List UInt8) (w : World) : Calls Tryd.prog 16 #[.string (bs l), .string ⟨#[42]⟩] w fun e w' => e = .returned (.bool (isStar l)) ∧ w = w' :=
  (Tryd.strings_HasPrefix (bs l) ⟨#[42]⟩ w).mono fun _ _ ⟨he, hw⟩ => ⟨by rw [he, bs_toList, ← hasPrefix42], hw.symm⟩

theorem hasStar_v (l : List UInt8) (b : Bool) (w : World) (h : isStar l = b) : Calls Tryd.prog 16 #[.string (bs l), .string ⟨#[42]⟩] w fun e w' => e = .returned (.bool b) ∧ w = w' := h ▸ hasStar_c l w

theorem isStar_c (l : List UInt8) (w : World) : Calls Tryd.prog 85 #[.string (bs l)] w fun e w' => e = .returned (.bool (isStar l)) ∧ w = w' := by
  go_enter Tryd.func85, Tryd.ntmps85
  go_wp2_with (go_at_call 16; refine (hasStar_c _ _).mono ?_; rintro e w' ⟨rfl, rfl⟩)
  go_ret
  exact ⟨rfl, rfl⟩

theorem starOk_cons (c : UInt8) (t : List UInt8) : starOk (c :: t) = (c == 42 && t.all isByte) := rfl
theorem starOk_star {l : List UInt8} (h : starOk l = true) : isStar l = true := by
  cases l with
  | nil => exact h
  | cons c t => rw [starOk_cons, Bool.and_eq_true] at h; exact h.1

theorem tail_step {c : UInt8} {t : List UInt8} {k : Nat} {b : UInt8} (hk : k + 1 < (c :: t).length) (hb : (c :: t)[k + 1] = b) (h : (t.take k).all isByte = true) (hs : isByte b = true) : (t.take (k + 1)).all isByte = true :=
  all_step (l := t) (k := k) (b := b) (by simpa using hk) (by simpa using hb) h hs
theorem tail_stop {c : UInt8} {t : List UInt8} {k : Nat} {b : UInt8} (hk : k + 1 < (c :: t).length) (hb : (c :: t)[k + 1] = b) (hs : isByte b = false) : t.all isByte = false :=
  all_stop (l := t) (k := k) (b := b) (by simpa using hk) (by simpa using hb) hs

set_option maxHeartbeats 400000 in
theorem form_c (l : List UInt8) (w : World) (hl : l.length ≤ 140737488355328) : Calls Tryd.prog 95 #[.string (bs l)] w fun e w' => e = .returned (.int .i64 (formI l)) ∧ w = w' := by
  have hcl := comp_c l w hl

  rcases hco : comp l with _ | _
  · rcases hst : isStar l with _ | _
    · have hv : formI l = 0 := by
        have : starOk l = false := by
          rcases h : starOk l with _ | _
          · rfl
          · rw [starOk_star h] at hst; cases hst
        simp [formI, hco, this]
      rw [hv]
      clear hv
      go_enter Tryd.func95, Tryd.ntmps95
      go_wp2_with (first | (go_at_call 64; refine (comp_v _ _ _ hl hco).mono ?_; rintro e w' ⟨rfl, rfl⟩) | (go_at_call 16; refine (hasStar_v _ _ _ hst).mono ?_; rintro e w' ⟨rfl, rfl⟩))
      go_ret
      exact ⟨rfl, rfl⟩
    · cases l with
      | nil => cases hst
      | cons c t =>
        have hc42 : Hid (formI (c :: t) = if t.all isByte then 2 else 0) := by
          have e : (c == 42) = true := hst
          show formI (c :: t) = _
          simp only [formI, hco, starOk_cons, e, Bool.true_and, Bool.false_eq_true, if_false]
        simp only [List.length_cons] at hl
        go_enter Tryd.func95, Tryd.ntmps95
        go_wp2_with (first | (go_at_call 64; refine (comp_v _ _ _ (by simp only [List.length_cons]; omega) hco).mono ?_; rintro e w' ⟨rfl, rfl⟩) | (go_at_call 16; refine (hasStar_v _ _ _ hst).mono ?_; rintro e w' ⟨rfl, rfl⟩))
        go_loop [3] (fun i => ∃ k : Nat, k ≤ t.length ∧ i = .int .i64 ((k : Int) + 1) ∧ Hid ((t.take k).all isByte = true)) (fun i => t.length + 2 - (intOf i).toNat)
        case atStart => exact ⟨0, Nat.zero_le _, rfl, rfl⟩
        case round =>
          obtain ⟨k, hk, rfl, hh⟩ := hrel
          by_cases hlt : k < t.length
          · obtain ⟨b, hb⟩ : ∃ b, (c :: t)[k + 1]'(by simpa using hlt) = b := ⟨_, rfl⟩
            cases hib : isByte b with
            | true =>
              go_wp2_with (go_at_call 80; refine (isByte_v _ _ _ hib).mono ?_; rintro e w' ⟨rfl, rfl⟩)
              go_round
              case rel => exact ⟨k + 1, by omega, by go_num, tail_step (by simpa using hlt) hb hh.out hib⟩
              case measure => simp [intOf]; omega
            | false =>
              go_wp2_with (go_at_call 80; refine (isByte_v _ _ _ hib).mono ?_; rintro e w' ⟨rfl, rfl⟩)
              go_ret
              exact ⟨ret_int (by rw [hc42.out, tail_stop (by simpa using hlt) hb hib]; rfl), rfl⟩
          · go_wp2
            go_ret
            have hk2 : k = t.length := by omega
            exact ⟨ret_int (by rw [hc42.out]; have := hh.out; rw [hk2, List.take_of_length_le (by simp)] at this; rw [this]; rfl), rfl⟩
  · have hv : formI l = 1 := by simp [formI, hco]
    rw [hv]
    clear hv
    go_enter Tryd.func95, Tryd.ntmps95
    go_wp2_with (go_at_call 64; refine (comp_v _ _ _ hl hco).mono ?_; rintro e w' ⟨rfl, rfl⟩)
    go_ret
    exact ⟨rfl, rfl⟩

theorem form_v (l : List UInt8) (v : Int) (w : World) (hl : l.length ≤ 140737488355328) (h : formI l = v) : Calls Tryd.prog 95 #[.string (bs l)] w fun e w' => e = .returned (.int .i64 v) ∧ w = w' := h ▸ form_c l w hl
end Go.Proofs.YtlmclpbkhhgekaaDoor
