/- Walks: the reference's wildcards, the two Checks of a pattern. -/
import Derived.Test.YtlmclpbkhhgekaaDoorWalkB
set_option linter.unusedVariables false
set_option linter.unusedSimpArgs false
namespace Go.Proofs.YtlmclpbkhhgekaaDoor
open Go Go.RowKit Sy

theorem ret_tup2 {a b c d : Value} (h : a = c) (k : b = d) : Ending.returned (.tuple #[a, b]) = .returned (.tuple #[c, d]) := by rw [h, k]

/-- What Star hands back. -/
def starSuf (l : Str) : Str := if starOk l then l.tail else []

theorem star_no {l : Str} (h : starOk l = false) : Ending.returned (.tuple #[.string ⟨#[]⟩, .bool false]) = .returned (.tuple #[.string (bs (starSuf l)), .bool (starOk l)]) := by
  rw [starSuf, h]
  rfl
theorem bs_extract1 (c : UInt8) (t : List UInt8) (n : Nat) (hn : n = t.length + 1) : (bs (c :: t)).extract 1 n = bs t := by
  subst hn
  rw [ByteArray.ext_iff, ByteArray.data_extract]
  simp [bs]
theorem star_yes {c : UInt8} {t : Str} (h : starOk (c :: t) = true) {n : Nat} (hn : n = t.length + 1) : Ending.returned (.tuple #[.string ((bs (c :: t)).extract 1 n), .bool true]) = .returned (.tuple #[.string (bs (starSuf (c :: t))), .bool (starOk (c :: t))]) := by
  rw [starSuf, h, bs_extract1 c t n hn]
  rfl

set_option maxHeartbeats 400000 in
theorem star_c (l : List UInt8) (w : World) (hl : l.length ≤ 140737488355328) : Calls Tryd.prog 33 #[.string (bs l)] w fun e w' => e = .returned (.tuple #[.string (bs (starSuf l)), .bool (starOk l)]) ∧ w = w' := by
  cases l with
  | nil =>
    go_enter Tryd.func33, Tryd.ntmps33
    go_wp2
    go_ret2
    exact ⟨rfl, rfl⟩
  | cons c t =>
    simp only [List.length_cons] at hl
    by_cases h42 : c = 42
    · have hst : Hid (starOk (c :: t) = t.all isByte) := by
        subst h42
        show starOk _ = _
        simp [starOk_cons]
      subst h42
      go_enter Tryd.func33, Tryd.ntmps33
      go_wp2_with fail
      go_loop [4] (fun i => ∃ k : Nat, k ≤ t.length ∧ i = .int .i64 ((k : Int) + 1) ∧ Hid ((t.take k).all isByte = true)) (fun i => t.length + 2 - (intOf i).toNat)
      case atStart => exact ⟨0, Nat.zero_le _, rfl, rfl⟩
      case round =>
        obtain ⟨k, hk, rfl, hh⟩ := hrel
        by_cases hlt : k < t.length
        · obtain ⟨b, hb⟩ : ∃ b, (42 :: t)[k + 1]'(by simpa using hlt) = b := ⟨_, rfl⟩
          cases hib : isByte b with
          | true =>
            have h0 := lix_yes hib
            go_wp2_with (go_at_call 53; refine (letters_c _ (by decide +kernel) _ _).mono ?_; rintro e w' ⟨rfl, rfl⟩)
            go_round
            case rel => exact ⟨k + 1, by omega, by go_num, tail_step (by simpa using hlt) hb hh.out hib⟩
            case measure => simp [intOf]; omega
          | false =>
            have h0 := lix_no hib
            go_wp2_with (go_at_call 53; refine (letters_c _ (by decide +kernel) _ _).mono ?_; rintro e w' ⟨rfl, rfl⟩)
            go_ret2
            have hf : starOk (42 :: t) = false := by rw [hst.out, tail_stop (by simpa using hlt) hb hib]
            exact ⟨star_no hf, rfl⟩
        · go_wp2
          go_ret2
          have hk2 : k = t.length := by omega
          have hf : starOk (42 :: t) = true := by rw [hst.out]; have := hh.out; rw [hk2, List.take_of_length_le (by simp)] at this; exact this
          exact ⟨star_yes hf rfl, rfl⟩
    · have hst : Hid (starOk (c :: t) = false) := by
        show starOk _ = _
        rw [starOk_cons, beq_eq_false_iff_ne.2 h42]
        rfl
      have hc : ((c.toNat : Int) == 42) = false := by
        rw [beq_eq_false_iff_ne]
        intro e
        exact h42 (UInt8.toNat_inj.1 (by simp; omega))
      clear h42
      go_enter Tryd.func33, Tryd.ntmps33
      go_wp2
      go_ret2
      exact ⟨star_no hst.out, rfl⟩

theorem starOk_not_comp {l : Str} (h : starOk l = true) : comp l = false := by
  cases l with
  | nil => rfl
  | cons c t =>
    rw [starOk_cons, Bool.and_eq_true, beq_iff_eq] at h
    obtain ⟨rfl, _⟩ := h
    simp [comp, isByte]

theorem rcomp_v (l : List UInt8) (b : Bool) (w : World) (hl : l.length ≤ 140737488355328) (h : comp l = b) : Calls Tryd.prog 26 #[.string (bs l)] w fun e w' => e = .returned (.bool b) ∧ w = w' := h ▸ rcomp_c l w hl

set_option maxHeartbeats 400000 in
theorem part_c (l : List UInt8) (w : World) (hl : l.length ≤ 140737488355328) : Calls Tryd.prog 58 #[.string (bs l)] w fun e w' => e = .returned (.bool (partOk l)) ∧ w = w' := by
  rcases hst : starOk l with _ | _
  · have hv : partOk l = comp l := by simp [partOk, hst]
    have hs := star_c l w hl
    rw [hst] at hs
    rw [hv]
    clear hv
    go_enter Tryd.func58, Tryd.ntmps58
    go_wp2_with (first | (go_at_call 33; refine hs.mono ?_; rintro e w' ⟨rfl, rfl⟩) | (go_at_call 26; refine (rcomp_c _ _ hl).mono ?_; rintro e w' ⟨rfl, rfl⟩))
    go_ret
    exact ⟨rfl, rfl⟩
  · have hv : partOk l = true := by simp [partOk, hst]
    have hs := star_c l w hl
    rw [hst] at hs
    rw [hv]
    clear hv
    go_enter Tryd.func58, Tryd.ntmps58
    go_wp2_with (go_at_call 33; refine hs.mono ?_; rintro e w' ⟨rfl, rfl⟩)
    go_ret
    exact ⟨rfl, rfl⟩

theorem part_v (l : List UInt8) (b : Bool) (w : World) (hl : l.length ≤ 140737488355328) (h : partOk l = b) : Calls Tryd.prog 58 #[.string (bs l)] w fun e w' => e = .returned (.bool b) ∧ w = w' := h ▸ part_c l w hl

theorem StrsR.get {w : World} {A : Option Addr} {ls : List Str} (h : StrsR w A ls) {k : Nat} (hk : k < ls.length) : ∃ b o l, A = some ⟨b, o, none⟩ ∧ b < w.heap.size ∧ ls[k]? = some l ∧ l.length ≤ 16384 ∧ w.cell? ⟨b, o + k, none⟩ = some (.string (bs l)) := by
  obtain ⟨b, o, hA, hb, hc⟩ := h.at_ (by omega)
  exact ⟨b, o, ls[k], hA, hb, List.getElem?_eq_getElem hk, h.each _ (List.getElem_mem hk), hc k _ (List.getElem?_eq_getElem hk)⟩

theorem good_of {ls : List Str} {k : Nat} {l : Str} (hl : ls[k]? = some l) (h : goodTo ls k = true) (hg : good k l = true) : goodTo ls (k + 1) = true := by
  rw [goodTo_succ, h, List.getD_eq_getElem?_getD, hl]
  exact hg

set_option maxHeartbeats 1000000 in
theorem pcheck_c (p : Pat) (A : Option Addr) (c : Nat) (w : World) (hr : StrsR w A p.parts) (_hnc : p.parts.length ≤ c) (_hc47 : c ≤ 9223372036854775807) : Calls Tryd.prog 83 #[.agg #[.slice A p.parts.length c, .bool p.rest]] w fun e w' => e = .returned (.int .i64 (patErr p)) ∧ Calm w w' := by
  have hlen := hr.len
  obtain ⟨n, hn⟩ : ∃ n, p.parts.length = n := ⟨_, rfl⟩
  obtain ⟨re, hre⟩ : ∃ re, p.rest = re := ⟨_, rfl⟩
  have Hn := Lib.hid hn
  have Hre := Lib.hid hre
  rw [hn] at hlen
  rw [hn, hre]
  have HR := Lib.hid hr
  clear hn hre hr
  by_cases h0 : n = 0
  · have hv : patErr p = 30 := by simp [patErr, Hn.out, h0]
    rw [hv, h0]
    clear hv
    go_enter Tryd.func83, Tryd.ntmps83
    go_wp2
    go_ret
    exact ⟨rfl, (Calm.refl w).alloc _⟩
  · by_cases h1 : n = 1 ∧ re = false
    · have hv : patErr p = 30 := by simp [patErr, Hn.out, Hre.out, h1.1, h1.2]
      rw [hv]
      clear hv
      obtain ⟨rfl, rfl⟩ := h1
      go_enter Tryd.func83, Tryd.ntmps83
      go_wp2
      go_ret
      exact ⟨rfl, (Calm.refl w).alloc _⟩
    · have H1 : Hid (¬ (n = 1 ∧ re = false)) := h1
      have hb0 : ((n : Int) == 0) = false := by simp; omega
      have hb1 : ((n : Int) == 1) = false ∨ (((n : Int) == 1) = true ∧ re = true) := by
        by_cases e : n = 1
        · right
          refine ⟨by simp; omega, ?_⟩
          rcases re with _ | _
          · exact absurd ⟨e, rfl⟩ h1
          · rfl
        · left; simp; omega
      clear h1
      have core : ∀ w1 : World, Calm w w1 → (∀ k, k < n → ∃ b o l, A = some ⟨b, o, none⟩ ∧ p.parts[k]? = some l ∧ l.length ≤ 16384 ∧ w1.cell? ⟨b, o + k, none⟩ = some (.string (bs l))) := fun w1 hc k hk => by
        obtain ⟨b, o, l, h1, _, h2, h3, h4⟩ := (HR.out.calm hc).get (k := k) (by rw [Hn.out]; exact hk)
        exact ⟨b, o, l, h1, h2, h3, h4⟩
      have Hcore := Lib.hid (core _ ((Calm.refl w).alloc (.cells #[.slice A n c, .bool re] 33)))
      clear core HR
      have hgo : n ≤ 16384 := hlen
      go_enter Tryd.func83, Tryd.ntmps83
      rcases hb1 with hb1 | ⟨hb1, rfl⟩
      all_goals
        go_wp2_with fail
        go_loop [23] (fun i => ∃ k : Nat, k ≤ n ∧ i = .int .i64 k ∧ Hid (goodTo p.parts k = true)) (fun i => n - (intOf i).toNat)
        case atStart => exact ⟨0, Nat.zero_le _, rfl, rfl⟩
        case round =>
          obtain ⟨k, hk, rfl, hh⟩ := hrel
          by_cases hlt : k < n
          · obtain ⟨b, o, l, rfl, hl, hll, hcell⟩ := Hcore.out k hlt
            have Hl := Lib.hid hl
            clear hl Hcore
            rcases form_cases l with hf | hf | hf
            · have hg : Hid (good k l = true) := by show good k l = true; unfold good; split <;> simp [hf.2, partOk]
              have hf1 := hf.1
              clear hf
              go_wp2_with (go_at_call 95; refine (form_v _ _ _ (by omega) hf1).mono ?_; rintro e w' ⟨rfl, rfl⟩)
              go_round
              case rel => exact ⟨k + 1, by omega, by go_num, good_of Hl.out hh.out hg.out⟩
              case measure => simp [intOf]; omega
            · have hf1 := hf.1
              by_cases hk0 : k = 0
              · have hv : Hid (patErr p = 30) := patErr_bad Hl.out (by show good k l = false; simp [good, hk0, hf.2])
                have hkb : ((k : Int) == 0) = true := by simp; omega
                clear hf hk0
                go_wp2_with (go_at_call 95; refine (form_v _ _ _ (by omega) hf1).mono ?_; rintro e w' ⟨rfl, rfl⟩)
                go_ret
                exact ⟨ret_int hv.out.symm, (Calm.refl w).alloc _⟩
              · have hg : Hid (good k l = true) := by show good k l = true; simp [good, hk0, hf.2, partOk]
                have hkb : ((k : Int) == 0) = false := by simp; omega
                clear hf hk0
                go_wp2_with (go_at_call 95; refine (form_v _ _ _ (by omega) hf1).mono ?_; rintro e w' ⟨rfl, rfl⟩)
                go_round
                case rel => exact ⟨k + 1, by omega, by go_num, good_of Hl.out hh.out hg.out⟩
                case measure => simp [intOf]; omega
            · have hf1 := hf.1
              have hv : Hid (patErr p = 30) := patErr_bad Hl.out (by show good k l = false; unfold good; split <;> simp [hf.2, partOk])
              clear hf
              go_wp2_with (go_at_call 95; refine (form_v _ _ _ (by omega) hf1).mono ?_; rintro e w' ⟨rfl, rfl⟩)
              go_ret
              exact ⟨ret_int hv.out.symm, (Calm.refl w).alloc _⟩
          · have hkn : Hid (goodTo p.parts n = true) := by
              have : k = n := by omega
              rw [← this]; exact hh.out
            clear Hcore
            have hv : Hid (patErr p = if 12 < n then 31 else 0) := by
              show patErr p = _
              rw [patErr_good (by rw [Hn.out]; exact h0) (by rw [Hn.out, Hre.out]; exact H1.out) (by rw [Hn.out]; exact hkn.out), Hn.out]
            by_cases h12 : 12 < n
            · go_wp2
              go_ret
              exact ⟨ret_int (by rw [hv.out, if_pos h12]), (Calm.refl w).alloc _⟩
            · go_wp2
              go_ret
              exact ⟨ret_int (by rw [hv.out, if_neg h12]), (Calm.refl w).alloc _⟩
end Go.Proofs.YtlmclpbkhhgekaaDoor
