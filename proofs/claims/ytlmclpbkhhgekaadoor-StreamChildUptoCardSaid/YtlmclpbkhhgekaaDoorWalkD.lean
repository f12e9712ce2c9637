/- Walks: the reference's Check of a pattern. -/
import Derived.Test.YtlmclpbkhhgekaaDoorWalkC
set_option linter.unusedVariables false
set_option linter.unusedSimpArgs false
namespace Go.Proofs.YtlmclpbkhhgekaaDoor
open Go Go.RowKit Sy

set_option maxHeartbeats 1000000 in
theorem rcheck_c (p : Pat) (A : Option Addr) (c : Nat) (w : World) (hr : StrsR w A p.parts) (hnc : p.parts.length ≤ c) (hc47 : c ≤ 9223372036854775807) : Calls Tryd.prog 31 #[.agg #[.slice A p.parts.length c, .bool p.rest]] w fun e w' => e = .returned (.int .i64 (patErr p)) ∧ Calm w w' := by
  have hlen := hr.len
  obtain ⟨n, hn⟩ : ∃ n, p.parts.length = n := ⟨_, rfl⟩
  obtain ⟨re, hre⟩ : ∃ re, p.rest = re := ⟨_, rfl⟩
  have Hn := Lib.hid hn
  have Hre := Lib.hid hre
  rw [hn] at hlen hnc
  rw [hn, hre]
  have HR := Lib.hid hr
  clear hn hre hr
  by_cases h0 : n = 0
  · have hv : patErr p = 30 := by simp [patErr, Hn.out, h0]
    rw [hv, h0]
    clear hv
    go_enter Tryd.func31, Tryd.ntmps31
    go_wp2
    go_ret
    exact ⟨rfl, (Calm.refl w).alloc _⟩
  · by_cases h1 : n = 1 ∧ re = false
    · have hv : patErr p = 30 := by simp [patErr, Hn.out, Hre.out, h1.1, h1.2]
      rw [hv]
      clear hv
      obtain ⟨rfl, rfl⟩ := h1
      go_enter Tryd.func31, Tryd.ntmps31
      go_wp2
      go_ret
      exact ⟨rfl, (Calm.refl w).alloc _⟩
    · have H1 : Hid (¬ (n = 1 ∧ re = false)) := h1
      have hb0 : ((n : Int) == 0) = false := by simp; omega
      have hb1 : ((n : Int) == 1) = false ∨ (((n : Int) == 1) = true ∧ re = true) := by
        by_cases e : n = 1
        · right
          refine ⟨by simp; omega, ?_⟩
          rcases re with _ | _
          · exact absurd ⟨e, rfl⟩ h1
          · rfl
        · left; simp; omega
      clear h1
      obtain ⟨b, o, x, rfl, hbw, hx, hxl, hcx⟩ := HR.out.get (k := 0) (by rw [Hn.out]; omega)
      have core : ∀ w1 : World, Calm w w1 → (∀ k, k < n → ∃ l, p.parts[k]? = some l ∧ l.length ≤ 16384 ∧ w1.cell? ⟨b, o + k, none⟩ = some (.string (bs l))) := fun w1 hc k hk => by
        obtain ⟨b', o', l, h1, _, h2, h3, h4⟩ := (HR.out.calm hc).get (k := k) (by rw [Hn.out]; exact hk)
        cases h1
        exact ⟨l, h2, h3, h4⟩
      have Hcore := Lib.hid (core _ ((Calm.refl w).alloc (.cells #[.slice (some ⟨b, o, none⟩) n c, .bool re] 33)))
      have Hx := Lib.hid hx
      have hpos : 0 < n := by omega
      have hcell0 : (w.alloc (.cells #[.slice (some ⟨b, o, none⟩) n c, .bool re] 33)).cell? ⟨b, o, none⟩ = some (.string (bs x)) := by
        obtain ⟨l, h2, _, h4⟩ := Hcore.out 0 hpos
        rw [hx] at h2
        cases h2
        exact h4
      clear core HR hx hcx
      rcases hcx : comp x with _ | _
      · have hv : Hid (patErr p = 30) := patErr_bad Hx.out (by show good 0 x = false; simp [good, hcx])
        clear Hcore
        go_enter Tryd.func31, Tryd.ntmps31
        rcases hb1 with hb1 | ⟨hb1, rfl⟩
        all_goals
          go_wp2_with (go_at_call 26; refine (rcomp_v _ _ _ (by omega) hcx).mono ?_; rintro e w' ⟨rfl, rfl⟩)
          go_ret
          exact ⟨ret_int hv.out.symm, (Calm.refl w).alloc _⟩
      · have hg0 : Hid (goodTo p.parts 1 = true) := good_of Hx.out (by simp [goodTo]) (by simp [good, hcx])
        obtain ⟨m, hm⟩ : ∃ m, m = n - 1 := ⟨_, rfl⟩
        have hnm : Hid (n = m + 1) := by show n = m + 1; omega
        have hm1 : m + 1 ≤ n := by omega
        have hm2 : n ≤ m + 1 := by omega
        have hm3 := Lib.hid hm
        have hfin : ∀ k : Nat, goodTo p.parts (k + 1) = true → m ≤ k → k ≤ m → patErr p = if 12 < n then 31 else 0 := fun k hk h1 h2 => by
          have e : k + 1 = n := by omega
          rw [e] at hk
          rw [patErr_good (by rw [Hn.out]; exact h0) (by rw [Hn.out, Hre.out]; exact H1.out) (by rw [Hn.out]; exact hk), Hn.out]
        have Hfin := Lib.hid hfin
        clear hfin
        have hm4 : ((n - 1 : Nat) : Int) = (m : Int) := by omega
        have hm5 : n - 1 = m := by omega
        clear hm
        by_cases hc1 : c = 1
        · subst hc1
          obtain rfl : n = 1 := by omega
          rcases hb1 with hb1 | ⟨hb1, rfl⟩
          · simp at hb1
          have hv := Lib.hid (Hfin.out 0 hg0.out (by omega) (by omega))
          clear hb0 hb1 hm4 hm5 Hcore Hfin h0
          go_enter Tryd.func31, Tryd.ntmps31
          go_wp2_with (go_at_call 26; refine (rcomp_v _ _ _ (by omega) hcx).mono ?_; rintro e w' ⟨rfl, rfl⟩)
          go_loop [32] (fun i => i = .int .i64 0) (fun i => 0)
          case atStart => rfl
          case round =>
            subst hrel
            go_wp2
            go_ret
            exact ⟨ret_int (by rw [hv.out]; rfl), (Calm.refl w).alloc _⟩
        · go_enter Tryd.func31, Tryd.ntmps31
          rcases hb1 with hb1 | ⟨hb1, rfl⟩
          all_goals
            go_wp2_with (go_at_call 26; refine (rcomp_v _ _ _ (by omega) hcx).mono ?_; rintro e w' ⟨rfl, rfl⟩)
            go_loop [32] (fun i => ∃ k : Nat, k ≤ m ∧ i = .int .i64 k ∧ Hid (goodTo p.parts (k + 1) = true)) (fun i => m - (intOf i).toNat)
            case atStart => exact ⟨0, Nat.zero_le _, rfl, hg0⟩
            case round =>
              obtain ⟨k, hk, rfl, hh⟩ := hrel
              by_cases hlt : k < m
              · obtain ⟨l, hl, hll, hcell⟩ := Hcore.out (k + 1) (by omega)
                rw [show o + (k + 1) = o + 1 + k by omega] at hcell
                have Hl := Lib.hid hl
                clear hl Hcore Hfin hcell0
                rcases hf : partOk l with _ | _
                · have hv : Hid (patErr p = 30) := patErr_bad Hl.out (by show good (k + 1) l = false; simpa [good] using hf)
                  go_wp2_with (go_at_call 58; refine (part_v _ _ _ (by omega) hf).mono ?_; rintro e w' ⟨rfl, rfl⟩)
                  go_ret
                  exact ⟨ret_int hv.out.symm, (Calm.refl w).alloc _⟩
                · have hg : Hid (goodTo p.parts (k + 1 + 1) = true) := good_of Hl.out hh.out (by simpa [good] using hf)
                  go_wp2_with (go_at_call 58; refine (part_v _ _ _ (by omega) hf).mono ?_; rintro e w' ⟨rfl, rfl⟩)
                  go_round
                  case rel => exact ⟨k + 1, by omega, by go_num, hg⟩
                  case measure => simp [intOf]; omega
              · have hv := Lib.hid (Hfin.out k hh.out (by omega) hk)
                clear Hcore Hfin
                by_cases h12 : 12 < n
                · go_wp2
                  go_ret
                  exact ⟨ret_int (by rw [hv.out, if_pos h12]), (Calm.refl w).alloc _⟩
                · go_wp2
                  go_ret
                  exact ⟨ret_int (by rw [hv.out, if_neg h12]), (Calm.refl w).alloc _⟩
end Go.Proofs.YtlmclpbkhhgekaaDoor
