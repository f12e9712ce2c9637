/- Walks: reaches, covers. -/
import Derived.Test.YtdndfkoklhfffaaGreatDoorWalkG
import Derived.Test.YtdndfkoklhfffaaGreatDoorCalm
set_option linter.unusedVariables false
set_option linter.unusedSimpArgs false
namespace Go.Proofs.YtdndfkoklhfffaaGreatDoor
open Go Go.RowKit Sy

theorem cover_no {h b : Pat} {i n j : Nat} (h1 : i ≤ j) (h2 : j < n) (h3 : j < h.parts.length) (hf : inside (pAt b j) (pAt h j) = false) : covers h b i n = false := by
  rcases hc : covers h b i n with _ | _
  · rfl
  · rw [covers_true.1 hc j h1 h2 h3] at hf
    cases hf

set_option maxHeartbeats 400000 in
theorem reaches_c (p : Pat) (n : Nat) (A : Option Addr) (c : Nat) (w : World) (hlen : p.parts.length ≤ 16384) : Calls Tryz.prog 36 #[.agg #[.slice A p.parts.length c, .bool p.rest], .int .i64 n] w fun e w' => e = .returned (.bool (reaches p n)) ∧ Calm w w' := by
  obtain ⟨m, hm⟩ : ∃ m, p.parts.length = m := ⟨_, rfl⟩
  rw [hm] at hlen ⊢
  cases hr : p.rest with
  | true =>
    have hv : reaches p n = decide (m < n) := by simp [reaches, hr, hm]
    rw [hv]
    clear hv hr hm
    by_cases hlt : m < n
    · have h1 : ((n : Int) == (m : Int)) = false := by simp; omega
      go_enter Tryz.func36, Tryz.ntmps36
      go_wp2
      go_ret
      exact ⟨ret_bool (by simp [hlt]), (Calm.refl w).alloc _⟩
    · go_enter Tryz.func36, Tryz.ntmps36
      by_cases he : n = m
      · have h1 : ((n : Int) == (m : Int)) = true := by simp; omega
        clear he
        go_wp2
        go_ret
        exact ⟨ret_bool (by simp [hlt]), (Calm.refl w).alloc _⟩
      · have h1 : ((n : Int) == (m : Int)) = false := by simp; omega
        clear he
        go_wp2
        go_ret
        exact ⟨ret_bool (by simp [hlt]), (Calm.refl w).alloc _⟩
  | false =>
    have hv : reaches p n = (n == m) := by simp [reaches, hr, hm]
    rw [hv]
    clear hv hr hm
    go_enter Tryz.func36, Tryz.ntmps36
    by_cases he : n = m
    · have h1 : ((n : Int) == (m : Int)) = true := by simp; omega
      have h2 := Lib.hid he
      clear he
      go_wp2
      go_ret
      exact ⟨ret_bool (by simp [h2.out]), (Calm.refl w).alloc _⟩
    · have h1 : ((n : Int) == (m : Int)) = false := by simp; omega
      have h2 := Lib.hid he
      clear he
      by_cases hlt : m < n
      all_goals
        go_wp2
        go_ret
        exact ⟨ret_bool (by have := h2.out; simp [this]), (Calm.refl w).alloc _⟩

set_option maxHeartbeats 1000000 in
theorem covers_c (h b : Pat) (i n : Nat) (HA : Option Addr) (hc : Nat) (A : Option Addr) (c : Nat) (w : World) (hi : i ≤ 20000) (hn : n ≤ 20000) (hh : StrsR w HA h.parts) (hb : StrsR w A b.parts) :
    Calls Tryz.prog 38 #[.agg #[.slice HA h.parts.length hc, .bool h.rest], .agg #[.slice A b.parts.length c, .bool b.rest], .int .i64 i, .int .i64 n] w fun e w' => e = .returned (.bool (covers h b i n)) ∧ Calm w w' := by
  have hlen := hh.len
  obtain ⟨m, hm⟩ : ∃ m, h.parts.length = m := ⟨_, rfl⟩
  rw [hm] at hlen
  obtain ⟨w1, hw1⟩ : ∃ w1, w1 = (w.alloc (.cells #[.slice HA m hc, .bool h.rest] 24)).alloc (.cells #[.slice A b.parts.length c, .bool b.rest] 24) := ⟨_, rfl⟩
  have hc1 : Calm w w1 := by rw [hw1]; exact ((Calm.refl w).alloc _).alloc _
  have hs1 : w1.heap.size = w.heap.size + 2 := by rw [hw1]; simp
  have c0 : w1.cell? ⟨w.heap.size, 0, none⟩ = some (.slice HA m hc) := by rw [hw1]; simp
  have c1 : w1.cell? ⟨w.heap.size + 1, 0, none⟩ = some (.slice A b.parts.length c) := by rw [hw1]; simp
  have c2 : w1.cell? ⟨w.heap.size + 1, 1, none⟩ = some (.bool b.rest) := by rw [hw1]; simp
  have HC := Lib.hid hc1
  have HM := Lib.hid hm
  have HW := Lib.hid hw1
  have HS := Lib.hid hs1
  have HCells := Lib.hid (And.intro c0 (And.intro c1 c2))
  have HH := Lib.hid (hh.calm hc1)
  have HB := Lib.hid (hb.calm hc1)
  rw [hm]
  clear hh hb hm hw1 hc1 hs1 c0 c1 c2
  go_enter Tryz.func38, Tryz.ntmps38
  go_wp2_with fail
  rw [← HW.out]
  go_loopw [9] (fun q wr => ∃ k : Nat, i ≤ k ∧ k ≤ max i n ∧ q = .int .i64 k ∧ Hid (∀ j, i ≤ j → j < k → j < n → j < m → inside (pAt b j) (pAt h j) = true) ∧ Hid (Calm w1 wr)) (fun q _ => max i n - (intOf q).toNat)
  case atStart => exact ⟨i, Nat.le_refl _, by omega, rfl, fun j h1 h2 => absurd h2 (by omega), Calm.refl _⟩
  case round =>
    obtain ⟨k, hk1, hk2, rfl, HI, HCr⟩ := hrel
    have d0 := HCr.out.at_ HCells.out.1 (by rw [HS.out]; omega)
    by_cases hkn : k < n
    · by_cases hkm : k < m
      · obtain ⟨bb, o, l, rfl, hbb, hl, hll, hcell⟩ := (HH.out.calm HCr.out).get (k := k) (by rw [HM.out]; exact hkm)
        have hpl : pAt h k = l := by simp [pAt, List.getD_eq_getElem?_getD, hl]
        have HP := Lib.hid hpl
        have e0 : ∀ p : CalmTo wr, p.w.cell? ⟨w.heap.size, 0, none⟩ = some (.slice (some ⟨bb, o, none⟩) m hc) := fun p => p.cell d0 (Nat.lt_of_lt_of_le (by rw [HS.out]; omega) HCr.out.size)
        have e1 : ∀ p : CalmTo wr, p.w.cell? ⟨w.heap.size + 1, 0, none⟩ = some (.slice A b.parts.length c) := fun p => p.cell (HCr.out.at_ HCells.out.2.1 (by rw [HS.out]; omega)) (Nat.lt_of_lt_of_le (by rw [HS.out]; omega) HCr.out.size)
        have e2 : ∀ p : CalmTo wr, p.w.cell? ⟨w.heap.size + 1, 1, none⟩ = some (.bool b.rest) := fun p => p.cell (HCr.out.at_ HCells.out.2.2 (by rw [HS.out]; omega)) (Nat.lt_of_lt_of_le (by rw [HS.out]; omega) HCr.out.size)
        have e3 : ∀ p : CalmTo wr, p.w.cell? ⟨bb, o + k, none⟩ = some (.string (bs l)) := fun p => p.cell hcell hbb
        have K1 := Lib.hid (fun p : CalmTo wr => partAt_c b k A c p.w (by omega) (HB.out.calm (HCr.out.trans p.h)))
        have hpbl : (pAt b k).length ≤ 16384 := by
          rcases Nat.lt_or_ge k b.parts.length with hkb | hkb
          · have : pAt b k = b.parts[k] := by simp [pAt, List.getD_eq_getElem?_getD, List.getElem?_eq_getElem hkb]
            rw [this]; exact HB.out.each _ (List.getElem_mem hkb)
          · rw [pAt_out hkb]; simp
        have K2 := Lib.hid (fun p : CalmTo wr => pwith_c (pAt b k) l p.w hpbl hll)
        obtain ⟨r, hr⟩ : ∃ r, inside (pAt b k) l = r := ⟨_, rfl⟩
        rw [hr] at K2
        have HR := Lib.hid hr
        clear hl hpl hcell hr
        go_wp2_with fail
        refine wp_region_calm (by kernel_rfl) (by kernel_rfl) ?_
        repeat (go_big_quiet_step ((first | (go_at_call 40; exact calmOf (K1.out _)) | (go_at_call 69; exact calmOf (K2.out _)))))
        refine wpQuiet_nil ?_
        intro w2 hcw2
        cases r with
        | true =>
          go_wp2
          go_roundw
          case rel =>
            refine ⟨k + 1, by omega, by omega, by go_num, fun j h1 h2 h3 h4 => ?_, HCr.out.trans hcw2⟩
            by_cases e : j = k
            · subst e
              rw [HP.out]
              exact HR.out
            · exact HI.out j h1 (by omega) h3 h4
          case measure => simp [intOf]; omega
        | false =>
          go_wp2
          go_ret
          exact ⟨ret_bool (cover_no hk1 hkn (by rw [HM.out]; exact hkm) (by rw [HP.out]; exact HR.out)).symm, HC.out.trans (HCr.out.trans hcw2)⟩
      · have hv : Hid (covers h b i n = true) := covers_true.2 fun j h1 h2 h3 => HI.out j h1 (by rw [HM.out] at h3; omega) h2 (by rw [HM.out] at h3; exact h3)
        go_wp2
        go_ret
        exact ⟨ret_bool hv.out.symm, HC.out.trans HCr.out⟩
    · have hv : Hid (covers h b i n = true) := covers_true.2 fun j h1 h2 h3 => HI.out j h1 (by omega) h2 (by rw [HM.out] at h3; exact h3)
      go_wp2
      go_ret
      exact ⟨ret_bool hv.out.symm, HC.out.trans HCr.out⟩
end Go.Proofs.YtdndfkoklhfffaaGreatDoor
