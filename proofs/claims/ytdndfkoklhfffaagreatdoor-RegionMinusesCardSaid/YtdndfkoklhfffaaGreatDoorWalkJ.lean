/- Walks: the least length of a region's paths; Void, Empty. -/
import Derived.Test.YtdndfkoklhfffaaGreatDoorWalkI
set_option linter.unusedVariables false
set_option linter.unusedSimpArgs false
namespace Go.Proofs.YtdndfkoklhfffaaGreatDoor
open Go Go.RowKit Sy

theorem reaches_v (p : Pat) (n : Nat) (r : Bool) (A : Option Addr) (c : Nat) (w : World) (hv : reaches p n = r) (hlen : p.parts.length ≤ 16384) : Calls Tryz.prog 36 #[.agg #[.slice A p.parts.length c, .bool p.rest], .int .i64 n] w fun e w' => e = .returned (.bool r) ∧ Calm w w' := hv ▸ reaches_c p n A c w hlen

set_option maxHeartbeats 1000000 in
theorem lcl_pred (b : Pat) (n : Nat) (A : Option Addr) (c : Nat) (w : World) (Bn Bb : Nat) (hn : n ≤ 20000) (hBn : Bn < w.heap.size) (hBb : Bb < w.heap.size) (cn : w.cell? ⟨Bn, 0, none⟩ = some (.int .i64 n))
    (cb0 : w.cell? ⟨Bb, 0, none⟩ = some (.slice A b.parts.length c)) (cb1 : w.cell? ⟨Bb, 1, none⟩ = some (.bool b.rest)) (hb : StrsR w A b.parts) :
    PredP 68 #[.pointer (some ⟨Bn, 0, none⟩), .pointer (some ⟨Bb, 0, none⟩)] (fun h => reaches h n && covers h b 0 n) w := by
  intro W hW h Ah ch hh hhc hhc47
  show Calls Tryz.prog 68 #[.agg #[.slice Ah h.parts.length ch, .bool h.rest], .pointer (some ⟨Bn, 0, none⟩), .pointer (some ⟨Bb, 0, none⟩)] W _
  have dn := hW.at_ cn hBn
  have d0 := hW.at_ cb0 hBb
  have d1 := hW.at_ cb1 hBb
  have hne1 : Bn ≠ W.heap.size := by have := hW.size; omega
  have hne2 : Bb ≠ W.heap.size := by have := hW.size; omega
  have HBn : Bn < W.heap.size := Nat.lt_of_lt_of_le hBn hW.size
  have HBb : Bb < W.heap.size := Nat.lt_of_lt_of_le hBb hW.size
  have HH := Lib.hid hh
  have HB := Lib.hid (hb.calm hW)
  have hlen := hh.len
  clear hW cn cb0 cb1 hb hh hBn hBb
  rcases hr : reaches h n with _ | _
  · go_enter Tryz.func68, Tryz.ntmps68
    go_wp2_with (go_at_call 36; refine (reaches_v _ _ _ _ _ _ hr hlen).mono ?_; rintro e w2 ⟨rfl, hc2⟩)
    go_ret
    exact ⟨ret_bool (by simp [hr]), ((Calm.refl W).alloc _).trans hc2⟩
  · obtain ⟨W1, hW1⟩ : ∃ W1, W1 = W.alloc (.cells #[.slice Ah h.parts.length ch, .bool h.rest] 24) := ⟨_, rfl⟩
    have hc1 : Calm W W1 := by rw [hW1]; exact (Calm.refl W).alloc _
    have hs1 : W.heap.size < W1.heap.size := by rw [hW1]; simp
    have k0 : W1.cell? ⟨W.heap.size, 0, none⟩ = some (.slice Ah h.parts.length ch) := by rw [hW1]; simp
    have k1 : W1.cell? ⟨W.heap.size, 1, none⟩ = some (.bool h.rest) := by rw [hW1]; simp
    have hcall := reaches_v h n true Ah ch W1 hr hlen
    have HW := Lib.hid hW1
    have HC := Lib.hid hc1
    have HK := Lib.hid (And.intro hs1 (And.intro k0 k1))
    have HD := Lib.hid (And.intro dn (And.intro d0 d1))
    clear hW1 hc1 hs1 k0 k1
    have hcov := fun W' (hc : Calm W1 W') => covers_c h b 0 n Ah ch A c W' (by omega) hn (HH.out.calm (HC.out.trans hc)) (HB.out.calm (HC.out.trans hc))
    have HCov := Lib.hid hcov
    clear hcov
    go_enter Tryz.func68, Tryz.ntmps68
    go_wp2_with (first
      | (go_at_call 36; rw [← HW.out]; refine hcall.mono ?_; rintro e w2 ⟨rfl, hc2⟩; have l0 := hc2.at_ HK.out.2.1 HK.out.1; have l1 := hc2.at_ HK.out.2.2 HK.out.1; have m0 := (HC.out.trans hc2).at_ HD.out.1 HBn; have m1 := (HC.out.trans hc2).at_ HD.out.2.1 HBb; have m2 := (HC.out.trans hc2).at_ HD.out.2.2 HBb)
      | (go_at_call 38; refine (HCov.out _ hc2).mono ?_; rintro e w3 ⟨rfl, hc3⟩))
    go_ret
    exact ⟨ret_bool (by simp [hr]), HC.out.trans (hc2.trans hc3)⟩

/-- The greatest length after k holes. -/
def lastTo (b : Pat) (hs : List Pat) (k : Nat) : Nat := (hs.take k).foldl (fun m h => max m (h.parts.length + 1)) (b.parts.length + 1)
theorem lastTo_succ {b : Pat} {hs : List Pat} {k : Nat} {p : Pat} (h : hs[k]? = some p) : lastTo b hs (k + 1) = max (lastTo b hs k) (p.parts.length + 1) := by
  obtain ⟨hlt, he⟩ := List.getElem?_eq_some_iff.1 h
  simp only [lastTo, List.take_succ_eq_append_getElem hlt, List.foldl_append, he, List.foldl_cons, List.foldl_nil]
theorem lastTo_bound {b : Pat} {hs : List Pat} (hb : b.parts.length ≤ 16384) (hh : ∀ p ∈ hs, p.parts.length ≤ 16384) : ∀ k, lastTo b hs k ≤ 16385 ∧ b.parts.length + 1 ≤ lastTo b hs k := by
  intro k
  induction k with
  | zero => simp [lastTo]; omega
  | succ k ih =>
    rcases h : hs[k]? with _ | p
    · have : lastTo b hs (k + 1) = lastTo b hs k := by
        have hl := List.getElem?_eq_none_iff.1 h
        simp [lastTo, List.take_of_length_le hl, List.take_of_length_le (show hs.length ≤ k + 1 by omega)]
      rw [this]; exact ih
    · rw [lastTo_succ h]
      have := hh p (List.mem_of_getElem? h)
      omega
theorem seek_stop {b : Pat} {hs : List Pat} {n k : Nat} (h : full b hs n = false) (hk : 0 < k) : seek b hs n k = n := by
  cases k with
  | zero => omega
  | succ k => simp [seek, h]
theorem seek_go {b : Pat} {hs : List Pat} {n k : Nat} (h : full b hs n = true) (hk : 0 < k) : seek b hs n k = seek b hs (n + 1) (k - 1) := by
  cases k with
  | zero => omega
  | succ k => simp [seek, h]

theorem PatsR.lens {w : World} {A : Option Addr} {ps : List Pat} (h : PatsR w A ps) : ∀ p ∈ ps, p.parts.length ≤ 16384 := fun p hp => by
  obtain ⟨j, hj, e⟩ := List.mem_iff_getElem.1 hp
  obtain ⟨_, _, q, _, _, _, _, hq, _, _, _, _, h5⟩ := h.get hj
  rw [List.getElem?_eq_getElem hj, e] at hq
  cases hq
  exact h5.len
end Go.Proofs.YtdndfkoklhfffaaGreatDoor
