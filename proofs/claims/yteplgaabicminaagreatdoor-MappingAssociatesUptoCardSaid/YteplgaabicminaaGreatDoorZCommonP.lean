/- Walk: have two regions a path in common? -/
import Derived.Deep.LoopGhost
import Derived.Deep.DeepCutAuto
import Derived.Deep.RegionHeld3
import Derived.BigQuiet
import Derived.Test.YteplgaabicminaaGreatDoorZWalkI
import Derived.Test.YteplgaabicminaaGreatDoorZMapL
import Derived.Test.YteplgaabicminaaGreatDoorZConcatP
set_option linter.unusedVariables false
set_option linter.unusedSimpArgs false
namespace Go.Proofs.YteplgaabicminaaGreatDoor
open Go Go.RowKit Sy

theorem reaches_v (p : Pat) (n : Nat) (r : Bool) (A : Option Addr) (c : Nat) (w : World) (hv : reaches p n = r) (hlen : p.parts.length ≤ 16384) : Calls Tryz.prog 111 #[.agg #[.slice A p.parts.length c, .bool p.rest], .int .i64 n] w fun e w' => e = .returned (.bool r) ∧ Calm w w' := hv ▸ reaches_c p n A c w hlen

set_option maxHeartbeats 1000000 in
theorem lcl_pred (b : Pat) (n : Nat) (A : Option Addr) (c : Nat) (w : World) (Bn Bb : Nat) (hn : n ≤ 20000) (hBn : Bn < w.heap.size) (hBb : Bb < w.heap.size) (cn : w.cell? ⟨Bn, 0, none⟩ = some (.int .i64 n))
    (cb0 : w.cell? ⟨Bb, 0, none⟩ = some (.slice A b.parts.length c)) (cb1 : w.cell? ⟨Bb, 1, none⟩ = some (.bool b.rest)) (hb : StrsR w A b.parts) :
    PredP 110 #[.pointer (some ⟨Bn, 0, none⟩), .pointer (some ⟨Bb, 0, none⟩)] (fun h => reaches h n && covers h b 0 n) w := by
  intro W hW h Ah ch hh hhc hhc47
  show Calls Tryz.prog 110 #[.agg #[.slice Ah h.parts.length ch, .bool h.rest], .pointer (some ⟨Bn, 0, none⟩), .pointer (some ⟨Bb, 0, none⟩)] W _
  have dn := hW.at_ cn hBn
  have d0 := hW.at_ cb0 hBb
  have d1 := hW.at_ cb1 hBb
  have hne1 : Bn ≠ W.heap.size := by have := hW.size; omega
  have hne2 : Bb ≠ W.heap.size := by have := hW.size; omega
  have HBn : Bn < W.heap.size := Nat.lt_of_lt_of_le hBn hW.size
  have HBb : Bb < W.heap.size := Nat.lt_of_lt_of_le hBb hW.size
  have HH := Lib.hid hh
  have HB := Lib.hid (hb.calm hW)
  have hlen := hh.len
  clear hW cn cb0 cb1 hb hh hBn hBb
  rcases hr : reaches h n with _ | _
  · go_enter Tryz.func110, Tryz.ntmps110
    go_wp2_with (go_at_call 111; refine (reaches_v _ _ _ _ _ _ hr hlen).mono ?_; rintro e w2 ⟨rfl, hc2⟩)
    go_ret
    exact ⟨ret_bool (by simp [hr]), ((Calm.refl W).alloc _).trans hc2⟩
  · obtain ⟨W1, hW1⟩ : ∃ W1, W1 = W.alloc (.cells #[.slice Ah h.parts.length ch, .bool h.rest] 38) := ⟨_, rfl⟩
    have hc1 : Calm W W1 := by rw [hW1]; exact (Calm.refl W).alloc _
    have hs1 : W.heap.size < W1.heap.size := by rw [hW1]; simp
    have k0 : W1.cell? ⟨W.heap.size, 0, none⟩ = some (.slice Ah h.parts.length ch) := by rw [hW1]; simp
    have k1 : W1.cell? ⟨W.heap.size, 1, none⟩ = some (.bool h.rest) := by rw [hW1]; simp
    have hcall := reaches_v h n true Ah ch W1 hr hlen
    have HW := Lib.hid hW1
    have HC := Lib.hid hc1
    have HK := Lib.hid (And.intro hs1 (And.intro k0 k1))
    have HD := Lib.hid (And.intro dn (And.intro d0 d1))
    clear hW1 hc1 hs1 k0 k1
    have hcov := fun W' (hc : Calm W1 W') => covers_c h b 0 n Ah ch A c W' (by omega) hn (HH.out.calm (HC.out.trans hc)) (HB.out.calm (HC.out.trans hc))
    have HCov := Lib.hid hcov
    clear hcov
    go_enter Tryz.func110, Tryz.ntmps110
    go_wp2_with (first
      | (go_at_call 111; rw [← HW.out]; refine hcall.mono ?_; rintro e w2 ⟨rfl, hc2⟩; have l0 := hc2.at_ HK.out.2.1 HK.out.1; have l1 := hc2.at_ HK.out.2.2 HK.out.1; have m0 := (HC.out.trans hc2).at_ HD.out.1 HBn; have m1 := (HC.out.trans hc2).at_ HD.out.2.1 HBb; have m2 := (HC.out.trans hc2).at_ HD.out.2.2 HBb)
      | (go_at_call 112; refine (HCov.out _ hc2).mono ?_; rintro e w3 ⟨rfl, hc3⟩))
    go_ret
    exact ⟨ret_bool (by simp [hr]), HC.out.trans (hc2.trans hc3)⟩
def lastTo (b : Pat) (hs : List Pat) (k : Nat) : Nat := (hs.take k).foldl (fun m h => max m (h.parts.length + 1)) (b.parts.length + 1)
theorem lastTo_succ {b : Pat} {hs : List Pat} {k : Nat} {p : Pat} (h : hs[k]? = some p) : lastTo b hs (k + 1) = max (lastTo b hs k) (p.parts.length + 1) := by
  obtain ⟨hlt, he⟩ := List.getElem?_eq_some_iff.1 h
  simp only [lastTo, List.take_succ_eq_append_getElem hlt, List.foldl_append, he, List.foldl_cons, List.foldl_nil]
theorem lastTo_bound {b : Pat} {hs : List Pat} (hb : b.parts.length ≤ 16384) (hh : ∀ p ∈ hs, p.parts.length ≤ 16384) : ∀ k, lastTo b hs k ≤ 16385 ∧ b.parts.length + 1 ≤ lastTo b hs k := by
  intro k
  induction k with
  | zero => simp [lastTo]; omega
  | succ k ih =>
    rcases h : hs[k]? with _ | p
    · have : lastTo b hs (k + 1) = lastTo b hs k := by
        have hl := List.getElem?_eq_none_iff.1 h
        simp [lastTo, List.take_of_length_le hl, List.take_of_length_le (show hs.length ≤ k + 1 by omega)]
      rw [this]; exact ih
    · rw [lastTo_succ h]
      have := hh p (List.mem_of_getElem? h)
      omega
theorem seek_stop {b : Pat} {hs : List Pat} {n k : Nat} (h : full b hs n = false) (hk : 0 < k) : seek b hs n k = n := by
  cases k with
  | zero => omega
  | succ k => simp [seek, h]
theorem seek_go {b : Pat} {hs : List Pat} {n k : Nat} (h : full b hs n = true) (hk : 0 < k) : seek b hs n k = seek b hs (n + 1) (k - 1) := by
  cases k with
  | zero => omega
  | succ k => simp [seek, h]

theorem PatsR.lens {w : World} {A : Option Addr} {ps : List Pat} (h : PatsR w A ps) : ∀ p ∈ ps, p.parts.length ≤ 16384 := fun p hp => by
  obtain ⟨j, hj, e⟩ := List.mem_iff_getElem.1 hp
  obtain ⟨_, _, q, _, _, _, _, hq, _, _, _, _, h5⟩ := h.get hj
  rw [List.getElem?_eq_getElem hj, e] at hq
  cases hq
  exact h5.len
end Go.Proofs.YteplgaabicminaaGreatDoor
set_option linter.unusedVariables false
set_option linter.unusedSimpArgs false
namespace Go.Proofs.YteplgaabicminaaGreatDoor
open Go Go.RowKit Sy

set_option maxHeartbeats 2000000 in
theorem llen_c (b : Pat) (hs : List Pat) (A : Option Addr) (c : Nat) (HA : Option Addr) (hc : Nat) (w : World) (hb : StrsR w A b.parts) (hh : PatsR w HA hs) :
    Calls Tryz.prog 81 #[.agg #[.slice A b.parts.length c, .bool b.rest], .slice HA hs.length hc] w fun e w' => e = .returned (.int .i64 (leastLen b hs)) ∧ Calm w w' := by
  have hlen := hb.len
  have hhl := hh.len
  have hls := hh.lens
  have hbd := lastTo_bound (b := b) (hs := hs) hlen hls
  obtain ⟨m, hm⟩ : ∃ m, b.parts.length = m := ⟨_, rfl⟩
  obtain ⟨hn, hhn⟩ : ∃ hn, hs.length = hn := ⟨_, rfl⟩
  rw [hm] at hlen hbd
  rw [hhn] at hhl
  obtain ⟨w1, hw1⟩ : ∃ w1, w1 = w.alloc (.cells #[.slice A m c, .bool b.rest] 38) := ⟨_, rfl⟩
  have hc1 : Calm w w1 := by rw [hw1]; exact (Calm.refl w).alloc _
  have hs1 : w.heap.size < w1.heap.size := by rw [hw1]; simp
  have k0 : w1.cell? ⟨w.heap.size, 0, none⟩ = some (.slice A m c) := by rw [hw1]; simp
  have k1 : w1.cell? ⟨w.heap.size, 1, none⟩ = some (.bool b.rest) := by rw [hw1]; simp
  have HC := Lib.hid hc1
  have HW := Lib.hid hw1
  have HM := Lib.hid hm
  have Hhn := Lib.hid hhn
  have HK : Hid (w.heap.size < w1.heap.size ∧ w1.cell? ⟨w.heap.size, 0, none⟩ = some (.slice A b.parts.length c) ∧ w1.cell? ⟨w.heap.size, 1, none⟩ = some (.bool b.rest)) := ⟨hs1, by rw [hm]; exact k0, k1⟩
  have e0 : ∀ p : CalmTo w1, p.w.cell? ⟨w.heap.size, 0, none⟩ = some (.slice A m c) := fun p => p.cell k0 hs1
  have HB := Lib.hid (hb.calm hc1)
  have HH := Lib.hid (hh.calm hc1)
  have HBd := Lib.hid hbd
  rw [hm, hhn]
  obtain ⟨re, hre⟩ : ∃ re, b.rest = re := ⟨_, rfl⟩
  have HRe := Lib.hid hre
  have hre1 := k1
  rw [hre] at hre1 hw1 ⊢
  have HW := Lib.hid hw1
  have HRe1 := Lib.hid (And.intro hre1 hs1)
  clear hb hh hm hhn hw1 hc1 hs1 k0 k1 hls hbd hre hre1
  go_enter Tryz.func81, Tryz.ntmps81
  go_wp2_with fail
  rw [← HW.out]
  refine wp_region_calm (by kernel_rfl) (by kernel_rfl) ?_
  repeat (go_big_quiet_step (fail))
  refine wpQuiet_nil ?_
  intro w2 hcw2
  have d1 := hcw2.at_ HRe1.out.1 HRe1.out.2
  have HC2 := Lib.hid hcw2
  clear hcw2 e0
  cases re with
  | false =>
    have HCX := HC2
    have hle : m ≤ m + 1 ∧ leastLen b hs = seek b hs m (m + 1 - m) := by
      refine ⟨by omega, ?_⟩
      unfold leastLen firstLen lastLen
      rw [HRe.out, if_neg (by simp), if_neg (by simp), HM.out]
    go_wp2_with fail
    have HLe := Lib.hid hle
    clear hle
    go_loopg [9] (m + 1 - m) (fun gg q wr => ∃ (B n : Nat), q = .pointer (some ⟨B, 0, none⟩) ∧ n ≤ m + 1 ∧ gg = m + 1 - n ∧ w1.heap.size ≤ B ∧ B < wr.heap.size ∧ wr.cell? ⟨B, 0, none⟩ = some (.int .i64 n) ∧ Hid (leastLen b hs = seek b hs n (m + 1 - n)) ∧ Hid (Calm w1 wr))
    case atStart => exact ⟨_, m, rfl, HLe.out.1, rfl, HCX.out.size, by simp, by simp, HLe.out.2, HCX.out.alloc _⟩
    case round =>
      obtain ⟨B, n, rfl, hn1, hgg, hB1, hB2, hcn, HSk, HCr⟩ := hrel
      have HG := Lib.hid hgg
      clear hgg
      by_cases hnl : n ≤ m
      · have hnl2 : n ≤ 20000 := by omega
        have hany := pany_c 110 #[.pointer (some ⟨B, 0, none⟩), .pointer (some ⟨w.heap.size, 0, none⟩)] (enters_of Tryz.func110 (by kernel_rfl) rfl) (fun h => reaches h n && covers h b 0 n) hs HA hc wr (HH.out.calm HCr.out)
          (lcl_pred b n A c wr B w.heap.size hnl2 hB2 (Nat.lt_of_lt_of_le HK.out.1 HCr.out.size) hcn (HCr.out.at_ HK.out.2.1 HK.out.1) (HCr.out.at_ HK.out.2.2 HK.out.1) (HB.out.calm HCr.out))
        rw [Hhn.out] at hany
        have hfe : hs.any (fun h => reaches h n && covers h b 0 n) = full b hs n := rfl
        rw [hfe] at hany
        clear hfe
        obtain ⟨r, hr⟩ : ∃ r, full b hs n = r := ⟨_, rfl⟩
        rw [hr] at hany
        have HR := Lib.hid hr
        clear hr
        cases r with
        | true =>
          go_wp2_with (go_at_call 62; refine hany.mono ?_; rintro e w3 ⟨rfl, hc3⟩; have hcn3 := hc3.at_ hcn hB2)
          go_roundg (m + 1 - (n + 1))
          case measure => have := HG.out; omega
          case rel => exact ⟨_, n + 1, rfl, by omega, rfl, Nat.le_trans hB1 (Nat.le_trans (Nat.le_of_lt hB2) hc3.size), by simp, by simp, (by show leastLen b hs = _; rw [HSk.out, seek_go HR.out (by omega)]; congr 1), (HCr.out.trans hc3).alloc _⟩
        | false =>
          go_wp2_with (go_at_call 62; refine hany.mono ?_; rintro e w3 ⟨rfl, hc3⟩; have hcn3 := hc3.at_ hcn hB2)
          go_ret
          exact ⟨ret_int (by rw [HSk.out, seek_stop HR.out (by omega)]), HC.out.trans (HCr.out.trans hc3)⟩
      · have hz : Hid (leastLen b hs = 0) := by
          show leastLen b hs = 0
          rw [HSk.out, show m + 1 - n = 0 by omega]
          rfl
        clear HSk HG
        go_wp2
        go_ret
        exact ⟨ret_int (by rw [hz.out]; rfl), HC.out.trans HCr.out⟩
  | true =>
    go_wp2_with fail
    go_loopw [6, 24] (fun t q wr => ∃ k : Nat, k ≤ hn ∧ q = .int .i64 k ∧ t = .int .i64 (lastTo b hs k : Nat) ∧ Hid (Calm w1 wr)) (fun _ q _ => hn - (intOf q).toNat)
    case atStart => exact ⟨0, Nat.zero_le _, rfl, congrArg (Value.int .i64) (by simp [lastTo, HM.out]), HC2.out⟩
    case round =>
      obtain ⟨k, hk, rfl, rfl, HCr⟩ := hrel
      have hbk := (HBd.out k).1
      by_cases hlt : k < hn
      · obtain ⟨bb, o, p, Ak, ck, rfl, _, hpk, h1, h2, h3, h4, h5⟩ := (HH.out.calm HCr.out).get (k := k) (by rw [Hhn.out]; exact hlt)
        have hpl := h5.len
        have hst := lastTo_succ (b := b) hpk
        obtain ⟨T, hT⟩ : ∃ T, lastTo b hs k = T := ⟨_, rfl⟩
        rw [hT] at hst hbk ⊢
        have HST := Lib.hid hst
        have HT := Lib.hid hT
        have HPK := Lib.hid hpk
        clear hst h5 hT hpk
        go_wp2
        go_roundw
        case rel => exact ⟨k + 1, by omega, by go_num, congrArg (Value.int .i64) (by rw [HST.out]; omega), HCr.out.alloc _⟩
        case measure => simp [intOf]; omega
      · have HCX := HCr
        obtain ⟨L, hL⟩ : ∃ L, lastTo b hs k = L := ⟨_, rfl⟩
        have hL16 : L ≤ 16385 := by omega
        have hml : m + 1 ≤ L := by have := (HBd.out k).2; omega
        have hle : m + 1 ≤ L + 1 ∧ leastLen b hs = seek b hs (m + 1) (L + 1 - (m + 1)) := by
          refine ⟨by omega, ?_⟩
          have hk2 : k = hs.length := by rw [Hhn.out]; omega
          have hl2 : lastLen b hs = L := by
            rw [lastLen, if_pos HRe.out, ← hL, lastTo, hk2, List.take_length]
          have hf2 : firstLen b = m + 1 := by rw [firstLen, if_pos HRe.out, HM.out]
          rw [leastLen, hl2, hf2]
        rw [hL]
        clear hL hbk
        go_wp2_with fail
        have HLe := Lib.hid hle
        clear hle
        go_loopg [9] (L + 1 - (m + 1)) (fun gg q wr => ∃ (B n : Nat), q = .pointer (some ⟨B, 0, none⟩) ∧ n ≤ L + 1 ∧ gg = L + 1 - n ∧ w1.heap.size ≤ B ∧ B < wr.heap.size ∧ wr.cell? ⟨B, 0, none⟩ = some (.int .i64 n) ∧ Hid (leastLen b hs = seek b hs n (L + 1 - n)) ∧ Hid (Calm w1 wr))
        case atStart => exact ⟨_, (m + 1), rfl, HLe.out.1, rfl, HCX.out.size, by simp, by simp, HLe.out.2, HCX.out.alloc _⟩
        case round =>
          obtain ⟨B, n, rfl, hn1, hgg, hB1, hB2, hcn, HSk, HCr⟩ := hrel
          have HG := Lib.hid hgg
          clear hgg
          by_cases hnl : n ≤ L
          · have hnl2 : n ≤ 20000 := by omega
            have hany := pany_c 110 #[.pointer (some ⟨B, 0, none⟩), .pointer (some ⟨w.heap.size, 0, none⟩)] (enters_of Tryz.func110 (by kernel_rfl) rfl) (fun h => reaches h n && covers h b 0 n) hs HA hc wr (HH.out.calm HCr.out)
              (lcl_pred b n A c wr B w.heap.size hnl2 hB2 (Nat.lt_of_lt_of_le HK.out.1 HCr.out.size) hcn (HCr.out.at_ HK.out.2.1 HK.out.1) (HCr.out.at_ HK.out.2.2 HK.out.1) (HB.out.calm HCr.out))
            rw [Hhn.out] at hany
            have hfe : hs.any (fun h => reaches h n && covers h b 0 n) = full b hs n := rfl
            rw [hfe] at hany
            clear hfe
            obtain ⟨r, hr⟩ : ∃ r, full b hs n = r := ⟨_, rfl⟩
            rw [hr] at hany
            have HR := Lib.hid hr
            clear hr
            cases r with
            | true =>
              go_wp2_with (go_at_call 62; refine hany.mono ?_; rintro e w3 ⟨rfl, hc3⟩; have hcn3 := hc3.at_ hcn hB2)
              go_roundg (L + 1 - (n + 1))
              case measure => have := HG.out; omega
              case rel => exact ⟨_, n + 1, rfl, by omega, rfl, Nat.le_trans hB1 (Nat.le_trans (Nat.le_of_lt hB2) hc3.size), by simp, by simp, (by show leastLen b hs = _; rw [HSk.out, seek_go HR.out (by omega)]; congr 1), (HCr.out.trans hc3).alloc _⟩
            | false =>
              go_wp2_with (go_at_call 62; refine hany.mono ?_; rintro e w3 ⟨rfl, hc3⟩; have hcn3 := hc3.at_ hcn hB2)
              go_ret
              exact ⟨ret_int (by rw [HSk.out, seek_stop HR.out (by omega)]), HC.out.trans (HCr.out.trans hc3)⟩
          · have hz : Hid (leastLen b hs = 0) := by
              show leastLen b hs = 0
              rw [HSk.out, show L + 1 - n = 0 by omega]
              rfl
            clear HSk HG
            go_wp2
            go_ret
            exact ⟨ret_int (by rw [hz.out]; rfl), HC.out.trans HCr.out⟩
end Go.Proofs.YteplgaabicminaaGreatDoor
set_option linter.unusedVariables false
set_option linter.unusedSimpArgs false
namespace Go.Proofs.YteplgaabicminaaGreatDoor
open Go Go.RowKit Sy

theorem llen_v (b : Pat) (hs : List Pat) (n : Nat) (A : Option Addr) (c : Nat) (HA : Option Addr) (hc : Nat) (w : World) (hv : leastLen b hs = n) (hb : StrsR w A b.parts) (hh : PatsR w HA hs) :
    Calls Tryz.prog 81 #[.agg #[.slice A b.parts.length c, .bool b.rest], .slice HA hs.length hc] w fun e w' => e = .returned (.int .i64 n) ∧ Calm w w' := hv ▸ llen_c b hs A c HA hc w hb hh
def void (b : Pat) (hs : List Pat) : Bool := leastLen b hs == 0
set_option maxHeartbeats 400000 in
theorem void_c (b : Pat) (hs : List Pat) (A : Option Addr) (c : Nat) (HA : Option Addr) (hc : Nat) (w : World) (hb : StrsR w A b.parts) (hh : PatsR w HA hs) :
    Calls Tryz.prog 58 #[.agg #[.slice A b.parts.length c, .bool b.rest], .slice HA hs.length hc] w fun e w' => e = .returned (.bool (void b hs)) ∧ Calm w w' := by
  obtain ⟨n, hn⟩ : ∃ n, leastLen b hs = n := ⟨_, rfl⟩
  obtain ⟨w1, hw1⟩ : ∃ w1, w1 = w.alloc (.cells #[.slice A b.parts.length c, .bool b.rest] 38) := ⟨_, rfl⟩
  have hc1 : Calm w w1 := by rw [hw1]; exact (Calm.refl w).alloc _
  have hcall := llen_v b hs n A c HA hc w1 hn (hb.calm hc1) (hh.calm hc1)
  have hv : Hid (void b hs = ((n : Int) == 0)) := by
    show void b hs = _
    rw [void, hn, Bool.eq_iff_iff]
    simp
  have HW := Lib.hid hw1
  have HC := Lib.hid hc1
  clear hn hw1 hc1 hb hh
  go_enter Tryz.func58, Tryz.ntmps58
  go_wp2_with (go_at_call 81; rw [← HW.out]; refine hcall.mono ?_; rintro e w2 ⟨rfl, hc2⟩)
  go_ret
  exact ⟨ret_bool (by rw [hv.out]), HC.out.trans hc2⟩

end Go.Proofs.YteplgaabicminaaGreatDoor
set_option linter.unusedVariables false
set_option linter.unusedSimpArgs false
namespace Go.Proofs.YteplgaabicminaaGreatDoor
open Go Go.RowKit Sy

theorem voidp_c (b : Pat) (hs : List Pat) (v : Bool) (n m : Nat) (re : Bool) (A : Option Addr) (c : Nat) (HA : Option Addr) (hc : Nat) (w : World) (h : StrsR w A b.parts) (h2 : PatsR w HA hs) (hv : (leastLen b hs == 0) = v) (hn : b.parts.length = n) (hm : hs.length = m) (hre : b.rest = re) :
    Calls Tryz.prog 58 #[.agg #[.slice A n c, .bool re], .slice HA m hc] w fun e w' => e = .returned (.bool v) ∧ Calm w w' := by
  have := void_c b hs A c HA hc w h h2
  unfold void at this
  subst hv hn hm hre
  exact this
structure CBox (w1 : World) (B : Nat) (A : Option Addr) (n c : Nat) (re : Bool) (HA : Option Addr) (m hc : Nat) (A' : Option Addr) (n' c' : Nat) (re' : Bool) (HA' : Option Addr) (m' hc' : Nat) : Prop where
  size : B + 2 ≤ w1.heap.size
  x0 : w1.cell? ⟨B, 0, none⟩ = some (.slice A n c)
  x1 : w1.cell? ⟨B, 1, none⟩ = some (.bool re)
  x2 : w1.cell? ⟨B, 2, none⟩ = some (.slice HA m hc)
  y0 : w1.cell? ⟨B + 1, 0, none⟩ = some (.slice A' n' c')
  y1 : w1.cell? ⟨B + 1, 1, none⟩ = some (.bool re')
  y2 : w1.cell? ⟨B + 1, 2, none⟩ = some (.slice HA' m' hc')
theorem CBox.calm {w1 w2 : World} {B : Nat} {A : Option Addr} {n c : Nat} {re : Bool} {HA : Option Addr} {m hc : Nat} {A' : Option Addr} {n' c' : Nat} {re' : Bool} {HA' : Option Addr} {m' hc' : Nat} (h : CBox w1 B A n c re HA m hc A' n' c' re' HA' m' hc') (hcm : Calm w1 w2) : CBox w2 B A n c re HA m hc A' n' c' re' HA' m' hc' := by
  have h0 : B < w1.heap.size := by have := h.size; omega
  have h1 : B + 1 < w1.heap.size := by have := h.size; omega
  exact ⟨Nat.le_trans h.size hcm.size, hcm.at_ h.x0 h0, hcm.at_ h.x1 h0, hcm.at_ h.x2 h0, hcm.at_ h.y0 h1, hcm.at_ h.y1 h1, hcm.at_ h.y2 h1⟩
set_option maxRecDepth 100000 in
set_option maxHeartbeats 8000000 in
theorem common_c (x y : Reg) (v : Bool) (n m n' m' : Nat) (re re' : Bool) (A : Option Addr) (c : Nat) (HA : Option Addr) (hc : Nat) (A' : Option Addr) (c' : Nat) (HA' : Option Addr) (hc' : Nat) (w : World) (h : PatA w A c x.b) (hh : PatsR w HA x.hs) (h' : PatA w A' c' y.b) (hh' : PatsR w HA' y.hs) (gx : patErr x.b = 0) (gy : patErr y.b = 0) (hv : commonG x y = v)
    (hn : x.b.parts.length = n) (hm : x.hs.length = m) (hre : x.b.rest = re) (hn' : y.b.parts.length = n') (hm' : y.hs.length = m') (hre' : y.b.rest = re') (hl : m + m' ≤ 16384) :
    Calls Tryz.prog 33 #[.agg #[.slice A n c, .bool re, .slice HA m hc], .agg #[.slice A' n' c', .bool re', .slice HA' m' hc']] w fun e w' => e = .returned (.bool v) ∧ Calm w w' := by
  obtain ⟨w1, hw1⟩ : ∃ w1, w1 = (w.alloc (.cells #[.slice A n c, .bool re, .slice HA m hc] 63)).alloc (.cells #[.slice A' n' c', .bool re', .slice HA' m' hc'] 63) := ⟨_, rfl⟩
  have hc1 : Calm w w1 := by rw [hw1]; exact ((Calm.refl w).alloc _).alloc _
  have hbox : CBox w1 w.heap.size A n c re HA m hc A' n' c' re' HA' m' hc' := by
    rw [hw1]
    exact ⟨by simp, by simp [go_sem], by simp [go_sem], by simp [go_sem], by simp [go_sem], by simp [go_sem], by simp [go_sem]⟩
  have HX := Lib.hid (And.intro (h.calm hc1) (hh.calm hc1))
  have HY := Lib.hid (And.intro (h'.calm hc1) (hh'.calm hc1))
  have HN := Lib.hid (And.intro hn (And.intro hm hre))
  have HN' := Lib.hid (And.intro hn' (And.intro hm' hre'))
  have HW := Lib.hid hw1
  have HC := Lib.hid hc1
  have HB := Lib.hid hbox
  have x0 := hbox.x0
  have x1 := hbox.x1
  have y0 := hbox.y0
  have y1 := hbox.y1
  clear hbox hc1 h hh h' hh' hn hm hre hn' hm' hre'
  unfold commonG at hv
  rcases hmt : meetP x.b y.b with _ | mm
  · rw [hmt] at hv
    have hv2 : Hid (v = false) := hv.symm
    have KM : Hid (∀ W, Calm w1 W → Calls Tryz.prog 40 #[.agg #[.slice A n c, .bool re], .agg #[.slice A' n' c', .bool re']] W fun e w' => e = .returned (.tuple #[.agg #[.slice none 0 0, .bool false], .bool false]) ∧ Calm W w') := fun W hW => by
      have := meet_no x.b y.b A A' c c' W (HX.out.1.calm hW) (HY.out.1.calm hW) gx gy hmt
      rw [HN.out.1, HN.out.2.2, HN'.out.1, HN'.out.2.2] at this
      exact this
    clear gx gy hmt hv hw1
    go_enter Tryz.func33, Tryz.ntmps33
    rw [HW.out] at x0 x1 y0 y1
    go_wp2_with fail
    rw [← HW.out]
    refine (KM.out w1 (Calm.refl _)).mono ?_
    rintro e w3 ⟨rfl, hc3⟩
    go_wp2_with fail
    go_cut [4] (fun s wx => s = .bool false ∧ Hid (Calm w3 wx))
    case first =>
      go_quiet (fail)
      all_goals
        go_wp2_with fail
        go_meet
        case rel =>
          first
            | exact ⟨rfl, Lib.hid (((Calm.refl _).alloc _).drewN _)⟩
            | exact ⟨rfl, Lib.hid ((Calm.refl _).alloc _)⟩
    case rest =>
      obtain ⟨rfl, HR⟩ := hcut
      go_wp2_with fail
      go_ret
      exact ⟨ret_bool hv2.out.symm, HC.out.trans (hc3.trans HR.out)⟩
  · rw [hmt] at hv
    simp only at hv
    obtain ⟨vz, hvz⟩ : ∃ vz, (leastLen mm (x.hs ++ y.hs) == 0) = vz := ⟨_, rfl⟩
    have hv2 : Hid (v = !vz) := by
      show _ = _
      rw [← hv, ← hvz]
      rfl
    obtain ⟨N, hN⟩ : ∃ N, (x.hs ++ y.hs).length = N := ⟨_, rfl⟩
    obtain ⟨gn, hgn⟩ : ∃ gn, mm.parts.length = gn := ⟨_, rfl⟩
    obtain ⟨gr, hgr⟩ : ∃ gr, mm.rest = gr := ⟨_, rfl⟩
    have KM : Hid (∀ W, Calm w1 W → Calls Tryz.prog 40 #[.agg #[.slice A n c, .bool re], .agg #[.slice A' n' c', .bool re']] W fun e w' => (∃ A2 c2, e = .returned (.tuple #[.agg #[.slice A2 gn c2, .bool gr], .bool true]) ∧ SmallN w' W.heap.size ⟨A2, c2, mm⟩) ∧ Calm W w') := fun W hW => by
      have := meet_yes x.b y.b mm A A' c c' W (HX.out.1.calm hW) (HY.out.1.calm hW) gx gy hmt
      rw [HN.out.1, HN.out.2.2, HN'.out.1, HN'.out.2.2, hgn, hgr] at this
      exact this
    have KV : Hid (∀ A2 c2 AC cC W, PatA W A2 c2 mm → PatsR W AC (x.hs ++ y.hs) → Calls Tryz.prog 58 #[.agg #[.slice A2 gn c2, .bool gr], .slice AC N cC] W fun e w' => e = .returned (.bool vz) ∧ Calm W w') := fun A2 c2 AC cC W h1 h2 =>
      voidp_c mm (x.hs ++ y.hs) vz gn N gr A2 c2 AC cC W h1.r h2 hvz hgn hN hgr
    have HNN := Lib.hid hN
    clear gx gy hmt hv hw1 hvz hgn hgr hN
    go_enter Tryz.func33, Tryz.ntmps33
    rw [HW.out] at x0 x1 y0 y1
    go_wp2_with fail
    rw [← HW.out]
    refine (KM.out w1 (Calm.refl _)).mono ?_
    rintro e w3 ⟨⟨A2, c2, rfl, hs3⟩, hc3⟩
    clear x0 x1 y0 y1
    go_upto_region 2 with (fail)
    obtain ⟨w4, hw4⟩ : ∃ w4, w4 = w3.alloc (.cells #[.slice A2 gn c2, .bool gr] 38) := ⟨_, rfl⟩
    rw [← hw4]
    have hc4 : Calm w3 w4 := by rw [hw4]; exact (Calm.refl w3).alloc _
    have t0 : w4.cell? ⟨w3.heap.size, 0, none⟩ = some (.slice A2 gn c2) := by rw [hw4]; simp [go_sem]
    have t1 : w4.cell? ⟨w3.heap.size, 1, none⟩ = some (.bool gr) := by rw [hw4]; simp [go_sem]
    have tlt : w3.heap.size < w4.heap.size := by rw [hw4]; simp [go_sem]
    have HC4 := Lib.hid (hc3.trans hc4)
    have HS4 := Lib.hid (hs3.calm hc4)
    have hBx := HB.out.calm HC4.out
    have HSX : Hid (∀ W, Calm w4 W → W.cell? ⟨w3.heap.size, 0, none⟩ = some (.slice A2 gn c2) ∧ W.cell? ⟨w3.heap.size, 1, none⟩ = some (.bool gr) ∧ W.cell? ⟨w.heap.size, 2, none⟩ = some (.slice HA m hc) ∧ W.cell? ⟨w.heap.size + 1, 2, none⟩ = some (.slice HA' m' hc')) := fun W hW =>
      ⟨Calm.at_ hW t0 tlt, Calm.at_ hW t1 tlt, Calm.at_ hW hBx.x2 (by have := hBx.size; omega), Calm.at_ hW hBx.y2 (by have := hBx.size; omega)⟩
    have KCat : Hid (∀ W gg, Calm w4 W → W.cell? ⟨gg, 0, none⟩ = some (.slice HA m hc) → W.cell? ⟨gg, 1, none⟩ = some (.slice HA' m' hc') → gg < W.heap.size → Calls Tryz.prog 59 #[.slice (some ⟨gg, 0, none⟩) 2 2] W fun e w' => (∃ AC cC, e = .returned (.slice AC N cC) ∧ PatsR w' AC (x.hs ++ y.hs)) ∧ Calm W w') := fun W gg hW k0 k1 hgg => by
      have := concat_c x.hs y.hs HA HA' m m' hc hc' gg 2 W (HX.out.2.calm (HC4.out.trans hW)) (HY.out.2.calm (HC4.out.trans hW)) HN.out.2.1 HN'.out.2.1 hl k0 k1 hgg
      unfold CatEnd at this
      rw [HNN.out] at this
      exact this
    clear hw4 hc3 hc4 hs3 t0 t1 tlt hBx KM
    go_cut [4] (fun s wx => s = .bool (!vz) ∧ Hid (Calm w4 wx))
    case first =>
      go_region_held3 (fun W => W.cell? ⟨w3.heap.size, 0, none⟩ = some (.slice A2 gn c2) ∧ W.cell? ⟨w3.heap.size, 1, none⟩ = some (.bool gr) ∧ W.cell? ⟨w.heap.size, 2, none⟩ = some (.slice HA m hc) ∧ W.cell? ⟨w.heap.size + 1, 2, none⟩ = some (.slice HA' m' hc'))
        (first
          | with_reducible exact HSX.out _ hcy
          | with_reducible exact HSX.out _ (hcy.alloc _)
          | with_reducible exact HSX.out _ hcx
          | with_reducible exact HSX.out _ (Calm.refl _)
          | with_reducible exact HSX.out _ (Below.drew (Calm.refl _))
          | with_reducible exact HSX.out _ (Below.drew ((Calm.refl _).alloc _))
          | with_reducible exact HSX.out _ ((Calm.refl _).alloc _)
          | go_keep)
        (first
          | (go_at_call 59; refine (KCat.out _ _ (by first | exact Below.drew ((Calm.refl _).alloc _) | exact (Calm.refl _).alloc _ | exact Below.drew (Calm.refl _)) (by simp [go_sem]) (by simp [go_sem]) (by simp [go_sem])).mono ?_; rintro e w6 ⟨⟨AC, cC, rfl, hP6⟩, hcC⟩; have hcx : Calm w4 w6 := Calm.trans (by first | exact Below.drew ((Calm.refl _).alloc _) | exact (Calm.refl _).alloc _ | exact Below.drew (Calm.refl _)) hcC)
          | (go_at_call 58; refine (KV.out A2 c2 AC cC _ (HS4.out.calm hcx).a hP6).mono ?_; rintro e w7 ⟨rfl, hc7⟩; have hcy : Calm w4 w7 := hcx.trans hc7))
      all_goals
        go_wp2_with fail
        go_meet
        case rel => exact ⟨rfl, Lib.hid hcy⟩
    case rest =>
      obtain ⟨rfl, HR⟩ := hcut
      go_wp2_with fail
      go_ret
      exact ⟨ret_bool hv2.out.symm, HC.out.trans (HC4.out.trans HR.out)⟩
end Go.Proofs.YteplgaabicminaaGreatDoor
