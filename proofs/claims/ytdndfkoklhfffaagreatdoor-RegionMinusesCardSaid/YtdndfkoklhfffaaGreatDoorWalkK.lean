/- Walks: the program's leastLength (written by program: gen_wk.py). -/
import Derived.Test.YtdndfkoklhfffaaGreatDoorWalkJ
import Derived.Deep.LoopGhost
set_option linter.unusedVariables false
set_option linter.unusedSimpArgs false
namespace Go.Proofs.YtdndfkoklhfffaaGreatDoor
open Go Go.RowKit Sy

set_option maxHeartbeats 2000000 in
theorem llen_c (b : Pat) (hs : List Pat) (A : Option Addr) (c : Nat) (HA : Option Addr) (hc : Nat) (w : World) (hb : StrsR w A b.parts) (hh : PatsR w HA hs) :
    Calls Tryz.prog 35 #[.agg #[.slice A b.parts.length c, .bool b.rest], .slice HA hs.length hc] w fun e w' => e = .returned (.int .i64 (leastLen b hs)) ∧ Calm w w' := by
  have hlen := hb.len
  have hhl := hh.len
  have hls := hh.lens
  have hbd := lastTo_bound (b := b) (hs := hs) hlen hls
  obtain ⟨m, hm⟩ : ∃ m, b.parts.length = m := ⟨_, rfl⟩
  obtain ⟨hn, hhn⟩ : ∃ hn, hs.length = hn := ⟨_, rfl⟩
  rw [hm] at hlen hbd
  rw [hhn] at hhl
  obtain ⟨w1, hw1⟩ : ∃ w1, w1 = w.alloc (.cells #[.slice A m c, .bool b.rest] 24) := ⟨_, rfl⟩
  have hc1 : Calm w w1 := by rw [hw1]; exact (Calm.refl w).alloc _
  have hs1 : w.heap.size < w1.heap.size := by rw [hw1]; simp
  have k0 : w1.cell? ⟨w.heap.size, 0, none⟩ = some (.slice A m c) := by rw [hw1]; simp
  have k1 : w1.cell? ⟨w.heap.size, 1, none⟩ = some (.bool b.rest) := by rw [hw1]; simp
  have HC := Lib.hid hc1
  have HW := Lib.hid hw1
  have HM := Lib.hid hm
  have Hhn := Lib.hid hhn
  have HK : Hid (w.heap.size < w1.heap.size ∧ w1.cell? ⟨w.heap.size, 0, none⟩ = some (.slice A b.parts.length c) ∧ w1.cell? ⟨w.heap.size, 1, none⟩ = some (.bool b.rest)) := ⟨hs1, by rw [hm]; exact k0, k1⟩
  have e0 : ∀ p : CalmTo w1, p.w.cell? ⟨w.heap.size, 0, none⟩ = some (.slice A m c) := fun p => p.cell k0 hs1
  have HB := Lib.hid (hb.calm hc1)
  have HH := Lib.hid (hh.calm hc1)
  have HBd := Lib.hid hbd
  rw [hm, hhn]
  obtain ⟨re, hre⟩ : ∃ re, b.rest = re := ⟨_, rfl⟩
  have HRe := Lib.hid hre
  have hre1 := k1
  rw [hre] at hre1 hw1 ⊢
  have HW := Lib.hid hw1
  have HRe1 := Lib.hid (And.intro hre1 hs1)
  clear hb hh hm hhn hw1 hc1 hs1 k0 k1 hls hbd hre hre1
  go_enter Tryz.func35, Tryz.ntmps35
  go_wp2_with fail
  rw [← HW.out]
  refine wp_region_calm (by kernel_rfl) (by kernel_rfl) ?_
  repeat (go_big_quiet_step (fail))
  refine wpQuiet_nil ?_
  intro w2 hcw2
  have d1 := hcw2.at_ HRe1.out.1 HRe1.out.2
  have HC2 := Lib.hid hcw2
  clear hcw2 e0
  cases re with
  | false =>
    have HCX := HC2
    have hle : m ≤ m + 1 ∧ leastLen b hs = seek b hs m (m + 1 - m) := by
      refine ⟨by omega, ?_⟩
      unfold leastLen firstLen lastLen
      rw [HRe.out, if_neg (by simp), if_neg (by simp), HM.out]
    go_wp2_with fail
    have HLe := Lib.hid hle
    clear hle
    go_loopg [9] (m + 1 - m) (fun gg q wr => ∃ (B n : Nat), q = .pointer (some ⟨B, 0, none⟩) ∧ n ≤ m + 1 ∧ gg = m + 1 - n ∧ w1.heap.size ≤ B ∧ B < wr.heap.size ∧ wr.cell? ⟨B, 0, none⟩ = some (.int .i64 n) ∧ Hid (leastLen b hs = seek b hs n (m + 1 - n)) ∧ Hid (Calm w1 wr))
    case atStart => exact ⟨_, m, rfl, HLe.out.1, rfl, HCX.out.size, by simp, by simp, HLe.out.2, HCX.out.alloc _⟩
    case round =>
      obtain ⟨B, n, rfl, hn1, hgg, hB1, hB2, hcn, HSk, HCr⟩ := hrel
      have HG := Lib.hid hgg
      clear hgg
      by_cases hnl : n ≤ m
      · have hnl2 : n ≤ 20000 := by omega
        have hany := pany_c 68 #[.pointer (some ⟨B, 0, none⟩), .pointer (some ⟨w.heap.size, 0, none⟩)] (enters_of Tryz.func68 (by kernel_rfl) rfl) (fun h => reaches h n && covers h b 0 n) hs HA hc wr (HH.out.calm HCr.out)
          (lcl_pred b n A c wr B w.heap.size hnl2 hB2 (Nat.lt_of_lt_of_le HK.out.1 HCr.out.size) hcn (HCr.out.at_ HK.out.2.1 HK.out.1) (HCr.out.at_ HK.out.2.2 HK.out.1) (HB.out.calm HCr.out))
        rw [Hhn.out] at hany
        have hfe : hs.any (fun h => reaches h n && covers h b 0 n) = full b hs n := rfl
        rw [hfe] at hany
        clear hfe
        obtain ⟨r, hr⟩ : ∃ r, full b hs n = r := ⟨_, rfl⟩
        rw [hr] at hany
        have HR := Lib.hid hr
        clear hr
        cases r with
        | true =>
          go_wp2_with (go_at_call 34; refine hany.mono ?_; rintro e w3 ⟨rfl, hc3⟩; have hcn3 := hc3.at_ hcn hB2)
          go_roundg (m + 1 - (n + 1))
          case measure => have := HG.out; omega
          case rel => exact ⟨_, n + 1, rfl, by omega, rfl, Nat.le_trans hB1 (Nat.le_trans (Nat.le_of_lt hB2) hc3.size), by simp, by simp, (by show leastLen b hs = _; rw [HSk.out, seek_go HR.out (by omega)]; congr 1), (HCr.out.trans hc3).alloc _⟩
        | false =>
          go_wp2_with (go_at_call 34; refine hany.mono ?_; rintro e w3 ⟨rfl, hc3⟩; have hcn3 := hc3.at_ hcn hB2)
          go_ret
          exact ⟨ret_int (by rw [HSk.out, seek_stop HR.out (by omega)]), HC.out.trans (HCr.out.trans hc3)⟩
      · have hz : Hid (leastLen b hs = 0) := by
          show leastLen b hs = 0
          rw [HSk.out, show m + 1 - n = 0 by omega]
          rfl
        clear HSk HG
        go_wp2
        go_ret
        exact ⟨ret_int (by rw [hz.out]; rfl), HC.out.trans HCr.out⟩
  | true =>
    go_wp2_with fail
    go_loopw [6, 24] (fun t q wr => ∃ k : Nat, k ≤ hn ∧ q = .int .i64 k ∧ t = .int .i64 (lastTo b hs k : Nat) ∧ Hid (Calm w1 wr)) (fun _ q _ => hn - (intOf q).toNat)
    case atStart => exact ⟨0, Nat.zero_le _, rfl, congrArg (Value.int .i64) (by simp [lastTo, HM.out]), HC2.out⟩
    case round =>
      obtain ⟨k, hk, rfl, rfl, HCr⟩ := hrel
      have hbk := (HBd.out k).1
      by_cases hlt : k < hn
      · obtain ⟨bb, o, p, Ak, ck, rfl, _, hpk, h1, h2, h3, h4, h5⟩ := (HH.out.calm HCr.out).get (k := k) (by rw [Hhn.out]; exact hlt)
        have hpl := h5.len
        have hst := lastTo_succ (b := b) hpk
        obtain ⟨T, hT⟩ : ∃ T, lastTo b hs k = T := ⟨_, rfl⟩
        rw [hT] at hst hbk ⊢
        have HST := Lib.hid hst
        have HT := Lib.hid hT
        have HPK := Lib.hid hpk
        clear hst h5 hT hpk
        go_wp2
        go_roundw
        case rel => exact ⟨k + 1, by omega, by go_num, congrArg (Value.int .i64) (by rw [HST.out]; omega), HCr.out.alloc _⟩
        case measure => simp [intOf]; omega
      · have HCX := HCr
        obtain ⟨L, hL⟩ : ∃ L, lastTo b hs k = L := ⟨_, rfl⟩
        have hL16 : L ≤ 16385 := by omega
        have hml : m + 1 ≤ L := by have := (HBd.out k).2; omega
        have hle : m + 1 ≤ L + 1 ∧ leastLen b hs = seek b hs (m + 1) (L + 1 - (m + 1)) := by
          refine ⟨by omega, ?_⟩
          have hk2 : k = hs.length := by rw [Hhn.out]; omega
          have hl2 : lastLen b hs = L := by
            rw [lastLen, if_pos HRe.out, ← hL, lastTo, hk2, List.take_length]
          have hf2 : firstLen b = m + 1 := by rw [firstLen, if_pos HRe.out, HM.out]
          rw [leastLen, hl2, hf2]
        rw [hL]
        clear hL hbk
        go_wp2_with fail
        have HLe := Lib.hid hle
        clear hle
        go_loopg [9] (L + 1 - (m + 1)) (fun gg q wr => ∃ (B n : Nat), q = .pointer (some ⟨B, 0, none⟩) ∧ n ≤ L + 1 ∧ gg = L + 1 - n ∧ w1.heap.size ≤ B ∧ B < wr.heap.size ∧ wr.cell? ⟨B, 0, none⟩ = some (.int .i64 n) ∧ Hid (leastLen b hs = seek b hs n (L + 1 - n)) ∧ Hid (Calm w1 wr))
        case atStart => exact ⟨_, (m + 1), rfl, HLe.out.1, rfl, HCX.out.size, by simp, by simp, HLe.out.2, HCX.out.alloc _⟩
        case round =>
          obtain ⟨B, n, rfl, hn1, hgg, hB1, hB2, hcn, HSk, HCr⟩ := hrel
          have HG := Lib.hid hgg
          clear hgg
          by_cases hnl : n ≤ L
          · have hnl2 : n ≤ 20000 := by omega
            have hany := pany_c 68 #[.pointer (some ⟨B, 0, none⟩), .pointer (some ⟨w.heap.size, 0, none⟩)] (enters_of Tryz.func68 (by kernel_rfl) rfl) (fun h => reaches h n && covers h b 0 n) hs HA hc wr (HH.out.calm HCr.out)
              (lcl_pred b n A c wr B w.heap.size hnl2 hB2 (Nat.lt_of_lt_of_le HK.out.1 HCr.out.size) hcn (HCr.out.at_ HK.out.2.1 HK.out.1) (HCr.out.at_ HK.out.2.2 HK.out.1) (HB.out.calm HCr.out))
            rw [Hhn.out] at hany
            have hfe : hs.any (fun h => reaches h n && covers h b 0 n) = full b hs n := rfl
            rw [hfe] at hany
            clear hfe
            obtain ⟨r, hr⟩ : ∃ r, full b hs n = r := ⟨_, rfl⟩
            rw [hr] at hany
            have HR := Lib.hid hr
            clear hr
            cases r with
            | true =>
              go_wp2_with (go_at_call 34; refine hany.mono ?_; rintro e w3 ⟨rfl, hc3⟩; have hcn3 := hc3.at_ hcn hB2)
              go_roundg (L + 1 - (n + 1))
              case measure => have := HG.out; omega
              case rel => exact ⟨_, n + 1, rfl, by omega, rfl, Nat.le_trans hB1 (Nat.le_trans (Nat.le_of_lt hB2) hc3.size), by simp, by simp, (by show leastLen b hs = _; rw [HSk.out, seek_go HR.out (by omega)]; congr 1), (HCr.out.trans hc3).alloc _⟩
            | false =>
              go_wp2_with (go_at_call 34; refine hany.mono ?_; rintro e w3 ⟨rfl, hc3⟩; have hcn3 := hc3.at_ hcn hB2)
              go_ret
              exact ⟨ret_int (by rw [HSk.out, seek_stop HR.out (by omega)]), HC.out.trans (HCr.out.trans hc3)⟩
          · have hz : Hid (leastLen b hs = 0) := by
              show leastLen b hs = 0
              rw [HSk.out, show L + 1 - n = 0 by omega]
              rfl
            clear HSk HG
            go_wp2
            go_ret
            exact ⟨ret_int (by rw [hz.out]; rfl), HC.out.trans HCr.out⟩
end Go.Proofs.YtdndfkoklhfffaaGreatDoor
