/- Walks: the reference's Length; the program's Void and Empty. -/
import Derived.Test.YtdndfkoklhfffaaGreatDoorWalkQ
set_option linter.unusedVariables false
set_option linter.unusedSimpArgs false
namespace Go.Proofs.YtdndfkoklhfffaaGreatDoor
open Go Go.RowKit Sy

set_option maxHeartbeats 2000000 in
theorem rlen_c (b : Pat) (hs : List Pat) (A : Option Addr) (c : Nat) (HA : Option Addr) (hc : Nat) (w : World) (hb : StrsR w A b.parts) (hh : PatsR w HA hs) (gb : goodPat b) (gh : ∀ h ∈ hs, goodPat h) :
    Calls Tryz.prog 28 #[.agg #[.slice A b.parts.length c, .bool b.rest, .slice HA hs.length hc]] w fun e w' => e = .returned (.int .i64 (leastLen b hs)) ∧ Calm w w' := by
  have hlen := hb.len
  have hhl := hh.len
  have hls := hh.lens
  have hbd := lastTo_bound (b := b) (hs := hs) hlen hls
  obtain ⟨m, hm⟩ : ∃ m, b.parts.length = m := ⟨_, rfl⟩
  obtain ⟨hn, hhn⟩ : ∃ hn, hs.length = hn := ⟨_, rfl⟩
  obtain ⟨re, hre⟩ : ∃ re, b.rest = re := ⟨_, rfl⟩
  obtain ⟨w1, hw1⟩ : ∃ w1, w1 = w.alloc (.cells #[.slice A m c, .bool re, .slice HA hn hc] 27) := ⟨_, rfl⟩
  have hc1 : Calm w w1 := by rw [hw1]; exact (Calm.refl w).alloc _
  have hs1 : w.heap.size < w1.heap.size := by rw [hw1]; simp
  have k0 : w1.cell? ⟨w.heap.size, 0, none⟩ = some (.slice A m c) := by rw [hw1]; simp
  have k1 : w1.cell? ⟨w.heap.size, 1, none⟩ = some (.bool re) := by rw [hw1]; simp
  have k2 : w1.cell? ⟨w.heap.size, 2, none⟩ = some (.slice HA hn hc) := by rw [hw1]; simp
  have HFull : Hid (∀ (W : World), Calm w1 W → ∀ n r, n ≤ 20000 → full b hs n = r → Calls Tryz.prog 62 #[.agg #[.slice A m c, .bool re, .slice HA hn hc], .int .i64 (n : Nat)] W fun e w' => e = .returned (.bool r) ∧ Calm W w') := fun W hW n r hn hr => by
    have := full_v b hs n r A c HA hc W hr hn ((hb.calm hc1).calm hW) ((hh.calm hc1).calm hW) gb gh
    rw [hm, hre, hhn] at this
    exact this
  rw [hm] at hlen hbd
  rw [hhn] at hhl
  have HC := Lib.hid hc1
  have HW := Lib.hid hw1
  have HM := Lib.hid hm
  have Hhn := Lib.hid hhn
  have HRe := Lib.hid hre
  have HK := Lib.hid (And.intro hs1 (And.intro k0 (And.intro k1 k2)))
  have HH := Lib.hid (hh.calm hc1)
  have HBd := Lib.hid hbd
  rw [hm, hhn, hre]
  clear hb hh hm hhn hw1 hc1 hs1 k0 k1 k2 hls hbd hre gb gh
  go_enter Tryz.func28, Tryz.ntmps28
  cases re with
  | false =>
    obtain ⟨r, hr⟩ : ∃ r, full b hs m = r := ⟨_, rfl⟩
    have hv : Hid (leastLen b hs = if r then 0 else m) := by
      show leastLen b hs = _
      unfold leastLen firstLen lastLen
      rw [HRe.out, if_neg (by simp), if_neg (by simp), HM.out, show m + 1 - m = 1 by omega]
      cases r with
      | true => rw [seek_go hr (by omega)]; rfl
      | false => rw [seek_stop hr (by omega)]; rfl
    have hcall := HFull.out w1 (Calm.refl _) m r (by omega) hr
    have l0 := HK.out.2.1
    have ls := HK.out.1
    clear hr HFull
    cases r with
    | true =>
      go_wp2_with (go_at_call 62; rw [← HW.out]; refine hcall.mono ?_; rintro e w2 ⟨rfl, hc2⟩)
      go_ret
      exact ⟨ret_int (by rw [hv.out]; rfl), HC.out.trans hc2⟩
    | false =>
      go_wp2_with (go_at_call 62; rw [← HW.out]; refine hcall.mono ?_; rintro e w2 ⟨rfl, hc2⟩; have l2 := hc2.at_ l0 ls)
      go_ret
      exact ⟨ret_int (by rw [hv.out]; rfl), HC.out.trans hc2⟩
  | true =>
    go_wp2_with fail
    rw [← HW.out]
    go_loopw [3, 28] (fun t q wr => ∃ k T : Nat, k ≤ hn ∧ q = .int .i64 k ∧ t = .int .i64 T ∧ T ≤ 16384 ∧ m ≤ T ∧ Hid (lastTo b hs k = T + 1) ∧ Hid (Calm w1 wr)) (fun _ q _ => hn - (intOf q).toNat)
    case atStart => exact ⟨0, m, Nat.zero_le _, rfl, rfl, hlen, Nat.le_refl _, by show lastTo b hs 0 = m + 1; simp [lastTo, HM.out], Calm.refl _⟩
    case round =>
      obtain ⟨k, T, hk, rfl, rfl, hT1, hT2, HLT, HCr⟩ := hrel
      by_cases hlt : k < hn
      · obtain ⟨bb, o, p, Ak, ck, rfl, _, hpk, h1, h2, h3, h4, h5⟩ := (HH.out.calm HCr.out).get (k := k) (by rw [Hhn.out]; exact hlt)
        have hpl := h5.len
        have hst := lastTo_succ (b := b) hpk
        rw [HLT.out] at hst
        have HST := Lib.hid hst
        clear hst h5 hpk
        go_wp2
        go_roundw
        case rel => exact ⟨k + 1, max T p.parts.length, by omega, by go_num, congrArg (Value.int .i64) (by omega), by omega, by omega, (by show lastTo b hs (k + 1) = _; rw [HST.out]; omega), HCr.out.alloc _⟩
        case measure => simp [intOf]; omega
      · have hk2 : k = hs.length := by rw [Hhn.out]; omega
        have hle : Hid (leastLen b hs = seek b hs (m + 1) (T + 2 - (m + 1))) := by
          show leastLen b hs = _
          have hl2 : lastLen b hs = T + 1 := by
            have := HLT.out
            rw [lastTo, hk2, List.take_length] at this
            rw [lastLen, if_pos HRe.out, this]
          have hf2 : firstLen b = m + 1 := by rw [firstLen, if_pos HRe.out, HM.out]
          rw [leastLen, hl2, hf2]
        have l0 := HCr.out.at_ HK.out.2.1 HK.out.1
        have ls : w.heap.size < wr.heap.size := Nat.lt_of_lt_of_le HK.out.1 HCr.out.size
        clear HLT hk2
        have HCX := HCr
        go_wp2_with fail
        go_loopw [6] (fun q wr => ∃ n : Nat, n ≤ T + 2 ∧ q = .int .i64 n ∧ Hid (leastLen b hs = seek b hs n (T + 2 - n)) ∧ Hid (Calm w1 wr)) (fun q _ => T + 2 - (intOf q).toNat)
        case atStart => exact ⟨m + 1, by omega, by go_num, hle, HCX.out⟩
        case round =>
          obtain ⟨n, hn1, rfl, HSk, HCr2⟩ := hrel
          have l0 := HCr2.out.at_ HK.out.2.1 HK.out.1
          have l1 := HCr2.out.at_ HK.out.2.2.1 HK.out.1
          have l2 := HCr2.out.at_ HK.out.2.2.2 HK.out.1
          by_cases hnl : n ≤ T + 1
          · obtain ⟨r, hr⟩ : ∃ r, full b hs n = r := ⟨_, rfl⟩
            have hcall := HFull.out _ HCr2.out n r (by omega) hr
            have HR := Lib.hid hr
            clear hr
            cases r with
            | true =>
              go_wp2_with (go_at_call 62; refine hcall.mono ?_; rintro e w3 ⟨rfl, hc3⟩)
              go_roundw
              case rel => exact ⟨n + 1, by omega, by go_num, (by show leastLen b hs = _; rw [HSk.out, seek_go HR.out (by omega)]; congr 1), HCr2.out.trans hc3⟩
              case measure => simp [intOf]; omega
            | false =>
              go_wp2_with (go_at_call 62; refine hcall.mono ?_; rintro e w3 ⟨rfl, hc3⟩)
              go_ret
              exact ⟨ret_int (by rw [HSk.out, seek_stop HR.out (by omega)]), HC.out.trans (HCr2.out.trans hc3)⟩
          · have hz : Hid (leastLen b hs = 0) := by
              show leastLen b hs = 0
              rw [HSk.out, show T + 2 - n = 0 by omega]
              rfl
            clear HSk
            go_wp2
            go_ret
            exact ⟨ret_int (by rw [hz.out]; rfl), HC.out.trans HCr2.out⟩
theorem rlen_v (b : Pat) (hs : List Pat) (n : Nat) (A : Option Addr) (c : Nat) (HA : Option Addr) (hc : Nat) (w : World) (hv : leastLen b hs = n) (hb : StrsR w A b.parts) (hh : PatsR w HA hs) (gb : goodPat b) (gh : ∀ h ∈ hs, goodPat h) :
    Calls Tryz.prog 28 #[.agg #[.slice A b.parts.length c, .bool b.rest, .slice HA hs.length hc]] w fun e w' => e = .returned (.int .i64 n) ∧ Calm w w' := hv ▸ rlen_c b hs A c HA hc w hb hh gb gh

/-- No path: what Void says. -/
def void (b : Pat) (hs : List Pat) : Bool := leastLen b hs == 0
set_option maxHeartbeats 400000 in
theorem void_c (b : Pat) (hs : List Pat) (A : Option Addr) (c : Nat) (HA : Option Addr) (hc : Nat) (w : World) (hb : StrsR w A b.parts) (hh : PatsR w HA hs) :
    Calls Tryz.prog 24 #[.agg #[.slice A b.parts.length c, .bool b.rest], .slice HA hs.length hc] w fun e w' => e = .returned (.bool (void b hs)) ∧ Calm w w' := by
  obtain ⟨n, hn⟩ : ∃ n, leastLen b hs = n := ⟨_, rfl⟩
  obtain ⟨w1, hw1⟩ : ∃ w1, w1 = w.alloc (.cells #[.slice A b.parts.length c, .bool b.rest] 24) := ⟨_, rfl⟩
  have hc1 : Calm w w1 := by rw [hw1]; exact (Calm.refl w).alloc _
  have hcall := llen_v b hs n A c HA hc w1 hn (hb.calm hc1) (hh.calm hc1)
  have hv : Hid (void b hs = ((n : Int) == 0)) := by
    show void b hs = _
    rw [void, hn, Bool.eq_iff_iff]
    simp
  have HW := Lib.hid hw1
  have HC := Lib.hid hc1
  clear hn hw1 hc1 hb hh
  go_enter Tryz.func24, Tryz.ntmps24
  go_wp2_with (go_at_call 35; rw [← HW.out]; refine hcall.mono ?_; rintro e w2 ⟨rfl, hc2⟩)
  go_ret
  exact ⟨ret_bool (by rw [hv.out]), HC.out.trans hc2⟩

/-- What Empty hands back. -/
def emptyVal (b : Pat) (hs : List Pat) : Value := if regErr b hs = 0 then .tuple #[.bool (void b hs), .int .i64 0] else .tuple #[.bool false, .int .i64 (regErr b hs)]

set_option maxHeartbeats 1000000 in
theorem empty_c (b : Pat) (hs : List Pat) (A : Option Addr) (c : Nat) (HA : Option Addr) (hc : Nat) (w : World) (hr : StrsR w A b.parts) (hnc : b.parts.length ≤ c) (hc47 : c ≤ 9223372036854775807) (hh : PatsR w HA hs) :
    Calls Tryz.prog 18 #[.agg #[.slice A b.parts.length c, .bool b.rest, .slice HA hs.length hc]] w fun e w' => e = .returned (emptyVal b hs) ∧ Calm w w' := by
  obtain ⟨hn, hhn⟩ : ∃ hn, hs.length = hn := ⟨_, rfl⟩
  obtain ⟨w1, hw1⟩ : ∃ w1, w1 = w.alloc (.cells #[.slice A b.parts.length c, .bool b.rest, .slice HA hn hc] 27) := ⟨_, rfl⟩
  have hc1 : Calm w w1 := by rw [hw1]; exact (Calm.refl w).alloc _
  have hs1 : w.heap.size < w1.heap.size := by rw [hw1]; simp
  have k0 : w1.cell? ⟨w.heap.size, 0, none⟩ = some (.slice A b.parts.length c) := by rw [hw1]; simp
  have k1 : w1.cell? ⟨w.heap.size, 1, none⟩ = some (.bool b.rest) := by rw [hw1]; simp
  have k2 : w1.cell? ⟨w.heap.size, 2, none⟩ = some (.slice HA hn hc) := by rw [hw1]; simp
  obtain ⟨v, hv⟩ : ∃ v, regErr b hs = v := ⟨_, rfl⟩
  have hck := gcheck_v b hs v A c HA hc w1 hv (hr.calm hc1) hnc hc47 (hh.calm hc1)
  have hvo := fun W (hW : Calm w1 W) => void_c b hs A c HA hc W ((hr.calm hc1).calm hW) ((hh.calm hc1).calm hW)
  rw [hhn] at hck hvo ⊢
  have HE0 : Hid (v = 0 → emptyVal b hs = .tuple #[.bool (void b hs), .int .i64 0]) := fun h => by rw [emptyVal, hv, if_pos h]
  have HE1 : Hid (v ≠ 0 → emptyVal b hs = .tuple #[.bool false, .int .i64 v]) := fun h => by rw [emptyVal, hv, if_neg h]
  have HW := Lib.hid hw1
  have HC := Lib.hid hc1
  have HV := Lib.hid hvo
  have HK := Lib.hid (And.intro hs1 (And.intro k0 (And.intro k1 k2)))
  clear hw1 hc1 hvo hs1 k0 k1 k2 hr hh hhn hv
  go_enter Tryz.func18, Tryz.ntmps18
  by_cases h0 : v = 0
  · have hE : Hid (emptyVal b hs = .tuple #[.bool (void b hs), .int .i64 0]) := HE0.out h0
    clear HE0 HE1
    subst h0
    go_wp2_with (first
      | (go_at_call 16; rw [← HW.out]; refine hck.mono ?_; rintro e w2 ⟨rfl, hc2⟩; have l0 := hc2.at_ HK.out.2.1 HK.out.1; have l1 := hc2.at_ HK.out.2.2.1 HK.out.1; have l2 := hc2.at_ HK.out.2.2.2 HK.out.1)
      | (go_at_call 24; refine (HV.out _ hc2).mono ?_; rintro e w3 ⟨rfl, hc3⟩))
    go_ret2
    exact ⟨by rw [hE.out]; rfl, HC.out.trans (hc2.trans hc3)⟩
  · have hb : (v != 0) = true := by simpa using h0
    have H0 := Lib.hid h0
    clear h0
    go_wp2_with (go_at_call 16; rw [← HW.out]; refine hck.mono ?_; rintro e w2 ⟨rfl, hc2⟩)
    go_ret2
    exact ⟨by rw [HE1.out H0.out]; rfl, HC.out.trans hc2⟩
end Go.Proofs.YtdndfkoklhfffaaGreatDoor
