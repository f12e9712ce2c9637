/- Walks: the law of the least paths. -/
import Derived.Test.YtdndfkoklhfffaaDoorWalkW
set_option linter.unusedVariables false
set_option linter.unusedSimpArgs false
namespace Go.Proofs.YtdndfkoklhfffaaDoor
open Go Go.RowKit Sy

set_option maxRecDepth 100000 in
theorem least_e (b : Pat) (hs : List Pat) (v : Int) (A : Option Addr) (c : Nat) (HA : Option Addr) (hc : Nat) (w : World) (hr : StrsR w A b.parts) (hnc : b.parts.length ≤ c) (hc47 : c ≤ 140737488355328) (hh : PatsR w HA hs)
    (hv : regErr b hs = v) (hv0 : v ≠ 0) :
    Calls Tryd.prog 13 #[.agg #[.slice A b.parts.length c, .bool b.rest, .slice HA hs.length hc]] w fun e w' => e = .returned (.tuple #[.string (bs []), .bool false, .int .i64 v]) ∧ Calm w w' := by
  obtain ⟨w1, hw1⟩ : ∃ w1, w1 = w.alloc (.cells #[.slice A b.parts.length c, .bool b.rest, .slice HA hs.length hc] 27) := ⟨_, rfl⟩
  have hc1 : Calm w w1 := by rw [hw1]; exact (Calm.refl w).alloc _
  have hck := gcheck_v b hs v A c HA hc w1 hv (hr.calm hc1) hnc hc47 (hh.calm hc1)
  have HC := Lib.hid hc1
  have HW := Lib.hid hw1
  have hvb : (v == 0) = false := by simpa using hv0
  clear hw1 hc1 hr hh hv
  generalize hs.length = hn at *
  generalize b.parts.length = bn at *
  go_enter Tryd.func13, Tryd.ntmps13
  go_wp2_with (go_at_call 17; rw [← HW.out]; refine hck.mono ?_; rintro e w2 ⟨rfl, hc2⟩)
  go_ret3
  exact ⟨rfl, HC.out.trans hc2⟩

theorem empty_v (b : Pat) (hs : List Pat) (r : Bool) (v : Int) (A : Option Addr) (c : Nat) (HA : Option Addr) (hc : Nat) (w : World) (hr : StrsR w A b.parts) (hnc : b.parts.length ≤ c) (hc47 : c ≤ 140737488355328) (hh : PatsR w HA hs)
    (hv : regErr b hs = v) (hz : r = (v == 0 && leastLen b hs == 0)) :
    Calls Tryd.prog 12 #[.agg #[.slice A b.parts.length c, .bool b.rest, .slice HA hs.length hc]] w fun e w' => e = .returned (.tuple #[.bool r, .int .i64 v]) ∧ Calm w w' := by
  have := empty_c b hs A c HA hc w hr hnc hc47 hh
  have e : emptyVal b hs = .tuple #[.bool r, .int .i64 v] := by
    unfold emptyVal
    rw [hz, hv]
    by_cases h0 : v = 0
    · subst h0; simp [void]
    · simp [h0]
  rw [e] at this
  exact this

theorem goodBase {b : Pat} {hs : List Pat} (h : regErr b hs = 0) : goodPat b := by
  apply goodPat_of
  rw [regErr] at h
  split at h
  · omega
  · rename_i h1; simpa using h1
theorem goodHoles {b : Pat} {hs : List Pat} (h : regErr b hs = 0) : (∀ q ∈ hs, goodPat q) ∧ hs.length ≤ 64 := by
  rw [regErr] at h
  split at h
  · omega
  · split at h
    · omega
    · rename_i h1 h2
      split at h
      · omega
      · rename_i h3
        refine ⟨fun q hq => goodPat_of ?_, by omega⟩
        have h4 : hs.any (fun h => patErr h != 0) = false := by simpa using h2
        rw [List.any_eq_false] at h4
        simpa using h4 q hq

set_option maxRecDepth 100000 in
set_option maxHeartbeats 4000000 in
theorem leasts_c (b : Pat) (hs : List Pat) (A : Option Addr) (c : Nat) (HA : Option Addr) (hc : Nat) (w : World) (hb : StrsG w A b.parts) (hh : PatsG w HA hs) (hbc : b.parts.length ≤ c) (hcc : c ≤ 140737488355328) (hhc : hs.length ≤ hc) (hhcc : hc ≤ 140737488355328) (hT : Tab w) :
    Calls Tryd.prog 3 #[.agg #[.slice A b.parts.length c, .bool b.rest, .slice HA hs.length hc]] w fun e w' => e = .returned (.bool true) ∧ Calm w w' := by
  obtain ⟨w1, hw1⟩ : ∃ w1, w1 = w.alloc (.cells #[.slice A b.parts.length c, .bool b.rest, .slice HA hs.length hc] 27) := ⟨_, rfl⟩
  have hc1 : Calm w w1 := by rw [hw1]; exact (Calm.refl w).alloc _
  have hs1 : w.heap.size < w1.heap.size := by rw [hw1]; simp
  have k0 : w1.cell? ⟨w.heap.size, 0, none⟩ = some (.slice A b.parts.length c) := by rw [hw1]; simp
  have k1 : w1.cell? ⟨w.heap.size, 1, none⟩ = some (.bool b.rest) := by rw [hw1]; simp
  have k2 : w1.cell? ⟨w.heap.size, 2, none⟩ = some (.slice HA hs.length hc) := by rw [hw1]; simp
  have hsm := small_c b hs A c HA hc w1 (hb.calm hc1) (hh.calm hc1) hbc hcc hhc hhcc
  have HW := Lib.hid hw1
  have HC := Lib.hid hc1
  have HT := Lib.hid (hT.calm hc1)
  have HK := Lib.hid (And.intro hs1 (And.intro k0 (And.intro k1 k2)))
  have HB := Lib.hid (hb.calm hc1)
  have HH := Lib.hid (hh.calm hc1)
  obtain ⟨hn, hhn⟩ : ∃ hn, hs.length = hn := ⟨_, rfl⟩
  obtain ⟨bn, hbn⟩ : ∃ bn, b.parts.length = bn := ⟨_, rfl⟩
  have HN : Hid (hs.length = hn ∧ b.parts.length = bn) := ⟨hhn, hbn⟩
  rw [hhn] at hsm HK HW ⊢
  rw [hbn] at hsm HK HW hbc ⊢
  clear hw1 hc1 hs1 k0 k1 k2 hb hh hT hhn hbn
  go_enter Tryd.func3, Tryd.ntmps3
  go_wp2_with fail
  rw [← HW.out]
  refine hsm.mono ?_
  rintro e w2 ⟨⟨r, rfl, hr⟩, hc2⟩
  have l0 := hc2.at_ HK.out.2.1 HK.out.1
  have l1 := hc2.at_ HK.out.2.2.1 HK.out.1
  have l2 := hc2.at_ HK.out.2.2.2 HK.out.1
  cases r with
  | false =>
    go_wp2_with (go_at_call 11; refine (awake_c _ (HT.out.calm hc2)).mono ?_; rintro e w3 ⟨rfl, hc3⟩)
    go_ret
    exact ⟨rfl, HC.out.trans (hc2.trans hc3)⟩
  | true =>
    have hsb := hr rfl
    clear hr hsm
    have hR : StrsR w1 A b.parts := HB.out.toR (by have := hsb.base; omega) (fun l hl => by have := hsb.strs l hl; omega)
    have hP : PatsR w1 HA hs := HH.out.toR (by have := hsb.holes; omega) (fun p hp => ⟨by have := (hsb.parts p hp).1; omega, fun l hl => by have := (hsb.parts p hp).2 l hl; omega⟩)
    obtain ⟨v, hv⟩ : ∃ v, regErr b hs = v := ⟨_, rfl⟩
    have hbc2 : b.parts.length ≤ c := by rw [HN.out.2]; exact hbc
    have HX : Hid (∀ W, Calm w1 W → Calls Tryd.prog 14 #[.agg #[.slice A bn c, .bool b.rest, .slice HA hn hc]] W fun e w' => e = .returned (.int .i64 v) ∧ Calm W w') := fun W hW => by
      have := rgcheck_c b hs A c HA hc W (hR.calm hW) hbc2 hcc (hP.calm hW)
      rw [hv, HN.out.1, HN.out.2] at this
      exact this
    by_cases hv0 : v = 0
    · subst hv0
      obtain ⟨gh, h64⟩ := goodHoles hv
      have gb := goodBase hv
      by_cases hz : leastLen b hs = 0
      · have KE : Hid (∀ W, Calm w1 W → Calls Tryd.prog 12 #[.agg #[.slice A bn c, .bool b.rest, .slice HA hn hc]] W fun e w' => e = .returned (.tuple #[.bool true, .int .i64 0]) ∧ Calm W w') := fun W hW => by
          have := empty_v b hs true 0 A c HA hc W (hR.calm hW) hbc2 hcc (hP.calm hW) hv (by rw [hz]; rfl)
          rw [HN.out.1, HN.out.2] at this
          exact this
        have KL : Hid (∀ W, Calm w1 W → Calls Tryd.prog 13 #[.agg #[.slice A bn c, .bool b.rest, .slice HA hn hc]] W fun e w' => e = .returned (.tuple #[.string (bs []), .bool false, .int .i64 0]) ∧ Calm W w') := fun W hW => by
          have := least_c b hs A c HA hc W (hR.calm hW) hbc2 hcc (hP.calm hW) (HT.out.calm hW) hv h64
          rw [HN.out.1, HN.out.2, leastVal, if_pos hz] at this
          exact this
        have KR : Hid (∀ W, Calm w1 W → Calls Tryd.prog 15 #[.agg #[.slice A bn c, .bool b.rest, .slice HA hn hc]] W fun e w' => e = .returned (.tuple #[.string (bs []), .bool false]) ∧ Calm W w') := fun W hW => by
          have := rleast_c b hs A c HA hc W (hR.calm hW) (hP.calm hW) gb gh h64
          rw [HN.out.1, HN.out.2, rleastVal, if_pos hz] at this
          exact this
        clear hR hP gh gb hz hv hsb
        go_wp2_with (first
          | (go_at_call 12; refine (KE.out _ hc2).mono ?_; rintro e w3 ⟨rfl, hc3⟩; have hc13 := hc2.trans hc3; have m0 := hc13.at_ HK.out.2.1 HK.out.1; have m1 := hc13.at_ HK.out.2.2.1 HK.out.1; have m2 := hc13.at_ HK.out.2.2.2 HK.out.1)
          | (go_at_call 13; refine (KL.out _ hc13).mono ?_; rintro e w4 ⟨rfl, hc4⟩; have hc14 := hc13.trans hc4; have n0 := hc14.at_ HK.out.2.1 HK.out.1; have n1 := hc14.at_ HK.out.2.2.1 HK.out.1; have n2 := hc14.at_ HK.out.2.2.2 HK.out.1)
          | (go_at_call 14; refine (HX.out _ hc14).mono ?_; rintro e w5 ⟨rfl, hc5⟩; have hc15 := hc14.trans hc5; have o0 := hc15.at_ HK.out.2.1 HK.out.1; have o1 := hc15.at_ HK.out.2.2.1 HK.out.1; have o2 := hc15.at_ HK.out.2.2.2 HK.out.1)
          | (go_at_call 15; refine (KR.out _ hc15).mono ?_; rintro e w6 ⟨rfl, hc6⟩; have hc16 := hc15.trans hc6)
          | (go_at_call 11; refine (awake_c _ (HT.out.calm hc16)).mono ?_; rintro e w7 ⟨rfl, hc7⟩))
        go_ret
        exact ⟨rfl, HC.out.trans (hc16.trans hc7)⟩
      · obtain ⟨L, hL⟩ : ∃ L, leastStr b hs (leastLen b hs) = L := ⟨_, rfl⟩
        have KE : Hid (∀ W, Calm w1 W → Calls Tryd.prog 12 #[.agg #[.slice A bn c, .bool b.rest, .slice HA hn hc]] W fun e w' => e = .returned (.tuple #[.bool false, .int .i64 0]) ∧ Calm W w') := fun W hW => by
          have := empty_v b hs false 0 A c HA hc W (hR.calm hW) hbc2 hcc (hP.calm hW) hv (by simp [hz])
          rw [HN.out.1, HN.out.2] at this
          exact this
        have KL : Hid (∀ W, Calm w1 W → Calls Tryd.prog 13 #[.agg #[.slice A bn c, .bool b.rest, .slice HA hn hc]] W fun e w' => e = .returned (.tuple #[.string (bs L), .bool true, .int .i64 0]) ∧ Calm W w') := fun W hW => by
          have := least_c b hs A c HA hc W (hR.calm hW) hbc2 hcc (hP.calm hW) (HT.out.calm hW) hv h64
          rw [HN.out.1, HN.out.2, leastVal, if_neg hz, hL] at this
          exact this
        have KR : Hid (∀ W, Calm w1 W → Calls Tryd.prog 15 #[.agg #[.slice A bn c, .bool b.rest, .slice HA hn hc]] W fun e w' => e = .returned (.tuple #[.string (bs L), .bool true]) ∧ Calm W w') := fun W hW => by
          have := rleast_c b hs A c HA hc W (hR.calm hW) (hP.calm hW) gb gh h64
          rw [HN.out.1, HN.out.2, rleastVal, if_neg hz, hL] at this
          exact this
        clear hR hP gh gb hz hv hsb
        go_wp2_with (first
          | (go_at_call 12; refine (KE.out _ hc2).mono ?_; rintro e w3 ⟨rfl, hc3⟩; have hc13 := hc2.trans hc3; have m0 := hc13.at_ HK.out.2.1 HK.out.1; have m1 := hc13.at_ HK.out.2.2.1 HK.out.1; have m2 := hc13.at_ HK.out.2.2.2 HK.out.1)
          | (go_at_call 13; refine (KL.out _ hc13).mono ?_; rintro e w4 ⟨rfl, hc4⟩; have hc14 := hc13.trans hc4; have n0 := hc14.at_ HK.out.2.1 HK.out.1; have n1 := hc14.at_ HK.out.2.2.1 HK.out.1; have n2 := hc14.at_ HK.out.2.2.2 HK.out.1)
          | (go_at_call 14; refine (HX.out _ hc14).mono ?_; rintro e w5 ⟨rfl, hc5⟩; have hc15 := hc14.trans hc5; have o0 := hc15.at_ HK.out.2.1 HK.out.1; have o1 := hc15.at_ HK.out.2.2.1 HK.out.1; have o2 := hc15.at_ HK.out.2.2.2 HK.out.1)
          | (go_at_call 15; refine (KR.out _ hc15).mono ?_; rintro e w6 ⟨rfl, hc6⟩; have hc16 := hc15.trans hc6)
          | (go_at_call 11; refine (awake_c _ (HT.out.calm hc16)).mono ?_; rintro e w7 ⟨rfl, hc7⟩))
        go_ret
        exact ⟨rfl, HC.out.trans (hc16.trans hc7)⟩
    · have hvb : (v == 0) = false := by simpa using hv0
      have KE : Hid (∀ W, Calm w1 W → Calls Tryd.prog 12 #[.agg #[.slice A bn c, .bool b.rest, .slice HA hn hc]] W fun e w' => e = .returned (.tuple #[.bool false, .int .i64 v]) ∧ Calm W w') := fun W hW => by
        have := empty_v b hs false v A c HA hc W (hR.calm hW) hbc2 hcc (hP.calm hW) hv (by rw [hvb]; rfl)
        rw [HN.out.1, HN.out.2] at this
        exact this
      have KL : Hid (∀ W, Calm w1 W → Calls Tryd.prog 13 #[.agg #[.slice A bn c, .bool b.rest, .slice HA hn hc]] W fun e w' => e = .returned (.tuple #[.string (bs []), .bool false, .int .i64 v]) ∧ Calm W w') := fun W hW => by
        have := least_e b hs v A c HA hc W (hR.calm hW) hbc2 hcc (hP.calm hW) hv hv0
        rw [HN.out.1, HN.out.2] at this
        exact this
      clear hR hP hv hsb
      go_wp2_with (first
        | (go_at_call 12; refine (KE.out _ hc2).mono ?_; rintro e w3 ⟨rfl, hc3⟩; have hc13 := hc2.trans hc3; have m0 := hc13.at_ HK.out.2.1 HK.out.1; have m1 := hc13.at_ HK.out.2.2.1 HK.out.1; have m2 := hc13.at_ HK.out.2.2.2 HK.out.1)
        | (go_at_call 13; refine (KL.out _ hc13).mono ?_; rintro e w4 ⟨rfl, hc4⟩; have hc14 := hc13.trans hc4; have n0 := hc14.at_ HK.out.2.1 HK.out.1; have n1 := hc14.at_ HK.out.2.2.1 HK.out.1; have n2 := hc14.at_ HK.out.2.2.2 HK.out.1)
        | (go_at_call 14; refine (HX.out _ hc14).mono ?_; rintro e w5 ⟨rfl, hc5⟩; have hc15 := hc14.trans hc5; have o0 := hc15.at_ HK.out.2.1 HK.out.1; have o1 := hc15.at_ HK.out.2.2.1 HK.out.1; have o2 := hc15.at_ HK.out.2.2.2 HK.out.1)
        | (go_at_call 11; refine (awake_c _ (HT.out.calm hc15)).mono ?_; rintro e w7 ⟨rfl, hc7⟩))
      go_ret
      exact ⟨rfl, HC.out.trans (hc15.trans hc7)⟩
end Go.Proofs.YtdndfkoklhfffaaDoor
