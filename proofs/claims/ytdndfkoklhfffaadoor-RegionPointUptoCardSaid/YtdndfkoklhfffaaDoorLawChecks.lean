/- Walks: the law on Check and Has of regions. -/
import Derived.Test.YtdndfkoklhfffaaDoorHas
import Derived.Test.YtdndfkoklhfffaaDoorWalkX
set_option linter.unusedVariables false
set_option linter.unusedSimpArgs false
namespace Go.Proofs.YtdndfkoklhfffaaDoor
open Go Go.RowKit Sy

/-- A region as an argument: where its parts lie. -/
structure RegA (w : World) (A : Option Addr) (c : Nat) (HA : Option Addr) (b : Pat) (hs : List Pat) : Prop where
  base : StrsR w A b.parts
  room : b.parts.length ≤ c
  cap : c ≤ 140737488355328
  holes : PatsR w HA hs
theorem RegA.calm {w w' : World} {A : Option Addr} {c : Nat} {HA : Option Addr} {b : Pat} {hs : List Pat} (h : RegA w A c HA b hs) (hc : Calm w w') : RegA w' A c HA b hs := ⟨h.base.calm hc, h.room, h.cap, h.holes.calm hc⟩
theorem SmallB.reg {w : World} {A : Option Addr} {c : Nat} {HA : Option Addr} {b : Pat} {hs : List Pat} (h : SmallB b hs) (hb : StrsG w A b.parts) (hh : PatsG w HA hs) (hbc : b.parts.length ≤ c) (hcc : c ≤ 140737488355328) : RegA w A c HA b hs :=
  ⟨hb.toR (by have := h.base; omega) (fun l hl => by have := h.strs l hl; omega), hbc, hcc, hh.toR (by have := h.holes; omega) (fun p hp => ⟨by have := (h.parts p hp).1; omega, fun l hl => by have := (h.parts p hp).2 l hl; omega⟩)⟩

set_option maxRecDepth 100000 in
set_option maxHeartbeats 4000000 in
theorem checks_c (b : Pat) (hs : List Pat) (s : Str) (A : Option Addr) (c : Nat) (HA : Option Addr) (hc : Nat) (w : World) (hsz : s.length ≤ 9223372036854775807) (hb : StrsG w A b.parts) (hh : PatsG w HA hs) (hbc : b.parts.length ≤ c) (hcc : c ≤ 140737488355328) (hhc : hs.length ≤ hc) (hhcc : hc ≤ 140737488355328) (hT : Tab w) (hM : MaxL w) :
    Calls Tryd.prog 5 #[.agg #[.slice A b.parts.length c, .bool b.rest, .slice HA hs.length hc], .string (bs s)] w fun e w' => e = .returned (.bool true) ∧ Calm w w' := by
  obtain ⟨hn, hhn⟩ : ∃ hn, hs.length = hn := ⟨_, rfl⟩
  obtain ⟨bn, hbn⟩ : ∃ bn, b.parts.length = bn := ⟨_, rfl⟩
  obtain ⟨br, hbr⟩ : ∃ br, b.rest = br := ⟨_, rfl⟩
  obtain ⟨w1, hw1⟩ : ∃ w1, w1 = w.alloc (.cells #[.slice A bn c, .bool br, .slice HA hn hc] 27) := ⟨_, rfl⟩
  have hc1 : Calm w w1 := by rw [hw1]; exact (Calm.refl w).alloc _
  have hs1 : w.heap.size < w1.heap.size := by rw [hw1]; simp
  have k0 : w1.cell? ⟨w.heap.size, 0, none⟩ = some (.slice A bn c) := by rw [hw1]; simp
  have k1 : w1.cell? ⟨w.heap.size, 1, none⟩ = some (.bool br) := by rw [hw1]; simp
  have k2 : w1.cell? ⟨w.heap.size, 2, none⟩ = some (.slice HA hn hc) := by rw [hw1]; simp
  have hsm := small_c b hs A c HA hc w1 (hb.calm hc1) (hh.calm hc1) hbc hcc hhc hhcc
  rw [hhn, hbn, hbr] at hsm
  have HW := Lib.hid hw1
  have HC := Lib.hid hc1
  have HT := Lib.hid (hT.calm hc1)
  have HM := Lib.hid (hM.calm hc1)
  have HK := Lib.hid (And.intro k0 (And.intro k1 k2))
  have HReg : Hid (SmallB b hs → RegA w1 A c HA b hs) := fun h => h.reg (hb.calm hc1) (hh.calm hc1) hbc hcc
  have HN : Hid (hs.length = hn ∧ b.parts.length = bn ∧ b.rest = br) := ⟨hhn, hbn, hbr⟩
  rw [hhn, hbn, hbr]
  clear hw1 hc1 k0 k1 k2 hb hh hT hM hhn hbn hbr hbc
  go_enter Tryd.func5, Tryd.ntmps5
  by_cases h300 : s.length ≤ 300
  · go_wp2_with fail
    rw [← HW.out]
    refine hsm.mono ?_
    rintro e w2 ⟨⟨r, rfl, hr⟩, hc2⟩
    have l0 := hc2.at_ HK.out.1 hs1
    have l1 := hc2.at_ HK.out.2.1 hs1
    have l2 := hc2.at_ HK.out.2.2 hs1
    cases r with
    | false =>
      go_wp2_with (go_at_call 11; refine (awake_c _ (HT.out.calm hc2)).mono ?_; rintro e w3 ⟨rfl, hc3⟩)
      go_ret
      exact ⟨rfl, HC.out.trans (hc2.trans hc3)⟩
    | true =>
      have hreg := HReg.out (hr rfl)
      obtain ⟨v, hv⟩ : ∃ v, regErr b hs = v := ⟨_, rfl⟩
      obtain ⟨z, hz⟩ : ∃ z, hasS b hs s = z := ⟨_, rfl⟩
      have KX : Hid (∀ W, Calm w1 W → Calls Tryd.prog 14 #[.agg #[.slice A bn c, .bool br, .slice HA hn hc]] W fun e w' => e = .returned (.int .i64 v) ∧ Calm W w') := fun W hW => by
        have h := hreg.calm hW
        have := rgcheck_c b hs A c HA hc W h.base h.room h.cap h.holes
        rw [hv, HN.out.1, HN.out.2.1, HN.out.2.2] at this
        exact this
      have KC : Hid (∀ W, Calm w1 W → Calls Tryd.prog 17 #[.agg #[.slice A bn c, .bool br, .slice HA hn hc]] W fun e w' => e = .returned (.int .i64 v) ∧ Calm W w') := fun W hW => by
        have h := hreg.calm hW
        have := gcheck_c b hs A c HA hc W h.base h.room h.cap h.holes
        rw [hv, HN.out.1, HN.out.2.1, HN.out.2.2] at this
        exact this
      have KR : Hid (∀ W, Calm w1 W → Calls Tryd.prog 20 #[.agg #[.slice A bn c, .bool br, .slice HA hn hc], .string (bs s)] W fun e w' => e = .returned (.bool z) ∧ Calm W w') := fun W hW => by
        have h := hreg.calm hW
        have := rhas_c b hs s A c HA hc W (by omega) h.base h.room h.cap h.holes (HM.out.calm hW)
        rw [hz, HN.out.1, HN.out.2.1, HN.out.2.2] at this
        exact this
      have KH : Hid (∀ W, Calm w1 W → Calls Tryd.prog 19 #[.agg #[.slice A bn c, .bool br, .slice HA hn hc], .string (bs s)] W fun e w' => e = .returned (.bool (v == 0 && z)) ∧ Calm W w') := fun W hW => by
        have h := hreg.calm hW
        have := has_c b hs s A c HA hc W (by omega) h.base h.room h.cap h.holes (HM.out.calm hW)
        rw [hasV, hv, hz, HN.out.1, HN.out.2.1, HN.out.2.2] at this
        exact this
      clear hreg hr hsm hv hz HReg
      by_cases hv0 : v = 0
      · subst hv0
        have KH0 : Hid (∀ W, Calm w1 W → Calls Tryd.prog 19 #[.agg #[.slice A bn c, .bool br, .slice HA hn hc], .string (bs s)] W fun e w' => e = .returned (.bool z) ∧ Calm W w') := KH.out
        go_wp2_with (first
          | (go_at_call 14; refine (KX.out _ hc2).mono ?_; rintro e w3 ⟨rfl, hc3⟩; have hc13 := hc2.trans hc3; have m0 := hc13.at_ HK.out.1 hs1; have m1 := hc13.at_ HK.out.2.1 hs1; have m2 := hc13.at_ HK.out.2.2 hs1)
          | (go_at_call 17; refine (KC.out _ hc13).mono ?_; rintro e w4 ⟨rfl, hc4⟩; have hc14 := hc13.trans hc4; have n0 := hc14.at_ HK.out.1 hs1; have n1 := hc14.at_ HK.out.2.1 hs1; have n2 := hc14.at_ HK.out.2.2 hs1)
          | (go_at_call 19; refine (KH0.out _ hc14).mono ?_; rintro e w5 ⟨rfl, hc5⟩; have hc15 := hc14.trans hc5; have o0 := hc15.at_ HK.out.1 hs1; have o1 := hc15.at_ HK.out.2.1 hs1; have o2 := hc15.at_ HK.out.2.2 hs1)
          | (go_at_call 20; refine (KR.out _ hc15).mono ?_; rintro e w6 ⟨rfl, hc6⟩; have hc16 := hc15.trans hc6)
          | (go_at_call 11; refine (awake_c _ (HT.out.calm hc16)).mono ?_; rintro e w7 ⟨rfl, hc7⟩))
        go_ret
        exact ⟨rfl, HC.out.trans (hc16.trans hc7)⟩
      · have hvb : (v == 0) = false := by simpa using hv0
        have KH0 : Hid (∀ W, Calm w1 W → Calls Tryd.prog 19 #[.agg #[.slice A bn c, .bool br, .slice HA hn hc], .string (bs s)] W fun e w' => e = .returned (.bool false) ∧ Calm W w') := fun W hW => by
          have := KH.out W hW
          rw [hvb] at this
          exact this
        clear hv0
        go_wp2_with (first
          | (go_at_call 14; refine (KX.out _ hc2).mono ?_; rintro e w3 ⟨rfl, hc3⟩; have hc13 := hc2.trans hc3; have m0 := hc13.at_ HK.out.1 hs1; have m1 := hc13.at_ HK.out.2.1 hs1; have m2 := hc13.at_ HK.out.2.2 hs1)
          | (go_at_call 17; refine (KC.out _ hc13).mono ?_; rintro e w4 ⟨rfl, hc4⟩; have hc14 := hc13.trans hc4; have n0 := hc14.at_ HK.out.1 hs1; have n1 := hc14.at_ HK.out.2.1 hs1; have n2 := hc14.at_ HK.out.2.2 hs1)
          | (go_at_call 19; refine (KH0.out _ hc14).mono ?_; rintro e w5 ⟨rfl, hc5⟩; have hc15 := hc14.trans hc5; have o0 := hc15.at_ HK.out.1 hs1; have o1 := hc15.at_ HK.out.2.1 hs1; have o2 := hc15.at_ HK.out.2.2 hs1)
          | (go_at_call 11; refine (awake_c _ (HT.out.calm hc15)).mono ?_; rintro e w7 ⟨rfl, hc7⟩))
        go_ret
        exact ⟨rfl, HC.out.trans (hc15.trans hc7)⟩
  · go_wp2_with fail
    rw [← HW.out]
    refine hsm.mono ?_
    rintro e w2 ⟨⟨r, rfl, hr⟩, hc2⟩
    cases r
    all_goals
      go_wp2_with (go_at_call 11; refine (awake_c _ (HT.out.calm hc2)).mono ?_; rintro e w3 ⟨rfl, hc3⟩)
      go_ret
      exact ⟨rfl, HC.out.trans (hc2.trans hc3)⟩
end Go.Proofs.YtdndfkoklhfffaaDoor
