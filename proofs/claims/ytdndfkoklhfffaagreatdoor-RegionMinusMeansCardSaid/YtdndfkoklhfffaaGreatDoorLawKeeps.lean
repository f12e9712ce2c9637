/- The laws of regions, as texts see them. No walk. -/
import Derived.Test.YtdndfkoklhfffaaGreatDoorRegL
import Derived.Test.YtdndfkoklhfffaaGreatDoorHasP
import Derived.Test.YtdndfkoklhfffaaGreatDoorGMeetV
import Derived.Deep.DeepCutAuto
set_option linter.unusedVariables false
set_option linter.unusedSimpArgs false
namespace Go.Proofs.YtdndfkoklhfffaaGreatDoor
open Go Go.RowKit Sy

def hasT (g : Reg) (s : Str) : Bool := hasV g.b g.hs s
theorem hasT_eq {g : Reg} (h : gErr g = 0) (s : Str) : hasT g s = (match pathOf s with | some l => hasG g l | none => false) := by
  obtain ⟨h1, h2, _⟩ := gErr_zero h
  have h0 : regErr g.b g.hs = 0 := h
  unfold hasT hasV
  rw [h0, hasS_hasR h1 h2]
  unfold hasR
  simp only [BEq.rfl, Bool.true_and]
  rfl
theorem hasT_bad {g : Reg} (h : gErr g ≠ 0) (s : Str) : hasT g s = false := by
  unfold hasT hasV
  have h0 : (regErr g.b g.hs == 0) = false := by
    have : regErr g.b g.hs ≠ 0 := h
    simpa using this
  rw [h0]
  rfl
theorem red_err {b : Pat} {hs : List Pat} (h : gErr ⟨b, hs⟩ = 0) : gErr ⟨b, redL b hs⟩ = 0 := by
  obtain ⟨h1, h2, h3⟩ := gErr_zero h
  have := redL_len b hs
  refine gErr_of h1 (fun p hp => redL_good p hp) ?_
  show (redL b hs).length ≤ 64
  have h4 : hs.length ≤ 64 := h3
  omega
theorem hasT_red {b : Pat} {hs : List Pat} (h : gErr ⟨b, hs⟩ = 0) (s : Str) : hasT ⟨b, redL b hs⟩ s = hasT ⟨b, hs⟩ s := by
  rw [hasT_eq h, hasT_eq (red_err h)]
  rcases hp : pathOf s with _ | l
  · rfl
  · obtain ⟨h1, h2, _⟩ := gErr_zero h
    exact redL_has h1 h2 (pathOf_some hp).2.1
theorem hasT_meet {x y : Reg} (h : (meetR x y).2 = 0) (s : Str) : (match (meetR x y).1 with | some g => hasT g s | none => false) = (hasT x s && hasT y s) := by
  obtain ⟨hx, hy, hh⟩ := meetR_has h
  rw [hasT_eq hx, hasT_eq hy]
  rcases hp : pathOf s with _ | l
  · rcases hm : (meetR x y).1 with _ | g
    · rfl
    · simp only
      rw [hasT_eq (meetR_some hm).2.2.2.1, hp]
      rfl
  · have := hh l (pathOf_some hp).2.1
    simp only
    rw [← this]
    rcases hm : (meetR x y).1 with _ | g
    · rfl
    · simp only
      rw [hasT_eq (meetR_some hm).2.2.2.1, hp]
theorem hasT_minus {x y : Reg} (h : (minusR x y).2 = 0) (s : Str) : (minusR x y).1.countP (fun g => hasT g s) = if (hasT x s && !hasT y s) then 1 else 0 := by
  obtain ⟨hx, hy, hg, hh⟩ := minusR_zero h
  rw [hasT_eq hx, hasT_eq hy]
  rcases hp : pathOf s with _ | l
  · simp only [Bool.false_and, Bool.false_eq_true, if_false]
    rw [List.countP_eq_zero]
    intro g hg2
    rw [hasT_eq (hg g hg2).1, hp]
    simp
  · simp only
    rw [← hh l (pathOf_some hp).2.1]
    apply List.countP_congr
    intro g hg2
    rw [hasT_eq (hg g hg2).1, hp]
end Go.Proofs.YtdndfkoklhfffaaGreatDoor
set_option linter.unusedVariables false
set_option linter.unusedSimpArgs false
namespace Go.Proofs.YtdndfkoklhfffaaGreatDoor
open Go Go.RowKit Sy

theorem has_v (g : Reg) (s : Str) (v : Bool) (n m : Nat) (re : Bool) (A : Option Addr) (c : Nat) (HA : Option Addr) (hc : Nat) (w : World) (hsl : s.length ≤ 10000) (h : RegA w A c HA g.b g.hs) (hM : MaxL w) (hv : hasT g s = v) (hn : g.b.parts.length = n) (hm : g.hs.length = m) (hre : g.b.rest = re) :
    Calls Tryz.prog 17 #[.agg #[.slice A n c, .bool re, .slice HA m hc], .string (bs s)] w fun e w' => e = .returned (.bool v) ∧ Calm w w' := by
  subst hn hm hre hv
  exact has_c g.b g.hs s A c HA hc w hsl h.base h.room h.cap h.holes hM
set_option maxRecDepth 100000 in
set_option maxHeartbeats 16000000 in
theorem keeps_law_c (b : Pat) (hs : List Pat) (s : Str) (A : Option Addr) (c : Nat) (HA : Option Addr) (hc : Nat) (w : World) (hsz : s.length ≤ 9223372036854775807) (hb : StrsG w A b.parts) (hh : PatsG w HA hs) (hbc : b.parts.length ≤ c) (hcc : c ≤ 9223372036854775807) (hhc : hs.length ≤ hc) (hhcc : hc ≤ 9223372036854775807) (hT : Tab w) (hM : MaxL w) :
    Calls Tryz.prog 5 #[.agg #[.slice A b.parts.length c, .bool b.rest, .slice HA hs.length hc], .string (bs s)] w fun e w' => e = .returned (.bool true) ∧ Calm w w' := by
  obtain ⟨hn, hhn⟩ : ∃ hn, hs.length = hn := ⟨_, rfl⟩
  obtain ⟨bn, hbn⟩ : ∃ bn, b.parts.length = bn := ⟨_, rfl⟩
  obtain ⟨br, hbr⟩ : ∃ br, b.rest = br := ⟨_, rfl⟩
  obtain ⟨w1, hw1⟩ : ∃ w1, w1 = w.alloc (.cells #[.slice A bn c, .bool br, .slice HA hn hc] 27) := ⟨_, rfl⟩
  have hc1 : Calm w w1 := by rw [hw1]; exact (Calm.refl w).alloc _
  have hbox : BoxR w1 w.heap.size A bn c br HA hn hc := by rw [hw1]; exact boxR_new w A bn c br HA hn hc
  have hsm := small_c b hs A c HA hc w1 (hb.calm hc1) (hh.calm hc1) hbc hcc hhc hhcc
  rw [hhn, hbn, hbr] at hsm
  have HW := Lib.hid hw1
  have HC := Lib.hid hc1
  have HT := Lib.hid (hT.calm hc1)
  have HM := Lib.hid (hM.calm hc1)
  have HB := Lib.hid hbox
  have HReg : Hid (SmallB b hs → RegA w1 A c HA b hs) := fun h => h.reg (hb.calm hc1) (hh.calm hc1) hbc hcc
  have HN : Hid (hs.length = hn ∧ b.parts.length = bn ∧ b.rest = br) := ⟨hhn, hbn, hbr⟩
  rw [hhn, hbn, hbr]
  rw [hhn] at hhc
  have hhn47 : hn ≤ 140737488355328 := by have := hh.len; omega
  have hss := bs_size s
  clear hw1 hc1 hb hh hT hM hhn hbn hbr hbc hbox
  go_enter Tryz.func5, Tryz.ntmps5
  go_wp2_with fail
  rw [← HW.out]
  refine hsm.mono ?_
  rintro e w2 ⟨⟨r, rfl, hr⟩, hc2⟩
  have HC2 := Lib.hid hc2
  cases r with
  | false =>
    go_wp2_with (go_at_call 9; refine (awake_c _ (HT.out.calm hc2)).mono ?_; rintro e w3 ⟨rfl, hc3⟩)
    go_ret
    exact ⟨rfl, HC.out.trans (hc2.trans hc3)⟩
  | true =>
    by_cases hlen : 300 < s.length
    · go_wp2_with (go_at_call 9; refine (awake_c _ (HT.out.calm hc2)).mono ?_; rintro e w3 ⟨rfl, hc3⟩)
      go_ret
      exact ⟨rfl, HC.out.trans (hc2.trans hc3)⟩
    · have hRg := (HReg.out (hr rfl)).calm hc2
      have hn70 : hn ≤ 70 := by have := (hr rfl).holes; rw [HN.out.1] at this; exact this
      have HRg := Lib.hid hRg
      have hb2 := HB.out.calm hc2
      have x0 := hb2.x0
      have x1 := hb2.x1
      have x2 := hb2.x2
      have HB2 := Lib.hid hb2
      obtain ⟨v, hv⟩ : ∃ v, gErr ⟨b, hs⟩ = v := ⟨_, rfl⟩
      have HV := Lib.hid hv
      clear hRg hr hsm HReg hb2 hv hc2
      by_cases hv0 : v = 0
      · subst hv0
        obtain ⟨rl, hrl⟩ : ∃ rl, (redL b hs).length = rl := ⟨_, rfl⟩
        have hrln : rl ≤ hn := by
          have h1 := redL_len b hs
          rw [hrl, HN.out.1] at h1
          exact h1
        obtain ⟨vh, hvh⟩ : ∃ vh, hasT ⟨b, hs⟩ s = vh := ⟨_, rfl⟩
        have hvr : hasT ⟨b, redL b hs⟩ s = vh := (hasT_red HV.out s).trans hvh
        have K1 := simp_yes ⟨b, hs⟩ bn hn br rl A c HA hc w2 HRg.out HV.out HN.out.2.1 HN.out.1 HN.out.2.2 hrl
        have hrl2 : (redL b (redL b hs)).length = rl := by rw [redL_idem (gErr_zero HV.out).1]; exact hrl
        have K2 : Hid (∀ A3 c3 HA3 hc3 W, RegA W A3 c3 HA3 b (redL b hs) → Calls Tryz.prog 15 #[.agg #[.slice A3 bn c3, .bool br, .slice HA3 rl hc3]] W fun e w' => (∃ A4 c4 HA4 hc4, e = .returned (.tuple #[.agg #[.slice A4 bn c4, .bool br, .slice HA4 rl hc4], .int .i64 0]) ∧ RegN w' W.heap.size A4 c4 HA4 hc4 ⟨b, redL b hs⟩) ∧ Calm W w') := fun A3 c3 HA3 hc3 W hW => by
          have := simp_yes ⟨b, redL b hs⟩ bn rl br rl A3 c3 HA3 hc3 W hW (red_err HV.out) HN.out.2.1 hrl HN.out.2.2 hrl2
          simp only [redL_idem (gErr_zero HV.out).1] at this
          exact this
        have HR := Lib.hid (And.intro hrl (And.intro hvh hvr))
        clear hrl hvh hvr hrl2
        go_wp2_with fail
        refine K1.mono ?_
        rintro e w3 ⟨⟨A3, c3, HA3, hc3, rfl, hr3⟩, hcc3⟩
        go_wp2_with fail
        obtain ⟨w4, hw4⟩ : ∃ w4, w4 = w3.alloc (.cells #[.slice A3 bn c3, .bool br, .slice HA3 rl hc3] 27) := ⟨_, rfl⟩
        rw [← hw4]
        have hcc4 : Calm w3 w4 := by rw [hw4]; exact (Calm.refl w3).alloc _
        have HB4 : Hid (BoxR w4 w3.heap.size A3 bn c3 br HA3 rl hc3) := by rw [hw4]; exact boxR_new w3 A3 bn c3 br HA3 rl hc3
        have HA4 : Hid (RegA w4 A3 c3 HA3 b (redL b hs)) := (hr3.calm hcc4).a (by show (redL b hs).length ≤ 16384; rw [HR.out.1]; omega)
        have HC4 := Lib.hid (hcc3.trans hcc4)
        clear hw4 hcc3 hcc4 hr3 K1
        refine (K2.out A3 c3 HA3 hc3 w4 HA4.out).mono ?_
        rintro e w5 ⟨⟨A5, c5, HA5, hc5, rfl, hr5⟩, hcc5⟩
        go_upto_region 7 with (fail)
        obtain ⟨w6, hw6⟩ : ∃ w6, w6 = w5.alloc (.cells #[.slice A5 bn c5, .bool br, .slice HA5 rl hc5] 27) := ⟨_, rfl⟩
        rw [← hw6]
        have hcc6 : Calm w5 w6 := by rw [hw6]; exact (Calm.refl w5).alloc _
        have hB6 : BoxR w6 w5.heap.size A5 bn c5 br HA5 rl hc5 := by rw [hw6]; exact boxR_new w5 A5 bn c5 br HA5 rl hc5
        have hA6 : RegA w6 A5 c5 HA5 b (redL b hs) := (hr5.calm hcc6).a (by show (redL b hs).length ≤ 16384; rw [HR.out.1]; omega)
        have hc46 : Calm w4 w6 := hcc5.trans hcc6
        have hB4 := HB4.out.calm hc46
        have hB2 := HB2.out.calm (HC4.out.trans hc46)
        have KS := Lib.hid (fun q : CalmTo w6 => rsameg_v ⟨b, redL b hs⟩ bn rl br A3 c3 HA3 hc3 A5 c5 HA5 hc5 q.w ((HA4.out.calm hc46).calm q.h) (hA6.calm q.h) HN.out.2.1 HR.out.1 HN.out.2.2)
        have KH1 := Lib.hid (fun q : CalmTo w6 => has_v ⟨b, redL b hs⟩ s vh bn rl br A3 c3 HA3 hc3 q.w (by omega) ((HA4.out.calm hc46).calm q.h) (HM.out.calm (HC2.out.trans (HC4.out.trans (hc46.trans q.h)))) HR.out.2.2 HN.out.2.1 HR.out.1 HN.out.2.2)
        have KH2 := Lib.hid (fun q : CalmTo w6 => has_v ⟨b, hs⟩ s vh bn hn br A c HA hc q.w (by omega) (HRg.out.calm (HC4.out.trans (hc46.trans q.h))) (HM.out.calm (HC2.out.trans (HC4.out.trans (hc46.trans q.h)))) HR.out.2.1 HN.out.2.1 HN.out.1 HN.out.2.2)
        have KA := Lib.hid (fun q : CalmTo w6 => awake_c q.w (HT.out.calm (HC2.out.trans (HC4.out.trans (hc46.trans q.h)))))
        have e0 := fun q : CalmTo w6 => q.cell hB4.x0 hB4.lt
        have e1 := fun q : CalmTo w6 => q.cell hB4.x1 hB4.lt
        have e2 := fun q : CalmTo w6 => q.cell hB4.x2 hB4.lt
        have e3 := fun q : CalmTo w6 => q.cell hB6.x0 hB6.lt
        have e4 := fun q : CalmTo w6 => q.cell hB6.x1 hB6.lt
        have e5 := fun q : CalmTo w6 => q.cell hB6.x2 hB6.lt
        have e6 := fun q : CalmTo w6 => q.cell hB2.x0 hB2.lt
        have e7 := fun q : CalmTo w6 => q.cell hB2.x1 hB2.lt
        have e8 := fun q : CalmTo w6 => q.cell hB2.x2 hB2.lt
        have HC6 := Lib.hid (HC2.out.trans (HC4.out.trans hc46))
        have hle : decide ((rl : Int) ≤ (hn : Int)) = true := by simp; omega
        clear hw6 hcc5 hcc6 hB6 hA6 hc46 hB4 hB2 hr5 x0 x1 x2
        refine wp_region_calm (by kernel_rfl) (by kernel_rfl) ?_
        repeat (go_big_quiet_step ((first
          | (go_at_call 12; exact calmOf (KS.out _))
          | (go_at_call 9; exact calmOf (KA.out _))
          | (go_at_call 17; with_reducible exact calmOf (KH1.out _))
          | (go_at_call 17; with_reducible exact calmOf (KH2.out _)))))
        refine wpQuiet_nil ?_
        intro w7 hc7
        clear e0 e1 e2 e3 e4 e5 e6 e7 e8
        go_wp2
        go_ret
        exact ⟨rfl, HC.out.trans (HC6.out.trans hc7)⟩
      · have K1 := simp_not ⟨b, hs⟩ v bn hn br A c HA hc w2 HRg.out HV.out hv0 HN.out.2.1 HN.out.1 HN.out.2.2
        have K2 := Lib.hid (fun (W : World) (hW : Calm w2 W) => gcheck_a ⟨b, hs⟩ v bn hn br A c HA hc W (HRg.out.calm hW) HV.out HN.out.2.1 HN.out.1 HN.out.2.2)
        have hvb : (v == 0) = false := by simpa using hv0
        clear hv0
        go_wp2_with fail
        refine K1.mono ?_
        rintro e w3 ⟨rfl, hcc3⟩
        have hcc4 : Calm w3 (w3.alloc (.cells #[.slice none 0 0, .bool false, .slice none 0 0] 27)) := (Calm.refl w3).alloc _
        have hb4 := HB2.out.calm (hcc3.trans hcc4)
        clear x0 x1 x2
        have x0 := hb4.x0
        have x1 := hb4.x1
        have x2 := hb4.x2
        clear hb4
        have hlt2 := HB2.out.lt
        have hsz3 := hcc3.size
        have y0 := Calm.at_ hcc3 HB2.out.x0 HB2.out.lt
        have y1 := Calm.at_ hcc3 HB2.out.x1 HB2.out.lt
        have y2 := Calm.at_ hcc3 HB2.out.x2 HB2.out.lt
        have hlt3 := Nat.lt_of_lt_of_le hlt2 hsz3
        have HC4 := Lib.hid (hcc3.trans hcc4)
        clear hcc3 hcc4 hsz3 hlt2 K1
        go_wp2_with (first
          | (go_at_call 16; refine (K2.out _ HC4.out).mono ?_; rintro e w5 ⟨rfl, hcc5⟩)
          | (go_at_call 9; refine (awake_c _ (HT.out.calm (HC2.out.trans (HC4.out.trans hcc5)))).mono ?_; rintro e w6 ⟨rfl, hcc6⟩))
        go_ret
        exact ⟨rfl, HC.out.trans (HC2.out.trans (HC4.out.trans (hcc5.trans hcc6)))⟩
end Go.Proofs.YtdndfkoklhfffaaGreatDoor
