/- Walk: rule.Chain. -/
import Derived.Test.YteplgaabicminaaGreatDoorZNarW
import Derived.Test.YteplgaabicminaaGreatDoorZMapC
set_option linter.unusedVariables false
set_option linter.unusedSimpArgs false
namespace Go.Proofs.YteplgaabicminaaGreatDoor
open Go Go.RowKit Sy

def bothE (r q : Rule) : Int := if ruleErr r ≠ 0 then ruleErr r else ruleErr q
set_option maxHeartbeats 4000000 in
theorem checkBoth_c (r q : Rule) (a b : Pl) (w : World) (hr : RuleU w a r) (hq : RuleU w b q) :
    Calls Tryz.prog 39 #[ruleV a r, ruleV b q] w fun e w' => e = .returned (.int .i64 (bothE r q)) ∧ Calm w w' := by
  obtain ⟨nl, hnl⟩ : ∃ nl, r.left.parts.length = nl := ⟨_, rfl⟩
  obtain ⟨nr, hnr⟩ : ∃ nr, r.right.parts.length = nr := ⟨_, rfl⟩
  obtain ⟨lr, hlr⟩ : ∃ lr, r.left.rest = lr := ⟨_, rfl⟩
  obtain ⟨rr, hrr⟩ : ∃ rr, r.right.rest = rr := ⟨_, rfl⟩
  obtain ⟨ex, hex⟩ : ∃ ex, r.excl = ex := ⟨_, rfl⟩
  obtain ⟨ql, hql⟩ : ∃ ql, q.left.parts.length = ql := ⟨_, rfl⟩
  obtain ⟨qr, hqr⟩ : ∃ qr, q.right.parts.length = qr := ⟨_, rfl⟩
  obtain ⟨kl, hkl⟩ : ∃ kl, q.left.rest = kl := ⟨_, rfl⟩
  obtain ⟨kr, hkr⟩ : ∃ kr, q.right.rest = kr := ⟨_, rfl⟩
  obtain ⟨qx, hqx⟩ : ∃ qx, q.excl = qx := ⟨_, rfl⟩
  obtain ⟨w1, hw1⟩ : ∃ w1, w1 = (w.alloc (.cells #[.bool ex, .slice a.AL nl a.cl, .bool lr, .slice a.AR nr a.cr, .bool rr] 49)).alloc (.cells #[.bool qx, .slice b.AL ql b.cl, .bool kl, .slice b.AR qr b.cr, .bool kr] 49) := ⟨_, rfl⟩
  have hc1 : Calm w w1 := by rw [hw1]; exact ((Calm.refl w).alloc _).alloc _
  have hbr : FiveB w1 w.heap.size (.bool ex) (.slice a.AL nl a.cl) (.bool lr) (.slice a.AR nr a.cr) (.bool rr) := by
    rw [hw1]
    exact (FiveB.new w _ _ _ _ _ _).calm ((Calm.refl _).alloc _)
  have hbq : FiveB w1 (w.heap.size + 1) (.bool qx) (.slice b.AL ql b.cl) (.bool kl) (.slice b.AR qr b.cr) (.bool kr) := by
    rw [hw1]
    have := FiveB.new (w.alloc (.cells #[.bool ex, .slice a.AL nl a.cl, .bool lr, .slice a.AR nr a.cr, .bool rr] 49)) (.bool qx) (.slice b.AL ql b.cl) (.bool kl) (.slice b.AR qr b.cr) (.bool kr) 49
    simpa using this
  obtain ⟨v, hv⟩ : ∃ v, ruleErr r = v := ⟨_, rfl⟩
  obtain ⟨u, hu⟩ : ∃ u, ruleErr q = u := ⟨_, rfl⟩
  have KR : Hid (∀ W, Calm w1 W → Calls Tryz.prog 42 #[.agg #[.bool ex, .slice a.AL nl a.cl, .bool lr, .slice a.AR nr a.cr, .bool rr]] W fun e w' => e = .returned (.int .i64 v) ∧ Calm W w') := fun W hW => by
    have := rule_c r a W ((hr.calm hc1).calm hW)
    unfold ruleV at this
    rw [hnl, hnr, hlr, hrr, hex, hv] at this
    exact this
  have KQ : Hid (∀ W, Calm w1 W → Calls Tryz.prog 42 #[.agg #[.bool qx, .slice b.AL ql b.cl, .bool kl, .slice b.AR qr b.cr, .bool kr]] W fun e w' => e = .returned (.int .i64 u) ∧ Calm W w') := fun W hW => by
    have := rule_c q b W ((hq.calm hc1).calm hW)
    unfold ruleV at this
    rw [hql, hqr, hkl, hkr, hqx, hu] at this
    exact this
  have HX1 : Hid (v ≠ 0 → bothE r q = v) := fun h => by
    unfold bothE
    rw [hv, if_pos h]
  have HX2 : Hid (v = 0 → bothE r q = u) := fun h => by
    unfold bothE
    rw [hv, if_neg (by simpa using h), hu]
  have HW := Lib.hid hw1
  have HC := Lib.hid hc1
  have HBr := Lib.hid hbr
  have HBq := Lib.hid hbq
  unfold ruleV
  rw [hnl, hnr, hlr, hrr, hex, hql, hqr, hkl, hkr, hqx]
  clear hw1 hc1 hbr hbq hr hq hnl hnr hlr hrr hex hql hqr hkl hkr hqx hv hu
  go_enter Tryz.func39, Tryz.ntmps39
  have b := HBr.out
  have b0 := b.c0
  have b1 := b.c1
  have b2 := b.c2
  have b3 := b.c3
  have b4 := b.c4
  clear b
  go_wp2_with fail
  rw [← HW.out]
  refine (KR.out w1 (Calm.refl _)).mono ?_
  rintro e w2 ⟨rfl, hc2⟩
  clear b0 b1 b2 b3 b4
  have HC2 := Lib.hid hc2
  by_cases hv0 : v = 0
  · subst hv0
    have b := HBq.out.calm hc2
    have b0 := b.c0
    have b1 := b.c1
    have b2 := b.c2
    have b3 := b.c3
    have b4 := b.c4
    clear b hc2
    go_wp2_with fail
    refine (KQ.out w2 HC2.out).mono ?_
    rintro e w3 ⟨rfl, hc3⟩
    go_wp2_with fail
    go_ret
    exact ⟨by rw [HX2.out (by trivial)]; rfl, HC.out.trans (HC2.out.trans hc3)⟩
  · have hv1 : (v != 0) = true := by simpa using hv0
    have hv2 : (v == 0) = false := by rw [beq_eq_false_iff_ne]; exact hv0
    have HX := Lib.hid (HX1.out hv0)
    clear hc2 hv0
    go_wp2_with fail
    go_ret
    exact ⟨by rw [HX.out]; rfl, HC.out.trans HC2.out⟩
set_option maxHeartbeats 16000000 in
theorem chain_c (r q : Rule) (a b : Pl) (w : World) (hr : RuleU w a r) (hs : SmallR r) (hq : RuleU w b q) (ht : SmallR q) :
    Calls Tryz.prog 18 #[ruleV a r, ruleV b q] w fun e w' => NarEnd (chainE r q) w.heap.size e w' ∧ Calm w w' := by
  obtain ⟨nl, hnl⟩ : ∃ nl, r.left.parts.length = nl := ⟨_, rfl⟩
  obtain ⟨nr, hnr⟩ : ∃ nr, r.right.parts.length = nr := ⟨_, rfl⟩
  obtain ⟨lr, hlr⟩ : ∃ lr, r.left.rest = lr := ⟨_, rfl⟩
  obtain ⟨rr, hrr⟩ : ∃ rr, r.right.rest = rr := ⟨_, rfl⟩
  obtain ⟨ex, hex⟩ : ∃ ex, r.excl = ex := ⟨_, rfl⟩
  obtain ⟨ql, hql⟩ : ∃ ql, q.left.parts.length = ql := ⟨_, rfl⟩
  obtain ⟨qr, hqr⟩ : ∃ qr, q.right.parts.length = qr := ⟨_, rfl⟩
  obtain ⟨kl, hkl⟩ : ∃ kl, q.left.rest = kl := ⟨_, rfl⟩
  obtain ⟨kr, hkr⟩ : ∃ kr, q.right.rest = kr := ⟨_, rfl⟩
  obtain ⟨qx, hqx⟩ : ∃ qx, q.excl = qx := ⟨_, rfl⟩
  obtain ⟨w1, hw1⟩ : ∃ w1, w1 = ((w.alloc (.cells #[.bool ex, .slice a.AL nl a.cl, .bool lr, .slice a.AR nr a.cr, .bool rr] 49)).alloc (.cells #[.bool qx, .slice b.AL ql b.cl, .bool kl, .slice b.AR qr b.cr, .bool kr] 49)).alloc (.cells #[.bool false, .slice none 0 0, .bool false, .slice none 0 0, .bool false] 49) := ⟨_, rfl⟩
  have hc1 : Calm w w1 := by rw [hw1]; exact (((Calm.refl w).alloc _).alloc _).alloc _
  have hbr : FiveB w1 w.heap.size (.bool ex) (.slice a.AL nl a.cl) (.bool lr) (.slice a.AR nr a.cr) (.bool rr) := by
    rw [hw1]
    exact (FiveB.new w _ _ _ _ _ _).calm (((Calm.refl _).alloc _).alloc _)
  have hbq : FiveB w1 (w.heap.size + 1) (.bool qx) (.slice b.AL ql b.cl) (.bool kl) (.slice b.AR qr b.cr) (.bool kr) := by
    rw [hw1]
    have := (FiveB.new (w.alloc (.cells #[.bool ex, .slice a.AL nl a.cl, .bool lr, .slice a.AR nr a.cr, .bool rr] 49)) (.bool qx) (.slice b.AL ql b.cl) (.bool kl) (.slice b.AR qr b.cr) (.bool kr) 49).calm ((Calm.refl _).alloc (.cells #[.bool false, .slice none 0 0, .bool false, .slice none 0 0, .bool false] 49))
    simpa using this
  have hbz : FiveB w1 (w.heap.size + 1 + 1) (.bool false) (.slice none 0 0) (.bool false) (.slice none 0 0) (.bool false) := by
    rw [hw1]
    have := FiveB.new ((w.alloc (.cells #[.bool ex, .slice a.AL nl a.cl, .bool lr, .slice a.AR nr a.cr, .bool rr] 49)).alloc (.cells #[.bool qx, .slice b.AL ql b.cl, .bool kl, .slice b.AR qr b.cr, .bool kr] 49)) (.bool false) (.slice none 0 0) (.bool false) (.slice none 0 0) (.bool false) 49
    simpa using this
  obtain ⟨v, hv⟩ : ∃ v, bothE r q = v := ⟨_, rfl⟩
  have KB : Hid (∀ W, Calm w1 W → Calls Tryz.prog 39 #[.agg #[.bool ex, .slice a.AL nl a.cl, .bool lr, .slice a.AR nr a.cr, .bool rr], .agg #[.bool qx, .slice b.AL ql b.cl, .bool kl, .slice b.AR qr b.cr, .bool kr]] W fun e w' => e = .returned (.int .i64 v) ∧ Calm W w') := fun W hW => by
    have := checkBoth_c r q a b W ((hr.calm hc1).calm hW) ((hq.calm hc1).calm hW)
    unfold ruleV at this
    rw [hnl, hnr, hlr, hrr, hex, hql, hqr, hkl, hkr, hqx, hv] at this
    exact this
  have hv0 : v = 0 → ruleErr r = 0 ∧ ruleErr q = 0 := fun h => by
    unfold bothE at hv
    by_cases h1 : ruleErr r ≠ 0
    · rw [if_pos h1] at hv
      exact absurd (hv.trans h) h1
    · rw [if_neg h1] at hv
      exact ⟨by simpa using h1, hv.trans h⟩
  have hal : PatA w a.AL a.cl r.left := ⟨hr.left hs, hr.lroom, hr.lcap⟩
  have har : PatA w a.AR a.cr r.right := ⟨hr.right hs, hr.rroom, hr.rcap⟩
  have hbl : PatA w b.AL b.cl q.left := ⟨hq.left ht, hq.lroom, hq.lcap⟩
  have hbr2 : PatA w b.AR b.cr q.right := ⟨hq.right ht, hq.rroom, hq.rcap⟩
  have KM1 : Hid (∀ m, v = 0 → meetP r.right q.left = some m → ∀ W, Calm w1 W → Calls Tryz.prog 40 #[.agg #[.slice a.AR nr a.cr, .bool rr], .agg #[.slice b.AL ql b.cl, .bool kl]] W fun e w' => (∃ A2 c2, e = .returned (.tuple #[.agg #[.slice A2 m.parts.length c2, .bool m.rest], .bool true]) ∧ SmallN w' W.heap.size ⟨A2, c2, m⟩) ∧ Calm W w') := fun m h0 hm W hW => by
    have := meet_yes r.right q.left m a.AR b.AL a.cr b.cl W ((har.calm hc1).calm hW) ((hbl.calm hc1).calm hW) (ruleErr_twin.1 (hv0 h0).1).rp (ruleErr_twin.1 (hv0 h0).2).lp hm
    rw [hnr, hrr, hql, hkl] at this
    exact this
  have KM0 : Hid (v = 0 → meetP r.right q.left = none → ∀ W, Calm w1 W → Calls Tryz.prog 40 #[.agg #[.slice a.AR nr a.cr, .bool rr], .agg #[.slice b.AL ql b.cl, .bool kl]] W fun e w' => e = .returned (.tuple #[.agg #[.slice none 0 0, .bool false], .bool false]) ∧ Calm W w') := fun h0 hm W hW => by
    have := meet_no r.right q.left a.AR b.AL a.cr b.cl W ((har.calm hc1).calm hW) ((hbl.calm hc1).calm hW) (ruleErr_twin.1 (hv0 h0).1).rp (ruleErr_twin.1 (hv0 h0).2).lp hm
    rw [hnr, hrr, hql, hkl] at this
    exact this
  have KC : Hid (∀ m, v = 0 → meetP r.right q.left = some m → ∀ W A2 c2, Calm w1 W → PatA W A2 c2 m → Calls Tryz.prog 41 #[.agg #[.slice a.AR nr a.cr, .bool rr], .agg #[.slice A2 m.parts.length c2, .bool m.rest], .agg #[.slice a.AL nl a.cl, .bool lr]] W fun e w' => CarryEnd (carryP r.right r.left m) W.heap.size e w' ∧ Calm W w') := fun m h0 hm W A2 c2 hW hPm =>
    carry_c r.right m r.left nr m.parts.length nl a.cr c2 a.cl rr m.rest lr a.AR A2 a.AL W (inner_meet (r := ⟨false, r.right, r.left⟩) (ruleErr_twin.2 (ruleErr_twin.1 (hv0 h0).1).turn) hm) ((har.calm hc1).calm hW) hPm ((hal.calm hc1).calm hW) hnr rfl hnl hrr rfl hlr
  have KD : Hid (∀ m, v = 0 → meetP r.right q.left = some m → ∀ W A2 c2, Calm w1 W → PatA W A2 c2 m → Calls Tryz.prog 41 #[.agg #[.slice b.AL ql b.cl, .bool kl], .agg #[.slice A2 m.parts.length c2, .bool m.rest], .agg #[.slice b.AR qr b.cr, .bool kr]] W fun e w' => CarryEnd (carryP q.left q.right m) W.heap.size e w' ∧ Calm W w') := fun m h0 hm W A2 c2 hW hPm =>
    carry_c q.left m q.right ql m.parts.length qr b.cl c2 b.cr kl m.rest kr b.AL A2 b.AR W (inner_meet (hv0 h0).2 ((meetP_comm _ _).trans hm)) ((hbl.calm hc1).calm hW) hPm ((hbr2.calm hc1).calm hW) hql rfl hqr hkl rfl hkr
  have HX1 : Hid (v ≠ 0 → chainE r q = (none, v)) := fun h => by
    unfold chainE
    unfold bothE at hv
    by_cases h1 : ruleErr r ≠ 0
    · rw [if_pos h1] at hv ⊢
      rw [hv]
    · rw [if_neg h1] at hv ⊢
      rw [hv, if_pos h]
  have HX3 : Hid (v = 0 → meetP r.right q.left = none → chainE r q = (none, 0)) := fun h hm => by
    unfold chainE
    rw [if_neg (by simpa using (hv0 h).1), if_neg (by simpa using (hv0 h).2), hm]
  have HX4 : Hid (∀ m, v = 0 → meetP r.right q.left = some m → chainE r q = if 12 < (carryP r.right r.left m).parts.length ∨ 12 < (carryP q.left q.right m).parts.length then (none, 43) else (some ⟨false, carryP r.right r.left m, carryP q.left q.right m⟩, 0)) := fun m h hm => by
    unfold chainE
    rw [if_neg (by simpa using (hv0 h).1), if_neg (by simpa using (hv0 h).2), hm]
  have HW := Lib.hid hw1
  have HC := Lib.hid hc1
  have HBr := Lib.hid hbr
  have HBq := Lib.hid hbq
  have HBz := Lib.hid hbz
  have hsz : w.heap.size + 1 + 1 < w1.heap.size := hbz.lt
  unfold ruleV
  rw [hnl, hnr, hlr, hrr, hex, hql, hqr, hkl, hkr, hqx]
  clear hw1 hc1 hbr hbq hbz hr hs hq ht hnl hnr hlr hrr hex hql hqr hkl hkr hqx hv hv0 hal har hbl hbr2
  have HC8 : Hid (∀ W, Calm w1 W → ∀ u0 u1 u2 u3 u4, Calm w (set5 W (w.heap.size + 1 + 1) u0 u1 u2 u3 u4)) := fun W hW u0 u1 u2 u3 u4 => calm5 (HC.out.trans hW) (by omega) _ _ _ _ _
  go_enter Tryz.func18, Tryz.ntmps18
  have b := HBr.out
  have b0 := b.c0
  have b1 := b.c1
  have b2 := b.c2
  have b3 := b.c3
  have b4 := b.c4
  have b := HBq.out
  have d0 := b.c0
  have d1 := b.c1
  have d2 := b.c2
  have d3 := b.c3
  have d4 := b.c4
  clear b
  go_wp2_with fail
  rw [← HW.out]
  refine (KB.out w1 (Calm.refl _)).mono ?_
  rintro e w3 ⟨rfl, hc3⟩
  clear b0 b1 b2 b3 b4 d0 d1 d2 d3 d4
  have HC3 := Lib.hid hc3
  clear hc3
  by_cases hv0 : v = 0
  · subst hv0
    have b := HBr.out.calm HC3.out
    have b3 := b.c3
    have b4 := b.c4
    have b := HBq.out.calm HC3.out
    have d1 := b.c1
    have d2 := b.c2
    clear b
    rcases hmm : meetP r.right q.left with _ | m
    · have HX := Lib.hid (HX3.out (by trivial) hmm)
      have KM := Lib.hid (KM0.out (by trivial) hmm w3 HC3.out)
      clear hmm
      go_wp2_with fail
      refine KM.out.mono ?_
      rintro e w4 ⟨rfl, hc4⟩
      have hz := HBz.out.calm ((HC3.out.trans hc4).alloc (.cells #[.slice none 0 0, .bool false] 38))
      have z0 := hz.c0
      have z1 := hz.c1
      have z2 := hz.c2
      have z3 := hz.c3
      have z4 := hz.c4
      have f0 := hz.fz 0
      have f1 := hz.fz 1
      have f2 := hz.fz 2
      have f3 := hz.fz 3
      have f4 := hz.fz 4
      have HC4 : Hid (Calm w1 w4) := HC3.out.trans hc4
      clear hz hc4 b3 b4 d1 d2
      go_wp2_with fail
      refine bodyPost_ret (v := .tuple #[.agg #[.bool false, .slice none 0 0, .bool false, .slice none 0 0, .bool false], .bool false, .int .i64 0]) ?_ rfl ⟨.inl (by rw [HX.out]; exact ⟨rfl, rfl⟩), HC8.out _ (HC4.out.alloc _) _ _ _ _ _⟩
      rw [results_cell_tt rfl]
      go_simp
    · have hx := HX4.out m (by trivial) hmm
      have KM := Lib.hid (KM1.out m (by trivial) hmm w3 HC3.out)
      have KCm := Lib.hid (KC.out m (by trivial) hmm)
      have KDm := Lib.hid (KD.out m (by trivial) hmm)
      clear hmm
      obtain ⟨cr, hcr⟩ : ∃ cr, carryP r.right r.left m = cr := ⟨_, rfl⟩
      obtain ⟨dr, hdr⟩ : ∃ dr, carryP q.left q.right m = dr := ⟨_, rfl⟩
      rw [hcr, hdr] at hx
      rw [hcr] at KCm
      rw [hdr] at KDm
      obtain ⟨mn, hmn⟩ : ∃ mn, m.parts.length = mn := ⟨_, rfl⟩
      obtain ⟨mr, hmr⟩ : ∃ mr, m.rest = mr := ⟨_, rfl⟩
      obtain ⟨cn, hcn⟩ : ∃ cn, cr.parts.length = cn := ⟨_, rfl⟩
      obtain ⟨ct, hct⟩ : ∃ ct, cr.rest = ct := ⟨_, rfl⟩
      obtain ⟨dn, hdn⟩ : ∃ dn, dr.parts.length = dn := ⟨_, rfl⟩
      obtain ⟨dt, hdt⟩ : ∃ dt, dr.rest = dt := ⟨_, rfl⟩
      rw [hmn, hmr] at KM KCm KDm
      have HN := Lib.hid (And.intro hcn (And.intro hct (And.intro hdn hdt)))
      rw [hcn, hdn] at hx
      have HX := Lib.hid hx
      clear hx hcr hdr hmn hmr hcn hct hdn hdt
      go_wp2_with fail
      refine KM.out.mono ?_
      rintro e w4 ⟨⟨A2, c2, rfl, hSm⟩, hc4⟩
      clear b3 b4 d1 d2
      have HC5 : Hid (Calm w1 (w4.alloc (.cells #[.slice A2 mn c2, .bool mr] 38))) := (HC3.out.trans hc4).alloc _
      have hm := TwoB.new w4 (.slice A2 mn c2) (.bool mr) 38
      have HSm : Hid (SmallN (w4.alloc (.cells #[.slice A2 mn c2, .bool mr] 38)) w3.heap.size ⟨A2, c2, m⟩) := hSm.calm ((Calm.refl _).alloc _)
      have b := HBr.out.calm HC5.out
      have b1 := b.c1
      have b2 := b.c2
      have b3 := b.c3
      have b4 := b.c4
      have m0 := hm.c0
      have m1 := hm.c1
      have HMb := Lib.hid hm
      clear b hm hSm hc4
      go_wp2_with fail
      obtain ⟨w5, hw5⟩ : ∃ w5, w5 = w4.alloc (.cells #[.slice A2 mn c2, .bool mr] 38) := ⟨_, rfl⟩
      rw [← hw5] at HC5 HMb HSm ⊢
      obtain ⟨M, hM⟩ : ∃ M, w4.heap.size = M := ⟨_, rfl⟩
      rw [hM] at HMb
      simp only [hM]
      clear hw5 hM b1 b2 b3 b4 m0 m1
      refine (KCm.out w5 A2 c2 HC5.out HSm.out.a).mono ?_
      rintro e w6 ⟨hE, hc6⟩
      have HC6 : Hid (Calm w5 w6) := hc6
      clear hc6
      rcases hE with ⟨h12, rfl⟩ | ⟨h12, A3, c3, rfl, hN3⟩
      · rw [HN.out.1] at h12
        have HX2' : Hid (chainE r q = (none, 43)) := by
          show _ = _
          rw [HX.out, if_pos (.inl h12)]
        have hz := HBz.out.calm ((HC5.out.trans HC6.out).alloc (.cells #[.slice none 0 0, .bool false] 38))
        have z0 := hz.c0
        have z1 := hz.c1
        have z2 := hz.c2
        have z3 := hz.c3
        have z4 := hz.c4
        have f0 := hz.fz 0
        have f1 := hz.fz 1
        have f2 := hz.fz 2
        have f3 := hz.fz 3
        have f4 := hz.fz 4
        clear hz h12
        go_wp2_with fail
        refine bodyPost_ret (v := .tuple #[.agg #[.bool false, .slice none 0 0, .bool false, .slice none 0 0, .bool false], .bool false, .int .i64 43]) ?_ rfl ⟨.inl (by rw [HX2'.out]; exact ⟨rfl, rfl⟩), HC8.out _ ((HC5.out.trans HC6.out).alloc _) _ _ _ _ _⟩
        rw [results_cell_tt rfl]
        go_simp
      · rw [HN.out.1] at h12
        rw [HN.out.1, HN.out.2.1]
        have HC7 : Hid (Calm w1 (w6.alloc (.cells #[.slice A3 cn c3, .bool ct] 38))) := (HC5.out.trans HC6.out).alloc _
        have hsz5 : w1.heap.size ≤ w5.heap.size := HC5.out.size
        have HN3 : Hid (NewS (w6.alloc (.cells #[.slice A3 cn c3, .bool ct] 38)) w5.heap.size A3 c3 cr.parts) := hN3.calm ((Calm.refl _).alloc _)
        have hn := TwoB.new w6 (.slice A3 cn c3) (.bool ct) 38
        have HNb := Lib.hid hn
        have HS7 : Hid (PatA (w6.alloc (.cells #[.slice A3 cn c3, .bool ct] 38)) A2 c2 m) := (HSm.out.calm (HC6.out.alloc _)).a
        have hm := HMb.out.calm (HC6.out.alloc (.cells #[.slice A3 cn c3, .bool ct] 38))
        have m0 := hm.c0
        have m1 := hm.c1
        have b := HBq.out.calm HC7.out
        have d1 := b.c1
        have d2 := b.c2
        have d3 := b.c3
        have d4 := b.c4
        clear b hm hn hN3
        go_wp2_with fail
        obtain ⟨w7, hw7⟩ : ∃ w7, w7 = w6.alloc (.cells #[.slice A3 cn c3, .bool ct] 38) := ⟨_, rfl⟩
        rw [← hw7] at HC7 HNb HN3 HS7 ⊢
        obtain ⟨O, hO⟩ : ∃ O, w6.heap.size = O := ⟨_, rfl⟩
        rw [hO] at HNb
        simp only [hO]
        clear hw7 hO d1 d2 d3 d4 m0 m1
        refine (KDm.out w7 A2 c2 HC7.out HS7.out).mono ?_
        rintro e w8 ⟨hE, hc8⟩
        have HC9 : Hid (Calm w7 w8) := hc8
        clear hc8
        rcases hE with ⟨h13, rfl⟩ | ⟨h13, A4, c4, rfl, hN4⟩
        · rw [HN.out.2.2.1] at h13
          have HX2' : Hid (chainE r q = (none, 43)) := by
            show _ = _
            rw [HX.out, if_pos (.inr h13)]
          have hz := HBz.out.calm ((HC7.out.trans HC9.out).alloc (.cells #[.slice none 0 0, .bool false] 38))
          have z0 := hz.c0
          have z1 := hz.c1
          have z2 := hz.c2
          have z3 := hz.c3
          have z4 := hz.c4
          have f0 := hz.fz 0
          have f1 := hz.fz 1
          have f2 := hz.fz 2
          have f3 := hz.fz 3
          have f4 := hz.fz 4
          clear hz h12 h13
          go_wp2_with fail
          refine bodyPost_ret (v := .tuple #[.agg #[.bool false, .slice none 0 0, .bool false, .slice none 0 0, .bool false], .bool false, .int .i64 43]) ?_ rfl ⟨.inl (by rw [HX2'.out]; exact ⟨rfl, rfl⟩), HC8.out _ ((HC7.out.trans HC9.out).alloc _) _ _ _ _ _⟩
          rw [results_cell_tt rfl]
          go_simp
        · rw [HN.out.2.2.1] at h13
          have HX2' : Hid (chainE r q = (some ⟨false, cr, dr⟩, 0)) := by
            show _ = _
            rw [HX.out, if_neg (by omega)]
          rw [HN.out.2.2.1, HN.out.2.2.2]
          have hsz7 : w1.heap.size ≤ w7.heap.size := HC7.out.size
          have HRu : Hid (∀ u0 u1 u2 u3 u4, RuleN (set5 (w8.alloc (.cells #[.slice A4 dn c4, .bool dt] 38)) (w.heap.size + 1 + 1) u0 u1 u2 u3 u4) w.heap.size ⟨A3, c3, A4, c4⟩ ⟨false, cr, dr⟩) := fun u0 u1 u2 u3 u4 =>
            ⟨(((HN3.out.calm (HC9.out.alloc _)).mono (show w1.heap.size ≤ _ from hsz5)).set5 hsz _ _ _ _ _).mono (by omega), (((hN4.calm ((Calm.refl _).alloc _)).mono (show w1.heap.size ≤ _ from hsz7)).set5 hsz _ _ _ _ _).mono (by omega)⟩
          have hm := HNb.out.calm (HC9.out.alloc (.cells #[.slice A4 dn c4, .bool dt] 38))
          have m0 := hm.c0
          have m1 := hm.c1
          have hn := TwoB.new w8 (.slice A4 dn c4) (.bool dt) 38
          have n0 := hn.c0
          have n1 := hn.c1
          have hz := HBz.out.calm ((HC7.out.trans HC9.out).alloc (.cells #[.slice A4 dn c4, .bool dt] 38))
          have z0 := hz.c0
          have z1 := hz.c1
          have z2 := hz.c2
          have z3 := hz.c3
          have z4 := hz.c4
          have f0 := hz.fz 0
          have f1 := hz.fz 1
          have f2 := hz.fz 2
          have f3 := hz.fz 3
          have f4 := hz.fz 4
          clear hz h12 h13 hm hn hN4
          go_wp2_with fail
          refine bodyPost_ret (v := .tuple #[.agg #[.bool false, .slice A3 cn c3, .bool ct, .slice A4 dn c4, .bool dt], .bool true, .int .i64 0]) ?_ rfl ⟨.inr ⟨⟨false, cr, dr⟩, ⟨A3, c3, A4, c4⟩, HX2'.out, by unfold ruleV; rw [HN.out.1, HN.out.2.1, HN.out.2.2.1, HN.out.2.2.2], HRu.out _ _ _ _ _⟩, HC8.out _ ((HC7.out.trans HC9.out).alloc _) _ _ _ _ _⟩
          rw [results_cell_tt rfl]
          go_simp
  · have HX := Lib.hid (HX1.out hv0)
    have hv1 : (v == 0) = false := by rw [beq_eq_false_iff_ne]; exact hv0
    have hv2 : (v != 0) = true := by simpa using hv0
    have hz := HBz.out.calm HC3.out
    have z0 := hz.c0
    have z1 := hz.c1
    have z2 := hz.c2
    have z3 := hz.c3
    have z4 := hz.c4
    have f0 := hz.fz 0
    have f1 := hz.fz 1
    have f2 := hz.fz 2
    have f3 := hz.fz 3
    have f4 := hz.fz 4
    clear hz
    go_wp2_with fail
    refine bodyPost_ret (v := .tuple #[.agg #[.bool false, .slice none 0 0, .bool false, .slice none 0 0, .bool false], .bool false, .int .i64 v]) ?_ rfl ⟨.inl (by rw [HX.out]; exact ⟨rfl, rfl⟩), HC8.out _ HC3.out _ _ _ _ _⟩
    rw [results_cell_tt rfl]
    go_simp
end Go.Proofs.YteplgaabicminaaGreatDoor
