/- What Compose's walk wants. -/
import Derived.RangeFuncNested
import Derived.OwnWalkIn
import Derived.Deep.RegionHeld3
import Derived.Sort.CutIn
import Derived.Test.YtdcdabbepnahnaaGreatDoorZNarW
import Derived.Test.YtdcdabbepnahnaaGreatDoorZMapO
import Derived.Test.YtdcdabbepnahnaaGreatDoorZOwn
import Derived.Test.YtdcdabbepnahnaaGreatDoorZConcatP
import Derived.Test.YtdcdabbepnahnaaGreatDoorZCheckW
import Derived.Test.YtdcdabbepnahnaaGreatDoorZPairsW
import Derived.Test.YtdcdabbepnahnaaGreatDoorZKeptA
import Derived.Test.YtdcdabbepnahnaaGreatDoorZPutN
import Derived.Test.YtdcdabbepnahnaaGreatDoorZCompL
import Derived.Test.YtdcdabbepnahnaaGreatDoorZNarRW
set_option linter.unusedVariables false
set_option linter.unusedSimpArgs false
namespace Go.Proofs.YtdcdabbepnahnaaGreatDoor
open Go Go.RowKit Sy

def bothE (r q : Rule) : Int:=if ruleErr r ≠ 0 then ruleErr r else ruleErr q
set_option maxHeartbeats 4000000 in
theorem checkBoth_c (r q : Rule) (a b : Pl) (w : World) (hr : RuleU w a r) (hq : RuleU w b q) :
  Calls Tryz.prog 84 #[ruleV a r,ruleV b q] w fun e w'=>e = .returned (.int .i64 (bothE r q)) ∧ Calm w w':=by
 obtain ⟨nl,hnl⟩ : ∃ nl,r.left.parts.length = nl:=⟨_,rfl⟩
 obtain ⟨nr,hnr⟩ : ∃ nr,r.right.parts.length = nr:=⟨_,rfl⟩
 obtain ⟨lr,hlr⟩ : ∃ lr,r.left.rest = lr:=⟨_,rfl⟩
 obtain ⟨rr,hrr⟩ : ∃ rr,r.right.rest = rr:=⟨_,rfl⟩
 obtain ⟨ex,hex⟩ : ∃ ex,r.excl = ex:=⟨_,rfl⟩
 obtain ⟨ql,hql⟩ : ∃ ql,q.left.parts.length = ql:=⟨_,rfl⟩
 obtain ⟨qr,hqr⟩ : ∃ qr,q.right.parts.length = qr:=⟨_,rfl⟩
 obtain ⟨kl,hkl⟩ : ∃ kl,q.left.rest = kl:=⟨_,rfl⟩
 obtain ⟨kr,hkr⟩ : ∃ kr,q.right.rest = kr:=⟨_,rfl⟩
 obtain ⟨qx,hqx⟩ : ∃ qx,q.excl = qx:=⟨_,rfl⟩
 obtain ⟨w1,hw1⟩ : ∃ w1,w1 = (w.alloc (.cells #[.bool ex,.slice a.AL nl a.cl,.bool lr,.slice a.AR nr a.cr,.bool rr] 69)).alloc (.cells #[.bool qx,.slice b.AL ql b.cl,.bool kl,.slice b.AR qr b.cr,.bool kr] 69):=⟨_,rfl⟩
 have hc1 : Calm w w1:=by rw [hw1];exact ((Calm.refl w).alloc _).alloc _
 have hbr : FiveB w1 w.heap.size (.bool ex) (.slice a.AL nl a.cl) (.bool lr) (.slice a.AR nr a.cr) (.bool rr):=by
  rw [hw1]
  exact (FiveB.new w _ _ _ _ _ _).calm ((Calm.refl _).alloc _)
 have hbq : FiveB w1 (w.heap.size + 1) (.bool qx) (.slice b.AL ql b.cl) (.bool kl) (.slice b.AR qr b.cr) (.bool kr):=by
  rw [hw1]
  have:=FiveB.new (w.alloc (.cells #[.bool ex,.slice a.AL nl a.cl,.bool lr,.slice a.AR nr a.cr,.bool rr] 69)) (.bool qx) (.slice b.AL ql b.cl) (.bool kl) (.slice b.AR qr b.cr) (.bool kr) 69
  simpa using this
 obtain ⟨v,hv⟩ : ∃ v,ruleErr r = v:=⟨_,rfl⟩
 obtain ⟨u,hu⟩ : ∃ u,ruleErr q = u:=⟨_,rfl⟩
 have KR : Hid (∀ W,Calm w1 W → Calls Tryz.prog 72 #[.agg #[.bool ex,.slice a.AL nl a.cl,.bool lr,.slice a.AR nr a.cr,.bool rr]] W fun e w'=>e = .returned (.int .i64 v) ∧ Calm W w'):=fun W hW=>by
  have:=rule_c r a W ((hr.calm hc1).calm hW)
  unfold ruleV at this
  rw [hnl,hnr,hlr,hrr,hex,hv] at this
  exact this
 have KQ : Hid (∀ W,Calm w1 W → Calls Tryz.prog 72 #[.agg #[.bool qx,.slice b.AL ql b.cl,.bool kl,.slice b.AR qr b.cr,.bool kr]] W fun e w'=>e = .returned (.int .i64 u) ∧ Calm W w'):=fun W hW=>by
  have:=rule_c q b W ((hq.calm hc1).calm hW)
  unfold ruleV at this
  rw [hql,hqr,hkl,hkr,hqx,hu] at this
  exact this
 have HX1 : Hid (v ≠ 0 → bothE r q = v):=fun h=>by
  unfold bothE
  rw [hv,if_pos h]
 have HX2 : Hid (v = 0 → bothE r q = u):=fun h=>by
  unfold bothE
  rw [hv,if_neg (by simpa using h),hu]
 have HW:=Lib.hid hw1
 have HC:=Lib.hid hc1
 have HBr:=Lib.hid hbr
 have HBq:=Lib.hid hbq
 unfold ruleV
 rw [hnl,hnr,hlr,hrr,hex,hql,hqr,hkl,hkr,hqx]
 clear hw1 hc1 hbr hbq hr hq hnl hnr hlr hrr hex hql hqr hkl hkr hqx hv hu
 go_enter Tryz.func84,Tryz.ntmps84
 have b:=HBr.out
 have b0:=b.c0
 have b1:=b.c1
 have b2:=b.c2
 have b3:=b.c3
 have b4:=b.c4
 clear b
 go_wp2_with fail
 rw [← HW.out]
 refine (KR.out w1 (Calm.refl _)).mono ?_
 rintro e w2 ⟨rfl,hc2⟩
 clear b0 b1 b2 b3 b4
 have HC2:=Lib.hid hc2
 by_cases hv0 : v = 0
 ·subst hv0
  have b:=HBq.out.calm hc2
  have b0:=b.c0
  have b1:=b.c1
  have b2:=b.c2
  have b3:=b.c3
  have b4:=b.c4
  clear b hc2
  go_wp2_with fail
  refine (KQ.out w2 HC2.out).mono ?_
  rintro e w3 ⟨rfl,hc3⟩
  go_wp2_with fail
  go_ret
  exact ⟨by rw [HX2.out (by trivial)];rfl,HC.out.trans (HC2.out.trans hc3)⟩
 ·have hv1 : (v != 0) = true:=by simpa using hv0
  have hv2 : (v == 0) = false:=by rw [beq_eq_false_iff_ne];exact hv0
  have HX:=Lib.hid (HX1.out hv0)
  clear hc2 hv0
  go_wp2_with fail
  go_ret
  exact ⟨by rw [HX.out];rfl,HC.out.trans HC2.out⟩
set_option maxHeartbeats 16000000 in
theorem chain_c (r q : Rule) (a b : Pl) (w : World) (hr : RuleU w a r) (hs : SmallR r) (hq : RuleU w b q) (ht : SmallR q) :
  Calls Tryz.prog 46 #[ruleV a r,ruleV b q] w fun e w'=>NarEnd (chainE r q) w.heap.size e w' ∧ Calm w w':=by
 obtain ⟨nl,hnl⟩ : ∃ nl,r.left.parts.length = nl:=⟨_,rfl⟩
 obtain ⟨nr,hnr⟩ : ∃ nr,r.right.parts.length = nr:=⟨_,rfl⟩
 obtain ⟨lr,hlr⟩ : ∃ lr,r.left.rest = lr:=⟨_,rfl⟩
 obtain ⟨rr,hrr⟩ : ∃ rr,r.right.rest = rr:=⟨_,rfl⟩
 obtain ⟨ex,hex⟩ : ∃ ex,r.excl = ex:=⟨_,rfl⟩
 obtain ⟨ql,hql⟩ : ∃ ql,q.left.parts.length = ql:=⟨_,rfl⟩
 obtain ⟨qr,hqr⟩ : ∃ qr,q.right.parts.length = qr:=⟨_,rfl⟩
 obtain ⟨kl,hkl⟩ : ∃ kl,q.left.rest = kl:=⟨_,rfl⟩
 obtain ⟨kr,hkr⟩ : ∃ kr,q.right.rest = kr:=⟨_,rfl⟩
 obtain ⟨qx,hqx⟩ : ∃ qx,q.excl = qx:=⟨_,rfl⟩
 obtain ⟨w1,hw1⟩ : ∃ w1,w1 = ((w.alloc (.cells #[.bool ex,.slice a.AL nl a.cl,.bool lr,.slice a.AR nr a.cr,.bool rr] 69)).alloc (.cells #[.bool qx,.slice b.AL ql b.cl,.bool kl,.slice b.AR qr b.cr,.bool kr] 69)).alloc (.cells #[.bool false,.slice none 0 0,.bool false,.slice none 0 0,.bool false] 69):=⟨_,rfl⟩
 have hc1 : Calm w w1:=by rw [hw1];exact (((Calm.refl w).alloc _).alloc _).alloc _
 have hbr : FiveB w1 w.heap.size (.bool ex) (.slice a.AL nl a.cl) (.bool lr) (.slice a.AR nr a.cr) (.bool rr):=by
  rw [hw1]
  exact (FiveB.new w _ _ _ _ _ _).calm (((Calm.refl _).alloc _).alloc _)
 have hbq : FiveB w1 (w.heap.size + 1) (.bool qx) (.slice b.AL ql b.cl) (.bool kl) (.slice b.AR qr b.cr) (.bool kr):=by
  rw [hw1]
  have:=(FiveB.new (w.alloc (.cells #[.bool ex,.slice a.AL nl a.cl,.bool lr,.slice a.AR nr a.cr,.bool rr] 69)) (.bool qx) (.slice b.AL ql b.cl) (.bool kl) (.slice b.AR qr b.cr) (.bool kr) 69).calm ((Calm.refl _).alloc (.cells #[.bool false,.slice none 0 0,.bool false,.slice none 0 0,.bool false] 69))
  simpa using this
 have hbz : FiveB w1 (w.heap.size + 1 + 1) (.bool false) (.slice none 0 0) (.bool false) (.slice none 0 0) (.bool false):=by
  rw [hw1]
  have:=FiveB.new ((w.alloc (.cells #[.bool ex,.slice a.AL nl a.cl,.bool lr,.slice a.AR nr a.cr,.bool rr] 69)).alloc (.cells #[.bool qx,.slice b.AL ql b.cl,.bool kl,.slice b.AR qr b.cr,.bool kr] 69)) (.bool false) (.slice none 0 0) (.bool false) (.slice none 0 0) (.bool false) 69
  simpa using this
 obtain ⟨v,hv⟩ : ∃ v,bothE r q = v:=⟨_,rfl⟩
 have KB : Hid (∀ W,Calm w1 W → Calls Tryz.prog 84 #[.agg #[.bool ex,.slice a.AL nl a.cl,.bool lr,.slice a.AR nr a.cr,.bool rr],.agg #[.bool qx,.slice b.AL ql b.cl,.bool kl,.slice b.AR qr b.cr,.bool kr]] W fun e w'=>e = .returned (.int .i64 v) ∧ Calm W w'):=fun W hW=>by
  have:=checkBoth_c r q a b W ((hr.calm hc1).calm hW) ((hq.calm hc1).calm hW)
  unfold ruleV at this
  rw [hnl,hnr,hlr,hrr,hex,hql,hqr,hkl,hkr,hqx,hv] at this
  exact this
 have hv0 : v = 0 → ruleErr r = 0 ∧ ruleErr q = 0:=fun h=>by
  unfold bothE at hv
  by_cases h1 : ruleErr r ≠ 0
  ·rw [if_pos h1] at hv
   exact absurd (hv.trans h) h1
  ·rw [if_neg h1] at hv
   exact ⟨by simpa using h1,hv.trans h⟩
 have hal : PatA w a.AL a.cl r.left:=⟨hr.left hs,hr.lroom,hr.lcap⟩
 have har : PatA w a.AR a.cr r.right:=⟨hr.right hs,hr.rroom,hr.rcap⟩
 have hbl : PatA w b.AL b.cl q.left:=⟨hq.left ht,hq.lroom,hq.lcap⟩
 have hbr2 : PatA w b.AR b.cr q.right:=⟨hq.right ht,hq.rroom,hq.rcap⟩
 have KM1 : Hid (∀ m,v = 0 → meetP r.right q.left = some m → ∀ W,Calm w1 W → Calls Tryz.prog 75 #[.agg #[.slice a.AR nr a.cr,.bool rr],.agg #[.slice b.AL ql b.cl,.bool kl]] W fun e w'=>(∃ A2 c2,e = .returned (.tuple #[.agg #[.slice A2 m.parts.length c2,.bool m.rest],.bool true]) ∧ SmallN w' W.heap.size ⟨A2,c2,m⟩) ∧ Calm W w'):=fun m h0 hm W hW=>by
  have:=meet_yes r.right q.left m a.AR b.AL a.cr b.cl W ((har.calm hc1).calm hW) ((hbl.calm hc1).calm hW) (ruleErr_twin.1 (hv0 h0).1).rp (ruleErr_twin.1 (hv0 h0).2).lp hm
  rw [hnr,hrr,hql,hkl] at this
  exact this
 have KM0 : Hid (v = 0 → meetP r.right q.left = none → ∀ W,Calm w1 W → Calls Tryz.prog 75 #[.agg #[.slice a.AR nr a.cr,.bool rr],.agg #[.slice b.AL ql b.cl,.bool kl]] W fun e w'=>e = .returned (.tuple #[.agg #[.slice none 0 0,.bool false],.bool false]) ∧ Calm W w'):=fun h0 hm W hW=>by
  have:=meet_no r.right q.left a.AR b.AL a.cr b.cl W ((har.calm hc1).calm hW) ((hbl.calm hc1).calm hW) (ruleErr_twin.1 (hv0 h0).1).rp (ruleErr_twin.1 (hv0 h0).2).lp hm
  rw [hnr,hrr,hql,hkl] at this
  exact this
 have KC : Hid (∀ m,v = 0 → meetP r.right q.left = some m → ∀ W A2 c2,Calm w1 W → PatA W A2 c2 m → Calls Tryz.prog 85 #[.agg #[.slice a.AR nr a.cr,.bool rr],.agg #[.slice A2 m.parts.length c2,.bool m.rest],.agg #[.slice a.AL nl a.cl,.bool lr]] W fun e w'=>CarryEnd (carryP r.right r.left m) W.heap.size e w' ∧ Calm W w'):=fun m h0 hm W A2 c2 hW hPm=>
  carry_c r.right m r.left nr m.parts.length nl a.cr c2 a.cl rr m.rest lr a.AR A2 a.AL W (inner_meet (r:=⟨false,r.right,r.left⟩) (ruleErr_twin.2 (ruleErr_twin.1 (hv0 h0).1).turn) hm) ((har.calm hc1).calm hW) hPm ((hal.calm hc1).calm hW) hnr rfl hnl hrr rfl hlr
 have KD : Hid (∀ m,v = 0 → meetP r.right q.left = some m → ∀ W A2 c2,Calm w1 W → PatA W A2 c2 m → Calls Tryz.prog 85 #[.agg #[.slice b.AL ql b.cl,.bool kl],.agg #[.slice A2 m.parts.length c2,.bool m.rest],.agg #[.slice b.AR qr b.cr,.bool kr]] W fun e w'=>CarryEnd (carryP q.left q.right m) W.heap.size e w' ∧ Calm W w'):=fun m h0 hm W A2 c2 hW hPm=>
  carry_c q.left m q.right ql m.parts.length qr b.cl c2 b.cr kl m.rest kr b.AL A2 b.AR W (inner_meet (hv0 h0).2 ((meetP_comm _ _).trans hm)) ((hbl.calm hc1).calm hW) hPm ((hbr2.calm hc1).calm hW) hql rfl hqr hkl rfl hkr
 have HX1 : Hid (v ≠ 0 → chainE r q = (none,v)):=fun h=>by
  unfold chainE
  unfold bothE at hv
  by_cases h1 : ruleErr r ≠ 0
  ·rw [if_pos h1] at hv ⊢
   rw [hv]
  ·rw [if_neg h1] at hv ⊢
   rw [hv,if_pos h]
 have HX3 : Hid (v = 0 → meetP r.right q.left = none → chainE r q = (none,0)):=fun h hm=>by
  unfold chainE
  rw [if_neg (by simpa using (hv0 h).1),if_neg (by simpa using (hv0 h).2),hm]
 have HX4 : Hid (∀ m,v = 0 → meetP r.right q.left = some m → chainE r q = if 12 < (carryP r.right r.left m).parts.length ∨ 12 < (carryP q.left q.right m).parts.length then (none,43) else (some ⟨false,carryP r.right r.left m,carryP q.left q.right m⟩,0)):=fun m h hm=>by
  unfold chainE
  rw [if_neg (by simpa using (hv0 h).1),if_neg (by simpa using (hv0 h).2),hm]
 have HW:=Lib.hid hw1
 have HC:=Lib.hid hc1
 have HBr:=Lib.hid hbr
 have HBq:=Lib.hid hbq
 have HBz:=Lib.hid hbz
 have hsz : w.heap.size + 1 + 1 < w1.heap.size:=hbz.lt
 unfold ruleV
 rw [hnl,hnr,hlr,hrr,hex,hql,hqr,hkl,hkr,hqx]
 clear hw1 hc1 hbr hbq hbz hr hs hq ht hnl hnr hlr hrr hex hql hqr hkl hkr hqx hv hv0 hal har hbl hbr2
 have HC8 : Hid (∀ W,Calm w1 W → ∀ u0 u1 u2 u3 u4,Calm w (set5 W (w.heap.size + 1 + 1) u0 u1 u2 u3 u4)):=fun W hW u0 u1 u2 u3 u4=>calm5 (HC.out.trans hW) (by omega) _ _ _ _ _
 go_enter Tryz.func46,Tryz.ntmps46
 have b:=HBr.out
 have b0:=b.c0
 have b1:=b.c1
 have b2:=b.c2
 have b3:=b.c3
 have b4:=b.c4
 have b:=HBq.out
 have d0:=b.c0
 have d1:=b.c1
 have d2:=b.c2
 have d3:=b.c3
 have d4:=b.c4
 clear b
 go_wp2_with fail
 rw [← HW.out]
 refine (KB.out w1 (Calm.refl _)).mono ?_
 rintro e w3 ⟨rfl,hc3⟩
 clear b0 b1 b2 b3 b4 d0 d1 d2 d3 d4
 have HC3:=Lib.hid hc3
 clear hc3
 by_cases hv0 : v = 0
 ·subst hv0
  have b:=HBr.out.calm HC3.out
  have b3:=b.c3
  have b4:=b.c4
  have b:=HBq.out.calm HC3.out
  have d1:=b.c1
  have d2:=b.c2
  clear b
  rcases hmm : meetP r.right q.left with _ | m
  ·have HX:=Lib.hid (HX3.out (by trivial) hmm)
   have KM:=Lib.hid (KM0.out (by trivial) hmm w3 HC3.out)
   clear hmm
   go_wp2_with fail
   refine KM.out.mono ?_
   rintro e w4 ⟨rfl,hc4⟩
   have hz:=HBz.out.calm ((HC3.out.trans hc4).alloc (.cells #[.slice none 0 0,.bool false] 51))
   have z0:=hz.c0
   have z1:=hz.c1
   have z2:=hz.c2
   have z3:=hz.c3
   have z4:=hz.c4
   have f0:=hz.fz 0
   have f1:=hz.fz 1
   have f2:=hz.fz 2
   have f3:=hz.fz 3
   have f4:=hz.fz 4
   have HC4 : Hid (Calm w1 w4):=HC3.out.trans hc4
   clear hz hc4 b3 b4 d1 d2
   go_wp2_with fail
   refine bodyPost_ret (v:=.tuple #[.agg #[.bool false,.slice none 0 0,.bool false,.slice none 0 0,.bool false],.bool false,.int .i64 0]) ?_ rfl ⟨.inl (by rw [HX.out];exact ⟨rfl,rfl⟩),HC8.out _ (HC4.out.alloc _) _ _ _ _ _⟩
   rw [results_cell_tt rfl]
   go_simp
  ·have hx:=HX4.out m (by trivial) hmm
   have KM:=Lib.hid (KM1.out m (by trivial) hmm w3 HC3.out)
   have KCm:=Lib.hid (KC.out m (by trivial) hmm)
   have KDm:=Lib.hid (KD.out m (by trivial) hmm)
   clear hmm
   obtain ⟨cr,hcr⟩ : ∃ cr,carryP r.right r.left m = cr:=⟨_,rfl⟩
   obtain ⟨dr,hdr⟩ : ∃ dr,carryP q.left q.right m = dr:=⟨_,rfl⟩
   rw [hcr,hdr] at hx
   rw [hcr] at KCm
   rw [hdr] at KDm
   obtain ⟨mn,hmn⟩ : ∃ mn,m.parts.length = mn:=⟨_,rfl⟩
   obtain ⟨mr,hmr⟩ : ∃ mr,m.rest = mr:=⟨_,rfl⟩
   obtain ⟨cn,hcn⟩ : ∃ cn,cr.parts.length = cn:=⟨_,rfl⟩
   obtain ⟨ct,hct⟩ : ∃ ct,cr.rest = ct:=⟨_,rfl⟩
   obtain ⟨dn,hdn⟩ : ∃ dn,dr.parts.length = dn:=⟨_,rfl⟩
   obtain ⟨dt,hdt⟩ : ∃ dt,dr.rest = dt:=⟨_,rfl⟩
   rw [hmn,hmr] at KM KCm KDm
   have HN:=Lib.hid (And.intro hcn (And.intro hct (And.intro hdn hdt)))
   rw [hcn,hdn] at hx
   have HX:=Lib.hid hx
   clear hx hcr hdr hmn hmr hcn hct hdn hdt
   go_wp2_with fail
   refine KM.out.mono ?_
   rintro e w4 ⟨⟨A2,c2,rfl,hSm⟩,hc4⟩
   clear b3 b4 d1 d2
   have HC5 : Hid (Calm w1 (w4.alloc (.cells #[.slice A2 mn c2,.bool mr] 51))):=(HC3.out.trans hc4).alloc _
   have hm:=TwoB.new w4 (.slice A2 mn c2) (.bool mr) 51
   have HSm : Hid (SmallN (w4.alloc (.cells #[.slice A2 mn c2,.bool mr] 51)) w3.heap.size ⟨A2,c2,m⟩):=hSm.calm ((Calm.refl _).alloc _)
   have b:=HBr.out.calm HC5.out
   have b1:=b.c1
   have b2:=b.c2
   have b3:=b.c3
   have b4:=b.c4
   have m0:=hm.c0
   have m1:=hm.c1
   have HMb:=Lib.hid hm
   clear b hm hSm hc4
   go_wp2_with fail
   obtain ⟨w5,hw5⟩ : ∃ w5,w5 = w4.alloc (.cells #[.slice A2 mn c2,.bool mr] 51):=⟨_,rfl⟩
   rw [← hw5] at HC5 HMb HSm ⊢
   obtain ⟨M,hM⟩ : ∃ M,w4.heap.size = M:=⟨_,rfl⟩
   rw [hM] at HMb
   simp only [hM]
   clear hw5 hM b1 b2 b3 b4 m0 m1
   refine (KCm.out w5 A2 c2 HC5.out HSm.out.a).mono ?_
   rintro e w6 ⟨hE,hc6⟩
   have HC6 : Hid (Calm w5 w6):=hc6
   clear hc6
   rcases hE with ⟨h12,rfl⟩ | ⟨h12,A3,c3,rfl,hN3⟩
   ·rw [HN.out.1] at h12
    have HX2' : Hid (chainE r q = (none,43)):=by
     show _ = _
     rw [HX.out,if_pos (.inl h12)]
    have hz:=HBz.out.calm ((HC5.out.trans HC6.out).alloc (.cells #[.slice none 0 0,.bool false] 51))
    have z0:=hz.c0
    have z1:=hz.c1
    have z2:=hz.c2
    have z3:=hz.c3
    have z4:=hz.c4
    have f0:=hz.fz 0
    have f1:=hz.fz 1
    have f2:=hz.fz 2
    have f3:=hz.fz 3
    have f4:=hz.fz 4
    clear hz h12
    go_wp2_with fail
    refine bodyPost_ret (v:=.tuple #[.agg #[.bool false,.slice none 0 0,.bool false,.slice none 0 0,.bool false],.bool false,.int .i64 43]) ?_ rfl ⟨.inl (by rw [HX2'.out];exact ⟨rfl,rfl⟩),HC8.out _ ((HC5.out.trans HC6.out).alloc _) _ _ _ _ _⟩
    rw [results_cell_tt rfl]
    go_simp
   ·rw [HN.out.1] at h12
    rw [HN.out.1,HN.out.2.1]
    have HC7 : Hid (Calm w1 (w6.alloc (.cells #[.slice A3 cn c3,.bool ct] 51))):=(HC5.out.trans HC6.out).alloc _
    have hsz5 : w1.heap.size ≤ w5.heap.size:=HC5.out.size
    have HN3 : Hid (NewS (w6.alloc (.cells #[.slice A3 cn c3,.bool ct] 51)) w5.heap.size A3 c3 cr.parts):=hN3.calm ((Calm.refl _).alloc _)
    have hn:=TwoB.new w6 (.slice A3 cn c3) (.bool ct) 51
    have HNb:=Lib.hid hn
    have HS7 : Hid (PatA (w6.alloc (.cells #[.slice A3 cn c3,.bool ct] 51)) A2 c2 m):=(HSm.out.calm (HC6.out.alloc _)).a
    have hm:=HMb.out.calm (HC6.out.alloc (.cells #[.slice A3 cn c3,.bool ct] 51))
    have m0:=hm.c0
    have m1:=hm.c1
    have b:=HBq.out.calm HC7.out
    have d1:=b.c1
    have d2:=b.c2
    have d3:=b.c3
    have d4:=b.c4
    clear b hm hn hN3
    go_wp2_with fail
    obtain ⟨w7,hw7⟩ : ∃ w7,w7 = w6.alloc (.cells #[.slice A3 cn c3,.bool ct] 51):=⟨_,rfl⟩
    rw [← hw7] at HC7 HNb HN3 HS7 ⊢
    obtain ⟨O,hO⟩ : ∃ O,w6.heap.size = O:=⟨_,rfl⟩
    rw [hO] at HNb
    simp only [hO]
    clear hw7 hO d1 d2 d3 d4 m0 m1
    refine (KDm.out w7 A2 c2 HC7.out HS7.out).mono ?_
    rintro e w8 ⟨hE,hc8⟩
    have HC9 : Hid (Calm w7 w8):=hc8
    clear hc8
    rcases hE with ⟨h13,rfl⟩ | ⟨h13,A4,c4,rfl,hN4⟩
    ·rw [HN.out.2.2.1] at h13
     have HX2' : Hid (chainE r q = (none,43)):=by
      show _ = _
      rw [HX.out,if_pos (.inr h13)]
     have hz:=HBz.out.calm ((HC7.out.trans HC9.out).alloc (.cells #[.slice none 0 0,.bool false] 51))
     have z0:=hz.c0
     have z1:=hz.c1
     have z2:=hz.c2
     have z3:=hz.c3
     have z4:=hz.c4
     have f0:=hz.fz 0
     have f1:=hz.fz 1
     have f2:=hz.fz 2
     have f3:=hz.fz 3
     have f4:=hz.fz 4
     clear hz h12 h13
     go_wp2_with fail
     refine bodyPost_ret (v:=.tuple #[.agg #[.bool false,.slice none 0 0,.bool false,.slice none 0 0,.bool false],.bool false,.int .i64 43]) ?_ rfl ⟨.inl (by rw [HX2'.out];exact ⟨rfl,rfl⟩),HC8.out _ ((HC7.out.trans HC9.out).alloc _) _ _ _ _ _⟩
     rw [results_cell_tt rfl]
     go_simp
    ·rw [HN.out.2.2.1] at h13
     have HX2' : Hid (chainE r q = (some ⟨false,cr,dr⟩,0)):=by
      show _ = _
      rw [HX.out,if_neg (by omega)]
     rw [HN.out.2.2.1,HN.out.2.2.2]
     have hsz7 : w1.heap.size ≤ w7.heap.size:=HC7.out.size
     have HRu : Hid (∀ u0 u1 u2 u3 u4,RuleN (set5 (w8.alloc (.cells #[.slice A4 dn c4,.bool dt] 51)) (w.heap.size + 1 + 1) u0 u1 u2 u3 u4) w.heap.size ⟨A3,c3,A4,c4⟩ ⟨false,cr,dr⟩):=fun u0 u1 u2 u3 u4=>
      ⟨(((HN3.out.calm (HC9.out.alloc _)).mono (show w1.heap.size ≤ _ from hsz5)).set5 hsz _ _ _ _ _).mono (by omega),(((hN4.calm ((Calm.refl _).alloc _)).mono (show w1.heap.size ≤ _ from hsz7)).set5 hsz _ _ _ _ _).mono (by omega)⟩
     have hm:=HNb.out.calm (HC9.out.alloc (.cells #[.slice A4 dn c4,.bool dt] 51))
     have m0:=hm.c0
     have m1:=hm.c1
     have hn:=TwoB.new w8 (.slice A4 dn c4) (.bool dt) 51
     have n0:=hn.c0
     have n1:=hn.c1
     have hz:=HBz.out.calm ((HC7.out.trans HC9.out).alloc (.cells #[.slice A4 dn c4,.bool dt] 51))
     have z0:=hz.c0
     have z1:=hz.c1
     have z2:=hz.c2
     have z3:=hz.c3
     have z4:=hz.c4
     have f0:=hz.fz 0
     have f1:=hz.fz 1
     have f2:=hz.fz 2
     have f3:=hz.fz 3
     have f4:=hz.fz 4
     clear hz h12 h13 hm hn hN4
     go_wp2_with fail
     refine bodyPost_ret (v:=.tuple #[.agg #[.bool false,.slice A3 cn c3,.bool ct,.slice A4 dn c4,.bool dt],.bool true,.int .i64 0]) ?_ rfl ⟨.inr ⟨⟨false,cr,dr⟩,⟨A3,c3,A4,c4⟩,HX2'.out,by unfold ruleV;rw [HN.out.1,HN.out.2.1,HN.out.2.2.1,HN.out.2.2.2],HRu.out _ _ _ _ _⟩,HC8.out _ ((HC7.out.trans HC9.out).alloc _) _ _ _ _ _⟩
     rw [results_cell_tt rfl]
     go_simp
 ·have HX:=Lib.hid (HX1.out hv0)
  have hv1 : (v == 0) = false:=by rw [beq_eq_false_iff_ne];exact hv0
  have hv2 : (v != 0) = true:=by simpa using hv0
  have hz:=HBz.out.calm HC3.out
  have z0:=hz.c0
  have z1:=hz.c1
  have z2:=hz.c2
  have z3:=hz.c3
  have z4:=hz.c4
  have f0:=hz.fz 0
  have f1:=hz.fz 1
  have f2:=hz.fz 2
  have f3:=hz.fz 3
  have f4:=hz.fz 4
  clear hz
  go_wp2_with fail
  refine bodyPost_ret (v:=.tuple #[.agg #[.bool false,.slice none 0 0,.bool false,.slice none 0 0,.bool false],.bool false,.int .i64 v]) ?_ rfl ⟨.inl (by rw [HX.out];exact ⟨rfl,rfl⟩),HC8.out _ HC3.out _ _ _ _ _⟩
  rw [results_cell_tt rfl]
  go_simp
end Go.Proofs.YtdcdabbepnahnaaGreatDoor
set_option linter.unusedVariables false
set_option linter.unusedSimpArgs false
namespace Go.Proofs.YtdcdabbepnahnaaGreatDoor
open Go Go.RowKit
def noDefer (ops : Array Oper) : Bool:=ops.all fun o=>match o.op with
 |.defer _=>false
 |_=>true
theorem noDefer_spec {ops : Array Oper} (h : noDefer ops = true) {i : Nat} {o : Oper} (ho : ops[i]? = some o) : ∀ c,o.op ≠ .defer c:=by
 intro c hc
 obtain ⟨hi,rfl⟩:=Array.getElem?_eq_some_iff.1 ho
 have:=Array.all_eq_true.1 h i hi
 rw [hc] at this
 cases this
theorem oper_round {l n : Nat} {P : Program} {o : Oper} {a : Act} {w : World} {K : Act → World → Prop} {Q : Exit → Act → World → Prop} (hd : ∀ c,o.op ≠ .defer c) (h : o.wp P a w K Q) : o.wpIn (Fence.wide.inRound l) n P a w K Q:=by
 unfold Oper.wp at h
 refine ⟨fun _ _=>trivial,?_⟩
 rw [Oper.semAt_plain (Fence.wide.inRound l) _ _ hd]
 generalize (execOp a.eval o).run P w = r at *
 cases r with
 |ok x w'=>
  cases x <;> simp only [Oper.upon,Oper.uponIn] at h ⊢
  case enter f args=>exact ⟨(fun h9=>absurd h9 (by simp [Fence.wide])),CallsIn.inRound l (callsIn_wide.2 h)⟩
  case row row args=>
   refine ⟨(fun h9=>absurd h9 (by simp [Fence.wide])),fun c cs _=>?_⟩
   obtain ⟨v,w2,r,s⟩:=h c cs
   exact ⟨v,w2,r,stepsIn_wide.2 s⟩
  all_goals exact h
 |halt x w'=>cases x <;> simp only [Oper.upon,Oper.uponIn] at h ⊢ <;> exact h
theorem wpOp_round {l n i : Nat} {P : Program} {ops : Array Oper} {a : Act} {w : World} {K : Act → World → Prop} {Q : Exit → Act → World → Prop} (hn : noDefer ops = true) (hq : ¬ LetsOut Q) (h : wpOp P ops Q i K a w) : wpOpIn (Fence.wide.inRound l) n P ops Q i K a w:=by
 unfold wpOp at h
 unfold wpOpIn
 cases ho : ops[i]? with
 |none=>rw [ho] at h;exact h
 |some o=>
  rw [ho] at h
  simp only at h ⊢
  by_cases hw : Region.wanted o (yielded ops a.tmps) = true
  ·rw [if_pos hw] at h ⊢
   exact oper_round (noDefer_spec hn ho) (h.resolve_right fun h2=>hq h2.2)
  ·rw [if_neg hw] at h ⊢
   exact ⟨fun _ _=>trivial,h⟩
theorem wpAny_round {l n : Nat} {P : Program} {md : Region.Mode} {ops : Array Oper} {Q : Exit → Act → World → Prop} (hn : noDefer ops = true) (hq : ¬ LetsOut Q) : ∀ (fuel : Nat) (listed : Array Bool) (a : Act) (w : World),wpAny P md ops Q fuel listed a w → wpAnyIn (Fence.wide.inRound l) n P md ops Q fuel listed a w
 |0,_,_,_,h=>h
 |fuel + 1,_,_,_,h=>⟨h.1,fun i hi=>wpOpIn_mono (fun a' w' h'=>wpAny_round hn hq fuel _ a' w' h') (wpOp_round hn hq (h.2 i hi))⟩
theorem region_round {l n id : Nat} {P : Program} {ops : Array Oper} {Q : Exit → Act → World → Prop} {S : World → Prop} {a : Act} {w : World} (hm : P.follows .mixedOrders = true) (hn : noDefer ops = true) (hq : ¬ LetsOut Q) (hS : S w.drew)
  (h : S w.drew → wpAnyH P .any ops Q S ops.size (Array.replicate ops.size false) a w.drew) : (Code.region id ops true).wpIn (Fence.wide.inRound l) n P Q a w:=
 wpIn_region_any hm (wpAny_round hn hq _ _ _ _ (wpAny_of_held _ _ _ _ (h hS)))
theorem calls_round {n l : Nat} {P : Program} {f : FuncId} {args : Array Value} {w : World} {R : Ending → World → Prop} (h : Calls P f args w R) : CallsIn (Fence.wide.inRound l) n P f args w R:=CallsIn.inRound l (callsIn_wide.2 h)
end Go.Proofs.YtdcdabbepnahnaaGreatDoor
set_option linter.unusedVariables false
set_option linter.unusedSimpArgs false
namespace Go.Proofs.YtdcdabbepnahnaaGreatDoor
open Go Go.RowKit Sy

theorem own_empty {w : World} : OwnX encP 2 51 w (w.alloc (.cells #[] 51)) (.slice (some ⟨w.heap.size,0,none⟩) 0 0) []:=
 ⟨(Calm.refl w).alloc _,World.ownsRow_made (base:=w.heap.size) (e:=51) (size:=2) w #[] 0 (Nat.le_refl _) (by decide) rfl⟩
def CloneP (w : World) (l : List NewP) (e : Ending) (w' : World) : Prop:=∃ A c,e = .returned (.slice A l.length c) ∧ OwnX encP 2 51 w w' (.slice A l.length c) l
set_option maxRecDepth 100000 in
set_option maxHeartbeats 2000000 in
theorem clonep_c (l : List NewP) (A : Option Addr) (n c : Nat) (w : World) (hX : ReadX encP 2 w A l) (hn : l.length = n) (hle : n ≤ 100000) :
  Calls Tryz.prog 47 #[.slice A n c] w fun e w'=>CloneP w l e w':=by
 have q25 : ∀ (w : World) (a : Option Addr) (n c n' c' : Nat),(binOp .eql 65 (.slice a n c) (.slice none n' c')).run Tryz.prog w = .ok (.bool a.isNone) w:=fun w a n c n' c'=>Lib.run_eql_slice_nil w _ _ a n c n' c' Tryz.underlying65
 cases A with
 |none=>
  have h0 : l = []:=Classical.byContradiction fun hne=>by
   obtain ⟨b,o,hA,_⟩:=hX hne
   cases hA
  subst h0
  obtain rfl : 0 = n:=by simpa using hn
  go_enter Tryz.func47,Tryz.ntmps47
  go_wp2
  go_ret
  exact ⟨none,0,rfl,OwnX.nil (Calm.refl w)⟩
 |some ad=>
  have HO:=Lib.hid (own_empty (w:=w))
  have HR:=Lib.hid (ReadX.calm (enc:=encP) hX ((Calm.refl w).alloc (.cells #[] 51)))
  have HN:=Lib.hid hn
  clear hX hn
  go_enter Tryz.func47,Tryz.ntmps47
  go_wp2_with (at_builtin;refine wpList_append_ps rfl (.tmp 5) (.tmp 6) rfl w _ [] l rfl HO.out (some ad) n c rfl HN.out HR.out (by simp;omega) ?_;intro v6 w6 hown6 hgr6;obtain ⟨A6,c6,hv6⟩:=hown6.len_shape;subst hv6)
  go_ret
  rw [List.nil_append] at hown6
  exact ⟨A6,c6,rfl,hown6⟩

theorem wpListIn_append_ps {r n0 : Nat} {ops : Array Oper} {rest : List Oper} {o : Oper} {a : Act} {Q : Exit → Act → World → Prop} {w : World} (hgd : o.guard = none) (s x : Operand)
  (ho : o.op = .call { callee:=.builtin .append,args:=#[s,x],argTypes:=#[65,65] }) (w0 : World) (v : Value) (l m : List NewP) (hs : a.eval s = v) (hown : OwnX encP 2 51 w0 w v l) (A : Option Addr) (n c : Nat) (hx : a.eval x = .slice A n c) (hm : m.length = n)
  (hrd : ReadX encP 2 w A m) (hl : l.length + n ≤ 1000000)
  (h : ∀ v' w',OwnX encP 2 51 w0 w' v' (l ++ m) → w.grownBy w' v.ownBlock → wpListIn (Fence.wide.inRound r) n0 Tryz.prog ops Q rest (a.put o.dst v') w') : wpListIn (Fence.wide.inRound r) n0 Tryz.prog ops Q (o :: rest) a w:=by
 refine wpListIn_plain hgd fun _ hK=>?_
 obtain ⟨i0,hi0,hz0,hz1,hz2⟩:=info_parts info_patE
 obtain ⟨v',w',hr,h2,h3⟩:=run_append_xs (P:=Tryz.prog) (ty:=o.type) (c:=c) Tryz.underlying65 hi0 hz0 hz1 hz2 rfl (by decide) encP_len encP_one hown hm hrd (by omega) (by decide)
 refine oper_round (by rw [ho];intro c hc;cases hc) ?_
 unfold Oper.wp execOp
 simp only [ho,resolve,invoke,builtin,Sem.run_bind,Sem.run_pure,Result.andThen_ok,List.map_toArray,List.map_cons,List.map_nil,hs,hx]
 rw [hr]
 exact hK _ _ (h v' w' h2 h3)
end Go.Proofs.YtdcdabbepnahnaaGreatDoor
set_option linter.unusedVariables false
set_option linter.unusedSimpArgs false
namespace Go.Proofs.YtdcdabbepnahnaaGreatDoor
open Go Go.RowKit Sy

def bothM (es fs : List Ent) : Int:=if (mapE es).2 ≠ 0 then (mapE es).2 else (mapE fs).2
set_option maxHeartbeats 4000000 in
theorem check2_c (es fs : List Ent) (n c n2 c2 g : Nat) (A A2 : Option Addr) (er : Int) (w : World) (h : EntsA w A es) (hcn : n ≤ c) (hcc : c ≤ 9223372036854775807) (hs : ∀ x ∈ es,SmallE x) (hn : es.length = n)
  (h2 : EntsA w A2 fs) (hcn2 : n2 ≤ c2) (hcc2 : c2 ≤ 9223372036854775807) (hs2 : ∀ x ∈ fs,SmallE x) (hn2 : fs.length = n2) (hr : bothM es fs = er) (k0 : w.cell? ⟨g,0,none⟩ = some (.slice A n c)) (k1 : w.cell? ⟨g,1,none⟩ = some (.slice A2 n2 c2)) (hg : g < w.heap.size) :
  Calls Tryz.prog 36 #[.slice (some ⟨g,0,none⟩) 2 2] w fun e w'=>e = .returned (.int .i64 er) ∧ Calm w w':=by
 obtain ⟨ix,hix⟩ : ∃ ix,(mapE es).1 = ix:=⟨_,rfl⟩
 obtain ⟨iy,hiy⟩ : ∃ iy,(mapE fs).1 = iy:=⟨_,rfl⟩
 obtain ⟨ea,hea⟩ : ∃ ea,(mapE es).2 = ea:=⟨_,rfl⟩
 obtain ⟨eb,heb⟩ : ∃ eb,(mapE fs).2 = eb:=⟨_,rfl⟩
 have KC:=check_c es n c A w h hcn hcc hs hn
 rw [hea,hix] at KC
 have HKC:=Lib.hid KC
 have HKD : Hid (∀ W,Calm w W → Calls Tryz.prog 14 #[.slice A2 n2 c2] W fun e w'=>e = .returned (.tuple #[.int .i64 (iy : Nat),.int .i64 eb]) ∧ Calm W w'):=fun W hW=>by
  have:=check_c fs n2 c2 A2 W (h2.calm hW) hcn2 hcc2 hs2 hn2
  rw [heb,hiy] at this
  exact this
 have HE0 : ea ≠ 0 → Hid (er = ea):=fun h0=>by
  show er = ea
  rw [← hr,bothM,hea,if_pos h0]
 have HE1 : ea = 0 → Hid (er = eb):=fun h0=>by
  show er = eb
  rw [← hr,bothM,hea,if_neg (by simpa using h0),heb]
 have HK1:=Lib.hid (And.intro k1 hg)
 clear h hs hn h2 hs2 hn2 hr hix hiy hea heb KC k1
 go_enter Tryz.func36,Tryz.ntmps36
 go_wp2_with fail
 go_loopw [9] (fun u wr=>(u = .int .i64 0 ∧ w = wr) ∨ (u = .int .i64 1 ∧ ea = 0 ∧ Hid (Calm w wr)) ∨ (u = .int .i64 2 ∧ ea = 0 ∧ eb = 0 ∧ Hid (Calm w wr))) (fun u _=>2 - (intOf u).toNat)
 case atStart=>exact .inl ⟨rfl,rfl⟩
 case round=>
  rcases hrel with ⟨rfl,rfl⟩ | ⟨rfl,rfl,HC⟩ | ⟨rfl,rfl,rfl,HC⟩
  ·go_wp2_with fail
   refine HKC.out.mono ?_
   rintro e w2 ⟨rfl,hc2⟩
   by_cases h0 : ea = 0
   ·subst h0
    clear HE0 HE1
    go_wp2_with fail
    go_roundw
    case rel=>exact .inr (.inl ⟨by go_num,trivial,hc2⟩)
    case measure=>simp [intOf]
   ·have hb : (ea != 0) = true:=by simpa using h0
    have HE:=HE0 h0
    clear HE0 HE1
    go_wp2_with fail
    go_ret
    exact ⟨by rw [HE.out];rfl,hc2⟩
  ·have k1:=HC.out.at_ HK1.out.1 HK1.out.2
   have HE:=HE1 rfl
   clear HE0 HE1
   go_wp2_with fail
   refine (HKD.out _ HC.out).mono ?_
   rintro e w2 ⟨rfl,hc2⟩
   have HC2 : Hid (Calm w w2):=HC.out.trans hc2
   by_cases h0 : eb = 0
   ·subst h0
    go_wp2_with fail
    go_roundw
    case rel=>exact .inr (.inr ⟨by go_num,trivial,trivial,HC2.out⟩)
    case measure=>simp [intOf]
   ·have hb : (eb != 0) = true:=by simpa using h0
    go_wp2_with fail
    go_ret
    exact ⟨by rw [HE.out];rfl,HC2.out⟩
  ·have HE:=HE1 rfl
   clear HE0 HE1
   go_wp2_with fail
   go_ret
   exact ⟨by rw [HE.out];rfl,HC.out⟩
end Go.Proofs.YtdcdabbepnahnaaGreatDoor
set_option linter.unusedVariables false
set_option linter.unusedSimpArgs false
namespace Go.Proofs.YtdcdabbepnahnaaGreatDoor
open Go Go.RowKit Go.Shelf Sy
attribute [local go_sem] Oper.semAt_some

theorem results_cc {fn : Func} {p q : Tmp} {t1 t2 : TypeId} (h : fn.results = #[.cell p t1,.cell q t2]) (tmps : Array Value) (P : Program) (w : World) :
  (results fn tmps).run P w = ((asAddr (tmps.getD p undef)).run P w).andThen fun a w₁=>((loadVar t1 a).run P w₁).andThen fun v w₂=>((asAddr (tmps.getD q undef)).run P w₂).andThen fun b w₃=>((loadVar t2 b).run P w₃).andThen fun u w₄=>.ok (.tuple #[v,u]) w₄:=by
 simp only [results,h]
 simp [Sem.run_bind,Result.andThen]
def Ent5 (W : World) (b : Nat) (z : NewE) : Prop:=W.heap[b]? = some (.cells #[.slice z.LA z.e.left.parts.length z.lc,.bool z.e.left.rest,.slice z.RA z.e.right.parts.length z.rc,.bool z.e.right.rest,.slice z.HA z.e.hs.length z.hc] 73 (0,0))
theorem Ent5.turn {A B : World} {b : Nat} {z : NewE} (h : Ent5 A b z) (t : Turn A B) : Ent5 B b z:=t.cells _ _ _ _ h
theorem Ent5.calm {A B : World} {b : Nat} {z : NewE} (h : Ent5 A b z) (hc : Calm A B) : Ent5 B b z:=(hc.block _ (heap_lt h)).trans h
theorem Ent5.five {W : World} {b : Nat} {z : NewE} (h : Ent5 W b z) : FiveB W b (.slice z.LA z.e.left.parts.length z.lc) (.bool z.e.left.rest) (.slice z.RA z.e.right.parts.length z.rc) (.bool z.e.right.rest) (.slice z.HA z.e.hs.length z.hc):=
 ⟨heap_lt h,by simp [World.cell?,show W.heap[b]? = _ from h],by simp [World.cell?,show W.heap[b]? = _ from h],by simp [World.cell?,show W.heap[b]? = _ from h],by simp [World.cell?,show W.heap[b]? = _ from h],by simp [World.cell?,show W.heap[b]? = _ from h],fun o=>by simp [World.frozen?,show W.heap[b]? = _ from h]⟩
structure FinE (w0 w : World) (A : Option Addr) (c : Nat) (out : List Ent) : Prop where
 room : out.length ≤ c
 cap : c ≤ 9223372036854775807
 ex : ∃ zs : List NewE,zs.map (·.e) = out ∧ ((A = none ∧ zs = []) ∨ ∃ g,A = some ⟨g,0,none⟩ ∧ w0.heap.size ≤ g ∧ RowX encE 5 73 w g 0 zs) ∧ ∀ z ∈ zs,EntN w w0.heap.size z
theorem FinE.set {w0 w : World} {A : Option Addr} {c : Nat} {out : List Ent} (h : FinE w0 w A c out) {p : Addr} (u : Value) (hp : p.block < w0.heap.size) : FinE w0 (w.setCell p u) A c out:=by
 obtain ⟨zs,h1,h2,h3⟩:=h.ex
 refine ⟨h.room,h.cap,zs,h1,h2.imp id ?_,fun z hz=>(h3 z hz).set u hp⟩
 rintro ⟨g,hA,hg,hr⟩
 exact ⟨g,hA,hg,hr.of_block (Deep.blk_setCell_other _ _ _ _ (by omega))⟩
theorem FinE.turn {w0 A B : World} {ad : Option Addr} {c : Nat} {out : List Ent} (h : FinE w0 A ad c out) (t : Turn A B) : FinE w0 B ad c out:=by
 obtain ⟨zs,h1,h2,h3⟩:=h.ex
 exact ⟨h.room,h.cap,zs,h1,h2.imp id (fun ⟨g,hA,hg,hr⟩=>⟨g,hA,hg,hr.turn t⟩),fun z hz=>(h3 z hz).turn t⟩
theorem FinE.out {w0 w : World} {A : Option Addr} {c B : Nat} {out : List Ent} (h : FinE w0 w A c out) (hB : B ≤ w0.heap.size) : EntOut out 0 B (.returned (.tuple #[.slice A out.length c,.int .i64 0])) w:=by
 obtain ⟨zs,h1,h2,h3⟩:=h.ex
 refine ⟨A,c,rfl,h.room,h.cap,zs,h1,?_,fun z hz=>(h3 z hz).mono hB⟩
 rcases h2 with ⟨rfl,rfl⟩ | ⟨g,rfl,_,hr⟩
 ·exact fun hne=>absurd rfl hne
 ·exact fun _=>⟨g,0,rfl,hr.lt,hr.cell⟩
theorem colA_fin (w0 w : World) (G : Nat) (out : List Ent) (h : ColA w0 w G out) :
  (32 < out.length ∧ Calls Tryz.prog 50 #[.pointer (some ⟨G,0,none⟩)] w fun e w'=>e = .returned (.tuple #[.slice none 0 0,.int .i64 72]) ∧ w' = w) ∨
  (out.length ≤ 32 ∧ ∃ A c,FinE w0 w A c out ∧ Calls Tryz.prog 50 #[.pointer (some ⟨G,0,none⟩)] w fun e w'=>e = .returned (.tuple #[.slice A out.length c,.int .i64 0]) ∧ w' = w):=by
 rcases h with ⟨v,zs,h1,rfl,h3⟩ | ⟨h1,h2⟩
 ·refine .inr ⟨h3,?_⟩
  have hr : ∃ A c,v = .slice A zs.length c ∧ FinE w0 w A c (zs.map (·.e)):=by
   have he : ∀ z ∈ zs,EntN w w0.heap.size z:=fun z hz=>(h1.each z hz).mono (by have:=h1.lo;omega)
   rcases h1.own.row encE_len with ⟨rfl,rfl⟩ | ⟨g,c,rfl,g1,g2,g3,hr⟩
   ·exact ⟨none,0,rfl,Nat.le_refl _,by omega,[],rfl,.inl ⟨rfl,rfl⟩,fun z hz=>by cases hz⟩
   ·exact ⟨_,c,rfl,by rw [List.length_map];exact g1,g2,zs,rfl,.inr ⟨g,rfl,g3,hr⟩,he⟩
  obtain ⟨A,c,hv,hf⟩:=hr
  refine ⟨A,c,hf,(resultE_c G v w h1.c0 h1.c1 A zs.length c hv).mono ?_⟩
  rintro e w' ⟨rfl,rfl⟩
  rw [List.length_map]
  exact ⟨rfl,rfl⟩
 ·refine .inl ⟨h1,(resultE_full G w h2.c1).mono ?_⟩
  rintro e w' ⟨rfl,rfl⟩
  exact ⟨rfl,rfl⟩
def eP {za zb : List NewE} (x : PairZ za zb) : Ent × Ent:=(x.1.1.e,x.1.2.e)
theorem pz_e {za zb : List NewE} {ys : List (PairZ za zb)} (h : ys.map (·.1) = pz za zb) : ys.map eP = pairsL (za.map (·.e)) (zb.map (·.e)):=by
 have e1 : ys.map eP = (ys.map (·.1)).map fun p=>(p.1.e,p.2.e):=by rw [List.map_map];rfl
 rw [e1,h]
 unfold pz pairsL
 rw [List.map_flatMap,List.flatMap_map]
 congr 1
 funext x
 rw [List.map_map,List.map_map]
 rfl
theorem pz_stop {za zb : List NewE} {pre : List (PairZ za zb)} (h : pre.map (·.1) <+: pz za zb) (hc : comL (pre.map eP) = none) : comL (pairsL (za.map (·.e)) (zb.map (·.e))) = none:=by
 obtain ⟨t,ht⟩:=h
 have e1 : pre.map eP = (pre.map (·.1)).map fun p=>(p.1.e,p.2.e):=by rw [List.map_map];rfl
 have e2 : pairsL (za.map (·.e)) (zb.map (·.e)) = (pz za zb).map fun p=>(p.1.e,p.2.e):=by
  unfold pz pairsL
  rw [List.map_flatMap,List.flatMap_map]
  congr 1
  funext x
  rw [List.map_map,List.map_map]
  rfl
 rw [e2,← ht,List.map_append,comL_app,← e1,hc]
theorem below_two {wR W w8 : World} {n : Nat} (h1 : Calm wR W) (h2 : Calm wR w8) (hn : n ≤ wR.heap.size) (hs : W.heap.size ≤ w8.heap.size) : Below n W w8:=
 ⟨h2.os.trans h1.os.symm,h2.tape.trans h1.tape.symm,h2.output.trans h1.output.symm,hs,fun k hk=>(h2.block k (Nat.lt_of_lt_of_le hk hn)).trans (h1.block k (Nat.lt_of_lt_of_le hk hn)).symm⟩
theorem entA_few {w : World} {z : NewE} (h : EntA w z) (hs : SmallE z.e) (hg : gErr z.e.reg = 0) : EntU w z:=h.u hs (by have : z.e.reg.hs.length ≤ 64:=(gErr_zero hg).2.2;have e : z.e.reg.hs = z.e.hs:=rfl;rw [e] at this;omega)
theorem chain_snd {x y c : Rule} (h : (chainE x y).1 = some c) : (chainE x y).2 = 0 ∧ c.excl = false:=by
 unfold chainE at h ⊢
 by_cases hx : ruleErr x ≠ 0
 ·rw [if_pos hx] at h;cases h
 ·rw [if_neg hx] at h ⊢
  by_cases hy : ruleErr y ≠ 0
  ·rw [if_pos hy] at h;cases h
  ·rw [if_neg hy] at h ⊢
   rcases hm : meetP x.right y.left with _ | m
   ·rw [hm] at h;cases h
   ·rw [hm] at h
    simp only at h ⊢
    split at h
    ·cases h
    ·rename_i h12
     rw [if_neg h12]
     obtain rfl:=Option.some.inj h
     exact ⟨rfl,rfl⟩
theorem narR_snd {r n : Rule} {q : Pat} (h : (narR r q).1 = some n) : (narR r q).2 = 0 ∧ n.excl = false:=by
 unfold narR at h ⊢
 by_cases h0 : ruleErr r ≠ 0
 ·rw [if_pos h0] at h
  cases h
 ·rw [if_neg h0] at h ⊢
  simp only at h ⊢
  rcases hn : (narL ⟨false,r.right,r.left⟩ q).1 with _ | m
  ·rw [hn] at h;cases h
  ·rw [hn] at h
   obtain rfl:=Option.some.inj h
   obtain ⟨_,_,g3,m',_,rfl,_,_⟩:=narL_some hn
   exact ⟨g3,rfl⟩
theorem tk {P : Program} {md : Region.Mode} {ops : Array Oper} {Q : Exit → Act → World → Prop} {S : World → Prop} (i : Nat) {oi : Oper} {v : Value} {fuel : Nat} {listed : Array Bool} {a : Act} {w : World} (hi : ops[i]? = some oi)
  (h : wpAnyH P md ops Q S fuel (listed.setIfInBounds i true) (a.put oi.dst v) w) (hs : Region.noSelect ops = true:=by kernel_rfl) (hf : Region.free md ops listed i = true:=by kernel_rfl) (hr : (Region.ready md ops listed).contains i = true:=by kernel_rfl)
  (hQ : ∀ c a w,Q (.panic c) (a.put oi.dst v) w → Q (.panic c) a w:=by exact fun _ _ _ h=>h) (hy : YieldsIf P ops S oi v a:=by exact Or.inl ⟨by rfl,by intro w9 hS9;(try dsimp only at hS9);go_simp;try with_reducible rfl⟩) (hS : S w:=by assumption) :
  wpAnyH P md ops Q S (fuel + 1) listed a w:=wpAnyH_take hi hs hf hr hQ hy hS h
theorem aP : (∀ {α : Type} {xs : List α} {i : Nat} (h : i < xs.toArray.size),xs.toArray[i] = xs[i]'(by simpa using h)) ∧ (∀ {α : Type} {a : α} {bs : List α} {i : Nat} (h : i + 1 < (a :: bs).length),(a :: bs)[i + 1] = bs[i]'(by simpa using h)) ∧ (∀ {α : Type} {a : α} {bs : List α} (h : 0 < (a :: bs).length),(a :: bs)[0] = a) ∧ (∀ {α : Type} (l : List α) (i : Nat) (a : α),l.toArray.setIfInBounds i a = (l.set i a).toArray) ∧ (∀ {α : Type} {x : α} {xs : List α} {a : α},(x :: xs).set 0 a = a :: xs) ∧ (∀ {α : Type} {x : α} {xs : List α} {i : Nat} {a : α},(x :: xs).set (i + 1) a = x :: xs.set i a):=
 ⟨fun h=>List.getElem_toArray h,fun h=>List.getElem_cons_succ ..,fun h=>List.getElem_cons_zero ..,fun l i a=>List.setIfInBounds_toArray ..,List.set_cons_zero,List.set_cons_succ⟩
end Go.Proofs.YtdcdabbepnahnaaGreatDoor
