/- Walk: the reference's Chain. -/
import Derived.Test.YtnlnclefedohkaaGreatDoorZChainW
import Derived.Test.YtnlnclefedohkaaGreatDoorZReduceL
import Derived.Test.YtnlnclefedohkaaGreatDoorZRNarRW
import Derived.Test.YtnlnclefedohkaaGreatDoorZEntM
import Derived.Test.YtnlnclefedohkaaGreatDoorZRMeetY
set_option linter.unusedVariables false
set_option linter.unusedSimpArgs false
namespace Go.Proofs.YtnlnclefedohkaaGreatDoor.Sy


theorem meet_left {p q m : Pat} (h : meetP p q = some m) : meetP p m = some m:=by
 obtain ⟨g1,g2,g3,g4⟩:=meetP_some h
 exact meetP_inside g1 g4 (meetL_in (allOk_of g1) (allOk_of g2) g3).1
theorem meet_right {p q m : Pat} (h : meetP p q = some m) : meetP q m = some m:=meet_left ((meetP_comm q p).trans h)
theorem chain_narL {r q : Rule} {m : Pat} (hq : ruleErr q = 0) (h : meetP r.right q.left = some m) : narL q m = if 12 < (carryP q.left q.right m).parts.length then (none,43) else (some ⟨false,m,carryP q.left q.right m⟩,0):=by
 unfold narL
 rw [if_neg (by simpa using hq),if_neg (by simpa using (meetP_some h).2.2.2),meet_right h]
theorem chain_narR {r q : Rule} {m : Pat} (hr : ruleErr r = 0) (h : meetP r.right q.left = some m) : narR r m = if 12 < (carryP r.right r.left m).parts.length then (none,43) else (some ⟨false,carryP r.right r.left m,m⟩,0):=by
 have ht : ruleErr ⟨false,r.right,r.left⟩ = 0:=ruleErr_twin.2 (ruleErr_twin.1 hr).turn
 have hn : narR r m = ((narL ⟨false,r.right,r.left⟩ m).1.map Rule.turn,(narL ⟨false,r.right,r.left⟩ m).2):=by
  unfold narR
  rw [if_neg (by simpa using hr)]
 have e : narL ⟨false,r.right,r.left⟩ m = if 12 < (carryP r.right r.left m).parts.length then (none,43) else (some ⟨false,m,carryP r.right r.left m⟩,0):=by
  unfold narL
  rw [if_neg (by simpa using ht),if_neg (by simpa using (meetP_some h).2.2.2),meet_left h]
 rw [hn,e]
 split <;> rfl
end Go.Proofs.YtnlnclefedohkaaGreatDoor.Sy
set_option linter.unusedVariables false
set_option linter.unusedSimpArgs false
namespace Go.Proofs.YtnlnclefedohkaaGreatDoor
open Go Go.RowKit Sy

theorem NarEnd.none {x : Int} {B : Nat} {e : Ending} {w : World} (h : NarEnd (none,x) B e w) : e = .returned (.tuple #[.agg #[.bool false,.slice none 0 0,.bool false,.slice none 0 0,.bool false],.bool false,.int .i64 x]):=by
 rcases h with ⟨_,h⟩ | ⟨n,a,h,_⟩
 ·exact h
 ·cases h
theorem NarEnd.some {n : Rule} {B : Nat} {e : Ending} {w : World} (h : NarEnd (some n,0) B e w) : ∃ a,e = .returned (.tuple #[ruleV a n,.bool true,.int .i64 0]) ∧ RuleN w B a n:=by
 rcases h with ⟨h,_⟩ | ⟨n',a,h,h1,h2⟩
 ·cases h
 ·obtain rfl : n = n':=by simpa using h
  exact ⟨a,h1,h2⟩
set_option maxHeartbeats 16000000 in
theorem rchain_c (r q : Rule) (a b : Pl) (w : World) (hr : RuleU w a r) (hs : SmallR r) (hq : RuleU w b q) (ht : SmallR q) :
  Calls Tryz.prog 28 #[ruleV a r,ruleV b q] w fun e w'=>NarEnd (chainE r q) w.heap.size e w' ∧ Calm w w':=by
 obtain ⟨nl,hnl⟩ : ∃ nl,r.left.parts.length = nl:=⟨_,rfl⟩
 obtain ⟨nr,hnr⟩ : ∃ nr,r.right.parts.length = nr:=⟨_,rfl⟩
 obtain ⟨lr,hlr⟩ : ∃ lr,r.left.rest = lr:=⟨_,rfl⟩
 obtain ⟨rr,hrr⟩ : ∃ rr,r.right.rest = rr:=⟨_,rfl⟩
 obtain ⟨ex,hex⟩ : ∃ ex,r.excl = ex:=⟨_,rfl⟩
 obtain ⟨ql,hql⟩ : ∃ ql,q.left.parts.length = ql:=⟨_,rfl⟩
 obtain ⟨qr,hqr⟩ : ∃ qr,q.right.parts.length = qr:=⟨_,rfl⟩
 obtain ⟨kl,hkl⟩ : ∃ kl,q.left.rest = kl:=⟨_,rfl⟩
 obtain ⟨kr,hkr⟩ : ∃ kr,q.right.rest = kr:=⟨_,rfl⟩
 obtain ⟨qx,hqx⟩ : ∃ qx,q.excl = qx:=⟨_,rfl⟩
 obtain ⟨w1,hw1⟩ : ∃ w1,w1 = ((w.alloc (.cells #[.bool ex,.slice a.AL nl a.cl,.bool lr,.slice a.AR nr a.cr,.bool rr] 52)).alloc (.cells #[.bool qx,.slice b.AL ql b.cl,.bool kl,.slice b.AR qr b.cr,.bool kr] 52)).alloc (.cells #[.bool false,.slice none 0 0,.bool false,.slice none 0 0,.bool false] 52):=⟨_,rfl⟩
 have hc1 : Calm w w1:=by rw [hw1];exact (((Calm.refl w).alloc _).alloc _).alloc _
 have hbr : FiveB w1 w.heap.size (.bool ex) (.slice a.AL nl a.cl) (.bool lr) (.slice a.AR nr a.cr) (.bool rr):=by
  rw [hw1]
  exact (FiveB.new w _ _ _ _ _ _).calm (((Calm.refl _).alloc _).alloc _)
 have hbq : FiveB w1 (w.heap.size + 1) (.bool qx) (.slice b.AL ql b.cl) (.bool kl) (.slice b.AR qr b.cr) (.bool kr):=by
  rw [hw1]
  have:=(FiveB.new (w.alloc (.cells #[.bool ex,.slice a.AL nl a.cl,.bool lr,.slice a.AR nr a.cr,.bool rr] 52)) (.bool qx) (.slice b.AL ql b.cl) (.bool kl) (.slice b.AR qr b.cr) (.bool kr) 52).calm ((Calm.refl _).alloc (.cells #[.bool false,.slice none 0 0,.bool false,.slice none 0 0,.bool false] 52))
  simpa using this
 have hbz : FiveB w1 (w.heap.size + 1 + 1) (.bool false) (.slice none 0 0) (.bool false) (.slice none 0 0) (.bool false):=by
  rw [hw1]
  have:=FiveB.new ((w.alloc (.cells #[.bool ex,.slice a.AL nl a.cl,.bool lr,.slice a.AR nr a.cr,.bool rr] 52)).alloc (.cells #[.bool qx,.slice b.AL ql b.cl,.bool kl,.slice b.AR qr b.cr,.bool kr] 52)) (.bool false) (.slice none 0 0) (.bool false) (.slice none 0 0) (.bool false) 52
  simpa using this
 obtain ⟨v,hv⟩ : ∃ v,ruleErr r = v:=⟨_,rfl⟩
 obtain ⟨u,hu⟩ : ∃ u,ruleErr q = u:=⟨_,rfl⟩
 have KR : Hid (∀ W,Calm w1 W → Calls Tryz.prog 57 #[.agg #[.bool ex,.slice a.AL nl a.cl,.bool lr,.slice a.AR nr a.cr,.bool rr]] W fun e w'=>e = .returned (.int .i64 v) ∧ Calm W w'):=fun W hW=>by
  have:=rrule_c r a W ((hr.calm hc1).calm hW) hs
  unfold ruleV at this
  rw [hnl,hnr,hlr,hrr,hex,hv] at this
  exact this
 have KQ : Hid (∀ W,Calm w1 W → Calls Tryz.prog 57 #[.agg #[.bool qx,.slice b.AL ql b.cl,.bool kl,.slice b.AR qr b.cr,.bool kr]] W fun e w'=>e = .returned (.int .i64 u) ∧ Calm W w'):=fun W hW=>by
  have:=rrule_c q b W ((hq.calm hc1).calm hW) ht
  unfold ruleV at this
  rw [hql,hqr,hkl,hkr,hqx,hu] at this
  exact this
 have hv0 : v = 0 ∧ u = 0 → ruleErr r = 0 ∧ ruleErr q = 0:=fun h=>⟨hv.trans h.1,hu.trans h.2⟩
 have hal : PatA w a.AL a.cl r.left:=⟨hr.left hs,hr.lroom,hr.lcap⟩
 have har : PatA w a.AR a.cr r.right:=⟨hr.right hs,hr.rroom,hr.rcap⟩
 have hbl : PatA w b.AL b.cl q.left:=⟨hq.left ht,hq.lroom,hq.lcap⟩
 have hbr2 : PatA w b.AR b.cr q.right:=⟨hq.right ht,hq.rroom,hq.rcap⟩
 have KM1 : Hid (∀ m,v = 0 ∧ u = 0 → meetP r.right q.left = some m → ∀ W,Calm w1 W → Calls Tryz.prog 39 #[.agg #[.slice a.AR nr a.cr,.bool rr],.agg #[.slice b.AL ql b.cl,.bool kl]] W fun e w'=>(∃ A2 c2,e = .returned (.tuple #[.agg #[.slice A2 m.parts.length c2,.bool m.rest],.bool true]) ∧ SmallN w' W.heap.size ⟨A2,c2,m⟩) ∧ Calm W w'):=fun m h0 hm W hW=>by
  have:=rmeet_yes r.right q.left m a.AR b.AL a.cr b.cl W ((har.calm hc1).calm hW) ((hbl.calm hc1).calm hW) (ruleErr_twin.1 (hv0 h0).1).rp (ruleErr_twin.1 (hv0 h0).2).lp hm
  rw [hnr,hrr,hql,hkl] at this
  exact this
 have KM0 : Hid (v = 0 ∧ u = 0 → meetP r.right q.left = none → ∀ W,Calm w1 W → Calls Tryz.prog 39 #[.agg #[.slice a.AR nr a.cr,.bool rr],.agg #[.slice b.AL ql b.cl,.bool kl]] W fun e w'=>e = .returned (.tuple #[.agg #[.slice none 0 0,.bool false],.bool false]) ∧ Calm W w'):=fun h0 hm W hW=>by
  have:=rmeet_no r.right q.left a.AR b.AL a.cr b.cl W ((har.calm hc1).calm hW) ((hbl.calm hc1).calm hW) (ruleErr_twin.1 (hv0 h0).1).rp (ruleErr_twin.1 (hv0 h0).2).lp hm
  rw [hnr,hrr,hql,hkl] at this
  exact this
 have KC : Hid (∀ m,v = 0 ∧ u = 0 → meetP r.right q.left = some m → ∀ W A2 c2,Calm w1 W → PatA W A2 c2 m → Calls Tryz.prog 30 #[.agg #[.bool ex,.slice a.AL nl a.cl,.bool lr,.slice a.AR nr a.cr,.bool rr],.agg #[.slice A2 m.parts.length c2,.bool m.rest]] W fun e w'=>NarEnd (if 12 < (carryP r.right r.left m).parts.length then (none,43) else (some ⟨false,carryP r.right r.left m,m⟩,0)) W.heap.size e w' ∧ Calm W w'):=fun m h0 hm W A2 c2 hW hPm=>by
  have:=rnright_c r m a m.parts.length c2 m.rest A2 W ((hr.calm hc1).calm hW) hs hPm rfl rfl
  rw [chain_narR (hv0 h0).1 hm] at this
  unfold ruleV at this
  rw [hnl,hnr,hlr,hrr,hex] at this
  exact this
 have KD : Hid (∀ m,v = 0 ∧ u = 0 → meetP r.right q.left = some m → ∀ W A2 c2,Calm w1 W → PatA W A2 c2 m → Calls Tryz.prog 62 #[.agg #[.bool qx,.slice b.AL ql b.cl,.bool kl,.slice b.AR qr b.cr,.bool kr],.agg #[.slice A2 m.parts.length c2,.bool m.rest]] W fun e w'=>NarEnd (if 12 < (carryP q.left q.right m).parts.length then (none,43) else (some ⟨false,m,carryP q.left q.right m⟩,0)) W.heap.size e w' ∧ Calm W w'):=fun m h0 hm W A2 c2 hW hPm=>by
  have:=rnleft_c q m b m.parts.length c2 m.rest A2 W ((hq.calm hc1).calm hW) ht hPm rfl rfl
  rw [chain_narL (hv0 h0).2 hm] at this
  unfold ruleV at this
  rw [hql,hqr,hkl,hkr,hqx] at this
  exact this
 have HX1 : Hid (v ≠ 0 → chainE r q = (none,v)):=fun h=>by
  unfold chainE
  rw [hv,if_pos h]
 have HX2 : Hid (v = 0 → u ≠ 0 → chainE r q = (none,u)):=fun h h2=>by
  unfold chainE
  rw [hv,if_neg (by simpa using h),hu,if_pos h2]
 have HX3 : Hid (v = 0 ∧ u = 0 → meetP r.right q.left = none → chainE r q = (none,0)):=fun h hm=>by
  unfold chainE
  rw [if_neg (by simpa using (hv0 h).1),if_neg (by simpa using (hv0 h).2),hm]
 have HX4 : Hid (∀ m,v = 0 ∧ u = 0 → meetP r.right q.left = some m → chainE r q = if 12 < (carryP r.right r.left m).parts.length ∨ 12 < (carryP q.left q.right m).parts.length then (none,43) else (some ⟨false,carryP r.right r.left m,carryP q.left q.right m⟩,0)):=fun m h hm=>by
  unfold chainE
  rw [if_neg (by simpa using (hv0 h).1),if_neg (by simpa using (hv0 h).2),hm]
 have HW:=Lib.hid hw1
 have HC:=Lib.hid hc1
 have HBr:=Lib.hid hbr
 have HBq:=Lib.hid hbq
 have HBz:=Lib.hid hbz
 have hsz : w.heap.size + 1 + 1 < w1.heap.size:=hbz.lt
 unfold ruleV
 rw [hnl,hnr,hlr,hrr,hex,hql,hqr,hkl,hkr,hqx]
 clear hw1 hc1 hbr hbq hbz hr hs hq ht hnl hnr hlr hrr hex hql hqr hkl hkr hqx hv hu hv0 hal har hbl hbr2
 have HC8 : Hid (∀ W,Calm w1 W → ∀ u0 u1 u2 u3 u4,Calm w (set5 W (w.heap.size + 1 + 1) u0 u1 u2 u3 u4)):=fun W hW u0 u1 u2 u3 u4=>calm5 (HC.out.trans hW) (by omega) _ _ _ _ _
 go_enter Tryz.func28,Tryz.ntmps28
 have hh:=HBr.out
 have b0:=hh.c0
 have b1:=hh.c1
 have b2:=hh.c2
 have b3:=hh.c3
 have b4:=hh.c4
 clear hh
 go_wp2_with fail
 rw [← HW.out]
 refine (KR.out w1 (Calm.refl _)).mono ?_
 rintro e w2 ⟨rfl,hc2⟩
 clear b0 b1 b2 b3 b4
 have HC2:=Lib.hid hc2
 clear hc2
 by_cases hv0 : v = 0
 ·subst hv0
  have hh:=HBq.out.calm HC2.out
  have d0:=hh.c0
  have d1:=hh.c1
  have d2:=hh.c2
  have d3:=hh.c3
  have d4:=hh.c4
  clear hh
  go_wp2_with fail
  refine (KQ.out w2 HC2.out).mono ?_
  rintro e w3 ⟨rfl,hc3⟩
  clear d0 d1 d2 d3 d4
  have HC3 : Hid (Calm w1 w3):=HC2.out.trans hc3
  clear hc3
  by_cases hu0 : u = 0
  ·subst hu0
   have hh:=HBr.out.calm HC3.out
   have b0:=hh.c0
   have b1:=hh.c1
   have b2:=hh.c2
   have b3:=hh.c3
   have b4:=hh.c4
   clear hh
   have hh:=HBq.out.calm HC3.out
   have d0:=hh.c0
   have d1:=hh.c1
   have d2:=hh.c2
   have d3:=hh.c3
   have d4:=hh.c4
   clear hh
   rcases hmm : meetP r.right q.left with _ | m
   ·have HX:=Lib.hid (HX3.out ⟨by trivial,by trivial⟩ hmm)
    have KM:=Lib.hid (KM0.out ⟨by trivial,by trivial⟩ hmm w3 HC3.out)
    clear hmm
    go_wp2_with fail
    refine KM.out.mono ?_
    rintro e w4 ⟨rfl,hc4⟩
    have hz:=HBz.out.calm ((HC3.out.trans hc4).alloc (.cells #[.slice none 0 0,.bool false] 40))
    have z0:=hz.c0
    have z1:=hz.c1
    have z2:=hz.c2
    have z3:=hz.c3
    have z4:=hz.c4
    have f0:=hz.fz 0
    have f1:=hz.fz 1
    have f2:=hz.fz 2
    have f3:=hz.fz 3
    have f4:=hz.fz 4
    have HC4 : Hid (Calm w1 w4):=HC3.out.trans hc4
    clear hz hc4 b0 b1 b2 b3 b4 d0 d1 d2 d3 d4
    go_wp2_with fail
    refine bodyPost_ret (v:=.tuple #[.agg #[.bool false,.slice none 0 0,.bool false,.slice none 0 0,.bool false],.bool false,.int .i64 0]) ?_ rfl ⟨.inl (by rw [HX.out];exact ⟨rfl,rfl⟩),HC8.out _ (HC4.out.alloc _) _ _ _ _ _⟩
    rw [results_cell_tt rfl]
    go_simp
   ·have hx:=HX4.out m ⟨by trivial,by trivial⟩ hmm
    have KM:=Lib.hid (KM1.out m ⟨by trivial,by trivial⟩ hmm w3 HC3.out)
    have KCm:=Lib.hid (KC.out m ⟨by trivial,by trivial⟩ hmm)
    have KDm:=Lib.hid (KD.out m ⟨by trivial,by trivial⟩ hmm)
    clear hmm
    obtain ⟨cr,hcr⟩ : ∃ cr,carryP r.right r.left m = cr:=⟨_,rfl⟩
    obtain ⟨dr,hdr⟩ : ∃ dr,carryP q.left q.right m = dr:=⟨_,rfl⟩
    rw [hcr,hdr] at hx
    rw [hcr] at KCm
    rw [hdr] at KDm
    obtain ⟨mn,hmn⟩ : ∃ mn,m.parts.length = mn:=⟨_,rfl⟩
    obtain ⟨mr,hmr⟩ : ∃ mr,m.rest = mr:=⟨_,rfl⟩
    rw [hmn,hmr] at KM KCm KDm
    have HN:=Lib.hid (And.intro hmn hmr)
    have HX:=Lib.hid hx
    clear hx hcr hdr hmn hmr
    go_wp2_with fail
    refine KM.out.mono ?_
    rintro e w4 ⟨⟨A2,c2,rfl,hSm⟩,hc4⟩
    clear b0 b1 b2 b3 b4 d0 d1 d2 d3 d4
    have HC5 : Hid (Calm w1 (w4.alloc (.cells #[.slice A2 mn c2,.bool mr] 40))):=(HC3.out.trans hc4).alloc _
    have hm:=TwoB.new w4 (.slice A2 mn c2) (.bool mr) 40
    have HSm : Hid (SmallN (w4.alloc (.cells #[.slice A2 mn c2,.bool mr] 40)) w3.heap.size ⟨A2,c2,m⟩):=hSm.calm ((Calm.refl _).alloc _)
    have hh:=HBr.out.calm HC5.out
    have b0:=hh.c0
    have b1:=hh.c1
    have b2:=hh.c2
    have b3:=hh.c3
    have b4:=hh.c4
    clear hh
    have m0:=hm.c0
    have m1:=hm.c1
    have HMb:=Lib.hid hm
    clear hm hSm hc4
    go_wp2_with fail
    obtain ⟨w5,hw5⟩ : ∃ w5,w5 = w4.alloc (.cells #[.slice A2 mn c2,.bool mr] 40):=⟨_,rfl⟩
    rw [← hw5] at HC5 HMb HSm ⊢
    obtain ⟨M,hM⟩ : ∃ M,w4.heap.size = M:=⟨_,rfl⟩
    rw [hM] at HMb
    simp only [hM]
    clear hw5 hM b0 b1 b2 b3 b4 m0 m1
    obtain ⟨cn,hcn⟩ : ∃ cn,cr.parts.length = cn:=⟨_,rfl⟩
    obtain ⟨ct,hct⟩ : ∃ ct,cr.rest = ct:=⟨_,rfl⟩
    obtain ⟨dn,hdn⟩ : ∃ dn,dr.parts.length = dn:=⟨_,rfl⟩
    obtain ⟨dt,hdt⟩ : ∃ dt,dr.rest = dt:=⟨_,rfl⟩
    rw [hcn] at KCm
    rw [hdn] at KDm
    have HX' : Hid (chainE r q = if 12 < cn ∨ 12 < dn then (none,43) else (some ⟨false,cr,dr⟩,0)):=by
     have:=HX.out
     rw [hcn,hdn] at this
     exact this
    have HN2:=Lib.hid (And.intro hcn (And.intro hct (And.intro hdn hdt)))
    clear HX hcn hct hdn hdt
    by_cases h12 : 12 < cn
    ·rw [if_pos h12] at KCm
     refine (KCm.out w5 A2 c2 HC5.out HSm.out.a).mono ?_
     rintro e w6 ⟨hE,hc6⟩
     have HC6 : Hid (Calm w1 w6):=HC5.out.trans hc6
     have HS6 : Hid (PatA w6 A2 c2 m):=(HSm.out.calm hc6).a
     have hsz5 : w1.heap.size ≤ w5.heap.size:=HC5.out.size
     obtain rfl:=NarEnd.none hE
     have hm:=HMb.out.calm (hc6.alloc (.cells #[.bool false,.slice none 0 0,.bool false,.slice none 0 0,.bool false] 52))
     have m0:=hm.c0
     have m1:=hm.c1
     have hh:=HBq.out.calm (HC6.out.alloc (.cells #[.bool false,.slice none 0 0,.bool false,.slice none 0 0,.bool false] 52))
     have d0:=hh.c0
     have d1:=hh.c1
     have d2:=hh.c2
     have d3:=hh.c3
     have d4:=hh.c4
     clear hh
     clear hm hc6 hE
     go_wp2_with fail
     clear m0 m1 d0 d1 d2 d3 d4
     by_cases h13 : 12 < dn
     ·refine (KDm.out (w6.alloc (.cells #[.bool false,.slice none 0 0,.bool false,.slice none 0 0,.bool false] 52)) A2 c2 (HC6.out.alloc _) (HS6.out.calm ((Calm.refl _).alloc _))).mono ?_
      rintro e w8 ⟨hE7,hc8⟩
      have HC8b : Hid (Calm w1 w8):=(HC6.out.alloc _).trans hc8
      rw [if_pos h13] at hE7
      obtain rfl:=NarEnd.none hE7
      have hz:=HBz.out.calm (HC8b.out.alloc (.cells #[.bool false,.slice none 0 0,.bool false,.slice none 0 0,.bool false] 52))
      have z0:=hz.c0
      have z1:=hz.c1
      have z2:=hz.c2
      have z3:=hz.c3
      have z4:=hz.c4
      have f0:=hz.fz 0
      have f1:=hz.fz 1
      have f2:=hz.fz 2
      have f3:=hz.fz 3
      have f4:=hz.fz 4
      have HXe : Hid (chainE r q = (none,43)):=by
       show _ = _
       rw [HX'.out,if_pos (by omega)]
      clear hz hc8 hE7
      go_wp2_with fail
      refine bodyPost_ret (v:=.tuple #[.agg #[.bool false,.slice none 0 0,.bool false,.slice none 0 0,.bool false],.bool false,.int .i64 43]) ?_ rfl ⟨.inl (by rw [HXe.out];exact ⟨rfl,rfl⟩),HC8.out _ (HC8b.out.alloc _) _ _ _ _ _⟩
      rw [results_cell_tt rfl]
      go_simp
     ·refine (KDm.out (w6.alloc (.cells #[.bool false,.slice none 0 0,.bool false,.slice none 0 0,.bool false] 52)) A2 c2 (HC6.out.alloc _) (HS6.out.calm ((Calm.refl _).alloc _))).mono ?_
      rintro e w8 ⟨hE7,hc8⟩
      have HC8b : Hid (Calm w1 w8):=(HC6.out.alloc _).trans hc8
      rw [if_neg h13] at hE7
      obtain ⟨a7,rfl,hN7⟩:=NarEnd.some hE7
      unfold ruleV
      rw [HN.out.1,HN.out.2,HN2.out.2.2.1,HN2.out.2.2.2]
      have hz:=HBz.out.calm (HC8b.out.alloc (.cells #[.bool false,.slice a7.AL mn a7.cl,.bool mr,.slice a7.AR dn a7.cr,.bool dt] 52))
      have z0:=hz.c0
      have z1:=hz.c1
      have z2:=hz.c2
      have z3:=hz.c3
      have z4:=hz.c4
      have f0:=hz.fz 0
      have f1:=hz.fz 1
      have f2:=hz.fz 2
      have f3:=hz.fz 3
      have f4:=hz.fz 4
      have HXe : Hid (chainE r q = (none,43)):=by
       show _ = _
       rw [HX'.out,if_pos (by omega)]
      clear hz hc8 hE7
      go_wp2_with fail
      refine bodyPost_ret (v:=.tuple #[.agg #[.bool false,.slice none 0 0,.bool false,.slice none 0 0,.bool false],.bool false,.int .i64 43]) ?_ rfl ⟨.inl (by rw [HXe.out];exact ⟨rfl,rfl⟩),HC8.out _ (HC8b.out.alloc _) _ _ _ _ _⟩
      rw [results_cell_tt rfl]
      go_simp
    ·rw [if_neg h12] at KCm
     refine (KCm.out w5 A2 c2 HC5.out HSm.out.a).mono ?_
     rintro e w6 ⟨hE,hc6⟩
     have HC6 : Hid (Calm w1 w6):=HC5.out.trans hc6
     have HS6 : Hid (PatA w6 A2 c2 m):=(HSm.out.calm hc6).a
     have hsz5 : w1.heap.size ≤ w5.heap.size:=HC5.out.size
     obtain ⟨a5,rfl,hN5⟩:=NarEnd.some hE
     unfold ruleV
     rw [HN.out.1,HN.out.2,HN2.out.1,HN2.out.2.1]
     have HN5:=Lib.hid hN5
     have hm:=HMb.out.calm (hc6.alloc (.cells #[.bool false,.slice a5.AL cn a5.cl,.bool ct,.slice a5.AR mn a5.cr,.bool mr] 52))
     have m0:=hm.c0
     have m1:=hm.c1
     have hh:=HBq.out.calm (HC6.out.alloc (.cells #[.bool false,.slice a5.AL cn a5.cl,.bool ct,.slice a5.AR mn a5.cr,.bool mr] 52))
     have d0:=hh.c0
     have d1:=hh.c1
     have d2:=hh.c2
     have d3:=hh.c3
     have d4:=hh.c4
     clear hh
     clear hm hc6 hE
     go_wp2_with fail
     clear m0 m1 d0 d1 d2 d3 d4
     by_cases h13 : 12 < dn
     ·refine (KDm.out (w6.alloc (.cells #[.bool false,.slice a5.AL cn a5.cl,.bool ct,.slice a5.AR mn a5.cr,.bool mr] 52)) A2 c2 (HC6.out.alloc _) (HS6.out.calm ((Calm.refl _).alloc _))).mono ?_
      rintro e w8 ⟨hE7,hc8⟩
      have HC8b : Hid (Calm w1 w8):=(HC6.out.alloc _).trans hc8
      rw [if_pos h13] at hE7
      obtain rfl:=NarEnd.none hE7
      have hz:=HBz.out.calm (HC8b.out.alloc (.cells #[.bool false,.slice none 0 0,.bool false,.slice none 0 0,.bool false] 52))
      have z0:=hz.c0
      have z1:=hz.c1
      have z2:=hz.c2
      have z3:=hz.c3
      have z4:=hz.c4
      have f0:=hz.fz 0
      have f1:=hz.fz 1
      have f2:=hz.fz 2
      have f3:=hz.fz 3
      have f4:=hz.fz 4
      have HXe : Hid (chainE r q = (none,43)):=by
       show _ = _
       rw [HX'.out,if_pos (by omega)]
      clear hz hc8 hE7
      go_wp2_with fail
      refine bodyPost_ret (v:=.tuple #[.agg #[.bool false,.slice none 0 0,.bool false,.slice none 0 0,.bool false],.bool false,.int .i64 43]) ?_ rfl ⟨.inl (by rw [HXe.out];exact ⟨rfl,rfl⟩),HC8.out _ (HC8b.out.alloc _) _ _ _ _ _⟩
      rw [results_cell_tt rfl]
      go_simp
     ·refine (KDm.out (w6.alloc (.cells #[.bool false,.slice a5.AL cn a5.cl,.bool ct,.slice a5.AR mn a5.cr,.bool mr] 52)) A2 c2 (HC6.out.alloc _) (HS6.out.calm ((Calm.refl _).alloc _))).mono ?_
      rintro e w8 ⟨hE7,hc8⟩
      have HC8b : Hid (Calm w1 w8):=(HC6.out.alloc _).trans hc8
      rw [if_neg h13] at hE7
      obtain ⟨a7,rfl,hN7⟩:=NarEnd.some hE7
      unfold ruleV
      rw [HN.out.1,HN.out.2,HN2.out.2.2.1,HN2.out.2.2.2]
      have hz:=HBz.out.calm (HC8b.out.alloc (.cells #[.bool false,.slice a7.AL mn a7.cl,.bool mr,.slice a7.AR dn a7.cr,.bool dt] 52))
      have z0:=hz.c0
      have z1:=hz.c1
      have z2:=hz.c2
      have z3:=hz.c3
      have z4:=hz.c4
      have f0:=hz.fz 0
      have f1:=hz.fz 1
      have f2:=hz.fz 2
      have f3:=hz.fz 3
      have f4:=hz.fz 4
      have hr6:=(FiveB.new w6 (.bool false) (.slice a5.AL cn a5.cl) (.bool ct) (.slice a5.AR mn a5.cr) (.bool mr) 52).calm (hc8.alloc (.cells #[.bool false,.slice a7.AL mn a7.cl,.bool mr,.slice a7.AR dn a7.cr,.bool dt] 52))
      have r1:=hr6.c1
      have r2:=hr6.c2
      have hl8:=FiveB.new w8 (.bool false) (.slice a7.AL mn a7.cl) (.bool mr) (.slice a7.AR dn a7.cr) (.bool dt) 52
      have l3:=hl8.c3
      have l4:=hl8.c4
      have hsz7 : w1.heap.size ≤ (w6.alloc (.cells #[.bool false,.slice a5.AL cn a5.cl,.bool ct,.slice a5.AR mn a5.cr,.bool mr] 52)).heap.size:=(HC6.out.alloc _).size
      have HRu : Hid (∀ u0 u1 u2 u3 u4,RuleN (set5 (w8.alloc (.cells #[.bool false,.slice a7.AL mn a7.cl,.bool mr,.slice a7.AR dn a7.cr,.bool dt] 52)) (w.heap.size + 1 + 1) u0 u1 u2 u3 u4) w.heap.size ⟨a5.AL,a5.cl,a7.AR,a7.cr⟩ ⟨false,cr,dr⟩):=fun u0 u1 u2 u3 u4=>
       ⟨(((HN5.out.1.calm (((Calm.refl _).alloc _).trans (hc8.alloc _))).mono hsz5).set5 hsz _ _ _ _ _).mono (by omega),(((hN7.2.calm ((Calm.refl _).alloc _)).mono hsz7).set5 hsz _ _ _ _ _).mono (by omega)⟩
      have HXe : Hid (chainE r q = (some ⟨false,cr,dr⟩,0)):=by
       show _ = _
       rw [HX'.out,if_neg (by omega)]
      clear hz hr6 hl8 hN7 hc8 hE7
      go_wp2_with fail
      refine bodyPost_ret (v:=.tuple #[.agg #[.bool false,.slice a5.AL cn a5.cl,.bool ct,.slice a7.AR dn a7.cr,.bool dt],.bool true,.int .i64 0]) ?_ rfl ⟨.inr ⟨⟨false,cr,dr⟩,⟨a5.AL,a5.cl,a7.AR,a7.cr⟩,HXe.out,by unfold ruleV;rw [HN2.out.1,HN2.out.2.1,HN2.out.2.2.1,HN2.out.2.2.2],HRu.out _ _ _ _ _⟩,HC8.out _ (HC8b.out.alloc _) _ _ _ _ _⟩
      rw [results_cell_tt rfl]
      go_simp
  ·have HX:=Lib.hid (HX2.out (by trivial) hu0)
   have hv1 : (u == 0) = false:=by rw [beq_eq_false_iff_ne];exact hu0
   have hv2 : (u != 0) = true:=by simpa using hu0
   have hz:=HBz.out.calm HC3.out
   have z0:=hz.c0
   have z1:=hz.c1
   have z2:=hz.c2
   have z3:=hz.c3
   have z4:=hz.c4
   have f0:=hz.fz 0
   have f1:=hz.fz 1
   have f2:=hz.fz 2
   have f3:=hz.fz 3
   have f4:=hz.fz 4
   clear hz
   go_wp2_with fail
   refine bodyPost_ret (v:=.tuple #[.agg #[.bool false,.slice none 0 0,.bool false,.slice none 0 0,.bool false],.bool false,.int .i64 u]) ?_ rfl ⟨.inl (by rw [HX.out];exact ⟨rfl,rfl⟩),HC8.out _ HC3.out _ _ _ _ _⟩
   rw [results_cell_tt rfl]
   go_simp
 ·have HX:=Lib.hid (HX1.out hv0)
  have hv1 : (v == 0) = false:=by rw [beq_eq_false_iff_ne];exact hv0
  have hv2 : (v != 0) = true:=by simpa using hv0
  have hz:=HBz.out.calm HC2.out
  have z0:=hz.c0
  have z1:=hz.c1
  have z2:=hz.c2
  have z3:=hz.c3
  have z4:=hz.c4
  have f0:=hz.fz 0
  have f1:=hz.fz 1
  have f2:=hz.fz 2
  have f3:=hz.fz 3
  have f4:=hz.fz 4
  clear hz
  go_wp2_with fail
  refine bodyPost_ret (v:=.tuple #[.agg #[.bool false,.slice none 0 0,.bool false,.slice none 0 0,.bool false],.bool false,.int .i64 v]) ?_ rfl ⟨.inl (by rw [HX.out];exact ⟨rfl,rfl⟩),HC8.out _ HC2.out _ _ _ _ _⟩
  rw [results_cell_tt rfl]
  go_simp
end Go.Proofs.YtnlnclefedohkaaGreatDoor
