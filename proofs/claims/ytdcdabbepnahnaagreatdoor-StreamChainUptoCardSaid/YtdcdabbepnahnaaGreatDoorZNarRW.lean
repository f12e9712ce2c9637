/- Walk: rule.NarrowRight. -/
import Derived.Test.YtdcdabbepnahnaaGreatDoorZNarW
set_option linter.unusedVariables false
set_option linter.unusedSimpArgs false
namespace Go.Proofs.YtdcdabbepnahnaaGreatDoor
open Go Go.RowKit Sy

set_option maxHeartbeats 16000000 in
theorem nright_c (r : Rule) (p : Pat) (a : Pl) (n pc : Nat) (re : Bool) (A : Option Addr) (w : World) (hr : RuleU w a r) (hs : SmallR r) (hp : PatA w A pc p) (hn : p.parts.length = n) (hre : p.rest = re) :
  Calls Tryz.prog 48 #[ruleV a r,.agg #[.slice A n pc,.bool re]] w fun e w'=>NarEnd (narR r p) w.heap.size e w' ∧ Calm w w':=by
 obtain ⟨nl,hnl⟩ : ∃ nl,r.left.parts.length = nl:=⟨_,rfl⟩
 obtain ⟨nr,hnr⟩ : ∃ nr,r.right.parts.length = nr:=⟨_,rfl⟩
 obtain ⟨lr,hlr⟩ : ∃ lr,r.left.rest = lr:=⟨_,rfl⟩
 obtain ⟨rr,hrr⟩ : ∃ rr,r.right.rest = rr:=⟨_,rfl⟩
 obtain ⟨ex,hex⟩ : ∃ ex,r.excl = ex:=⟨_,rfl⟩
 obtain ⟨w1,hw1⟩ : ∃ w1,w1 = ((w.alloc (.cells #[.bool ex,.slice a.AL nl a.cl,.bool lr,.slice a.AR nr a.cr,.bool rr] 69)).alloc (.cells #[.slice A n pc,.bool re] 51)).alloc (.cells #[.bool false,.slice none 0 0,.bool false,.slice none 0 0,.bool false] 69):=⟨_,rfl⟩
 have hc1 : Calm w w1:=by rw [hw1];exact (((Calm.refl w).alloc _).alloc _).alloc _
 have hbr : FiveB w1 w.heap.size (.bool ex) (.slice a.AL nl a.cl) (.bool lr) (.slice a.AR nr a.cr) (.bool rr):=by
  rw [hw1]
  exact (FiveB.new w _ _ _ _ _ _).calm (((Calm.refl _).alloc _).alloc _)
 have hbp : TwoB w1 (w.heap.size + 1) (.slice A n pc) (.bool re):=by
  rw [hw1]
  have:=(TwoB.new (w.alloc (.cells #[.bool ex,.slice a.AL nl a.cl,.bool lr,.slice a.AR nr a.cr,.bool rr] 69)) (.slice A n pc) (.bool re) 51).calm ((Calm.refl _).alloc (.cells #[.bool false,.slice none 0 0,.bool false,.slice none 0 0,.bool false] 69))
  simpa using this
 have hbz : FiveB w1 (w.heap.size + 1 + 1) (.bool false) (.slice none 0 0) (.bool false) (.slice none 0 0) (.bool false):=by
  rw [hw1]
  have:=FiveB.new ((w.alloc (.cells #[.bool ex,.slice a.AL nl a.cl,.bool lr,.slice a.AR nr a.cr,.bool rr] 69)).alloc (.cells #[.slice A n pc,.bool re] 51)) (.bool false) (.slice none 0 0) (.bool false) (.slice none 0 0) (.bool false) 69
  simpa using this
 obtain ⟨v,hv⟩ : ∃ v,ruleErr r = v:=⟨_,rfl⟩
 have KR : Hid (∀ W,Calm w1 W → Calls Tryz.prog 72 #[.agg #[.bool ex,.slice a.AL nl a.cl,.bool lr,.slice a.AR nr a.cr,.bool rr]] W fun e w'=>e = .returned (.int .i64 v) ∧ Calm W w'):=fun W hW=>by
  have:=rule_c r a W ((hr.calm hc1).calm hW)
  unfold ruleV at this
  rw [hnl,hnr,hlr,hrr,hex,hv] at this
  exact this
 have KL : Hid (∀ W,Calm w1 W → Calls Tryz.prog 74 #[.agg #[.bool false,.slice a.AR nr a.cr,.bool rr,.slice a.AL nl a.cl,.bool lr],.agg #[.slice A n pc,.bool re]] W fun e w'=>NarEnd (narL ⟨false,r.right,r.left⟩ p) W.heap.size e w' ∧ Calm W w'):=fun W hW=>by
  have h2:=(hr.calm hc1).calm hW
  have:=nleft_c ⟨false,r.right,r.left⟩ p a.turn n pc re A W ⟨h2.rr,h2.lr,h2.rroom,h2.lroom,h2.rcap,h2.lcap⟩ ⟨hs.rp,hs.rs,hs.lp,hs.ls⟩ ((hp.calm hc1).calm hW) hn hre
  unfold ruleV Pl.turn at this
  rw [show (⟨false,r.right,r.left⟩ : Rule).left = r.right from rfl,show (⟨false,r.right,r.left⟩ : Rule).right = r.left from rfl,hnl,hnr,hlr,hrr] at this
  exact this
 have HX1 : Hid (v ≠ 0 → narR r p = (none,v)):=fun h=>by
  unfold narR
  rw [hv,if_pos h]
 have HX2 : Hid (∀ x,v = 0 → narL ⟨false,r.right,r.left⟩ p = (none,x) → narR r p = (none,x)):=fun x h h2=>by
  unfold narR
  rw [hv,if_neg (by simpa using h),h2]
  rfl
 have HX3 : Hid (∀ m,v = 0 → narL ⟨false,r.right,r.left⟩ p = (some m,0) → narR r p = (some m.turn,0)):=fun m h h2=>by
  unfold narR
  rw [hv,if_neg (by simpa using h),h2]
  rfl
 have HE : Hid (∀ m x,narL ⟨false,r.right,r.left⟩ p = (some m,x) → m.excl = false):=fun m x h=>by
  obtain ⟨_,_,_,m',_,rfl,_⟩:=narL_some (show (narL ⟨false,r.right,r.left⟩ p).1 = some m by rw [h])
  rfl
 have HW:=Lib.hid hw1
 have HC:=Lib.hid hc1
 have HBr:=Lib.hid hbr
 have HBp:=Lib.hid hbp
 have HBz:=Lib.hid hbz
 have hsz : w.heap.size + 1 + 1 < w1.heap.size:=hbz.lt
 unfold ruleV
 rw [hnl,hnr,hlr,hrr,hex]
 clear hw1 hc1 hbr hbp hbz hr hs hp hn hre hnl hnr hlr hrr hex hv
 obtain ⟨X,hX⟩ : ∃ X,narL ⟨false,r.right,r.left⟩ p = X:=⟨_,rfl⟩
 rw [hX] at KL HX2 HX3 HE
 clear hX
 have HC8 : Hid (∀ W,Calm w1 W → ∀ u0 u1 u2 u3 u4,Calm w (set5 W (w.heap.size + 1 + 1) u0 u1 u2 u3 u4)):=fun W hW u0 u1 u2 u3 u4=>calm5 (HC.out.trans hW) (by omega) _ _ _ _ _
 go_enter Tryz.func48,Tryz.ntmps48
 have b:=HBr.out
 have b0:=b.c0
 have b1:=b.c1
 have b2:=b.c2
 have b3:=b.c3
 have b4:=b.c4
 clear b
 go_wp2_with fail
 rw [← HW.out]
 refine (KR.out w1 (Calm.refl _)).mono ?_
 rintro e w2 ⟨rfl,hc2⟩
 clear b0 b1 b2 b3 b4
 have HC2:=Lib.hid hc2
 by_cases hv0 : v = 0
 ·subst hv0
  have b:=HBr.out.calm hc2
  have b1:=b.c1
  have b2:=b.c2
  have b3:=b.c3
  have b4:=b.c4
  have p0:=(HBp.out.calm hc2).c0
  have p1:=(HBp.out.calm hc2).c1
  clear b hc2
  go_wp2_with fail
  refine (KL.out w2 HC2.out).mono ?_
  rintro e w3 ⟨hE,hc3⟩
  have HC3 : Hid (Calm w1 w3):=HC2.out.trans hc3
  have hsz2 : w1.heap.size ≤ w2.heap.size:=HC2.out.size
  clear b1 b2 b3 b4 p0 p1 hc3
  obtain ⟨o,x⟩:=X
  rcases hE with ⟨h1,rfl⟩ | ⟨m,a2,h1,rfl,hN⟩
  ·simp only at h1
   subst h1
   have HX:=Lib.hid (HX2.out x (by trivial) rfl)
   have hm:=FiveB.new w3 (.bool false) (.slice none 0 0) (.bool false) (.slice none 0 0) (.bool false) 69
   have m1:=hm.c1
   have m2:=hm.c2
   have m3:=hm.c3
   have m4:=hm.c4
   have hz:=HBz.out.calm (HC3.out.alloc (.cells #[.bool false,.slice none 0 0,.bool false,.slice none 0 0,.bool false] 69))
   have z0:=hz.c0
   have z1:=hz.c1
   have z2:=hz.c2
   have z3:=hz.c3
   have z4:=hz.c4
   have f0:=hz.fz 0
   have f1:=hz.fz 1
   have f2:=hz.fz 2
   have f3:=hz.fz 3
   have f4:=hz.fz 4
   clear hz hm
   go_wp2_with fail
   refine bodyPost_ret (v:=.tuple #[.agg #[.bool false,.slice none 0 0,.bool false,.slice none 0 0,.bool false],.bool false,.int .i64 x]) ?_ rfl ⟨.inl (by rw [HX.out];exact ⟨rfl,rfl⟩),HC8.out _ (HC3.out.alloc _) _ _ _ _ _⟩
   rw [results_cell_tt rfl]
   go_simp
  ·have hex:=HE.out m 0 h1
   have HX:=Lib.hid (HX3.out m (by trivial) h1)
   unfold ruleV
   rw [hex]
   obtain ⟨ml,hml⟩ : ∃ ml,m.left.parts.length = ml:=⟨_,rfl⟩
   obtain ⟨mr,hmr⟩ : ∃ mr,m.right.parts.length = mr:=⟨_,rfl⟩
   obtain ⟨tl,htl⟩ : ∃ tl,m.left.rest = tl:=⟨_,rfl⟩
   obtain ⟨tr,htr⟩ : ∃ tr,m.right.rest = tr:=⟨_,rfl⟩
   rw [hml,hmr,htl,htr]
   have HRu : Hid (∀ u0 u1 u2 u3 u4,RuleN (set5 (w3.alloc (.cells #[.bool false,.slice a2.AL ml a2.cl,.bool tl,.slice a2.AR mr a2.cr,.bool tr] 69)) (w.heap.size + 1 + 1) u0 u1 u2 u3 u4) w.heap.size a2.turn m.turn):=fun u0 u1 u2 u3 u4=>by
    have h2:=(hN.calm ((Calm.refl _).alloc (.cells #[.bool false,.slice a2.AL ml a2.cl,.bool tl,.slice a2.AR mr a2.cr,.bool tr] 69))).mono hsz2
    exact ⟨(h2.r.set5 hsz _ _ _ _ _).mono (by omega),(h2.l.set5 hsz _ _ _ _ _).mono (by omega)⟩
   have HV : Hid (ruleV a2.turn m.turn = .agg #[.bool false,.slice a2.AR mr a2.cr,.bool tr,.slice a2.AL ml a2.cl,.bool tl]):=by
    show _ = _
    rw [← hml,← hmr,← htl,← htr,← hex]
    rfl
   have hm:=FiveB.new w3 (.bool false) (.slice a2.AL ml a2.cl) (.bool tl) (.slice a2.AR mr a2.cr) (.bool tr) 69
   have m1:=hm.c1
   have m2:=hm.c2
   have m3:=hm.c3
   have m4:=hm.c4
   have hz:=HBz.out.calm (HC3.out.alloc (.cells #[.bool false,.slice a2.AL ml a2.cl,.bool tl,.slice a2.AR mr a2.cr,.bool tr] 69))
   have z0:=hz.c0
   have z1:=hz.c1
   have z2:=hz.c2
   have z3:=hz.c3
   have z4:=hz.c4
   have f0:=hz.fz 0
   have f1:=hz.fz 1
   have f2:=hz.fz 2
   have f3:=hz.fz 3
   have f4:=hz.fz 4
   clear hz hm hN h1 hex hml hmr htl htr
   go_wp2_with fail
   refine bodyPost_ret (v:=.tuple #[.agg #[.bool false,.slice a2.AR mr a2.cr,.bool tr,.slice a2.AL ml a2.cl,.bool tl],.bool true,.int .i64 0]) ?_ rfl ⟨.inr ⟨m.turn,a2.turn,HX.out,by rw [HV.out],HRu.out _ _ _ _ _⟩,HC8.out _ (HC3.out.alloc _) _ _ _ _ _⟩
   rw [results_cell_tt rfl]
   go_simp
 ·have HX:=Lib.hid (HX1.out hv0)
  have hv1 : (v == 0) = false:=by rw [beq_eq_false_iff_ne];exact hv0
  have hz:=HBz.out.calm hc2
  have z0:=hz.c0
  have z1:=hz.c1
  have z2:=hz.c2
  have z3:=hz.c3
  have z4:=hz.c4
  have f0:=hz.fz 0
  have f1:=hz.fz 1
  have f2:=hz.fz 2
  have f3:=hz.fz 3
  have f4:=hz.fz 4
  clear hz hc2
  go_wp2_with fail
  refine bodyPost_ret (v:=.tuple #[.agg #[.bool false,.slice none 0 0,.bool false,.slice none 0 0,.bool false],.bool false,.int .i64 v]) ?_ rfl ⟨.inl (by rw [HX.out];exact ⟨rfl,rfl⟩),HC8.out _ HC2.out _ _ _ _ _⟩
  rw [results_cell_tt rfl]
  go_simp
end Go.Proofs.YtdcdabbepnahnaaGreatDoor
