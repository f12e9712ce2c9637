/- Walk: the reference's View of a stream. -/
import Derived.Deep.DeepCutAuto
import Derived.Deep.RegionHeld3
import Derived.Test.YtdcdabbepnahnaaGreatDoorZRNarW
import Derived.Test.YtdcdabbepnahnaaGreatDoorZEnty
import Derived.Test.YtdcdabbepnahnaaGreatDoorZTurnR
import Derived.Test.YtdcdabbepnahnaaGreatDoorZRowG
import Derived.Test.YtdcdabbepnahnaaGreatDoorZColE
import Derived.Test.YtdcdabbepnahnaaGreatDoorZMapO
import Derived.Test.YtdcdabbepnahnaaGreatDoorZCopyP
import Derived.Test.YtdcdabbepnahnaaGreatDoorZMapMem
import Derived.Test.YtdcdabbepnahnaaGreatDoorZPcsC
import Derived.Test.YtdcdabbepnahnaaGreatDoorZRSimpW
import Derived.Test.YtdcdabbepnahnaaGreatDoorZSimpW
import Derived.Test.YtdcdabbepnahnaaGreatDoorZRPcW
set_option linter.unusedVariables false
set_option linter.unusedSimpArgs false
namespace Go.Proofs.YtdcdabbepnahnaaGreatDoor
open Go Go.RowKit Sy
set_option maxRecDepth 100000 in
set_option maxHeartbeats 16000000 in
theorem rnright_c (r:Rule) (p:Pat) (a:Pl) (n pc:Nat) (re:Bool) (A:Option Addr) (w:World) (hr:RuleU w a r) (hs:SmallR r) (hp:PatA w A pc p) (hn:p.parts.length=n) (hre:p.rest=re) :
  Calls Tryz.prog 64 #[ruleV a r,.agg #[.slice A n pc,.bool re]] w fun e w'=>NarEnd (narR r p) w.heap.size e w'∧Calm w w':=by
 obtain⟨nl,hnl⟩:∃nl,r.left.parts.length=nl:=⟨_,rfl⟩
 obtain⟨nr,hnr⟩:∃nr,r.right.parts.length=nr:=⟨_,rfl⟩
 obtain⟨lr,hlr⟩:∃lr,r.left.rest=lr:=⟨_,rfl⟩
 obtain⟨rr,hrr⟩:∃rr,r.right.rest=rr:=⟨_,rfl⟩
 obtain⟨ex,hex⟩:∃ex,r.excl=ex:=⟨_,rfl⟩
 obtain⟨w1,hw1⟩:∃w1,w1=((w.alloc (.cells #[.bool ex,.slice a.AL nl a.cl,.bool lr,.slice a.AR nr a.cr,.bool rr] 69)).alloc (.cells #[.slice A n pc,.bool re] 51)).alloc (.cells #[.bool false,.slice none 0 0,.bool false,.slice none 0 0,.bool false] 69):=⟨_,rfl⟩
 have hc1:Calm w w1:=by rw[hw1];exact (((Calm.refl w).alloc _).alloc _).alloc _
 have hbr:FiveB w1 w.heap.size (.bool ex) (.slice a.AL nl a.cl) (.bool lr) (.slice a.AR nr a.cr) (.bool rr):=by
  rw[hw1]
  exact (FiveB.new w _ _ _ _ _ _).calm (((Calm.refl _).alloc _).alloc _)
 have hbp:TwoB w1 (w.heap.size+1) (.slice A n pc) (.bool re):=by
  rw[hw1]
  have:=(TwoB.new (w.alloc (.cells #[.bool ex,.slice a.AL nl a.cl,.bool lr,.slice a.AR nr a.cr,.bool rr] 69)) (.slice A n pc) (.bool re) 51).calm ((Calm.refl _).alloc (.cells #[.bool false,.slice none 0 0,.bool false,.slice none 0 0,.bool false] 69))
  simpa using this
 have hbz:FiveB w1 (w.heap.size+1+1) (.bool false) (.slice none 0 0) (.bool false) (.slice none 0 0) (.bool false):=by
  rw[hw1]
  have:=FiveB.new ((w.alloc (.cells #[.bool ex,.slice a.AL nl a.cl,.bool lr,.slice a.AR nr a.cr,.bool rr] 69)).alloc (.cells #[.slice A n pc,.bool re] 51)) (.bool false) (.slice none 0 0) (.bool false) (.slice none 0 0) (.bool false) 69
  simpa using this
 obtain⟨v,hv⟩:∃v,ruleErr r=v:=⟨_,rfl⟩
 have KR:Hid (∀W,Calm w1 W→Calls Tryz.prog 95 #[.agg #[.bool ex,.slice a.AL nl a.cl,.bool lr,.slice a.AR nr a.cr,.bool rr]] W fun e w'=>e=.returned (.int .i64 v)∧Calm W w'):=fun W hW=>by
  have:=rrule_c r a W ((hr.calm hc1).calm hW) hs
  unfold ruleV at this
  rw[hnl,hnr,hlr,hrr,hex,hv] at this
  exact this
 have KT:Hid (∀W,Calm w1 W→Calls Tryz.prog 104 #[.agg #[.bool ex,.slice a.AL nl a.cl,.bool lr,.slice a.AR nr a.cr,.bool rr]] W fun e w'=>(∃a1,e=.returned (.agg #[.bool ex,.slice a1.AL nr a1.cl,.bool rr,.slice a1.AR nl a1.cr,.bool lr])∧RuleN w' W.heap.size a1 r.turn)∧Calm W w'):=fun W hW=>by
  have:=rturn_c r a W ((hr.calm hc1).calm hW)
  rw[show ruleV a r=.agg #[.bool ex,.slice a.AL nl a.cl,.bool lr,.slice a.AR nr a.cr,.bool rr] from by unfold ruleV;rw[hnl,hnr,hlr,hrr,hex]] at this
  refine this.mono fun e w' h=>?_
  obtain⟨⟨a1,h1,h2⟩,h3⟩:=h
  refine⟨⟨a1,?_,h2⟩,h3⟩
  rw[h1]
  unfold ruleV Rule.turn
  simp only[hnl,hnr,hlr,hrr,hex]
 obtain⟨X,hX⟩:∃X,narL ⟨false,r.right,r.left⟩ p=X:=⟨_,rfl⟩
 have KL:Hid (∀a1 W,Calm w1 W→RuleU W a1 r.turn→Calls Tryz.prog 63 #[.agg #[.bool ex,.slice a1.AL nr a1.cl,.bool rr,.slice a1.AR nl a1.cr,.bool lr],.agg #[.slice A n pc,.bool re]] W fun e w'=>NarEnd X W.heap.size e w'∧Calm W w'):=fun a1 W hW hu=>by
  have:=rnleft_c r.turn p a1 n pc re A W hu hs.turn ((hp.calm hc1).calm hW) hn hre
  rw[show narL r.turn p=X from hX] at this
  rw[show ruleV a1 r.turn=.agg #[.bool ex,.slice a1.AL nr a1.cl,.bool rr,.slice a1.AR nl a1.cr,.bool lr] from by unfold ruleV Rule.turn;simp only[hnl,hnr,hlr,hrr,hex]] at this
  exact this
 have HX1:Hid (v≠0→narR r p=(none,v)):=fun h=>by
  unfold narR
  rw[hv,if_pos h]
 have HX2:Hid (∀x,v=0→X=(none,x)→narR r p=(none,x)):=fun x h h2=>by
  unfold narR
  rw[hv,if_neg (by simpa using h),hX,h2]
  rfl
 have HX3:Hid (∀m,v=0→X=(some m,0)→narR r p=(some m.turn,0)):=fun m h h2=>by
  unfold narR
  rw[hv,if_neg (by simpa using h),hX,h2]
  rfl
 have HE:Hid (∀m x,X=(some m,x)→m.excl=false∧x=0):=fun m x h=>by
  have h1:(narL ⟨false,r.right,r.left⟩ p).1=some m:=by rw[hX,h]
  obtain⟨_,_,g3,m',_,rfl,_,_⟩:=narL_some h1
  rw[hX,h] at g3
  exact⟨rfl,g3⟩
 have HW:=Lib.hid hw1
 have HC:=Lib.hid hc1
 have HBr:=Lib.hid hbr
 have HBp:=Lib.hid hbp
 have HBz:=Lib.hid hbz
 have hsz:w.heap.size+1+1 < w1.heap.size:=hbz.lt
 unfold ruleV
 rw[hnl,hnr,hlr,hrr,hex]
 clear hw1 hc1 hbr hbp hbz hr hs hp hn hre hnl hnr hlr hrr hex hv hX
 have HC8:Hid (∀W,Calm w1 W→∀u0 u1 u2 u3 u4,Calm w (set5 W (w.heap.size+1+1) u0 u1 u2 u3 u4)):=fun W hW u0 u1 u2 u3 u4=>calm5 (HC.out.trans hW) (by omega) _ _ _ _ _
 go_enter Tryz.func64,Tryz.ntmps64
 have b:=HBr.out
 have b0:=b.c0
 have b1:=b.c1
 have b2:=b.c2
 have b3:=b.c3
 have b4:=b.c4
 clear b
 go_wp2_with fail
 rw[←HW.out]
 refine (KR.out w1 (Calm.refl _)).mono ?_
 rintro e w2 ⟨rfl,hc2⟩
 clear b0 b1 b2 b3 b4
 have HC2:=Lib.hid hc2
 by_cases hv0:v=0
 ·subst hv0
  have HSX:Hid (∀W:World,Calm w2 W→W.cell? ⟨w.heap.size,0,none⟩=some (.bool ex)∧W.cell? ⟨w.heap.size,1,none⟩=some (.slice a.AL nl a.cl)∧W.cell? ⟨w.heap.size,2,none⟩=some (.bool lr)∧W.cell? ⟨w.heap.size,3,none⟩=some (.slice a.AR nr a.cr)∧W.cell? ⟨w.heap.size,4,none⟩=some (.bool rr)∧W.cell? ⟨w.heap.size+1,0,none⟩=some (.slice A n pc)∧W.cell? ⟨w.heap.size+1,1,none⟩=some (.bool re)):=fun W hW=>by
   have b:=(HBr.out.calm HC2.out).calm hW
   have q:=(HBp.out.calm HC2.out).calm hW
   exact⟨b.c0,b.c1,b.c2,b.c3,b.c4,q.c0,q.c1⟩
  have hsz2:w1.heap.size≤w2.heap.size:=hc2.size
  clear hc2
  go_upto_region 4 with (fail)
  obtain⟨o,x⟩:=X
  rcases o with _ | m
  ·have HX:=Lib.hid (HX2.out x (by trivial) rfl)
   have KL1:Hid (∀a1 W,Calm w1 W→RuleU W a1 r.turn→Calls Tryz.prog 63 #[.agg #[.bool ex,.slice a1.AL nr a1.cl,.bool rr,.slice a1.AR nl a1.cr,.bool lr],.agg #[.slice A n pc,.bool re]] W fun e w'=>e=.returned (.tuple #[.agg #[.bool false,.slice none 0 0,.bool false,.slice none 0 0,.bool false],.bool false,.int .i64 x])∧Calm W w'):=fun a1 W hW hu=>(KL.out a1 W hW hu).mono fun e w' h=>by
    obtain⟨h1,h2⟩:=h
    refine⟨?_,h2⟩
    rcases h1 with⟨_,h1⟩ | ⟨m,a2,h1,_⟩
    ·exact h1
    ·cases h1
   clear KL HX1 HX2 HX3 HE
   go_cut [9,10] (fun s u wx=>s=.bool false∧u=.int .i64 x∧Hid (Calm w2 wx))
   case first=>
    go_region_held3 (fun W=>W.cell? ⟨w.heap.size,0,none⟩=some (.bool ex)∧W.cell? ⟨w.heap.size,1,none⟩=some (.slice a.AL nl a.cl)∧W.cell? ⟨w.heap.size,2,none⟩=some (.bool lr)∧W.cell? ⟨w.heap.size,3,none⟩=some (.slice a.AR nr a.cr)∧W.cell? ⟨w.heap.size,4,none⟩=some (.bool rr)∧W.cell? ⟨w.heap.size+1,0,none⟩=some (.slice A n pc)∧W.cell? ⟨w.heap.size+1,1,none⟩=some (.bool re))
     (first
      |with_reducible exact HSX.out _ (calm5 hcy hcx.size _ _ _ _ _)
      |with_reducible exact HSX.out _ (calm5 hcy (Nat.le_refl _) _ _ _ _ _)
      |with_reducible exact HSX.out _ hcy
      |with_reducible exact HSX.out _ (hcy.alloc _)
      |with_reducible exact HSX.out _ hcx
      |with_reducible exact HSX.out _ (hcx.alloc _)
      |with_reducible exact HSX.out _ (Calm.refl _)
      |with_reducible exact HSX.out _ (Below.drew (Calm.refl _))
      |with_reducible exact HSX.out _ (Below.drew ((Calm.refl _).alloc _))
      |with_reducible exact HSX.out _ ((Calm.refl _).alloc _)
      |go_keep)
     (first
      |(go_at_call 104;refine (KT.out _ (HC2.out.trans (by first | exact Below.drew (Calm.refl _) | exact Below.drew ((Calm.refl _).alloc _) | exact (Calm.refl _).alloc _ | exact Calm.refl _))).mono ?_;rintro e w4 ⟨⟨a1,rfl,hN4⟩,hc4⟩;have hcx:Calm w2 w4:=Calm.trans (by first | exact Below.drew (Calm.refl _) | exact Below.drew ((Calm.refl _).alloc _) | exact (Calm.refl _).alloc _ | exact Calm.refl _) hc4)
      |(go_at_call 63;refine (KL1.out a1 _ (HC2.out.trans (hcx.trans (by first | exact Calm.refl _ | exact (Calm.refl _).alloc _))) ((hN4.calm (by first | exact Calm.refl _ | exact (Calm.refl _).alloc _)).u)).mono ?_;rintro e w5 ⟨rfl,hc5⟩;have hcy:Calm w2 w5:=Calm.trans (hcx.trans (by first | exact Calm.refl _ | exact (Calm.refl _).alloc _)) hc5;(first | (with_reducible have hZ5:FiveB w5 w4.heap.size (.bool false) (.slice none 0 0) (.bool false) (.slice none 0 0) (.bool false):=FiveB.calm (FiveB.new w4 _ _ _ _ _ _) hc5) | (with_reducible have hZ5:FiveB w5 w2.heap.size (.bool false) (.slice none 0 0) (.bool false) (.slice none 0 0) (.bool false):=FiveB.calm (FiveB.calm (five_drew w2 _) hc4) hc5) | skip);try (have z0:=hZ5.c0;have z1:=hZ5.c1;have z2:=hZ5.c2;have z3:=hZ5.c3;have z4:=hZ5.c4;have f0:=hZ5.fz 0;have f1:=hZ5.fz 1;have f2:=hZ5.fz 2;have f3:=hZ5.fz 3;have f4:=hZ5.fz 4)))
    all_goals
     go_wp2_with fail
     go_meet
     case rel=>
      first
       |(refine⟨rfl,rfl,Lib.hid ?_⟩;with_reducible exact hcy.alloc _)
       |(refine⟨rfl,rfl,Lib.hid ?_⟩;with_reducible exact hcy)
       |(refine⟨rfl,rfl,Lib.hid ?_⟩;with_reducible exact calm5 hcy hcx.size _ _ _ _ _)
       |(refine⟨rfl,rfl,Lib.hid ?_⟩;with_reducible exact calm5 hcy (Nat.le_refl _) _ _ _ _ _)
   case rest=>
    obtain⟨rfl,rfl,HR⟩:=hcut
    have hz:=HBz.out.calm (HC2.out.trans HR.out)
    have z0:=hz.c0
    have z1:=hz.c1
    have z2:=hz.c2
    have z3:=hz.c3
    have z4:=hz.c4
    have f0:=hz.fz 0
    have f1:=hz.fz 1
    have f2:=hz.fz 2
    have f3:=hz.fz 3
    have f4:=hz.fz 4
    clear hz
    go_wp2_with fail
    refine bodyPost_ret (v:=.tuple #[.agg #[.bool false,.slice none 0 0,.bool false,.slice none 0 0,.bool false],.bool false,.int .i64 x]) ?_ rfl ⟨.inl (by rw[HX.out];exact⟨rfl,rfl⟩),HC8.out _ (HC2.out.trans HR.out) _ _ _ _ _⟩
    rw[results_cell_tt rfl]
    go_simp
  ·obtain⟨hmx,rfl⟩:=HE.out m x rfl
   have HX:=Lib.hid (HX3.out m (by trivial) rfl)
   obtain⟨ml,hml⟩:∃ml,m.left.parts.length=ml:=⟨_,rfl⟩
   obtain⟨mr,hmr⟩:∃mr,m.right.parts.length=mr:=⟨_,rfl⟩
   obtain⟨tl,htl⟩:∃tl,m.left.rest=tl:=⟨_,rfl⟩
   obtain⟨tr,htr⟩:∃tr,m.right.rest=tr:=⟨_,rfl⟩
   have KL1:Hid (∀a1 W,Calm w1 W→RuleU W a1 r.turn→Calls Tryz.prog 63 #[.agg #[.bool ex,.slice a1.AL nr a1.cl,.bool rr,.slice a1.AR nl a1.cr,.bool lr],.agg #[.slice A n pc,.bool re]] W fun e w'=>(∃a2,e=.returned (.tuple #[.agg #[.bool false,.slice a2.AL ml a2.cl,.bool tl,.slice a2.AR mr a2.cr,.bool tr],.bool true,.int .i64 0])∧RuleN w' W.heap.size a2 m)∧Calm W w'):=fun a1 W hW hu=>(KL.out a1 W hW hu).mono fun e w' h=>by
    obtain⟨h1,h2⟩:=h
    refine⟨?_,h2⟩
    rcases h1 with⟨h1,_⟩ | ⟨m',a2,h1,h3,h4⟩
    ·cases h1
    ·obtain rfl:m=m':=by simpa using h1
     refine⟨a2,?_,h4⟩
     rw[h3]
     unfold ruleV
     rw[hmx,hml,hmr,htl,htr]
   have KT2:Hid (∀a2 W,RuleN W w1.heap.size a2 m→Calls Tryz.prog 104 #[.agg #[.bool false,.slice a2.AL ml a2.cl,.bool tl,.slice a2.AR mr a2.cr,.bool tr]] W fun e w'=>(∃a3,e=.returned (.agg #[.bool false,.slice a3.AL mr a3.cl,.bool tr,.slice a3.AR ml a3.cr,.bool tl])∧ruleV a3 m.turn=.agg #[.bool false,.slice a3.AL mr a3.cl,.bool tr,.slice a3.AR ml a3.cr,.bool tl]∧RuleN w' W.heap.size a3 m.turn)∧Calm W w'):=fun a2 W hN=>by
    have:=rturn_c m a2 W hN.u
    unfold ruleV at this
    rw[hmx,hml,hmr,htl,htr] at this
    refine this.mono fun e w' h=>?_
    obtain⟨⟨a3,h1,h2⟩,h3⟩:=h
    refine⟨⟨a3,?_,?_,h2⟩,h3⟩
    ·rw[h1]
     unfold ruleV Rule.turn
     simp only[hmx,hml,hmr,htl,htr]
    ·unfold ruleV Rule.turn
     simp only[hmx,hml,hmr,htl,htr]
   clear KL HX1 HX2 HX3 HE hmx hml hmr htl htr
   go_cut [8,9,10] (fun s t u wx=>∃B10 a2,s=.pointer (some ⟨B10,0,none⟩)∧t=.bool true∧u=.int .i64 0∧Hid (LineB w2 wx B10 w1.heap.size a2 m (.bool false) (.slice a2.AL ml a2.cl) (.bool tl) (.slice a2.AR mr a2.cr) (.bool tr)))
   case first=>
    go_region_held3 (fun W=>W.cell? ⟨w.heap.size,0,none⟩=some (.bool ex)∧W.cell? ⟨w.heap.size,1,none⟩=some (.slice a.AL nl a.cl)∧W.cell? ⟨w.heap.size,2,none⟩=some (.bool lr)∧W.cell? ⟨w.heap.size,3,none⟩=some (.slice a.AR nr a.cr)∧W.cell? ⟨w.heap.size,4,none⟩=some (.bool rr)∧W.cell? ⟨w.heap.size+1,0,none⟩=some (.slice A n pc)∧W.cell? ⟨w.heap.size+1,1,none⟩=some (.bool re))
     (first
      |with_reducible exact HSX.out _ (calm5 hcy hcx.size _ _ _ _ _)
      |with_reducible exact HSX.out _ (calm5 hcy (Nat.le_refl _) _ _ _ _ _)
      |with_reducible exact HSX.out _ hcy
      |with_reducible exact HSX.out _ (hcy.alloc _)
      |with_reducible exact HSX.out _ hcx
      |with_reducible exact HSX.out _ (hcx.alloc _)
      |with_reducible exact HSX.out _ (Calm.refl _)
      |with_reducible exact HSX.out _ (Below.drew (Calm.refl _))
      |with_reducible exact HSX.out _ (Below.drew ((Calm.refl _).alloc _))
      |with_reducible exact HSX.out _ ((Calm.refl _).alloc _)
      |go_keep)
     (first
      |(go_at_call 104;refine (KT.out _ (HC2.out.trans (by first | exact Below.drew (Calm.refl _) | exact Below.drew ((Calm.refl _).alloc _) | exact (Calm.refl _).alloc _ | exact Calm.refl _))).mono ?_;rintro e w4 ⟨⟨a1,rfl,hN4⟩,hc4⟩;have hcx:Calm w2 w4:=Calm.trans (by first | exact Below.drew (Calm.refl _) | exact Below.drew ((Calm.refl _).alloc _) | exact (Calm.refl _).alloc _ | exact Calm.refl _) hc4)
      |(go_at_call 63;refine (KL1.out a1 _ (HC2.out.trans (hcx.trans (by first | exact Calm.refl _ | exact (Calm.refl _).alloc _))) ((hN4.calm (by first | exact Calm.refl _ | exact (Calm.refl _).alloc _)).u)).mono ?_;rintro e w5 ⟨⟨a2,rfl,hN5⟩,hc5⟩;have hcy:Calm w2 w5:=Calm.trans (hcx.trans (by first | exact Calm.refl _ | exact (Calm.refl _).alloc _)) hc5;(first | (with_reducible have hZ5:FiveB w5 w4.heap.size (.bool false) (.slice none 0 0) (.bool false) (.slice none 0 0) (.bool false):=FiveB.calm (FiveB.new w4 _ _ _ _ _ _) hc5) | (with_reducible have hZ5:FiveB w5 w2.heap.size (.bool false) (.slice none 0 0) (.bool false) (.slice none 0 0) (.bool false):=FiveB.calm (FiveB.calm (five_drew w2 _) hc4) hc5) | skip);try (have z0:=hZ5.c0;have z1:=hZ5.c1;have z2:=hZ5.c2;have z3:=hZ5.c3;have z4:=hZ5.c4;have f0:=hZ5.fz 0;have f1:=hZ5.fz 1;have f2:=hZ5.fz 2;have f3:=hZ5.fz 3;have f4:=hZ5.fz 4)))
    all_goals
     have hs7:=hc4.size
     have hs8:=hcx.size
     have hs9:=hc5.size
     simp[go_sem] at hs7
     go_wp2_with fail
     go_meet
     case rel=>
      first
       |(refine⟨_,a2,rfl,rfl,rfl,Lib.hid ?_⟩;with_reducible exact lineB_new hcy (by omega) hN5)
       |(refine⟨_,a2,rfl,rfl,rfl,Lib.hid ?_⟩;with_reducible exact lineB_set hZ5 hcy hs8 (by simp[go_sem]) (by simp[go_sem];omega) hN5)
       |(refine⟨_,a2,rfl,rfl,rfl,Lib.hid ?_⟩;with_reducible exact lineB_set hZ5 hcy (Nat.le_refl _) (by omega) (by omega) hN5)
   case rest=>
    obtain⟨B10,a2,rfl,rfl,rfl,HR⟩:=hcut
    have hf:=HR.out.five
    have b0:=hf.c0
    have b1:=hf.c1
    have b2:=hf.c2
    have b3:=hf.c3
    have b4:=hf.c4
    have KT3:=Lib.hid (KT2.out a2 wc HR.out.new)
    clear hf
    go_wp2_with fail
    refine KT3.out.mono ?_
    rintro e w9 ⟨⟨a3,rfl,hv3,hN9⟩,hc9⟩
    have HC9:Hid (Calm w1 w9):=HC2.out.trans (HR.out.calm.trans hc9)
    have HN9:Hid (∀u0 u1 u2 u3 u4,RuleN (Go.Proofs.YtdcdabbepnahnaaGreatDoor.set5 w9 (w.heap.size+1+1) u0 u1 u2 u3 u4) w.heap.size a3 m.turn):=fun u0 u1 u2 u3 u4=>
     ((hN9.mono (show w1.heap.size≤_ from (HC2.out.trans HR.out.calm).size)).set5 hsz _ _ _ _ _).mono (by omega)
    have HV3:=Lib.hid hv3
    have hz:=HBz.out.calm HC9.out
    have z0:=hz.c0
    have z1:=hz.c1
    have z2:=hz.c2
    have z3:=hz.c3
    have z4:=hz.c4
    have f0:=hz.fz 0
    have f1:=hz.fz 1
    have f2:=hz.fz 2
    have f3:=hz.fz 3
    have f4:=hz.fz 4
    clear hz hv3 hN9 hc9 b0 b1 b2 b3 b4
    go_wp2_with fail
    refine bodyPost_ret (v:=.tuple #[.agg #[.bool false,.slice a3.AL mr a3.cl,.bool tr,.slice a3.AR ml a3.cr,.bool tl],.bool true,.int .i64 0]) ?_ rfl ⟨.inr ⟨m.turn,a3,HX.out,by rw[HV3.out],HN9.out _ _ _ _ _⟩,HC8.out _ HC9.out _ _ _ _ _⟩
    rw[results_cell_tt rfl]
    go_simp
 ·have HX:=Lib.hid (HX1.out hv0)
  have hv1:(v == 0)=false:=by rw[beq_eq_false_iff_ne];exact hv0
  have hz:=HBz.out.calm hc2
  have z0:=hz.c0
  have z1:=hz.c1
  have z2:=hz.c2
  have z3:=hz.c3
  have z4:=hz.c4
  have f0:=hz.fz 0
  have f1:=hz.fz 1
  have f2:=hz.fz 2
  have f3:=hz.fz 3
  have f4:=hz.fz 4
  clear hz hc2
  go_wp2_with fail
  refine bodyPost_ret (v:=.tuple #[.agg #[.bool false,.slice none 0 0,.bool false,.slice none 0 0,.bool false],.bool false,.int .i64 v]) ?_ rfl ⟨.inl (by rw[HX.out];exact⟨rfl,rfl⟩),HC8.out _ HC2.out _ _ _ _ _⟩
  rw[results_cell_tt rfl]
  go_simp
end Go.Proofs.YtdcdabbepnahnaaGreatDoor
namespace Go.Proofs.YtdcdabbepnahnaaGreatDoor
open Go Go.RowKit
end Go.Proofs.YtdcdabbepnahnaaGreatDoor
namespace Go.Proofs.YtdcdabbepnahnaaGreatDoor
open Go Go.RowKit Sy
def EntOut (es:List Ent) (er:Int) (B:Nat) (e:Ending) (w':World):Prop:=∃A c,e=.returned (.tuple #[.slice A es.length c,.int .i64 er])∧es.length≤c∧c≤9223372036854775807∧∃zs:List NewE,zs.map (·.e)=es∧ReadX encE 5 w' A zs∧∀z∈zs,EntN w' B z
theorem entOut_err (er:Int) (B:Nat) (w':World):EntOut [] er B (.returned (.tuple #[.slice none 0 0,.int .i64 er])) w':=⟨none,0,rfl,Nat.le_refl _,by omega,[],rfl,fun h=>absurd rfl h,fun z hz=>by cases hz⟩
theorem PatsR.toU {w:World} {A:Option Addr} {ps:List Pat} (h:PatsR w A ps):PatsU w A ps:=
 ⟨by have:=h.len;omega,fun h0=>by
  obtain⟨b,o,hA,hb,hk⟩:=h.at_ h0
  refine⟨b,o,hA,hb,fun k p hp=>?_⟩
  obtain⟨Ak,ck,g1,g2,g3,g4,g5⟩:=hk k p hp
  exact⟨Ak,ck,g1,g2,g3,g4,g5.toU⟩⟩
theorem entsP_stop:∀{ps:List Pc} {k:Nat} {p:Pc},ps[k]?=some p→entOfP p=none→entsP ps=none
 |[],k,p,h,_=>by simp at h
 |q :: r,0,p,h,h0=>by
  obtain rfl:q=p:=by simpa using h
  unfold entsP
  rw[h0]
 |q :: r,k+1,p,h,h0=>by
  have ih:=entsP_stop (ps:=r) (k:=k) (by simpa using h) h0
  unfold entsP
  rcases entOfP q with _ | e
  ·rfl
  ·simp only
   rw[ih]
   rfl
theorem entsP_snoc:∀{ps:List Pc} {p:Pc} {e:Ent} {es:List Ent},entsP ps=some es→entOfP p=some e→entsP (ps++[p])=some (es++[e])
 |[],p,e,es,h,he=>by
  obtain rfl:=Option.some.inj h
  simp only[List.nil_append]
  unfold entsP
  rw[he]
  rfl
 |q :: r,p,e,es,h,he=>by
  rw[List.cons_append]
  unfold entsP at h ⊢
  rcases hq:entOfP q with _ | e'
  ·rw[hq] at h
   cases h
  ·rw[hq] at h
   obtain⟨es',h1,rfl⟩:=Option.map_eq_some_iff.1 h
   simp only
   rw[entsP_snoc h1 he]
   rfl
structure EnsI (w0 wr:World) (v:Value) (ps:List Pc) (k:Nat) (zs:List NewE):Prop where
 own:OwnX encE 5 73 w0 wr v zs
 is:entsP (ps.take k)=some (zs.map (·.e))
 each:∀z∈zs,EntN wr w0.heap.size z
theorem EnsI.nil {w0:World} (ps:List Pc):EnsI w0 w0 (.slice none 0 0) ps 0 []:=⟨OwnX.nil (Calm.refl _),rfl,fun z hz=>by cases hz⟩
theorem EnsI.len {w0 wr:World} {v:Value} {ps:List Pc} {k:Nat} {zs:List NewE} (h:EnsI w0 wr v ps k zs):zs.length≤ps.length:=by
 have:=(entsP_at h.is).1
 rw[List.length_map,List.length_take] at this
 omega
theorem EnsI.add {w0 wr w2 w3:World} {v v2:Value} {ps:List Pc} {k:Nat} {zs:List NewE} {p:Pc} {y:NewE} (h:EnsI w0 wr v ps k zs) (hp:ps[k]?=some p) (he:entOfP p=some y.e) (hc:Calm wr w2) (hy:EntN w2 w0.heap.size y) (hg:w2.grownBy w3 v.ownBlock) (hown:OwnX encE 5 73 w0 w3 v2 (zs++[y])):EnsI w0 w3 v2 ps (k+1) (zs++[y]):=by
 refine⟨hown,?_,fun z hz=>?_⟩
 ·rw[take_snoc hp,entsP_snoc h.is he,List.map_append]
  rfl
 ·rcases List.mem_append.1 hz with hz | hz
  ·exact ((h.each z hz).calm hc).own (by decide) (by decide) (h.own.to hc).own hg
  ·rw[List.mem_singleton] at hz
   subst hz
   exact hy.own (by decide) (by decide) (h.own.to hc).own hg
def ViewEnd (x:Option (List Pc)) (B:Nat) (e:Ending) (w':World):Prop:=
 ((x=none∨∃ps,x=some ps∧entsP ps=none)∧e=.returned (.tuple #[.slice none 0 0,.slice none 0 0,.int .i64 80])) ∨
 (∃ps A c zs A' c',x=some ps∧entsP ps=some (zs.map (·.e))∧e=.returned (.tuple #[.slice A ps.length c,.slice A' zs.length c',.int .i64 0])∧PcsR w' A ps∧ps.length≤c∧c≤9223372036854775807∧ReadX encE 5 w' A' zs∧(∀z∈zs,EntN w' B z)∧zs.length≤c'∧c'≤9223372036854775807)
set_option maxRecDepth 100000 in
set_option maxHeartbeats 16000000 in
theorem view_c (ss:List Strm) (F:Nat) (A:Option Addr) (n c i:Nat) (w:World) (hf:ForestAt w F A n c ss) (hg:Sy.Good ss) (hsm:SmallSS ss) (hz:StrmsZ ss) (hi:i < n) :
  Calls Tryz.prog 23 #[.pointer (some ⟨F,0,none⟩),.int .i64 i] w fun e w'=>ViewEnd (pcs ss i) w.heap.size e w'∧Calm w w':=by
 have KP:=pieces_c ss F A n c i hf.hn hg hsm hz hi w hf
 have hok:∀ps,pcs ss i=some ps→ps.length≤32∧∀p∈ps,PcOk p∧PcZ p:=fun ps h=>⟨pcs_len hg h,fun p hp=>⟨(pcs_mean hg i (by rw[hf.hn];exact hi) ps h).ok p hp,pcs_z hg hz i (by rw[hf.hn];exact hi) ps h p hp⟩⟩
 obtain⟨po,hpo⟩:∃po,pcs ss i=po:=⟨_,rfl⟩
 rw[hpo] at KP hok ⊢
 have HOk:=Lib.hid hok
 clear hpo hok hf hg hsm hz hi
 go_enter Tryz.func23,Tryz.ntmps23
 go_wp2_with fail
 refine KP.mono ?_
 rintro e w2 ⟨hE,hc2⟩
 have HC2:=Lib.hid hc2
 clear hc2 KP
 rcases hE with⟨hx,rfl⟩ | ⟨ps,PA,pc,hx,rfl,hR,hr1,hr2⟩
 ·have HX:Hid (po=none):=hx
  clear hx
  go_wp2_with fail
  refine bodyPost_ret (results_tmp3 rfl _ _ _) rfl ?_
  exact⟨.inl ⟨.inl HX.out,rfl⟩,HC2.out⟩
 ·have HX:Hid (po=some ps):=hx
  obtain⟨np,hnp⟩:∃np,ps.length=np:=⟨_,rfl⟩
  rw[hnp] at hr1 ⊢
  have HNp:=Lib.hid hnp
  have h32:np≤32:=by
   rw[←hnp]
   exact (HOk.out ps hx).1
  have HPs:=Lib.hid (HOk.out ps hx).2
  have HR:=Lib.hid hR
  clear hx hnp hR
  go_wp2_with fail
  go_loopw [9,25] (fun v u wr=>∃(k:Nat) (zs:List NewE),k≤np∧u=.int .i64 k∧Hid (EnsI w2 wr v ps k zs)) (fun _ u _=>np - (intOf u).toNat)
  case atStart=>exact⟨0,[],Nat.zero_le _,rfl,EnsI.nil ps⟩
  case round=>
   obtain⟨k,zs,hk,rfl,HI⟩:=hrel
   obtain⟨wz,rfl⟩:∃wz,wz=wr:=⟨_,rfl⟩
   by_cases hlt:k < np
   ·obtain⟨bu,ou,z,rfl,hbu,hzm,hz9,hza⟩:=HR.out.get (k:=k) (by rw[HNp.out];exact hlt)
    obtain⟨gb,hgb⟩:∃gb,z.p.region.b.parts.length=gb:=⟨_,rfl⟩
    obtain⟨gr,hgr⟩:∃gr,z.p.region.b.rest=gr:=⟨_,rfl⟩
    obtain⟨gk,hgk⟩:∃gk,z.p.region.hs.length=gk:=⟨_,rfl⟩
    obtain⟨pk,hpk⟩:∃pk,z.p.kind=pk:=⟨_,rfl⟩
    obtain⟨ex,hex⟩:∃ex,z.p.line.excl=ex:=⟨_,rfl⟩
    obtain⟨il,hil⟩:∃il,z.p.line.left.parts.length=il:=⟨_,rfl⟩
    obtain⟨lr,hlr⟩:∃lr,z.p.line.left.rest=lr:=⟨_,rfl⟩
    obtain⟨ir,hir⟩:∃ir,z.p.line.right.parts.length=ir:=⟨_,rfl⟩
    obtain⟨rr,hrr⟩:∃rr,z.p.line.right.rest=rr:=⟨_,rfl⟩
    have cw:=HI.out.own.calm
    have x0:=Calm.at_ cw hz9.c0 hbu
    have x1:=Calm.at_ cw hz9.c1 hbu
    have x2:=Calm.at_ cw hz9.c2 hbu
    have x3:=Calm.at_ cw hz9.c3 hbu
    have x4:=Calm.at_ cw hz9.c4 hbu
    have x5:=Calm.at_ cw hz9.c5 hbu
    have x6:=Calm.at_ cw hz9.c6 hbu
    have x7:=Calm.at_ cw hz9.c7 hbu
    have x8:=Calm.at_ cw hz9.c8 hbu
    rw[hgb] at x0
    rw[hgr] at x1
    rw[hgk] at x2
    rw[hpk] at x3
    rw[hex] at x4
    rw[hil] at x5
    rw[hlr] at x6
    rw[hir] at x7
    rw[hrr] at x8
    have hbu:=Nat.lt_of_lt_of_le hbu cw.size
    have HZm:=Lib.hid hzm
    have hpo:=HPs.out z.p (List.mem_of_getElem? hzm)
    have HCa:Hid (Calm wz (wz.alloc (.cells #[.slice z.A gb z.c,.bool gr,.slice z.HA gk z.hc,.int .i64 pk,.bool ex,.slice z.a.AL il z.a.cl,.bool lr,.slice z.a.AR ir z.a.cr,.bool rr] 95))):=(Calm.refl _).alloc _
    have HEn:=Lib.hid (entry_c z gb gk il ir gr ex lr rr pk _ (hza.calm (cw.trans HCa.out)) hpo.1 hpo.2 hgk ⟨hil,hir,hlr,hrr,hex⟩)
    have HS5:Hid (w2.heap.size≤(wz.alloc (.cells #[.slice z.A gb z.c,.bool gr,.slice z.HA gk z.hc,.int .i64 pk,.bool ex,.slice z.a.AL il z.a.cl,.bool lr,.slice z.a.AR ir z.a.cr,.bool rr] 95)).heap.size):=(cw.trans HCa.out).size
    clear cw hz9 hza hzm hpo hgb hgr hgk hpk hex hil hlr hir hrr
    go_wp2_with fail
    refine HEn.out.mono ?_
    rintro e w5 ⟨hE,hc5⟩
    have HC5:Hid (Calm wz w5):=HCa.out.trans hc5
    clear hc5 x0 x1 x2 x3 x4 x5 x6 x7 x8 HEn
    rcases hE with⟨hx,rfl⟩ | ⟨y,hx,rfl,hN⟩
    ·have HNo:Hid (entsP ps=none):=entsP_stop HZm.out hx
     have HCe:Hid (Calm w w5):=HC2.out.trans (HI.out.own.calm.trans HC5.out)
     clear hx
     go_wp2_with fail
     refine bodyPost_ret (results_tmp3 rfl _ _ _) rfl ?_
     exact⟨.inl ⟨.inr ⟨ps,HX.out,HNo.out⟩,rfl⟩,HCe.out.alloc _⟩
    ·obtain⟨q1,hq1⟩:∃q1,y.e.left.parts.length=q1:=⟨_,rfl⟩
     obtain⟨q2,hq2⟩:∃q2,y.e.left.rest=q2:=⟨_,rfl⟩
     obtain⟨q3,hq3⟩:∃q3,y.e.right.parts.length=q3:=⟨_,rfl⟩
     obtain⟨q4,hq4⟩:∃q4,y.e.right.rest=q4:=⟨_,rfl⟩
     obtain⟨q5,hq5⟩:∃q5,y.e.hs.length=q5:=⟨_,rfl⟩
     have hen:(encE y).toArray=#[.slice y.LA q1 y.lc,.bool q2,.slice y.RA q3 y.rc,.bool q4,.slice y.HA q5 y.hc]:=by
      unfold encE
      rw[hq1,hq2,hq3,hq4,hq5]
     rw[hen]
     have HEp:Hid (entOfP z.p=some y.e):=hx
     have HN:Hid (EntN w5 w2.heap.size y):=hN.mono HS5.out
     have HQ:=Lib.hid (And.intro hq1 (And.intro hq2 (And.intro hq3 (And.intro hq4 hq5))))
     have hzl:=HI.out.len
     rw[HNp.out] at hzl
     clear hx hN hen hq1 hq2 hq3 hq4 hq5
     go_upto_region 11 with (fail)
     go_wp2_with (at_builtin;refine wpList_append_xs (enc:=encE) (K:=5) (T:=73) Tryz.underlying25 info_ent rfl (by decide) (by decide) encE_len encE_one rfl (.tmp 37) (.tmp 39) rfl w2 _ zs [y] rfl (HI.out.own.to (HC5.out.trans (((Calm.refl _).alloc _).alloc _))) _ 1 1 rfl rfl (read_newE y (by simp) HQ.out.1 HQ.out.2.1 HQ.out.2.2.1 HQ.out.2.2.2.1 HQ.out.2.2.2.2) (by omega) ?_;intro v7 w7 hown7 hg7)
     have HRel:=Lib.hid (HI.out.add (y:=y) HZm.out HEp.out (HC5.out.trans (((Calm.refl _).alloc _).alloc _)) (HN.out.calm (((Calm.refl _).alloc _).alloc _)) hg7 hown7)
     go_roundw
     case rel=>exact⟨k+1,zs++[y],by omega,by go_num,HRel⟩
     case measure=>simp[intOf];omega
   ·obtain rfl:k=np:=by omega
    have hes:entsP ps=some (zs.map (·.e)):=by
     have:=HI.out.is
     rw[List.take_of_length_le (by rw[HNp.out];exact Nat.le_refl _)] at this
     exact this
    obtain⟨A',c',hv,h1,h2,h3⟩:∃A' c',u9=.slice A' zs.length c'∧zs.length≤c'∧c'≤9223372036854775807∧ReadX encE 5 wz A' zs:=by
     rcases HI.out.own.row encE_len with⟨rfl,h0⟩ | ⟨g,c,rfl,h1,h2,_,hr⟩
     ·subst h0
      exact⟨none,0,rfl,Nat.le_refl _,by omega,fun h=>absurd rfl h⟩
     ·exact⟨_,c,rfl,h1,h2,fun _=>⟨g,0,rfl,hr.lt,fun k x hk i u hu=>hr.cell k x hk i u hu⟩⟩
    obtain⟨Z,hZ⟩:∃Z,zs.length=Z:=⟨_,rfl⟩
    rw[hZ] at hv
    subst hv
    have HCe:Hid (Calm w2 wz):=HI.out.own.calm
    have HFin:Hid (ViewEnd po w.heap.size (.returned (.tuple #[.slice PA k pc,.slice A' Z c',.int .i64 0])) wz):=.inr ⟨ps,PA,pc,zs,A',c',HX.out,hes,by rw[HNp.out,hZ],HR.out.calm HCe.out,by rw[HNp.out];exact hr1,hr2,h3,fun z hz=>(HI.out.each z hz).mono HC2.out.size,h1,h2⟩
    clear hes h1 h2 h3 hZ
    go_wp2_with fail
    refine bodyPost_ret (results_tmp3 rfl _ _ _) rfl ?_
    exact⟨HFin.out,HC2.out.trans HCe.out⟩
def viewR (ss:List Strm) (nm:Str):List Ent × Int:=if readyE ss nm≠0 then ([],readyE ss nm) else match viewI ss ((findI ss nm).getD 0) with
 |none=>([],80)
 |some es=>(es,0)
theorem viewR_bad {ss:List Strm} {nm:Str} (h:readyE ss nm≠0):viewR ss nm=([],readyE ss nm):=by unfold viewR;rw[if_pos h]
theorem viewR_none {ss:List Strm} {nm:Str} {i:Nat} (h:readyE ss nm=0) (hi:findI ss nm=some i) (hv:viewI ss i=none):viewR ss nm=([],80):=by
 unfold viewR
 rw[if_neg (by simpa using h),hi]
 simp[hv]
theorem viewR_some {ss:List Strm} {nm:Str} {i:Nat} {es:List Ent} (h:readyE ss nm=0) (hi:findI ss nm=some i) (hv:viewI ss i=some es):viewR ss nm=(es,0):=by
 unfold viewR
 rw[if_neg (by simpa using h),hi]
 simp[hv]
set_option maxHeartbeats 8000000 in
theorem View_c (ss:List Strm) (nm:Str) (A:Option Addr) (n c:Nat) (w:World) (hs:StrmsU w A ss) (hn:ss.length=n) (hnm:nm.length≤1048576) (hsm:SmallSS ss) (hz:StrmsZ ss) :
  Calls Tryz.prog 9 #[.slice A n c,.string (bs nm)] w fun e w'=>EntOut (viewR ss nm).1 (viewR ss nm).2 w.heap.size e w'∧Calm w w':=by
 have hk:=find_c ss nm A n c w hs hn hnm
 have HN:=Lib.hid hn
 have HSm:=Lib.hid hsm
 have HZ:=Lib.hid hz
 clear hs hn hsm hz
 go_enter Tryz.func9,Tryz.ntmps9
 go_wp2_with fail
 refine hk.mono ?_
 rintro e w1 ⟨hend,hc1⟩
 rcases hend with⟨x,hx0,hr,rfl⟩ | ⟨F,i,hr,hg,hfi,rfl,hf⟩
 ·have hxb:(x != 0)=true:=by simpa using hx0
  have hE:Hid (viewR ss nm=([],x)):=by
   show _=_
   rw[viewR_bad (by rw[hr];exact hx0),hr]
  clear hx0 hr hk
  go_wp2_with fail
  go_ret2
  exact⟨by rw[hE.out];exact entOut_err x _ _,hc1⟩
 ·have hil:i < n:=by rw[←HN.out];exact findI_lt hfi
  have KV:=Lib.hid (view_c ss F A n c i w1 hf hg HSm.out HZ.out hil)
  have HR:=Lib.hid (And.intro hr hfi)
  have HC1:=Lib.hid hc1
  clear hr hfi hf hg hk hc1
  go_wp2_with fail
  refine KV.out.mono ?_
  rintro e w2 ⟨hE,hc2⟩
  have HC2:=Lib.hid hc2
  clear hc2 KV
  rcases hE with⟨hx,rfl⟩ | ⟨ps,PA,pc,zs,A',c',hx,hes,rfl,hR,hr1,hr2,h3,h4,h5,h6⟩
  ·have hE:Hid (viewR ss nm=([],80)):=viewR_none HR.out.1 HR.out.2 (by
    unfold viewI
    rcases hx with hx | ⟨ps,hx,h⟩
    ·rw[hx]
    ·rw[hx]
     exact h)
   clear hx
   go_wp2_with fail
   go_ret2
   exact⟨by rw[hE.out];exact entOut_err 80 _ _,HC1.out.trans HC2.out⟩
  ·have hE:Hid (viewR ss nm=(zs.map (·.e),0)):=viewR_some HR.out.1 HR.out.2 (by
    unfold viewI
    rw[hx]
    exact hes)
   have HO:Hid (EntOut (zs.map (·.e)) 0 w.heap.size (.returned (.tuple #[.slice A' zs.length c',.int .i64 0])) w2):=⟨A',c',by rw[List.length_map],by rw[List.length_map];exact h5,h6,zs,rfl,h3,fun z hz=>(h4 z hz).mono HC1.out.size⟩
   obtain⟨Z,hZ⟩:∃Z,zs.length=Z:=⟨_,rfl⟩
   obtain⟨N,hN⟩:∃N,ps.length=N:=⟨_,rfl⟩
   rw[hZ] at HO
   rw[hZ,hN]
   clear hx hes hR hr1 hr2 h3 h4 h5 h6 hZ hN
   go_wp2_with fail
   go_ret2
   exact⟨by rw[hE.out];exact HO.out,HC1.out.trans HC2.out⟩
def REnyEnd (z:NewC) (l r:Nat) (lr rr:Bool) (x:Option Ent) (B:Nat) (e:Ending) (w':World):Prop:=
 (x=none∧e=.returned (.tuple #[.agg #[.slice none 0 0,.bool false,.slice none 0 0,.bool false,.slice none 0 0],.bool false])) ∨
 (∃ks HA hc hn,x=some ⟨z.p.line.right,z.p.line.left,ks⟩∧e=.returned (.tuple #[.agg #[.slice z.a.AR r z.a.cr,.bool rr,.slice z.a.AL l z.a.cl,.bool lr,.slice HA hn hc],.bool true])∧ks.length=hn∧hn≤64∧PatsN w' B HA hc ks)
set_option maxRecDepth 100000 in
set_option maxHeartbeats 16000000 in
theorem rentry_c (z:NewC) (gh l r:Nat) (lr rr:Bool) (w:World) (hu:PcA w z) (hok:PcOk z.p) (hz:PcZ z.p) (hgh:z.p.region.hs.length=gh)
  (hz1:z.p.line.left.parts.length=l∧z.p.line.right.parts.length=r∧z.p.line.left.rest=lr∧z.p.line.right.rest=rr) :
  Calls Tryz.prog 27 #[.agg #[.bool false,.slice z.a.AR r z.a.cr,.bool rr,.slice z.a.AL l z.a.cl,.bool lr],.slice z.HA gh z.hc] w fun e w'=>REnyEnd z l r lr rr (entOfP z.p) w.heap.size e w'∧Calm w w':=by
 obtain⟨w1,hw1⟩:∃w1,w1=(w.alloc (.cells #[.bool false,.slice z.a.AR r z.a.cr,.bool rr,.slice z.a.AL l z.a.cl,.bool lr] 69)).alloc (.cells #[.slice none 0 0,.bool false,.slice none 0 0,.bool false,.slice none 0 0] 73):=⟨_,rfl⟩
 have hc1:Calm w w1:=by rw[hw1];exact ((Calm.refl w).alloc _).alloc _
 obtain⟨P0,e0⟩:∃P0,w.heap.size=P0:=⟨_,rfl⟩
 obtain⟨P1,e1⟩:∃P1,P0+1=P1:=⟨_,rfl⟩
 have hb0:CellsB w1 P0 [.bool false,.slice z.a.AR r z.a.cr,.bool rr,.slice z.a.AL l z.a.cl,.bool lr]:=by
  rw[hw1,←e0]
  exact (CellsB.new w _ _).calm ((Calm.refl _).alloc _)
 have hb1:CellsB w1 P1 zero5e:=by
  rw[hw1,←e1,←e0]
  have:=CellsB.new (w.alloc (.cells #[.bool false,.slice z.a.AR r z.a.cr,.bool rr,.slice z.a.AL l z.a.cl,.bool lr] 69)) #[.slice none 0 0,.bool false,.slice none 0 0,.bool false,.slice none 0 0] 73
  rwa [World.size_alloc] at this
 have hsr:=smallR_of hok hz
 have hex:z.p.line.excl=false:=hok.ex
 have KN:Hid (∀(p:Pat) (Ak:Option Addr) (pn ck:Nat) (pr:Bool) (W:World),Calm w W→PatA W Ak ck p→p.parts.length=pn→p.rest=pr→Calls Tryz.prog 64 #[.agg #[.bool false,.slice z.a.AR r z.a.cr,.bool rr,.slice z.a.AL l z.a.cl,.bool lr],.agg #[.slice Ak pn ck,.bool pr]] W fun e w'=>NarEnd ((narL z.p.line p).1.map Rule.turn,(narL z.p.line p).2) W.heap.size e w'∧Calm W w'):=fun p Ak pn ck pr W hW hp hpn hpr=>by
  have:=rnright_c z.p.line.turn p z.a.turn pn ck pr Ak W (hu.r.calm hW).turn hsr.turn hp hpn hpr
  unfold ruleV at this
  rw[narR_turn hok.r hok.ex,show z.p.line.turn.left.parts.length=r from hz1.2.1,show z.p.line.turn.right.parts.length=l from hz1.1,show z.p.line.turn.left.rest=rr from hz1.2.2.2,show z.p.line.turn.right.rest=lr from hz1.2.2.1,show z.p.line.turn.excl=false from hex] at this
  exact this
 have h64:gh≤64:=by
  rw[←hgh]
  exact (gErr_zero hok.g).2.2
 have HW:=Lib.hid hw1
 have HE:=Lib.hid (And.intro e0 e1)
 have HC:=Lib.hid hc1
 have HB0:=Lib.hid hb0
 have HB1:=Lib.hid hb1
 have HU:=Lib.hid (hu.g.holes.calm hc1)
 have HUr:=Lib.hid hu.r
 have HOk:=Lib.hid hok
 have HZ:=Lib.hid hz
 have HSr:=Lib.hid hsr
 have HGh:=Lib.hid hgh
 have HZ1:=Lib.hid hz1
 clear hu hok hz hgh hz1 hw1 hc1 e0 e1 hb0 hb1 hsr hex
 go_enter Tryz.func27,Tryz.ntmps27
 go_upto_region 1 with (fail)
 rw[←HW.out]
 simp only[HE.out.1,HE.out.2]
 go_wp2_with fail
 go_loopw [6,15] (fun v u wr=>∃(k:Nat) (ys:List NewP),k≤gh∧u=.int .i64 k∧Hid (ys.length≤k)∧Hid (RgtJ w1 wr z.p.line z.p.region.hs k ys v)) (fun _ u _=>gh - (intOf u).toNat)
 case atStart=>exact⟨0,[],Nat.zero_le _,rfl,Nat.le_refl _,⟨OwnX.nil (Calm.refl _),rfl,fun y hy=>(by cases hy)⟩⟩
 case round=>
  obtain⟨k,ys,hk,rfl,HL,HI⟩:=hrel
  obtain⟨wq,rfl⟩:∃wq,wq=wr:=⟨_,rfl⟩
  have HCq:Hid (Calm w1 wq):=HI.out.own.calm
  have hp2:=HB0.out.calm HCq.out
  have t0:=hp2.at_ 0 _ rfl
  have t1:=hp2.at_ 1 _ rfl
  have t2:=hp2.at_ 2 _ rfl
  have t3:=hp2.at_ 3 _ rfl
  have t4:=hp2.at_ 4 _ rfl
  have lt2:=hp2.lt
  clear hp2
  by_cases hlt:k < gh
  ·obtain⟨bb,o,p,Ak,ck,hA1,hbb,hp,h1,h2,h3,h5,h4⟩:=(HU.out.calm HCq.out).get (k:=k) (by rw[HGh.out];exact hlt)
   rw[hA1]
   obtain⟨pn,hpn⟩:∃pn,p.parts.length=pn:=⟨_,rfl⟩
   obtain⟨pr,hpr⟩:∃pr,p.rest=pr:=⟨_,rfl⟩
   rw[hpn] at h1
   rw[hpr] at h2
   have HP:=Lib.hid hp
   have HPa:Hid (PatA wq Ak ck p):=⟨h4,h3,h5⟩
   have HPn:=Lib.hid (And.intro hpn hpr)
   clear hA1 hp h3 h4 h5 hpn hpr
   go_wp2_with fail
   have HCb:Hid (Calm wq (wq.alloc (.cells #[.slice Ak pn ck,.bool pr] 51))):=(Calm.refl _).alloc _
   refine (KN.out p Ak pn ck pr _ ((HC.out.trans HCq.out).trans HCb.out) (HPa.out.calm HCb.out) HPn.out.1 HPn.out.2).mono ?_
   rintro e w5 ⟨hE,hc5⟩
   have HC5:Hid (Calm wq w5):=HCb.out.trans hc5
   have HS5:Hid (w1.heap.size≤(wq.alloc (.cells #[.slice Ak pn ck,.bool pr] 51)).heap.size):=(HCq.out.trans HCb.out).size
   clear hc5 h1 h2 t0 t1 t2 t3 t4 lt2
   obtain⟨⟨o',x⟩,hX⟩:∃X,narL z.p.line p=X:=⟨_,rfl⟩
   rw[hX] at hE
   have HX:=Lib.hid hX
   clear hX
   rcases hE with⟨h1,rfl⟩ | ⟨n,a2,h1,rfl,hRn⟩
   ·simp only at h1
    have ho':o'=none:=by
     rcases o' with _ | m
     ·rfl
     ·cases h1
    subst ho'
    simp only
    by_cases hx0:x=0
    ·subst hx0
     have HI2:=Lib.hid (HI.out.miss HP.out (by rw[HX.out]) (by rw[HX.out]) (HC5.out.alloc (.cells #[.bool false,.slice none 0 0,.bool false,.slice none 0 0,.bool false] 69)))
     clear h1
     go_wp2_with fail
     go_roundw
     case rel=>exact⟨k+1,ys,by omega,by go_num,Nat.le_succ_of_le HL.out,HI2⟩
     case measure=>simp[intOf];omega
    ·have hx1:(x != 0)=true:=by simpa using hx0
     have HNo:Hid (entOfP z.p=none):=by
      show _=_
      unfold entOfP
      rw[HI.out.stop HP.out (by rw[HX.out];exact hx0)]
      rfl
     have hz5:=HB1.out.calm (HCq.out.trans HC5.out)
     have z0:=hz5.at_ 0 _ rfl
     have z1:=hz5.at_ 1 _ rfl
     have z2:=hz5.at_ 2 _ rfl
     have z3:=hz5.at_ 3 _ rfl
     have z4:=hz5.at_ 4 _ rfl
     have f0:=hz5.fz 0
     have f1:=hz5.fz 1
     have f2:=hz5.fz 2
     have f3:=hz5.fz 3
     have f4:=hz5.fz 4
     have hzl:=hz5.lt
     have hne:¬P1=w5.heap.size:=by omega
     have hne2:¬w5.heap.size=P1:=by omega
     have HCe:Hid (∀u0 u1 u2 u3 u4 X,Calm w ((set5 w5 P1 u0 u1 u2 u3 u4).alloc X)):=fun u0 u1 u2 u3 u4 X=>(calm5 (HC.out.trans (HCq.out.trans HC5.out)) (by have:=HE.out;omega) u0 u1 u2 u3 u4).alloc _
     clear hz5 h1
     go_wp2_with fail
     refine bodyPost_ret (v:=.tuple #[.agg #[.slice none 0 0,.bool false,.slice none 0 0,.bool false,.slice none 0 0],.bool false]) ?_ rfl ⟨.inl ⟨HNo.out,rfl⟩,HCe.out _ _ _ _ _ _⟩
     rw[results_cell_slot3 rfl]
     go_simp
   ·have hx0:x=0:=congrArg Prod.snd h1
    have ho:o'.map Rule.turn=some n:=congrArg Prod.fst h1
    subst hx0
    obtain⟨m,rfl,rfl⟩:=Option.map_eq_some_iff.1 ho
    obtain⟨q0,hq0⟩:∃q0,m.turn.excl=q0:=⟨_,rfl⟩
    obtain⟨q1,hq1⟩:∃q1,m.turn.left.parts.length=q1:=⟨_,rfl⟩
    obtain⟨q2,hq2⟩:∃q2,m.turn.left.rest=q2:=⟨_,rfl⟩
    obtain⟨q3,hq3⟩:∃q3,m.turn.right.parts.length=q3:=⟨_,rfl⟩
    obtain⟨q4,hq4⟩:∃q4,m.turn.right.rest=q4:=⟨_,rfl⟩
    unfold ruleV
    rw[hq0,hq1,hq2,hq3,hq4]
    have hgo:(narL z.p.line p).1=some m:=by rw[HX.out]
    have HSm:Hid (SmallN w5 w1.heap.size ⟨a2.AL,a2.cl,m.right⟩):=⟨hRn.l.mono HS5.out,by
     have:=pat_few (ruleErr_twin.1 (narL_good hgo)).rp
     show m.right.parts.length≤16384
     omega,fun y hy=>by
     have hl:LetP 40 z.p.line.left:=by rw[HOk.out.lb];exact HZ.out.b
     have:=narL_each hgo (L:=80) (by decide) (fun y hy=>by have:=hl y hy;omega) (HZ.out.r.right hl) (fun y hy=>by have:=HZ.out.h p (List.mem_of_getElem? HP.out) y hy;omega) y hy
     omega⟩
    have HQ:Hid (m.right.parts.length=q1∧m.right.rest=q2):=⟨hq1,hq2⟩
    have hlen:ys.length≤k:=HL.out
    clear h1 ho hgo hRn hq0 hq1 hq2 hq3 hq4
    go_upto_region 9 with (fail)
    go_wp2_with (at_builtin;refine wpList_append_ps rfl (.tmp 30) (.tmp 33) rfl w1 _ ys [⟨a2.AL,a2.cl,m.right⟩] rfl (HI.out.own.to (HC5.out.trans (((Calm.refl _).alloc _).alloc _))) _ 1 1 rfl rfl (read_newH ⟨a2.AL,a2.cl,m.right⟩ (by simp) HQ.out.1 HQ.out.2) (by omega) ?_;intro v7 w7 hown7 hg7)
    have HRel:=Lib.hid (HI.out.hit (x:=⟨a2.AL,a2.cl,m.right⟩) HP.out (by rw[HX.out]) (n:=m) (by rw[HX.out]) rfl (HC5.out.trans (((Calm.refl _).alloc _).alloc _)) (HSm.out.calm (((Calm.refl _).alloc _).alloc _)) hg7 hown7)
    go_roundw
    case rel=>exact⟨k+1,ys++[⟨a2.AL,a2.cl,m.right⟩],by omega,by go_num,(by show _≤_;rw[List.length_append,List.length_singleton];omega),HRel⟩
    case measure=>simp[intOf];omega
  ·obtain rfl:k=gh:=by omega
   have his:rightHs z.p.line z.p.region.hs=some (ys.map (·.p)):=by
    have:=HI.out.is
    rw[List.take_of_length_le (by rw[HGh.out];exact Nat.le_refl _)] at this
    exact this
   obtain⟨HA,hac,hv⟩:=HI.out.own.len_shape
   have hps:PatsR wq HA (ys.map (·.p)):=by
    have:=HI.out.own
    rw[hv] at this
    exact own_readsR this (fun y hy=>(HI.out.each y hy).a) (by have:=HL.out;omega)
   obtain⟨N,hN⟩:∃N,ys.length=N:=⟨_,rfl⟩
   rw[hN] at hv
   subst hv
   have hNk:N≤k:=by have:=HL.out;omega
   obtain⟨ks,hks⟩:∃ks,ys.map (·.p)=ks:=⟨_,rfl⟩
   have hkl:ks.length=N:=by rw[←hks,List.length_map,hN]
   rw[hks] at his hps
   have tw:=ruleErr_twin.1 HOk.out.r
   have hl:LetP 40 z.p.line.left:=by rw[HOk.out.lb];exact HZ.out.b
   have hrl:=HZ.out.r.right hl
   obtain⟨hn,hhn⟩:∃hn,(redL z.p.line.right ks).length=hn:=⟨_,rfl⟩
   have hru:=HUr.out.calm (HC.out.trans HCq.out)
   have hu3:PatA wq z.a.AR z.a.cr z.p.line.right:=⟨hru.right HSr.out,hru.rroom,hru.rcap⟩
   have KRd:Hid (Calls Tryz.prog 59 #[.agg #[.slice z.a.AR r z.a.cr,.bool rr],.slice HA N hac] wq fun e w'=>(∃HA3 hc3,e=.returned (.agg #[.slice z.a.AR r z.a.cr,.bool rr,.slice HA3 hn hc3])∧PatsN w' wq.heap.size HA3 hc3 (redL z.p.line.right ks))∧Calm wq w'):=by
    have:=rsimp_c z.p.line.right ks z.a.AR z.a.cr HA N hac wq hu3 hps hkl tw.rp (rightHs_good his).1
    unfold RSEnd at this
    rw[HZ1.out.2.1,HZ1.out.2.2.2,hhn] at this
    exact this
   have HIs:Hid (entOfP z.p=some ⟨z.p.line.right,z.p.line.left,redL z.p.line.right ks⟩):=by
    show _=_
    unfold entOfP
    rw[his]
    rfl
   have HHn:Hid ((redL z.p.line.right ks).length=hn∧hn≤64):=⟨hhn,by
    have:=redL_len z.p.line.right ks
    rw[hhn,hkl] at this
    omega⟩
   clear his hps hN hks hkl tw hl hrl hhn hu3 hru
   go_wp2_with fail
   refine KRd.out.mono ?_
   rintro e w5 ⟨⟨HA3,hc3,rfl,hP5⟩,hc5⟩
   have t1:=Calm.at_ hc5 t1 lt2
   have t2:=Calm.at_ hc5 t2 lt2
   have t3:=Calm.at_ hc5 t3 lt2
   have t4:=Calm.at_ hc5 t4 lt2
   have lt2:=Nat.lt_of_lt_of_le lt2 hc5.size
   have hz5:=HB1.out.calm (HCq.out.trans hc5)
   have z0:=hz5.at_ 0 _ rfl
   have z1:=hz5.at_ 1 _ rfl
   have z2:=hz5.at_ 2 _ rfl
   have z3:=hz5.at_ 3 _ rfl
   have z4:=hz5.at_ 4 _ rfl
   have f0:=hz5.fz 0
   have f1:=hz5.fz 1
   have f2:=hz5.fz 2
   have f3:=hz5.fz 3
   have f4:=hz5.fz 4
   have hzl:=hz5.lt
   have hne:¬P1=w5.heap.size:=by omega
   have hne2:¬w5.heap.size=P1:=by omega
   have hP1:P1 < w1.heap.size:=HB1.out.lt
   have HCe:Hid (∀u0 u1 u2 u3 u4 X,Calm w ((set5 w5 P1 u0 u1 u2 u3 u4).alloc X)):=fun u0 u1 u2 u3 u4 X=>(calm5 (HC.out.trans (HCq.out.trans hc5)) (by have:=HE.out;omega) u0 u1 u2 u3 u4).alloc _
   have HEn:Hid (∀u0 u1 u2 u3 u4 X,PatsN ((set5 w5 P1 u0 u1 u2 u3 u4).alloc X) w.heap.size HA3 hc3 (redL z.p.line.right ks)):=fun u0 u1 u2 u3 u4 X=>
    (((hP5.mono HCq.out.size).set5 hP1 u0 u1 u2 u3 u4).mono HC.out.size).calm ((Calm.refl _).alloc _)
   clear hz5 hP5 hc5 KRd t0
   go_wp2_with fail
   refine bodyPost_ret (v:=.tuple #[.agg #[.slice z.a.AR r z.a.cr,.bool rr,.slice z.a.AL l z.a.cl,.bool lr,.slice HA3 hn hc3],.bool true]) ?_ rfl ⟨.inr ⟨redL z.p.line.right ks,HA3,hc3,hn,HIs.out,rfl,HHn.out.1,HHn.out.2,HEn.out _ _ _ _ _ _⟩,HCe.out _ _ _ _ _ _⟩
   rw[results_cell_slot3 rfl]
   go_simp
theorem rwhole_none {ss:List Strm} (h:Sy.Good ss) {i:Nat} (hi:i < ss.length) (hp:parentI ss i=none):rwhole true (strm ss i).name (some []) (strm ss i).paths=pcs ss i:=by
 rw[←rpcs_eq h i hi]
 unfold rpcs
 rw[h.none hp]
 show capN (rrest true _ [] _ [])=capN (some (rmainPs _ _))
 simp[rrest]
theorem rwhole_some {ss:List Strm} (h:Sy.Good ss) {i p:Nat} (hi:i < ss.length) (hp:parentI ss i=some p):rwhole false (strm ss i).name (pcs ss p) (strm ss i).paths=pcs ss i:=by
 rw[←rpcs_eq h i hi,←rpcs_eq h p (parentI_lt hp)]
 unfold rpcs
 rw[h.some hp]
 conv=>rhs;unfold rpcsL
 unfold rwhole
 rcases rpcsL ss (p :: above ss p) with _ | u
 ·rfl
 ·show capN (rrest false _ u _ [])=capN (rlinesPs _ u _)
  simp only[rrest,Bool.false_eq_true,if_false,List.nil_append]
  rcases rlinesPs (strm ss i).name u (strm ss i).paths with _ | l <;> rfl
theorem parent_is {ss:List Strm} {i p:Nat} (hp:parentI ss i=some p):(strm ss i).parent≠[]∧(strm ss p).name=(strm ss i).parent:=by
 unfold parentI at hp
 by_cases e:(strm ss i).parent=[]
 ·rw[if_pos e] at hp
  cases hp
 ·rw[if_neg e] at hp
  obtain⟨s,h1,h2,_⟩:=findI_some hp
  exact⟨e,by rw[strm_at h1];exact h2⟩
theorem rpieces_c (ss:List Strm) (A:Option Addr) (n c i:Nat) (hn:ss.length=n) (hg:Sy.Good ss) (hsm:SmallSS ss) (hz:StrmsZ ss) (hi:i < n):∀w,StrmsU w A ss →
  Calls Tryz.prog 26 #[.slice A n c,.string (bs (strm ss i).name)] w fun e w'=>RpEnd (pcs ss i) e w'∧Calm w w':=by
 refine hg.above_ind (P:=fun i=>∀w,StrmsU w A ss→Calls Tryz.prog 26 #[.slice A n c,.string (bs (strm ss i).name)] w fun e w'=>RpEnd (pcs ss i) e w'∧Calm w w') ?_ ?_ i (by omega)
 ·intro i hi hp w hs
  have hpa:=hg.parent hi hp
  rw[←rwhole_none hg hi hp]
  exact rpieces_step ss A n c i _ [] true (some []) w hs hn (by omega) hg rfl hpa rfl (hsm.at_ hi) (hz.at_ hi) (fun _=>rfl) (fun ups h=>by
   obtain rfl:=Option.some.inj h
   exact⟨fun p hp=>(by cases hp),by decide⟩) (fun h=>by cases h)
 ·intro i p hi hp ih w hs
  have hpl:=parentI_lt hp
  obtain⟨hne,hnm⟩:=parent_is hp
  rw[←rwhole_some hg hi hp]
  exact rpieces_step ss A n c i _ _ false (pcs ss p) w hs hn (by omega) hg rfl rfl (by
   cases h:(strm ss i).parent with
   |nil=>exact absurd h hne
   |cons a b=>rfl) (hsm.at_ hi) (hz.at_ hi) (fun h=>by cases h) (fun ups h=>⟨fun q hq=>⟨((pcs_mean hg p hpl ups h).ok q hq).up,(pcs_z hg hz p hpl ups h q hq).up⟩,pcs_len hg h⟩) (fun _ W hW=>by
   have:=ih W (hs.calm hW)
   rw[hnm] at this
   exact this)
structure EntO (w0 w:World) (x:NewE):Prop where
 l:PatA w0 x.LA x.lc x.e.left
 r:PatA w0 x.RA x.rc x.e.right
 h:PatsN w w0.heap.size x.HA x.hc x.e.hs
 few:x.e.hs.length≤16384
theorem EntO.calm {w0 w w':World} {x:NewE} (h:EntO w0 w x) (hc:Calm w w'):EntO w0 w' x:=⟨h.l,h.r,h.h.calm hc,h.few⟩
theorem EntO.own {w0 w w':World} {x:NewE} (h:EntO w0 w x) {B0 n K:Nat} {v:Value} {T:TypeId} {xs:List Value} (hT:51≠T) (hS:9≠T) (hown:w.ownsRow B0 T K v n xs) (hg:w.grownBy w' v.ownBlock):EntO w0 w' x:=
 ⟨h.l,h.r,h.h.own hT hS hown hg,h.few⟩
theorem EntO.u {w0 w:World} {x:NewE} (h:EntO w0 w x) (hc:Calm w0 w):EntU w x:=⟨h.l.calm hc,h.r.calm hc,h.h.reads h.few,h.h.room,h.h.cap⟩
structure EnqI (w0 wr:World) (v:Value) (ps:List Pc) (k:Nat) (zs:List NewE):Prop where
 own:OwnX encE 5 73 w0 wr v zs
 is:entsP (ps.take k)=some (zs.map (·.e))
 each:∀z∈zs,EntO w0 wr z
theorem EnqI.nil {w0:World} (ps:List Pc):EnqI w0 w0 (.slice none 0 0) ps 0 []:=⟨OwnX.nil (Calm.refl _),rfl,fun z hz=>by cases hz⟩
theorem EnqI.len {w0 wr:World} {v:Value} {ps:List Pc} {k:Nat} {zs:List NewE} (h:EnqI w0 wr v ps k zs):zs.length≤ps.length:=by
 have:=(entsP_at h.is).1
 rw[List.length_map,List.length_take] at this
 omega
theorem EnqI.add {w0 wr w2 w3:World} {v v2:Value} {ps:List Pc} {k:Nat} {zs:List NewE} {p:Pc} {y:NewE} (h:EnqI w0 wr v ps k zs) (hp:ps[k]?=some p) (he:entOfP p=some y.e) (hc:Calm wr w2) (hy:EntO w0 w2 y) (hg:w2.grownBy w3 v.ownBlock) (hown:OwnX encE 5 73 w0 w3 v2 (zs++[y])):EnqI w0 w3 v2 ps (k+1) (zs++[y]):=by
 refine⟨hown,?_,fun z hz=>?_⟩
 ·rw[take_snoc hp,entsP_snoc h.is he,List.map_append]
  rfl
 ·rcases List.mem_append.1 hz with hz | hz
  ·exact ((h.each z hz).calm hc).own (by decide) (by decide) (h.own.to hc).own hg
  ·rw[List.mem_singleton] at hz
   subst hz
   exact hy.own (by decide) (by decide) (h.own.to hc).own hg
def RvEnd (x:Option (List Ent)) (e:Ending) (w':World):Prop:=
 (x=none∧∃v,e=.returned (.tuple #[v,.bool false])) ∨
 (∃es A c,x=some es∧e=.returned (.tuple #[.slice A es.length c,.bool true])∧EntsR w' A es∧es.length≤c∧c≤9223372036854775807)
set_option maxRecDepth 100000 in
set_option maxHeartbeats 16000000 in
theorem rview_c (ss:List Strm) (nm:Str) (A:Option Addr) (n c i:Nat) (w:World) (hs:StrmsU w A ss) (hn:ss.length=n) (hg:Sy.Good ss) (hsm:SmallSS ss) (hz:StrmsZ ss) (hfi:findI ss nm=some i) :
  Calls Tryz.prog 11 #[.slice A n c,.string (bs nm)] w fun e w'=>RvEnd (viewI ss i) e w'∧Calm w w':=by
 have hi:i < n:=by rw[←hn];exact findI_lt hfi
 obtain⟨s,hsi,hsn,_⟩:=findI_some hfi
 have KP:=Lib.hid (rpieces_c ss A n c i hn hg hsm hz hi w hs)
 rw[strm_at hsi,hsn] at KP
 have hok:∀ps,pcs ss i=some ps→ps.length≤32∧∀p∈ps,PcOk p∧PcZ p:=fun ps h=>⟨pcs_len hg h,fun p hp=>⟨(pcs_mean hg i (by rw[hn];exact hi) ps h).ok p hp,pcs_z hg hz i (by rw[hn];exact hi) ps h p hp⟩⟩
 have hvi:viewI ss i=match pcs ss i with
  |none=>none
  |some ps=>entsP ps:=rfl
 rw[hvi]
 obtain⟨po,hpo⟩:∃po,pcs ss i=po:=⟨_,rfl⟩
 rw[hpo] at KP hok ⊢
 have HOk:=Lib.hid hok
 clear hpo hok hs hg hsm hz hi hfi hsi hsn hvi hn
 go_enter Tryz.func11,Tryz.ntmps11
 go_wp2_with fail
 refine KP.out.mono ?_
 rintro e w2 ⟨hE,hc2⟩
 have HC2:=Lib.hid hc2
 clear hc2 KP
 rcases hE with⟨hx,v,rfl⟩ | ⟨ps,PA,pc,hx,rfl,hR,hr1,hr2⟩
 ·subst hx
  go_wp2_with fail
  go_ret2
  exact⟨.inl ⟨rfl,_,rfl⟩,HC2.out⟩
 ·subst hx
  obtain⟨np,hnp⟩:∃np,ps.length=np:=⟨_,rfl⟩
  rw[hnp] at hr1 ⊢
  have HNp:=Lib.hid hnp
  have h32:np≤32:=by
   rw[←hnp]
   exact (HOk.out ps rfl).1
  have HPs:=Lib.hid (HOk.out ps rfl).2
  have HR:=Lib.hid hR
  clear hnp hR HOk
  go_wp2_with fail
  go_loopw [8,23] (fun v u wr=>∃(k:Nat) (zs:List NewE),k≤np∧u=.int .i64 k∧Hid (EnqI w2 wr v ps k zs)) (fun _ u _=>np - (intOf u).toNat)
  case atStart=>exact⟨0,[],Nat.zero_le _,rfl,EnqI.nil ps⟩
  case round=>
   obtain⟨k,zs,hk,rfl,HI⟩:=hrel
   obtain⟨wz,rfl⟩:∃wz,wz=wr:=⟨_,rfl⟩
   by_cases hlt:k < np
   ·obtain⟨bu,ou,z,rfl,hbu,hzm,hz9,hza⟩:=HR.out.get (k:=k) (by rw[HNp.out];exact hlt)
    obtain⟨gb,hgb⟩:∃gb,z.p.region.b.parts.length=gb:=⟨_,rfl⟩
    obtain⟨gr,hgr⟩:∃gr,z.p.region.b.rest=gr:=⟨_,rfl⟩
    obtain⟨gk,hgk⟩:∃gk,z.p.region.hs.length=gk:=⟨_,rfl⟩
    obtain⟨pk,hpk⟩:∃pk,z.p.kind=pk:=⟨_,rfl⟩
    obtain⟨ex,hex⟩:∃ex,z.p.line.excl=ex:=⟨_,rfl⟩
    obtain⟨il,hil⟩:∃il,z.p.line.left.parts.length=il:=⟨_,rfl⟩
    obtain⟨lr,hlr⟩:∃lr,z.p.line.left.rest=lr:=⟨_,rfl⟩
    obtain⟨ir,hir⟩:∃ir,z.p.line.right.parts.length=ir:=⟨_,rfl⟩
    obtain⟨rr,hrr⟩:∃rr,z.p.line.right.rest=rr:=⟨_,rfl⟩
    have cw:=HI.out.own.calm
    have x0:=Calm.at_ cw hz9.c0 hbu
    have x1:=Calm.at_ cw hz9.c1 hbu
    have x2:=Calm.at_ cw hz9.c2 hbu
    have x3:=Calm.at_ cw hz9.c3 hbu
    have x4:=Calm.at_ cw hz9.c4 hbu
    have x5:=Calm.at_ cw hz9.c5 hbu
    have x6:=Calm.at_ cw hz9.c6 hbu
    have x7:=Calm.at_ cw hz9.c7 hbu
    have x8:=Calm.at_ cw hz9.c8 hbu
    rw[hgb] at x0
    rw[hgr] at x1
    rw[hgk] at x2
    rw[hpk] at x3
    rw[hex] at x4
    rw[hil] at x5
    rw[hlr] at x6
    rw[hir] at x7
    rw[hrr] at x8
    have hbu:=Nat.lt_of_lt_of_le hbu cw.size
    have HZm:=Lib.hid hzm
    have hpo:=HPs.out z.p (List.mem_of_getElem? hzm)
    have HCa:Hid (Calm wz (wz.alloc (.cells #[.slice z.A gb z.c,.bool gr,.slice z.HA gk z.hc,.int .i64 pk,.bool ex,.slice z.a.AL il z.a.cl,.bool lr,.slice z.a.AR ir z.a.cr,.bool rr] 71))):=(Calm.refl _).alloc _
    have HEn:=Lib.hid (rentry_c z gk il ir lr rr _ (hza.calm (cw.trans HCa.out)) hpo.1 hpo.2 hgk ⟨hil,hir,hlr,hrr⟩)
    have HS5:Hid (w2.heap.size≤(wz.alloc (.cells #[.slice z.A gb z.c,.bool gr,.slice z.HA gk z.hc,.int .i64 pk,.bool ex,.slice z.a.AL il z.a.cl,.bool lr,.slice z.a.AR ir z.a.cr,.bool rr] 71)).heap.size):=(cw.trans HCa.out).size
    have hsr:=smallR_of hpo.1 hpo.2
    have HPl:Hid (PatA w2 z.a.AR z.a.cr z.p.line.right∧PatA w2 z.a.AL z.a.cl z.p.line.left):=⟨⟨hza.r.right hsr,hza.r.rroom,hza.r.rcap⟩,⟨hza.r.left hsr,hza.r.lroom,hza.r.lcap⟩⟩
    have HZL:Hid (z.p.line.left.parts.length=il∧z.p.line.left.rest=lr∧z.p.line.right.parts.length=ir∧z.p.line.right.rest=rr):=⟨hil,hlr,hir,hrr⟩
    clear cw hz9 hza hzm hpo hsr hgb hgr hgk hpk hex hil hlr hir hrr
    go_wp2_with fail
    refine HEn.out.mono ?_
    rintro e w5 ⟨hE,hc5⟩
    have HC5:Hid (Calm wz w5):=HCa.out.trans hc5
    clear hc5 x0 x1 x2 x3 x4 x5 x6 x7 x8 HEn
    rcases hE with⟨hx,rfl⟩ | ⟨ks,HA,hc,hn,hx,rfl,hkn,hn64,hN⟩
    ·have HNo:Hid (entsP ps=none):=entsP_stop HZm.out hx
     have HCe:Hid (Calm w w5):=HC2.out.trans (HI.out.own.calm.trans HC5.out)
     clear hx
     go_wp2_with fail
     go_ret2
     exact⟨.inl ⟨HNo.out,_,rfl⟩,HCe.out.alloc _⟩
    ·have HEp:Hid (entOfP z.p=some ⟨z.p.line.right,z.p.line.left,ks⟩):=hx
     have HN:Hid (EntO w2 w5 ⟨z.a.AR,z.a.cr,z.a.AL,z.a.cl,HA,hc,⟨z.p.line.right,z.p.line.left,ks⟩⟩):=⟨HPl.out.1,HPl.out.2,hN.mono HS5.out,by show ks.length≤_;omega⟩
     have HKn:=Lib.hid hkn
     have hzl:=HI.out.len
     rw[HNp.out] at hzl
     clear hx hN hkn
     go_upto_region 11 with (fail)
     go_wp2_with (at_builtin;refine wpList_append_xs (enc:=encE) (K:=5) (T:=73) Tryz.underlying25 info_ent rfl (by decide) (by decide) encE_len encE_one rfl (.tmp 43) (.tmp 45) rfl w2 _ zs [⟨z.a.AR,z.a.cr,z.a.AL,z.a.cl,HA,hc,⟨z.p.line.right,z.p.line.left,ks⟩⟩] rfl (HI.out.own.to (HC5.out.trans (((Calm.refl _).alloc _).alloc _))) _ 1 1 rfl rfl (read_newE ⟨z.a.AR,z.a.cr,z.a.AL,z.a.cl,HA,hc,⟨z.p.line.right,z.p.line.left,ks⟩⟩ (by simp) HZL.out.2.2.1 HZL.out.2.2.2 HZL.out.1 HZL.out.2.1 HKn.out) (by omega) ?_;intro v7 w7 hown7 hg7)
     have HRel:=Lib.hid (HI.out.add (y:=⟨z.a.AR,z.a.cr,z.a.AL,z.a.cl,HA,hc,⟨z.p.line.right,z.p.line.left,ks⟩⟩) HZm.out HEp.out (HC5.out.trans (((Calm.refl _).alloc _).alloc _)) (HN.out.calm (((Calm.refl _).alloc _).alloc _)) hg7 hown7)
     go_roundw
     case rel=>exact⟨k+1,zs++[⟨z.a.AR,z.a.cr,z.a.AL,z.a.cl,HA,hc,⟨z.p.line.right,z.p.line.left,ks⟩⟩],by omega,by go_num,HRel⟩
     case measure=>simp[intOf];omega
   ·obtain rfl:k=np:=by omega
    have hes:entsP ps=some (zs.map (·.e)):=by
     have:=HI.out.is
     rw[List.take_of_length_le (by rw[HNp.out];exact Nat.le_refl _)] at this
     exact this
    obtain⟨A',c',hv,h1,h2,h3⟩:∃A' c',u8=.slice A' zs.length c'∧zs.length≤c'∧c'≤9223372036854775807∧ReadX encE 5 wz A' zs:=by
     rcases HI.out.own.row encE_len with⟨rfl,h0⟩ | ⟨g,c,rfl,h1,h2,_,hr⟩
     ·subst h0
      exact⟨none,0,rfl,Nat.le_refl _,by omega,fun h=>absurd rfl h⟩
     ·exact⟨_,c,rfl,h1,h2,fun _=>⟨g,0,rfl,hr.lt,fun k x hk i u hu=>hr.cell k x hk i u hu⟩⟩
    obtain⟨Z,hZ⟩:∃Z,zs.length=Z:=⟨_,rfl⟩
    rw[hZ] at hv
    subst hv
    have HCe:Hid (Calm w2 wz):=HI.out.own.calm
    have HFin:Hid (RvEnd (entsP ps) (.returned (.tuple #[.slice A' Z c',.bool true])) wz):=.inr ⟨zs.map (·.e),A',c',hes,by rw[List.length_map,hZ],⟨zs,rfl,h3,fun z hz=>(HI.out.each z hz).u HI.out.own.calm⟩,by rw[List.length_map];exact h1,h2⟩
    clear hes h1 h2 h3 hZ
    go_wp2_with fail
    go_ret2
    exact⟨HFin.out,HC2.out.trans HCe.out⟩
end Go.Proofs.YtdcdabbepnahnaaGreatDoor
