/- Walk: stream.entry. -/
import Derived.Deep.RegionLaw
import Derived.Deep.RegionHeld3
import Derived.Deep.DeepCutAuto
import Derived.Test.YtcofdlipapnohaaGreatDoorZNewS
import Derived.Test.YtcofdlipapnohaaGreatDoorZFill
import Derived.Test.YtcofdlipapnohaaGreatDoorZFwdP
import Derived.Test.YtcofdlipapnohaaGreatDoorZRSameG
import Derived.Test.YtcofdlipapnohaaGreatDoorZMeetP
import Derived.Test.YtcofdlipapnohaaGreatDoorZNarW
import Derived.Test.YtcofdlipapnohaaGreatDoorZMapA
import Derived.Test.YtcofdlipapnohaaGreatDoorZRegB
import Derived.Test.YtcofdlipapnohaaGreatDoorZPcsI
set_option linter.unusedVariables false
set_option linter.unusedSimpArgs false
namespace Go.Proofs.YtcofdlipapnohaaGreatDoor
open Go Go.RowKit Sy
theorem StrsR.grown {w w':World} {A:Option Addr} {ls:List Str} {row:Option Nat} (h:StrsR w A ls) (hg:w.grownBy w' row) (hne:∀a,A=some a→row≠some a.block):StrsR w' A ls:=by
 refine⟨h.len,h.each,fun h0=>?_⟩
 obtain⟨b,o,hA,hb,hk⟩:=h.at_ h0
 exact⟨b,o,hA,Nat.lt_of_lt_of_le hb hg.size,fun k l hl=>hg.cell (hk k l hl) (fun e=>hne _ hA e.symm)⟩
theorem StrsG.grown {w w':World} {A:Option Addr} {ls:List Str} {row:Option Nat} (h:StrsG w A ls) (hg:w.grownBy w' row) (hne:∀a,A=some a→row≠some a.block):StrsG w' A ls:=by
 refine⟨h.len,h.each,fun h0=>?_⟩
 obtain⟨b,o,hA,hb,hk⟩:=h.at_ h0
 exact⟨b,o,hA,Nat.lt_of_lt_of_le hb hg.size,fun k l hl=>hg.cell (hk k l hl) (fun e=>hne _ hA e.symm)⟩
def TurnEnd (r:Rule) (B:Nat) (e:Ending) (w':World):Prop:=∃a,e=.returned (ruleV a r.turn)∧RuleN w' B a r.turn
structure BoxT (w1:World) (B:Nat) (a:Pl) (nl nr:Nat) (lr rr ex:Bool):Prop where
 size:w1.heap.size=B+2
 c0:w1.cell? ⟨B,0,none⟩=some (.bool ex)
 c1:w1.cell? ⟨B,1,none⟩=some (.slice a.AL nl a.cl)
 c2:w1.cell? ⟨B,2,none⟩=some (.bool lr)
 c3:w1.cell? ⟨B,3,none⟩=some (.slice a.AR nr a.cr)
 c4:w1.cell? ⟨B,4,none⟩=some (.bool rr)
 d0:w1.cell? ⟨B+1,0,none⟩=some (.bool false)
 d1:w1.cell? ⟨B+1,1,none⟩=some (.slice none 0 0)
 d2:w1.cell? ⟨B+1,2,none⟩=some (.bool false)
 d3:w1.cell? ⟨B+1,3,none⟩=some (.slice none 0 0)
 d4:w1.cell? ⟨B+1,4,none⟩=some (.bool false)
 f:∀o,w1.frozen? ⟨B+1,o,none⟩=false
theorem BoxT.S {w1 w2:World} {B:Nat} {a:Pl} {nl nr:Nat} {lr rr ex:Bool} (h:BoxT w1 B a nl nr lr rr ex) (hc:Below (B+1) w1 w2):Below (B+1) w1 w2∧w2.cell? ⟨B,0,none⟩=some (.bool ex)∧w2.cell? ⟨B,1,none⟩=some (.slice a.AL nl a.cl)∧w2.cell? ⟨B,2,none⟩=some (.bool lr)∧w2.cell? ⟨B,3,none⟩=some (.slice a.AR nr a.cr)∧w2.cell? ⟨B,4,none⟩=some (.bool rr):=
 ⟨hc,(hc.cell (p:=⟨B,0,none⟩) (Nat.lt_succ_self B)).trans h.c0,(hc.cell (p:=⟨B,1,none⟩) (Nat.lt_succ_self B)).trans h.c1,(hc.cell (p:=⟨B,2,none⟩) (Nat.lt_succ_self B)).trans h.c2,(hc.cell (p:=⟨B,3,none⟩) (Nat.lt_succ_self B)).trans h.c3,(hc.cell (p:=⟨B,4,none⟩) (Nat.lt_succ_self B)).trans h.c4⟩
theorem BoxT.low {w1 w2:World} {B:Nat} {a:Pl} {nl nr:Nat} {lr rr ex:Bool} (h:BoxT w1 B a nl nr lr rr ex) (hc:Calm w1 w2):Below (B+1) w1 w2:=hc.mono (by rw[h.size];omega)
structure RoomT (w2:World) (B:Nat):Prop where
 d0:w2.cell? ⟨B+1,0,none⟩=some (.bool false)
 d1:w2.cell? ⟨B+1,1,none⟩=some (.slice none 0 0)
 d2:w2.cell? ⟨B+1,2,none⟩=some (.bool false)
 d3:w2.cell? ⟨B+1,3,none⟩=some (.slice none 0 0)
 d4:w2.cell? ⟨B+1,4,none⟩=some (.bool false)
 f:∀o,w2.frozen? ⟨B+1,o,none⟩=false
theorem BoxT.room {w1 w2:World} {B:Nat} {a:Pl} {nl nr:Nat} {lr rr ex:Bool} (h:BoxT w1 B a nl nr lr rr ex) (hc:Calm w1 w2):RoomT w2 B:=by
 have h1:B+1 < w1.heap.size:=by rw[h.size];omega
 exact⟨hc.at_ h.d0 h1,hc.at_ h.d1 h1,hc.at_ h.d2 h1,hc.at_ h.d3 h1,hc.at_ h.d4 h1,fun o=>(hc.frozen (p:=⟨B+1,o,none⟩) h1).trans (h.f o)⟩
theorem NewS.setT {w:World} {B:Nat} {A:Option Addr} {c:Nat} {ls:List Str} (h:NewS w (B+2) A c ls) (u0 u1 u2 u3 u4:Value):NewS (((((w.setCell ⟨B+1,0,none⟩ u0).setCell ⟨B+1,1,none⟩ u1).setCell ⟨B+1,2,none⟩ u2).setCell ⟨B+1,3,none⟩ u3).setCell ⟨B+1,4,none⟩ u4) B A c ls:=
 (((((h.set (p:=⟨B+1,0,none⟩) u0 (Nat.lt_succ_self _)).set (p:=⟨B+1,1,none⟩) u1 (Nat.lt_succ_self _)).set (p:=⟨B+1,2,none⟩) u2 (Nat.lt_succ_self _)).set (p:=⟨B+1,3,none⟩) u3 (Nat.lt_succ_self _)).set (p:=⟨B+1,4,none⟩) u4 (Nat.lt_succ_self _)).mono (by omega)
theorem copy_v (p:Pat) (A:Option Addr) (n c:Nat) (re:Bool) (w:World) (hr:StrsU w A p.parts) (hn:p.parts.length=n) (hre:p.rest=re) :
  Calls Tryz.prog 177 #[.agg #[.slice A n c,.bool re]] w fun e w'=>(∃A2 c2,e=.returned (.agg #[.slice A2 n c2,.bool re])∧NewS w' w.heap.size A2 c2 p.parts)∧Calm w w':=by
 subst hn hre
 exact copy_c p A c w hr
set_option maxHeartbeats 8000000 in
theorem turn_c (r:Rule) (a:Pl) (w:World) (hr:RuleU w a r) :
  Calls Tryz.prog 172 #[ruleV a r] w fun e w'=>TurnEnd r w.heap.size e w'∧Calm w w':=by
 obtain⟨nl,hnl⟩:∃nl,r.left.parts.length=nl:=⟨_,rfl⟩
 obtain⟨nr,hnr⟩:∃nr,r.right.parts.length=nr:=⟨_,rfl⟩
 obtain⟨lr,hlr⟩:∃lr,r.left.rest=lr:=⟨_,rfl⟩
 obtain⟨rr,hrr⟩:∃rr,r.right.rest=rr:=⟨_,rfl⟩
 obtain⟨ex,hex⟩:∃ex,r.excl=ex:=⟨_,rfl⟩
 obtain⟨w1,hw1⟩:∃w1,w1=(w.alloc (.cells #[.bool ex,.slice a.AL nl a.cl,.bool lr,.slice a.AR nr a.cr,.bool rr] 158)).alloc (.cells #[.bool false,.slice none 0 0,.bool false,.slice none 0 0,.bool false] 158):=⟨_,rfl⟩
 have hc1:Calm w w1:=by rw[hw1];exact ((Calm.refl w).alloc _).alloc _
 have hbox:BoxT w1 w.heap.size a nl nr lr rr ex:=by
  rw[hw1]
  exact⟨by simp,by simp,by simp,by simp,by simp,by simp,by simp,by simp,by simp,by simp,by simp,fun o=>by simp⟩
 have KR:Hid (∀W,Calm w1 W→Calls Tryz.prog 177 #[.agg #[.slice a.AR nr a.cr,.bool rr]] W fun e w'=>(∃A2 c2,e=.returned (.agg #[.slice A2 nr c2,.bool rr])∧NewS w' W.heap.size A2 c2 r.right.parts)∧Calm W w'):=fun W hW=>copy_v r.right a.AR nr a.cr rr W ((hr.calm hc1).calm hW).rr hnr hrr
 have KL:Hid (∀W,Calm w1 W→Calls Tryz.prog 177 #[.agg #[.slice a.AL nl a.cl,.bool lr]] W fun e w'=>(∃A2 c2,e=.returned (.agg #[.slice A2 nl c2,.bool lr])∧NewS w' W.heap.size A2 c2 r.left.parts)∧Calm W w'):=fun W hW=>copy_v r.left a.AL nl a.cl lr W ((hr.calm hc1).calm hW).lr hnl hlr
 unfold ruleV
 rw[hnl,hnr,hlr,hrr,hex]
 have HW:=Lib.hid hw1
 have HC:=Lib.hid hc1
 have HB:=Lib.hid hbox
 have HN:=Lib.hid (And.intro hnl (And.intro hnr (And.intro hlr (And.intro hrr hex))))
 clear hw1 hc1 hbox hr hnl hnr hlr hrr hex
 obtain⟨AL,cl,AR,cr⟩:=a
 simp only at KR KL ⊢
 go_enter Tryz.func172,Tryz.ntmps172
 go_wp2
 rw[←HW.out]
 go_region_held3 (fun w'=>Below (w.heap.size+1) w1 w'∧w'.cell? ⟨w.heap.size,0,none⟩=some (.bool ex)∧w'.cell? ⟨w.heap.size,1,none⟩=some (.slice AL nl cl)∧w'.cell? ⟨w.heap.size,2,none⟩=some (.bool lr)∧w'.cell? ⟨w.heap.size,3,none⟩=some (.slice AR nr cr)∧w'.cell? ⟨w.heap.size,4,none⟩=some (.bool rr))
  (first
   |exact HB.out.S (Below.drew (Below.refl _ _))
   |exact HB.out.S (HB.out.low hcx)
   |exact HB.out.S (HB.out.low hcy)
   |exact HB.out.S (Below.setCell (Below.setCell (Below.setCell (Below.setCell (Below.setCell (HB.out.low hcy) (Nat.le_refl _) _) (Nat.le_refl _) _) (Nat.le_refl _) _) (Nat.le_refl _) _) (Nat.le_refl _) _)
   |go_keep)
  (first
   |(go_at_call_of 177 (Value.slice AR nr cr);refine (KR.out _ (Below.drew (Calm.refl _))).mono ?_;rintro e w2 ⟨⟨A2,c2,rfl,hns2⟩,hc2⟩;have hcx:Calm w1 w2:=Calm.trans (Below.drew (Calm.refl _)) hc2)
   |(go_at_call_of 177 (Value.slice AL nl cl);refine (KL.out _ hcx).mono ?_;rintro e w3 ⟨⟨A3,c3,rfl,hns3⟩,hc3⟩;have hcy:Calm w1 w3:=hcx.trans hc3;have rm:=HB.out.room hcy;have d0:=rm.d0;have d1:=rm.d1;have d2:=rm.d2;have d3:=rm.d3;have d4:=rm.d4;have f0:=rm.f 0;have f1:=rm.f 1;have f2:=rm.f 2;have f3:=rm.f 3;have f4:=rm.f 4;clear rm))
 all_goals
  have hA:NewS w3 (w.heap.size+2) A2 c2 r.right.parts:=(hns2.calm hc3).mono (by show w.heap.size+2≤w1.heap.size;rw[HB.out.size];exact Nat.le_refl _)
  have hB:NewS w3 (w.heap.size+2) A3 c3 r.left.parts:=hns3.mono (by have:=hcx.size;rw[HB.out.size] at this;exact this)
  have hA5:=hA.setT (.bool ex) (.slice A2 nr c2) (.bool rr) (.slice A3 nl c3) (.bool lr)
  have hB5:=hB.setT (.bool ex) (.slice A2 nr c2) (.bool rr) (.slice A3 nl c3) (.bool lr)
  have hc4:Calm w (((((w3.setCell ⟨w.heap.size+1,0,none⟩ (.bool ex)).setCell ⟨w.heap.size+1,1,none⟩ (.slice A2 nr c2)).setCell ⟨w.heap.size+1,2,none⟩ (.bool rr)).setCell ⟨w.heap.size+1,3,none⟩ (.slice A3 nl c3)).setCell ⟨w.heap.size+1,4,none⟩ (.bool lr)):=
   Below.setCell (Below.setCell (Below.setCell (Below.setCell (Below.setCell (HC.out.trans hcy) (by show w.heap.size≤w.heap.size+1;omega) _) (by show w.heap.size≤w.heap.size+1;omega) _) (by show w.heap.size≤w.heap.size+1;omega) _) (by show w.heap.size≤w.heap.size+1;omega) _) (by show w.heap.size≤w.heap.size+1;omega) _
  clear hA hB hns2 hns3 hcx hcy hc2 hc3 KR KL
  go_wp2
  refine bodyPost_ret (v:=.agg #[.bool ex,.slice A2 nr c2,.bool rr,.slice A3 nl c3,.bool lr]) ?_ rfl ⟨⟨⟨A2,c2,A3,c3⟩,by rw[←HN.out.1,←HN.out.2.1,←HN.out.2.2.1,←HN.out.2.2.2.1,←HN.out.2.2.2.2];rfl,⟨hA5,hB5⟩⟩,hc4⟩
  rw[results_cell1 rfl]
  go_simp
set_option maxHeartbeats 16000000 in
theorem nright_c (r:Rule) (p:Pat) (a:Pl) (n pc:Nat) (re:Bool) (A:Option Addr) (w:World) (hr:RuleU w a r) (hs:SmallR r) (hp:PatA w A pc p) (hn:p.parts.length=n) (hre:p.rest=re) :
  Calls Tryz.prog 173 #[ruleV a r,.agg #[.slice A n pc,.bool re]] w fun e w'=>NarEnd (narR r p) w.heap.size e w'∧Calm w w':=by
 obtain⟨nl,hnl⟩:∃nl,r.left.parts.length=nl:=⟨_,rfl⟩
 obtain⟨nr,hnr⟩:∃nr,r.right.parts.length=nr:=⟨_,rfl⟩
 obtain⟨lr,hlr⟩:∃lr,r.left.rest=lr:=⟨_,rfl⟩
 obtain⟨rr,hrr⟩:∃rr,r.right.rest=rr:=⟨_,rfl⟩
 obtain⟨ex,hex⟩:∃ex,r.excl=ex:=⟨_,rfl⟩
 obtain⟨w1,hw1⟩:∃w1,w1=((w.alloc (.cells #[.bool ex,.slice a.AL nl a.cl,.bool lr,.slice a.AR nr a.cr,.bool rr] 158)).alloc (.cells #[.slice A n pc,.bool re] 65)).alloc (.cells #[.bool false,.slice none 0 0,.bool false,.slice none 0 0,.bool false] 158):=⟨_,rfl⟩
 have hc1:Calm w w1:=by rw[hw1];exact (((Calm.refl w).alloc _).alloc _).alloc _
 have hbr:FiveB w1 w.heap.size (.bool ex) (.slice a.AL nl a.cl) (.bool lr) (.slice a.AR nr a.cr) (.bool rr):=by
  rw[hw1]
  exact (FiveB.new w _ _ _ _ _ _).calm (((Calm.refl _).alloc _).alloc _)
 have hbp:TwoB w1 (w.heap.size+1) (.slice A n pc) (.bool re):=by
  rw[hw1]
  have:=(TwoB.new (w.alloc (.cells #[.bool ex,.slice a.AL nl a.cl,.bool lr,.slice a.AR nr a.cr,.bool rr] 158)) (.slice A n pc) (.bool re) 65).calm ((Calm.refl _).alloc (.cells #[.bool false,.slice none 0 0,.bool false,.slice none 0 0,.bool false] 158))
  simpa using this
 have hbz:FiveB w1 (w.heap.size+1+1) (.bool false) (.slice none 0 0) (.bool false) (.slice none 0 0) (.bool false):=by
  rw[hw1]
  have:=FiveB.new ((w.alloc (.cells #[.bool ex,.slice a.AL nl a.cl,.bool lr,.slice a.AR nr a.cr,.bool rr] 158)).alloc (.cells #[.slice A n pc,.bool re] 65)) (.bool false) (.slice none 0 0) (.bool false) (.slice none 0 0) (.bool false) 158
  simpa using this
 obtain⟨v,hv⟩:∃v,ruleErr r=v:=⟨_,rfl⟩
 have KR:Hid (∀W,Calm w1 W→Calls Tryz.prog 179 #[.agg #[.bool ex,.slice a.AL nl a.cl,.bool lr,.slice a.AR nr a.cr,.bool rr]] W fun e w'=>e=.returned (.int .i64 v)∧Calm W w'):=fun W hW=>by
  have:=rule_c r a W ((hr.calm hc1).calm hW)
  unfold ruleV at this
  rw[hnl,hnr,hlr,hrr,hex,hv] at this
  exact this
 have KL:Hid (∀W,Calm w1 W→Calls Tryz.prog 213 #[.agg #[.bool false,.slice a.AR nr a.cr,.bool rr,.slice a.AL nl a.cl,.bool lr],.agg #[.slice A n pc,.bool re]] W fun e w'=>NarEnd (narL ⟨false,r.right,r.left⟩ p) W.heap.size e w'∧Calm W w'):=fun W hW=>by
  have h2:=(hr.calm hc1).calm hW
  have:=nleft_c ⟨false,r.right,r.left⟩ p a.turn n pc re A W ⟨h2.rr,h2.lr,h2.rroom,h2.lroom,h2.rcap,h2.lcap⟩ ⟨hs.rp,hs.rs,hs.lp,hs.ls⟩ ((hp.calm hc1).calm hW) hn hre
  unfold ruleV Pl.turn at this
  rw[show (⟨false,r.right,r.left⟩:Rule).left=r.right from rfl,show (⟨false,r.right,r.left⟩:Rule).right=r.left from rfl,hnl,hnr,hlr,hrr] at this
  exact this
 have HX1:Hid (v≠0→narR r p=(none,v)):=fun h=>by
  unfold narR
  rw[hv,if_pos h]
 have HX2:Hid (∀x,v=0→narL ⟨false,r.right,r.left⟩ p=(none,x)→narR r p=(none,x)):=fun x h h2=>by
  unfold narR
  rw[hv,if_neg (by simpa using h),h2]
  rfl
 have HX3:Hid (∀m,v=0→narL ⟨false,r.right,r.left⟩ p=(some m,0)→narR r p=(some m.turn,0)):=fun m h h2=>by
  unfold narR
  rw[hv,if_neg (by simpa using h),h2]
  rfl
 have HE:Hid (∀m x,narL ⟨false,r.right,r.left⟩ p=(some m,x)→m.excl=false):=fun m x h=>by
  obtain⟨_,_,_,m',_,rfl,_⟩:=narL_some (show (narL ⟨false,r.right,r.left⟩ p).1=some m by rw[h])
  rfl
 have HW:=Lib.hid hw1
 have HC:=Lib.hid hc1
 have HBr:=Lib.hid hbr
 have HBp:=Lib.hid hbp
 have HBz:=Lib.hid hbz
 have hsz:w.heap.size+1+1 < w1.heap.size:=hbz.lt
 unfold ruleV
 rw[hnl,hnr,hlr,hrr,hex]
 clear hw1 hc1 hbr hbp hbz hr hs hp hn hre hnl hnr hlr hrr hex hv
 obtain⟨X,hX⟩:∃X,narL ⟨false,r.right,r.left⟩ p=X:=⟨_,rfl⟩
 rw[hX] at KL HX2 HX3 HE
 clear hX
 have HC8:Hid (∀W,Calm w1 W→∀u0 u1 u2 u3 u4,Calm w (set5 W (w.heap.size+1+1) u0 u1 u2 u3 u4)):=fun W hW u0 u1 u2 u3 u4=>calm5 (HC.out.trans hW) (by omega) _ _ _ _ _
 go_enter Tryz.func173,Tryz.ntmps173
 have b:=HBr.out
 have b0:=b.c0
 have b1:=b.c1
 have b2:=b.c2
 have b3:=b.c3
 have b4:=b.c4
 clear b
 go_wp2_with fail
 rw[←HW.out]
 refine (KR.out w1 (Calm.refl _)).mono ?_
 rintro e w2 ⟨rfl,hc2⟩
 clear b0 b1 b2 b3 b4
 have HC2:=Lib.hid hc2
 by_cases hv0:v=0
 ·subst hv0
  have b:=HBr.out.calm hc2
  have b1:=b.c1
  have b2:=b.c2
  have b3:=b.c3
  have b4:=b.c4
  have p0:=(HBp.out.calm hc2).c0
  have p1:=(HBp.out.calm hc2).c1
  clear b hc2
  go_wp2_with fail
  refine (KL.out w2 HC2.out).mono ?_
  rintro e w3 ⟨hE,hc3⟩
  have HC3:Hid (Calm w1 w3):=HC2.out.trans hc3
  have hsz2:w1.heap.size≤w2.heap.size:=HC2.out.size
  clear b1 b2 b3 b4 p0 p1 hc3
  obtain⟨o,x⟩:=X
  rcases hE with⟨h1,rfl⟩ | ⟨m,a2,h1,rfl,hN⟩
  ·simp only at h1
   subst h1
   have HX:=Lib.hid (HX2.out x (by trivial) rfl)
   have hm:=FiveB.new w3 (.bool false) (.slice none 0 0) (.bool false) (.slice none 0 0) (.bool false) 158
   have m1:=hm.c1
   have m2:=hm.c2
   have m3:=hm.c3
   have m4:=hm.c4
   have hz:=HBz.out.calm (HC3.out.alloc (.cells #[.bool false,.slice none 0 0,.bool false,.slice none 0 0,.bool false] 158))
   have z0:=hz.c0
   have z1:=hz.c1
   have z2:=hz.c2
   have z3:=hz.c3
   have z4:=hz.c4
   have f0:=hz.fz 0
   have f1:=hz.fz 1
   have f2:=hz.fz 2
   have f3:=hz.fz 3
   have f4:=hz.fz 4
   clear hz hm
   go_wp2_with fail
   refine bodyPost_ret (v:=.tuple #[.agg #[.bool false,.slice none 0 0,.bool false,.slice none 0 0,.bool false],.bool false,.int .i64 x]) ?_ rfl ⟨.inl (by rw[HX.out];exact⟨rfl,rfl⟩),HC8.out _ (HC3.out.alloc _) _ _ _ _ _⟩
   rw[results_cell_tt rfl]
   go_simp
  ·have hex:=HE.out m 0 h1
   have HX:=Lib.hid (HX3.out m (by trivial) h1)
   unfold ruleV
   rw[hex]
   obtain⟨ml,hml⟩:∃ml,m.left.parts.length=ml:=⟨_,rfl⟩
   obtain⟨mr,hmr⟩:∃mr,m.right.parts.length=mr:=⟨_,rfl⟩
   obtain⟨tl,htl⟩:∃tl,m.left.rest=tl:=⟨_,rfl⟩
   obtain⟨tr,htr⟩:∃tr,m.right.rest=tr:=⟨_,rfl⟩
   rw[hml,hmr,htl,htr]
   have HRu:Hid (∀u0 u1 u2 u3 u4,RuleN (set5 (w3.alloc (.cells #[.bool false,.slice a2.AL ml a2.cl,.bool tl,.slice a2.AR mr a2.cr,.bool tr] 158)) (w.heap.size+1+1) u0 u1 u2 u3 u4) w.heap.size a2.turn m.turn):=fun u0 u1 u2 u3 u4=>by
    have h2:=(hN.calm ((Calm.refl _).alloc (.cells #[.bool false,.slice a2.AL ml a2.cl,.bool tl,.slice a2.AR mr a2.cr,.bool tr] 158))).mono hsz2
    exact⟨(h2.r.set5 hsz _ _ _ _ _).mono (by omega),(h2.l.set5 hsz _ _ _ _ _).mono (by omega)⟩
   have HV:Hid (ruleV a2.turn m.turn=.agg #[.bool false,.slice a2.AR mr a2.cr,.bool tr,.slice a2.AL ml a2.cl,.bool tl]):=by
    show _=_
    rw[←hml,←hmr,←htl,←htr,←hex]
    rfl
   have hm:=FiveB.new w3 (.bool false) (.slice a2.AL ml a2.cl) (.bool tl) (.slice a2.AR mr a2.cr) (.bool tr) 158
   have m1:=hm.c1
   have m2:=hm.c2
   have m3:=hm.c3
   have m4:=hm.c4
   have hz:=HBz.out.calm (HC3.out.alloc (.cells #[.bool false,.slice a2.AL ml a2.cl,.bool tl,.slice a2.AR mr a2.cr,.bool tr] 158))
   have z0:=hz.c0
   have z1:=hz.c1
   have z2:=hz.c2
   have z3:=hz.c3
   have z4:=hz.c4
   have f0:=hz.fz 0
   have f1:=hz.fz 1
   have f2:=hz.fz 2
   have f3:=hz.fz 3
   have f4:=hz.fz 4
   clear hz hm hN h1 hex hml hmr htl htr
   go_wp2_with fail
   refine bodyPost_ret (v:=.tuple #[.agg #[.bool false,.slice a2.AR mr a2.cr,.bool tr,.slice a2.AL ml a2.cl,.bool tl],.bool true,.int .i64 0]) ?_ rfl ⟨.inr ⟨m.turn,a2.turn,HX.out,by rw[HV.out],HRu.out _ _ _ _ _⟩,HC8.out _ (HC3.out.alloc _) _ _ _ _ _⟩
   rw[results_cell_tt rfl]
   go_simp
 ·have HX:=Lib.hid (HX1.out hv0)
  have hv1:(v == 0)=false:=by rw[beq_eq_false_iff_ne];exact hv0
  have hz:=HBz.out.calm hc2
  have z0:=hz.c0
  have z1:=hz.c1
  have z2:=hz.c2
  have z3:=hz.c3
  have z4:=hz.c4
  have f0:=hz.fz 0
  have f1:=hz.fz 1
  have f2:=hz.fz 2
  have f3:=hz.fz 3
  have f4:=hz.fz 4
  clear hz hc2
  go_wp2_with fail
  refine bodyPost_ret (v:=.tuple #[.agg #[.bool false,.slice none 0 0,.bool false,.slice none 0 0,.bool false],.bool false,.int .i64 v]) ?_ rfl ⟨.inl (by rw[HX.out];exact⟨rfl,rfl⟩),HC8.out _ HC2.out _ _ _ _ _⟩
  rw[results_cell_tt rfl]
  go_simp
theorem RuleN.set5 {w:World} {B b:Nat} {a:Pl} {r:Rule} (h:RuleN w B a r) (hb:b < B) (u0 u1 u2 u3 u4:Value):RuleN (Go.Proofs.YtcofdlipapnohaaGreatDoor.set5 w b u0 u1 u2 u3 u4) B a r:=⟨h.l.set5 hb _ _ _ _ _,h.r.set5 hb _ _ _ _ _⟩
theorem narL_each {r n:Rule} {q:Pat} {L:Nat} (h:(narL r q).1=some n) (hL:1≤L) (hl:∀x∈r.left.parts,x.length≤L) (hr:∀x∈r.right.parts,x.length≤L) (hq:∀x∈q.parts,x.length≤L):∀x∈n.right.parts,x.length≤L+L:=by
 obtain⟨_,_,_,m,hm,rfl,_,h2⟩:=narL_some h
 exact carry_each h2 hr (meet_each hm hl hq hL)
theorem rightHs_snoc {r:Rule} {hs:List Pat} {p:Pat}:rightHs r (hs++[p])=match rightHs r hs with
  |none=>none
  |some l=>if (narL r p).2≠0 then none else some (l++((narL r p).1.map (·.right)).toList):=by
 rw[rightHs_app]
 rcases rightHs r hs with _ | l
 ·rfl
 ·simp only[rightHs]
  by_cases h:(narL r p).2≠0
  ·rw[if_pos h,if_pos h]
   rfl
  ·rw[if_neg h,if_neg h]
   simp
structure RgtJ (w0 wr:World) (r:Rule) (hs:List Pat) (k:Nat) (ys:List NewP) (v:Value):Prop where
 own:OwnX encP 2 65 w0 wr v ys
 is:rightHs r (hs.take k)=some (ys.map (·.p))
 each:∀y∈ys,SmallN wr w0.heap.size y
theorem RgtJ.stop {w0 wr:World} {r:Rule} {hs:List Pat} {k:Nat} {ys:List NewP} {v:Value} (h:RgtJ w0 wr r hs k ys v) {p:Pat} (hp:hs[k]?=some p) (hx:(narL r p).2≠0):rightHs r hs=none:=by
 have h1:rightHs r (hs.take (k+1))=none:=by
  rw[take_snoc hp,rightHs_snoc,h.is]
  simp only
  rw[if_pos hx]
 have:=rightHs_none h1 (hs.drop (k+1))
 rw[List.take_append_drop] at this
 exact this
theorem RgtJ.miss {w0 wr w2:World} {r:Rule} {hs:List Pat} {k:Nat} {ys:List NewP} {v:Value} (h:RgtJ w0 wr r hs k ys v) {p:Pat} (hp:hs[k]?=some p) (hx:(narL r p).2=0) (hn:(narL r p).1=none) (hc:Calm wr w2):RgtJ w0 w2 r hs (k+1) ys v:=by
 refine⟨h.own.to hc,?_,fun y hy=>(h.each y hy).calm hc⟩
 rw[take_snoc hp,rightHs_snoc,h.is]
 simp only
 rw[if_neg (by simpa using hx),hn]
 simp
theorem RgtJ.hit {w0 wr w2 w3:World} {r n:Rule} {hs:List Pat} {k:Nat} {ys:List NewP} {v v2:Value} {x:NewP} (h:RgtJ w0 wr r hs k ys v) {p:Pat} (hp:hs[k]?=some p) (hx:(narL r p).2=0) (hn:(narL r p).1=some n) (hxp:x.p=n.right) (hc:Calm wr w2) (hxs:SmallN w2 w0.heap.size x) (hg:w2.grownBy w3 v.ownBlock) (hown:OwnX encP 2 65 w0 w3 v2 (ys++[x])):RgtJ w0 w3 r hs (k+1) (ys++[x]) v2:=by
 refine⟨hown,?_,fun y hy=>?_⟩
 ·rw[take_snoc hp,rightHs_snoc,h.is]
  simp only
  rw[if_neg (by simpa using hx),hn,List.map_append]
  simp[hxp]
 ·rcases List.mem_append.1 hy with hy | hy
  ·exact ((h.each y hy).calm hc).own (by decide) (h.own.to hc).own hg
  ·rw[List.mem_singleton] at hy
   subst hy
   exact hxs.own (by decide) (h.own.to hc).own hg
theorem narR_turn {r:Rule} (hr:ruleErr r=0) (hx:r.excl=false) (p:Pat):narR r.turn p=((narL r p).1.map Rule.turn,(narL r p).2):=by
 have h0:¬ruleErr r.turn≠0:=by
  have:ruleErr r.turn=0:=ruleErr_twin.2 (ruleErr_twin.1 hr).turn
  simpa using this
 have e:(⟨false,r.turn.right,r.turn.left⟩:Rule)=r:=by
  rcases r with⟨x,l,q⟩
  obtain rfl:x=false:=hx
  rfl
 unfold narR
 rw[if_neg h0,e]
theorem PatsN.set5 {w:World} {B b:Nat} {A:Option Addr} {c:Nat} {ps:List Pat} (h:PatsN w B A c ps) (hb:b < B) (u0 u1 u2 u3 u4:Value):PatsN (Go.Proofs.YtcofdlipapnohaaGreatDoor.set5 w b u0 u1 u2 u3 u4) B A c ps:=
 ((((h.set (p:=⟨b,0,none⟩) u0 hb).set (p:=⟨b,1,none⟩) u1 hb).set (p:=⟨b,2,none⟩) u2 hb).set (p:=⟨b,3,none⟩) u3 hb).set (p:=⟨b,4,none⟩) u4 hb
theorem SmallN.set5 {w:World} {B b:Nat} {x:NewP} (h:SmallN w B x) (hb:b < B) (u0 u1 u2 u3 u4:Value):SmallN (Go.Proofs.YtcofdlipapnohaaGreatDoor.set5 w b u0 u1 u2 u3 u4) B x:=⟨h.new.set5 hb u0 u1 u2 u3 u4,h.few,h.each⟩
theorem EntN.set5 {w:World} {B b:Nat} {x:NewE} (h:EntN w B x) (hb:b < B) (u0 u1 u2 u3 u4:Value):EntN (Go.Proofs.YtcofdlipapnohaaGreatDoor.set5 w b u0 u1 u2 u3 u4) B x:=⟨h.l.set5 hb u0 u1 u2 u3 u4,h.r.set5 hb u0 u1 u2 u3 u4,h.h.set5 hb u0 u1 u2 u3 u4,h.few⟩
def EntyEnd (x:Option Ent) (B:Nat) (e:Ending) (w':World):Prop:=
 (x=none∧e=.returned (.tuple #[.agg #[.slice none 0 0,.bool false,.slice none 0 0,.bool false,.slice none 0 0],.int .i64 80])) ∨
 (∃y:NewE,x=some y.e∧e=.returned (.tuple #[.agg (encE y).toArray,.int .i64 0])∧EntN w' B y)
abbrev zero5e:List Value:=[.slice none 0 0,.bool false,.slice none 0 0,.bool false,.slice none 0 0]
theorem smallR_of {p:Pc} (h:PcOk p) (hz:PcZ p):SmallR p.line:=by
 have tw:=ruleErr_twin.1 h.r
 have hl:LetP 40 p.line.left:=by rw[h.lb];exact hz.b
 exact⟨by have:=pat_few tw.lp;omega,fun y hy=>by have:=hl y hy;omega,by have:=pat_few tw.rp;omega,fun y hy=>by have:=hz.r.right hl y hy;omega⟩
set_option maxRecDepth 100000 in
set_option maxHeartbeats 16000000 in
theorem entry_c (z:NewC) (gb gh l r:Nat) (gr ex lr rr:Bool) (pk:Int) (w:World) (hu:PcA w z) (hok:PcOk z.p) (hz:PcZ z.p) (hgh:z.p.region.hs.length=gh)
  (hz1:z.p.line.left.parts.length=l∧z.p.line.right.parts.length=r∧z.p.line.left.rest=lr∧z.p.line.right.rest=rr∧z.p.line.excl=ex) :
  Calls Tryz.prog 131 #[.agg #[.slice z.A gb z.c,.bool gr,.slice z.HA gh z.hc,.int .i64 pk,.bool ex,.slice z.a.AL l z.a.cl,.bool lr,.slice z.a.AR r z.a.cr,.bool rr]] w fun e w'=>EntyEnd (entOfP z.p) w.heap.size e w'∧Calm w w':=by
 obtain⟨w1,hw1⟩:∃w1,w1=(w.alloc (.cells #[.slice z.A gb z.c,.bool gr,.slice z.HA gh z.hc,.int .i64 pk,.bool ex,.slice z.a.AL l z.a.cl,.bool lr,.slice z.a.AR r z.a.cr,.bool rr] 216)).alloc (.cells #[.slice none 0 0,.bool false,.slice none 0 0,.bool false,.slice none 0 0] 218):=⟨_,rfl⟩
 have hc1:Calm w w1:=by rw[hw1];exact ((Calm.refl w).alloc _).alloc _
 obtain⟨P0,e0⟩:∃P0,w.heap.size=P0:=⟨_,rfl⟩
 obtain⟨P1,e1⟩:∃P1,P0+1=P1:=⟨_,rfl⟩
 have hb0:CellsB w1 P0 [.slice z.A gb z.c,.bool gr,.slice z.HA gh z.hc,.int .i64 pk,.bool ex,.slice z.a.AL l z.a.cl,.bool lr,.slice z.a.AR r z.a.cr,.bool rr]:=by
  rw[hw1,←e0]
  exact (CellsB.new w _ _).calm ((Calm.refl _).alloc _)
 have hb1:CellsB w1 P1 zero5e:=by
  rw[hw1,←e1,←e0]
  have:=CellsB.new (w.alloc (.cells #[.slice z.A gb z.c,.bool gr,.slice z.HA gh z.hc,.int .i64 pk,.bool ex,.slice z.a.AL l z.a.cl,.bool lr,.slice z.a.AR r z.a.cr,.bool rr] 216)) #[.slice none 0 0,.bool false,.slice none 0 0,.bool false,.slice none 0 0] 218
  rwa [World.size_alloc] at this
 have hsr:=smallR_of hok hz
 have KT:Hid (Calls Tryz.prog 172 #[.agg #[.bool ex,.slice z.a.AL l z.a.cl,.bool lr,.slice z.a.AR r z.a.cr,.bool rr]] w1 fun e w'=>(∃a:Pl,e=.returned (.agg #[.bool ex,.slice a.AL r a.cl,.bool rr,.slice a.AR l a.cr,.bool lr])∧RuleN w' w1.heap.size a z.p.line.turn)∧Calm w1 w'):=by
  have:=turn_c z.p.line z.a w1 (hu.r.calm hc1)
  unfold ruleV at this
  rw[hz1.1,hz1.2.1,hz1.2.2.1,hz1.2.2.2.1,hz1.2.2.2.2] at this
  refine this.mono ?_
  rintro e w' ⟨⟨a,he,hN⟩,hc⟩
  refine⟨⟨a,?_,hN⟩,hc⟩
  rw[he]
  unfold ruleV
  rw[show z.p.line.turn.left.parts.length=r from hz1.2.1,show z.p.line.turn.right.parts.length=l from hz1.1,show z.p.line.turn.left.rest=rr from hz1.2.2.2.1,show z.p.line.turn.right.rest=lr from hz1.2.2.1,show z.p.line.turn.excl=ex from hz1.2.2.2.2]
 have KN:Hid (∀(a:Pl) (p:Pat) (Ak:Option Addr) (pn ck:Nat) (pr:Bool) (W:World),RuleU W a z.p.line.turn→PatA W Ak ck p→p.parts.length=pn→p.rest=pr→Calls Tryz.prog 173 #[.agg #[.bool ex,.slice a.AL r a.cl,.bool rr,.slice a.AR l a.cr,.bool lr],.agg #[.slice Ak pn ck,.bool pr]] W fun e w'=>NarEnd ((narL z.p.line p).1.map Rule.turn,(narL z.p.line p).2) W.heap.size e w'∧Calm W w'):=fun a p Ak pn ck pr W hU hp hpn hpr=>by
  have:=nright_c z.p.line.turn p a pn ck pr Ak W hU hsr.turn hp hpn hpr
  unfold ruleV at this
  rw[narR_turn hok.r hok.ex,show z.p.line.turn.left.parts.length=r from hz1.2.1,show z.p.line.turn.right.parts.length=l from hz1.1,show z.p.line.turn.left.rest=rr from hz1.2.2.2.1,show z.p.line.turn.right.rest=lr from hz1.2.2.1,show z.p.line.turn.excl=ex from hz1.2.2.2.2] at this
  exact this
 have h64:gh≤64:=by
  rw[←hgh]
  exact (gErr_zero hok.g).2.2
 have HW:=Lib.hid hw1
 have HE:=Lib.hid (And.intro e0 e1)
 have HC:=Lib.hid hc1
 have HB0:=Lib.hid hb0
 have HB1:=Lib.hid hb1
 have HU:=Lib.hid (hu.g.holes.calm hc1)
 have HOk:=Lib.hid hok
 have HZ:=Lib.hid hz
 have HSr:=Lib.hid hsr
 have HGh:=Lib.hid hgh
 have HZ1:=Lib.hid hz1
 have b4:=hb0.at_ 4 _ rfl
 have b5:=hb0.at_ 5 _ rfl
 have b6:=hb0.at_ 6 _ rfl
 have b7:=hb0.at_ 7 _ rfl
 have b8:=hb0.at_ 8 _ rfl
 clear hu hok hz hgh hz1 hw1 hc1 e0 e1 hb0 hb1 hsr
 go_enter Tryz.func131,Tryz.ntmps131
 go_upto_region 1 with (fail)
 rw[←HW.out]
 simp only[HE.out.1,HE.out.2]
 go_wp2_with fail
 refine KT.out.mono ?_
 rintro e w2 ⟨⟨a,rfl,hN⟩,hc2⟩
 obtain⟨w3,hw3⟩:∃w3,w3=w2.alloc (.cells #[.bool ex,.slice a.AL r a.cl,.bool rr,.slice a.AR l a.cr,.bool lr] 158):=⟨_,rfl⟩
 obtain⟨P2,e2⟩:∃P2,w2.heap.size=P2:=⟨_,rfl⟩
 have hc23:Calm w2 w3:=by
  show Below _ _ _
  rw[hw3]
  exact (Calm.refl _).alloc _
 have HC3:Hid (Calm w1 w3):=hc2.trans hc23
 have HP2:Hid (CellsB w3 P2 [.bool ex,.slice a.AL r a.cl,.bool rr,.slice a.AR l a.cr,.bool lr]):=by
  show CellsB _ _ _
  rw[hw3,←e2]
  exact CellsB.new w2 _ _
 have HN:Hid (RuleN w3 w1.heap.size a z.p.line.turn):=hN.calm hc23
 have b2:=(HB0.out.calm hc2).at_ 2 _ rfl
 have lt0:=(HB0.out.calm hc2).lt
 have HE2:=Lib.hid e2
 have HW3:=Lib.hid hw3
 clear b4 b5 b6 b7 b8 hN KT e2 hw3
 go_wp2_with fail
 rw[←HW3.out]
 try simp only[HE2.out]
 clear HW3 HE2 hc23 hc2 b2 lt0
 go_loopw [5,19] (fun v u wr=>∃(k:Nat) (ys:List NewP),k≤gh∧u=.int .i64 k∧Hid (ys.length≤k)∧Hid (RgtJ w3 wr z.p.line z.p.region.hs k ys v)) (fun _ u _=>gh - (intOf u).toNat)
 case atStart=>exact⟨0,[],Nat.zero_le _,rfl,Nat.le_refl _,⟨OwnX.nil (Calm.refl _),rfl,fun y hy=>(by cases hy)⟩⟩
 case round=>
  obtain⟨k,ys,hk,rfl,HL,HI⟩:=hrel
  obtain⟨wq,rfl⟩:∃wq,wq=wr:=⟨_,rfl⟩
  have HCq:Hid (Calm w3 wq):=HI.out.own.calm
  have hp2:=HP2.out.calm HCq.out
  have t0:=hp2.at_ 0 _ rfl
  have t1:=hp2.at_ 1 _ rfl
  have t2:=hp2.at_ 2 _ rfl
  have t3:=hp2.at_ 3 _ rfl
  have t4:=hp2.at_ 4 _ rfl
  have lt2:=hp2.lt
  clear hp2
  by_cases hlt:k < gh
  ·obtain⟨bb,o,p,Ak,ck,hA1,hbb,hp,h1,h2,h3,h5,h4⟩:=(HU.out.calm (HC3.out.trans HCq.out)).get (k:=k) (by rw[HGh.out];exact hlt)
   rw[hA1]
   obtain⟨pn,hpn⟩:∃pn,p.parts.length=pn:=⟨_,rfl⟩
   obtain⟨pr,hpr⟩:∃pr,p.rest=pr:=⟨_,rfl⟩
   rw[hpn] at h1
   rw[hpr] at h2
   have HP:=Lib.hid hp
   have HPa:Hid (PatA wq Ak ck p):=⟨h4,h3,h5⟩
   have HPn:=Lib.hid (And.intro hpn hpr)
   clear hA1 hp h3 h4 h5 hpn hpr
   go_wp2_with fail
   have HCb:Hid (Calm wq (wq.alloc (.cells #[.slice Ak pn ck,.bool pr] 65))):=(Calm.refl _).alloc _
   refine (KN.out a p Ak pn ck pr _ ((HN.out.calm (HCq.out.trans HCb.out)).u) (HPa.out.calm HCb.out) HPn.out.1 HPn.out.2).mono ?_
   rintro e w5 ⟨hE,hc5⟩
   have HC5:Hid (Calm wq w5):=HCb.out.trans hc5
   have HS5:Hid (w3.heap.size≤(wq.alloc (.cells #[.slice Ak pn ck,.bool pr] 65)).heap.size):=(HCq.out.trans HCb.out).size
   clear hc5 h1 h2 t0 t1 t2 t3 t4 lt2
   obtain⟨⟨o',x⟩,hX⟩:∃X,narL z.p.line p=X:=⟨_,rfl⟩
   rw[hX] at hE
   have HX:=Lib.hid hX
   clear hX
   rcases hE with⟨h1,rfl⟩ | ⟨n,a2,h1,rfl,hRn⟩
   ·simp only at h1
    have ho':o'=none:=by
     rcases o' with _ | m
     ·rfl
     ·cases h1
    subst ho'
    simp only
    by_cases hx0:x=0
    ·subst hx0
     have HI2:=Lib.hid (HI.out.miss HP.out (by rw[HX.out]) (by rw[HX.out]) (HC5.out.alloc (.cells #[.bool false,.slice none 0 0,.bool false,.slice none 0 0,.bool false] 158)))
     clear h1
     go_wp2_with fail
     go_roundw
     case rel=>exact⟨k+1,ys,by omega,by go_num,Nat.le_succ_of_le HL.out,HI2⟩
     case measure=>simp[intOf];omega
    ·have hx1:(x != 0)=true:=by simpa using hx0
     have HNo:Hid (entOfP z.p=none):=by
      show _=_
      unfold entOfP
      rw[HI.out.stop HP.out (by rw[HX.out];exact hx0)]
      rfl
     have hz5:=HB1.out.calm (HC3.out.trans (HCq.out.trans HC5.out))
     have z0:=hz5.at_ 0 _ rfl
     have z1:=hz5.at_ 1 _ rfl
     have z2:=hz5.at_ 2 _ rfl
     have z3:=hz5.at_ 3 _ rfl
     have z4:=hz5.at_ 4 _ rfl
     have f0:=hz5.fz 0
     have f1:=hz5.fz 1
     have f2:=hz5.fz 2
     have f3:=hz5.fz 3
     have f4:=hz5.fz 4
     have hzl:=hz5.lt
     have hne:¬P1=w5.heap.size:=by omega
     have hne2:¬w5.heap.size=P1:=by omega
     have HCe:Hid (∀u0 u1 u2 u3 u4 X,Calm w ((set5 w5 P1 u0 u1 u2 u3 u4).alloc X)):=fun u0 u1 u2 u3 u4 X=>(calm5 ((HC.out.trans HC3.out).trans (HCq.out.trans HC5.out)) (by have:=HE.out;omega) u0 u1 u2 u3 u4).alloc _
     clear hz5 h1
     go_wp2_with fail
     refine bodyPost_ret (v:=.tuple #[.agg #[.slice none 0 0,.bool false,.slice none 0 0,.bool false,.slice none 0 0],.int .i64 80]) ?_ rfl ⟨.inl ⟨HNo.out,rfl⟩,HCe.out _ _ _ _ _ _⟩
     rw[results_cell_slot3 rfl]
     go_simp
   ·have hx0:x=0:=congrArg Prod.snd h1
    have ho:o'.map Rule.turn=some n:=congrArg Prod.fst h1
    subst hx0
    obtain⟨m,rfl,rfl⟩:=Option.map_eq_some_iff.1 ho
    obtain⟨q0,hq0⟩:∃q0,m.turn.excl=q0:=⟨_,rfl⟩
    obtain⟨q1,hq1⟩:∃q1,m.turn.left.parts.length=q1:=⟨_,rfl⟩
    obtain⟨q2,hq2⟩:∃q2,m.turn.left.rest=q2:=⟨_,rfl⟩
    obtain⟨q3,hq3⟩:∃q3,m.turn.right.parts.length=q3:=⟨_,rfl⟩
    obtain⟨q4,hq4⟩:∃q4,m.turn.right.rest=q4:=⟨_,rfl⟩
    unfold ruleV
    rw[hq0,hq1,hq2,hq3,hq4]
    have hgo:(narL z.p.line p).1=some m:=by rw[HX.out]
    have HSm:Hid (SmallN w5 w3.heap.size ⟨a2.AL,a2.cl,m.right⟩):=⟨hRn.l.mono HS5.out,by
     have:=pat_few (ruleErr_twin.1 (narL_good hgo)).rp
     show m.right.parts.length≤16384
     omega,fun y hy=>by
     have hl:LetP 40 z.p.line.left:=by rw[HOk.out.lb];exact HZ.out.b
     have:=narL_each hgo (L:=80) (by decide) (fun y hy=>by have:=hl y hy;omega) (HZ.out.r.right hl) (fun y hy=>by have:=HZ.out.h p (List.mem_of_getElem? HP.out) y hy;omega) y hy
     omega⟩
    have HQ:Hid (m.right.parts.length=q1∧m.right.rest=q2):=⟨hq1,hq2⟩
    have hlen:ys.length≤k:=HL.out
    clear h1 ho hgo hRn hq0 hq1 hq2 hq3 hq4
    go_upto_region 10 with (fail)
    go_wp2_with (at_builtin;refine wpList_append_ps rfl (.tmp 34) (.tmp 37) rfl w3 _ ys [⟨a2.AL,a2.cl,m.right⟩] rfl (HI.out.own.to (HC5.out.trans (((Calm.refl _).alloc _).alloc _))) _ 1 1 rfl rfl (read_newH ⟨a2.AL,a2.cl,m.right⟩ (by simp) HQ.out.1 HQ.out.2) (by omega) ?_;intro v7 w7 hown7 hg7)
    have HRel:=Lib.hid (HI.out.hit (x:=⟨a2.AL,a2.cl,m.right⟩) HP.out (by rw[HX.out]) (n:=m) (by rw[HX.out]) rfl (HC5.out.trans (((Calm.refl _).alloc _).alloc _)) (HSm.out.calm (((Calm.refl _).alloc _).alloc _)) hg7 hown7)
    go_roundw
    case rel=>exact⟨k+1,ys++[⟨a2.AL,a2.cl,m.right⟩],by omega,by go_num,(by show _≤_;rw[List.length_append,List.length_singleton];omega),HRel⟩
    case measure=>simp[intOf];omega
  ·obtain rfl:k=gh:=by omega
   have his:rightHs z.p.line z.p.region.hs=some (ys.map (·.p)):=by
    have:=HI.out.is
    rw[List.take_of_length_le (by rw[HGh.out];exact Nat.le_refl _)] at this
    exact this
   obtain⟨HA,hac,hv⟩:=HI.out.own.len_shape
   have hps:PatsR wq HA (ys.map (·.p)):=by
    have:=HI.out.own
    rw[hv] at this
    exact own_readsR this (fun y hy=>(HI.out.each y hy).a) (by have:=HL.out;omega)
   obtain⟨N,hN⟩:∃N,ys.length=N:=⟨_,rfl⟩
   rw[hN] at hv
   subst hv
   have hNk:N≤k:=by have:=HL.out;omega
   obtain⟨ks,hks⟩:∃ks,ys.map (·.p)=ks:=⟨_,rfl⟩
   have hkl:ks.length=N:=by rw[←hks,List.length_map,hN]
   rw[hks] at his hps
   have tw:=ruleErr_twin.1 HOk.out.r
   have hl:LetP 40 z.p.line.left:=by rw[HOk.out.lb];exact HZ.out.b
   have hrl:=HZ.out.r.right hl
   obtain⟨hn,hhn⟩:∃hn,(redL z.p.line.right ks).length=hn:=⟨_,rfl⟩
   have hu3:PatA wq a.AL a.cl z.p.line.right:=by
    have h:=(HN.out.calm HCq.out).l
    exact⟨h.u.toR (by have:=pat_few tw.rp;show z.p.line.right.parts.length≤_;omega) (fun y hy=>by have:=hrl y hy;omega),h.room,h.cap⟩
   have KRd:Hid (Calls Tryz.prog 169 #[.agg #[.slice a.AL r a.cl,.bool rr],.slice HA N hac] wq fun e w'=>(∃A3 c3 HA3 hc3,e=.returned (.agg #[.slice A3 r c3,.bool rr,.slice HA3 hn hc3])∧NewS w' wq.heap.size A3 c3 z.p.line.right.parts∧PatsN w' wq.heap.size HA3 hc3 (redL z.p.line.right ks))∧Calm wq w'):=by
    have:=reduce_c z.p.line.right ks a.AL a.cl HA N hac wq hu3 hps hkl tw.rp (rightHs_good his).1
    unfold RedEnd at this
    rw[HZ1.out.2.1,HZ1.out.2.2.2.1,hhn] at this
    exact this
   have HIs:Hid (entOfP z.p=some ⟨z.p.line.right,z.p.line.left,redL z.p.line.right ks⟩):=by
    show _=_
    unfold entOfP
    rw[his]
    rfl
   have HHn:Hid ((redL z.p.line.right ks).length=hn∧hn≤16384):=⟨hhn,by
    have:=redL_len z.p.line.right ks
    rw[hhn,hkl] at this
    omega⟩
   have HB:Hid ((∀y∈z.p.line.right.parts,y.length≤16384)∧(∀y∈z.p.line.left.parts,y.length≤16384)∧z.p.line.right.parts.length≤16384∧z.p.line.left.parts.length≤16384):=⟨fun y hy=>by have:=hrl y hy;omega,fun y hy=>by have:=hl y hy;omega,by have:=pat_few tw.rp;omega,by have:=pat_few tw.lp;omega⟩
   clear his hps hN hks hkl tw hl hrl hhn hu3
   go_wp2_with fail
   refine KRd.out.mono ?_
   rintro e w5 ⟨⟨A3,c3,HA3,hc3,rfl,hN5,hP5⟩,hc5⟩
   have t0:=Calm.at_ hc5 t0 lt2
   have t1:=Calm.at_ hc5 t1 lt2
   have t2:=Calm.at_ hc5 t2 lt2
   have t3:=Calm.at_ hc5 t3 lt2
   have t4:=Calm.at_ hc5 t4 lt2
   have lt2:=Nat.lt_of_lt_of_le lt2 hc5.size
   have hz5:=HB1.out.calm (HC3.out.trans (HCq.out.trans hc5))
   have z0:=hz5.at_ 0 _ rfl
   have z1:=hz5.at_ 1 _ rfl
   have z2:=hz5.at_ 2 _ rfl
   have z3:=hz5.at_ 3 _ rfl
   have z4:=hz5.at_ 4 _ rfl
   have f0:=hz5.fz 0
   have f1:=hz5.fz 1
   have f2:=hz5.fz 2
   have f3:=hz5.fz 3
   have f4:=hz5.fz 4
   have hzl:=hz5.lt
   have hne:¬P1=w5.heap.size:=by omega
   have hne2:¬w5.heap.size=P1:=by omega
   have hP1:P1 < w1.heap.size:=HB1.out.lt
   have HCe:Hid (∀u0 u1 u2 u3 u4 X,Calm w ((set5 w5 P1 u0 u1 u2 u3 u4).alloc X)):=fun u0 u1 u2 u3 u4 X=>(calm5 ((HC.out.trans HC3.out).trans (HCq.out.trans hc5)) (by have:=HE.out;omega) u0 u1 u2 u3 u4).alloc _
   have HEn:Hid (∀u0 u1 u2 u3 u4 X,EntN ((set5 w5 P1 u0 u1 u2 u3 u4).alloc X) w.heap.size ⟨A3,c3,a.AR,a.cr,HA3,hc3,⟨z.p.line.right,z.p.line.left,redL z.p.line.right ks⟩⟩):=fun u0 u1 u2 u3 u4 X=>by
    have hq:=(HC3.out.trans HCq.out).size
    have h0:EntN w5 w1.heap.size ⟨A3,c3,a.AR,a.cr,HA3,hc3,⟨z.p.line.right,z.p.line.left,redL z.p.line.right ks⟩⟩:=⟨⟨hN5.mono hq,HB.out.2.2.1,HB.out.1⟩,⟨((HN.out.calm (HCq.out.trans hc5)).r),HB.out.2.2.2,HB.out.2.1⟩,hP5.mono hq,by show (redL z.p.line.right ks).length≤_;rw[HHn.out.1];exact HHn.out.2⟩
    exact ((h0.set5 hP1 u0 u1 u2 u3 u4).mono HC.out.size).calm ((Calm.refl _).alloc _)
   clear hz5 hN5 hP5 hc5 KRd
   go_wp2_with fail
   refine bodyPost_ret (v:=.tuple #[.agg #[.slice A3 r c3,.bool rr,.slice a.AR l a.cr,.bool lr,.slice HA3 hn hc3],.int .i64 0]) ?_ rfl ⟨.inr ⟨⟨A3,c3,a.AR,a.cr,HA3,hc3,⟨z.p.line.right,z.p.line.left,redL z.p.line.right ks⟩⟩,HIs.out,?_,HEn.out _ _ _ _ _ _⟩,HCe.out _ _ _ _ _ _⟩
   ·rw[results_cell_slot3 rfl]
    go_simp
   ·unfold encE
    simp only[HZ1.out.1,HZ1.out.2.1,HZ1.out.2.2.1,HZ1.out.2.2.2.1,HHn.out.1]
end Go.Proofs.YtcofdlipapnohaaGreatDoor
