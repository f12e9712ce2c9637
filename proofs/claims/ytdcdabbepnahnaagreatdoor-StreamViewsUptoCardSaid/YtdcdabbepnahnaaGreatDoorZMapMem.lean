/- Rows of patterns and of entries as arguments of at most 1048576 values. -/
import Derived.Test.YtdcdabbepnahnaaGreatDoorZInside
import Derived.Test.YtdcdabbepnahnaaGreatDoorZRowG
import Derived.Test.YtdcdabbepnahnaaGreatDoorZMapO
import Derived.Test.YtdcdabbepnahnaaGreatDoorZSimpW
set_option linter.unusedVariables false
set_option linter.unusedSimpArgs false
namespace Go.Proofs.YtdcdabbepnahnaaGreatDoor
open Go Go.RowKit Sy
structure BoxR (w1:World) (B:Nat) (a:Pl) (r:Rule) (nl nr:Nat) (lr rr ex:Bool):Prop where
 lt:B < w1.heap.size
 c0:w1.cell? ⟨B,0,none⟩=some (.bool ex)
 c1:w1.cell? ⟨B,1,none⟩=some (.slice a.AL nl a.cl)
 c2:w1.cell? ⟨B,2,none⟩=some (.bool lr)
 c3:w1.cell? ⟨B,3,none⟩=some (.slice a.AR nr a.cr)
 c4:w1.cell? ⟨B,4,none⟩=some (.bool rr)
theorem BoxR.calm {w1 w2:World} {B:Nat} {a:Pl} {r:Rule} {nl nr:Nat} {lr rr ex:Bool} (h:BoxR w1 B a r nl nr lr rr ex) (hc:Calm w1 w2):BoxR w2 B a r nl nr lr rr ex:=
 ⟨Nat.lt_of_lt_of_le h.lt hc.size,hc.at_ h.c0 h.lt,hc.at_ h.c1 h.lt,hc.at_ h.c2 h.lt,hc.at_ h.c3 h.lt,hc.at_ h.c4 h.lt⟩
theorem ruleErr_left {r:Rule} (h:patErr r.left≠0):ruleErr r=40:=by rw[ruleErr,if_pos h]
theorem ruleErr_right {r:Rule} (h0:patErr r.left=0) (h:patErr r.right≠0):ruleErr r=41:=by rw[ruleErr,if_neg (by simpa using h0),if_pos h]
theorem ruleErr_kinds {r:Rule} (h0:patErr r.left=0) (h1:patErr r.right=0):ruleErr r=if starN r.left≠starN r.right∨r.left.rest≠r.right.rest then 42 else 0:=by rw[ruleErr,if_neg (by simpa using h0),if_neg (by simpa using h1)]
theorem starN_le (p:Pat) (h:patErr p=0):starN p≤12:=by
 have h1:=List.length_filter_le isStar p.parts
 have h2:=patErr_len h
 unfold starN
 omega
set_option maxHeartbeats 2000000 in
theorem rule_c (r:Rule) (a:Pl) (w:World) (hr:RuleU w a r):Calls Tryz.prog 72 #[ruleV a r] w fun e w'=>e=.returned (.int .i64 (ruleErr r))∧Calm w w':=by
 obtain⟨nl,hnl⟩:∃nl,r.left.parts.length=nl:=⟨_,rfl⟩
 obtain⟨nr,hnr⟩:∃nr,r.right.parts.length=nr:=⟨_,rfl⟩
 obtain⟨lr,hlr⟩:∃lr,r.left.rest=lr:=⟨_,rfl⟩
 obtain⟨rr,hrr⟩:∃rr,r.right.rest=rr:=⟨_,rfl⟩
 obtain⟨ex,hex⟩:∃ex,r.excl=ex:=⟨_,rfl⟩
 obtain⟨w1,hw1⟩:∃w1,w1=w.alloc (.cells #[.bool ex,.slice a.AL nl a.cl,.bool lr,.slice a.AR nr a.cr,.bool rr] 69):=⟨_,rfl⟩
 have hc1:Calm w w1:=by rw[hw1];exact (Calm.refl w).alloc _
 have hbox:BoxR w1 w.heap.size a r nl nr lr rr ex:=by rw[hw1];exact⟨by simp,by simp,by simp,by simp,by simp,by simp⟩
 have hru:=hr.calm hc1
 unfold ruleV
 rw[hnl,hnr,hlr,hrr,hex]
 have HW:=Lib.hid hw1
 have HC:=Lib.hid hc1
 have HN:=Lib.hid (And.intro hnl (And.intro hnr (And.intro hlr hrr)))
 have HB:=Lib.hid hbox
 have HR:=Lib.hid hru
 obtain⟨vl,hvl⟩:∃vl,patErr r.left=vl:=⟨_,rfl⟩
 obtain⟨vr,hvr⟩:∃vr,patErr r.right=vr:=⟨_,rfl⟩
 have HVl:=Lib.hid hvl
 have HVr:=Lib.hid hvr
 have b1:=hbox.c1
 have b2:=hbox.c2
 rw[hw1] at b1 b2
 clear hw1 hc1 hbox hr hru hnl hnr hlr hrr hex hvl hvr
 go_enter Tryz.func72,Tryz.ntmps72
 by_cases hl0:vl=0
 ·subst hl0
  obtain⟨sl,hsl⟩:∃sl,starN r.left=sl:=⟨_,rfl⟩
  have hk1:Calls Tryz.prog 109 #[.agg #[.slice a.AL nl a.cl,.bool lr]] w1 fun e w'=>e=.returned (.tuple #[.int .i64 (sl:Nat),.bool lr,.int .i64 0])∧Calm w1 w':=by
   have:=kinds_c r.left a.AL a.cl w1 HR.out.lr.toG HR.out.lroom HR.out.lcap HVl.out
   rw[hsl,HN.out.1,HN.out.2.2.1] at this
   exact this
  have hsl12:=starN_le r.left HVl.out
  rw[hsl] at hsl12
  have HSl:=Lib.hid hsl
  clear hsl
  go_wp2_with fail
  rw[←HW.out]
  refine hk1.mono ?_
  rintro e w2 ⟨rfl,hc2⟩
  have b3:=(HB.out.calm hc2).c3
  have b4:=(HB.out.calm hc2).c4
  clear b1 b2 hk1
  by_cases hr0:vr=0
  ·subst hr0
   obtain⟨sr,hsr⟩:∃sr,starN r.right=sr:=⟨_,rfl⟩
   have hk2:Calls Tryz.prog 109 #[.agg #[.slice a.AR nr a.cr,.bool rr]] w2 fun e w'=>e=.returned (.tuple #[.int .i64 (sr:Nat),.bool rr,.int .i64 0])∧Calm w2 w':=by
    have h2:=HR.out.calm hc2
    have:=kinds_c r.right a.AR a.cr w2 h2.rr.toG h2.rroom h2.rcap HVr.out
    rw[hsr,HN.out.2.1,HN.out.2.2.2] at this
    exact this
   have hsr12:=starN_le r.right HVr.out
   rw[hsr] at hsr12
   have hv:Hid (ruleErr r=if sl≠sr∨lr≠rr then 42 else 0):=by
    show ruleErr r=_
    rw[ruleErr_kinds HVl.out HVr.out,HSl.out,hsr,HN.out.2.2.1,HN.out.2.2.2]
   clear hsr
   by_cases hss:sl=sr
   ·obtain rfl:sl=sr:=hss
    have hb1:((sl:Int) != (sl:Int))=false:=by simp
    cases lr
    all_goals cases rr
    all_goals
     go_wp2_with fail
     refine hk2.mono ?_
     rintro e w3 ⟨rfl,hc3⟩
     go_wp2
     go_ret
     exact⟨ret_int (by rw[hv.out];simp),HC.out.trans (hc2.trans hc3)⟩
   ·have hb1:((sl:Int) != (sr:Int))=true:=by simp;omega
    have hv2:Hid (ruleErr r=42):=by
     show ruleErr r=42
     rw[hv.out,if_pos (.inl hss)]
    clear hv hss
    go_wp2_with fail
    refine hk2.mono ?_
    rintro e w3 ⟨rfl,hc3⟩
    go_wp2
    go_ret
    exact⟨ret_int (by rw[hv2.out]),HC.out.trans (hc2.trans hc3)⟩
  ·have hk2:Calls Tryz.prog 109 #[.agg #[.slice a.AR nr a.cr,.bool rr]] w2 fun e w'=>e=.returned (.tuple #[.int .i64 0,.bool false,.int .i64 vr])∧Calm w2 w':=by
    have h2:=HR.out.calm hc2
    have:=kinds_e r.right vr a.AR a.cr w2 h2.rr.toG h2.rroom h2.rcap HVr.out hr0
    rw[HN.out.2.1,HN.out.2.2.2] at this
    exact this
   have hv2:Hid (ruleErr r=41):=ruleErr_right HVl.out (by rw[HVr.out];exact hr0)
   have hvb:(vr != 0)=true:=by simpa using hr0
   clear hr0
   go_wp2_with fail
   refine hk2.mono ?_
   rintro e w3 ⟨rfl,hc3⟩
   go_wp2
   go_ret
   exact⟨ret_int (by rw[hv2.out]),HC.out.trans (hc2.trans hc3)⟩
 ·have hk1:Calls Tryz.prog 109 #[.agg #[.slice a.AL nl a.cl,.bool lr]] w1 fun e w'=>e=.returned (.tuple #[.int .i64 0,.bool false,.int .i64 vl])∧Calm w1 w':=by
   have:=kinds_e r.left vl a.AL a.cl w1 HR.out.lr.toG HR.out.lroom HR.out.lcap HVl.out hl0
   rw[HN.out.1,HN.out.2.2.1] at this
   exact this
  have hv2:Hid (ruleErr r=40):=ruleErr_left (by rw[HVl.out];exact hl0)
  have hvb:(vl != 0)=true:=by simpa using hl0
  clear hl0
  go_wp2_with fail
  rw[←HW.out]
  refine hk1.mono ?_
  rintro e w2 ⟨rfl,hc2⟩
  go_wp2
  go_ret
  exact⟨ret_int (by rw[hv2.out]),HC.out.trans hc2⟩
structure SmallR (r:Rule):Prop where
 lp:r.left.parts.length≤16384
 ls:∀x∈r.left.parts,x.length≤16384
 rp:r.right.parts.length≤16384
 rs:∀x∈r.right.parts,x.length≤16384
theorem SmallR.turn {r:Rule} (h:SmallR r):SmallR r.turn:=⟨h.rp,h.rs,h.lp,h.ls⟩
theorem RuleU.left {w:World} {a:Pl} {r:Rule} (h:RuleU w a r) (hs:SmallR r):StrsR w a.AL r.left.parts:=h.lr.toR hs.lp hs.ls
theorem RuleU.right {w:World} {a:Pl} {r:Rule} (h:RuleU w a r) (hs:SmallR r):StrsR w a.AR r.right.parts:=h.rr.toR hs.rp hs.rs
set_option maxHeartbeats 2000000 in
theorem rrule_c (r:Rule) (a:Pl) (w:World) (hr:RuleU w a r) (hsm:SmallR r):Calls Tryz.prog 95 #[ruleV a r] w fun e w'=>e=.returned (.int .i64 (ruleErr r))∧Calm w w':=by
 obtain⟨nl,hnl⟩:∃nl,r.left.parts.length=nl:=⟨_,rfl⟩
 obtain⟨nr,hnr⟩:∃nr,r.right.parts.length=nr:=⟨_,rfl⟩
 obtain⟨lr,hlr⟩:∃lr,r.left.rest=lr:=⟨_,rfl⟩
 obtain⟨rr,hrr⟩:∃rr,r.right.rest=rr:=⟨_,rfl⟩
 obtain⟨ex,hex⟩:∃ex,r.excl=ex:=⟨_,rfl⟩
 obtain⟨w1,hw1⟩:∃w1,w1=w.alloc (.cells #[.bool ex,.slice a.AL nl a.cl,.bool lr,.slice a.AR nr a.cr,.bool rr] 69):=⟨_,rfl⟩
 have hc1:Calm w w1:=by rw[hw1];exact (Calm.refl w).alloc _
 have hbox:BoxR w1 w.heap.size a r nl nr lr rr ex:=by rw[hw1];exact⟨by simp,by simp,by simp,by simp,by simp,by simp⟩
 have hru:=hr.calm hc1
 unfold ruleV
 rw[hnl,hnr,hlr,hrr,hex]
 have HW:=Lib.hid hw1
 have HC:=Lib.hid hc1
 have HN:=Lib.hid (And.intro hnl (And.intro hnr (And.intro hlr hrr)))
 have HB:=Lib.hid hbox
 have HR:=Lib.hid hru
 have HSm:=Lib.hid hsm
 obtain⟨vl,hvl⟩:∃vl,patErr r.left=vl:=⟨_,rfl⟩
 obtain⟨vr,hvr⟩:∃vr,patErr r.right=vr:=⟨_,rfl⟩
 have KL:Hid (∀W,Calm w1 W→Calls Tryz.prog 94 #[.agg #[.slice a.AL nl a.cl,.bool lr]] W fun e w'=>e=.returned (.int .i64 vl)∧Calm W w'):=fun W hW=>by
  have h:=HR.out.calm hW
  have:=rcheckG_c r.left a.AL a.cl W h.lr.toG h.lroom h.lcap
  rw[hvl,hnl,hlr] at this
  exact this
 have KR:Hid (∀W,Calm w1 W→Calls Tryz.prog 94 #[.agg #[.slice a.AR nr a.cr,.bool rr]] W fun e w'=>e=.returned (.int .i64 vr)∧Calm W w'):=fun W hW=>by
  have h:=HR.out.calm hW
  have:=rcheckG_c r.right a.AR a.cr W h.rr.toG h.rroom h.rcap
  rw[hvr,hnr,hrr] at this
  exact this
 have HVl:=Lib.hid hvl
 have HVr:=Lib.hid hvr
 have b1:=hbox.c1
 have b2:=hbox.c2
 rw[hw1] at b1 b2
 clear hw1 hc1 hbox hr hru hnl hnr hlr hrr hex hvl hvr hsm
 go_enter Tryz.func95,Tryz.ntmps95
 go_wp2_with fail
 rw[←HW.out]
 refine (KL.out _ (Calm.refl _)).mono ?_
 rintro e w2 ⟨rfl,hc2⟩
 have d2:=HB.out.calm hc2
 have e1:=d2.c1
 have e2:=d2.c2
 have e3:=d2.c3
 have e4:=d2.c4
 clear b1 b2 KL
 by_cases hl0:vl=0
 ·subst hl0
  go_wp2_with fail
  refine (KR.out _ hc2).mono ?_
  rintro e w3 ⟨rfl,hc3⟩
  have d3:=HB.out.calm (hc2.trans hc3)
  clear e1 e2 e3 e4 d2
  have e1:=d3.c1
  have e2:=d3.c2
  have e3:=d3.c3
  have e4:=d3.c4
  clear KR
  by_cases hr0:vr=0
  ·subst hr0
   obtain⟨sl,hsl⟩:∃sl,starN r.left=sl:=⟨_,rfl⟩
   obtain⟨sr,hsr⟩:∃sr,starN r.right=sr:=⟨_,rfl⟩
   have hk1:Calls Tryz.prog 141 #[.agg #[.slice a.AL nl a.cl,.bool lr]] w3 fun e w'=>e=.returned (.tuple #[.int .i64 (sl:Nat),.bool lr])∧Calm w3 w':=by
    have h:=HR.out.calm (hc2.trans hc3)
    have:=rkinds_c r.left a.AL a.cl w3 h.lr.toG HSm.out.ls HVl.out
    rw[hsl,HN.out.1,HN.out.2.2.1] at this
    exact this
   have HK2:Hid (∀W,Calm w1 W→Calls Tryz.prog 141 #[.agg #[.slice a.AR nr a.cr,.bool rr]] W fun e w'=>e=.returned (.tuple #[.int .i64 (sr:Nat),.bool rr])∧Calm W w'):=fun W hW=>by
    have h:=HR.out.calm hW
    have:=rkinds_c r.right a.AR a.cr W h.rr.toG HSm.out.rs HVr.out
    rw[hsr,HN.out.2.1,HN.out.2.2.2] at this
    exact this
   have hsl12:=starN_le r.left HVl.out
   have hsr12:=starN_le r.right HVr.out
   rw[hsl] at hsl12
   rw[hsr] at hsr12
   have hv:Hid (ruleErr r=if sl≠sr∨lr≠rr then 42 else 0):=by
    show ruleErr r=_
    rw[ruleErr_kinds HVl.out HVr.out,hsl,hsr,HN.out.2.2.1,HN.out.2.2.2]
   clear hsl hsr
   go_wp2_with fail
   refine hk1.mono ?_
   rintro e w4 ⟨rfl,hc4⟩
   have d4:=HB.out.calm ((hc2.trans hc3).trans hc4)
   clear e1 e2 e3 e4 d3
   have e3:=d4.c3
   have e4:=d4.c4
   clear hk1
   by_cases hss:sl=sr
   ·obtain rfl:sl=sr:=hss
    have hb1:((sl:Int) != (sl:Int))=false:=by simp
    cases lr
    all_goals cases rr
    all_goals
     go_wp2_with fail
     refine (HK2.out _ ((hc2.trans hc3).trans hc4)).mono ?_
     rintro e w5 ⟨rfl,hc5⟩
     go_wp2
     go_ret
     exact⟨ret_int (by rw[hv.out];simp),HC.out.trans (((hc2.trans hc3).trans hc4).trans hc5)⟩
   ·have hb1:((sl:Int) != (sr:Int))=true:=by simp;omega
    have hv2:Hid (ruleErr r=42):=by
     show ruleErr r=42
     rw[hv.out,if_pos (.inl hss)]
    clear hv hss
    go_wp2_with fail
    refine (HK2.out _ ((hc2.trans hc3).trans hc4)).mono ?_
    rintro e w5 ⟨rfl,hc5⟩
    go_wp2
    go_ret
    exact⟨ret_int (by rw[hv2.out]),HC.out.trans (((hc2.trans hc3).trans hc4).trans hc5)⟩
  ·have hv2:Hid (ruleErr r=41):=ruleErr_right HVl.out (by rw[HVr.out];exact hr0)
   have hvb:(vr != 0)=true:=by simpa using hr0
   clear hr0
   go_wp2
   go_ret
   exact⟨ret_int (by rw[hv2.out]),HC.out.trans (hc2.trans hc3)⟩
 ·have hv2:Hid (ruleErr r=40):=ruleErr_left (by rw[HVl.out];exact hl0)
  have hvb:(vl != 0)=true:=by simpa using hl0
  clear hl0
  go_wp2
  go_ret
  exact⟨ret_int (by rw[hv2.out]),HC.out.trans hc2⟩
structure NewE where
 LA:Option Addr
 lc:Nat
 RA:Option Addr
 rc:Nat
 HA:Option Addr
 hc:Nat
 e:Ent
deriving Inhabited
def encE (x:NewE):List Value:=[.slice x.LA x.e.left.parts.length x.lc,.bool x.e.left.rest,.slice x.RA x.e.right.parts.length x.rc,.bool x.e.right.rest,.slice x.HA x.e.hs.length x.hc]
theorem encE_len (x:NewE):(encE x).length=5:=rfl
theorem encE_one (x:NewE):∀u∈encE x,u.oneCell'=true:=by simp[encE,Value.oneCell']
theorem info_ent:(Tryz.prog.info? 73).map (fun i=>(i.zero,i.size,i.bytes))=some (some (.agg #[.slice none 0 0,.bool false,.slice none 0 0,.bool false,.slice none 0 0]),5,88):=by kernel_rfl
structure EntN (w:World) (B:Nat) (x:NewE):Prop where
 l:SmallN w B ⟨x.LA,x.lc,x.e.left⟩
 r:SmallN w B ⟨x.RA,x.rc,x.e.right⟩
 h:PatsN w B x.HA x.hc x.e.hs
 few:x.e.hs.length≤16384
theorem EntN.calm {w w':World} {B:Nat} {x:NewE} (h:EntN w B x) (hc:Calm w w'):EntN w' B x:=⟨h.l.calm hc,h.r.calm hc,h.h.calm hc,h.few⟩
theorem EntN.mono {w:World} {B B':Nat} {x:NewE} (h:EntN w B x) (hB:B'≤B):EntN w B' x:=⟨h.l.mono hB,h.r.mono hB,h.h.mono hB,h.few⟩
theorem EntN.own {w w':World} {B:Nat} {x:NewE} (h:EntN w B x) {B0 n K:Nat} {v:Value} {T:TypeId} {xs:List Value} (hT:51≠T) (hS:9≠T) (hown:w.ownsRow B0 T K v n xs) (hg:w.grownBy w' v.ownBlock):EntN w' B x:=
 ⟨h.l.own hS hown hg,h.r.own hS hown hg,h.h.own hT hS hown hg,h.few⟩
structure EntU (w:World) (z:NewE):Prop where
 l:PatA w z.LA z.lc z.e.left
 r:PatA w z.RA z.rc z.e.right
 h:PatsR w z.HA z.e.hs
 room:z.e.hs.length≤z.hc
 cap:z.hc≤9223372036854775807
theorem EntU.calm {w w':World} {z:NewE} (h:EntU w z) (hc:Calm w w'):EntU w' z:=⟨h.l.calm hc,h.r.calm hc,h.h.calm hc,h.room,h.cap⟩
theorem EntN.u {w:World} {B:Nat} {x:NewE} (h:EntN w B x):EntU w x:=⟨h.l.a,h.r.a,h.h.reads h.few,h.h.room,h.h.cap⟩
def EntsR (w:World) (A:Option Addr) (es:List Ent):Prop:=∃zs:List NewE,zs.map (·.e)=es∧ReadX encE 5 w A zs∧∀z∈zs,EntU w z
theorem EntsR.calm {w w':World} {A:Option Addr} {es:List Ent} (h:EntsR w A es) (hc:Calm w w'):EntsR w' A es:=by
 obtain⟨zs,h1,h2,h3⟩:=h
 exact⟨zs,h1,h2.calm hc,fun z hz=>(h3 z hz).calm hc⟩
theorem EntsR.get {w:World} {A:Option Addr} {es:List Ent} (h:EntsR w A es) {k:Nat} (hk:k < es.length):∃(b o:Nat) (z:NewE),A=some ⟨b,o,none⟩∧b < w.heap.size∧es[k]?=some z.e ∧
  w.cell? ⟨b,o+k * 5,none⟩=some (.slice z.LA z.e.left.parts.length z.lc)∧w.cell? ⟨b,o+k * 5+1,none⟩=some (.bool z.e.left.rest)∧w.cell? ⟨b,o+k * 5+2,none⟩=some (.slice z.RA z.e.right.parts.length z.rc)∧w.cell? ⟨b,o+k * 5+3,none⟩=some (.bool z.e.right.rest)∧w.cell? ⟨b,o+k * 5+4,none⟩=some (.slice z.HA z.e.hs.length z.hc)∧EntU w z:=by
 obtain⟨zs,rfl,h2,h3⟩:=h
 rw[List.length_map] at hk
 obtain⟨b,o,hA,hb,hc⟩:=h2 (fun e=>by rw[e] at hk;simp at hk)
 have hz:=List.getElem?_eq_getElem hk
 exact⟨b,o,zs[k],hA,hb,by rw[List.getElem?_map,hz];rfl,hc k _ hz 0 _ rfl,hc k _ hz 1 _ rfl,hc k _ hz 2 _ rfl,hc k _ hz 3 _ rfl,hc k _ hz 4 _ rfl,h3 _ (List.mem_of_getElem? hz)⟩
theorem read_newE {w:World} {n:Nat} (y:NewE) {l r h:Nat} {lb rb:Bool} (hn:w.heap.size=n) (hl:y.e.left.parts.length=l) (hlb:y.e.left.rest=lb) (hr:y.e.right.parts.length=r) (hrb:y.e.right.rest=rb) (hh:y.e.hs.length=h):ReadX encE 5 (w.alloc (.cells #[.slice y.LA l y.lc,.bool lb,.slice y.RA r y.rc,.bool rb,.slice y.HA h y.hc] 73)) (some ⟨n,0,none⟩) [y]:=fun _=>by
 refine⟨n,0,rfl,by rw[←hn];simp[go_sem],fun k x hk i u hu=>?_⟩
 have h0:k=0:=by
  have:=(List.getElem?_eq_some_iff.1 hk).1
  simp at this
  exact this
 subst h0
 obtain rfl:y=x:=by simpa using hk
 subst hn hl hlb hr hrb hh
 rw[cell_of_row _ w.heap.size _ _ _ _ (heap_alloc_new w _)]
 simpa[encE] using hu
theorem read_newH {w:World} {n:Nat} (y:NewP) {m:Nat} {r:Bool} (h:w.heap.size=n) (hm:y.p.parts.length=m) (hr:y.p.rest=r):ReadX encP 2 (w.alloc (.cells #[.slice y.A m y.c,.bool r] 51)) (some ⟨n,0,none⟩) [y]:=fun _=>by
 refine⟨n,0,rfl,by rw[←h];simp[go_sem],fun k x hk i u hu=>?_⟩
 have h0:k=0:=by
  have:=(List.getElem?_eq_some_iff.1 hk).1
  simp at this
  exact this
 subst h0
 obtain rfl:y=x:=by simpa using hk
 subst h hm hr
 rw[cell_of_row _ w.heap.size _ _ _ _ (heap_alloc_new w _)]
 simpa[encP] using hu
theorem take_snoc {α:Type} {ls:List α} {k:Nat} {q:α} (hq:ls[k]?=some q):ls.take (k+1)=ls.take k++[q]:=by
 rw[List.take_add_one,hq]
 rfl
structure PatsU (w:World) (A:Option Addr) (ps:List Pat):Prop where
 len:ps.length≤1048576
 at_:0 < ps.length→∃b o,A=some ⟨b,o,none⟩∧b < w.heap.size∧∀(k:Nat) p,ps[k]?=some p→∃Ak ck,w.cell? ⟨b,o+k * 2,none⟩=some (.slice Ak p.parts.length ck)∧w.cell? ⟨b,o+k * 2+1,none⟩=some (.bool p.rest)∧p.parts.length≤ck∧ck≤9223372036854775807∧StrsU w Ak p.parts
theorem PatsU.calm {w w':World} {A:Option Addr} {ps:List Pat} (h:PatsU w A ps) (hc:Calm w w'):PatsU w' A ps:=
 ⟨h.len,fun h0=>by
  obtain⟨b,o,rfl,hb,hk⟩:=h.at_ h0
  refine⟨b,o,rfl,Nat.lt_of_lt_of_le hb hc.size,fun k p hp=>?_⟩
  obtain⟨Ak,ck,h1,h2,h3,h4,h5⟩:=hk k p hp
  exact⟨Ak,ck,(hc.cell (p:=⟨b,o+k * 2,none⟩) hb).trans h1,(hc.cell (p:=⟨b,o+k * 2+1,none⟩) hb).trans h2,h3,h4,h5.calm hc⟩⟩
theorem PatsU.get {w:World} {A:Option Addr} {ps:List Pat} (h:PatsU w A ps) {k:Nat} (hk:k < ps.length):∃b o p Ak ck,A=some ⟨b,o,none⟩∧b < w.heap.size∧ps[k]?=some p∧w.cell? ⟨b,o+k * 2,none⟩=some (.slice Ak p.parts.length ck)∧w.cell? ⟨b,o+k * 2+1,none⟩=some (.bool p.rest)∧p.parts.length≤ck∧ck≤9223372036854775807∧StrsU w Ak p.parts:=by
 obtain⟨b,o,hA,hb,hc⟩:=h.at_ (by omega)
 obtain⟨Ak,ck,h1,h2,h3,h4,h5⟩:=hc k _ (List.getElem?_eq_getElem hk)
 exact⟨b,o,ps[k],Ak,ck,hA,hb,List.getElem?_eq_getElem hk,h1,h2,h3,h4,h5⟩
theorem PatsU.toR {w:World} {A:Option Addr} {ps:List Pat} (h:PatsU w A ps) (h1:ps.length≤16384) (h2:∀p∈ps,p.parts.length≤16384∧∀l∈p.parts,l.length≤16384):PatsR w A ps:=
 ⟨h1,fun h0=>by
  obtain⟨b,o,hA,hb,hk⟩:=h.at_ h0
  refine⟨b,o,hA,hb,fun k p hp=>?_⟩
  obtain⟨Ak,ck,g1,g2,g3,g4,g5⟩:=hk k p hp
  have:=h2 p (List.mem_of_getElem? hp)
  exact⟨Ak,ck,g1,g2,g3,g4,g5.toR this.1 this.2⟩⟩
theorem PatsU.places {w:World} {A:Option Addr} {ps:List Pat} (h:PatsU w A ps):∃l:List NewP,l.map (·.p)=ps∧ReadX encP 2 w A l∧∀x∈l,x.p.parts.length≤x.c∧x.c≤9223372036854775807∧StrsU w x.A x.p.parts:=by
 rcases Nat.eq_zero_or_pos ps.length with h0 | h0
 ·have:ps=[]:=List.eq_nil_of_length_eq_zero h0
  subst this
  exact⟨[],rfl,fun h=>absurd rfl h,fun x hx=>by cases hx⟩
 ·obtain⟨b,o,hA,hb,hk⟩:=h.at_ h0
  have each:∀k,k < ps.length→∃x:NewP,ps[k]?=some x.p∧w.cell? ⟨b,o+k * 2,none⟩=some (.slice x.A x.p.parts.length x.c)∧w.cell? ⟨b,o+k * 2+1,none⟩=some (.bool x.p.rest)∧x.p.parts.length≤x.c∧x.c≤9223372036854775807∧StrsU w x.A x.p.parts:=fun k hk2=>by
   obtain⟨Ak,ck,g1,g2,g3,g4,g5⟩:=hk k _ (List.getElem?_eq_getElem hk2)
   exact⟨⟨Ak,ck,ps[k]⟩,List.getElem?_eq_getElem hk2,g1,g2,g3,g4,g5⟩
  obtain⟨f,hf⟩:∃f:Nat→NewP,∀k,k < ps.length→ps[k]?=some (f k).p∧w.cell? ⟨b,o+k * 2,none⟩=some (.slice (f k).A (f k).p.parts.length (f k).c)∧w.cell? ⟨b,o+k * 2+1,none⟩=some (.bool (f k).p.rest)∧(f k).p.parts.length≤(f k).c∧(f k).c≤9223372036854775807∧StrsU w (f k).A (f k).p.parts:=by
   refine⟨fun k=>if hk2:k < ps.length then Classical.choose (each k hk2) else default,fun k hk2=>?_⟩
   simp only[dif_pos hk2]
   exact Classical.choose_spec (each k hk2)
  refine⟨(List.range ps.length).map f,?_,fun _=>⟨b,o,hA,hb,fun k x hx i u hu=>?_⟩,fun x hx=>?_⟩
  ·refine List.ext_getElem? fun k=>?_
   rw[List.getElem?_map,List.getElem?_map]
   by_cases hk2:k < ps.length
   ·rw[List.getElem?_range hk2,(hf k hk2).1]
    rfl
   ·rw[List.getElem?_eq_none (by simpa using hk2),List.getElem?_eq_none (by omega)]
    rfl
  ·rw[List.getElem?_map] at hx
   obtain⟨k',hk',rfl⟩:=Option.map_eq_some_iff.1 hx
   obtain⟨hlt,he⟩:=List.getElem?_eq_some_iff.1 hk'
   rw[List.getElem_range] at he
   subst he
   rw[List.length_range] at hlt
   obtain⟨_,g1,g2,_⟩:=hf k hlt
   match i,hu with
   |0,hu=>
    obtain rfl:=Option.some.inj hu
    exact g1
   |1,hu=>
    obtain rfl:=Option.some.inj hu
    exact g2
   |(n+2),hu=>simp[encP] at hu
  ·obtain⟨k,hk2,rfl⟩:=List.mem_map.1 hx
   obtain⟨_,_,_,g3,g4,g5⟩:=hf k (List.mem_range.1 hk2)
   exact⟨g3,g4,g5⟩
end Go.Proofs.YtdcdabbepnahnaaGreatDoor
