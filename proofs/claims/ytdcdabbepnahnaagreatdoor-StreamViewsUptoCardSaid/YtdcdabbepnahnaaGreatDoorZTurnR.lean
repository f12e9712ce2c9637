/- Walks: the reference's copy of a pattern, and its line with sides exchanged. -/
import Derived.Deep.RegionLaw
import Derived.Deep.RegionHeld3
import Derived.Test.YtdcdabbepnahnaaGreatDoorZCopyP
import Derived.Test.YtdcdabbepnahnaaGreatDoorZInside
set_option linter.unusedVariables false
set_option linter.unusedSimpArgs false
namespace Go.Proofs.YtdcdabbepnahnaaGreatDoor
open Go Go.RowKit Sy
theorem step_app {ops:Array Oper} {o:Oper} {a:Act} {w:World} {K:Act→World→Prop} {Q:Exit→Act→World→Prop} {E:Prop}
  (hg:o.guard=none) (s x:Operand) (hop:o.op=Op.call { callee:=Callee.builtin Builtin.append,args:=#[s,x],argTypes:=#[41,41] })
  (w0:World) (v:Value) (ls:List Str) (hs:a.eval s=v) (hown:OwnS w0 w v ls) (AX:Option Addr) (m c:Nat) (hx:a.eval x=.slice AX m c) (news:List Str) (hm:news.length=m) (hrd:StrsU w AX news) (hl:ls.length+m≤4000000)
  (hK:∀v' w',OwnS w0 w' v' (ls++news)→K (a.put o.dst v') w') :
  if Region.wanted o (yielded ops a.tmps)=true then Oper.wp Tryz.prog o a w K Q else E:=by
 have hw:Region.wanted o (yielded ops a.tmps)=true:=by simp[Region.wanted,hg]
 rw[if_pos hw]
 obtain⟨i0,hi0,hz0,hz1,hz2⟩:=info_parts info_strE
 have hrun:∃v' w',(Builtin.append_ #[41,41] o.type #[v,.slice AX m c]).run Tryz.prog w=.ok v' w'∧OwnS w0 w' v' (ls++news):=by
  cases AX with
  |none=>
   have h0:news=[]:=by
    cases news with
    |nil=>rfl
    |cons y t=>
     obtain⟨b,o',hA,_⟩:=hrd.at_ (by simp)
     cases hA
   subst h0
   obtain rfl:0=m:=by simpa using hm
   refine⟨v,w,?_,by rw[List.append_nil];exact hown⟩
   rcases hown.own.2 with⟨rfl,h1⟩ | ⟨g,cap,cur,rfl,_,_,hnc,_⟩
   ·simp[Builtin.append_,run_underlying Tryz.underlying41,sizeOf,typeInfo,hi0,Builtin.lenOf,Builtin.firstCells]
   ·simp[Builtin.append_,run_underlying Tryz.underlying41,sizeOf,typeInfo,hi0,Builtin.lenOf,Builtin.firstCells,hnc,storeCells]
  |some ad=>
   have hnews:∀(j:Nat) (u:Value),(strCells news)[j]?=some u→w.cell? (ad.add j)=some u:=fun j u hj=>by
    simp only[strCells,List.getElem?_map,Option.map_eq_some_iff] at hj
    obtain⟨l,hl1,rfl⟩:=hj
    obtain⟨b,o',hA,hb,hk⟩:=hrd.at_ (by have:=(List.getElem?_eq_some_iff.1 hl1).1;omega)
    obtain rfl:=Option.some.inj hA
    simpa[Addr.add_lit] using hk j l hl1
   have h1:∀u∈strCells news,u.oneCell'=true:=fun u hu=>by
    obtain⟨l,_,rfl⟩:=List.mem_map.1 hu
    rfl
   obtain⟨v',w',hr,h2,h3,_⟩:=run_append_own (P:=Tryz.prog) w w0.heap.size 41 o.type 9 i0 _ 1 16 Tryz.underlying41 hi0 hz0 hz1 hz2 rfl (by decide) v ls.length (strCells ls) hown.own ad m c (strCells news) (by rw[strCells,List.length_map,hm,Nat.mul_one]) hnews h1 (by unfold maxLen;omega) (by omega) hown.calm.size
   exact⟨v',w',hr,Below.trans hown.calm (owns_below hown.own hown.calm.size h3),by rw[List.length_append,hm];simpa[strCells] using h2⟩
 obtain⟨v',w',hr,h2⟩:=hrun
 unfold Oper.wp
 simp[execOp,hop,resolve,invoke,builtin,hs,hx,Result.andThen]
 rw[hr]
 exact hK v' w' h2
def TurnEnd (r:Rule) (B:Nat) (e:Ending) (w':World):Prop:=∃a,e=.returned (ruleV a r.turn)∧RuleN w' B a r.turn
structure BoxT (w1:World) (B:Nat) (a:Pl) (nl nr:Nat) (lr rr ex:Bool):Prop where
 size:w1.heap.size=B+2
 c0:w1.cell? ⟨B,0,none⟩=some (.bool ex)
 c1:w1.cell? ⟨B,1,none⟩=some (.slice a.AL nl a.cl)
 c2:w1.cell? ⟨B,2,none⟩=some (.bool lr)
 c3:w1.cell? ⟨B,3,none⟩=some (.slice a.AR nr a.cr)
 c4:w1.cell? ⟨B,4,none⟩=some (.bool rr)
 d0:w1.cell? ⟨B+1,0,none⟩=some (.bool false)
 d1:w1.cell? ⟨B+1,1,none⟩=some (.slice none 0 0)
 d2:w1.cell? ⟨B+1,2,none⟩=some (.bool false)
 d3:w1.cell? ⟨B+1,3,none⟩=some (.slice none 0 0)
 d4:w1.cell? ⟨B+1,4,none⟩=some (.bool false)
 f:∀o,w1.frozen? ⟨B+1,o,none⟩=false
theorem BoxT.S {w1 w2:World} {B:Nat} {a:Pl} {nl nr:Nat} {lr rr ex:Bool} (h:BoxT w1 B a nl nr lr rr ex) (hc:Below (B+1) w1 w2):Below (B+1) w1 w2∧w2.cell? ⟨B,0,none⟩=some (.bool ex)∧w2.cell? ⟨B,1,none⟩=some (.slice a.AL nl a.cl)∧w2.cell? ⟨B,2,none⟩=some (.bool lr)∧w2.cell? ⟨B,3,none⟩=some (.slice a.AR nr a.cr)∧w2.cell? ⟨B,4,none⟩=some (.bool rr):=
 ⟨hc,(hc.cell (p:=⟨B,0,none⟩) (Nat.lt_succ_self B)).trans h.c0,(hc.cell (p:=⟨B,1,none⟩) (Nat.lt_succ_self B)).trans h.c1,(hc.cell (p:=⟨B,2,none⟩) (Nat.lt_succ_self B)).trans h.c2,(hc.cell (p:=⟨B,3,none⟩) (Nat.lt_succ_self B)).trans h.c3,(hc.cell (p:=⟨B,4,none⟩) (Nat.lt_succ_self B)).trans h.c4⟩
theorem BoxT.low {w1 w2:World} {B:Nat} {a:Pl} {nl nr:Nat} {lr rr ex:Bool} (h:BoxT w1 B a nl nr lr rr ex) (hc:Calm w1 w2):Below (B+1) w1 w2:=hc.mono (by rw[h.size];omega)
structure RoomT (w2:World) (B:Nat):Prop where
 d0:w2.cell? ⟨B+1,0,none⟩=some (.bool false)
 d1:w2.cell? ⟨B+1,1,none⟩=some (.slice none 0 0)
 d2:w2.cell? ⟨B+1,2,none⟩=some (.bool false)
 d3:w2.cell? ⟨B+1,3,none⟩=some (.slice none 0 0)
 d4:w2.cell? ⟨B+1,4,none⟩=some (.bool false)
 f:∀o,w2.frozen? ⟨B+1,o,none⟩=false
theorem BoxT.room {w1 w2:World} {B:Nat} {a:Pl} {nl nr:Nat} {lr rr ex:Bool} (h:BoxT w1 B a nl nr lr rr ex) (hc:Calm w1 w2):RoomT w2 B:=by
 have h1:B+1 < w1.heap.size:=by rw[h.size];omega
 exact⟨hc.at_ h.d0 h1,hc.at_ h.d1 h1,hc.at_ h.d2 h1,hc.at_ h.d3 h1,hc.at_ h.d4 h1,fun o=>(hc.frozen (p:=⟨B+1,o,none⟩) h1).trans (h.f o)⟩
theorem NewS.setT {w:World} {B:Nat} {A:Option Addr} {c:Nat} {ls:List Str} (h:NewS w (B+2) A c ls) (u0 u1 u2 u3 u4:Value):NewS (((((w.setCell ⟨B+1,0,none⟩ u0).setCell ⟨B+1,1,none⟩ u1).setCell ⟨B+1,2,none⟩ u2).setCell ⟨B+1,3,none⟩ u3).setCell ⟨B+1,4,none⟩ u4) B A c ls:=
 (((((h.set (p:=⟨B+1,0,none⟩) u0 (Nat.lt_succ_self _)).set (p:=⟨B+1,1,none⟩) u1 (Nat.lt_succ_self _)).set (p:=⟨B+1,2,none⟩) u2 (Nat.lt_succ_self _)).set (p:=⟨B+1,3,none⟩) u3 (Nat.lt_succ_self _)).set (p:=⟨B+1,4,none⟩) u4 (Nat.lt_succ_self _)).mono (by omega)
theorem rcopy_v (p:Pat) (A:Option Addr) (n c:Nat) (re:Bool) (w:World) (hr:StrsU w A p.parts) (hn:p.parts.length=n) (hre:p.rest=re) :
  Calls Tryz.prog 146 #[.agg #[.slice A n c,.bool re]] w fun e w'=>(∃A2 c2,e=.returned (.agg #[.slice A2 n c2,.bool re])∧NewS w' w.heap.size A2 c2 p.parts)∧Calm w w':=by
 obtain⟨w1,hw1⟩:∃w1,w1=(w.alloc (.cells #[.slice A n c,.bool re] 51)).alloc (.cells #[.slice none 0 0,.bool false] 51):=⟨_,rfl⟩
 have hc1:Calm w w1:=by rw[hw1];exact ((Calm.refl w).alloc _).alloc _
 have hz1:w1.heap.size=w.heap.size+2:=by rw[hw1];simp
 have k0:w1.cell? ⟨w.heap.size,0,none⟩=some (.slice A n c):=by rw[hw1];simp
 have k1:w1.cell? ⟨w.heap.size,1,none⟩=some (.bool re):=by rw[hw1];simp
 have k2:w1.cell? ⟨w.heap.size+1,0,none⟩=some (.slice none 0 0):=by rw[hw1];simp
 have k3:w1.cell? ⟨w.heap.size+1,1,none⟩=some (.bool false):=by rw[hw1];simp
 have f0:w1.frozen? ⟨w.heap.size+1,0,none⟩=false:=by rw[hw1];simp
 have f1:w1.frozen? ⟨w.heap.size+1,1,none⟩=false:=by rw[hw1];simp
 have hlen:=hr.len
 rw[hn] at hlen
 have HW:=Lib.hid hw1
 have HC:=Lib.hid hc1
 have HN:=Lib.hid hn
 have HK:=Lib.hid (And.intro k0 (And.intro k1 (And.intro k2 (And.intro k3 (And.intro f0 (And.intro f1 hz1))))))
 have HR:=Lib.hid (hr.calm hc1)
 have HE:=Lib.hid hr.each
 clear hw1 hc1 hr hn hz1
 go_enter Tryz.func146,Tryz.ntmps146
 go_wp2
 rw[←HW.out]
 go_region_law ((refine step_app rfl (.const (.slice none 0 0)) (.tmp 4) rfl w1 (.slice none 0 0) [] rfl (OwnS.nil (by first | exact Calm.refl _ | exact (Calm.refl _).drewN _ | exact Below.drew (Calm.refl _))) A n c (by simp[Act.eval,Act.put]) p.parts HN.out (HR.out.calm (by first | exact Calm.refl _ | exact (Calm.refl _).drewN _ | exact Below.drew (Calm.refl _))) (by simp;omega) ?_;intro v5 w5 hown5;obtain⟨A9,c9,hv9,hns9⟩:=own_newS hown5.own HR.out.len HE.out;simp only[List.nil_append] at hv9 hns9;rw[HN.out] at hv9;subst hv9;have z1:=hown5.calm.at_ HK.out.2.1 (by rw[HK.out.2.2.2.2.2.2];omega);have z2:=hown5.calm.at_ HK.out.2.2.1 (by rw[HK.out.2.2.2.2.2.2];omega);have z3:=hown5.calm.at_ HK.out.2.2.2.1 (by rw[HK.out.2.2.2.2.2.2];omega);have z4:=(hown5.calm.frozen (p:=⟨w.heap.size+1,0,none⟩) (by rw[HK.out.2.2.2.2.2.2];show w.heap.size+1 < _;omega)).trans HK.out.2.2.2.2.1;have z5:=(hown5.calm.frozen (p:=⟨w.heap.size+1,1,none⟩) (by rw[HK.out.2.2.2.2.2.2];show w.heap.size+1 < _;omega)).trans HK.out.2.2.2.2.2.1))
 all_goals
  have hc3:Calm w ((w5.setCell ⟨w.heap.size+1,0,none⟩ (.slice A9 n c9)).setCell ⟨w.heap.size+1,1,none⟩ (.bool re)):=Below.setCell (Below.setCell (HC.out.trans hown5.calm) (by show w.heap.size≤w.heap.size+1;omega) _) (by show w.heap.size≤w.heap.size+1;omega) _
  have hn3:=((hns9.set (p:=⟨w.heap.size+1,0,none⟩) (.slice A9 n c9) (by show w.heap.size+1 < _;have:=HK.out.2.2.2.2.2.2;simp;omega)).set (p:=⟨w.heap.size+1,1,none⟩) (.bool re) (by show w.heap.size+1 < _;have:=HK.out.2.2.2.2.2.2;simp;omega))
  have hn4:=hn3.mono (show w.heap.size≤_ by have:=HK.out.2.2.2.2.2.2;simp;omega)
  clear hns9 hn3 k0 k1 k2 k3 f0 f1 hown5
  try simp only[List.getElem_toArray,List.getElem_cons_succ,List.getElem_cons_zero,Act.put,List.setIfInBounds_toArray,List.set_cons_succ,List.set_cons_zero]
  go_wp2
  refine bodyPost_ret (v:=.agg #[.slice A9 n c9,.bool re]) ?_ rfl ⟨⟨A9,c9,rfl,hn4⟩,hc3⟩
  rw[results_cell1 rfl]
  go_simp
set_option maxHeartbeats 8000000 in
theorem rturn_c (r:Rule) (a:Pl) (w:World) (hr:RuleU w a r) :
  Calls Tryz.prog 104 #[ruleV a r] w fun e w'=>TurnEnd r w.heap.size e w'∧Calm w w':=by
 obtain⟨nl,hnl⟩:∃nl,r.left.parts.length=nl:=⟨_,rfl⟩
 obtain⟨nr,hnr⟩:∃nr,r.right.parts.length=nr:=⟨_,rfl⟩
 obtain⟨lr,hlr⟩:∃lr,r.left.rest=lr:=⟨_,rfl⟩
 obtain⟨rr,hrr⟩:∃rr,r.right.rest=rr:=⟨_,rfl⟩
 obtain⟨ex,hex⟩:∃ex,r.excl=ex:=⟨_,rfl⟩
 obtain⟨w1,hw1⟩:∃w1,w1=(w.alloc (.cells #[.bool ex,.slice a.AL nl a.cl,.bool lr,.slice a.AR nr a.cr,.bool rr] 69)).alloc (.cells #[.bool false,.slice none 0 0,.bool false,.slice none 0 0,.bool false] 69):=⟨_,rfl⟩
 have hc1:Calm w w1:=by rw[hw1];exact ((Calm.refl w).alloc _).alloc _
 have hbox:BoxT w1 w.heap.size a nl nr lr rr ex:=by
  rw[hw1]
  exact⟨by simp,by simp,by simp,by simp,by simp,by simp,by simp,by simp,by simp,by simp,by simp,fun o=>by simp⟩
 have KR:Hid (∀W,Calm w1 W→Calls Tryz.prog 146 #[.agg #[.slice a.AR nr a.cr,.bool rr]] W fun e w'=>(∃A2 c2,e=.returned (.agg #[.slice A2 nr c2,.bool rr])∧NewS w' W.heap.size A2 c2 r.right.parts)∧Calm W w'):=fun W hW=>rcopy_v r.right a.AR nr a.cr rr W ((hr.calm hc1).calm hW).rr hnr hrr
 have KL:Hid (∀W,Calm w1 W→Calls Tryz.prog 146 #[.agg #[.slice a.AL nl a.cl,.bool lr]] W fun e w'=>(∃A2 c2,e=.returned (.agg #[.slice A2 nl c2,.bool lr])∧NewS w' W.heap.size A2 c2 r.left.parts)∧Calm W w'):=fun W hW=>rcopy_v r.left a.AL nl a.cl lr W ((hr.calm hc1).calm hW).lr hnl hlr
 unfold ruleV
 rw[hnl,hnr,hlr,hrr,hex]
 have HW:=Lib.hid hw1
 have HC:=Lib.hid hc1
 have HB:=Lib.hid hbox
 have HN:=Lib.hid (And.intro hnl (And.intro hnr (And.intro hlr (And.intro hrr hex))))
 clear hw1 hc1 hbox hr hnl hnr hlr hrr hex
 obtain⟨AL,cl,AR,cr⟩:=a
 simp only at KR KL ⊢
 go_enter Tryz.func104,Tryz.ntmps104
 go_wp2
 rw[←HW.out]
 go_region_held3 (fun w'=>Below (w.heap.size+1) w1 w'∧w'.cell? ⟨w.heap.size,0,none⟩=some (.bool ex)∧w'.cell? ⟨w.heap.size,1,none⟩=some (.slice AL nl cl)∧w'.cell? ⟨w.heap.size,2,none⟩=some (.bool lr)∧w'.cell? ⟨w.heap.size,3,none⟩=some (.slice AR nr cr)∧w'.cell? ⟨w.heap.size,4,none⟩=some (.bool rr))
  (first
   |exact HB.out.S (Below.drew (Below.refl _ _))
   |exact HB.out.S (HB.out.low hcx)
   |exact HB.out.S (HB.out.low hcy)
   |exact HB.out.S (Below.setCell (Below.setCell (Below.setCell (Below.setCell (Below.setCell (HB.out.low hcy) (Nat.le_refl _) _) (Nat.le_refl _) _) (Nat.le_refl _) _) (Nat.le_refl _) _) (Nat.le_refl _) _)
   |go_keep)
  (first
   |(go_at_call_of 146 (Value.slice AR nr cr);refine (KR.out _ (Below.drew (Calm.refl _))).mono ?_;rintro e w2 ⟨⟨A2,c2,rfl,hns2⟩,hc2⟩;have hcx:Calm w1 w2:=Calm.trans (Below.drew (Calm.refl _)) hc2)
   |(go_at_call_of 146 (Value.slice AL nl cl);refine (KL.out _ hcx).mono ?_;rintro e w3 ⟨⟨A3,c3,rfl,hns3⟩,hc3⟩;have hcy:Calm w1 w3:=hcx.trans hc3;have rm:=HB.out.room hcy;have d0:=rm.d0;have d1:=rm.d1;have d2:=rm.d2;have d3:=rm.d3;have d4:=rm.d4;have f0:=rm.f 0;have f1:=rm.f 1;have f2:=rm.f 2;have f3:=rm.f 3;have f4:=rm.f 4;clear rm))
 all_goals
  have hA:NewS w3 (w.heap.size+2) A2 c2 r.right.parts:=(hns2.calm hc3).mono (by show w.heap.size+2≤w1.heap.size;rw[HB.out.size];exact Nat.le_refl _)
  have hB:NewS w3 (w.heap.size+2) A3 c3 r.left.parts:=hns3.mono (by have:=hcx.size;rw[HB.out.size] at this;exact this)
  have hA5:=hA.setT (.bool ex) (.slice A2 nr c2) (.bool rr) (.slice A3 nl c3) (.bool lr)
  have hB5:=hB.setT (.bool ex) (.slice A2 nr c2) (.bool rr) (.slice A3 nl c3) (.bool lr)
  have hc4:Calm w (((((w3.setCell ⟨w.heap.size+1,0,none⟩ (.bool ex)).setCell ⟨w.heap.size+1,1,none⟩ (.slice A2 nr c2)).setCell ⟨w.heap.size+1,2,none⟩ (.bool rr)).setCell ⟨w.heap.size+1,3,none⟩ (.slice A3 nl c3)).setCell ⟨w.heap.size+1,4,none⟩ (.bool lr)):=
   Below.setCell (Below.setCell (Below.setCell (Below.setCell (Below.setCell (HC.out.trans hcy) (by show w.heap.size≤w.heap.size+1;omega) _) (by show w.heap.size≤w.heap.size+1;omega) _) (by show w.heap.size≤w.heap.size+1;omega) _) (by show w.heap.size≤w.heap.size+1;omega) _) (by show w.heap.size≤w.heap.size+1;omega) _
  clear hA hB hns2 hns3 hcx hcy hc2 hc3 KR KL
  go_wp2
  refine bodyPost_ret (v:=.agg #[.bool ex,.slice A2 nr c2,.bool rr,.slice A3 nl c3,.bool lr]) ?_ rfl ⟨⟨⟨A2,c2,A3,c3⟩,by rw[←HN.out.1,←HN.out.2.1,←HN.out.2.2.1,←HN.out.2.2.2.1,←HN.out.2.2.2.2];rfl,⟨hA5,hB5⟩⟩,hc4⟩
  rw[results_cell1 rfl]
  go_simp
end Go.Proofs.YtdcdabbepnahnaaGreatDoor
