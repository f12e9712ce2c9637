/- Walk: a copy of a stream of one line. -/
import Derived.Deep.RegionHeld3
import Derived.Test.YtcofdlipapnohaaGreatDoorZEdRow
import Derived.Test.YtcofdlipapnohaaGreatDoorZSrvN
import Derived.Test.YtcofdlipapnohaaGreatDoorZSrvB
import Derived.Test.YtcofdlipapnohaaGreatDoorZNewS
set_option linter.unusedVariables false
set_option linter.unusedSimpArgs false
namespace Go.Proofs.YtcofdlipapnohaaGreatDoor
open Go Go.RowKit Sy
variable {T:TypeId} {K:Nat}
theorem step_append_ow {S:TypeId} {z:Value} {bytes:Nat} (ht:Tryz.prog.underlying S=some (.slice T)) (hi:(Tryz.prog.info? T).map (fun i=>(i.zero,i.size,i.bytes))=some (some z,K,bytes)) (hzs:z.cells.size=K) (hK0:0 < K) (hby:bytes≤1000)
  {ops:Array Oper} {o:Oper} {a:Act} {w:World} {R:Act→World→Prop} {Q:Exit→Act→World→Prop} {E:Prop}
  (hg:o.guard=none) (s x:Operand) (hop:o.op=Op.call { callee:=Callee.builtin Builtin.append,args:=#[s,x],argTypes:=#[S,S] })
  (base:Nat) (v:Value) (n:Nat) (xs:List Value) (hs:a.eval s=v) (hown:w.ownsRow base T K v n xs) (b c:Nat) (hx:a.eval x=.slice (some ⟨b,0,none⟩) 1 c) (news:List Value) (hnl:news.length=K)
  (hnews:∀(j:Nat) u,news[j]?=some u→w.cell? ⟨b,j,none⟩=some u) (h1:∀u∈news,u.oneCell'=true) (hn:n≤1000000) (hb:base≤w.heap.size)
  (hK:∀v' w',w'.ownsRow base T K v' (n+1) (xs++news)→w.grownBy w' v.ownBlock→R (a.put o.dst v') w') :
  if Region.wanted o (yielded ops a.tmps)=true then Oper.wp Tryz.prog o a w R Q else E:=by
 have hw:Region.wanted o (yielded ops a.tmps)=true:=by simp[Region.wanted,hg]
 rw[if_pos hw]
 obtain⟨i0,hi0,hz0,hz1,hz2⟩:=info_parts hi
 have hnews':∀(j:Nat) (u:Value),news[j]?=some u→w.cell? ((⟨b,0,none⟩:Addr).add j)=some u:=fun j u hj=>by
  simpa[Addr.add_lit] using hnews j u hj
 obtain⟨v',w',hr,h2,h3,_⟩:=run_append_own (P:=Tryz.prog) w base S o.type T i0 z K bytes ht hi0 hz0 hz1 hz2 hzs hK0 v n xs hown ⟨b,0,none⟩ 1 c news (by rw[hnl,Nat.one_mul]) hnews' h1 (by unfold maxLen;omega) (Nat.le_trans (Nat.mul_le_mul (show n+1≤1000001 by omega) hby) (by decide)) hb
 unfold Oper.wp
 simp[execOp,hop,resolve,invoke,builtin,hs,hx,Result.andThen]
 rw[hr]
 exact hK v' w' h2 h3
theorem step_go_call {ops:Array Oper} {o:Oper} {a:Act} {w:World} {R:Act→World→Prop} {Q:Exit→Act→World→Prop} {E:Prop} (hg:o.guard=none) (f:FuncId) (args:Array Value) (he:(execOp a.eval o).run Tryz.prog w=.ok (.enter f args) w) (v:Value) (X:World→Prop)
  (hC:Calls Tryz.prog f args w fun e w'=>e=.returned v∧X w') (hK:∀w',X w'→R (a.put o.dst v) w'):if Region.wanted o (yielded ops a.tmps)=true then Oper.wp Tryz.prog o a w R Q else E:=by
 have hw:Region.wanted o (yielded ops a.tmps)=true:=by simp[Region.wanted,hg]
 rw[if_pos hw]
 unfold Oper.wp
 rw[he,Oper.upon_enter]
 refine hC.mono ?_
 rintro e w' ⟨rfl,hx⟩
 exact hK w' hx
theorem step_go_any {ops:Array Oper} {o:Oper} {a:Act} {w:World} {R:Act→World→Prop} {Q:Exit→Act→World→Prop} {E:Prop} (hg:o.guard=none) (f:FuncId) (args:Array Value) (he:(execOp a.eval o).run Tryz.prog w=.ok (.enter f args) w) {X:Ending→World→Prop}
  (hC:Calls Tryz.prog f args w X) (hK:∀e w',X e w'→∃v,e=.returned v∧R (a.put o.dst v) w'):if Region.wanted o (yielded ops a.tmps)=true then Oper.wp Tryz.prog o a w R Q else E:=by
 have hw:Region.wanted o (yielded ops a.tmps)=true:=by simp[Region.wanted,hg]
 rw[if_pos hw]
 unfold Oper.wp
 rw[he,Oper.upon_enter]
 refine hC.mono ?_
 intro e w' hx
 obtain⟨v,rfl,hr⟩:=hK e w' hx
 exact hr
theorem step_go_f {ops:Array Oper} {o:Oper} {a:Act} {w:World} {R:Act→World→Prop} {Q:Exit→Act→World→Prop} {E:Prop} (hg:o.guard=none) (f:FuncId) (oa:Array Operand) (ts:Array TypeId) (hop:o.op=Op.call { callee:=Callee.value (Operand.func f),args:=oa,argTypes:=ts }) (args:Array Value) (he:(execOp a.eval o).run Tryz.prog w=.ok (.enter f args) w) {X:Ending→World→Prop}
  (hC:Calls Tryz.prog f args w X) (hK:∀e w',X e w'→∃v,e=.returned v∧R (a.put o.dst v) w'):if Region.wanted o (yielded ops a.tmps)=true then Oper.wp Tryz.prog o a w R Q else E:=
 step_go_any hg f args he hC hK
theorem owns_shape {w:World} {base n:Nat} {v:Value} {xs:List Value} (h:w.ownsRow base T K v n xs):∃A c,v=.slice A n c∧n≤c∧c≤9223372036854775807:=by
 rcases h.2 with⟨rfl,h0⟩ | ⟨g,cap,cur,rfl,_,_,hc,hm,_⟩
 ·exact⟨none,0,by rw[h0],by omega,by omega⟩
 ·exact⟨_,_,rfl,hc,by unfold maxLen at hm;omega⟩
structure LineS (x:Line):Prop where
 p:x.path.parts.length≤2
 f:x.frm.parts.length≤2
 pe:∀l∈x.path.parts,l.length≤24
 fe:∀l∈x.frm.parts,l.length≤24
set_option maxHeartbeats 4000000 in
theorem isShort_c (ls:List Str) (n c:Nat) (re:Bool) (A:Option Addr) (w:World) (hr:StrsU w A ls) (hn:ls.length=n) (h2:n≤2) (h24:∀l∈ls,l.length≤24) :
  Calls Tryz.prog 88 #[.agg #[.slice A n c,.bool re]] w fun e w'=>e=.returned (.bool true)∧Calm w w':=by
 have HR:Hid (∀W k,Calm w W→k < n→∃b o l,A=some ⟨b,o,none⟩∧b < W.heap.size∧l.length≤24∧W.cell? ⟨b,o+k,none⟩=some (.string (bs l))):=fun W k hW hk=>by
  obtain⟨b,o,l,h1,h3,h4,_,h5⟩:=hr.get (k:=k) (by omega)
  exact⟨b,o,l,h1,Nat.lt_of_lt_of_le h3 hW.size,h24 l (List.mem_of_getElem? h4),Calm.at_ hW h5 h3⟩
 clear hr hn h24
 go_enter Tryz.func88,Tryz.ntmps88
 go_wp2_with fail
 go_loopw [3,9] (fun z i wr=>∃(j:Nat) (s:Int),j≤n∧i=.int .i64 j∧z=.int .i64 s∧5≤s∧s≤5+25 * (j:Int)∧Hid (Calm w wr)) (fun _ i _=>n - (intOf i).toNat)
 case atStart=>exact⟨0,5,Nat.zero_le _,rfl,rfl,by decide,by decide,(Calm.refl _).alloc _⟩
 case round=>
  obtain⟨j,s,hj,rfl,rfl,hs1,hs2,HW⟩:=hrel
  by_cases h0:j < n
  ·obtain⟨b,o,l,rfl,hb,hl,c0⟩:=HR.out wr j HW.out h0
   have hsz:=bs_size l
   have hj1:(j:Int) < (n:Int):=by omega
   have hj0:(0:Int)≤(j:Int):=by omega
   have h200:¬(200:Int) < s+((l.length:Int)+1):=by omega
   go_wp2_with fail
   go_roundw
   case rel=>exact⟨j+1,s+((l.length:Int)+1),by omega,by go_num,by go_num,by omega,by omega,HW.out⟩
   case measure=>simp[intOf];omega
  ·obtain rfl:j=n:=by omega
   go_wp2_with fail
   go_ret
   exact⟨rfl,HW.out⟩
set_option maxHeartbeats 4000000 in
theorem shortStream_c (nm par:Str) (x:Line) (PA:Option Addr) (pc:Nat) (w:World) (hl:LinesU w PA [x]) (hs:LineS x) :
  Calls Tryz.prog 58 #[.agg #[.string (bs nm),.string (bs par),.slice PA 1 pc]] w fun e w'=>e=.returned (.bool true)∧Calm w w':=by
 obtain⟨b,o,r,a,rfl,hb,hr,hat,hru⟩:=hl.get (k:=0) (by simp)
 obtain rfl:x=r:=Option.some.inj hr
 have HC:Hid (∀W,Calm w W→LineAt W b o a x∧b < W.heap.size):=fun W hW=>by
  have:=hat.calm hW hb
  rw[Nat.zero_mul,Nat.add_zero] at this
  exact⟨this,Nat.lt_of_lt_of_le hb hW.size⟩
 obtain⟨n1,hn1⟩:∃n1,x.path.parts.length=n1:=⟨_,rfl⟩
 obtain⟨n2,hn2⟩:∃n2,x.frm.parts.length=n2:=⟨_,rfl⟩
 have K1:=Lib.hid fun (W:World) (hW:Calm w W)=>isShort_c x.path.parts n1 a.cl x.path.rest a.AL W (hru.lr.calm hW) hn1 (by rw[←hn1];exact hs.p) hs.pe
 have K2:=Lib.hid fun (W:World) (hW:Calm w W)=>isShort_c x.frm.parts n2 a.cr x.frm.rest a.AR W (hru.rr.calm hW) hn2 (by rw[←hn2];exact hs.f) hs.fe
 have HN:=Lib.hid (And.intro hn1 hn2)
 clear hl hs hat hru hr hn1 hn2
 go_enter Tryz.func58,Tryz.ntmps58
 go_wp2_with fail
 go_loopw [8] (fun i wr=>∃j:Nat,j≤1∧i=.int .i64 j∧Hid (Calm w wr)) (fun i _=>1 - (intOf i).toNat)
 case atStart=>exact⟨0,by decide,rfl,(Calm.refl _).alloc _⟩
 case round=>
  obtain⟨j,hj,rfl,HW⟩:=hrel
  by_cases h0:j=0
  ·subst h0
   obtain⟨hat,hlt⟩:=HC.out wr HW.out
   have c0:=hat.c0
   have c1:=hat.c1
   have c2:=hat.c2
   have c3:=hat.c3
   have c4:=hat.c4
   rw[HN.out.1] at c1
   rw[HN.out.2] at c3
   have HB:=Lib.hid (CellsB.new wr #[.int .i64 x.kind,.slice a.AL n1 a.cl,.bool x.path.rest,.slice a.AR n2 a.cr,.bool x.frm.rest] 68)
   clear hat
   go_wp2_with fail
   refine (K1.out _ (HW.out.alloc _)).mono ?_
   rintro e w5 ⟨rfl,hc5⟩
   have h5:=HB.out.calm hc5
   have d3:=h5.at_ 3 _ rfl
   have d4:=h5.at_ 4 _ rfl
   have l5:=h5.lt
   have HC5:Hid (Calm w w5):=(HW.out.alloc _).trans hc5
   clear hc5 h5 c0 c1 c2 c3 c4
   go_wp2_with fail
   refine (K2.out _ HC5.out).mono ?_
   rintro e w6 ⟨rfl,hc6⟩
   have HC6:Hid (Calm w w6):=HC5.out.trans hc6
   clear hc6 d3 d4
   go_wp2_with fail
   go_roundw
   case rel=>exact⟨1,Nat.le_refl _,by go_num,HC6.out⟩
   case measure=>simp[intOf]
  ·obtain rfl:j=1:=by omega
   go_wp2_with fail
   go_ret
   exact⟨rfl,HW.out⟩
set_option maxHeartbeats 4000000 in
theorem copyPat_c (ls:List Str) (n c:Nat) (re:Bool) (A:Option Addr) (w:World) (hr:StrsU w A ls) (hn:ls.length=n) :
  Calls Tryz.prog 81 #[.agg #[.slice A n c,.bool re]] w fun e w'=>(∃A' c',e=.returned (.agg #[.slice A' n c',.bool re])∧NewS w' w.heap.size A' c' ls)∧Calm w w':=by
 obtain⟨w2,hw2⟩:∃w2,w2=(w.alloc (.cells #[.slice A n c,.bool re] 65)).alloc (.cells #[.slice none 0 0,.bool false] 65):=⟨_,rfl⟩
 have hc2:Calm w w2:=by rw[hw2];exact ((Calm.refl _).alloc _).alloc _
 obtain⟨P3,e3⟩:∃P3,w.heap.size=P3:=⟨_,rfl⟩
 obtain⟨P4,e4⟩:∃P4,P3+1=P4:=⟨_,rfl⟩
 have h3:CellsB w2 P3 [.slice A n c,.bool re]:=by
  rw[hw2,←e3]
  exact (CellsB.new w _ _).calm ((Calm.refl _).alloc _)
 have h4:CellsB w2 P4 [.slice none 0 0,.bool false]:=by
  rw[hw2,←e4,←e3]
  have:=CellsB.new (w.alloc (.cells #[.slice A n c,.bool re] 65)) #[.slice none 0 0,.bool false] 65
  rwa [World.size_alloc] at this
 have K:Hid (Calls Tryz.prog 118 #[.slice A n c] w2 fun e w'=>(∃A' c',e=.returned (.slice A' n c')∧NewS w' w2.heap.size A' c' ls)∧Calm w2 w'):=by
  have:=clone_c ls A c w2 (hr.calm hc2)
  unfold CloneEnd at this
  rw[hn] at this
  exact this
 have HW:=Lib.hid hw2
 have HE:=Lib.hid (And.intro e3 e4)
 have HC2:=Lib.hid hc2
 have H3:=Lib.hid h3
 have H4:=Lib.hid h4
 have t0:=h3.at_ 0 _ rfl
 have l3:=h3.lt
 clear hr hn hw2 hc2 h3 h4 e3 e4
 go_enter Tryz.func81,Tryz.ntmps81
 go_upto_region 1 with (fail)
 rw[←HW.out]
 simp only[HE.out.1,HE.out.2]
 go_wp2_with fail
 refine K.out.mono ?_
 rintro e w5 ⟨⟨A',c',rfl,hN⟩,hc5⟩
 have h3:=H3.out.calm hc5
 have h4:=H4.out.calm hc5
 have q0:=h3.at_ 0 _ rfl
 have q1:=h3.at_ 1 _ rfl
 have g0:=h3.fz 0
 have z0:=h4.at_ 0 _ rfl
 have z1:=h4.at_ 1 _ rfl
 have f0:=h4.fz 0
 have f1:=h4.fz 1
 have lq:=h3.lt
 have lz:=h4.lt
 have hne:¬P3=P4:=by have:=HE.out.2;omega
 have HN5:=Lib.hid hN
 have HC5:Hid (Calm w w5):=HC2.out.trans hc5
 have HL:Hid (w.heap.size≤P3∧w.heap.size≤P4∧P3 < w2.heap.size∧P4 < w2.heap.size):=⟨by have:=HE.out.1;omega,by have:=HE.out.1;have:=HE.out.2;omega,H3.out.lt,H4.out.lt⟩
 clear hN hc5 h3 h4 t0 l3
 go_wp2_with fail
 refine bodyPost_ret (v:=.agg #[.slice A' n c',.bool re]) ?_ rfl ⟨⟨A',c',rfl,?_⟩,?_⟩
 ·rw[results_cell1 rfl]
  go_simp
 ·exact (((HN5.out.set (p:=⟨P3,0,none⟩) _ HL.out.2.2.1).set (p:=⟨P4,0,none⟩) _ HL.out.2.2.2).set (p:=⟨P4,1,none⟩) _ HL.out.2.2.2).mono HC2.out.size
 ·exact calm_set2 (calm_set HC5.out HL.out.1 _ _) HL.out.2.1 _ _
theorem NewS.stays {w:World} {B:Nat} {A:Option Addr} {c:Nat} {ls:List Str} (h:NewS w B A c ls):Stays (fun i=>i < B) w (fun U=>StrsU U A ls):=fun U k=>by
 refine⟨h.u.len,h.u.each,fun h0=>?_⟩
 obtain⟨b,o,hA,hb,hk⟩:=h.u.at_ h0
 have hB:=h.new _ hA
 exact⟨b,o,hA,Nat.lt_of_lt_of_le hb k.size,fun j l hl=>k.cell (hk j l hl) (by simpa using hB)⟩
structure CpI (w w2:World) (x:Line) (nm par:Str) (P3 P4 g1 c1 n1 n2:Nat) (a:Pl) (j:Nat) (W:World):Prop where
 calm:Calm w W
 s:CellsB W P3 [.string (bs nm),.string (bs par),.slice (some ⟨g1,0,none⟩) 1 c1]
 r:CellsB W P4 [.string ⟨#[]⟩,.string ⟨#[]⟩,.slice none 0 0]
 g0:j=0→CellsB W g1 [.int .i64 x.kind,.slice a.AL n1 a.cl,.bool x.path.rest,.slice a.AR n2 a.cr,.bool x.frm.rest]
 g1:j=1→∃a':Pl,CellsB W g1 [.int .i64 x.kind,.slice a'.AL n1 a'.cl,.bool x.path.rest,.slice a'.AR n2 a'.cr,.bool x.frm.rest]∧Stays (fun i=>i < w2.heap.size) W (fun U=>RuleU U a' x.rule)
theorem CpI.to {w w2 W W':World} {x:Line} {nm par:Str} {P3 P4 g1 c1 n1 n2:Nat} {a:Pl} (h:CpI w w2 x nm par P3 P4 g1 c1 n1 n2 a 0 W) (hc:Calm W W'):CpI w w2 x nm par P3 P4 g1 c1 n1 n2 a 0 W':=
 ⟨h.calm.trans hc,h.s.calm hc,h.r.calm hc,fun e=>(h.g0 e).calm hc,fun e=>by cases e⟩
theorem NewS.stays' {w w':World} {B B0:Nat} {A:Option Addr} {c:Nat} {ls:List Str} (h:NewS w B A c ls) (hB:B0≤B) (hc:Calm w w'):Stays (fun i=>i < B0) w' (fun U=>StrsU U A ls):=
 Stays.kp' (F:=fun i=>i < B) h.stays (hc.kp _) (fun i hi=>.inl (Nat.lt_of_lt_of_le hi hB))
theorem CpI.fin {w w2 w7 wz:World} {x:Line} {nm par:Str} {P3 P4 g1 c1 n1 n2:Nat} {a:Pl} (h:CpI w w2 x nm par P3 P4 g1 c1 n1 n2 a 0 w7) (hg:w.heap.size≤g1∧g1 < w7.heap.size∧w2.heap.size≤w7.heap.size∧¬P3=g1∧¬P4=g1) (hc:Calm w7 wz) {A A2:Option Addr} {c c2:Nat}
  (st1:Stays (fun i=>i < w7.heap.size) wz (fun U=>StrsU U A x.path.parts)) (st2:Stays (fun i=>i < w7.heap.size) wz (fun U=>StrsU U A2 x.frm.parts)) (hn:x.path.parts.length=n1∧x.frm.parts.length=n2) (r1:x.path.parts.length≤c) (r2:c≤9223372036854775807) (r3:x.frm.parts.length≤c2) (r4:c2≤9223372036854775807) :
  CpI w w2 x nm par P3 P4 g1 c1 n1 n2 a 1 ((((wz.setCell ⟨g1,1,none⟩ (.slice A n1 c)).setCell ⟨g1,2,none⟩ (.bool x.path.rest)).setCell ⟨g1,3,none⟩ (.slice A2 n2 c2)).setCell ⟨g1,4,none⟩ (.bool x.frm.rest)):=by
 have k:Kp (fun i=>i=g1) wz ((((wz.setCell ⟨g1,1,none⟩ (.slice A n1 c)).setCell ⟨g1,2,none⟩ (.bool x.path.rest)).setCell ⟨g1,3,none⟩ (.slice A2 n2 c2)).setCell ⟨g1,4,none⟩ (.bool x.frm.rest)):=((((Kp.refl (fun i=>i=g1) wz).set1 (b:=g1) (.inl rfl) 1 _).set1 (b:=g1) (.inl rfl) 2 _).set1 (b:=g1) (.inl rfl) 3 _).set1 (b:=g1) (.inl rfl) 4 _
 have h8:=h.to hc
 have kF:Kp (fun i=>i < w7.heap.size) wz ((((wz.setCell ⟨g1,1,none⟩ (.slice A n1 c)).setCell ⟨g1,2,none⟩ (.bool x.path.rest)).setCell ⟨g1,3,none⟩ (.slice A2 n2 c2)).setCell ⟨g1,4,none⟩ (.bool x.frm.rest)):=k.mono fun i hi=>.inl (by rw[hi];exact hg.2.1)
 refine⟨calm_set (calm_set (calm_set (calm_set h8.calm hg.1 _ _) hg.1 _ _) hg.1 _ _) hg.1 _ _,h8.s.kp k hg.2.2.2.1,h8.r.kp k hg.2.2.2.2,(fun e=>by cases e),fun _=>⟨⟨A,c,A2,c2⟩,(((h8.g0 rfl).setc 1 _ (by simp)).setc 2 _ (by simp)).setc 3 _ (by simp) |>.setc 4 _ (by simp),?_⟩⟩
 refine fun U kU=>?_
 have kU2:=kF.trans (kU.mono fun i hi=>.inl (Nat.lt_of_lt_of_le hi hg.2.2.1))
 exact⟨st1 U kU2,st2 U kU2,r1,r3,r2,r4⟩
set_option maxRecDepth 100000 in
set_option maxHeartbeats 8000000 in
theorem copyStream_c (nm par:Str) (x:Line) (PA:Option Addr) (pc:Nat) (w:World) (hl:LinesU w PA [x]) :
  Calls Tryz.prog 43 #[.agg #[.string (bs nm),.string (bs par),.slice PA 1 pc]] w fun e w'=>(∃A c,e=.returned (.agg #[.string (bs nm),.string (bs par),.slice A 1 c])∧1≤c∧c≤9223372036854775807∧Stays (fun i=>i < w.heap.size) w' (fun U=>LinesU U A [x]))∧Calm w w':=by
 obtain⟨b,o,r,a,hPA,hb,hr,hat,hru⟩:=hl.get (k:=0) (by simp)
 obtain rfl:x=r:=Option.some.inj hr
 obtain⟨n1,hn1⟩:∃n1,x.path.parts.length=n1:=⟨_,rfl⟩
 obtain⟨n2,hn2⟩:∃n2,x.frm.parts.length=n2:=⟨_,rfl⟩
 obtain⟨row,hrow⟩:∃row:RowK 5,row=⟨[.int .i64 x.kind,.slice a.AL n1 a.cl,.bool x.path.rest,.slice a.AR n2 a.cr,.bool x.frm.rest],rfl,by simp[Value.oneCell']⟩:=⟨_,rfl⟩
 have hX:ReadX RowK.vs 5 w PA [row]:=fun _=>by
  refine⟨b,o,hPA,hb,fun k y hy i u hu=>?_⟩
  match k,hy with
  |0,hy=>
   obtain rfl:=Option.some.inj hy
   rw[hrow] at hu
   have h0:=hat.c0
   have h1:=hat.c1
   have h2:=hat.c2
   have h3:=hat.c3
   have h4:=hat.c4
   rw[hn1] at h1
   rw[hn2] at h3
   match i,hu with
   |0,hu=>obtain rfl:=Option.some.inj hu;exact h0
   |1,hu=>obtain rfl:=Option.some.inj hu;exact h1
   |2,hu=>obtain rfl:=Option.some.inj hu;exact h2
   |3,hu=>obtain rfl:=Option.some.inj hu;exact h3
   |4,hu=>obtain rfl:=Option.some.inj hu;exact h4
 obtain⟨w2,hw2⟩:∃w2,w2=(w.alloc (.cells #[.string (bs nm),.string (bs par),.slice PA 1 pc] 41)).alloc (.cells #[.string ⟨#[]⟩,.string ⟨#[]⟩,.slice none 0 0] 41):=⟨_,rfl⟩
 have hc2:Calm w w2:=by rw[hw2];exact ((Calm.refl _).alloc _).alloc _
 obtain⟨P3,e3⟩:∃P3,w.heap.size=P3:=⟨_,rfl⟩
 obtain⟨P4,e4⟩:∃P4,P3+1=P4:=⟨_,rfl⟩
 have h3:CellsB w2 P3 [.string (bs nm),.string (bs par),.slice PA 1 pc]:=by
  rw[hw2,←e3]
  exact (CellsB.new w _ _).calm ((Calm.refl _).alloc _)
 have h4:CellsB w2 P4 [.string ⟨#[]⟩,.string ⟨#[]⟩,.slice none 0 0]:=by
  rw[hw2,←e4,←e3]
  have:=CellsB.new (w.alloc (.cells #[.string (bs nm),.string (bs par),.slice PA 1 pc] 41)) #[.string ⟨#[]⟩,.string ⟨#[]⟩,.slice none 0 0] 41
  rwa [World.size_alloc] at this
 have K:=Lib.hid (cloneStreamPath_c [row] PA 1 pc w2 (hX.calm hc2) rfl (by decide))
 have KP1:=Lib.hid fun (W:World) (hW:Calm w W)=>copyPat_c x.path.parts n1 a.cl x.path.rest a.AL W (hru.lr.calm hW) hn1
 have KP2:=Lib.hid fun (W:World) (hW:Calm w W)=>copyPat_c x.frm.parts n2 a.cr x.frm.rest a.AR W (hru.rr.calm hW) hn2
 have HW:=Lib.hid hw2
 have HE:=Lib.hid (And.intro e3 e4)
 have HC2:=Lib.hid hc2
 have H3:=Lib.hid h3
 have H4:=Lib.hid h4
 have HR:=Lib.hid hrow
 have HN:=Lib.hid (And.intro hn1 hn2)
 have t0:=h3.at_ 2 _ rfl
 have l3:=h3.lt
 clear hX hat hru hr hb hl hw2 hc2 h3 h4 e3 e4 hPA hrow hn1 hn2
 go_enter Tryz.func43,Tryz.ntmps43
 go_upto_region 1 with (fail)
 rw[←HW.out]
 simp only[HE.out.1,HE.out.2]
 go_wp2_with fail
 refine K.out.mono ?_
 rintro e w5 ⟨A1,c1,rfl,hown⟩
 rcases hown.row rowK_len with⟨_,h0⟩ | ⟨g1,c1',hv,hc11,hc12,hg1,hrx⟩
 ·cases h0
 cases hv
 have hne3:¬g1=P3:=by have:=H3.out.lt;omega
 have hne4:¬g1=P4:=by have:=H4.out.lt;omega
 have h3:=H3.out.calm hown.calm
 have q2:=h3.at_ 2 _ rfl
 have g2:=h3.fz 2
 have lq:=h3.lt
 have HI:Hid (CpI w w2 x nm par P3 P4 g1 c1 n1 n2 a 0 (w5.setCell ⟨P3,2,none⟩ (.slice (some ⟨g1,0,none⟩) 1 c1))):=by
  have kS:Kp (fun i=>i=P3) w5 (w5.setCell ⟨P3,2,none⟩ (.slice (some ⟨g1,0,none⟩) 1 c1)):=(Kp.refl (fun i=>i=P3) w5).set1 (b:=P3) (.inl rfl) 2 _
  refine⟨calm_set (HC2.out.trans hown.calm) (by have:=HE.out.1;omega) _ _,h3.setc 2 _ (by simp),(H4.out.calm hown.calm).kp kS (fun e=>by have:=HE.out.2;omega),fun _=>?_,fun e=>by cases e⟩
  refine CellsB.kp ⟨hrx.lt,fun i v hv=>?_,fun j=>hrx.free j⟩ kS hne3
  have:=hrx.cell 0 _ rfl i v (by rw[HR.out];exact hv)
  simpa using this
 have HG:=Lib.hid (And.intro hg1 (And.intro hc11 hc12))
 clear h3 hown hrx hg1 hc11 hc12 t0 l3
 go_wp2_with fail
 go_loopw [12] (fun i wr=>∃j:Nat,j≤1∧i=.int .i64 j∧Hid (CpI w w2 x nm par P3 P4 g1 c1 n1 n2 a j wr)) (fun i _=>1 - (intOf i).toNat)
 case atStart=>exact⟨0,by decide,rfl,HI.out⟩
 case round=>
  obtain⟨j,hj,rfl,HJ⟩:=hrel
  by_cases h0:j=0
  ·subst h0
   have hg:=HJ.out.g0 rfl
   have c0:=hg.at_ 0 _ rfl
   have c1':=hg.at_ 1 _ rfl
   have c2:=hg.at_ 2 _ rfl
   have c3:=hg.at_ 3 _ rfl
   have c4:=hg.at_ 4 _ rfl
   have lg:=hg.lt
   have hs:=HJ.out.s.at_ 2 _ rfl
   have ls:=HJ.out.s.lt
   have HB:=Lib.hid (CellsB.new wr #[.int .i64 x.kind,.slice a.AL n1 a.cl,.bool x.path.rest,.slice a.AR n2 a.cr,.bool x.frm.rest] 68)
   clear hg
   go_upto_region 5 with (fail)
   obtain⟨w7,hw7⟩:∃w7,w7=wr.alloc (.cells #[.int .i64 x.kind,.slice a.AL n1 a.cl,.bool x.path.rest,.slice a.AR n2 a.cr,.bool x.frm.rest] 68):=⟨_,rfl⟩
   obtain⟨PL,ePL⟩:∃PL,PL=wr.heap.size:=⟨_,rfl⟩
   have HJ7:Hid (CpI w w2 x nm par P3 P4 g1 c1 n1 n2 a 0 w7∧CellsB w7 PL [.int .i64 x.kind,.slice a.AL n1 a.cl,.bool x.path.rest,.slice a.AR n2 a.cr,.bool x.frm.rest]):=by
    rw[hw7,ePL]
    exact⟨HJ.out.to ((Calm.refl _).alloc _),HB.out⟩
   rw[←hw7,←ePL]
   have HgL:Hid (¬P3=g1∧¬PL=g1∧¬P4=g1):=⟨fun e=>hne3 e.symm,by have:=HJ.out.g0 rfl |>.lt;omega,fun e=>hne4 e.symm⟩
   have HSX:Hid (∀W,Kp (fun i=>i=g1) w7 W→W.cell? ⟨P3,2,none⟩=some (.slice (some ⟨g1,0,none⟩) 1 c1)∧W.cell? ⟨PL,1,none⟩=some (.slice a.AL n1 a.cl)∧W.cell? ⟨PL,2,none⟩=some (.bool x.path.rest)∧W.cell? ⟨PL,3,none⟩=some (.slice a.AR n2 a.cr)∧W.cell? ⟨PL,4,none⟩=some (.bool x.frm.rest)):=fun W hW=>by
    have h1:=HJ7.out.1.s.kp hW HgL.out.1
    have h2:=HJ7.out.2.kp hW HgL.out.2.1
    exact⟨h1.at_ 2 _ rfl,h2.at_ 1 _ rfl,h2.at_ 2 _ rfl,h2.at_ 3 _ rfl,h2.at_ 4 _ rfl⟩
   have HS2:Hid (∀W u1 u2,Kp (fun i=>i=g1) w7 W→((W.setCell ⟨g1,1,none⟩ u1).setCell ⟨g1,2,none⟩ u2).cell? ⟨P3,2,none⟩=some (.slice (some ⟨g1,0,none⟩) 1 c1)∧((W.setCell ⟨g1,1,none⟩ u1).setCell ⟨g1,2,none⟩ u2).cell? ⟨PL,1,none⟩=some (.slice a.AL n1 a.cl)∧((W.setCell ⟨g1,1,none⟩ u1).setCell ⟨g1,2,none⟩ u2).cell? ⟨PL,2,none⟩=some (.bool x.path.rest)∧((W.setCell ⟨g1,1,none⟩ u1).setCell ⟨g1,2,none⟩ u2).cell? ⟨PL,3,none⟩=some (.slice a.AR n2 a.cr)∧((W.setCell ⟨g1,1,none⟩ u1).setCell ⟨g1,2,none⟩ u2).cell? ⟨PL,4,none⟩=some (.bool x.frm.rest)):=fun W u1 u2 hW=>HSX.out _ ((hW.set1 (b:=g1) (.inl rfl) 1 u1).set1 (b:=g1) (.inl rfl) 2 u2)
   have HS3:Hid (∀W u3 u4,Kp (fun i=>i=g1) w7 W→((W.setCell ⟨g1,3,none⟩ u3).setCell ⟨g1,4,none⟩ u4).cell? ⟨P3,2,none⟩=some (.slice (some ⟨g1,0,none⟩) 1 c1)∧((W.setCell ⟨g1,3,none⟩ u3).setCell ⟨g1,4,none⟩ u4).cell? ⟨PL,1,none⟩=some (.slice a.AL n1 a.cl)∧((W.setCell ⟨g1,3,none⟩ u3).setCell ⟨g1,4,none⟩ u4).cell? ⟨PL,2,none⟩=some (.bool x.path.rest)∧((W.setCell ⟨g1,3,none⟩ u3).setCell ⟨g1,4,none⟩ u4).cell? ⟨PL,3,none⟩=some (.slice a.AR n2 a.cr)∧((W.setCell ⟨g1,3,none⟩ u3).setCell ⟨g1,4,none⟩ u4).cell? ⟨PL,4,none⟩=some (.bool x.frm.rest)):=fun W u3 u4 hW=>HSX.out _ ((hW.set1 (b:=g1) (.inl rfl) 3 u3).set1 (b:=g1) (.inl rfl) 4 u4)
   have HS4:Hid (∀W u1 u2 u3 u4,Kp (fun i=>i=g1) w7 W→((((W.setCell ⟨g1,1,none⟩ u1).setCell ⟨g1,2,none⟩ u2).setCell ⟨g1,3,none⟩ u3).setCell ⟨g1,4,none⟩ u4).cell? ⟨P3,2,none⟩=some (.slice (some ⟨g1,0,none⟩) 1 c1)∧((((W.setCell ⟨g1,1,none⟩ u1).setCell ⟨g1,2,none⟩ u2).setCell ⟨g1,3,none⟩ u3).setCell ⟨g1,4,none⟩ u4).cell? ⟨PL,1,none⟩=some (.slice a.AL n1 a.cl)∧((((W.setCell ⟨g1,1,none⟩ u1).setCell ⟨g1,2,none⟩ u2).setCell ⟨g1,3,none⟩ u3).setCell ⟨g1,4,none⟩ u4).cell? ⟨PL,2,none⟩=some (.bool x.path.rest)∧((((W.setCell ⟨g1,1,none⟩ u1).setCell ⟨g1,2,none⟩ u2).setCell ⟨g1,3,none⟩ u3).setCell ⟨g1,4,none⟩ u4).cell? ⟨PL,3,none⟩=some (.slice a.AR n2 a.cr)∧((((W.setCell ⟨g1,1,none⟩ u1).setCell ⟨g1,2,none⟩ u2).setCell ⟨g1,3,none⟩ u3).setCell ⟨g1,4,none⟩ u4).cell? ⟨PL,4,none⟩=some (.bool x.frm.rest)):=fun W u1 u2 u3 u4 hW=>HSX.out _ ((((hW.set1 (b:=g1) (.inl rfl) 1 u1).set1 (b:=g1) (.inl rfl) 2 u2).set1 (b:=g1) (.inl rfl) 3 u3).set1 (b:=g1) (.inl rfl) 4 u4)
   have HGX:Hid (∀W,Calm w7 W→CellsB W g1 [.int .i64 x.kind,.slice a.AL n1 a.cl,.bool x.path.rest,.slice a.AR n2 a.cr,.bool x.frm.rest]):=fun W hW=>(HJ7.out.1.g0 rfl).calm hW
   have KQ1:Hid (∀W,Calm w7 W→Calls Tryz.prog 81 #[.agg #[.slice a.AL n1 a.cl,.bool x.path.rest]] W fun e w'=>(∃A' c',e=.returned (.agg #[.slice A' n1 c',.bool x.path.rest])∧NewS w' W.heap.size A' c' x.path.parts)∧Calm W w'):=fun W hW=>KP1.out W (HJ7.out.1.calm.trans hW)
   have KQ2:Hid (∀W,Calm w7 W→Calls Tryz.prog 81 #[.agg #[.slice a.AR n2 a.cr,.bool x.frm.rest]] W fun e w'=>(∃A' c',e=.returned (.agg #[.slice A' n2 c',.bool x.frm.rest])∧NewS w' W.heap.size A' c' x.frm.parts)∧Calm W w'):=fun W hW=>KP2.out W (HJ7.out.1.calm.trans hW)
   obtain⟨s2,p1,p2,p3,p4⟩:=HSX.out w7 (Kp.refl _ _)
   have H01:Hid ((0:Int) < 1∧(0:Nat) < 1):=⟨by decide,by decide⟩
   have HG1:Hid (w.heap.size≤g1∧g1 < w7.heap.size∧w2.heap.size≤w7.heap.size∧¬P3=g1∧¬P4=g1):=⟨Nat.le_trans HC2.out.size HG.out.1,(HJ7.out.1.g0 rfl).lt,by have:=HG.out.1;have:=(HJ7.out.1.g0 rfl).lt;omega,HgL.out.1,HgL.out.2.2⟩
   have HNn:=Lib.hid HN.out
   clear hw7 ePL c0 c1' c2 c3 c4 lg hs ls
   clear HB HI HG HW HE HC2 H3 H4 HR K KP1 KP2 HJ
   go_region_held3 (fun W=>W.cell? ⟨P3,2,none⟩=some (.slice (some ⟨g1,0,none⟩) 1 c1)∧W.cell? ⟨PL,1,none⟩=some (.slice a.AL n1 a.cl)∧W.cell? ⟨PL,2,none⟩=some (.bool x.path.rest)∧W.cell? ⟨PL,3,none⟩=some (.slice a.AR n2 a.cr)∧W.cell? ⟨PL,4,none⟩=some (.bool x.frm.rest))
    (first
     |with_reducible exact HS4.out _ _ _ _ _ (hkx.kp _)
     |with_reducible exact HS2.out _ _ _ (hkx.kp _)
     |with_reducible exact HS3.out _ _ _ (hkx.kp _)
     |with_reducible exact HSX.out _ (hkx.kp _)
     |with_reducible exact HSX.out _ (hA1.kp _)
     |with_reducible exact HSX.out _ (hA2.kp _)
     |with_reducible exact HSX.out _ (Kp.refl _ _)
     |with_reducible exact HSX.out _ ((Below.drew (Calm.refl _)).kp _)
     |go_keep)
    (first
     |(go_at_call 81;refine (KQ1.out _ (by first | with_reducible exact Calm.refl _ | with_reducible exact Below.drew (Calm.refl _) | with_reducible exact hA2)).mono ?_;rintro e w8 ⟨⟨A',c',rfl,hN1⟩,hc8⟩;have hA1:Calm w7 w8:=Calm.trans (by first | with_reducible exact Calm.refl _ | with_reducible exact Below.drew (Calm.refl _) | with_reducible exact hA2) hc8;have hz:=HGX.out w8 hA1;have z1:=hz.at_ 1 _ rfl;have z2:=hz.at_ 2 _ rfl;have z3:=hz.at_ 3 _ rfl;have z4:=hz.at_ 4 _ rfl;have f1:=hz.fz 1;have f2:=hz.fz 2;have f3:=hz.fz 3;have f4:=hz.fz 4;have lz:=hz.lt;clear hz;have hkx:=hA1)
     |(go_at_call 81;refine (KQ2.out _ (by first | with_reducible exact Calm.refl _ | with_reducible exact Below.drew (Calm.refl _) | with_reducible exact hA1)).mono ?_;rintro e w9 ⟨⟨A2,c2',rfl,hN2⟩,hc9⟩;have hA2:Calm w7 w9:=Calm.trans (by first | with_reducible exact Calm.refl _ | with_reducible exact Below.drew (Calm.refl _) | with_reducible exact hA1) hc9;have hz:=HGX.out w9 hA2;have z1:=hz.at_ 1 _ rfl;have z2:=hz.at_ 2 _ rfl;have z3:=hz.at_ 3 _ rfl;have z4:=hz.at_ 4 _ rfl;have f1:=hz.fz 1;have f2:=hz.fz 2;have f3:=hz.fz 3;have f4:=hz.fz 4;have lz:=hz.lt;clear hz;have hkx:=hA2))
   all_goals
    go_wp2_with fail
    go_roundw
    case rel=>first
     |exact⟨1,Nat.le_refl _,by go_num,CpI.fin HJ7.out.1 HG1.out hA2 (hN1.stays' (show w7.heap.size≤_ from Nat.le_refl _) hc9) (hN2.stays' hA1.size (Calm.refl _)) HNn.out hN1.room hN1.cap hN2.room hN2.cap⟩
     |exact⟨1,Nat.le_refl _,by go_num,CpI.fin HJ7.out.1 HG1.out hA1 (hN1.stays' hA2.size (Calm.refl _)) (hN2.stays' (show w7.heap.size≤_ from Nat.le_refl _) hc8) HNn.out hN1.room hN1.cap hN2.room hN2.cap⟩
    case measure=>simp[intOf]
  ·obtain rfl:j=1:=by omega
   obtain⟨a',hg,hst⟩:=HJ.out.g1 rfl
   have s0:=HJ.out.s.at_ 0 _ rfl
   have s1:=HJ.out.s.at_ 1 _ rfl
   have s2:=HJ.out.s.at_ 2 _ rfl
   have z0:=HJ.out.r.at_ 0 _ rfl
   have z1:=HJ.out.r.at_ 1 _ rfl
   have z2:=HJ.out.r.at_ 2 _ rfl
   have f0:=HJ.out.r.fz 0
   have f1:=HJ.out.r.fz 1
   have f2:=HJ.out.r.fz 2
   have ls:=HJ.out.s.lt
   have lz:=HJ.out.r.lt
   have HQ:=Lib.hid (And.intro hg hst)
   clear hg hst
   go_wp2_with fail
   refine bodyPost_ret (v:=.agg #[.string (bs nm),.string (bs par),.slice (some ⟨g1,0,none⟩) 1 c1]) ?_ rfl ⟨⟨_,c1,rfl,HG.out.2.1,HG.out.2.2,fun U kU=>?_⟩,?_⟩
   ·rw[results_cell1 rfl]
    go_simp
   ·have kS:Kp (fun i=>i < w2.heap.size) wr U:=((Kp.refl (fun i=>i < w2.heap.size) wr).set3 (b:=P4) (.inl H4.out.lt) _ _ _).trans (kU.mono fun i hi=>.inl (Nat.lt_of_lt_of_le hi HC2.out.size))
    have h1:=HQ.out.1.kp kS (by have:=HG.out.1;omega)
    have h2:=HQ.out.2 U kS
    refine⟨by simp,fun _=>⟨g1,0,rfl,h1.lt,fun k y hy=>?_⟩⟩
    match k,hy with
    |0,hy=>
     obtain rfl:=Option.some.inj hy
     refine⟨a',⟨h1.at_ 0 _ rfl,?_,h1.at_ 2 _ rfl,?_,h1.at_ 4 _ rfl⟩,h2⟩
     ·rw[HN.out.1]
      exact h1.at_ 1 _ rfl
     ·rw[HN.out.2]
      exact h1.at_ 3 _ rfl
   ·exact calm_set3 HJ.out.calm (by have:=HE.out;omega) _ _ _
end Go.Proofs.YtcofdlipapnohaaGreatDoor
