/- Boxes of a command's own beside the server. -/
import Derived.Test.YtcofdlipapnohaaGreatDoorZHisC
import Derived.Test.YtcofdlipapnohaaGreatDoorZSrvB
set_option linter.unusedVariables false
set_option linter.unusedSimpArgs false
namespace Go.Proofs.YtcofdlipapnohaaGreatDoor
open Go Go.RowKit Sy
variable {w0 w:World} {b:Nat}
theorem calm_set (h:Calm w0 w) (hb:w0.heap.size≤b) (o:Nat) (u:Value):Calm w0 (w.setCell ⟨b,o,none⟩ u):=Below.setCell h hb u
theorem calm_set2 (h:Calm w0 w) (hb:w0.heap.size≤b) (u0 u1:Value):Calm w0 ((w.setCell ⟨b,0,none⟩ u0).setCell ⟨b,1,none⟩ u1):=calm_set (calm_set h hb _ _) hb _ _
theorem calm_set3 (h:Calm w0 w) (hb:w0.heap.size≤b) (u0 u1 u2:Value):Calm w0 (((w.setCell ⟨b,0,none⟩ u0).setCell ⟨b,1,none⟩ u1).setCell ⟨b,2,none⟩ u2):=calm_set (calm_set2 h hb _ _) hb _ _
theorem calm_set5 (h:Calm w0 w) (hb:w0.heap.size≤b) (u0 u1 u2 u3 u4:Value):Calm w0 (((((w.setCell ⟨b,0,none⟩ u0).setCell ⟨b,1,none⟩ u1).setCell ⟨b,2,none⟩ u2).setCell ⟨b,3,none⟩ u3).setCell ⟨b,4,none⟩ u4):=calm_set (calm_set (calm_set3 h hb _ _ _) hb _ _) hb _ _
theorem calm_set6 (h:Calm w0 w) (hb:w0.heap.size≤b) (u0 u1 u2 u3 u4 u5:Value):Calm w0 ((((((w.setCell ⟨b,0,none⟩ u0).setCell ⟨b,1,none⟩ u1).setCell ⟨b,2,none⟩ u2).setCell ⟨b,3,none⟩ u3).setCell ⟨b,4,none⟩ u4).setCell ⟨b,5,none⟩ u5):=calm_set (calm_set5 h hb _ _ _ _ _) hb _ _
theorem calm_set9 (h:Calm w0 w) (hb:w0.heap.size≤b) (u0 u1 u2 u3 u4 u5 u6 u7 u8:Value):Calm w0 (((((((((w.setCell ⟨b,0,none⟩ u0).setCell ⟨b,1,none⟩ u1).setCell ⟨b,2,none⟩ u2).setCell ⟨b,3,none⟩ u3).setCell ⟨b,4,none⟩ u4).setCell ⟨b,5,none⟩ u5).setCell ⟨b,6,none⟩ u6).setCell ⟨b,7,none⟩ u7).setCell ⟨b,8,none⟩ u8):=calm_set (calm_set (calm_set (calm_set6 h hb _ _ _ _ _ _) hb _ _) hb _ _) hb _ _
theorem calm_set12 (h:Calm w0 w) (hb:w0.heap.size≤b) (u0 u1 u2 u3 u4 u5 u6 u7 u8 u9 u10 u11:Value):Calm w0 ((((((((((((w.setCell ⟨b,0,none⟩ u0).setCell ⟨b,1,none⟩ u1).setCell ⟨b,2,none⟩ u2).setCell ⟨b,3,none⟩ u3).setCell ⟨b,4,none⟩ u4).setCell ⟨b,5,none⟩ u5).setCell ⟨b,6,none⟩ u6).setCell ⟨b,7,none⟩ u7).setCell ⟨b,8,none⟩ u8).setCell ⟨b,9,none⟩ u9).setCell ⟨b,10,none⟩ u10).setCell ⟨b,11,none⟩ u11):=calm_set (calm_set (calm_set (calm_set9 h hb _ _ _ _ _ _ _ _ _) hb _ _) hb _ _) hb _ _
theorem CellsB.setc {B:Nat} {vs:List Value} (h:CellsB w B vs) (i:Nat) (v:Value) (hi:i < vs.length):CellsB (w.setCell ⟨B,i,none⟩ v) B (vs.set i v):=by
 refine⟨by simpa[World.setCell] using h.lt,fun j u hu=>?_,fun o=>by simpa[go_sem] using h.fz o⟩
 by_cases e:i=j
 ·subst e
  rw[List.getElem?_set_self hi] at hu
  obtain rfl:=Option.some.inj hu
  have hs:(w.cell? ⟨B,i,none⟩).isSome=true:=by rw[h.at_ i _ (List.getElem?_eq_getElem hi)];rfl
  exact World.cell?_setCells_in B [v] i w (fun j hj=>by
   have:j=0:=by simpa using hj
   subst this
   exact hs) 0 (by simp)
 ·rw[List.getElem?_set_ne e] at hu
  have h1:=h.at_ j u hu
  rw[←h1]
  exact World.cell?_setCells_out B [v] i w ⟨B,j,none⟩ (fun _ _=>by simp;omega)
theorem body_world {P:Program} {fn:Func} {R:Ending→World→Prop} {a:Act} {W wf:World} (h:W=wf) (k:bodyPost P fn R .ret a wf):bodyPost P fn R .ret a W:=h ▸ k
theorem cells_new1 (w:World) (o:Obj) (vs:Array Value) (T:TypeId):CellsB ((w.alloc o).alloc (.cells vs T)).drew (w.heap.size+1) vs.toList:=by
 have:=(CellsB.new (w.alloc o) vs T).calm (Below.drew (Calm.refl _))
 rwa [World.size_alloc] at this
theorem cells_new0 (w:World) (o:Obj) (vs:Array Value) (T:TypeId):CellsB ((w.alloc (.cells vs T)).alloc o).drew w.heap.size vs.toList:=
 (CellsB.new w vs T).calm (Below.drew ((Calm.refl _).alloc _))
theorem owns_mono {w:World} {b b':Nat} {T:TypeId} {K:Nat} {v:Value} {n:Nat} {xs:List Value} (h:w.ownsRow b T K v n xs) (hb:b'≤b):w.ownsRow b' T K v n xs:=by
 obtain⟨h1,h2⟩:=h
 refine⟨h1,?_⟩
 rcases h2 with h2 | ⟨g,cap,cur,hv,hg,r⟩
 ·exact .inl h2
 ·exact .inr ⟨g,cap,cur,hv,Nat.le_trans hb hg,r⟩
theorem owns_set1 {w:World} {b:Nat} {T:TypeId} {K:Nat} {v:Value} {n:Nat} {xs:List Value} (h:w.ownsRow b T K v n xs) {p:Nat} (hp:p < b) (o:Nat) (u:Value):(w.setCell ⟨p,o,none⟩ u).ownsRow b T K v n xs:=by
 obtain⟨h1,h2⟩:=h
 refine⟨h1,?_⟩
 rcases h2 with h2 | ⟨g,cap,cur,hv,hg,hh,r⟩
 ·exact .inl h2
 ·exact .inr ⟨g,cap,cur,hv,hg,(Below.heap_setCell w ⟨p,o,none⟩ u g (by show g≠p;omega)).trans hh,r⟩
variable {w w':World} {x:Srv}
theorem owns_set {base:Nat} {T:TypeId} {K g n c:Nat} {xs:List Value} (h:w.ownsRow base T K (.slice (some ⟨g,0,none⟩) n c) n xs) (i:Nat) (v:Value):(w.setCell ⟨g,i,none⟩ v).ownsRow base T K (.slice (some ⟨g,0,none⟩) n c) n (xs.set i v):=by
 refine⟨by rw[List.length_set];exact h.1,?_⟩
 rcases h.2 with⟨h1,_⟩ | ⟨g',cap,cur,hv,hb,hg,hn,hm,hs,ht⟩
 ·cases h1
 ·cases hv
  refine .inr ⟨g,c,cur.setIfInBounds i v,rfl,hb,?_,hn,hm,by simpa using hs,?_⟩
  ·simp[World.setCell,Array.getElem?_modify,hg]
  ·rw[Array.toList_setIfInBounds,List.take_set,ht]
theorem Went.make (h:SrvAt w x) (k:Kp x.F w w') (x':Srv) (hF:∀i,x'.F i→x.F i∨w.heap.size≤i)
  (z:CellsB w' x'.S x'.vs) (t:CellsB w' x'.T [.int .i64 0,.map (some x'.M)]) (m:MapH w' x'.M x'.k x'.D) (ne:x'.S≠x'.T∧x'.S≠x'.M∧x'.T≠x'.M)
  (cl:w'.ownsRow 0 94 3 (.slice x'.CA x'.cs.length x'.cc) x'.cs.length (encs encCl x'.cs))
  (pn:w'.ownsRow 0 58 6 (.slice x'.PA x'.ps.length x'.pc) x'.ps.length (encs encPn x'.ps))
  (fc:∀i,blk x'.CA=some i→i≠x'.S∧i≠x'.T∧i≠x'.M∧blk x'.PA≠some i)
  (fp:∀i,blk x'.PA=some i→i≠x'.S∧i≠x'.T∧i≠x'.M)
  (str:(x'.SA=x.SA∧x'.ss=x.ss)∨Stays x'.F w' (fun W=>StrmsU W x'.SA x'.ss))
  (rev:(x'.RA=x.RA∧x'.rs=x.rs)∨Stays x'.F w' (fun W=>ReadX RowK.vs 12 W x'.RA x'.rs))
  (chg:(x'.HA=x.HA∧x'.hs=x.hs)∨(Stays x'.F w' (fun W=>ReadX encCg 5 W x'.HA x'.hs)∧∀c∈x'.hs,Stays x'.F w' (fun W=>ReadX encEd 12 W c.EA c.l)))
  (eds:∀p∈x'.ps,(∃q∈x.ps,p.EA=q.EA∧p.l=q.l)∨Stays x'.F w' (fun W=>ReadX encEd 12 W p.EA p.l)):Went w x w' x':=by
 refine⟨⟨z,t,m,ne,cl,pn,fc,fp,?_,?_,?_,fun p hp=>?_,fun c hc=>?_⟩,k,hF⟩
 ·rcases str with⟨h1,h2⟩ | h1
  ·rw[h1,h2]
   exact h.str.kp' k hF
  ·exact h1
 ·rcases rev with⟨h1,h2⟩ | h1
  ·rw[h1,h2]
   exact h.rev.kp' k hF
  ·exact h1
 ·rcases chg with⟨h1,h2⟩ | h1
  ·rw[h1,h2]
   exact h.chg.kp' k hF
  ·exact h1.1
 ·rcases eds p hp with⟨q,hq,h1,h2⟩ | h1
  ·rw[h1,h2]
   exact (h.eds q hq).kp' k hF
  ·exact h1
 ·rcases chg with⟨h1,h2⟩ | h1
  ·rw[h2] at hc
   exact (h.ceds c hc).kp' k hF
  ·exact h1.2 c hc
theorem kp_set (w:World) (a:Addr) (u:Value) (F:Nat→Prop) (h:F a.block):Kp F w (w.setCell a u):=(Kp.refl F w).set (.inl h) u
theorem SrvAt.paOff (h:SrvAt w x) {i:Nat} (hi:i=x.S∨i=x.T∨i=x.M):blk x.PA≠some i:=fun e=>by
 have:=h.fp i e
 rcases hi with rfl | rfl | rfl
 ·exact this.1 rfl
 ·exact this.2.1 rfl
 ·exact this.2.2 rfl
theorem SrvAt.caOff (h:SrvAt w x) {i:Nat} (hi:i=x.S∨i=x.T∨i=x.M):blk x.CA≠some i:=fun e=>by
 have:=h.fc i e
 rcases hi with rfl | rfl | rfl
 ·exact this.1 rfl
 ·exact this.2.1 rfl
 ·exact this.2.2.1 rfl
theorem SrvAt.putTk (h:SrvAt w x) (t:Int):Went w x (w.setCell ⟨x.S,1,none⟩ (.int .i64 t)) { x with tk:=t }:=by
 have k:Kp (fun i=>i=x.S) w (w.setCell ⟨x.S,1,none⟩ (.int .i64 t)):=kp_set w _ _ _ rfl
 refine Went.make h (k.mono fun i hi=>.inl (.inl hi)) _ (fun i hi=>.inl hi) (h.z.setc 1 _ (by simp[Srv.vs])) (h.t.kp k (fun e=>h.ne.1 e.symm)) (h.m.kp k (fun e=>h.ne.2.1 e.symm)) h.ne
  (ownsRow_kp h.cl k (fun b hb e=>?_)) (ownsRow_kp h.pn k (fun b hb e=>?_)) h.fc h.fp (.inl ⟨rfl,rfl⟩) (.inl ⟨rfl,rfl⟩) (.inl ⟨rfl,rfl⟩) (fun p hp=>.inl ⟨p,hp,rfl,rfl⟩)
 ·rw[own_blk] at hb
  exact h.caOff (.inl rfl) (e ▸ hb)
 ·rw[own_blk] at hb
  exact h.paOff (.inl rfl) (e ▸ hb)
theorem SrvAt.pnAt (h:SrvAt w x) {p:Pnd} (hp:x.ps=[p]):∃g,x.PA=some ⟨g,0,none⟩∧1≤x.pc∧x.pc≤9223372036854775807:=by
 have h1:=h.pn
 rw[hp] at h1
 rcases h1.2 with⟨h2,h3⟩ | ⟨g,cap,cur,hv,_,_,hn,hm,_⟩
 ·simp at h3
 ·injection hv with h4 h5 h6
  refine⟨g,h4,?_,?_⟩
  ·rw[h6]
   exact hn
  ·rw[h6]
   unfold maxLen at hm
   omega
theorem SrvAt.putPn (h:SrvAt w x) {p:Pnd} (hp:x.ps=[p]) {g:Nat} (hg:x.PA=some ⟨g,0,none⟩) (i:Nat) (v:Value) (p':Pnd) (hv:(encPn p).set i v=encPn p') (he:(p'.EA=p.EA∧p'.l=p.l)∨Stays x.F w (fun W=>ReadX encEd 12 W p'.EA p'.l)) :
  Went w x (w.setCell ⟨g,i,none⟩ v) { x with ps:=[p'] }:=by
 have k:Kp (fun j=>j=g) w (w.setCell ⟨g,i,none⟩ v):=kp_set w _ _ _ rfl
 have hgb:blk x.PA=some g:=by rw[hg];rfl
 have hgo:=h.fp g hgb
 have hF:∀j,j=g→x.F j:=fun j hj=>.inr (.inr (.inr (.inr (hj ▸ hgb))))
 have k2:Kp x.F w (w.setCell ⟨g,i,none⟩ v):=k.mono fun j hj=>.inl (hF j hj)
 have hz:=h.z
 have hpn:=h.pn
 unfold Srv.vs at hz
 rw[hp] at hz hpn
 refine Went.make h k2 _ (fun j hj=>.inl hj) (hz.kp k (fun e=>hgo.1 e.symm)) (h.t.kp k (fun e=>hgo.2.1 e.symm)) (h.m.kp k (fun e=>hgo.2.2 e.symm)) h.ne
  (ownsRow_kp h.cl k (fun b hb e=>?_)) ?_ h.fc h.fp (.inl ⟨rfl,rfl⟩) (.inl ⟨rfl,rfl⟩) (.inl ⟨rfl,rfl⟩) (fun q hq=>?_)
 ·rw[own_blk] at hb
  exact (h.fc b hb).2.2.2 (by rw[e];exact hgb)
 ·rw[hg] at hpn ⊢
  have:=owns_set hpn i v
  rw[show (encs encPn [p]).set i v=encs encPn [p'] by simp only[encs,List.flatMap_cons,List.flatMap_nil,List.append_nil];exact hv] at this
  exact this
 ·rw[List.mem_singleton] at hq
  subst hq
  rcases he with he | he
  ·exact .inl ⟨p,by rw[hp];exact List.mem_singleton.2 rfl,he.1,he.2⟩
  ·exact .inr (he.kp k2)
theorem SrvAt.addPn (h:SrvAt w x) (hp:x.ps=[]) {w1:World} {A:Option Addr} {n c:Nat} (p:Pnd) (hg:w.grownBy w1 (blk x.PA)) (hown:w1.ownsRow 0 58 6 (.slice A 1 c) 1 (encPn p))
  (hA:blk A=blk x.PA∨∃i,blk A=some i∧w.heap.size≤i) (he:p.l=[]) :
  Went w x (w1.setCell ⟨x.S,7,none⟩ (.slice A 1 c)) { x with PA:=A,pc:=c,ps:=[p] }:=by
 have k1:Kp x.F w w1:=Kp.grown hg (fun i hi=>.inl (.inr (.inr (.inr (.inr hi)))))
 have k0:Kp (fun i=>blk x.PA=some i) w w1:=Kp.grown hg (fun i hi=>.inl hi)
 have kS:Kp (fun i=>i=x.S) w1 (w1.setCell ⟨x.S,7,none⟩ (.slice A 1 c)):=kp_set w1 _ _ _ rfl
 have hAo:∀i,blk A=some i→i≠x.S∧i≠x.T∧i≠x.M∧blk x.CA≠some i:=fun i hi=>by
  rcases hA with hA | ⟨j,hj,hge⟩
  ·rw[hA] at hi
   have:=h.fp i hi
   exact⟨this.1,this.2.1,this.2.2,fun e=>(h.fc i e).2.2.2 hi⟩
  ·rw[hj] at hi
   obtain rfl:=Option.some.inj hi
   have h1:=h.z.lt
   have h2:=h.t.lt
   have h3:=h.m.lt
   exact⟨by omega,by omega,by omega,fun e=>by have:=h.lt j (.inr (.inr (.inr (.inl e))));omega⟩
 have hz:=(h.z.kp k0 (h.paOff (.inl rfl))).setc 7 (.slice A 1 c) (by simp[Srv.vs])
 refine Went.make h (k1.trans (kS.mono fun i hi=>.inl (.inl hi))) _ (fun i hi=>?_) ?_ ((h.t.kp k0 (h.paOff (.inr (.inl rfl)))).kp kS (fun e=>h.ne.1 e.symm)) ((h.m.kp k0 (h.paOff (.inr (.inr rfl)))).kp kS (fun e=>h.ne.2.1 e.symm)) h.ne
  (ownsRow_kp (ownsRow_kp h.cl k0 (fun b hb e=>?_)) kS (fun b hb e=>?_)) (ownsRow_kp ?_ kS (fun b hb e=>?_)) (fun i hi=>?_) (fun i hi=>?_) (.inl ⟨rfl,rfl⟩) (.inl ⟨rfl,rfl⟩) (.inl ⟨rfl,rfl⟩) (fun q hq=>?_)
 ·rcases hi with hi | hi | hi | hi | hi
  ·exact .inl (.inl hi)
  ·exact .inl (.inr (.inl hi))
  ·exact .inl (.inr (.inr (.inl hi)))
  ·exact .inl (.inr (.inr (.inr (.inl hi))))
  ·rcases hA with hA | ⟨j,hj,hge⟩
   ·exact .inl (.inr (.inr (.inr (.inr (hA ▸ hi)))))
   ·have hi':blk A=some i:=hi
    rw[hj] at hi'
    obtain rfl:=Option.some.inj hi'
    exact .inr hge
 ·exact hz
 ·rw[own_blk] at hb
  exact (h.fc b hb).2.2.2 e
 ·rw[own_blk] at hb
  exact (h.fc b hb).1 e
 ·show w1.ownsRow 0 _ 6 (.slice A 1 c) 1 (encs encPn [p])
  simp only[encs,List.flatMap_cons,List.flatMap_nil,List.append_nil]
  exact hown
 ·rw[own_blk] at hb
  exact (hAo b hb).1 e
 ·have:=h.fc i hi
  exact⟨this.1,this.2.1,this.2.2.1,fun e=>(hAo i e).2.2.2 hi⟩
 ·have:=hAo i hi
  exact⟨this.1,this.2.1,this.2.2.1⟩
 ·rw[List.mem_singleton] at hq
  subst hq
  refine .inr (fun W _ hne=>?_)
  rw[he] at hne
  exact absurd rfl hne
structure Cmd where
 kind:Int
 cl:Str
 nm:Str
 pa:Str
 num:Int
 fence:Int
 ticks:Int
 tx:Str
 sn:Str
 sp:Str
 SA:Option Addr
 sl:Nat
 sc:Nat
 EA:Option Addr
 en:Nat
 ec:Nat
def encCm (c:Cmd):List Value:=[.int .i64 c.kind,.string (bs c.cl),.string (bs c.nm),.string (bs c.pa),.int .i64 c.num,.int .i64 c.fence,.int .i64 c.ticks,.string (bs c.tx),.string (bs c.sn),.string (bs c.sp),.slice c.SA c.sl c.sc,.slice none 0 0,.slice c.EA c.en c.ec,.slice none 0 0]
abbrev cmV (c:Cmd):Value:=.agg #[.int .i64 c.kind,.string (bs c.cl),.string (bs c.nm),.string (bs c.pa),.int .i64 c.num,.int .i64 c.fence,.int .i64 c.ticks,.string (bs c.tx),.string (bs c.sn),.string (bs c.sp),.slice c.SA c.sl c.sc,.slice none 0 0,.slice c.EA c.en c.ec,.slice none 0 0]
abbrev cmO (c:Cmd):Obj:=.cells #[.int .i64 c.kind,.string (bs c.cl),.string (bs c.nm),.string (bs c.pa),.int .i64 c.num,.int .i64 c.fence,.int .i64 c.ticks,.string (bs c.tx),.string (bs c.sn),.string (bs c.sp),.slice c.SA c.sl c.sc,.slice none 0 0,.slice c.EA c.en c.ec,.slice none 0 0] 45
set_option maxHeartbeats 4000000 in
theorem own_c (x:Srv) (p:Pnd) (c:Cmd) (g:Nat) (w:World) (h:SrvAt w x) (hp:x.ps=[p]) (hg:x.PA=some ⟨g,0,none⟩) (hn:p.num=c.num) :
  Calls Tryz.prog 67 #[.pointer (some ⟨x.S,0,none⟩),cmV c] w fun e w'=>e=.returned (.pointer (some ⟨g,0,none⟩))∧Calm w w':=by
 have hi:pendI p c.num=0:=by unfold pendI;rw[if_pos hn]
 have hi2:(p.num == c.num)=true:=by simpa using hn
 have hpc:1≤x.pc:=by
  obtain⟨_,_,h1,_⟩:=h.pnAt hp
  exact h1
 have K:Hid (∀W,Calm w W→Calls Tryz.prog 16 #[.pointer (some ⟨x.S,0,none⟩),.int .i64 c.num] W fun e w'=>e=.returned (.tuple #[.int .i64 0,.bool true])∧Calm W w'):=fun W hW=>by
  have:=pending_c x p c.num W (h.calm hW) hp
  rw[hi,hi2] at this
  exact this
 have HS:Hid (∀W,Calm w W→W.cell? ⟨x.S,7,none⟩=some (.slice (some ⟨g,0,none⟩) 1 x.pc)):=fun W hW=>by
  have:=(h.calm hW).z.at_ 7 _ rfl
  rw[hp,hg] at this
  exact this
 have lS:=h.z.lt
 obtain⟨S,hS⟩:∃S,x.S=S:=⟨_,rfl⟩
 obtain⟨pc,hpcc⟩:∃pc,x.pc=pc:=⟨_,rfl⟩
 rw[hS] at K HS lS ⊢
 rw[hpcc] at HS hpc
 clear h hp hg hn hi hi2 hS hpcc
 go_enter Tryz.func67,Tryz.ntmps67
 go_wp2_with fail
 refine (K.out _ ((Calm.refl w).alloc _)).mono ?_
 rintro e w2 ⟨rfl,hc2⟩
 have HC2:Hid (Calm w w2):=((Calm.refl w).alloc _).trans hc2
 have c7:=HS.out w2 HC2.out
 clear hc2
 go_wp2_with fail
 go_ret
 exact⟨rfl,HC2.out⟩
variable {w w' w'':World} {x x':Srv}
theorem Went.box (h:SrvAt w x) (hw:Went w x w' x') {b:Nat} (hb:w.heap.size≤b) (hoff:¬x'.F b) (ks:Kp (fun i=>i=b) w' w'')
  (str:(x'.SA=x.SA∧x'.ss=x.ss)∨Stays (fun i=>x'.F i∨i=b) w' (fun W=>StrmsU W x'.SA x'.ss))
  (rev:(x'.RA=x.RA∧x'.rs=x.rs)∨Stays (fun i=>x'.F i∨i=b) w' (fun W=>ReadX RowK.vs 12 W x'.RA x'.rs))
  (chg:(x'.HA=x.HA∧x'.hs=x.hs)∨(Stays (fun i=>x'.F i∨i=b) w' (fun W=>ReadX encCg 5 W x'.HA x'.hs)∧∀c∈x'.hs,Stays (fun i=>x'.F i∨i=b) w' (fun W=>ReadX encEd 12 W c.EA c.l)))
  (eds:∀p∈x'.ps,(∃q∈x.ps,p.EA=q.EA∧p.l=q.l)∨Stays (fun i=>x'.F i∨i=b) w' (fun W=>ReadX encEd 12 W p.EA p.l)):Went w x w'' x':=by
 have hcl:∀i,blk x'.CA=some i→i≠b:=fun i hi e=>hoff (.inr (.inr (.inr (.inl (e ▸ hi)))))
 have hpn:∀i,blk x'.PA=some i→i≠b:=fun i hi e=>hoff (.inr (.inr (.inr (.inr (e ▸ hi)))))
 have up:∀{X:World→Prop},Stays (fun i=>x'.F i∨i=b) w' X→Stays x'.F w'' X:=fun hX W k=>hX W ((ks.mono fun i hi=>.inl (.inr hi)).trans (k.mono fun i hi=>.inl (.inl hi)))
 refine Went.make h (hw.kp.trans' ks (fun i hi=>.inr (by rw[hi];exact hb))) x' hw.far (hw.at_.z.kp ks (fun e=>hoff (.inl e.symm))) (hw.at_.t.kp ks (fun e=>hoff (.inr (.inl e.symm)))) (hw.at_.m.kp ks (fun e=>hoff (.inr (.inr (.inl e.symm))))) hw.at_.ne
  (ownsRow_kp hw.at_.cl ks (fun i hi=>hcl i (by rw[own_blk] at hi;exact hi))) (ownsRow_kp hw.at_.pn ks (fun i hi=>hpn i (by rw[own_blk] at hi;exact hi))) hw.at_.fc hw.at_.fp (str.imp_right up) (rev.imp_right up) (chg.imp_right fun hh=>⟨up hh.1,fun c hc=>up (hh.2 c hc)⟩) (fun p hp=>(eds p hp).imp_right up)
theorem Went.box' (h:SrvAt w x) (hw:Went w x w' x') {b:Nat} (hb:w.heap.size≤b) (hoff:¬x'.F b) (ks:Kp (fun i=>i=b) w' w'') (hsame:x'.SA=x.SA∧x'.ss=x.ss∧x'.RA=x.RA∧x'.rs=x.rs∧x'.HA=x.HA∧x'.hs=x.hs)
  (eds:∀p∈x'.ps,∃q∈x.ps,p.EA=q.EA∧p.l=q.l):Went w x w'' x':=
 Went.box h hw hb hoff ks (.inl ⟨hsame.1,hsame.2.1⟩) (.inl ⟨hsame.2.2.1,hsame.2.2.2.1⟩) (.inl ⟨hsame.2.2.2.2.1,hsame.2.2.2.2.2⟩) (fun p hp=>.inl (eds p hp))
def cmBox (w:World) (c:Cmd):World:=(w.alloc (cmO c)).alloc (.cells #[.int .i64 0,.int .i64 0,.int .i64 0] 35)
structure CmBox (w w1:World) (c:Cmd) (P3 P4:Nat):Prop where
 calm:Calm w w1
 c:CellsB w1 P3 (encCm c)
 r:CellsB w1 P4 [.int .i64 0,.int .i64 0,.int .i64 0]
 p3:w.heap.size=P3
 p4:w.heap.size+1=P4
theorem CmBox.new (w:World) (c:Cmd):CmBox w (cmBox w c) c w.heap.size (w.heap.size+1):=by
 refine⟨((Calm.refl w).alloc _).alloc _,(CellsB.new w _ _).calm ((Calm.refl _).alloc _),?_,rfl,rfl⟩
 have:=CellsB.new (w.alloc (cmO c)) #[.int .i64 0,.int .i64 0,.int .i64 0] 35
 rwa [World.size_alloc] at this
theorem CmBox.to {w w1 w2:World} {c:Cmd} {P3 P4:Nat} (h:CmBox w w1 c P3 P4) (hc:Calm w1 w2):CmBox w w2 c P3 P4:=⟨h.calm.trans hc,h.c.calm hc,h.r.calm hc,h.p3,h.p4⟩
theorem CmBox.off {w w1:World} {c:Cmd} {P3 P4:Nat} {x:Srv} (h:CmBox w w1 c P3 P4) (hs:SrvAt w x):¬x.F P3∧¬x.F P4:=
 ⟨fun hf=>by have:=hs.lt _ hf;have:=h.p3;omega,fun hf=>by have:=hs.lt _ hf;have:=h.p4;omega⟩
theorem CmBox.kp {F:Nat→Prop} {w w1 w2:World} {c:Cmd} {P3 P4:Nat} (h:CmBox w w1 c P3 P4) (k:Kp F w1 w2) (h3:¬F P3) (h4:¬F P4):CellsB w2 P3 (encCm c)∧CellsB w2 P4 [.int .i64 0,.int .i64 0,.int .i64 0]:=⟨h.c.kp k h3,h.r.kp k h4⟩
end Go.Proofs.YtcofdlipapnohaaGreatDoor
