/- Walk: the client with a name. -/
import Derived.Test.YtcofdlipapnohaaGreatDoorZHisC
import Derived.Test.YtcofdlipapnohaaGreatDoorZEdRow
import Derived.Test.YtcofdlipapnohaaGreatDoorZHisF
import Derived.Test.YtcofdlipapnohaaGreatDoorZWalkA
import Derived.Test.YtcofdlipapnohaaGreatDoorZStrLaw
set_option linter.unusedVariables false
set_option linter.unusedSimpArgs false
namespace Go.Proofs.YtcofdlipapnohaaGreatDoor
open Go Go.RowKit Sy
structure Kp (F:Nat→Prop) (w w':World):Prop where
 os:w'.os=w.os
 tape:w'.tape=w.tape
 output:w'.output=w.output
 size:w.heap.size≤w'.heap.size
 block:∀k,k < w.heap.size→¬F k→w'.heap[k]?=w.heap[k]?
variable {F F':Nat→Prop} {w w1 w2 w':World}
theorem Kp.refl (F:Nat→Prop) (w:World):Kp F w w:=⟨rfl,rfl,rfl,Nat.le_refl _,fun _ _ _=>rfl⟩
theorem Kp.trans (h:Kp F w w1) (k:Kp F w1 w2):Kp F w w2:=
 ⟨k.os.trans h.os,k.tape.trans h.tape,k.output.trans h.output,Nat.le_trans h.size k.size,fun i hi hn=>(k.block i (Nat.lt_of_lt_of_le hi h.size) hn).trans (h.block i hi hn)⟩
theorem Kp.trans' (h:Kp F w w1) (k:Kp F' w1 w2) (hF:∀i,F' i→F i∨w.heap.size≤i):Kp F w w2:=
 ⟨k.os.trans h.os,k.tape.trans h.tape,k.output.trans h.output,Nat.le_trans h.size k.size,fun i hi hn=>(k.block i (Nat.lt_of_lt_of_le hi h.size) (fun hf=>(hF i hf).elim hn (by omega))).trans (h.block i hi hn)⟩
theorem Kp.mono (h:Kp F w w1) (hF:∀i,F i→F' i∨w.heap.size≤i):Kp F' w w1:=
 ⟨h.os,h.tape,h.output,h.size,fun i hi hn=>h.block i hi (fun hf=>(hF i hf).elim hn (by omega))⟩
theorem Calm.kp (h:Calm w w1) (F:Nat→Prop):Kp F w w1:=⟨h.os,h.tape,h.output,h.size,fun i hi _=>h.block i hi⟩
theorem Kp.calm (h:Kp F w w1) (hF:∀i,F i→w.heap.size≤i):Calm w w1:=⟨h.os,h.tape,h.output,h.size,fun i hi=>h.block i hi (fun hf=>by have:=hF i hf;omega)⟩
theorem Kp.calm' (h0:Calm w w1) (h:Kp F w1 w2) (hF:∀i,F i→w.heap.size≤i):Calm w w2:=
 ⟨h.os.trans h0.os,h.tape.trans h0.tape,h.output.trans h0.output,Nat.le_trans h0.size h.size,fun i hi=>(h.block i (Nat.lt_of_lt_of_le hi h0.size) (fun hf=>by have:=hF i hf;omega)).trans (h0.block i hi)⟩
theorem Kp.grown {row:Option Nat} (h:w.grownBy w1 row) (hF:∀i,row=some i→F i∨w.heap.size≤i):Kp F w w1:=
 ⟨h.os,h.tape,h.output,h.size,fun i hi hn=>h.block i hi (fun e=>(hF i e.symm).elim hn (by omega))⟩
theorem Kp.then_calm (h:Kp F w w1) (k:Calm w1 w2):Kp F w w2:=h.trans (k.kp F)
theorem Kp.alloc (h:Kp F w w1) (o:Obj):Kp F w (w1.alloc o):=h.then_calm ((Calm.refl w1).alloc o)
theorem Kp.drew (h:Kp F w w1):Kp F w w1.drew:=h.then_calm (Below.drew (Calm.refl w1))
theorem Kp.set (h:Kp F w w1) {a:Addr} (hF:F a.block∨w.heap.size≤a.block) (u:Value):Kp F w (w1.setCell a u):=
 ⟨h.os,h.tape,h.output,by simpa[World.setCell] using h.size,fun i hi hn=>(Below.heap_setCell w1 a u i (fun e=>hF.elim (fun f=>hn (e ▸ f)) (by omega))).trans (h.block i hi hn)⟩
theorem setCells_rest (g:Nat):∀(vs:List Value) (o:Nat) (w:World),(w.setCells g o vs).os=w.os∧(w.setCells g o vs).tape=w.tape∧(w.setCells g o vs).output=w.output
 |[],_,_=>⟨rfl,rfl,rfl⟩
 |v :: r,o,w=>setCells_rest g r (o+1) (w.setCell ⟨g,o,none⟩ v)
theorem Kp.sets (h:Kp F w w1) {g:Nat} (hF:F g∨w.heap.size≤g) (o:Nat) (vs:List Value):Kp F w (w1.setCells g o vs):=by
 obtain⟨h1,h2,h3⟩:=setCells_rest g vs o w1
 exact⟨h1.trans h.os,h2.trans h.tape,h3.trans h.output,by rw[setCells_lt];exact h.size,fun i hi hn=>(World.heap_setCells_other w1 g o vs (Nat.lt_of_lt_of_le hi h.size) (fun e=>hF.elim (fun f=>hn (e ▸ f)) (by omega))).trans (h.block i hi hn)⟩
theorem Kp.set1 (h:Kp F w w1) {b:Nat} (hF:F b∨w.heap.size≤b) (o:Nat) (u:Value):Kp F w (w1.setCell ⟨b,o,none⟩ u):=Kp.set h (a:=⟨b,o,none⟩) hF u
theorem Kp.set2 (h:Kp F w w1) {b:Nat} (hF:F b∨w.heap.size≤b) (u0 u1:Value):Kp F w ((w1.setCell ⟨b,0,none⟩ u0).setCell ⟨b,1,none⟩ u1):=(h.set1 hF 0 u0).set1 hF 1 u1
theorem Kp.set3 (h:Kp F w w1) {b:Nat} (hF:F b∨w.heap.size≤b) (u0 u1 u2:Value):Kp F w (((w1.setCell ⟨b,0,none⟩ u0).setCell ⟨b,1,none⟩ u1).setCell ⟨b,2,none⟩ u2):=(h.set2 hF u0 u1).set1 hF 2 u2
theorem Kp.set5 (h:Kp F w w1) {b:Nat} (hF:F b∨w.heap.size≤b) (u0 u1 u2 u3 u4:Value):Kp F w (((((w1.setCell ⟨b,0,none⟩ u0).setCell ⟨b,1,none⟩ u1).setCell ⟨b,2,none⟩ u2).setCell ⟨b,3,none⟩ u3).setCell ⟨b,4,none⟩ u4):=((h.set3 hF u0 u1 u2).set1 hF 3 u3).set1 hF 4 u4
theorem Kp.cell (h:Kp F w w1) {b o:Nat} {v:Value} (hc:w.cell? ⟨b,o,none⟩=some v) (hF:¬F b):w1.cell? ⟨b,o,none⟩=some v:=
 (World.cell?_of_block (a:=⟨b,o,none⟩) (h.block b (World.block_lt_of_cell? w ⟨b,o,none⟩ hc) hF)).trans hc
theorem CellsB.kp {B:Nat} {vs:List Value} (h:CellsB w B vs) (hc:Kp F w w1) (hF:¬F B):CellsB w1 B vs:=
 ⟨Nat.lt_of_lt_of_le h.lt hc.size,fun i v hv=>hc.cell (h.at_ i v hv) hF,fun o=>(World.frozen?_of_block (a:=⟨B,o,none⟩) (hc.block B h.lt hF)).trans (h.fz o)⟩
theorem MapH.kp {B k:Nat} {D:DataW Value} (h:MapH w B k D) (hc:Kp F w w1) (hF:¬F B):MapH w1 B k D:=by
 obtain⟨es,clock,hb,r⟩:=h
 exact⟨es,clock,(hc.block B (Array.getElem?_eq_some_iff.1 hb).1 hF).trans hb,r⟩
theorem ownsRow_kp {base:Nat} {T:TypeId} {K:Nat} {v:Value} {n:Nat} {xs:List Value} (h:w.ownsRow base T K v n xs) (hc:Kp F w w1) (hF:∀b,v.ownBlock=some b→¬F b):w1.ownsRow base T K v n xs:=by
 obtain⟨h1,h2⟩:=h
 refine⟨h1,?_⟩
 rcases h2 with h2 | ⟨g,cap,cur,rfl,hb,hg,h4⟩
 ·exact .inl h2
 ·exact .inr ⟨g,cap,cur,rfl,hb,(hc.block g (Array.getElem?_eq_some_iff.1 hg).1 (hF g rfl)).trans hg,h4⟩
def Stays (F:Nat→Prop) (w:World) (X:World→Prop):Prop:=∀w',Kp F w w'→X w'
variable {X:World→Prop}
theorem Stays.now (h:Stays F w X):X w:=h w (Kp.refl F w)
theorem Stays.kp (h:Stays F w X) (hc:Kp F w w1):Stays F w1 X:=fun _ k=>h _ (hc.trans k)
theorem Stays.kp' (h:Stays F w X) (hc:Kp F w w1) (hF:∀i,F' i→F i∨w.heap.size≤i):Stays F' w1 X:=fun _ k=>h _ (hc.trans' k hF)
theorem Stays.calm (h:Stays F w X) (hc:Calm w w1):Stays F w1 X:=h.kp (hc.kp F)
theorem Stays.new (h:∀w',Calm w w'→X w') (hc:Calm w w1) (hF:∀i,F i→w.heap.size≤i):Stays F w1 X:=fun w2 k=>h w2 (Kp.calm' hc k hF)
theorem Stays.true:Stays F w (fun _=>True):=fun _ _=>trivial
end Go.Proofs.YtcofdlipapnohaaGreatDoor
namespace Go.Proofs.YtcofdlipapnohaaGreatDoor
open Go.RowKit Sy
structure Pl where
 AL:Option Addr
 cl:Nat
 AR:Option Addr
 cr:Nat
deriving Inhabited
def Pl.turn (a:Pl):Pl:=⟨a.AR,a.cr,a.AL,a.cl⟩
def ruleV (a:Pl) (r:Rule):Value:=.agg #[.bool r.excl,.slice a.AL r.left.parts.length a.cl,.bool r.left.rest,.slice a.AR r.right.parts.length a.cr,.bool r.right.rest]
structure RuleU (w:World) (a:Pl) (r:Rule):Prop where
 lr:StrsU w a.AL r.left.parts
 rr:StrsU w a.AR r.right.parts
 lroom:r.left.parts.length≤a.cl
 rroom:r.right.parts.length≤a.cr
 lcap:a.cl≤9223372036854775807
 rcap:a.cr≤9223372036854775807
theorem RuleU.calm {w w':World} {a:Pl} {r:Rule} (h:RuleU w a r) (hc:Calm w w'):RuleU w' a r:=⟨h.lr.calm hc,h.rr.calm hc,h.lroom,h.rroom,h.lcap,h.rcap⟩
theorem RuleU.turn {w:World} {a:Pl} {r:Rule} (h:RuleU w a r):RuleU w a.turn r.turn:=⟨h.rr,h.lr,h.rroom,h.lroom,h.rcap,h.lcap⟩
structure LineAt (w:World) (b o:Nat) (a:Pl) (x:Line):Prop where
 c0:w.cell? ⟨b,o,none⟩=some (.int .i64 x.kind)
 c1:w.cell? ⟨b,o+1,none⟩=some (.slice a.AL x.path.parts.length a.cl)
 c2:w.cell? ⟨b,o+2,none⟩=some (.bool x.path.rest)
 c3:w.cell? ⟨b,o+3,none⟩=some (.slice a.AR x.frm.parts.length a.cr)
 c4:w.cell? ⟨b,o+4,none⟩=some (.bool x.frm.rest)
theorem LineAt.calm {w w':World} {b o:Nat} {a:Pl} {r:Line} (h:LineAt w b o a r) (hc:Calm w w') (hb:b < w.heap.size):LineAt w' b o a r:=
 ⟨(hc.cell (p:=⟨b,o,none⟩) hb).trans h.c0,(hc.cell (p:=⟨b,o+1,none⟩) hb).trans h.c1,(hc.cell (p:=⟨b,o+2,none⟩) hb).trans h.c2,(hc.cell (p:=⟨b,o+3,none⟩) hb).trans h.c3,(hc.cell (p:=⟨b,o+4,none⟩) hb).trans h.c4⟩
def lineV (a:Pl) (x:Line):Value:=.agg #[.int .i64 x.kind,.slice a.AL x.path.parts.length a.cl,.bool x.path.rest,.slice a.AR x.frm.parts.length a.cr,.bool x.frm.rest]
structure LinesU (w:World) (A:Option Addr) (ls:List Line):Prop where
 len:ls.length≤1048577
 at_:0 < ls.length→∃b o,A=some ⟨b,o,none⟩∧b < w.heap.size∧∀k r,ls[k]?=some r→∃a,LineAt w b (o+k * 5) a r∧RuleU w a r.rule
theorem LinesU.calm {w w':World} {A:Option Addr} {ls:List Line} (h:LinesU w A ls) (hc:Calm w w'):LinesU w' A ls:=
 ⟨h.len,fun h0=>by
  obtain⟨b,o,rfl,hb,hk⟩:=h.at_ h0
  refine⟨b,o,rfl,Nat.lt_of_lt_of_le hb hc.size,fun k r hr=>?_⟩
  obtain⟨a,h1,h2⟩:=hk k r hr
  exact⟨a,h1.calm hc hb,h2.calm hc⟩⟩
theorem LinesU.get {w:World} {A:Option Addr} {ls:List Line} (h:LinesU w A ls) {k:Nat} (hk:k < ls.length):∃b o r a,A=some ⟨b,o,none⟩∧b < w.heap.size∧ls[k]?=some r∧LineAt w b (o+k * 5) a r∧RuleU w a r.rule:=by
 obtain⟨b,o,hA,hb,hc⟩:=h.at_ (by omega)
 obtain⟨a,h1,h2⟩:=hc k _ (List.getElem?_eq_getElem hk)
 exact⟨b,o,ls[k],a,hA,hb,List.getElem?_eq_getElem hk,h1,h2⟩
structure StrmAt (w:World) (b o:Nat) (A:Option Addr) (c:Nat) (s:Strm):Prop where
 c0:w.cell? ⟨b,o,none⟩=some (.string (bs s.name))
 c1:w.cell? ⟨b,o+1,none⟩=some (.string (bs s.parent))
 c2:w.cell? ⟨b,o+2,none⟩=some (.slice A s.paths.length c)
theorem StrmAt.calm {w w':World} {b o:Nat} {A:Option Addr} {c:Nat} {s:Strm} (h:StrmAt w b o A c s) (hc:Calm w w') (hb:b < w.heap.size):StrmAt w' b o A c s:=
 ⟨(hc.cell (p:=⟨b,o,none⟩) hb).trans h.c0,(hc.cell (p:=⟨b,o+1,none⟩) hb).trans h.c1,(hc.cell (p:=⟨b,o+2,none⟩) hb).trans h.c2⟩
structure StrmU (w:World) (A:Option Addr) (c:Nat) (s:Strm):Prop where
 name:s.name.length≤1048576
 par:s.parent.length≤1048576
 lines:LinesU w A s.paths
 room:s.paths.length≤c
 cap:c≤9223372036854775807
theorem StrmU.calm {w w':World} {A:Option Addr} {c:Nat} {s:Strm} (h:StrmU w A c s) (hc:Calm w w'):StrmU w' A c s:=⟨h.name,h.par,h.lines.calm hc,h.room,h.cap⟩
structure StrmsU (w:World) (A:Option Addr) (ss:List Strm):Prop where
 len:ss.length≤1048577
 at_:0 < ss.length→∃b o,A=some ⟨b,o,none⟩∧b < w.heap.size∧∀k s,ss[k]?=some s→∃PA pc,StrmAt w b (o+k * 3) PA pc s∧StrmU w PA pc s
theorem StrmsU.calm {w w':World} {A:Option Addr} {ss:List Strm} (h:StrmsU w A ss) (hc:Calm w w'):StrmsU w' A ss:=
 ⟨h.len,fun h0=>by
  obtain⟨b,o,rfl,hb,hk⟩:=h.at_ h0
  refine⟨b,o,rfl,Nat.lt_of_lt_of_le hb hc.size,fun k r hr=>?_⟩
  obtain⟨a,c,h1,h2⟩:=hk k r hr
  exact⟨a,c,h1.calm hc hb,h2.calm hc⟩⟩
theorem StrmsU.get {w:World} {A:Option Addr} {ss:List Strm} (h:StrmsU w A ss) {k:Nat} (hk:k < ss.length):∃b o s PA pc,A=some ⟨b,o,none⟩∧b < w.heap.size∧ss[k]?=some s∧StrmAt w b (o+k * 3) PA pc s∧StrmU w PA pc s:=by
 obtain⟨b,o,hA,hb,hc⟩:=h.at_ (by omega)
 obtain⟨a,c,h1,h2⟩:=hc k _ (List.getElem?_eq_getElem hk)
 exact⟨b,o,ss[k],a,c,hA,hb,List.getElem?_eq_getElem hk,h1,h2⟩
end Go.Proofs.YtcofdlipapnohaaGreatDoor
namespace Go.Proofs.YtcofdlipapnohaaGreatDoor
open Go Go.RowKit Sy
def mainN:Str:=[109,97,105,110]
def annN:Str:=[97,110,110]
def bobN:Str:=[98,111,98]
def mainS:List Strm:=[⟨mainN,[],[allLine]⟩]
def encCl (s:Str):List Value:=[.string (bs s),.string (bs mainN),.slice none 0 0]
theorem encCl_len (s:Str):(encCl s).length=3:=rfl
theorem encCl_one (s:Str):∀u∈encCl s,u.oneCell'=true:=by simp[encCl,Value.oneCell']
structure Pnd where
 num:Int
 cl:Str
 tx:Str
 sh:Bool
 EA:Option Addr
 ec:Nat
 l:List Edt
def encPn (p:Pnd):List Value:=[.int .i64 p.num,.string (bs p.cl),.string (bs p.tx),.bool p.sh,.slice p.EA p.l.length p.ec,.slice none 0 0]
theorem encPn_len (p:Pnd):(encPn p).length=6:=rfl
theorem encPn_one (p:Pnd):∀u∈encPn p,u.oneCell'=true:=by simp[encPn,Value.oneCell']
structure Chg where
 num:Int
 cl:Str
 tx:Str
 EA:Option Addr
 ec:Nat
 l:List Edt
def encCg (p:Chg):List Value:=[.int .i64 p.num,.string (bs p.cl),.string (bs p.tx),.slice p.EA p.l.length p.ec,.slice none 0 0]
theorem encCg_len (p:Chg):(encCg p).length=5:=rfl
theorem encCg_one (p:Chg):∀u∈encCg p,u.oneCell'=true:=by simp[encCg,Value.oneCell']
structure Srv where
 S:Nat
 T:Nat
 M:Nat
 tk:Int
 SA:Option Addr
 sc:Nat
 ss:List Strm
 CA:Option Addr
 cc:Nat
 cs:List Str
 RA:Option Addr
 rc:Nat
 rs:List (RowK 12)
 HA:Option Addr
 hc:Nat
 hs:List Chg
 PA:Option Addr
 pc:Nat
 ps:List Pnd
 k:Nat
 D:DataW Value
def blk (A:Option Addr):Option Nat:=A.map (·.block)
theorem own_blk (A:Option Addr) (n c:Nat):(Value.slice A n c).ownBlock=blk A:=by cases A <;> rfl
def Srv.F (x:Srv) (i:Nat):Prop:=i=x.S∨i=x.T∨i=x.M∨blk x.CA=some i∨blk x.PA=some i
def Srv.vs (x:Srv):List Value:=[.pointer (some ⟨x.T,0,none⟩),.int .i64 x.tk,.slice x.SA x.ss.length x.sc,.slice x.CA x.cs.length x.cc,.slice x.RA x.rs.length x.rc,.slice none 0 0,.slice x.HA x.hs.length x.hc,.slice x.PA x.ps.length x.pc]
structure SrvAt (w:World) (x:Srv):Prop where
 z:CellsB w x.S x.vs
 t:CellsB w x.T [.int .i64 0,.map (some x.M)]
 m:MapH w x.M x.k x.D
 ne:x.S≠x.T∧x.S≠x.M∧x.T≠x.M
 cl:w.ownsRow 0 94 3 (.slice x.CA x.cs.length x.cc) x.cs.length (encs encCl x.cs)
 pn:w.ownsRow 0 58 6 (.slice x.PA x.ps.length x.pc) x.ps.length (encs encPn x.ps)
 fc:∀i,blk x.CA=some i→i≠x.S∧i≠x.T∧i≠x.M∧blk x.PA≠some i
 fp:∀i,blk x.PA=some i→i≠x.S∧i≠x.T∧i≠x.M
 str:Stays x.F w (fun W=>StrmsU W x.SA x.ss)
 rev:Stays x.F w (fun W=>ReadX RowK.vs 12 W x.RA x.rs)
 chg:Stays x.F w (fun W=>ReadX encCg 5 W x.HA x.hs)
 eds:∀p∈x.ps,Stays x.F w (fun W=>ReadX encEd 12 W p.EA p.l)
 ceds:∀c∈x.hs,Stays x.F w (fun W=>ReadX encEd 12 W c.EA c.l)
theorem SrvAt.calm {w w':World} {x:Srv} (h:SrvAt w x) (hc:Calm w w'):SrvAt w' x:=
 ⟨h.z.calm hc,h.t.calm hc,h.m.calm hc,h.ne,ownsRow_kp h.cl (hc.kp fun _=>False) (fun _ _=>id),ownsRow_kp h.pn (hc.kp fun _=>False) (fun _ _=>id),h.fc,h.fp,h.str.calm hc,h.rev.calm hc,h.chg.calm hc,fun p hp=>(h.eds p hp).calm hc,fun c hp=>(h.ceds c hp).calm hc⟩
theorem SrvAt.lt {w:World} {x:Srv} (h:SrvAt w x):∀i,x.F i→i < w.heap.size:=by
 rintro i (rfl | rfl | rfl | hi | hi)
 ·exact h.z.lt
 ·exact h.t.lt
 ·exact h.m.lt
 ·exact (h.cl.lt i (by rw[own_blk];exact hi)).2
 ·exact (h.pn.lt i (by rw[own_blk];exact hi)).2
structure Went (w:World) (x:Srv) (w':World) (x':Srv):Prop where
 at_:SrvAt w' x'
 kp:Kp x.F w w'
 far:∀i,x'.F i→x.F i∨w.heap.size≤i
theorem Went.same {w w':World} {x:Srv} (h:SrvAt w x) (hc:Calm w w'):Went w x w' x:=⟨h.calm hc,hc.kp _,fun _=>.inl⟩
theorem Went.trans {w w1 w2:World} {x x1 x2:Srv} (h:Went w x w1 x1) (k:Went w1 x1 w2 x2):Went w x w2 x2:=
 ⟨k.at_,h.kp.trans' k.kp h.far,fun i hi=>(k.far i hi).elim (h.far i) (fun g=>.inr (Nat.le_trans h.kp.size g))⟩
theorem Went.calm {w w1 w2:World} {x x1:Srv} (h:Went w x w1 x1) (hc:Calm w1 w2):Went w x w2 x1:=h.trans (Went.same h.at_ hc)
theorem Went.cell {w w':World} {x x':Srv} (h:Went w x w' x') {b o:Nat} {v:Value} (hc:w.cell? ⟨b,o,none⟩=some v) (hF:¬x.F b):w'.cell? ⟨b,o,none⟩=some v:=h.kp.cell hc hF
theorem Went.off {w w':World} {x x':Srv} (h:Went w x w' x') {b:Nat} (hb:b < w.heap.size) (hF:¬x.F b):¬x'.F b:=fun hf=>(h.far b hf).elim hF (by omega)
theorem RowX.kp {α:Type} {enc:α→List Value} {K:Nat} {T:TypeId} {F:Nat→Prop} {w w':World} {g o:Nat} {l:List α} (h:RowX enc K T w g o l) (hc:Kp F w w') (hF:¬F g):RowX enc K T w' g o l:=h.of_block (hc.block g h.lt hF)
theorem RowX.reads {α:Type} {enc:α→List Value} {K:Nat} {T:TypeId} {w:World} {g o:Nat} {l:List α} (h:RowX enc K T w g o l):ReadX enc K w (some ⟨g,o,none⟩) l:=fun _=>⟨g,o,rfl,h.lt,fun k x hk i u hu=>h.cell k x hk i u hu⟩
theorem OwnX.stays {α:Type} {enc:α→List Value} {K:Nat} {T:TypeId} {F:Nat→Prop} {w0 w:World} {A:Option Addr} {n c:Nat} {l:List α} (hlen:∀x,(enc x).length=K) (h:OwnX enc K T w0 w (.slice A n c) l) (hF:∀i,F i→i < w0.heap.size):Stays F w (fun W=>ReadX enc K W A l):=fun w' k=>by
 rcases h.row hlen with⟨h1,rfl⟩ | ⟨g,c',h1,_,_,hg,hr⟩
 ·exact fun hne=>absurd rfl hne
 ·cases h1
  exact (hr.kp k (fun hf=>by have:=hF g hf;omega)).reads
theorem pend1_c (p:Pnd) (t:Int) (tb:Nat) (w:World) (ht:w.cell? ⟨tb,0,none⟩=some (.int .i64 t)) (hlt:tb < w.heap.size) :
  Calls Tryz.prog 41 #[.agg #[.int .i64 p.num,.string (bs p.cl),.string (bs p.tx),.bool p.sh,.slice p.EA p.l.length p.ec,.slice none 0 0],.pointer (some ⟨tb,0,none⟩)] w fun e w'=>e=.returned (.bool (p.num == t))∧Calm w w':=by
 go_enter Tryz.func41,Tryz.ntmps41
 go_wp2_with fail
 go_ret
 exact⟨rfl,(Calm.refl _).alloc _⟩
def pendI (p:Pnd) (t:Int):Int:=if p.num=t then 0 else -1
set_option maxHeartbeats 4000000 in
theorem idxPn_c (f:Nat) (lb:Array Value) (eg:∀args w,(callFunc f args).run Tryz.prog w=.ok (.enter f args) w) (p:Pnd) (q:Bool) (PA:Option Addr) (pc:Nat) (w:World) (hr:ReadX encPn 6 w PA [p])
  (hp:∀(W:World),Calm w W→Calls Tryz.prog f (#[.agg #[.int .i64 p.num,.string (bs p.cl),.string (bs p.tx),.bool p.sh,.slice p.EA p.l.length p.ec,.slice none 0 0]]++lb) W fun e w'=>e=.returned (.bool q)∧Calm W w') :
  Calls Tryz.prog 40 #[.slice PA 1 pc,.func (.func f) #[] lb] w fun e w'=>e=.returned (.int .i64 (if q then 0 else -1))∧Calm w w':=by
 obtain⟨b,o,rfl,hb,hk⟩:=hr (by simp)
 have HC:=Lib.hid (fun (W:World) (hW:Calm w W)=>fun (i:Nat) (u:Value) (hu:(encPn p)[i]?=some u)=>Calm.at_ hW (hk 0 p rfl i u hu) hb)
 have HP:=Lib.hid hp
 clear hk hp
 go_enter Tryz.func40,Tryz.ntmps40
 go_wp2_with fail
 go_loopw [8] (fun i wr=>∃j:Nat,j≤1∧i=.int .i64 j∧Hid (j=1→q=false)∧Hid (Calm w wr)) (fun i _=>1 - (intOf i).toNat)
 case atStart=>exact⟨0,by decide,rfl,(fun h=>absurd h (by decide)),Calm.refl _⟩
 case round=>
  obtain⟨j,hj,rfl,HN,HW⟩:=hrel
  by_cases h0:j=0
  ·subst h0
   have c0:=HC.out wr HW.out 0 _ rfl
   have c1:=HC.out wr HW.out 1 _ rfl
   have c2:=HC.out wr HW.out 2 _ rfl
   have c3:=HC.out wr HW.out 3 _ rfl
   have c4:=HC.out wr HW.out 4 _ rfl
   have c5:=HC.out wr HW.out 5 _ rfl
   simp only[Nat.zero_mul,Nat.add_zero] at c0 c1 c2 c3 c4 c5
   have hcall:=HP.out wr HW.out
   cases q with
   |true=>
    go_wp2_with (go_at_fn f;refine hcall.mono ?_;rintro e w5 ⟨rfl,hc5⟩)
    go_ret
    exact⟨rfl,HW.out.trans hc5⟩
   |false=>
    go_wp2_with (go_at_fn f;refine hcall.mono ?_;rintro e w5 ⟨rfl,hc5⟩)
    go_roundw
    case rel=>exact⟨1,Nat.le_refl _,by go_num,(fun _=>(by trivial)),HW.out.trans hc5⟩
    case measure=>simp[intOf]
  ·obtain rfl:j=1:=by omega
   obtain rfl:q=false:=HN.out rfl
   go_wp2_with fail
   go_ret
   exact⟨rfl,HW.out⟩
theorem owns_read {α:Type} {enc:α→List Value} {K:Nat} {T:TypeId} {w:World} {base:Nat} {A:Option Addr} {n c:Nat} {l:List α} (hlen:∀x,(enc x).length=K) (hK:0 < K) (h:w.ownsRow base T K (.slice A n c) n (encs enc l)):ReadX enc K w A l:=fun hne=>by
 rcases h.2 with⟨h1,h0⟩ | ⟨g,cap,cur,hv,hb,hg,h4⟩
 ·subst h0
  have h2:=h.1
  rw[encs_len hlen,Nat.zero_mul] at h2
  rcases l with _ | ⟨y,t⟩
  ·exact absurd rfl hne
  ·have:=Nat.mul_pos (show 0 < (y :: t).length by simp) hK
   omega
 ·cases hv
  refine⟨g,0,rfl,(Array.getElem?_eq_some_iff.1 hg).1,fun k x hk i u hu=>?_⟩
  have:=h.cells (g:=g) rfl (k * K+i) u (encs_get hlen l k x hk i u hu)
  simpa[Addr.add_lit,Nat.add_assoc] using this
theorem SrvAt.pns {w:World} {x:Srv} (h:SrvAt w x) {p:Pnd} (hp:x.ps=[p]):ReadX encPn 6 w x.PA [p]:=by
 have:=h.pn
 rw[hp] at this
 exact owns_read encPn_len (by decide) this
set_option maxHeartbeats 4000000 in
theorem pending_c (x:Srv) (p:Pnd) (t:Int) (w:World) (h:SrvAt w x) (hp:x.ps=[p]) :
  Calls Tryz.prog 16 #[.pointer (some ⟨x.S,0,none⟩),.int .i64 t] w fun e w'=>e=.returned (.tuple #[.int .i64 (pendI p t),.bool (p.num == t)])∧Calm w w':=by
 have c7:=(h.calm ((Calm.refl w).alloc (.cells #[.int .i64 t] 3))).z.at_ 7 _ rfl
 rw[hp] at c7
 simp only[List.length_cons,List.length_nil,Nat.zero_add] at c7
 have lS:=h.z.lt
 have HR:=Lib.hid (h.pns hp)
 have hqi:pendI p t=if (p.num == t) then 0 else -1:=by
  unfold pendI
  by_cases h1:p.num=t
  ·rw[if_pos h1,if_pos (by simpa using h1)]
  ·rw[if_neg h1,if_neg (by simpa using h1)]
 rw[hqi]
 obtain⟨q,hq⟩:∃q,(p.num == t)=q:=⟨_,rfl⟩
 have KP:Hid (∀(W:World) (tb:Nat),W.cell? ⟨tb,0,none⟩=some (.int .i64 t)→tb < W.heap.size→Calls Tryz.prog 41 #[.agg #[.int .i64 p.num,.string (bs p.cl),.string (bs p.tx),.bool p.sh,.slice p.EA p.l.length p.ec,.slice none 0 0],.pointer (some ⟨tb,0,none⟩)] W fun e w'=>e=.returned (.bool q)∧Calm W w'):=fun W tb h1 h2=>by
  have:=pend1_c p t tb W h1 h2
  rw[hq] at this
  exact this
 rw[hq]
 clear h hp hqi hq
 obtain⟨PA,hPA⟩:∃PA,x.PA=PA:=⟨_,rfl⟩
 obtain⟨pc,hpc⟩:∃pc,x.pc=pc:=⟨_,rfl⟩
 obtain⟨S,hS⟩:∃S,x.S=S:=⟨_,rfl⟩
 rw[hPA] at HR
 rw[hPA,hpc,hS] at c7
 rw[hS] at lS ⊢
 clear hPA hpc hS
 cases q
 all_goals
  go_enter Tryz.func16,Tryz.ntmps16
  go_wp2_with fail
  refine (idxPn_c 41 #[.pointer (some ⟨w.heap.size,0,none⟩)] (fun args W=>enters_of Tryz.func41 (by kernel_rfl) rfl args W) p _ PA pc _ (HR.out.calm ((Calm.refl w).alloc _)) (fun W hW=>KP.out W w.heap.size (hW.at_ (by simp[go_sem]) (by simp)) (Nat.lt_of_lt_of_le (by simp) hW.size))).mono ?_
  rintro e w2 ⟨rfl,hc2⟩
  have HC2:=Lib.hid (((Calm.refl w).alloc _).trans hc2)
  clear hc2
  go_wp2_with fail
  go_ret2
  exact⟨rfl,HC2.out⟩
theorem str_cmp (a b:Str) (w:World):Calls Tryz.prog 39 #[.string (bs a),.string (bs b)] w fun e w'=>e=.returned (.int .i64 (Lib.compareBytes a b))∧w=w':=
 (Tryz.strings_Compare (bs a) (bs b) w).mono fun _ _ ⟨he,hw⟩=>⟨by rw[he,bs_toList,bs_toList],hw.symm⟩
theorem cl1_c (a b:Str) (w:World) :
  Calls Tryz.prog 38 #[.agg #[.string (bs a),.string (bs mainN),.slice none 0 0],.string (bs b)] w fun e w'=>e=.returned (.int .i64 (Lib.compareBytes a b))∧Calm w w':=by
 go_enter Tryz.func38,Tryz.ntmps38
 go_wp2_with (go_at_call 39;refine (str_cmp a b _).mono ?_;rintro e w' ⟨rfl,rfl⟩)
 go_ret
 exact⟨rfl,(Calm.refl _).alloc _⟩
def bsl (cs:List Str) (nm:Str):Nat→Nat→Nat→Int × Bool
 |0,i,_=>(i,decide (i < cs.length) && decide (Lib.compareBytes (cs.getD i []) nm=0))
 |f+1,i,j=>if i < j then (if Lib.compareBytes (cs.getD ((i+j) / 2) []) nm < 0 then bsl cs nm f ((i+j) / 2+1) j else bsl cs nm f i ((i+j) / 2)) else (i,decide (i < cs.length) && decide (Lib.compareBytes (cs.getD i []) nm=0))
def bsC (cs:List Str) (nm:Str):Int × Bool:=bsl cs nm cs.length 0 cs.length
theorem bsl_end (cs:List Str) (nm:Str) (i q:Nat):bsl cs nm q i i=((i:Int),decide (i < cs.length) && decide (Lib.compareBytes (cs.getD i []) nm=0)):=by
 cases q with
 |zero=>rfl
 |succ q=>
  unfold bsl
  rw[if_neg (Nat.lt_irrefl i)]
theorem bsl_lo {cs:List Str} {nm:Str} {q i j h:Nat} {R:Int × Bool} (hI:bsl cs nm (q+1) i j=R) (hij:i < j) (hh:(i+j) / 2=h) (hz:Lib.compareBytes (cs.getD h []) nm < 0):bsl cs nm q (h+1) j=R:=by
 unfold bsl at hI
 rw[if_pos hij,hh,if_pos hz] at hI
 exact hI
theorem bsl_hi {cs:List Str} {nm:Str} {q i j h:Nat} {R:Int × Bool} (hI:bsl cs nm (q+1) i j=R) (hij:i < j) (hh:(i+j) / 2=h) (hz:¬Lib.compareBytes (cs.getD h []) nm < 0):bsl cs nm q i h=R:=by
 unfold bsl at hI
 rw[if_pos hij,hh,if_neg hz] at hI
 exact hI
set_option maxHeartbeats 4000000 in
theorem bsearch_c (f:Nat) (eg:∀args w,(callFunc f args).run Tryz.prog w=.ok (.enter f args) w) (cs:List Str) (nm:Str) (A:Option Addr) (n c:Nat) (w:World) (hr:ReadX encCl 3 w A cs) (hn:cs.length=n) (h16:n≤2)
  (hf:∀(W:World) (a:Str),Calls Tryz.prog f #[.agg #[.string (bs a),.string (bs mainN),.slice none 0 0],.string (bs nm)] W fun e w'=>e=.returned (.int .i64 (Lib.compareBytes a nm))∧Calm W w') :
  Calls Tryz.prog 37 #[.slice A n c,.string (bs nm),.func (.func f) #[] #[]] w fun e w'=>e=.returned (.tuple #[.int .i64 (bsC cs nm).1,.bool (bsC cs nm).2])∧Calm w w':=by
 have HF:=Lib.hid hf
 have HR:=Lib.hid hr
 have HN:=Lib.hid hn
 have HG:Hid (∀(W:World) (k:Nat),Calm w W→k < n→∃b o a,A=some ⟨b,o,none⟩∧cs.getD k []=a∧W.cell? ⟨b,o+k * 3,none⟩=some (.string (bs a))∧W.cell? ⟨b,o+k * 3+1,none⟩=some (.string (bs mainN))∧W.cell? ⟨b,o+k * 3+2,none⟩=some (.slice none 0 0)):=fun W k hW hk=>by
  have hk':k < cs.length:=by rw[hn];exact hk
  obtain⟨b,o,hA,hb,hc⟩:=hr (fun e=>by rw[e] at hk';simp at hk')
  have hz:=List.getElem?_eq_getElem hk'
  exact⟨b,o,cs[k],hA,by simp[List.getD,hz],hW.at_ (hc k _ hz 0 _ rfl) hb,hW.at_ (hc k _ hz 1 _ rfl) hb,hW.at_ (hc k _ hz 2 _ rfl) hb⟩
 obtain⟨R,hR⟩:∃R,bsC cs nm=R:=⟨_,rfl⟩
 have HRR:Hid (bsl cs nm n 0 n=R):=by
  show _=_
  rw[←hn]
  exact hR
 rw[hR]
 clear hf hr hn hR
 go_enter Tryz.func37,Tryz.ntmps37
 go_wp2_with fail
 go_loopw [9,10] (fun u v wr=>∃i j q:Nat,i≤j∧j≤n∧j≤i+q∧u=.int .i64 i∧v=.int .i64 j∧Hid (bsl cs nm q i j=R)∧Hid (Calm w wr)) (fun u v _=>(intOf v).toNat - (intOf u).toNat)
 case atStart=>exact⟨0,n,n,Nat.zero_le _,Nat.le_refl _,by omega,rfl,rfl,HRR.out,Calm.refl _⟩
 case round=>
  obtain⟨i,j,q,hij,hjn,hq,rfl,rfl,HI,HW⟩:=hrel
  by_cases hlt:i < j
  ·obtain⟨q',rfl⟩:∃q',q=q'+1:=⟨q - 1,by omega⟩
   obtain⟨h,hh,hij3⟩:∃h,(i+j) / 2=h∧((i=0∧j=1∧h=0)∨(i=0∧j=2∧h=1)∨(i=1∧j=2∧h=1)):=⟨_,rfl,by omega⟩
   have HH:=Lib.hid hh
   obtain⟨b,o,a,rfl,ha,c0,c1,c2⟩:=HG.out wr h HW.out (by omega)
   have HA:=Lib.hid ha
   have K:=HF.out wr a
   obtain⟨z,hz⟩:∃z,Lib.compareBytes a nm=z:=⟨_,rfl⟩
   rw[hz] at K
   have HZ:=Lib.hid hz
   clear hh ha hz
   rcases hij3 with⟨rfl,rfl,rfl⟩ | ⟨rfl,rfl,rfl⟩ | ⟨rfl,rfl,rfl⟩
   all_goals
    simp only[Nat.zero_mul,Nat.one_mul,Nat.add_zero] at c0 c1 c2
    by_cases hz0:z < 0
    ·have HL:=Lib.hid (bsl_lo HI.out (by decide) HH.out (by rw[HA.out,HZ.out];exact hz0))
     go_wp2_with (go_at_fn f;refine K.mono ?_;rintro e w5 ⟨rfl,hc5⟩)
     go_roundw
     case rel=>first | exact⟨1,1,q',by omega,hjn,by omega,by go_num,by go_num,HL.out,HW.out.trans hc5⟩ | exact⟨2,2,q',by omega,hjn,by omega,by go_num,by go_num,HL.out,HW.out.trans hc5⟩
     case measure=>simp[intOf]
    ·have hz1:decide (z < 0)=false:=by simpa using hz0
     have HL:=Lib.hid (bsl_hi HI.out (by decide) HH.out (by rw[HA.out,HZ.out];exact hz0))
     go_wp2_with (go_at_fn f;refine K.mono ?_;rintro e w5 ⟨rfl,hc5⟩)
     go_roundw
     case rel=>first | exact⟨0,0,q',by omega,by omega,by omega,by go_num,by go_num,HL.out,HW.out.trans hc5⟩ | exact⟨0,1,q',by omega,by omega,by omega,by go_num,by go_num,HL.out,HW.out.trans hc5⟩ | exact⟨1,1,q',by omega,by omega,by omega,by go_num,by go_num,HL.out,HW.out.trans hc5⟩
     case measure=>simp[intOf]
  ·obtain rfl:i=j:=by omega
   by_cases hin:i < n
   ·obtain⟨b,o,a,rfl,ha,c0,c1,c2⟩:=HG.out wr i HW.out hin
    have HA:=Lib.hid ha
    have K:=HF.out wr a
    obtain⟨z,hz⟩:∃z,Lib.compareBytes a nm=z:=⟨_,rfl⟩
    rw[hz] at K
    have HZ:=Lib.hid hz
    clear ha hz
    have hR1:Hid (R=((i:Int),z == 0)):=by
     show _=_
     rw[←HI.out,bsl_end,HN.out,HA.out,HZ.out,decide_eq_true hin,Bool.true_and]
     rfl
    go_wp2_with (go_at_fn f;refine K.mono ?_;rintro e w5 ⟨rfl,hc5⟩)
    go_ret2
    exact⟨by rw[hR1.out];rfl,HW.out.trans hc5⟩
   ·obtain rfl:i=n:=by omega
    have hR1:Hid (R=((i:Int),false)):=by
     show _=_
     rw[←HI.out,bsl_end,HN.out,decide_eq_false hin,Bool.false_and]
    go_wp2_with fail
    go_ret2
    exact⟨by rw[hR1.out];rfl,HW.out⟩
theorem SrvAt.cls {w:World} {x:Srv} (h:SrvAt w x):ReadX encCl 3 w x.CA x.cs:=owns_read encCl_len (by decide) h.cl
set_option maxHeartbeats 4000000 in
theorem client_c (x:Srv) (nm:Str) (w:World) (h:SrvAt w x) (h2:x.cs.length≤2) :
  Calls Tryz.prog 15 #[.pointer (some ⟨x.S,0,none⟩),.string (bs nm)] w fun e w'=>e=.returned (.tuple #[.int .i64 (bsC x.cs nm).1,.bool (bsC x.cs nm).2])∧Calm w w':=by
 have c3:=h.z.at_ 3 _ rfl
 have lS:=h.z.lt
 have K:=Lib.hid (bsearch_c 38 (fun args W=>enters_of Tryz.func38 (by kernel_rfl) rfl args W) x.cs nm x.CA x.cs.length x.cc w h.cls rfl h2 (fun W a=>cl1_c a nm W))
 clear h h2
 go_enter Tryz.func15,Tryz.ntmps15
 go_wp2_with fail
 refine K.out.mono ?_
 rintro e w2 ⟨rfl,hc2⟩
 go_wp2_with fail
 go_ret2
 exact⟨rfl,hc2⟩
theorem bs_0a:bsC [] annN=(0,false):=by decide
theorem bs_1b:bsC [annN] bobN=(1,false):=by decide
theorem bs_2a:bsC [annN,bobN] annN=(0,true):=by decide
theorem bs_2b:bsC [annN,bobN] bobN=(1,true):=by decide
end Go.Proofs.YtcofdlipapnohaaGreatDoor
