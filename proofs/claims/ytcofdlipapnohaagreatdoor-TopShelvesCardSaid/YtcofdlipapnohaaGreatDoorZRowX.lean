/- Rows of structs in a block of the call's own: their cells, stores into them, appends to them. -/
import Derived.Laws.IdiomCopy
import Derived.Maps.AppendAt
import Derived.Deep.Upon
import Derived.Test.YtcofdlipapnohaaGreatDoorZNewS
import Derived.Test.YtcofdlipapnohaaGreatDoorZMeetL
set_option linter.unusedVariables false
set_option linter.unusedSimpArgs false
namespace Go.Proofs.YtcofdlipapnohaaGreatDoor
open Go Go.RowKit Sy
variable {α:Type} {enc:α→List Value} {K:Nat} {T:TypeId}
structure RowX (enc:α→List Value) (K:Nat) (T:TypeId) (w:World) (g o:Nat) (l:List α):Prop where
 kind:∃cs,w.heap[g]?=some (.cells cs T (0,0))
 cell:∀(k:Nat) x,l[k]?=some x→∀(i:Nat) u,(enc x)[i]?=some u→w.cell? ⟨g,o+k * K+i,none⟩=some u
theorem RowX.lt {w:World} {g o:Nat} {l:List α} (h:RowX enc K T w g o l):g < w.heap.size:=by
 obtain⟨cs,hh⟩:=h.kind
 exact heap_lt hh
theorem RowX.free {w:World} {g o:Nat} {l:List α} (h:RowX enc K T w g o l) (j:Nat):w.frozen? ⟨g,j,none⟩=false:=by
 obtain⟨cs,hh⟩:=h.kind
 exact frozen_of_row w g j cs _ hh
theorem RowX.of_block {w w':World} {g o:Nat} {l:List α} (h:RowX enc K T w g o l) (hb:w'.heap[g]?=w.heap[g]?):RowX enc K T w' g o l:=
 ⟨by obtain⟨cs,hh⟩:=h.kind;exact⟨cs,hb.trans hh⟩,fun k x hk i u hu=>(World.cell?_of_block (a:=⟨g,o+k * K+i,none⟩) hb).trans (h.cell k x hk i u hu)⟩
theorem RowX.calm {w w':World} {g o:Nat} {l:List α} (h:RowX enc K T w g o l) (hc:Calm w w'):RowX enc K T w' g o l:=h.of_block (hc.block g h.lt)
theorem RowX.grown {w w':World} {g o:Nat} {l:List α} {row:Option Nat} (h:RowX enc K T w g o l) (hg:w.grownBy w' row) (hne:some g≠row):RowX enc K T w' g o l:=h.of_block (hg.block g h.lt hne)
theorem RowX.take {w:World} {g o:Nat} {l:List α} (h:RowX enc K T w g o l) (n:Nat):RowX enc K T w g o (l.take n):=
 ⟨h.kind,fun k x hk i u hu=>h.cell k x (by rw[List.getElem?_take] at hk;split at hk;exact hk;cases hk) i u hu⟩
theorem kind_setCells {w:World} {g b:Nat}:∀(vs:List Value) (o:Nat) (w:World),(∃cs,w.heap[g]?=some (.cells cs T (0,0)))→∃cs,(w.setCells b o vs).heap[g]?=some (.cells cs T (0,0))
 |[],o,w,h=>h
 |v :: r,o,w,h=>by
  refine kind_setCells (w:=w) r (o+1) _ ?_
  obtain⟨cs,hh⟩:=h
  by_cases e:b=g
  ·subst e
   exact⟨cs.setIfInBounds o v,by simp[World.setCell,Array.getElem?_modify,hh]⟩
  ·exact⟨cs,by rw[Deep.blk_setCell_other _ _ _ _ (Ne.symm e)];exact hh⟩
theorem grown_setCells {w:World} (g o:Nat) (vs:List Value):w.grownBy (w.setCells g o vs) (some g):=by
 have key:∀(vs:List Value) (o:Nat) (w:World),(w.setCells g o vs).os=w.os∧(w.setCells g o vs).tape=w.tape∧(w.setCells g o vs).output=w.output∧(w.setCells g o vs).heap.size=w.heap.size:=fun vs=>by
  induction vs with
  |nil=>intro o w;exact⟨rfl,rfl,rfl,rfl⟩
  |cons v r ih=>
   intro o w
   obtain⟨h1,h2,h3,h4⟩:=ih (o+1) (w.setCell ⟨g,o,none⟩ v)
   exact⟨h1,h2,h3,h4.trans (by simp[World.setCell])⟩
 obtain⟨h1,h2,h3,h4⟩:=key vs o w
 exact⟨h1,h2,h3,Nat.le_of_eq h4.symm,fun k hk hne=>World.heap_setCells_other w g o vs hk (fun e=>hne (by rw[e]))⟩
theorem calm_grown {w w':World} {row:Option Nat} (h:Calm w w'):w.grownBy w' row:=⟨h.os,h.tape,h.output,h.size,fun k hk _=>h.block k hk⟩
theorem grown_calm {w0 w w':World} {g:Nat} (h:Calm w0 w) (hg:w.grownBy w' (some g)) (hB:w0.heap.size≤g):Calm w0 w':=
 ⟨hg.os.trans h.os,hg.tape.trans h.tape,hg.output.trans h.output,Nat.le_trans h.size hg.size,fun k hk=>(hg.block k (Nat.lt_of_lt_of_le hk h.size) (fun e=>by injection e with e;omega)).trans (h.block k hk)⟩
theorem RowX.put {w:World} {g o:Nat} {l:List α} (hlen:∀x,(enc x).length=K) (h:RowX enc K T w g o l) {k:Nat} (hk:k < l.length) (x:α):RowX enc K T (w.setCells g (o+k * K) (enc x)) g o (l.set k x):=by
 refine⟨kind_setCells (w:=w) _ _ _ h.kind,fun j y hj i u hu=>?_⟩
 have hi:i < K:=by rw[←hlen y];exact (List.getElem?_eq_some_iff.1 hu).1
 by_cases e:k=j
 ·subst e
  rw[List.getElem?_set_self hk] at hj
  obtain rfl:x=y:=Option.some.inj hj
  have hsome:∀t,t < (enc x).length→(w.cell? ⟨g,o+k * K+t,none⟩).isSome=true:=fun t ht=>by
   have hy:=List.getElem?_eq_getElem hk
   have hlt:t < (enc l[k]).length:=by rw[hlen] at ht ⊢;exact ht
   rw[h.cell k _ hy t _ (List.getElem?_eq_getElem hlt)]
   rfl
  have:=World.cell?_setCells_in g (enc x) (o+k * K) w hsome i (by rw[hlen];exact hi)
  rw[this]
  rw[List.getElem?_eq_getElem (by rw[hlen];exact hi)] at hu
  exact hu
 ·rw[List.getElem?_set_ne e] at hj
  rw[World.cell?_setCells_out g (enc x) (o+k * K) w ⟨g,o+j * K+i,none⟩ (fun _ _=>?_)]
  ·exact h.cell j y hj i u hu
  ·show o+j * K+i < o+k * K∨o+k * K+(enc x).length≤o+j * K+i
   rw[hlen]
   rcases Nat.lt_or_ge j k with hjk | hjk
   ·left
    have:=Nat.mul_le_mul_right K (show j+1≤k from hjk)
    rw[Nat.add_mul,Nat.one_mul] at this
    omega
   ·right
    have:=Nat.mul_le_mul_right K (show k+1≤j by omega)
    rw[Nat.add_mul,Nat.one_mul] at this
    omega
/-! ### rows that grow by append -/
def encs (enc:α→List Value) (l:List α):List Value:=l.flatMap enc
theorem encs_snoc (l:List α) (x:α):encs enc (l++[x])=encs enc l++enc x:=by simp[encs]
theorem encs_len (hlen:∀x,(enc x).length=K):∀l:List α,(encs enc l).length=l.length * K
 |[]=>by simp[encs]
 |x :: t=>by
  have ih:=encs_len hlen t
  simp only[encs,List.flatMap_cons,List.length_append,List.length_cons] at ih ⊢
  rw[ih,hlen,Nat.succ_mul,Nat.add_comm]
theorem encs_get (hlen:∀x,(enc x).length=K):∀(l:List α) (k:Nat) x,l[k]?=some x→∀(i:Nat) u,(enc x)[i]?=some u→(encs enc l)[k * K+i]?=some u
 |[],k,x,h,_,_,_=>by simp at h
 |y :: t,0,x,h,i,u,hu=>by
  simp only[List.getElem?_cons_zero,Option.some.injEq] at h
  subst h
  have hi:=(List.getElem?_eq_some_iff.1 hu).1
  rw[encs,List.flatMap_cons,Nat.zero_mul,Nat.zero_add,List.getElem?_append_left hi]
  exact hu
 |y :: t,k+1,x,h,i,u,hu=>by
  have ih:=encs_get hlen t k x (by simpa using h) i u hu
  rw[encs,List.flatMap_cons,List.getElem?_append_right (by rw[hlen,Nat.add_mul,Nat.one_mul];omega),hlen]
  have e:(k+1) * K+i - K=k * K+i:=by rw[Nat.add_mul,Nat.one_mul];omega
  rw[e]
  exact ih
structure OwnX (enc:α→List Value) (K:Nat) (T:TypeId) (w0 w:World) (v:Value) (l:List α):Prop where
 calm:Calm w0 w
 own:w.ownsRow w0.heap.size T K v l.length (encs enc l)
theorem OwnX.nil {w0 w:World} (h:Calm w0 w):OwnX enc K T w0 w (.slice none 0 0) []:=⟨h,World.ownsRow_nil _ _ _ _⟩
theorem OwnX.to {w0 w w':World} {v:Value} {l:List α} (h:OwnX enc K T w0 w v l) (hc:Calm w w'):OwnX enc K T w0 w' v l:=⟨h.calm.trans hc,owns_calm h.own hc⟩
theorem OwnX.row {w0 w:World} {v:Value} {l:List α} (hlen:∀x,(enc x).length=K) (h:OwnX enc K T w0 w v l):(v=.slice none 0 0∧l=[])∨∃g c,v=.slice (some ⟨g,0,none⟩) l.length c∧l.length≤c∧c≤9223372036854775807∧w0.heap.size≤g∧RowX enc K T w g 0 l:=by
 rcases h.own.2 with⟨rfl,h0⟩ | ⟨g,cap,cur,rfl,hg,hh,hcap,hm,hs,ht⟩
 ·exact .inl ⟨rfl,List.eq_nil_of_length_eq_zero h0⟩
 ·refine .inr ⟨g,cap,rfl,hcap,by unfold maxLen at hm;omega,hg,⟨cur,hh⟩,fun k x hk i u hu=>?_⟩
  have h1:=h.own.cells (g:=g) rfl (k * K+i) u (encs_get hlen l k x hk i u hu)
  simpa[Addr.add_lit,Nat.add_assoc] using h1
theorem OwnX.far {w0 w:World} {v:Value} {l:List α} (h:OwnX enc K T w0 w v l) {b:Nat} (hb:b < w0.heap.size):some b≠v.ownBlock:=fun e=>by
 have:=owns_lt h.own e.symm
 omega
theorem OwnX.blk_lt {w0 w:World} {v:Value} {l:List α} (h:OwnX enc K T w0 w v l) {b:Nat} (hb:some b=v.ownBlock):b < w.heap.size:=(owns_lt h.own hb.symm).2
theorem run_append_x {P:Program} {w w0:World} {S ty:TypeId} {i0:TypeInfo} {z:Value} {bytes:Nat} (ht:P.underlying S=some (.slice T)) (hi:P.info? T=some i0) (hz:i0.zero=some z) (hsize:i0.size=K) (hby:i0.bytes=bytes) (hzs:z.cells.size=K) (hK:0 < K)
  (hlen:∀x,(enc x).length=K) (h1:∀x,∀u∈enc x,u.oneCell'=true) {v:Value} {l:List α} {x:α} {n c:Nat} (hown:OwnX enc K T w0 w v l)
  (hrd:∀(j:Nat) u,(enc x)[j]?=some u→w.cell? ⟨n,j,none⟩=some u) (hl:l.length≤1000000) (hb:bytes≤1000) :
  ∃v' w',(Builtin.append_ #[S,S] ty #[v,.slice (some ⟨n,0,none⟩) 1 c]).run P w=.ok v' w'∧OwnX enc K T w0 w' v' (l++[x])∧w.grownBy w' v.ownBlock:=by
 have hnews:∀(j:Nat) (u:Value),(enc x)[j]?=some u→w.cell? ((⟨n,0,none⟩:Addr).add j)=some u:=fun j u hj=>by
  simpa[Addr.add_lit] using hrd j u hj
 obtain⟨v',w',hr,h2,h3,_⟩:=run_append_own (P:=P) w w0.heap.size S ty T i0 z K bytes ht hi hz hsize hby hzs hK v l.length (encs enc l) hown.own ⟨n,0,none⟩ 1 c (enc x) (by rw[hlen,Nat.one_mul]) hnews (h1 x) (by unfold maxLen;omega) (Nat.le_trans (Nat.mul_le_mul (show l.length+1≤1000001 by omega) hb) (by decide)) hown.calm.size
 exact⟨v',w',hr,⟨Below.trans hown.calm (owns_below hown.own hown.calm.size h3),by rw[List.length_append,encs_snoc];exact h2⟩,h3⟩
/-! ### holes with their texts; patterns -/
structure NewP where
 A:Option Addr
 c:Nat
 p:Pat
deriving Inhabited
def encP (x:NewP):List Value:=[.slice x.A x.p.parts.length x.c,.bool x.p.rest]
def encH (x:NewP):List Value:=[.slice x.A x.p.parts.length x.c,.bool x.p.rest,.string (bs (patText x.p))]
theorem encP_len (x:NewP):(encP x).length=2:=rfl
theorem encH_len (x:NewP):(encH x).length=3:=rfl
theorem encP_one (x:NewP):∀u∈encP x,u.oneCell'=true:=by simp[encP,Value.oneCell']
theorem encH_one (x:NewP):∀u∈encH x,u.oneCell'=true:=by simp[encH,Value.oneCell']
def EachN (w:World) (B:Nat) (l:List NewP):Prop:=∀x∈l,NewS w B x.A x.c x.p.parts
theorem EachN.calm {w w':World} {B:Nat} {l:List NewP} (h:EachN w B l) (hc:Calm w w'):EachN w' B l:=fun x hx=>(h x hx).calm hc
theorem EachN.grown {w w':World} {B:Nat} {l:List NewP} {g:Nat} (h:EachN w B l) (hk:∃cs,w.heap[g]?=some (.cells cs T (0,0))) (hT:9≠T) (hg:w.grownBy w' (some g)):EachN w' B l:=fun x hx=>by
 have hx:=h x hx
 have hne:∀ad,x.A=some ad→some ad.block≠some g:=fun ad hA e=>by
  obtain⟨cs,hh⟩:=hx.row ad hA
  obtain⟨cs',hh'⟩:=hk
  injection e with e
  rw[e,hh'] at hh
  injection hh with hh
  injection hh with _ ht
  exact hT ht.symm
 refine⟨⟨hx.u.len,hx.u.each,fun h0=>?_⟩,hx.room,hx.cap,hx.new,fun ad hA=>?_⟩
 ·obtain⟨b,o,hA,hb,hkk⟩:=hx.u.at_ h0
  exact⟨b,o,hA,Nat.lt_of_lt_of_le hb hg.size,fun k l hl=>hg.cell (hkk k l hl) (show some b≠some g from hne _ hA)⟩
 ·obtain⟨cs,hh⟩:=hx.row ad hA
  exact⟨cs,(hg.block _ (heap_lt hh) (hne ad hA)).trans hh⟩
theorem EachN.own {w w':World} {B B0 n K:Nat} {v:Value} {T:TypeId} {xs:List Value} {l:List NewP} (h:EachN w B l) (hT:9≠T) (hown:w.ownsRow B0 T K v n xs) (hg:w.grownBy w' v.ownBlock):EachN w' B l:=fun x hx=>(h x hx).grown hT hown hg
theorem info_patE:(Tryz.prog.info? 65).map (fun i=>(i.zero,i.size,i.bytes))=some (some (.agg #[.slice none 0 0,.bool false]),2,32):=by kernel_rfl
theorem wpList_append_p {ops:Array Oper} {rest:List Oper} {o:Oper} {a:Act} {Q:Exit→Act→World→Prop} {w:World} (hgd:o.guard=none) (s x:Operand)
  (ho:o.op=.call { callee:=.builtin .append,args:=#[s,x],argTypes:=#[212,212] }) (w0:World) (v:Value) (l:List NewP) (hs:a.eval s=v) (hown:OwnX encP 2 65 w0 w v l) (n c:Nat) (hx:a.eval x=.slice (some ⟨n,0,none⟩) 1 c) (y:NewP)
  (hrd:∀(j:Nat) u,(encP y)[j]?=some u→w.cell? ⟨n,j,none⟩=some u) (hl:l.length≤1000000)
  (h:∀v' w',OwnX encP 2 65 w0 w' v' (l++[y])→w.grownBy w' v.ownBlock→wpList Tryz.prog ops Q rest (a.put o.dst v') w'):wpList Tryz.prog ops Q (o :: rest) a w:=by
 refine wpList_plain hgd fun _ hK=>?_
 obtain⟨i0,hi0,hz0,hz1,hz2⟩:=info_parts info_patE
 obtain⟨v',w',hr,h2,h3⟩:=run_append_x (P:=Tryz.prog) (ty:=o.type) (c:=c) (x:=y) Tryz.underlying212 hi0 hz0 hz1 hz2 rfl (by decide) encP_len encP_one hown hrd hl (by decide)
 unfold Oper.wp execOp
 simp only[ho,resolve,invoke,builtin,Sem.run_bind,Sem.run_pure,Result.andThen_ok,List.map_toArray,List.map_cons,List.map_nil,hs,hx]
 rw[hr]
 exact hK _ _ (h v' w' h2 h3)
end Go.Proofs.YtcofdlipapnohaaGreatDoor
