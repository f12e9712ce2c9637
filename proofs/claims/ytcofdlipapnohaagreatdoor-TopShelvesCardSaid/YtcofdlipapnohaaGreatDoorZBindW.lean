/- Walks: pattern.Within, Bind, isBinding. -/
import Derived.Deep.RegionHeld3
import Derived.Deep.RegionLaw
import Derived.Test.YtcofdlipapnohaaGreatDoorZNarL
import Derived.Test.YtcofdlipapnohaaGreatDoorZMeetW
import Derived.Test.YtcofdlipapnohaaGreatDoorZEdRow
import Derived.Test.YtcofdlipapnohaaGreatDoorZNewS
import Derived.Test.YtcofdlipapnohaaGreatDoorZMeetP
set_option linter.unusedVariables false
set_option linter.unusedSimpArgs false
namespace Go.Proofs.YtcofdlipapnohaaGreatDoor.Sy
def bindP (p m:Pat):List Pat:=(capsTo p m.parts p.parts.length).map (fun c=>(⟨[c],false⟩:Pat))++(if p.rest then [⟨m.parts.drop p.parts.length,m.rest⟩] else [])
theorem bindP_eq {p m:Pat} (h:p.parts.length≤m.parts.length):bindP p m=(capsR p.parts m.parts).map (fun c=>(⟨[c],false⟩:Pat))++(if p.rest then [⟨m.parts.drop p.parts.length,m.rest⟩] else []):=by
 unfold bindP
 rw[show capsTo p m.parts p.parts.length=capsR p.parts m.parts from capsTo_capsR p.rest p.parts m.parts h]
def trimL (p m:Pat) (k:Nat):List Str:=(List.range m.parts.length).map fun j=>if j < k∧isStar (pAt p j)=true then cap1 (pAt p j) (m.parts.getD j []) else m.parts.getD j []
theorem trimL_len (p m:Pat) (k:Nat):(trimL p m k).length=m.parts.length:=by simp[trimL]
theorem trimL_get {p m:Pat} {k j:Nat} (hj:j < m.parts.length):(trimL p m k)[j]?=some (if j < k∧isStar (pAt p j)=true then cap1 (pAt p j) (m.parts.getD j []) else m.parts.getD j []):=by simp[trimL,hj]
theorem getD_get {l:List Str} {j:Nat} (h:j < l.length):l[j]?=some (l.getD j []):=by simp[List.getD_eq_getElem?_getD,h]
theorem trimL_zero (p m:Pat):trimL p m 0=m.parts:=by
 apply List.ext_getElem?
 intro j
 by_cases hj:j < m.parts.length
 ·rw[trimL_get hj,getD_get hj]
  simp
 ·rw[List.getElem?_eq_none (by rw[trimL_len];omega),List.getElem?_eq_none (by omega)]
theorem trimL_star {p m:Pat} {k:Nat} (hs:isStar (pAt p k)=true) (hk:k < m.parts.length):trimL p m (k+1)=(trimL p m k).set k (cap1 (pAt p k) (m.parts.getD k [])):=by
 apply List.ext_getElem?
 intro j
 rw[List.getElem?_set,trimL_len]
 by_cases hj:j < m.parts.length
 ·rw[trimL_get hj,trimL_get hj]
  by_cases e:k=j
  ·subst e
   simp[hk,hs]
  ·rw[if_neg e]
   by_cases h:j < k∧isStar (pAt p j)=true
   ·rw[if_pos h,if_pos ⟨by omega,h.2⟩]
   ·rw[if_neg h,if_neg (fun h2=>h ⟨by omega,h2.2⟩)]
 ·rw[List.getElem?_eq_none (by rw[trimL_len];omega),if_neg (by omega),List.getElem?_eq_none (by rw[trimL_len];omega)]
theorem trimL_lit {p m:Pat} {k:Nat} (hs:isStar (pAt p k)=false):trimL p m (k+1)=trimL p m k:=by
 apply List.ext_getElem?
 intro j
 by_cases hj:j < m.parts.length
 ·rw[trimL_get hj,trimL_get hj]
  congr 1
  by_cases h:j < k∧isStar (pAt p j)=true
  ·rw[if_pos h,if_pos ⟨by omega,h.2⟩]
  ·rw[if_neg h,if_neg (fun h2=>h ⟨by
    have:j≠k:=fun e=>by rw[e,hs] at h2;exact absurd h2.2 (by decide)
    omega,h2.2⟩)]
 ·rw[List.getElem?_eq_none (by rw[trimL_len];omega),List.getElem?_eq_none (by rw[trimL_len];omega)]
theorem trim_cap {x y:Str} (hs:isStar x=true) (h:inside y x=true) (hx:x≠[]):Lib.trimSuffix y x.tail=cap1 x y:=by
 have hm:=inside_mt h hx
 have h1:=((mtch_star_iff hs).1 hm).1
 unfold Lib.trimSuffix Lib.hasSuffix cap1
 rw[if_pos (List.isSuffixOf_iff_suffix.2 h1)]
theorem capsTo_star {p:Pat} {l:List Str} {k:Nat} (hs:isStar (pAt p k)=true):capsTo p l (k+1)=capsTo p l k++[cap1 (pAt p k) (l.getD k [])]:=by rw[capsTo_succ,if_pos hs]
theorem capsTo_lit {p:Pat} {l:List Str} {k:Nat} (hs:isStar (pAt p k)=false):capsTo p l (k+1)=capsTo p l k:=by rw[capsTo_succ,hs];simp
theorem bindP_len {p q m:Pat} (h:Inner p q m):(bindP p m).length=starN q+if q.rest then 1 else 0:=by
 rw[bindP_eq h.le,List.length_append,List.length_map,h.cl,h.tw.rs]
 unfold starN
 split <;> simp
/-! ### what Substitute lays in the place of the wildcards -/
theorem fillR_get:∀(xs cs:List Str) (j:Nat) (x:Str),xs[j]?=some x→(fillR xs cs)[j]?=some (if isStar x then cs.getD ((xs.take j).filter isStar).length []++x.tail else x)
 |[],_,j,x,h=>by simp at h
 |y :: ys,cs,0,x,h=>by
  obtain rfl:y=x:=by simpa using h
  rcases hs:isStar y with _ | _
  ·simp[fillR,hs]
  ·cases cs <;> simp[fillR,hs]
 |y :: ys,cs,j+1,x,h=>by
  have h':ys[j]?=some x:=by simpa using h
  rcases hs:isStar y with _ | _
  ·have:=fillR_get ys cs j x h'
   simp only[fillR,hs,Bool.false_eq_true,if_false,List.getElem?_cons_succ,List.take_succ_cons,List.filter_cons]
   exact this
  ·have:=fillR_get ys cs.tail j x h'
   simp only[fillR,hs,if_true,List.getElem?_cons_succ,List.take_succ_cons,List.filter_cons,List.length_cons]
   rw[this]
   congr 2
   cases cs with
   |nil=>simp
   |cons c cs=>simp
def fillTo (q:Pat) (cs:List Str) (k:Nat):List Str:=(List.range q.parts.length).map fun j=>if j < k∧isStar (pAt q j)=true then cs.getD (starTo q j) []++(pAt q j).tail else pAt q j
theorem fillTo_len (q:Pat) (cs:List Str) (k:Nat):(fillTo q cs k).length=q.parts.length:=by simp[fillTo]
theorem fillTo_get {q:Pat} {cs:List Str} {k j:Nat} (hj:j < q.parts.length):(fillTo q cs k)[j]?=some (if j < k∧isStar (pAt q j)=true then cs.getD (starTo q j) []++(pAt q j).tail else pAt q j):=by simp[fillTo,hj]
theorem fillTo_zero (q:Pat) (cs:List Str):fillTo q cs 0=q.parts:=by
 apply List.ext_getElem?
 intro j
 by_cases hj:j < q.parts.length
 ·rw[fillTo_get hj,pAt_get hj]
  simp
 ·rw[List.getElem?_eq_none (by rw[fillTo_len];omega),List.getElem?_eq_none (by omega)]
theorem fillTo_star {q:Pat} {cs:List Str} {k:Nat} (hs:isStar (pAt q k)=true) (hk:k < q.parts.length):fillTo q cs (k+1)=(fillTo q cs k).set k (cs.getD (starTo q k) []++(pAt q k).tail):=by
 apply List.ext_getElem?
 intro j
 rw[List.getElem?_set,fillTo_len]
 by_cases hj:j < q.parts.length
 ·rw[fillTo_get hj,fillTo_get hj]
  by_cases e:k=j
  ·subst e
   simp[hk,hs]
  ·rw[if_neg e]
   by_cases h:j < k∧isStar (pAt q j)=true
   ·rw[if_pos h,if_pos ⟨by omega,h.2⟩]
   ·rw[if_neg h,if_neg (fun h2=>h ⟨by omega,h2.2⟩)]
 ·rw[List.getElem?_eq_none (by rw[fillTo_len];omega),if_neg (by omega),List.getElem?_eq_none (by rw[fillTo_len];omega)]
theorem fillTo_lit {q:Pat} {cs:List Str} {k:Nat} (hs:isStar (pAt q k)=false):fillTo q cs (k+1)=fillTo q cs k:=by
 apply List.ext_getElem?
 intro j
 by_cases hj:j < q.parts.length
 ·rw[fillTo_get hj,fillTo_get hj]
  congr 1
  by_cases h:j < k∧isStar (pAt q j)=true
  ·rw[if_pos h,if_pos ⟨by omega,h.2⟩]
  ·rw[if_neg h,if_neg (fun h2=>h ⟨by
    have:j≠k:=fun e=>by rw[e,hs] at h2;exact absurd h2.2 (by decide)
    omega,h2.2⟩)]
 ·rw[List.getElem?_eq_none (by rw[fillTo_len];omega),List.getElem?_eq_none (by rw[fillTo_len];omega)]
theorem fillTo_end (q:Pat) (cs:List Str):fillTo q cs q.parts.length=fillR q.parts cs:=by
 apply List.ext_getElem?
 intro j
 by_cases hj:j < q.parts.length
 ·rw[fillTo_get hj,fillR_get q.parts cs j (pAt q j) (pAt_get hj)]
  congr 1
  by_cases h:isStar (pAt q j)=true
  ·rw[if_pos ⟨hj,h⟩,if_pos h]
   rfl
  ·rw[if_neg (fun h2=>h h2.2),if_neg h]
 ·rw[List.getElem?_eq_none (by rw[fillTo_len];omega),List.getElem?_eq_none (by rw[fillR_len];omega)]
theorem starTo_star {q:Pat} {k:Nat} (hs:isStar (pAt q k)=true) (hk:k < q.parts.length):starTo q (k+1)=starTo q k+1:=by
 unfold starTo
 rw[List.take_add_one,pAt_get hk,List.filter_append,List.length_append]
 simp[hs]
theorem starTo_lit {q:Pat} {k:Nat} (hs:isStar (pAt q k)=false) (hk:k < q.parts.length):starTo q (k+1)=starTo q k:=by
 unfold starTo
 rw[List.take_add_one,pAt_get hk,List.filter_append,List.length_append]
 simp[hs]
theorem starTo_lt {q:Pat} {k:Nat} (hs:isStar (pAt q k)=true) (hk:k < q.parts.length):starTo q k < starN q:=by
 have h1:=starTo_star hs hk
 have h2:starTo q (k+1)≤starN q:=by
  unfold starTo starN
  have:=List.Sublist.filter (p:=isStar) (List.take_sublist (k+1) q.parts)
  exact this.length_le
 omega
theorem starTo_end (q:Pat):starTo q q.parts.length=starN q:=by
 unfold starTo starN
 rw[List.take_length]
theorem bindP_cap {p q m:Pat} (h:Inner p q m) {t:Nat} (ht:t < starN q):(bindP p m)[t]?=some ⟨[(capsR p.parts m.parts).getD t []],false⟩:=by
 have hl:t < (capsR p.parts m.parts).length:=by rw[h.cl];exact ht
 rw[bindP_eq h.le,List.getElem?_append_left (by rw[List.length_map];exact hl),List.getElem?_map,getD_get hl]
 rfl
theorem bindP_last {p q m:Pat} (h:Inner p q m) (hr:q.rest=true):(bindP p m)[starN q]?=some ⟨m.parts.drop p.parts.length,m.rest⟩:=by
 have hl:(capsR p.parts m.parts).length=starN q:=h.cl
 rw[bindP_eq h.le,List.getElem?_append_right (by rw[List.length_map,hl];exact Nat.le_refl _),List.length_map,hl,h.tw.rs,hr,if_pos rfl,Nat.sub_self]
 rfl
theorem bindP_ok {p q m:Pat} (h:Inner p q m) {t:Nat} {b:Pat} (hb:(bindP p m)[t]?=some b):(t < starN q→b.parts.length=1∧b.rest=false)∧(b.parts.length=0→b.rest=true)∧∀x∈b.parts,partOk x=true:=by
 have hlt:=(List.getElem?_eq_some_iff.1 hb).1
 rw[bindP_len h] at hlt
 by_cases ht:t < starN q
 ·rw[bindP_cap h ht] at hb
  obtain rfl:=Option.some.inj hb
  refine⟨fun _=>⟨rfl,rfl⟩,fun e=>by simp at e,fun x hx=>?_⟩
  rw[List.mem_singleton] at hx
  subst hx
  have hl:t < (capsR p.parts m.parts).length:=by rw[h.cl];exact ht
  exact capsR_part _ _ h.mr (allOk_of h.good) _ (List.mem_of_getElem? (getD_get hl))
 ·have hr:q.rest=true:=by
   by_cases e:q.rest=true
   ·exact e
   ·rw[if_neg e] at hlt
    omega
  rw[if_pos hr] at hlt
  obtain rfl:t=starN q:=by omega
  rw[bindP_last h hr] at hb
  obtain rfl:=Option.some.inj hb
  refine⟨fun h=>absurd h ht,fun e=>?_,fun x hx=>allOk_of h.good x (List.mem_of_mem_drop hx)⟩
  have e:(m.parts.drop p.parts.length).length=0:=e
  rw[List.length_drop] at e
  rcases hm:m.rest with _ | _
  ·have:=h.yesrest hr hm
   omega
  ·rfl
end Go.Proofs.YtcofdlipapnohaaGreatDoor.Sy
namespace Go.Proofs.YtcofdlipapnohaaGreatDoor
open Go Go.RowKit Sy
theorem info_bind:(Tryz.prog.info? 369).map (fun i=>(i.zero,i.size,i.bytes))=some (some (.agg #[.slice none 0 0,.bool false]),2,32):=by kernel_rfl
def BindsR (w:World) (A:Option Addr) (bs:List Pat):Prop:=∃ys:List NewP,ys.map (·.p)=bs∧ReadX encP 2 w A ys∧∀y∈ys,PatA w y.A y.c y.p
theorem BindsR.calm {w w':World} {A:Option Addr} {bs:List Pat} (h:BindsR w A bs) (hc:Calm w w'):BindsR w' A bs:=by
 obtain⟨ys,h1,h2,h3⟩:=h
 exact⟨ys,h1,h2.calm hc,fun y hy=>(h3 y hy).calm hc⟩
theorem BindsR.get {w:World} {A:Option Addr} {bs:List Pat} (h:BindsR w A bs) {k:Nat} (hk:k < bs.length):∃(b o:Nat) (y:NewP),A=some ⟨b,o,none⟩∧b < w.heap.size∧bs[k]?=some y.p∧w.cell? ⟨b,o+k * 2,none⟩=some (.slice y.A y.p.parts.length y.c)∧w.cell? ⟨b,o+k * 2+1,none⟩=some (.bool y.p.rest)∧PatA w y.A y.c y.p:=by
 obtain⟨ys,rfl,h2,h3⟩:=h
 rw[List.length_map] at hk
 obtain⟨b,o,hA,hb,hc⟩:=h2 (fun e=>by rw[e] at hk;simp at hk)
 have hy:=List.getElem?_eq_getElem hk
 have e0:=hc k _ hy 0 _ rfl
 have e1:=hc k _ hy 1 _ rfl
 exact⟨b,o,ys[k],hA,hb,by rw[List.getElem?_map,hy];rfl,e0,e1,h3 _ (List.mem_of_getElem? hy)⟩
def CapsAt (T o:Nat) (p m:Pat) (k:Nat) (ys:List NewP):Prop:=ys.map (·.p)=(capsTo p m.parts k).map (fun c=>(⟨[c],false⟩:Pat))∧∀y∈ys,∃j,j < k∧isStar (pAt p j)=true∧y=⟨some ⟨T,o+j,none⟩,1,⟨[cap1 (pAt p j) (m.parts.getD j [])],false⟩⟩
theorem CapsAt.nil (T o:Nat) (p m:Pat):CapsAt T o p m 0 []:=⟨rfl,fun y hy=>by cases hy⟩
theorem CapsAt.lit {T o:Nat} {p m:Pat} {k:Nat} {ys:List NewP} (h:CapsAt T o p m k ys) (hs:isStar (pAt p k)=false):CapsAt T o p m (k+1) ys:=⟨by rw[capsTo_lit hs];exact h.1,fun y hy=>by
 obtain⟨j,hj,e⟩:=h.2 y hy
 exact⟨j,by omega,e⟩⟩
theorem CapsAt.star {T o:Nat} {p m:Pat} {k:Nat} {ys:List NewP} (h:CapsAt T o p m k ys) (hs:isStar (pAt p k)=true):CapsAt T o p m (k+1) (ys++[⟨some ⟨T,o+k,none⟩,1,⟨[cap1 (pAt p k) (m.parts.getD k [])],false⟩⟩]):=⟨by rw[capsTo_star hs,List.map_append,List.map_append,h.1];rfl,fun y hy=>by
 rcases List.mem_append.1 hy with hy | hy
 ·obtain⟨j,hj,e⟩:=h.2 y hy
  exact⟨j,by omega,e⟩
 ·rw[List.mem_singleton] at hy
  exact⟨k,by omega,hs,hy⟩⟩
theorem CapsAt.len {T o:Nat} {p m:Pat} {k:Nat} {ys:List NewP} (h:CapsAt T o p m k ys):ys.length≤k:=by
 have:=congrArg List.length h.1
 rw[List.length_map,List.length_map] at this
 have:=capsTo_length p m.parts k
 omega
theorem texts_pat {w:World} {B T o c:Nat} {p m:Pat} {k j:Nat} (h:NewS w B (some ⟨T,o,none⟩) c (trimL p m k)) (hj:j < k) (hs:isStar (pAt p j)=true) (hm:j < m.parts.length) (hl:∀x∈m.parts,x.length≤16384):PatA w (some ⟨T,o+j,none⟩) 1 ⟨[cap1 (pAt p j) (m.parts.getD j [])],false⟩:=by
 obtain⟨b,o',hA,hb,hk⟩:=h.u.at_ (by rw[trimL_len];omega)
 obtain⟨rfl,rfl⟩:T=b∧o=o':=by simpa using hA
 have h1:=hk j _ (trimL_get hm)
 rw[if_pos ⟨hj,hs⟩] at h1
 refine⟨⟨by show 1≤_;decide,fun l hx=>?_,fun _=>⟨T,o+j,rfl,hb,fun i l hi=>?_⟩⟩,Nat.le_refl 1,by omega⟩
 ·rw[List.mem_singleton] at hx
  subst hx
  have h2:=hl _ (List.mem_of_getElem? (getD_get hm))
  unfold cap1
  rw[List.length_take]
  omega
 ·have h0:i=0:=by
   have:=(List.getElem?_eq_some_iff.1 hi).1
   simp at this
   exact this
  subst h0
  obtain rfl:cap1 (pAt p j) (m.parts.getD j [])=l:=by simpa using hi
  exact h1
theorem texts_rest {w:World} {B T o c n:Nat} {p m:Pat} (A:Option Addr) (d:Nat) (h:NewS w B (some ⟨T,o,none⟩) c (trimL p m n)) (hn:p.parts.length=n) (hA:n < m.parts.length→A=some ⟨T,o+n,none⟩) (hl:∀x∈m.parts,x.length≤16384) (hml:m.parts.length≤16384) (hd:m.parts.length - n≤d) (hd2:d≤9223372036854775807):PatA w A d ⟨m.parts.drop n,m.rest⟩:=by
 refine⟨⟨by show (m.parts.drop n).length≤_;rw[List.length_drop];omega,fun l hx=>hl l (List.mem_of_mem_drop hx),fun h0=>?_⟩,by show (m.parts.drop n).length≤_;rw[List.length_drop];exact hd,hd2⟩
 have h0:0 < (m.parts.drop n).length:=h0
 rw[List.length_drop] at h0
 obtain⟨b,o',hA2,hb,hk⟩:=h.u.at_ (by rw[trimL_len];omega)
 obtain⟨rfl,rfl⟩:T=b∧o=o':=by simpa using hA2
 refine⟨T,o+n,hA (by omega),hb,fun i l hi=>?_⟩
 have hi2:(m.parts.drop n)[i]?=some l:=hi
 rw[List.getElem?_drop] at hi2
 have hlt:=(List.getElem?_eq_some_iff.1 hi2).1
 have h1:=hk (n+i) _ (trimL_get hlt)
 rw[if_neg (fun h=>by omega),List.getD_eq_getElem?_getD,hi2] at h1
 rw[Nat.add_assoc]
 exact h1
def encS (x:Str):List Value:=[.string (bs x)]
theorem encS_len (x:Str):(encS x).length=1:=rfl
theorem encS_one (x:Str):∀u∈encS x,u.oneCell'=true:=by simp[encS,Value.oneCell']
theorem encs_S:∀l:List Str,encs encS l=strCells l
 |[]=>rfl
 |x :: l=>by
  have:=encs_S l
  unfold encs strCells at this ⊢
  rw[List.flatMap_cons,List.map_cons,this]
  rfl
theorem OwnX.putS {w0 w:World} {g n c k:Nat} {ls:List Str} (h:OwnX encS 1 9 w0 w (.slice (some ⟨g,0,none⟩) n c) ls) (hn:ls.length=n) (z:Str):OwnX encS 1 9 w0 (w.setCell ⟨g,k,none⟩ (.string (bs z))) (.slice (some ⟨g,0,none⟩) n c) (ls.set k z):=by
 subst hn
 have hg:w0.heap.size≤g:=by
  rcases h.own.2 with⟨e,_⟩ | ⟨g',cap',cur,e,hb,_⟩
  ·simp at e
  ·simp only[Value.slice.injEq,Option.some.injEq,Addr.mk.injEq,and_true,true_and] at e
   obtain⟨rfl,_⟩:=e
   exact hb
 refine⟨Below.setCell h.calm (p:=⟨g,k,none⟩) hg _,?_⟩
 have h2:=(World.ownsRow.stored h.own k (.string (bs z))).1
 rw[encs_S] at h2
 rw[encs_S,List.length_set]
 have e:strCells (ls.set k z)=(strCells ls).set k (.string (bs z)):=by
  unfold strCells
  rw[List.map_set]
 rw[e]
 exact h2
theorem clone_own (ls:List Str) (A:Option Addr) (n c:Nat) (w:World) (hr:StrsU w A ls) (hn:ls.length=n) (h0:0 < n) :
  Calls Tryz.prog 118 #[.slice A n c] w fun e w'=>(∃g c2,e=.returned (.slice (some ⟨g,0,none⟩) n c2)∧OwnX encS 1 9 w w' (.slice (some ⟨g,0,none⟩) n c2) ls∧n≤c2∧c2≤9223372036854775807)∧Calm w w':=by
 subst hn
 obtain⟨b,o,rfl,hb,hk⟩:=hr.at_ h0
 have hlen:=hr.len
 exact (Tryz.slices_Clone_string b o ls.length c (ls.map bs) w (by simp) (by omega) (fun j hj=>by
  rw[List.length_map] at hj
  rw[hk j _ (List.getElem?_eq_getElem hj)]
  simp[List.getD_eq_getElem?_getD,hj])).mono fun e w' ⟨v',h1,h2,_,h3⟩=>by
   have e1:((ls.map bs).take ls.length).map Value.string=strCells ls:=by
    rw[List.take_of_length_le (by simp),List.map_map]
    rfl
   rw[e1] at h2
   have ho:OwnX encS 1 9 w w' v' ls:=⟨h3,by rw[encs_S];exact h2⟩
   refine⟨?_,h3⟩
   rcases ho.row encS_len with⟨_,e0⟩ | ⟨g,c2,rfl,g1,g2,_,_⟩
   ·subst e0
    exact absurd h0 (by simp)
   ·exact⟨g,c2,h1,ho,g1,g2⟩
theorem OwnX.strsU {w0 w:World} {A:Option Addr} {n c:Nat} {ls:List Str} (h:OwnX encS 1 9 w0 w (.slice A n c) ls) (h1:ls.length≤1048576) (h2:∀l∈ls,l.length≤1048576):NewS w w0.heap.size A c ls:=by
 obtain⟨A2,c2,e,h3⟩:=own_newS (by have:=h.own;rw[encs_S] at this;exact this) h1 h2
 obtain⟨rfl,_,rfl⟩:A=A2∧n=ls.length∧c=c2:=by simpa using e
 exact h3
theorem OwnX.cellS {w0 w:World} {g n c k:Nat} {ls:List Str} {x:Str} (h:OwnX encS 1 9 w0 w (.slice (some ⟨g,0,none⟩) n c) ls) (hx:ls[k]?=some x):w.cell? ⟨g,k,none⟩=some (.string (bs x))∧w.frozen? ⟨g,k,none⟩=false∧g < w.heap.size∧w0.heap.size≤g:=by
 rcases h.row encS_len with⟨e,_⟩ | ⟨g',c',e,_,_,h3,hr⟩
 ·simp at e
 ·obtain⟨rfl,_⟩:g=g'∧n=ls.length∧c=c':=by simpa using e
  have:=hr.cell k x hx 0 _ rfl
  have e2:0+k * 1+0=k:=by omega
  rw[e2] at this
  exact⟨this,hr.free k,hr.lt,h3⟩
theorem OwnX.kindne {α:Type} {enc:α→List Value} {K:Nat} {T T':TypeId} {w0 w:World} {v:Value} {l:List α} (h:OwnX enc K T w0 w v l) {b:Nat} (hT:T'≠T) (hk:∃cs,w.heap[b]?=some (.cells cs T' (0,0))):some b≠v.ownBlock:=fun e=>by
 obtain⟨cs,hh⟩:=hk
 rcases h.own.2 with⟨rfl,_⟩ | ⟨g,cap,cur,rfl,_,hgh,_⟩
 ·simp[Value.ownBlock] at e
 ·have e2:b=g:=by simpa[Value.ownBlock] using e
  rw[e2,hgh] at hh
  injection hh with hh
  injection hh with _ ht
  exact hT ht.symm
theorem OwnX.setX {α:Type} {enc:α→List Value} {K:Nat} {T:TypeId} {w0 w:World} {v:Value} {l:List α} (h:OwnX enc K T w0 w v l) {p:Addr} (u:Value) (hge:w0.heap.size≤p.block) (hne:some p.block≠v.ownBlock):OwnX enc K T w0 (w.setCell p u) v l:=by
 refine⟨Below.setCell h.calm hge _,h.own.1,?_⟩
 rcases h.own.2 with h2 | ⟨g,cap,cur,hv,hg,hh,r⟩
 ·exact .inl h2
 ·refine .inr ⟨g,cap,cur,hv,hg,?_,r⟩
  rw[Deep.blk_setCell_other _ _ _ _ (fun e=>hne (by rw[←e,hv];rfl))]
  exact hh
theorem read_newB {w:World} {n:Nat} (y:NewP) {m:Nat} {r:Bool} (h:w.heap.size=n) (hm:y.p.parts.length=m) (hr:y.p.rest=r):ReadX encP 2 (w.alloc (.cells #[.slice y.A m y.c,.bool r] 369)) (some ⟨n,0,none⟩) [y]:=fun _=>by
 refine⟨n,0,rfl,by rw[←h];simp[go_sem],fun k x hk i u hu=>?_⟩
 have h0:k=0:=by
  have:=(List.getElem?_eq_some_iff.1 hk).1
  simp at this
  exact this
 subst h0
 obtain rfl:y=x:=by simpa using hk
 subst h hm hr
 rw[cell_of_row _ w.heap.size _ _ _ _ (heap_alloc_new w _)]
 simpa[encP] using hu
theorem bs_drop1 (p:Str) (n:Nat) (hn:n=p.length):(bs p).extract 1 n=bs p.tail:=by
 subst hn
 apply ByteArray.ext
 simp only[bs,ByteArray.data_extract]
 apply Array.ext'
 simp only[Array.toList_extract,List.extract_eq_take_drop]
 rw[List.take_of_length_le (by simp),List.drop_one]
set_option maxHeartbeats 2000000 in
theorem within_p (p q:Pat) (n m c c':Nat) (re rf:Bool) (A A':Option Addr) (w:World) (hp:PatA w A c p) (hq:PatA w A' c' q) (ep:patErr p=0) (eq:patErr q=0) (hn:p.parts.length=n) (hm:q.parts.length=m) (hre:p.rest=re) (hrf:q.rest=rf) (hv:insideP p q=true) :
  Calls Tryz.prog 274 #[.agg #[.slice A n c,.bool re],.agg #[.slice A' m c',.bool rf]] w fun e w'=>e=.returned (.bool true)∧Calm w w':=by
 obtain⟨w1,hw1⟩:∃w1,w1=(w.alloc (.cells #[.slice A n c,.bool re] 65)).alloc (.cells #[.slice A' m c',.bool rf] 65):=⟨_,rfl⟩
 have hc1:Calm w w1:=by rw[hw1];exact ((Calm.refl w).alloc _).alloc _
 have hbox:BoxP w1 w.heap.size A n c re A' m c' rf:=by
  rw[hw1]
  exact⟨by simp,by simp[go_sem],by simp[go_sem],by simp[go_sem],by simp[go_sem]⟩
 have KP:Hid (∀W,Calm w1 W→Calls Tryz.prog 197 #[.agg #[.slice A n c,.bool re]] W fun e w'=>e=.returned (.int .i64 0)∧Calm W w'):=fun W hW=>checkA_c p n c re A W ((hp.calm hc1).calm hW) ep hn hre
 have KQ:Hid (∀W,Calm w1 W→Calls Tryz.prog 197 #[.agg #[.slice A' m c',.bool rf]] W fun e w'=>e=.returned (.int .i64 0)∧Calm W w'):=fun W hW=>checkA_c q m c' rf A' W ((hq.calm hc1).calm hW) eq hm hrf
 have KI:Hid (∀W,Calm w1 W→Calls Tryz.prog 207 #[.agg #[.slice A n c,.bool re],.agg #[.slice A' m c',.bool rf]] W fun e w'=>e=.returned (.bool true)∧Calm W w'):=fun W hW=>inside_c p q true n m c c' re rf A A' W ((hp.calm hc1).calm hW) ((hq.calm hc1).calm hW) hn hm hre hrf hv
 have HW:=Lib.hid hw1
 have HC:=Lib.hid hc1
 have HB:=Lib.hid hbox
 clear hw1 hc1 hbox hp hq ep eq hn hm hre hrf hv
 go_enter Tryz.func274,Tryz.ntmps274
 go_wp2_with fail
 rw[←HW.out]
 refine (KP.out w1 (Calm.refl _)).mono ?_
 rintro e w2 ⟨rfl,hc2⟩
 have b2:=HB.out.calm hc2
 have y0:=b2.y0
 have y1:=b2.y1
 clear b2
 go_wp2_with fail
 refine (KQ.out w2 hc2).mono ?_
 rintro e w3 ⟨rfl,hc3⟩
 have b3:=HB.out.calm (hc2.trans hc3)
 have x0:=b3.x0
 have x1:=b3.x1
 have y0:=b3.y0
 have y1:=b3.y1
 clear b3
 go_wp2_with (go_at_call 207;refine (KI.out w3 (hc2.trans hc3)).mono ?_;rintro e w4 ⟨rfl,hc4⟩)
 go_ret
 exact⟨rfl,HC.out.trans (hc2.trans (hc3.trans hc4))⟩
theorem formI_ok {l:Str} (h:partOk l=true):formI l=1∨formI l=2:=by
 unfold partOk at h
 unfold formI
 rw[Bool.or_eq_true] at h
 rcases hc:comp l with _ | _
 ·rw[hc] at h
  rcases h with h | h
  ·cases h
  ·rw[h];exact .inr rfl
 ·exact .inl rfl
set_option maxHeartbeats 4000000 in
theorem isBind_c (b:Pat) (last:Bool) (n c:Nat) (re:Bool) (A:Option Addr) (w:World) (hb:PatA w A c b) (hn:b.parts.length=n) (hre:b.rest=re) (h1:last=false→n=1∧re=false) (h2:n=0→re=true) (h3:∀x∈b.parts,partOk x=true) :
  Calls Tryz.prog 276 #[.agg #[.slice A n c,.bool re],.bool last] w fun e w'=>e=.returned (.bool true)∧Calm w w':=by
 have hnl:=hb.r.len
 rw[hn] at hnl
 obtain⟨w1,hw1⟩:∃w1,w1=w.alloc (.cells #[.slice A n c,.bool re] 369):=⟨_,rfl⟩
 have hc1:Calm w w1:=by rw[hw1];exact (Calm.refl w).alloc _
 have HW:=Lib.hid hw1
 have HC:=Lib.hid hc1
 have HN:=Lib.hid hn
 have HP:=Lib.hid (hb.r.calm hc1)
 have HO:=Lib.hid h3
 have tail:∀(_:True),True:=fun _=>trivial
 clear hw1 hc1 hb hn hre h3 tail
 have key:(last=false∧n=1∧re=false)∨(last=true∧n=0∧re=true)∨(last=true∧0 < n):=by
  cases last with
  |false=>exact .inl ⟨rfl,h1 rfl⟩
  |true=>
   rcases Nat.eq_zero_or_pos n with e | e
   ·exact .inr (.inl ⟨rfl,e,h2 e⟩)
   ·exact .inr (.inr ⟨rfl,e⟩)
 clear h1 h2
 rcases key with⟨rfl,rfl,rfl⟩ | ⟨rfl,rfl,rfl⟩ | ⟨rfl,hn0⟩
 ·obtain⟨g,o,x,rfl,hg,hx,hxl,hcx⟩:=HP.out.toU.get (k:=0) (by rw[HN.out];decide)
  rw[Nat.add_zero] at hcx
  have hf:=formI_ok (HO.out x (List.mem_of_getElem? hx))
  obtain⟨f,hfx⟩:∃f,formI x=f:=⟨_,rfl⟩
  have KFo:Hid (∀W,Calls Tryz.prog 232 #[.string (bs x)] W fun e w'=>e=.returned (.int .i64 f)∧W=w'):=fun W=>form_v x f W (by omega) hfx
  rw[hfx] at hf
  have hf0:(f == 0)=false:=by rcases hf with rfl | rfl <;> rfl
  have hf0n:¬f=0:=by omega
  clear hx hfx hf
  go_enter Tryz.func276,Tryz.ntmps276
  go_wp2_with fail
  rw[←HW.out]
  go_loopw [33] (fun q wr=>∃k:Nat,k≤1∧q=.int .i64 k∧Hid (wr=w1)) (fun q _=>1 - (intOf q).toNat)
  case atStart=>exact⟨0,by omega,rfl,rfl⟩
  case round=>
   obtain⟨k,hk,rfl,HQ⟩:=hrel
   obtain rfl:=HQ.out
   by_cases hlt:k < 1
   ·obtain rfl:k=0:=by omega
    go_wp2_with (go_at_call 232;refine (KFo.out _).mono ?_;rintro e w4 ⟨rfl,rfl⟩)
    go_roundw
    case rel=>exact⟨1,by omega,rfl,(by first | exact rfl | exact True.intro)⟩
    case measure=>simp[intOf]
   ·obtain rfl:k=1:=by omega
    go_wp2_with fail
    go_ret
    exact⟨rfl,HC.out⟩
 ·go_enter Tryz.func276,Tryz.ntmps276
  go_wp2_with fail
  rw[←HW.out]
  go_loopw [33] (fun q wr=>q=.int .i64 0∧Hid (wr=w1)) (fun q _=>0)
  case atStart=>exact⟨rfl,rfl⟩
  case round=>
   obtain⟨rfl,HQ⟩:=hrel
   obtain rfl:=HQ.out
   go_wp2_with fail
   go_ret
   exact⟨rfl,HC.out⟩
 ·have hn1:¬n=0:=by omega
  have hnb:((n:Int) == 0)=false:=by rw[beq_eq_false_iff_ne];omega
  have hlen:Hid (b.parts.length=n):=HN
  go_enter Tryz.func276,Tryz.ntmps276
  go_wp2_with fail
  rw[←HW.out]
  go_loopw [33] (fun q wr=>∃k:Nat,k≤n∧q=.int .i64 k∧Hid (wr=w1)) (fun q _=>n - (intOf q).toNat)
  case atStart=>exact⟨0,by omega,rfl,rfl⟩
  case round=>
   obtain⟨k,hk,rfl,HQ⟩:=hrel
   obtain rfl:=HQ.out
   by_cases hlt:k < n
   ·obtain⟨g,o,x,rfl,hg,hx,hxl,hcx⟩:=HP.out.toU.get (k:=k) (by rw[HN.out];exact hlt)
    have hf:=formI_ok (HO.out x (List.mem_of_getElem? hx))
    obtain⟨f,hfx⟩:∃f,formI x=f:=⟨_,rfl⟩
    have KFo:Hid (∀W,Calls Tryz.prog 232 #[.string (bs x)] W fun e w'=>e=.returned (.int .i64 f)∧W=w'):=fun W=>form_v x f W (by omega) hfx
    rw[hfx] at hf
    have hf0:(f == 0)=false:=by rcases hf with rfl | rfl <;> rfl
    have hf0n:¬f=0:=by omega
    clear hx hfx hf
    go_wp2_with (go_at_call 232;refine (KFo.out _).mono ?_;rintro e w4 ⟨rfl,rfl⟩)
    go_roundw
    case rel=>exact⟨k+1,by omega,by go_num,(by first | exact rfl | exact True.intro)⟩
    case measure=>simp[intOf];omega
   ·obtain rfl:k=n:=by omega
    go_wp2_with fail
    go_ret
    exact⟨rfl,HC.out⟩
end Go.Proofs.YtcofdlipapnohaaGreatDoor
