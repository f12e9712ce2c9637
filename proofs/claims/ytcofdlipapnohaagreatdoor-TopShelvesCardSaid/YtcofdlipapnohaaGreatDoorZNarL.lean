/- Narrowed lines: what becomes of the other side. No program in sight. -/
import Derived.Test.YtcofdlipapnohaaGreatDoorZMeetL
import Derived.Test.YtcofdlipapnohaaGreatDoorZStrLaw
set_option linter.unusedVariables false
set_option linter.unusedSimpArgs false
namespace Go.Proofs.YtcofdlipapnohaaGreatDoor.Sy
theorem star_app {c t:Str} (hc:c≠[]):isStar (c++t)=isStar c:=by
 cases c with
 |nil=>exact absurd rfl hc
 |cons x s=>rfl
theorem inside_mt {x y:Str} (h:inside y x=true) (hx:x≠[]):mtch x y=true:=by
 rcases hs:isStar x with _ | _
 ·rcases inside_iff.1 h with rfl | ⟨h1,_⟩
  ·exact (mtch_lit_iff hs).2 rfl
  ·rw[hs] at h1;cases h1
 ·refine (mtch_star_iff hs).2 ?_
  rcases inside_iff.1 h with rfl | ⟨_,⟨hy,h2⟩ | ⟨_,h2,h3⟩⟩
  ·exact⟨List.tail_suffix _,by have:=congrArg List.length (star_text hs);simp only[List.length_cons] at this;omega⟩
  ·have e:=star_text hy
   refine⟨h2.trans (List.tail_suffix _),?_⟩
   have:=h2.length_le
   have h4:=congrArg List.length e
   simp only[List.length_cons] at h4
   omega
  ·exact⟨h2,h3⟩
theorem cap1_ne {x y:Str} (hs:isStar x=true) (h:mtch x y=true):cap1 x y≠[]:=fun e=>by
 have h1:=cap1_tail hs h
 have h2:=((mtch_star_iff hs).1 h).2
 rw[e,List.nil_append] at h1
 rw[h1] at h2
 omega
theorem cap1_star {x y:Str} (hs:isStar x=true) (h:mtch x y=true):isStar (cap1 x y)=isStar y:=by
 rw[←star_app (t:=x.tail) (cap1_ne hs h),cap1_tail hs h]
def inR:List Str→List Str→Bool
 |[],_=>true
 |x :: xs,c :: cs=>inside c x && inR xs cs
 |_ :: _,[]=>false
theorem inR_mR:∀{ps ms:List Str},(∀x∈ps,x≠[])→inR ps ms=true→mR ps ms=true
 |[],ms,_,_=>by cases ms <;> rfl
 |x :: xs,[],_,h=>by cases h
 |x :: xs,c :: cs,hp,h=>by
  rw[inR,Bool.and_eq_true] at h
  rw[mR,inside_mt h.1 (hp x (by simp)),inR_mR (fun y hy=>hp y (by simp[hy])) h.2]
  rfl
theorem inR_of:∀{ps ms:List Str} {r s:Bool},ps.length≤ms.length→(∀j,j < ps.length→inside (pAt ⟨ms,s⟩ j) (pAt ⟨ps,r⟩ j)=true)→inR ps ms=true
 |[],ms,_,_,_,_=>by cases ms <;> rfl
 |x :: xs,[],_,_,h,_=>by simp at h
 |x :: xs,c :: cs,r,s,hl,h=>by
  rw[inR,Bool.and_eq_true]
  exact⟨h 0 (by simp),inR_of (r:=r) (s:=s) (by simpa using hl) (fun j hj=>h (j+1) (by simpa using hj))⟩
theorem inR_at:∀{ps ms:List Str} {r s:Bool},inR ps ms=true→∀j,j < ps.length→inside (pAt ⟨ms,s⟩ j) (pAt ⟨ps,r⟩ j)=true
 |[],ms,_,_,_,j,hj=>by simp at hj
 |x :: xs,[],_,_,h,_,_=>by cases h
 |x :: xs,c :: cs,r,s,h,j,hj=>by
  rw[inR,Bool.and_eq_true] at h
  match j with
  |0=>exact h.1
  |j+1=>exact inR_at (r:=r) (s:=s) h.2 j (by simpa using hj)
theorem insideP_inR {m p:Pat} (h:insideP m p=true):p.parts.length≤m.parts.length∧inR p.parts m.parts=true:=by
 unfold insideP at h
 rw[Bool.and_eq_true] at h
 have h1:p.parts.length≤m.parts.length:=by
  rcases lenIn_iff.1 h.1 with h | h | h <;> omega
 exact⟨h1,inR_of (r:=p.rest) (s:=m.rest) h1 (fun j hj=>List.all_eq_true.1 h.2 j (List.mem_range.2 hj))⟩
theorem insideP_of {m p:Pat} (h1:lenIn m p=true) (h2:inR p.parts m.parts=true):insideP m p=true:=by
 unfold insideP
 rw[h1,Bool.true_and,List.all_eq_true]
 exact fun j hj=>inR_at (r:=p.rest) (s:=m.rest) h2 j (List.mem_range.1 hj)
/-! ### captures that may be wildcards -/
theorem capsR_ne:∀(ps l:List Str),mR ps l=true→∀c∈capsR ps l,c≠[]
 |[],l,_,c,hc=>by cases l <;> simp[capsR] at hc
 |x :: xs,[],h,_,_=>by cases h
 |x :: xs,y :: ys,h,c,hc=>by
  rw[mR,Bool.and_eq_true] at h
  rw[capsR] at hc
  rcases hs:isStar x with _ | _
  ·rw[hs] at hc
   exact capsR_ne xs ys h.2 c (by simpa using hc)
  ·rw[hs] at hc
   simp only[if_true,List.mem_cons] at hc
   rcases hc with rfl | hc
   ·exact cap1_ne hs h.1
   ·exact capsR_ne xs ys h.2 c hc
theorem fill_in:∀(qs cs r:List Str),cs.length=(qs.filter isStar).length→(∀c∈cs,c≠[])→inR qs (fillR qs cs++r)=true
 |[],cs,r,h,_=>rfl
 |x :: xs,cs,r,h,hc=>by
  rcases hs:isStar x with _ | _
  ·have h':cs.length=(xs.filter isStar).length:=by simpa[List.filter_cons,hs] using h
   simp only[fillR,hs,Bool.false_eq_true,if_false,List.cons_append,inR,inside_refl,Bool.true_and]
   exact fill_in xs cs r h' hc
  ·cases cs with
   |nil=>simp[List.filter_cons,hs] at h
   |cons c cs=>
    have h':cs.length=(xs.filter isStar).length:=by simpa[List.filter_cons,hs] using h
    have ih:=fill_in xs cs r h' (fun d hd=>hc d (by simp[hd]))
    simp only[fillR,hs,if_true,List.headD_cons,List.tail_cons,List.cons_append,inR,ih,Bool.and_true]
    have hne:=hc c (by simp)
    refine inside_iff.2 (.inr ⟨hs,?_⟩)
    rcases hcs:isStar c with _ | _
    ·refine .inr ⟨by rw[star_app hne];exact hcs,List.suffix_append _ _,?_⟩
     have:0 < c.length:=List.length_pos_iff.2 hne
     rw[List.length_append]
     omega
    ·refine .inl ⟨by rw[star_app hne];exact hcs,?_⟩
     have e:=star_text hcs
     rw[e,List.cons_append,List.tail_cons]
     exact List.suffix_append _ _
theorem part_cap {c t:Str} (hc:partOk c=true) (ht:t.all isByte=true):partOk (c++t)=true:=by
 have hne:c≠[]:=partOk_ne hc
 rcases hs:isStar c with _ | _
 ·have:=comp_app (partOk_comp hc hs) ht
  simp[partOk,this]
 ·have h1:=partOk_star hc hs
  have e:=star_text hs
  rw[e,List.cons_append]
  simp[partOk,starOk,h1,ht]
theorem fill_part:∀(qs cs:List Str),(∀x∈qs,partOk x=true)→cs.length=(qs.filter isStar).length→(∀c∈cs,partOk c=true)→∀x∈fillR qs cs,partOk x=true
 |[],cs,_,_,_,x,hx=>by simp[fillR] at hx
 |y :: ys,cs,hq,h,hc,x,hx=>by
  have hy:=hq y (by simp)
  rcases hs:isStar y with _ | _
  ·have h':cs.length=(ys.filter isStar).length:=by simpa[List.filter_cons,hs] using h
   simp only[fillR,hs,Bool.false_eq_true,if_false,List.mem_cons] at hx
   rcases hx with rfl | hx
   ·exact hy
   ·exact fill_part ys cs (fun y hy=>hq y (by simp[hy])) h' hc x hx
  ·cases cs with
   |nil=>simp[List.filter_cons,hs] at h
   |cons c cs=>
    have h':cs.length=(ys.filter isStar).length:=by simpa[List.filter_cons,hs] using h
    simp only[fillR,hs,if_true,List.headD_cons,List.tail_cons,List.mem_cons] at hx
    rcases hx with rfl | hx
    ·exact part_cap (hc c (by simp)) (partOk_star hy hs)
    ·exact fill_part ys cs (fun y hy=>hq y (by simp[hy])) h' (fun d hd=>hc d (by simp[hd])) x hx
theorem partOk_take {y:Str} (hy:partOk y=true) {k:Nat} (hk:0 < k):partOk (y.take k)=true:=by
 rcases hs:isStar y with _ | _
 ·have:=comp_take_ (partOk_comp hy hs) hk
  simp[partOk,this]
 ·have h1:=partOk_star hy hs
  rw[star_text hs]
  cases k with
  |zero=>omega
  |succ k=>
   have h2:(y.tail.take k).all isByte=true:=List.all_eq_true.2 fun b hb=>List.all_eq_true.1 h1 b (List.mem_of_mem_take hb)
   simp only[List.take_succ_cons,partOk,starOk,h2]
   simp
theorem capsR_part:∀(ps l:List Str),mR ps l=true→(∀x∈l,partOk x=true)→∀c∈capsR ps l,partOk c=true
 |[],l,_,_,c,hc=>by cases l <;> simp[capsR] at hc
 |x :: xs,[],h,_,_,_=>by cases h
 |x :: xs,y :: ys,h,hl,c,hc=>by
  rw[mR,Bool.and_eq_true] at h
  rw[capsR] at hc
  rcases hs:isStar x with _ | _
  ·rw[hs] at hc
   exact capsR_part xs ys h.2 (fun z hz=>hl z (by simp[hz])) c (by simpa using hc)
  ·rw[hs] at hc
   simp only[if_true,List.mem_cons] at hc
   rcases hc with rfl | hc
   ·exact partOk_take (hl y (by simp)) (by have:=((mtch_star_iff hs).1 h.1).2;omega)
   ·exact capsR_part xs ys h.2 (fun z hz=>hl z (by simp[hz])) c hc
theorem fill_stars:∀(qs cs:List Str),cs.length=(qs.filter isStar).length→(∀c∈cs,c≠[])→((fillR qs cs).filter isStar).length=(cs.filter isStar).length
 |[],cs,h,_=>by
  have:cs=[]:=List.eq_nil_of_length_eq_zero (by simpa using h)
  subst this
  rfl
 |x :: xs,cs,h,hc=>by
  rcases hs:isStar x with _ | _
  ·have h':cs.length=(xs.filter isStar).length:=by simpa[List.filter_cons,hs] using h
   have ih:=fill_stars xs cs h' hc
   simp only[fillR,hs,Bool.false_eq_true,if_false,List.filter_cons,ih]
  ·cases cs with
   |nil=>simp[List.filter_cons,hs] at h
   |cons c cs=>
    have h':cs.length=(xs.filter isStar).length:=by simpa[List.filter_cons,hs] using h
    have ih:=fill_stars xs cs h' (fun d hd=>hc d (by simp[hd]))
    simp only[fillR,hs,if_true,List.headD_cons,List.tail_cons,List.filter_cons,star_app (hc c (by simp))]
    split <;> simp[ih]
theorem caps_stars:∀(ps l:List Str),inR ps l=true→mR ps l=true→((capsR ps l).filter isStar).length=((l.take ps.length).filter isStar).length
 |[],l,_,_=>by cases l <;> simp[capsR]
 |x :: xs,[],h,_=>by cases h
 |x :: xs,y :: ys,h,hm=>by
  rw[inR,Bool.and_eq_true] at h
  rw[mR,Bool.and_eq_true] at hm
  have ih:=caps_stars xs ys h.2 hm.2
  rcases hs:isStar x with _ | _
  ·have e:=(mtch_lit_iff hs).1 hm.1
   subst e
   simp only[capsR,hs,Bool.false_eq_true,if_false,List.length_cons,List.take_succ_cons,List.filter_cons,ih]
  ·simp only[capsR,hs,if_true,List.length_cons,List.take_succ_cons,List.filter_cons,cap1_star hs hm.1]
   split <;> simp[ih]
theorem fill_fill:∀(qs cs ds:List Str),cs.length=(qs.filter isStar).length→(∀c∈cs,c≠[])→fillR (fillR qs cs) ds=fillR qs (fillR cs ds)
 |[],cs,ds,h,_=>rfl
 |x :: xs,cs,ds,h,hc=>by
  rcases hs:isStar x with _ | _
  ·have h':cs.length=(xs.filter isStar).length:=by simpa[List.filter_cons,hs] using h
   simp only[fillR,hs,Bool.false_eq_true,if_false,fill_fill xs cs ds h' hc]
  ·cases cs with
   |nil=>simp[List.filter_cons,hs] at h
   |cons c cs=>
    have h':cs.length=(xs.filter isStar).length:=by simpa[List.filter_cons,hs] using h
    have hne:=hc c (by simp)
    have ih:=fun ds=>fill_fill xs cs ds h' (fun d hd=>hc d (by simp[hd]))
    rcases hcs:isStar c with _ | _
    ·simp only[fillR,hs,if_true,List.headD_cons,List.tail_cons,star_app hne,hcs,Bool.false_eq_true,if_false,ih]
    ·have e:(c++x.tail).tail=c.tail++x.tail:=by
      rw[star_text hcs]
      rfl
     simp only[fillR,hs,if_true,List.headD_cons,List.tail_cons,star_app hne,hcs,ih,e,List.append_assoc]
theorem caps_caps:∀(ps ms l:List Str),inR ps ms=true→mR ps ms=true→mR ms l=true→capsR ps l=fillR (capsR ps ms) (capsR (ms.take ps.length) l)
 |[],ms,l,_,_,_=>by cases ms <;> cases l <;> rfl
 |x :: xs,[],l,h,_,_=>by cases h
 |x :: xs,y :: ys,[],_,_,h=>by cases h
 |x :: xs,y :: ys,c :: cs,h,hm,hl=>by
  rw[inR,Bool.and_eq_true] at h
  rw[mR,Bool.and_eq_true] at hm hl
  have ih:=caps_caps xs ys cs h.2 hm.2 hl.2
  rcases hs:isStar x with _ | _
  ·have e:=(mtch_lit_iff hs).1 hm.1
   subst e
   simp only[capsR,hs,Bool.false_eq_true,if_false,List.length_cons,List.take_succ_cons,ih]
  ·rcases hy:isStar y with _ | _
   ·have e:=(mtch_lit_iff hy).1 hl.1
    subst e
    simp only[capsR,hs,hy,if_true,Bool.false_eq_true,if_false,List.length_cons,List.take_succ_cons,fillR,cap1_star hs hm.1,ih]
   ·simp only[capsR,hs,hy,if_true,List.length_cons,List.take_succ_cons,fillR,cap1_star hs hm.1,List.headD_cons,List.tail_cons,ih,List.cons.injEq,and_true]
    have e1:=cap1_tail hy hl.1
    have e2:=cap1_tail hs hm.1
    have hst:isStar (cap1 x y)=true:=by rw[cap1_star hs hm.1];exact hy
    have e3:(cap1 x y).tail++x.tail=y.tail:=by
     have:=congrArg List.tail e2
     rw[star_text hst] at this
     exact this
    have hxc:mtch x c=true:=inside_mtch (inside_iff.2 (inside_iff.1 h.1)) hl.1
    have e4:=cap1_tail hs hxc
    have e5:cap1 x c++x.tail=(cap1 y c++(cap1 x y).tail)++x.tail:=by rw[e4,List.append_assoc,e3,e1]
    exact List.append_cancel_right e5
theorem fillR_app:∀(a b cs ds:List Str),cs.length=(a.filter isStar).length→fillR (a++b) (cs++ds)=fillR a cs++fillR b ds
 |[],b,cs,ds,h=>by
  have:cs=[]:=List.eq_nil_of_length_eq_zero (by simpa using h)
  subst this
  rfl
 |x :: xs,b,cs,ds,h=>by
  rcases hs:isStar x with _ | _
  ·have h':cs.length=(xs.filter isStar).length:=by simpa[List.filter_cons,hs] using h
   simp only[List.cons_append,fillR,hs,Bool.false_eq_true,if_false,fillR_app xs b cs ds h']
  ·cases cs with
   |nil=>simp[List.filter_cons,hs] at h
   |cons c cs=>
    have h':cs.length=(xs.filter isStar).length:=by simpa[List.filter_cons,hs] using h
    simp only[List.cons_append,fillR,hs,if_true,List.headD_cons,List.tail_cons,fillR_app xs b cs ds h']
theorem capsR_split:∀(k:Nat) (ms l:List Str),mR ms l=true→capsR ms l=capsR (ms.take k) l++capsR (ms.drop k) (l.drop k)
 |0,ms,l,_=>by cases ms <;> cases l <;> simp[capsR]
 |k+1,[],l,_=>by cases l <;> simp[capsR]
 |k+1,y :: ys,[],h=>by cases h
 |k+1,y :: ys,c :: cs,h=>by
  rw[mR,Bool.and_eq_true] at h
  have ih:=capsR_split k ys cs h.2
  simp only[List.take_succ_cons,List.drop_succ_cons,capsR,ih]
  split <;> simp
theorem mR_take:∀(k:Nat) (ms l:List Str),mR ms l=true→mR (ms.take k) l=true
 |0,ms,l,_=>by cases l <;> simp[mR]
 |k+1,[],l,_=>by cases l <;> simp[mR]
 |k+1,y :: ys,[],h=>by cases h
 |k+1,y :: ys,c :: cs,h=>by
  rw[mR,Bool.and_eq_true] at h
  simp[mR,h.1,mR_take k ys cs h.2]
theorem mR_drop:∀(k:Nat) (ms l:List Str),mR ms l=true→mR (ms.drop k) (l.drop k)=true
 |0,ms,l,h=>h
 |k+1,[],l,_=>by cases l <;> simp[mR]
 |k+1,y :: ys,[],h=>by cases h
 |k+1,y :: ys,c :: cs,h=>by
  rw[mR,Bool.and_eq_true] at h
  exact mR_drop k ys cs h.2
/-! ### carried patterns -/
def carryP (p q m:Pat):Pat:=⟨trL p q m.parts,q.rest && m.rest⟩
theorem trL_eq {p q:Pat} {l:List Str} (h:p.parts.length≤l.length):trL p q l=fillR q.parts (capsR p.parts l)++(if q.rest then l.drop p.parts.length else []):=by
 rw[trL,show capsTo p l p.parts.length=capsR p.parts l from capsTo_capsR p.rest p.parts l h]
theorem parts_ne {p:Pat} (h:patErr p=0):∀x∈p.parts,x≠[]:=fun x hx=>partOk_ne (allOk_of h x hx)
structure Inner (p q m:Pat):Prop where
 tw:Twin p q
 good:patErr m=0
 inn:insideP m p=true
theorem Inner.le {p q m:Pat} (h:Inner p q m):p.parts.length≤m.parts.length:=(insideP_inR h.inn).1
theorem Inner.inr {p q m:Pat} (h:Inner p q m):inR p.parts m.parts=true:=(insideP_inR h.inn).2
theorem Inner.mr {p q m:Pat} (h:Inner p q m):mR p.parts m.parts=true:=inR_mR (parts_ne h.tw.lp) h.inr
theorem Inner.cl {p q m:Pat} (h:Inner p q m):(capsR p.parts m.parts).length=(q.parts.filter isStar).length:=(capsR_len _ _ h.mr).trans h.tw.sn
theorem Inner.cn {p q m:Pat} (h:Inner p q m):∀c∈capsR p.parts m.parts,c≠[]:=capsR_ne _ _ h.mr
theorem Inner.rest {p q m:Pat} (h:Inner p q m):m.rest=true→q.rest=true:=fun hm=>by
 have:=h.inn
 unfold insideP at this
 rw[Bool.and_eq_true] at this
 rw[←h.tw.rs]
 rcases lenIn_iff.1 this.1 with h1 | h1 | h1
 ·exact h1.1
 ·exact h1.1
 ·rw[hm] at h1
  simp at h1
theorem Inner.norest {p q m:Pat} (h:Inner p q m) (hq:q.rest=false):m.rest=false∧m.parts.length=p.parts.length:=by
 have:=h.inn
 unfold insideP at this
 rw[Bool.and_eq_true] at this
 have hp:=h.tw.rs
 rw[hq] at hp
 rcases lenIn_iff.1 this.1 with h1 | h1 | h1
 ·rw[hp] at h1;simp at h1
 ·rw[hp] at h1;simp at h1
 ·simp_all
theorem Inner.yesrest {p q m:Pat} (h:Inner p q m) (hq:q.rest=true) (hm:m.rest=false):p.parts.length < m.parts.length:=by
 have:=h.inn
 unfold insideP at this
 rw[Bool.and_eq_true] at this
 have hp:=h.tw.rs
 rw[hq] at hp
 rcases lenIn_iff.1 this.1 with h1 | h1 | h1
 ·rw[hm] at h1;simp at h1
 ·exact h1.2.2
 ·rw[hp] at h1;simp at h1
theorem Inner.crest {p q m:Pat} (h:Inner p q m):(carryP p q m).rest=m.rest:=by
 show (q.rest && m.rest)=m.rest
 rcases hm:m.rest with _ | _
 ·rw[Bool.and_false]
 ·rw[h.rest hm];rfl
theorem Inner.parts {p q m:Pat} (h:Inner p q m):(carryP p q m).parts=fillR q.parts (capsR p.parts m.parts)++(if q.rest then m.parts.drop p.parts.length else []):=trL_eq h.le
theorem Inner.plen {p q m:Pat} (h:Inner p q m):(carryP p q m).parts.length+p.parts.length=q.parts.length+m.parts.length:=by
 have:=h.le
 rw[h.parts,List.length_append,fillR_len]
 rcases hq:q.rest with _ | _
 ·have:=(h.norest hq).2
  simp
  omega
 ·simp only[if_true,List.length_drop]
  omega
theorem Inner.allok {p q m:Pat} (h:Inner p q m):allOk (carryP p q m):=fun x hx=>by
 rw[h.parts] at hx
 rcases List.mem_append.1 hx with hx | hx
 ·exact fill_part q.parts _ (allOk_of h.tw.rp) h.cl (capsR_part _ _ h.mr (allOk_of h.good)) x hx
 ·split at hx
  ·exact allOk_of h.good x (List.mem_of_mem_drop hx)
  ·cases hx
theorem Inner.first {p q m:Pat} (h:Inner p q m):comp (pAt (carryP p q m) 0)=true:=by
 obtain⟨h0,_,_,hc,_⟩:=patErr_iff.1 h.tw.rp
 have e:pAt (carryP p q m) 0=pAt q 0:=by
  have hp:=h.parts
  unfold pAt
  rw[hp]
  unfold pAt at hc
  match hq:q.parts with
  |[]=>rw[hq] at h0;simp at h0
  |x :: xs=>
   rw[hq] at hc
   have hs:isStar x=false:=comp_noStar hc
   simp[fillR,hs]
 rw[e]
 exact hc
theorem Inner.patok {p q m:Pat} (h:Inner p q m) (hl:(carryP p q m).parts.length≤12):patErr (carryP p q m)=0:=by
 obtain⟨h0,h1,_,hc,_⟩:=patErr_iff.1 h.tw.rp
 obtain⟨m0,m1,_,_,_⟩:=patErr_iff.1 h.good
 have hpl:=h.plen
 have hle:=h.le
 refine patErr_iff.2 ⟨by omega,fun hr=>?_,hl,h.first,h.allok⟩
 rw[h.crest] at hr
 rcases hq:q.rest with _ | _
 ·have:=h1 hq
  have:=(h.norest hq).2
  omega
 ·have:=h.yesrest hq hr
  omega
theorem Inner.stars {p q m:Pat} (h:Inner p q m):starN m=starN (carryP p q m):=by
 unfold starN
 rw[h.parts,List.filter_append,List.length_append,fill_stars _ _ h.cl h.cn,caps_stars _ _ h.inr h.mr]
 conv=>lhs;rw[←List.take_append_drop p.parts.length m.parts,List.filter_append,List.length_append]
 congr 2
 rcases hq:q.rest with _ | _
 ·have:=(h.norest hq).2
  rw[List.drop_of_length_le (by omega)]
  rfl
 ·rfl
theorem Inner.twin {p q m:Pat} (h:Inner p q m) (hl:(carryP p q m).parts.length≤12):Twin m (carryP p q m):=⟨h.good,h.patok hl,h.stars,h.crest.symm⟩
theorem Inner.inn2 {p q m:Pat} (h:Inner p q m):insideP (carryP p q m) q=true:=by
 refine insideP_of ?_ ?_
 ·have hpl:=h.plen
  have hle:=h.le
  rcases hq:q.rest with _ | _
  ·obtain⟨a,b⟩:=h.norest hq
   exact lenIn_iff.2 (.inr (.inr ⟨hq,by rw[h.crest];exact a,by omega⟩))
  ·rcases hm:m.rest with _ | _
   ·have:=h.yesrest hq hm
    exact lenIn_iff.2 (.inr (.inl ⟨hq,by rw[h.crest];exact hm,by omega⟩))
   ·exact lenIn_iff.2 (.inl ⟨hq,by rw[h.crest];exact hm,by omega⟩)
 ·rw[h.parts]
  exact fill_in _ _ _ h.cl h.cn
theorem Inner.turn {p q m:Pat} (h:Inner p q m) (hl:(carryP p q m).parts.length≤12):Inner q p (carryP p q m):=⟨h.tw.turn,h.patok hl,h.inn2⟩
theorem Inner.tr {p q m:Pat} (h:Inner p q m) {l:List Str} (hm:matchL m l=true):trL m (carryP p q m) l=trL p q l:=by
 rw[matchL_mR,Bool.and_eq_true] at hm
 obtain⟨hr,hm⟩:=hm
 have hml:=reaches_le hr
 have hle:=h.le
 have hst:((m.parts.take p.parts.length).filter isStar).length=(capsR (m.parts.take p.parts.length) l).length:=(capsR_len _ _ (mR_take _ _ _ hm)).symm
 have hfl:(capsR (m.parts.take p.parts.length) l).length=((fillR q.parts (capsR p.parts m.parts)).filter isStar).length:=by
  rw[fill_stars _ _ h.cl h.cn,caps_stars _ _ h.inr h.mr,hst]
 rw[trL_eq hml,trL_eq (by omega),h.parts,h.crest,capsR_split p.parts.length m.parts l hm,fillR_app _ _ _ _ hfl,fill_fill _ _ _ h.cl h.cn,←caps_caps _ _ _ h.inr h.mr hm,List.append_assoc]
 congr 1
 rcases hq:q.rest with _ | _
 ·obtain⟨a,b⟩:=h.norest hq
  rw[a]
  simp[fillR]
 ·simp only[if_true]
  rw[fill_caps _ _ (mR_drop p.parts.length _ _ hm),List.length_drop]
  rcases hmr:m.rest with _ | _
  ·rw[reaches,hmr] at hr
   simp only[Bool.false_eq_true,if_false] at hr
   have:=beq_iff_eq.1 hr
   simp only[Bool.false_eq_true,if_false,List.append_nil]
   rw[List.take_of_length_le (by rw[List.length_drop];omega)]
  ·simp only[if_true]
   have:l.drop m.parts.length=(l.drop p.parts.length).drop (m.parts.length - p.parts.length):=by
    rw[List.drop_drop]
    congr 1
    omega
   rw[this,List.take_append_drop]
/-! ### what NarrowLeft and NarrowRight answer -/
def narL (r:Rule) (p:Pat):Option Rule × Int:=
 if ruleErr r≠0 then (none,ruleErr r) else if patErr p≠0 then (none,patErr p) else match meetP r.left p with
  |none=>(none,0)
  |some m=>if 12 < (carryP r.left r.right m).parts.length then (none,43) else (some ⟨false,m,carryP r.left r.right m⟩,0)
def narR (r:Rule) (p:Pat):Option Rule × Int:=if ruleErr r≠0 then (none,ruleErr r) else match narL ⟨false,r.right,r.left⟩ p with
 |(o,e)=>(o.map Rule.turn,e)
theorem inner_meet {r:Rule} {p m:Pat} (hr:ruleErr r=0) (hm:meetP r.left p=some m):Inner r.left r.right m:=by
 obtain⟨h1,h2,h3,h4⟩:=meetP_some hm
 exact⟨ruleErr_twin.1 hr,h4,(meetL_in (allOk_of h1) (allOk_of h2) h3).1⟩
theorem narL_some {r n:Rule} {p:Pat} (h:(narL r p).1=some n):ruleErr r=0∧patErr p=0∧(narL r p).2=0∧∃m,meetP r.left p=some m∧n=⟨false,m,carryP r.left r.right m⟩∧(carryP r.left r.right m).parts.length≤12∧Inner r.left r.right m:=by
 unfold narL at h ⊢
 by_cases h1:ruleErr r≠0
 ·rw[if_pos h1] at h;cases h
 ·by_cases h2:patErr p≠0
  ·rw[if_neg h1,if_pos h2] at h;cases h
  ·rw[if_neg h1,if_neg h2] at h ⊢
   rcases hm:meetP r.left p with _ | m
   ·rw[hm] at h;cases h
   ·rw[hm] at h
    simp only at h ⊢
    by_cases h3:12 < (carryP r.left r.right m).parts.length
    ·rw[if_pos h3] at h;cases h
    ·rw[if_neg h3] at h ⊢
     simp only[Option.some.injEq] at h
     exact⟨by simpa using h1,by simpa using h2,rfl,m,rfl,h.symm,by omega,inner_meet (by simpa using h1) hm⟩
theorem narL_good {r n:Rule} {p:Pat} (h:(narL r p).1=some n):ruleErr n=0:=by
 obtain⟨_,_,_,m,_,rfl,h1,h2⟩:=narL_some h
 exact ruleErr_twin.2 (h2.twin h1)
theorem narL_fwd {r n:Rule} {p:Pat} (h:(narL r p).1=some n) (s:Str):fwd n s=if matchS p s then fwd r s else none:=by
 have hg:=narL_good h
 obtain⟨hr,hp,_,m,hm,rfl,h1,h2⟩:=narL_some h
 obtain⟨g1,g2,g3,g4⟩:=meetP_some hm
 unfold fwd matchS
 rw[if_pos hg,if_pos hr]
 rcases hs:pathOf s with _ | l
 ·simp
 ·have hc:=(pathOf_some hs).2.1
  have hmm:=meetL_match (allOk_of g1) (allOk_of g2) g3 hc
  simp only
  rw[show okPat p=true by simp[okPat,hp],Bool.true_and]
  rcases hmp:matchL p l with _ | _
  ·rw[hmp,Bool.and_false] at hmm
   simp[hmm]
  ·rw[hmp,Bool.and_true] at hmm
   rcases hml:matchL r.left l with _ | _
   ·rw[hml] at hmm
    simp[hmm]
   ·rw[hml] at hmm
    simp only[hmm,if_true]
    rw[h2.tr hmm]
end Go.Proofs.YtcofdlipapnohaaGreatDoor.Sy
