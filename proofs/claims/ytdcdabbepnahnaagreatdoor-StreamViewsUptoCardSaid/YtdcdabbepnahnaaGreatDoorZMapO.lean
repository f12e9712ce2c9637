/- The domain of a mapping; the overlap of two. No program in sight. -/
import Derived.Lib.Bytealg
import Derived.Test.YtdcdabbepnahnaaGreatDoorZMeetL
import Derived.Test.YtdcdabbepnahnaaGreatDoorZStrLaw
import Derived.Test.YtdcdabbepnahnaaGreatDoorZNarL
set_option linter.unusedVariables false
set_option linter.unusedSimpArgs false
namespace Go.Proofs.YtdcdabbepnahnaaGreatDoor.Sy
theorem cmp_zero:∀{x y:Str},Lib.compareBytes x y=0↔x=y
 |[],[]=>by simp[Lib.compareBytes]
 |[],b :: y=>by simp[Lib.compareBytes]
 |a :: x,[]=>by simp[Lib.compareBytes]
 |a :: x,b :: y=>by
  have ih:=@cmp_zero x y
  unfold Lib.compareBytes
  by_cases h1:a < b
  ·rw[if_pos h1]
   have:a≠b:=fun e=>by subst e;exact UInt8.lt_irrefl a h1
   simp[this]
  ·rw[if_neg h1]
   by_cases h2:b < a
   ·rw[if_pos h2]
    have:a≠b:=fun e=>by subst e;exact UInt8.lt_irrefl a h2
    simp[this]
   ·rw[if_neg h2,ih]
    have:a=b:=UInt8.le_antisymm (UInt8.not_lt.1 h2) (UInt8.not_lt.1 h1)
    simp[this]
theorem cmp_neg:∀x y:Str,Lib.compareBytes y x=- Lib.compareBytes x y
 |[],[]=>rfl
 |[],b :: y=>rfl
 |a :: x,[]=>rfl
 |a :: x,b :: y=>by
  have ih:=cmp_neg x y
  unfold Lib.compareBytes
  by_cases h1:a < b
  ·rw[if_pos h1,if_neg (fun h2=>UInt8.lt_irrefl a (UInt8.lt_trans h1 h2)),if_pos h1]
   rfl
  ·rw[if_neg h1]
   by_cases h2:b < a
   ·rw[if_pos h2,if_pos h2,if_neg h1]
   ·rw[if_neg h2,if_neg h2,if_neg h1,ih]
theorem cmp_trans:∀{x y z:Str},Lib.compareBytes x y < 0→Lib.compareBytes y z < 0→Lib.compareBytes x z < 0
 |[],_,[],h1,h2=>by
  rename_i y
  cases y <;> simp[Lib.compareBytes] at h1 h2
 |[],_,c :: z,h1,h2=>by simp[Lib.compareBytes]
 |a :: x,[],z,h1,h2=>by simp[Lib.compareBytes] at h1
 |a :: x,b :: y,[],h1,h2=>by simp[Lib.compareBytes] at h2
 |a :: x,b :: y,c :: z,h1,h2=>by
  have ih:=@cmp_trans x y z
  unfold Lib.compareBytes at h1 h2 ⊢
  by_cases ab:a < b
  ·by_cases bc:b < c
   ·rw[if_pos (UInt8.lt_trans ab bc)]
    decide
   ·rw[if_neg bc] at h2
    by_cases cb:c < b
    ·rw[if_pos cb] at h2
     omega
    ·have:b=c:=UInt8.le_antisymm (UInt8.not_lt.1 cb) (UInt8.not_lt.1 bc)
     subst this
     rw[if_pos ab]
     decide
  ·rw[if_neg ab] at h1
   by_cases ba:b < a
   ·rw[if_pos ba] at h1
    omega
   ·rw[if_neg ba] at h1
    have:a=b:=UInt8.le_antisymm (UInt8.not_lt.1 ba) (UInt8.not_lt.1 ab)
    subst this
    by_cases bc:a < c
    ·rw[if_pos bc]
     decide
    ·rw[if_neg bc] at h2 ⊢
     by_cases cb:c < a
     ·rw[if_pos cb] at h2
      omega
     ·rw[if_neg cb] at h2 ⊢
      exact ih h1 h2
def ltT (p q:Pat):Prop:=Lib.compareBytes (patText p) (patText q) < 0
instance (p q:Pat):Decidable (ltT p q):=inferInstanceAs (Decidable (_ < _))
theorem ltT_irrefl (p:Pat):¬ltT p p:=fun h=>by
 have:Lib.compareBytes (patText p) (patText p)=0:=cmp_zero.2 rfl
 unfold ltT at h
 omega
theorem ltT_trans {p q r:Pat} (h1:ltT p q) (h2:ltT q r):ltT p r:=cmp_trans h1 h2
theorem ltT_asymm {p q:Pat} (h1:ltT p q) (h2:ltT q p):False:=ltT_irrefl p (ltT_trans h1 h2)
theorem ltT_total {p q:Pat} (hp:patErr p=0) (hq:patErr q=0) (h1:¬ltT p q) (h2:p≠q):ltT q p:=by
 unfold ltT at h1 ⊢
 have h3:=cmp_neg (patText p) (patText q)
 have h4:Lib.compareBytes (patText p) (patText q)≠0:=fun e=>h2 (patText_inj hp hq (cmp_zero.1 e))
 omega
theorem strict_ext:∀{l m:List Pat},l.Pairwise ltT→m.Pairwise ltT→(∀x,x∈l↔x∈m)→l=m
 |[],[],_,_,_=>rfl
 |[],b :: m,_,_,h=>by
  have:=(h b).2 (by simp)
  cases this
 |a :: l,[],_,_,h=>by
  have:=(h a).1 (by simp)
  cases this
 |a :: l,b :: m,h1,h2,h=>by
  obtain⟨a1,a2⟩:=List.pairwise_cons.1 h1
  obtain⟨b1,b2⟩:=List.pairwise_cons.1 h2
  have hab:a=b:=by
   rcases List.mem_cons.1 ((h a).1 (by simp)) with e | e
   ·exact e
   ·rcases List.mem_cons.1 ((h b).2 (by simp)) with e' | e'
    ·exact e'.symm
    ·exact (ltT_asymm (a1 b e') (b1 a e)).elim
  subst hab
  congr 1
  refine strict_ext a2 b2 fun x=>⟨fun hx=>?_,fun hx=>?_⟩
  ·rcases List.mem_cons.1 ((h x).1 (by simp[hx])) with e | e
   ·subst e
    exact (ltT_irrefl x (a1 x hx)).elim
   ·exact e
  ·rcases List.mem_cons.1 ((h x).2 (by simp[hx])) with e | e
   ·subst e
    exact (ltT_irrefl x (b1 x hx)).elim
   ·exact e
def insT (h:Pat):List Pat→List Pat
 |[]=>[h]
 |k :: r=>if ltT h k then h :: k :: r else if h=k then k :: r else k :: insT h r
def sortT:List Pat→List Pat
 |[]=>[]
 |h :: r=>insT h (sortT r)
theorem insT_mem (h:Pat):∀(l:List Pat) (x:Pat),x∈insT h l↔x=h∨x∈l
 |[],x=>by simp[insT]
 |k :: r,x=>by
  have ih:=insT_mem h r x
  unfold insT
  split
  ·simp
  ·split
   ·rename_i e
    subst e
    simp
   ·rw[List.mem_cons,ih,List.mem_cons]
    constructor
    ·rintro (h | h | h)
     ·exact .inr (.inl h)
     ·exact .inl h
     ·exact .inr (.inr h)
    ·rintro (h | h | h)
     ·exact .inr (.inl h)
     ·exact .inl h
     ·exact .inr (.inr h)
theorem insT_len (h:Pat):∀l:List Pat,(insT h l).length≤l.length+1
 |[]=>Nat.le_refl _
 |k :: r=>by
  have ih:=insT_len h r
  unfold insT
  split
  ·simp
  ·split
   ·simp
   ·simp only[List.length_cons]
    omega
theorem insT_strict {h:Pat} (hh:patErr h=0):∀{l:List Pat},(∀x∈l,patErr x=0)→l.Pairwise ltT→(insT h l).Pairwise ltT
 |[],_,_=>by simp[insT]
 |k :: r,hg,hp=>by
  obtain⟨h1,h2⟩:=List.pairwise_cons.1 hp
  have ih:=insT_strict hh (l:=r) (fun x hx=>hg x (by simp[hx])) h2
  unfold insT
  split
  ·rename_i hlt
   refine List.pairwise_cons.2 ⟨fun x hx=>?_,hp⟩
   rcases List.mem_cons.1 hx with rfl | hx
   ·exact hlt
   ·exact ltT_trans hlt (h1 x hx)
  ·rename_i hlt
   split
   ·exact hp
   ·rename_i hne
    refine List.pairwise_cons.2 ⟨fun x hx=>?_,ih⟩
    rcases (insT_mem h r x).1 hx with rfl | hx
    ·exact ltT_total hh (hg k (by simp)) hlt hne
    ·exact h1 x hx
theorem sortT_mem:∀(l:List Pat) (x:Pat),x∈sortT l↔x∈l
 |[],x=>Iff.rfl
 |h :: r,x=>by rw[sortT,insT_mem,sortT_mem r x,List.mem_cons]
theorem sortT_len:∀l:List Pat,(sortT l).length≤l.length
 |[]=>Nat.le_refl _
 |h :: r=>by
  have h1:=sortT_len r
  have h2:=insT_len h (sortT r)
  rw[sortT,List.length_cons]
  omega
theorem sortT_strict:∀{l:List Pat},(∀x∈l,patErr x=0)→(sortT l).Pairwise ltT
 |[],_=>List.Pairwise.nil
 |h :: r,hg=>by
  rw[sortT]
  exact insT_strict (hg h (by simp)) (fun x hx=>hg x (by simp[(sortT_mem r x).1 hx])) (sortT_strict fun x hx=>hg x (by simp[hx]))
def meetsL (b:Pat) (ps:List Pat):List Pat:=ps.filterMap (meetP b)
def keepIn (ms:List Pat) (h:Pat):Bool:=ms.all fun k=>k == h || !insideP h k
def redL (b:Pat) (ps:List Pat):List Pat:=(sortT (meetsL b ps)).filter (keepIn (meetsL b ps))
theorem keepIn_iff {ms:List Pat} {h:Pat}:keepIn ms h=true↔∀k∈ms,insideP h k=true→k=h:=by
 unfold keepIn
 rw[List.all_eq_true]
 refine forall_congr' fun k=>forall_congr' fun _=>?_
 rw[Bool.or_eq_true,beq_iff_eq]
 constructor
 ·rintro (h | h) h2
  ·exact h
  ·rw[h2] at h
   cases h
 ·intro h2
  rcases hi:insideP h k with _ | _
  ·exact .inr rfl
  ·exact .inl (h2 hi)
theorem meetsL_mem {b:Pat} {ps:List Pat} {m:Pat}:m∈meetsL b ps↔∃p∈ps,meetP b p=some m:=by
 unfold meetsL
 rw[List.mem_filterMap]
theorem meetsL_good {b:Pat} {ps:List Pat}:∀m∈meetsL b ps,patErr m=0:=fun m hm=>by
 obtain⟨p,_,h⟩:=meetsL_mem.1 hm
 exact (meetP_some h).2.2.2
theorem meetsL_in {b:Pat} {ps:List Pat}:∀m∈meetsL b ps,insideP m b=true:=fun m hm=>by
 obtain⟨p,_,h⟩:=meetsL_mem.1 hm
 obtain⟨h1,h2,h3,_⟩:=meetP_some h
 exact (meetL_in (allOk_of h1) (allOk_of h2) h3).1
theorem redL_mem {b:Pat} {ps:List Pat} {h:Pat}:h∈redL b ps↔h∈meetsL b ps∧∀k∈meetsL b ps,insideP h k=true→k=h:=by
 unfold redL
 rw[List.mem_filter,sortT_mem,keepIn_iff]
theorem redL_strict (b:Pat) (ps:List Pat):(redL b ps).Pairwise ltT:=List.Pairwise.filter _ (sortT_strict meetsL_good)
theorem meetsL_len (b:Pat) (ps:List Pat):(meetsL b ps).length≤ps.length:=List.length_filterMap_le _ _
theorem redL_len (b:Pat) (ps:List Pat):(redL b ps).length≤ps.length:=by
 have h1:=List.length_filter_le (keepIn (meetsL b ps)) (sortT (meetsL b ps))
 have h2:=sortT_len (meetsL b ps)
 have h3:=meetsL_len b ps
 unfold redL
 omega
theorem redL_good {b:Pat} {ps:List Pat}:∀h∈redL b ps,patErr h=0:=fun h hh=>meetsL_good h (redL_mem.1 hh).1
theorem redL_of {b:Pat} {ps l:List Pat} (h1:l.Pairwise ltT) (h2:∀h,h∈l↔h∈meetsL b ps∧∀k∈meetsL b ps,insideP h k=true→k=h):l=redL b ps:=
 strict_ext h1 (redL_strict b ps) fun x=>(h2 x).trans redL_mem.symm
theorem top_above:∀(n:Nat) (ms:List Pat),ms.length≤n→(∀m∈ms,patErr m=0)→∀m∈ms,∃k∈ms,insideP m k=true∧∀j∈ms,insideP k j=true→j=k
 |0,ms,hn,hg,m,hm=>by
  have:=List.eq_nil_of_length_eq_zero (Nat.le_zero.1 hn)
  rw[this] at hm
  cases hm
 |n+1,ms,hn,hg,m,hm=>by
  have om:=allOk_of (hg m hm)
  by_cases htop:∃j∈ms,insideP m j=true∧j≠m
  ·obtain⟨j,hj,hin,hne⟩:=htop
   have hmem:∀k,k∈(ms.filter fun k=>insideP m k && k != m)↔k∈ms∧insideP m k=true∧k≠m:=fun k=>by simp[List.mem_filter]
   have hlt:(ms.filter fun k=>insideP m k && k != m).length < ms.length:=by
    rw[List.length_filter_lt_length_iff_exists]
    exact⟨m,hm,by simp⟩
   obtain⟨k,h1,h2,h3⟩:=top_above n (ms.filter fun k=>insideP m k && k != m) (by omega) (fun x hx=>hg x ((hmem x).1 hx).1) j ((hmem j).2 ⟨hj,hin,hne⟩)
   obtain⟨h4,h5,h6⟩:=(hmem k).1 h1
   have ok:=allOk_of (hg k h4)
   refine⟨k,h4,h5,fun i hi hki=>?_⟩
   refine h3 i ((hmem i).2 ⟨hi,insideP_trans om ok h5 hki,?_⟩) hki
   rintro rfl
   exact h6 (insideP_antisymm ok om hki h5)
  ·exact⟨m,hm,insideP_refl om,fun j hj hin=>Classical.byContradiction fun hne=>htop ⟨j,hj,hin,hne⟩⟩
theorem redL_above {b:Pat} {ps:List Pat} {m:Pat} (hm:m∈meetsL b ps):∃k∈redL b ps,insideP m k=true:=by
 obtain⟨k,h1,h2,h3⟩:=top_above _ _ (Nat.le_refl _) meetsL_good m hm
 exact⟨k,redL_mem.2 ⟨h1,h3⟩,h2⟩
/-! ### the laws -/
theorem meetP_inside {b h:Pat} (hb:patErr b=0) (hh:patErr h=0) (hi:insideP h b=true):meetP b h=some h:=by
 rw[meetP,if_pos ⟨hb,hh⟩]
 exact meetL_inside (allOk_of hb) (allOk_of hh) hi
theorem meetsL_red {b:Pat} {ps:List Pat} (hb:patErr b=0):meetsL b (redL b ps)=redL b ps:=by
 have:∀l:List Pat,(∀h∈l,meetP b h=some h)→l.filterMap (meetP b)=l:=fun l=>by
  induction l with
  |nil=>intro _;rfl
  |cons x r ih=>
   intro h
   rw[List.filterMap_cons,h x (by simp),ih fun y hy=>h y (by simp[hy])]
 exact this _ fun h hh=>meetP_inside hb (redL_good h hh) (meetsL_in h (redL_mem.1 hh).1)
theorem redL_idem {b:Pat} {ps:List Pat} (hb:patErr b=0):redL b (redL b ps)=redL b ps:=by
 refine (redL_of (redL_strict b ps) fun h=>?_).symm
 rw[meetsL_red hb]
 constructor
 ·intro hh
  exact⟨hh,fun k hk hi=>(redL_mem.1 hh).2 k (redL_mem.1 hk).1 hi⟩
 ·exact fun hh=>hh.1
theorem redL_has {b:Pat} {ps:List Pat} (hb:patErr b=0) (hp:∀p∈ps,patErr p=0) {l:List Str} (hc:l.all comp=true):hasL b (redL b ps) l=hasL b ps l:=by
 unfold hasL
 rcases hm:matchL b l with _ | _
 ·rfl
 ·rw[Bool.true_and,Bool.true_and]
  congr 1
  rw[Bool.eq_iff_iff,List.any_eq_true,List.any_eq_true]
  constructor
  ·rintro⟨h,hh,hl⟩
   obtain⟨p,hps,hmt⟩:=meetsL_mem.1 (redL_mem.1 hh).1
   obtain⟨h1,h2,h3,_⟩:=meetP_some hmt
   have:=meetL_match (allOk_of h1) (allOk_of h2) h3 hc
   rw[hl,hm,Bool.true_and] at this
   exact⟨p,hps,this.symm⟩
  ·rintro⟨p,hps,hl⟩
   rcases hmt:meetP b p with _ | m
   ·rw[meetP,if_pos ⟨hb,hp p hps⟩] at hmt
    have:=meetL_nomatch hmt hc
    rw[hm,hl] at this
    cases this
   ·obtain⟨h1,h2,h3,h4⟩:=meetP_some hmt
    obtain⟨k,hk,hi⟩:=redL_above (meetsL_mem.2 ⟨p,hps,hmt⟩)
    have:=meetL_match (allOk_of h1) (allOk_of h2) h3 hc
    rw[hl,hm] at this
    exact⟨k,hk,insideP_match (allOk_of h4) hi hc this⟩
def leT (p q:Pat):Prop:=Lib.compareBytes (patText p) (patText q)≤0
theorem leT_trans {p q r:Pat} (h1:leT p q) (h2:leT q r):leT p r:=by
 unfold leT at *
 by_cases e1:Lib.compareBytes (patText p) (patText q)=0
 ·rw[cmp_zero.1 e1]
  exact h2
 ·by_cases e2:Lib.compareBytes (patText q) (patText r)=0
  ·rw[←cmp_zero.1 e2]
   exact h1
  ·have:=cmp_trans (x:=patText p) (y:=patText q) (z:=patText r) (by omega) (by omega)
   omega
def keepT (cs:List Pat) (h:Pat):Bool:=!(cs.any fun o=>(patText o != patText h) && insideP h o)
theorem redL_prog2 {b:Pat} {ps cs:List Pat} (hm:∀x,x∈cs↔x∈meetsL b ps) (hs:cs.Pairwise ltT):cs.filter (keepT cs)=redL b ps:=by
 refine redL_of (List.Pairwise.filter _ hs) fun h=>?_
 rw[List.mem_filter,hm]
 refine and_congr_right fun hh=>?_
 have gh:=meetsL_good h hh
 unfold keepT
 rw[Bool.not_eq_true',List.any_eq_false]
 constructor
 ·intro H k hk hi
  have:=H k ((hm k).2 hk)
  rw[hi,Bool.and_true,bne_iff_ne,ne_eq,Classical.not_not] at this
  exact patText_inj (meetsL_good k hk) gh this
 ·intro H k hk hx
  rw[Bool.and_eq_true,bne_iff_ne] at hx
  exact hx.1 (by rw[H k ((hm k).1 hk) hx.2])
/-! ### the reference's way: sorted; those behind an equal one, or inside another, left out -/
def keepR (ds:List Pat) (i:Nat):Bool:=(List.range ds.length).all fun j=>match ds[i]?,ds[j]? with
 |some h,some k=>!(decide (i≠j) && insideP h k && (decide (j < i) || decide (h≠k)))
 |_,_=>true
def refKeep (ds:List Pat) (n:Nat):List Pat:=(List.range n).filterMap fun i=>if keepR ds i then ds[i]? else none
theorem keepR_iff {ds:List Pat} {i:Nat} {h:Pat} (hi:ds[i]?=some h):keepR ds i=true↔∀j k,ds[j]?=some k→i≠j→insideP h k=true→i < j∧h=k:=by
 unfold keepR
 rw[List.all_eq_true,hi]
 constructor
 ·intro H j k hj hne hin
  have hjl:=(List.getElem?_eq_some_iff.1 hj).1
  have:=H j (List.mem_range.2 hjl)
  rw[hj] at this
  simp only[hin,Bool.and_true,hne,ne_eq,not_false_eq_true,decide_true,Bool.true_and,Bool.not_eq_true',Bool.or_eq_false_iff,decide_eq_false_iff_not,Classical.not_not] at this
  exact⟨by omega,this.2⟩
 ·intro H j hj
  rcases hk:ds[j]? with _ | k
  ·rfl
  ·simp only
   rw[Bool.not_eq_true']
   rcases hin:insideP h k with _ | _
   ·simp
   ·by_cases hne:i=j
    ·simp[hne]
    ·obtain⟨h1,h2⟩:=H j k hk hne hin
     simp[h2,hne]
     omega
theorem refKeep_mem {ds:List Pat} {h:Pat}:h∈refKeep ds ds.length↔∃i,ds[i]?=some h∧keepR ds i=true:=by
 unfold refKeep
 rw[List.mem_filterMap]
 constructor
 ·rintro⟨i,_,hi⟩
  split at hi
  ·rename_i hk
   exact⟨i,hi,hk⟩
  ·cases hi
 ·rintro⟨i,hi,hk⟩
  exact⟨i,List.mem_range.2 (List.getElem?_eq_some_iff.1 hi).1,by rw[if_pos hk,hi]⟩
theorem first_ix {ds:List Pat} {h:Pat} (hm:h∈ds):∃i:Nat,ds[i]?=some h∧∀j:Nat,j < i→ds[j]?≠some h:=by
 induction ds with
 |nil=>cases hm
 |cons a r ih=>
  by_cases e:a=h
  ·exact⟨0,by simp[e],fun j hj=>absurd hj (Nat.not_lt_zero _)⟩
  ·obtain⟨i,h1,h2⟩:=ih ((List.mem_cons.1 hm).resolve_left (Ne.symm e))
   refine⟨i+1,by simpa using h1,fun j hj=>?_⟩
   cases j with
   |zero=>simpa using e
   |succ j=>simpa using h2 j (by omega)
theorem redL_ref {b:Pat} {ps ds:List Pat} (hm:∀x,x∈ds↔x∈meetsL b ps) (hs:ds.Pairwise leT):refKeep ds ds.length=redL b ps:=by
 have hg:∀x∈ds,patErr x=0:=fun x hx=>meetsL_good x ((hm x).1 hx)
 refine redL_of ?_ fun h=>?_
 ·unfold refKeep
  rw[List.pairwise_filterMap]
  refine List.Pairwise.imp_of_mem ?_ List.pairwise_lt_range
  intro i j _ _ hij x hx y hy
  split at hx
  ·rename_i hki
   split at hy
   ·rename_i hkj
    have h1:leT x y:=by
     obtain⟨li,ei⟩:=List.getElem?_eq_some_iff.1 hx
     obtain⟨lj,ej⟩:=List.getElem?_eq_some_iff.1 hy
     have:=(List.pairwise_iff_getElem.1 hs) i j li lj hij
     rw[ei,ej] at this
     exact this
    have gx:=hg x (List.mem_of_getElem? hx)
    have gy:=hg y (List.mem_of_getElem? hy)
    have hne:x≠y:=fun e=>by
     subst e
     have:=(keepR_iff hy).1 hkj i x hx (by omega) (insideP_refl (allOk_of gx))
     omega
    have h2:Lib.compareBytes (patText x) (patText y)≠0:=fun e=>hne (patText_inj gx gy (cmp_zero.1 e))
    unfold leT at h1
    unfold ltT
    omega
   ·cases hy
  ·cases hx
 ·rw[refKeep_mem]
  constructor
  ·rintro⟨i,hi,hk⟩
   refine⟨(hm h).1 (List.mem_of_getElem? hi),fun k hk2 hin=>?_⟩
   obtain⟨j,hj,e⟩:=List.mem_iff_getElem.1 ((hm k).2 hk2)
   have hj2:ds[j]?=some k:=by rw[List.getElem?_eq_getElem hj,e]
   by_cases hij:i=j
   ·subst hij
    rw[hi] at hj2
    exact (Option.some.inj hj2).symm
   ·exact ((keepR_iff hi).1 hk j k hj2 hij hin).2.symm
  ·rintro⟨h1,h2⟩
   obtain⟨i,hi,hf⟩:=first_ix ((hm h).2 h1)
   refine⟨i,hi,(keepR_iff hi).2 fun j k hj hij hin=>?_⟩
   have e:=h2 k ((hm k).1 (List.mem_of_getElem? hj)) hin
   subst e
   refine⟨?_,rfl⟩
   rcases Nat.lt_or_ge i j with h | h
   ·exact h
   ·exact absurd hj (hf j (by omega))
structure Reg where
 b:Pat
 hs:List Pat
deriving DecidableEq,Inhabited
def gErr (g:Reg):Int:=regErr g.b g.hs
def bothErr (x y:Reg):Int:=if gErr x=0 then gErr y else gErr x
def hasG (g:Reg) (l:List Str):Bool:=hasL g.b g.hs l
def gLen (g:Reg):Nat:=leastLen g.b g.hs
def meetG (m:Pat) (x y:Reg):Reg:=⟨m,redL m (x.hs++y.hs)⟩
def meetR (x y:Reg):Option Reg × Int:=
 if bothErr x y≠0 then (none,bothErr x y) else
 match meetP x.b y.b with
 |none=>(none,0)
 |some m=>if 64 < (meetG m x y).hs.length then (none,52) else if gLen (meetG m x y)=0 then (none,0) else (some (meetG m x y),0)
theorem gErr_zero {g:Reg} (h:gErr g=0):patErr g.b=0∧(∀p∈g.hs,patErr p=0)∧g.hs.length≤64:=by
 unfold gErr regErr at h
 split at h
 ·cases h
 ·rename_i h1
  split at h
  ·cases h
  ·rename_i h2
   split at h
   ·cases h
   ·rename_i h3
    refine⟨by omega,fun p hp=>?_,by omega⟩
    rw[Bool.not_eq_true,List.any_eq_false] at h2
    have:=h2 p hp
    simpa using this
theorem gErr_of {g:Reg} (h1:patErr g.b=0) (h2:∀p∈g.hs,patErr p=0) (h3:g.hs.length≤64):gErr g=0:=by
 unfold gErr
 rw[regErr_end h1 (fun j h _ hj=>h2 h (List.mem_of_getElem? hj)),if_neg (by omega)]
theorem bothErr_zero {x y:Reg} (h:bothErr x y=0):gErr x=0∧gErr y=0:=by
 unfold bothErr at h
 split at h
 ·rename_i h1
  exact⟨h1,h⟩
 ·rename_i h1
  exact absurd h h1
theorem bothErr_of {x y:Reg} (h1:gErr x=0) (h2:gErr y=0):bothErr x y=0:=by rw[bothErr,if_pos h1,h2]
/-! ### the intersection -/
theorem meetG_good {x y:Reg} {m:Pat} (hm:meetP x.b y.b=some m):patErr m=0∧∀p∈(meetG m x y).hs,patErr p=0:=⟨(meetP_some hm).2.2.2,fun p hp=>redL_good p hp⟩
theorem meetG_has {x y:Reg} {m:Pat} (hx:gErr x=0) (hy:gErr y=0) (hm:meetP x.b y.b=some m) {l:List Str} (hc:l.all comp=true):hasG (meetG m x y) l=(hasG x l && hasG y l):=by
 obtain⟨x1,x2,_⟩:=gErr_zero hx
 obtain⟨y1,y2,_⟩:=gErr_zero hy
 obtain⟨_,_,h3,h4⟩:=meetP_some hm
 show hasL m (redL m (x.hs++y.hs)) l=(hasL x.b x.hs l && hasL y.b y.hs l)
 rw[redL_has h4 (fun p hp=>(List.mem_append.1 hp).elim (x2 p) (y2 p)) hc]
 unfold hasL
 rw[meetL_match (allOk_of x1) (allOk_of y1) h3 hc,List.any_append]
 generalize x.hs.any (fun h=>matchL h l)=a
 generalize y.hs.any (fun h=>matchL h l)=b
 cases matchL x.b l <;> cases matchL y.b l <;> cases a <;> cases b <;> rfl
theorem meetG_none {x y:Reg} (hx:gErr x=0) (hy:gErr y=0) (hm:meetP x.b y.b=none) {l:List Str} (hc:l.all comp=true):(hasG x l && hasG y l)=false:=by
 rw[meetP,if_pos ⟨(gErr_zero hx).1,(gErr_zero hy).1⟩] at hm
 have:=meetL_nomatch hm hc
 unfold hasG hasL
 generalize x.hs.any (fun h=>matchL h l)=a
 generalize y.hs.any (fun h=>matchL h l)=b
 revert this
 cases matchL x.b l <;> cases matchL y.b l <;> cases a <;> cases b <;> simp
theorem pos_of {p:Pat} (h:patErr p=0):0 < p.parts.length:=(patErr_iff.1 h).1
theorem meetR_some {x y g:Reg} (h:(meetR x y).1=some g):gErr x=0∧gErr y=0∧(meetR x y).2=0∧gErr g=0∧gLen g≠0∧∃m,meetP x.b y.b=some m∧g=meetG m x y:=by
 unfold meetR at h ⊢
 split at h
 ·cases h
 ·rename_i h0
  obtain⟨hx,hy⟩:=bothErr_zero (by simpa using h0)
  rw[if_neg h0]
  rcases hm:meetP x.b y.b with _ | m
  ·rw[hm] at h
   cases h
  ·rw[hm] at h
   simp only at h ⊢
   split at h
   ·cases h
   ·rename_i h1
    split at h
    ·cases h
    ·rename_i h2
     obtain rfl:=Option.some.inj h
     rw[if_neg h1,if_neg h2]
     obtain⟨g1,g2⟩:=meetG_good hm
     exact⟨hx,hy,rfl,gErr_of g1 g2 (by omega),h2,m,rfl,rfl⟩
theorem meetR_has {x y:Reg} (h:(meetR x y).2=0):gErr x=0∧gErr y=0∧∀l:List Str,l.all comp=true→(match (meetR x y).1 with | some g=>hasG g l | none=>false)=(hasG x l && hasG y l):=by
 by_cases h0:bothErr x y=0
 ·obtain⟨hx,hy⟩:=bothErr_zero h0
  refine⟨hx,hy,fun l hc=>?_⟩
  unfold meetR at h ⊢
  rw[if_neg (by simpa using h0)] at h ⊢
  rcases hm:meetP x.b y.b with _ | m
  ·exact (meetG_none hx hy hm hc).symm
  ·rw[hm] at h
   simp only at h ⊢
   have hh:=meetG_has hx hy hm hc
   split at h
   ·cases h
   ·rename_i h1
    rw[if_neg h1]
    by_cases h2:gLen (meetG m x y)=0
    ·have h3:hasG (meetG m x y) l=false:=least_none (b:=(meetG m x y).b) (pos_of (meetG_good hm).1) h2 hc
     rw[if_pos h2,←hh,h3]
    ·rw[if_neg h2]
     exact hh
 ·unfold meetR at h
  rw[if_pos h0] at h
  exact absurd h h0
structure Ent where
 left:Pat
 right:Pat
 hs:List Pat
deriving DecidableEq,Inhabited
def Ent.reg (x:Ent):Reg:=⟨x.left,x.hs⟩
def Ent.rule (x:Ent):Rule:=⟨false,x.left,x.right⟩
theorem matchS_path {p:Pat} (hp:patErr p=0) {s:Str} {l:List Str} (h:pathOf s=some l):matchS p s=matchL p l:=by
 unfold matchS
 rw[h]
 simp[okPat,hp]
def rightHs (r:Rule):List Pat→Option (List Pat)
 |[]=>some []
 |h :: hs=>if (narL r h).2≠0 then none else (rightHs r hs).map fun l=>((narL r h).1.map (·.right)).toList++l
theorem rightHs_good {r:Rule}:∀{hs ks:List Pat},rightHs r hs=some ks→(∀k∈ks,patErr k=0)∧ks.length≤hs.length
 |[],ks,h=>by
  obtain rfl:=Option.some.inj h
  exact⟨fun k hk=>(by cases hk),Nat.le_refl _⟩
 |x :: hs,ks,h=>by
  unfold rightHs at h
  split at h
  ·cases h
  ·obtain⟨l,hl,rfl⟩:=Option.map_eq_some_iff.1 h
   obtain⟨h1,h2⟩:=rightHs_good hl
   refine⟨fun k hk=>?_,?_⟩
   ·rcases List.mem_append.1 hk with hk | hk
    ·rw[Option.mem_toList] at hk
     obtain⟨n,hn,rfl⟩:=Option.map_eq_some_iff.1 hk
     exact (ruleErr_twin.1 (narL_good hn)).rp
    ·exact h1 k hk
   ·have:((narL r x).1.map (·.right)).toList.length≤1:=by
     rcases (narL r x).1 with _ | n <;> simp
    rw[List.length_append,List.length_cons]
    omega
theorem rightHs_app {r:Rule}:∀(hs ks:List Pat),rightHs r (hs++ks)=match rightHs r hs with
  |none=>none
  |some l=>(rightHs r ks).map (l++·)
 |[],ks=>by
  simp only[List.nil_append,rightHs]
  simp
 |x :: hs,ks=>by
  have ih:=rightHs_app (r:=r) hs ks
  simp only[List.cons_append,rightHs]
  by_cases h:(narL r x).2≠0
  ·rw[if_pos h,if_pos h]
  ·rw[if_neg h,if_neg h,ih]
   rcases rightHs r hs with _ | l
   ·rfl
   ·simp only[Option.map_some]
    rcases rightHs r ks with _ | k
    ·rfl
    ·simp
theorem rightHs_none {r:Rule} {hs:List Pat} (h:rightHs r hs=none) (ks:List Pat):rightHs r (hs++ks)=none:=by
 rw[rightHs_app,h]
theorem star_cons {x:Str} (h:isStar x=true):[42]++x.tail=x:=(star_text h).symm
theorem fillR_stars:∀(xs:List Str),fillR xs (List.replicate (xs.filter isStar).length [42])=xs
 |[]=>rfl
 |x :: xs=>by
  have ih:=fillR_stars xs
  rcases hs:isStar x with _ | _
  ·rw[List.filter_cons,hs]
   simp only[Bool.false_eq_true,if_false,fillR,hs]
   rw[ih]
  ·rw[List.filter_cons,hs]
   simp only[if_true,List.length_cons,List.replicate_succ,fillR,hs,List.headD_cons,List.tail_cons]
   rw[ih,star_cons hs]
theorem cap1_app {x:Str} (c:Str):cap1 x (c++x.tail)=c:=by
 unfold cap1
 rw[List.length_append,Nat.add_sub_cancel,List.take_left']
 rfl
theorem cap1_self {x:Str} (h:isStar x=true):cap1 x x=[42]:=by
 have:=cap1_app (x:=x) [42]
 rwa [star_cons h] at this
theorem capsR_self:∀(ms:List Str),capsR ms ms=List.replicate (ms.filter isStar).length [42]
 |[]=>rfl
 |x :: xs=>by
  have ih:=capsR_self xs
  rcases hs:isStar x with _ | _
  ·rw[List.filter_cons,hs]
   simp only[Bool.false_eq_true,if_false,capsR,hs]
   exact ih
  ·rw[List.filter_cons,hs]
   simp only[if_true,capsR,hs,List.length_cons,List.replicate_succ,cap1_self hs]
   rw[ih]
theorem carry_carry {p q m m':Pat} (h:Inner p q m) (hl:(carryP p q m).parts.length≤12) (h':Inner m (carryP p q m) m') (hn:m'.parts.length=m.parts.length):carryP m (carryP p q m) m'=carryP p q m':=by
 have hm:=h'.mr
 have hle:=h.le
 have hst:((m.parts.take p.parts.length).filter isStar).length=(capsR (m.parts.take p.parts.length) m'.parts).length:=(capsR_len _ _ (mR_take _ _ _ hm)).symm
 have hfl:(capsR (m.parts.take p.parts.length) m'.parts).length=((fillR q.parts (capsR p.parts m.parts)).filter isStar).length:=by
  rw[fill_stars _ _ h.cl h.cn,caps_stars _ _ h.inr h.mr,hst]
 have e:trL m (carryP p q m) m'.parts=trL p q m'.parts:=by
  rw[trL_eq (by omega),trL_eq (by omega),h.parts,h.crest,capsR_split p.parts.length m.parts m'.parts hm,fillR_app _ _ _ _ hfl,fill_fill _ _ _ h.cl h.cn,←caps_caps _ _ _ h.inr h.mr hm,List.append_assoc]
  congr 1
  rw[List.drop_of_length_le (show m'.parts.length≤m.parts.length by omega)]
  rcases hq:q.rest with _ | _
  ·simp[fillR]
  ·simp only[if_true]
   rw[fill_caps _ _ (mR_drop p.parts.length _ _ hm),List.length_drop,List.take_of_length_le (by rw[List.length_drop];omega)]
   cases m.rest <;> simp
 have hr:((carryP p q m).rest && m'.rest)=(q.rest && m'.rest):=by
  rw[h.crest]
  rcases hm':m'.rest with _ | _
  ·rw[Bool.and_false,Bool.and_false]
  ·have h1:=h'.rest hm'
   rw[h.crest] at h1
   rw[h1,h.rest h1]
 show (⟨trL m (carryP p q m) m'.parts,(carryP p q m).rest && m'.rest⟩:Pat)=⟨trL p q m'.parts,q.rest && m'.rest⟩
 rw[e,hr]
end Go.Proofs.YtdcdabbepnahnaaGreatDoor.Sy
