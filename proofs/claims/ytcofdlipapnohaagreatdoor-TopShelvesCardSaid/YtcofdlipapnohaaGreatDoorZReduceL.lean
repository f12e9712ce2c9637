/- Simplified regions as lists: sorted by text, of the meets only those that lie inside no other. No program in sight. -/
import Derived.Lib.Bytealg
import Derived.Test.YtcofdlipapnohaaGreatDoorZMeetL
set_option linter.unusedVariables false
set_option linter.unusedSimpArgs false
namespace Go.Proofs.YtcofdlipapnohaaGreatDoor.Sy
theorem cmp_zero:∀{x y:Str},Lib.compareBytes x y=0↔x=y
 |[],[]=>by simp[Lib.compareBytes]
 |[],b :: y=>by simp[Lib.compareBytes]
 |a :: x,[]=>by simp[Lib.compareBytes]
 |a :: x,b :: y=>by
  have ih:=@cmp_zero x y
  unfold Lib.compareBytes
  by_cases h1:a < b
  ·rw[if_pos h1]
   have:a≠b:=fun e=>by subst e;exact UInt8.lt_irrefl a h1
   simp[this]
  ·rw[if_neg h1]
   by_cases h2:b < a
   ·rw[if_pos h2]
    have:a≠b:=fun e=>by subst e;exact UInt8.lt_irrefl a h2
    simp[this]
   ·rw[if_neg h2,ih]
    have:a=b:=UInt8.le_antisymm (UInt8.not_lt.1 h2) (UInt8.not_lt.1 h1)
    simp[this]
theorem cmp_neg:∀x y:Str,Lib.compareBytes y x=- Lib.compareBytes x y
 |[],[]=>rfl
 |[],b :: y=>rfl
 |a :: x,[]=>rfl
 |a :: x,b :: y=>by
  have ih:=cmp_neg x y
  unfold Lib.compareBytes
  by_cases h1:a < b
  ·rw[if_pos h1,if_neg (fun h2=>UInt8.lt_irrefl a (UInt8.lt_trans h1 h2)),if_pos h1]
   rfl
  ·rw[if_neg h1]
   by_cases h2:b < a
   ·rw[if_pos h2,if_pos h2,if_neg h1]
   ·rw[if_neg h2,if_neg h2,if_neg h1,ih]
theorem cmp_trans:∀{x y z:Str},Lib.compareBytes x y < 0→Lib.compareBytes y z < 0→Lib.compareBytes x z < 0
 |[],_,[],h1,h2=>by
  rename_i y
  cases y <;> simp[Lib.compareBytes] at h1 h2
 |[],_,c :: z,h1,h2=>by simp[Lib.compareBytes]
 |a :: x,[],z,h1,h2=>by simp[Lib.compareBytes] at h1
 |a :: x,b :: y,[],h1,h2=>by simp[Lib.compareBytes] at h2
 |a :: x,b :: y,c :: z,h1,h2=>by
  have ih:=@cmp_trans x y z
  unfold Lib.compareBytes at h1 h2 ⊢
  by_cases ab:a < b
  ·by_cases bc:b < c
   ·rw[if_pos (UInt8.lt_trans ab bc)]
    decide
   ·rw[if_neg bc] at h2
    by_cases cb:c < b
    ·rw[if_pos cb] at h2
     omega
    ·have:b=c:=UInt8.le_antisymm (UInt8.not_lt.1 cb) (UInt8.not_lt.1 bc)
     subst this
     rw[if_pos ab]
     decide
  ·rw[if_neg ab] at h1
   by_cases ba:b < a
   ·rw[if_pos ba] at h1
    omega
   ·rw[if_neg ba] at h1
    have:a=b:=UInt8.le_antisymm (UInt8.not_lt.1 ba) (UInt8.not_lt.1 ab)
    subst this
    by_cases bc:a < c
    ·rw[if_pos bc]
     decide
    ·rw[if_neg bc] at h2 ⊢
     by_cases cb:c < a
     ·rw[if_pos cb] at h2
      omega
     ·rw[if_neg cb] at h2 ⊢
      exact ih h1 h2
def ltT (p q:Pat):Prop:=Lib.compareBytes (patText p) (patText q) < 0
instance (p q:Pat):Decidable (ltT p q):=inferInstanceAs (Decidable (_ < _))
theorem ltT_irrefl (p:Pat):¬ltT p p:=fun h=>by
 have:Lib.compareBytes (patText p) (patText p)=0:=cmp_zero.2 rfl
 unfold ltT at h
 omega
theorem ltT_trans {p q r:Pat} (h1:ltT p q) (h2:ltT q r):ltT p r:=cmp_trans h1 h2
theorem ltT_asymm {p q:Pat} (h1:ltT p q) (h2:ltT q p):False:=ltT_irrefl p (ltT_trans h1 h2)
theorem ltT_total {p q:Pat} (hp:patErr p=0) (hq:patErr q=0) (h1:¬ltT p q) (h2:p≠q):ltT q p:=by
 unfold ltT at h1 ⊢
 have h3:=cmp_neg (patText p) (patText q)
 have h4:Lib.compareBytes (patText p) (patText q)≠0:=fun e=>h2 (patText_inj hp hq (cmp_zero.1 e))
 omega
theorem strict_ext:∀{l m:List Pat},l.Pairwise ltT→m.Pairwise ltT→(∀x,x∈l↔x∈m)→l=m
 |[],[],_,_,_=>rfl
 |[],b :: m,_,_,h=>by
  have:=(h b).2 (by simp)
  cases this
 |a :: l,[],_,_,h=>by
  have:=(h a).1 (by simp)
  cases this
 |a :: l,b :: m,h1,h2,h=>by
  obtain⟨a1,a2⟩:=List.pairwise_cons.1 h1
  obtain⟨b1,b2⟩:=List.pairwise_cons.1 h2
  have hab:a=b:=by
   rcases List.mem_cons.1 ((h a).1 (by simp)) with e | e
   ·exact e
   ·rcases List.mem_cons.1 ((h b).2 (by simp)) with e' | e'
    ·exact e'.symm
    ·exact (ltT_asymm (a1 b e') (b1 a e)).elim
  subst hab
  congr 1
  refine strict_ext a2 b2 fun x=>⟨fun hx=>?_,fun hx=>?_⟩
  ·rcases List.mem_cons.1 ((h x).1 (by simp[hx])) with e | e
   ·subst e
    exact (ltT_irrefl x (a1 x hx)).elim
   ·exact e
  ·rcases List.mem_cons.1 ((h x).2 (by simp[hx])) with e | e
   ·subst e
    exact (ltT_irrefl x (b1 x hx)).elim
   ·exact e
def insT (h:Pat):List Pat→List Pat
 |[]=>[h]
 |k :: r=>if ltT h k then h :: k :: r else if h=k then k :: r else k :: insT h r
def sortT:List Pat→List Pat
 |[]=>[]
 |h :: r=>insT h (sortT r)
theorem insT_mem (h:Pat):∀(l:List Pat) (x:Pat),x∈insT h l↔x=h∨x∈l
 |[],x=>by simp[insT]
 |k :: r,x=>by
  have ih:=insT_mem h r x
  unfold insT
  split
  ·simp
  ·split
   ·rename_i e
    subst e
    simp
   ·rw[List.mem_cons,ih,List.mem_cons]
    constructor
    ·rintro (h | h | h)
     ·exact .inr (.inl h)
     ·exact .inl h
     ·exact .inr (.inr h)
    ·rintro (h | h | h)
     ·exact .inr (.inl h)
     ·exact .inl h
     ·exact .inr (.inr h)
theorem insT_len (h:Pat):∀l:List Pat,(insT h l).length≤l.length+1
 |[]=>Nat.le_refl _
 |k :: r=>by
  have ih:=insT_len h r
  unfold insT
  split
  ·simp
  ·split
   ·simp
   ·simp only[List.length_cons]
    omega
theorem insT_strict {h:Pat} (hh:patErr h=0):∀{l:List Pat},(∀x∈l,patErr x=0)→l.Pairwise ltT→(insT h l).Pairwise ltT
 |[],_,_=>by simp[insT]
 |k :: r,hg,hp=>by
  obtain⟨h1,h2⟩:=List.pairwise_cons.1 hp
  have ih:=insT_strict hh (l:=r) (fun x hx=>hg x (by simp[hx])) h2
  unfold insT
  split
  ·rename_i hlt
   refine List.pairwise_cons.2 ⟨fun x hx=>?_,hp⟩
   rcases List.mem_cons.1 hx with rfl | hx
   ·exact hlt
   ·exact ltT_trans hlt (h1 x hx)
  ·rename_i hlt
   split
   ·exact hp
   ·rename_i hne
    refine List.pairwise_cons.2 ⟨fun x hx=>?_,ih⟩
    rcases (insT_mem h r x).1 hx with rfl | hx
    ·exact ltT_total hh (hg k (by simp)) hlt hne
    ·exact h1 x hx
theorem sortT_mem:∀(l:List Pat) (x:Pat),x∈sortT l↔x∈l
 |[],x=>Iff.rfl
 |h :: r,x=>by rw[sortT,insT_mem,sortT_mem r x,List.mem_cons]
theorem sortT_len:∀l:List Pat,(sortT l).length≤l.length
 |[]=>Nat.le_refl _
 |h :: r=>by
  have h1:=sortT_len r
  have h2:=insT_len h (sortT r)
  rw[sortT,List.length_cons]
  omega
theorem sortT_strict:∀{l:List Pat},(∀x∈l,patErr x=0)→(sortT l).Pairwise ltT
 |[],_=>List.Pairwise.nil
 |h :: r,hg=>by
  rw[sortT]
  exact insT_strict (hg h (by simp)) (fun x hx=>hg x (by simp[(sortT_mem r x).1 hx])) (sortT_strict fun x hx=>hg x (by simp[hx]))
def meetsL (b:Pat) (ps:List Pat):List Pat:=ps.filterMap (meetP b)
def keepIn (ms:List Pat) (h:Pat):Bool:=ms.all fun k=>k == h || !insideP h k
def redL (b:Pat) (ps:List Pat):List Pat:=(sortT (meetsL b ps)).filter (keepIn (meetsL b ps))
theorem keepIn_iff {ms:List Pat} {h:Pat}:keepIn ms h=true↔∀k∈ms,insideP h k=true→k=h:=by
 unfold keepIn
 rw[List.all_eq_true]
 refine forall_congr' fun k=>forall_congr' fun _=>?_
 rw[Bool.or_eq_true,beq_iff_eq]
 constructor
 ·rintro (h | h) h2
  ·exact h
  ·rw[h2] at h
   cases h
 ·intro h2
  rcases hi:insideP h k with _ | _
  ·exact .inr rfl
  ·exact .inl (h2 hi)
theorem meetsL_mem {b:Pat} {ps:List Pat} {m:Pat}:m∈meetsL b ps↔∃p∈ps,meetP b p=some m:=by
 unfold meetsL
 rw[List.mem_filterMap]
theorem meetsL_good {b:Pat} {ps:List Pat}:∀m∈meetsL b ps,patErr m=0:=fun m hm=>by
 obtain⟨p,_,h⟩:=meetsL_mem.1 hm
 exact (meetP_some h).2.2.2
theorem redL_mem {b:Pat} {ps:List Pat} {h:Pat}:h∈redL b ps↔h∈meetsL b ps∧∀k∈meetsL b ps,insideP h k=true→k=h:=by
 unfold redL
 rw[List.mem_filter,sortT_mem,keepIn_iff]
theorem redL_strict (b:Pat) (ps:List Pat):(redL b ps).Pairwise ltT:=List.Pairwise.filter _ (sortT_strict meetsL_good)
theorem meetsL_len (b:Pat) (ps:List Pat):(meetsL b ps).length≤ps.length:=List.length_filterMap_le _ _
theorem redL_len (b:Pat) (ps:List Pat):(redL b ps).length≤ps.length:=by
 have h1:=List.length_filter_le (keepIn (meetsL b ps)) (sortT (meetsL b ps))
 have h2:=sortT_len (meetsL b ps)
 have h3:=meetsL_len b ps
 unfold redL
 omega
theorem redL_good {b:Pat} {ps:List Pat}:∀h∈redL b ps,patErr h=0:=fun h hh=>meetsL_good h (redL_mem.1 hh).1
theorem redL_of {b:Pat} {ps l:List Pat} (h1:l.Pairwise ltT) (h2:∀h,h∈l↔h∈meetsL b ps∧∀k∈meetsL b ps,insideP h k=true→k=h):l=redL b ps:=
 strict_ext h1 (redL_strict b ps) fun x=>(h2 x).trans redL_mem.symm
theorem top_above:∀(n:Nat) (ms:List Pat),ms.length≤n→(∀m∈ms,patErr m=0)→∀m∈ms,∃k∈ms,insideP m k=true∧∀j∈ms,insideP k j=true→j=k
 |0,ms,hn,hg,m,hm=>by
  have:=List.eq_nil_of_length_eq_zero (Nat.le_zero.1 hn)
  rw[this] at hm
  cases hm
 |n+1,ms,hn,hg,m,hm=>by
  have om:=allOk_of (hg m hm)
  by_cases htop:∃j∈ms,insideP m j=true∧j≠m
  ·obtain⟨j,hj,hin,hne⟩:=htop
   have hmem:∀k,k∈(ms.filter fun k=>insideP m k && k != m)↔k∈ms∧insideP m k=true∧k≠m:=fun k=>by simp[List.mem_filter]
   have hlt:(ms.filter fun k=>insideP m k && k != m).length < ms.length:=by
    rw[List.length_filter_lt_length_iff_exists]
    exact⟨m,hm,by simp⟩
   obtain⟨k,h1,h2,h3⟩:=top_above n (ms.filter fun k=>insideP m k && k != m) (by omega) (fun x hx=>hg x ((hmem x).1 hx).1) j ((hmem j).2 ⟨hj,hin,hne⟩)
   obtain⟨h4,h5,h6⟩:=(hmem k).1 h1
   have ok:=allOk_of (hg k h4)
   refine⟨k,h4,h5,fun i hi hki=>?_⟩
   refine h3 i ((hmem i).2 ⟨hi,insideP_trans om ok h5 hki,?_⟩) hki
   rintro rfl
   exact h6 (insideP_antisymm ok om hki h5)
  ·exact⟨m,hm,insideP_refl om,fun j hj hin=>Classical.byContradiction fun hne=>htop ⟨j,hj,hin,hne⟩⟩
theorem redL_above {b:Pat} {ps:List Pat} {m:Pat} (hm:m∈meetsL b ps):∃k∈redL b ps,insideP m k=true:=by
 obtain⟨k,h1,h2,h3⟩:=top_above _ _ (Nat.le_refl _) meetsL_good m hm
 exact⟨k,redL_mem.2 ⟨h1,h3⟩,h2⟩
/-! ### the laws -/
theorem meetP_inside {b h:Pat} (hb:patErr b=0) (hh:patErr h=0) (hi:insideP h b=true):meetP b h=some h:=by
 rw[meetP,if_pos ⟨hb,hh⟩]
 exact meetL_inside (allOk_of hb) (allOk_of hh) hi
theorem redL_has {b:Pat} {ps:List Pat} (hb:patErr b=0) (hp:∀p∈ps,patErr p=0) {l:List Str} (hc:l.all comp=true):hasL b (redL b ps) l=hasL b ps l:=by
 unfold hasL
 rcases hm:matchL b l with _ | _
 ·rfl
 ·rw[Bool.true_and,Bool.true_and]
  congr 1
  rw[Bool.eq_iff_iff,List.any_eq_true,List.any_eq_true]
  constructor
  ·rintro⟨h,hh,hl⟩
   obtain⟨p,hps,hmt⟩:=meetsL_mem.1 (redL_mem.1 hh).1
   obtain⟨h1,h2,h3,_⟩:=meetP_some hmt
   have:=meetL_match (allOk_of h1) (allOk_of h2) h3 hc
   rw[hl,hm,Bool.true_and] at this
   exact⟨p,hps,this.symm⟩
  ·rintro⟨p,hps,hl⟩
   rcases hmt:meetP b p with _ | m
   ·rw[meetP,if_pos ⟨hb,hp p hps⟩] at hmt
    have:=meetL_nomatch hmt hc
    rw[hm,hl] at this
    cases this
   ·obtain⟨h1,h2,h3,h4⟩:=meetP_some hmt
    obtain⟨k,hk,hi⟩:=redL_above (meetsL_mem.2 ⟨p,hps,hmt⟩)
    have:=meetL_match (allOk_of h1) (allOk_of h2) h3 hc
    rw[hl,hm] at this
    exact⟨k,hk,insideP_match (allOk_of h4) hi hc this⟩
def leT (p q:Pat):Prop:=Lib.compareBytes (patText p) (patText q)≤0
theorem leT_trans {p q r:Pat} (h1:leT p q) (h2:leT q r):leT p r:=by
 unfold leT at *
 by_cases e1:Lib.compareBytes (patText p) (patText q)=0
 ·rw[cmp_zero.1 e1]
  exact h2
 ·by_cases e2:Lib.compareBytes (patText q) (patText r)=0
  ·rw[←cmp_zero.1 e2]
   exact h1
  ·have:=cmp_trans (x:=patText p) (y:=patText q) (z:=patText r) (by omega) (by omega)
   omega
def keepT (cs:List Pat) (h:Pat):Bool:=!(cs.any fun o=>(patText o != patText h) && insideP h o)
theorem redL_prog2 {b:Pat} {ps cs:List Pat} (hm:∀x,x∈cs↔x∈meetsL b ps) (hs:cs.Pairwise ltT):cs.filter (keepT cs)=redL b ps:=by
 refine redL_of (List.Pairwise.filter _ hs) fun h=>?_
 rw[List.mem_filter,hm]
 refine and_congr_right fun hh=>?_
 have gh:=meetsL_good h hh
 unfold keepT
 rw[Bool.not_eq_true',List.any_eq_false]
 constructor
 ·intro H k hk hi
  have:=H k ((hm k).2 hk)
  rw[hi,Bool.and_true,bne_iff_ne,ne_eq,Classical.not_not] at this
  exact patText_inj (meetsL_good k hk) gh this
 ·intro H k hk hx
  rw[Bool.and_eq_true,bne_iff_ne] at hx
  exact hx.1 (by rw[H k ((hm k).1 hk) hx.2])
end Go.Proofs.YtcofdlipapnohaaGreatDoor.Sy
