/- Mappings: what they are, when they are ones. No program in sight. -/
import Derived.Lib.Bytealg
import Derived.Test.YtnlnclefedohkaaGreatDoorZMeetL
import Derived.Test.YtnlnclefedohkaaGreatDoorZView
import Derived.Test.YtnlnclefedohkaaGreatDoorZNarL
set_option linter.unusedVariables false
set_option linter.unusedSimpArgs false
namespace Go.Proofs.YtnlnclefedohkaaGreatDoor.Sy

theorem cmp_zero : ∀ {x y : Str},Lib.compareBytes x y = 0 ↔ x = y
 |[],[]=>by simp [Lib.compareBytes]
 |[],b :: y=>by simp [Lib.compareBytes]
 |a :: x,[]=>by simp [Lib.compareBytes]
 |a :: x,b :: y=>by
  have ih:=@cmp_zero x y
  unfold Lib.compareBytes
  by_cases h1 : a < b
  ·rw [if_pos h1]
   have : a ≠ b:=fun e=>by subst e;exact UInt8.lt_irrefl a h1
   simp [this]
  ·rw [if_neg h1]
   by_cases h2 : b < a
   ·rw [if_pos h2]
    have : a ≠ b:=fun e=>by subst e;exact UInt8.lt_irrefl a h2
    simp [this]
   ·rw [if_neg h2,ih]
    have : a = b:=UInt8.le_antisymm (UInt8.not_lt.1 h2) (UInt8.not_lt.1 h1)
    simp [this]
theorem cmp_neg : ∀ x y : Str,Lib.compareBytes y x = - Lib.compareBytes x y
 |[],[]=>rfl
 |[],b :: y=>rfl
 |a :: x,[]=>rfl
 |a :: x,b :: y=>by
  have ih:=cmp_neg x y
  unfold Lib.compareBytes
  by_cases h1 : a < b
  ·rw [if_pos h1,if_neg (fun h2=>UInt8.lt_irrefl a (UInt8.lt_trans h1 h2)),if_pos h1]
   rfl
  ·rw [if_neg h1]
   by_cases h2 : b < a
   ·rw [if_pos h2,if_pos h2,if_neg h1]
   ·rw [if_neg h2,if_neg h2,if_neg h1,ih]
theorem cmp_trans : ∀ {x y z : Str},Lib.compareBytes x y < 0 → Lib.compareBytes y z < 0 → Lib.compareBytes x z < 0
 |[],_,[],h1,h2=>by
  rename_i y
  cases y <;> simp [Lib.compareBytes] at h1 h2
 |[],_,c :: z,h1,h2=>by simp [Lib.compareBytes]
 |a :: x,[],z,h1,h2=>by simp [Lib.compareBytes] at h1
 |a :: x,b :: y,[],h1,h2=>by simp [Lib.compareBytes] at h2
 |a :: x,b :: y,c :: z,h1,h2=>by
  have ih:=@cmp_trans x y z
  unfold Lib.compareBytes at h1 h2 ⊢
  by_cases ab : a < b
  ·by_cases bc : b < c
   ·rw [if_pos (UInt8.lt_trans ab bc)]
    decide
   ·rw [if_neg bc] at h2
    by_cases cb : c < b
    ·rw [if_pos cb] at h2
     omega
    ·have : b = c:=UInt8.le_antisymm (UInt8.not_lt.1 cb) (UInt8.not_lt.1 bc)
     subst this
     rw [if_pos ab]
     decide
  ·rw [if_neg ab] at h1
   by_cases ba : b < a
   ·rw [if_pos ba] at h1
    omega
   ·rw [if_neg ba] at h1
    have : a = b:=UInt8.le_antisymm (UInt8.not_lt.1 ba) (UInt8.not_lt.1 ab)
    subst this
    by_cases bc : a < c
    ·rw [if_pos bc]
     decide
    ·rw [if_neg bc] at h2 ⊢
     by_cases cb : c < a
     ·rw [if_pos cb] at h2
      omega
     ·rw [if_neg cb] at h2 ⊢
      exact ih h1 h2
def ltT (p q : Pat) : Prop:=Lib.compareBytes (patText p) (patText q) < 0
instance (p q : Pat) : Decidable (ltT p q):=inferInstanceAs (Decidable (_ < _))
theorem ltT_irrefl (p : Pat) : ¬ ltT p p:=fun h=>by
 have : Lib.compareBytes (patText p) (patText p) = 0:=cmp_zero.2 rfl
 unfold ltT at h
 omega
theorem ltT_trans {p q r : Pat} (h1 : ltT p q) (h2 : ltT q r) : ltT p r:=cmp_trans h1 h2
theorem ltT_asymm {p q : Pat} (h1 : ltT p q) (h2 : ltT q p) : False:=ltT_irrefl p (ltT_trans h1 h2)
theorem ltT_total {p q : Pat} (hp : patErr p = 0) (hq : patErr q = 0) (h1 : ¬ ltT p q) (h2 : p ≠ q) : ltT q p:=by
 unfold ltT at h1 ⊢
 have h3:=cmp_neg (patText p) (patText q)
 have h4 : Lib.compareBytes (patText p) (patText q) ≠ 0:=fun e=>h2 (patText_inj hp hq (cmp_zero.1 e))
 omega
theorem strict_ext : ∀ {l m : List Pat},l.Pairwise ltT → m.Pairwise ltT → (∀ x,x ∈ l ↔ x ∈ m) → l = m
 |[],[],_,_,_=>rfl
 |[],b :: m,_,_,h=>by
  have:=(h b).2 (by simp)
  cases this
 |a :: l,[],_,_,h=>by
  have:=(h a).1 (by simp)
  cases this
 |a :: l,b :: m,h1,h2,h=>by
  obtain ⟨a1,a2⟩:=List.pairwise_cons.1 h1
  obtain ⟨b1,b2⟩:=List.pairwise_cons.1 h2
  have hab : a = b:=by
   rcases List.mem_cons.1 ((h a).1 (by simp)) with e | e
   ·exact e
   ·rcases List.mem_cons.1 ((h b).2 (by simp)) with e' | e'
    ·exact e'.symm
    ·exact (ltT_asymm (a1 b e') (b1 a e)).elim
  subst hab
  congr 1
  refine strict_ext a2 b2 fun x=>⟨fun hx=>?_,fun hx=>?_⟩
  ·rcases List.mem_cons.1 ((h x).1 (by simp [hx])) with e | e
   ·subst e
    exact (ltT_irrefl x (a1 x hx)).elim
   ·exact e
  ·rcases List.mem_cons.1 ((h x).2 (by simp [hx])) with e | e
   ·subst e
    exact (ltT_irrefl x (b1 x hx)).elim
   ·exact e

def insT (h : Pat) : List Pat → List Pat
 |[]=>[h]
 |k :: r=>if ltT h k then h :: k :: r else if h = k then k :: r else k :: insT h r
def sortT : List Pat → List Pat
 |[]=>[]
 |h :: r=>insT h (sortT r)
theorem insT_mem (h : Pat) : ∀ (l : List Pat) (x : Pat),x ∈ insT h l ↔ x = h ∨ x ∈ l
 |[],x=>by simp [insT]
 |k :: r,x=>by
  have ih:=insT_mem h r x
  unfold insT
  split
  ·simp
  ·split
   ·rename_i e
    subst e
    simp
   ·rw [List.mem_cons,ih,List.mem_cons]
    constructor
    ·rintro (h | h | h)
     ·exact .inr (.inl h)
     ·exact .inl h
     ·exact .inr (.inr h)
    ·rintro (h | h | h)
     ·exact .inr (.inl h)
     ·exact .inl h
     ·exact .inr (.inr h)
theorem insT_len (h : Pat) : ∀ l : List Pat,(insT h l).length ≤ l.length + 1
 |[]=>Nat.le_refl _
 |k :: r=>by
  have ih:=insT_len h r
  unfold insT
  split
  ·simp
  ·split
   ·simp
   ·simp only [List.length_cons]
    omega
theorem insT_strict {h : Pat} (hh : patErr h = 0) : ∀ {l : List Pat},(∀ x ∈ l,patErr x = 0) → l.Pairwise ltT → (insT h l).Pairwise ltT
 |[],_,_=>by simp [insT]
 |k :: r,hg,hp=>by
  obtain ⟨h1,h2⟩:=List.pairwise_cons.1 hp
  have ih:=insT_strict hh (l:=r) (fun x hx=>hg x (by simp [hx])) h2
  unfold insT
  split
  ·rename_i hlt
   refine List.pairwise_cons.2 ⟨fun x hx=>?_,hp⟩
   rcases List.mem_cons.1 hx with rfl | hx
   ·exact hlt
   ·exact ltT_trans hlt (h1 x hx)
  ·rename_i hlt
   split
   ·exact hp
   ·rename_i hne
    refine List.pairwise_cons.2 ⟨fun x hx=>?_,ih⟩
    rcases (insT_mem h r x).1 hx with rfl | hx
    ·exact ltT_total hh (hg k (by simp)) hlt hne
    ·exact h1 x hx
theorem sortT_mem : ∀ (l : List Pat) (x : Pat),x ∈ sortT l ↔ x ∈ l
 |[],x=>Iff.rfl
 |h :: r,x=>by rw [sortT,insT_mem,sortT_mem r x,List.mem_cons]
theorem sortT_len : ∀ l : List Pat,(sortT l).length ≤ l.length
 |[]=>Nat.le_refl _
 |h :: r=>by
  have h1:=sortT_len r
  have h2:=insT_len h (sortT r)
  rw [sortT,List.length_cons]
  omega
theorem sortT_strict : ∀ {l : List Pat},(∀ x ∈ l,patErr x = 0) → (sortT l).Pairwise ltT
 |[],_=>List.Pairwise.nil
 |h :: r,hg=>by
  rw [sortT]
  exact insT_strict (hg h (by simp)) (fun x hx=>hg x (by simp [(sortT_mem r x).1 hx])) (sortT_strict fun x hx=>hg x (by simp [hx]))

def meetsL (b : Pat) (ps : List Pat) : List Pat:=ps.filterMap (meetP b)
def keepIn (ms : List Pat) (h : Pat) : Bool:=ms.all fun k=>k == h || !insideP h k
def redL (b : Pat) (ps : List Pat) : List Pat:=(sortT (meetsL b ps)).filter (keepIn (meetsL b ps))
theorem keepIn_iff {ms : List Pat} {h : Pat} : keepIn ms h = true ↔ ∀ k ∈ ms,insideP h k = true → k = h:=by
 unfold keepIn
 rw [List.all_eq_true]
 refine forall_congr' fun k=>forall_congr' fun _=>?_
 rw [Bool.or_eq_true,beq_iff_eq]
 constructor
 ·rintro (h | h) h2
  ·exact h
  ·rw [h2] at h
   cases h
 ·intro h2
  rcases hi : insideP h k with _ | _
  ·exact .inr rfl
  ·exact .inl (h2 hi)
theorem meetsL_mem {b : Pat} {ps : List Pat} {m : Pat} : m ∈ meetsL b ps ↔ ∃ p ∈ ps,meetP b p = some m:=by
 unfold meetsL
 rw [List.mem_filterMap]
theorem meetsL_good {b : Pat} {ps : List Pat} : ∀ m ∈ meetsL b ps,patErr m = 0:=fun m hm=>by
 obtain ⟨p,_,h⟩:=meetsL_mem.1 hm
 exact (meetP_some h).2.2.2
theorem redL_mem {b : Pat} {ps : List Pat} {h : Pat} : h ∈ redL b ps ↔ h ∈ meetsL b ps ∧ ∀ k ∈ meetsL b ps,insideP h k = true → k = h:=by
 unfold redL
 rw [List.mem_filter,sortT_mem,keepIn_iff]
theorem redL_strict (b : Pat) (ps : List Pat) : (redL b ps).Pairwise ltT:=List.Pairwise.filter _ (sortT_strict meetsL_good)
theorem meetsL_len (b : Pat) (ps : List Pat) : (meetsL b ps).length ≤ ps.length:=List.length_filterMap_le _ _
theorem redL_len (b : Pat) (ps : List Pat) : (redL b ps).length ≤ ps.length:=by
 have h1:=List.length_filter_le (keepIn (meetsL b ps)) (sortT (meetsL b ps))
 have h2:=sortT_len (meetsL b ps)
 have h3:=meetsL_len b ps
 unfold redL
 omega
theorem redL_good {b : Pat} {ps : List Pat} : ∀ h ∈ redL b ps,patErr h = 0:=fun h hh=>meetsL_good h (redL_mem.1 hh).1
theorem redL_of {b : Pat} {ps l : List Pat} (h1 : l.Pairwise ltT) (h2 : ∀ h,h ∈ l ↔ h ∈ meetsL b ps ∧ ∀ k ∈ meetsL b ps,insideP h k = true → k = h) : l = redL b ps:=
 strict_ext h1 (redL_strict b ps) fun x=>(h2 x).trans redL_mem.symm
theorem top_above : ∀ (n : Nat) (ms : List Pat),ms.length ≤ n → (∀ m ∈ ms,patErr m = 0) → ∀ m ∈ ms,∃ k ∈ ms,insideP m k = true ∧ ∀ j ∈ ms,insideP k j = true → j = k
 |0,ms,hn,hg,m,hm=>by
  have:=List.eq_nil_of_length_eq_zero (Nat.le_zero.1 hn)
  rw [this] at hm
  cases hm
 |n + 1,ms,hn,hg,m,hm=>by
  have om:=allOk_of (hg m hm)
  by_cases htop : ∃ j ∈ ms,insideP m j = true ∧ j ≠ m
  ·obtain ⟨j,hj,hin,hne⟩:=htop
   have hmem : ∀ k,k ∈ (ms.filter fun k=>insideP m k && k != m) ↔ k ∈ ms ∧ insideP m k = true ∧ k ≠ m:=fun k=>by simp [List.mem_filter]
   have hlt : (ms.filter fun k=>insideP m k && k != m).length < ms.length:=by
    rw [List.length_filter_lt_length_iff_exists]
    exact ⟨m,hm,by simp⟩
   obtain ⟨k,h1,h2,h3⟩:=top_above n (ms.filter fun k=>insideP m k && k != m) (by omega) (fun x hx=>hg x ((hmem x).1 hx).1) j ((hmem j).2 ⟨hj,hin,hne⟩)
   obtain ⟨h4,h5,h6⟩:=(hmem k).1 h1
   have ok:=allOk_of (hg k h4)
   refine ⟨k,h4,h5,fun i hi hki=>?_⟩
   refine h3 i ((hmem i).2 ⟨hi,insideP_trans om ok h5 hki,?_⟩) hki
   rintro rfl
   exact h6 (insideP_antisymm ok om hki h5)
  ·exact ⟨m,hm,insideP_refl om,fun j hj hin=>Classical.byContradiction fun hne=>htop ⟨j,hj,hin,hne⟩⟩
theorem redL_above {b : Pat} {ps : List Pat} {m : Pat} (hm : m ∈ meetsL b ps) : ∃ k ∈ redL b ps,insideP m k = true:=by
 obtain ⟨k,h1,h2,h3⟩:=top_above _ _ (Nat.le_refl _) meetsL_good m hm
 exact ⟨k,redL_mem.2 ⟨h1,h3⟩,h2⟩

/-! ### the laws -/
theorem meetP_inside {b h : Pat} (hb : patErr b = 0) (hh : patErr h = 0) (hi : insideP h b = true) : meetP b h = some h:=by
 rw [meetP,if_pos ⟨hb,hh⟩]
 exact meetL_inside (allOk_of hb) (allOk_of hh) hi
def leT (p q : Pat) : Prop:=Lib.compareBytes (patText p) (patText q) ≤ 0
theorem leT_trans {p q r : Pat} (h1 : leT p q) (h2 : leT q r) : leT p r:=by
 unfold leT at *
 by_cases e1 : Lib.compareBytes (patText p) (patText q) = 0
 ·rw [cmp_zero.1 e1]
  exact h2
 ·by_cases e2 : Lib.compareBytes (patText q) (patText r) = 0
  ·rw [← cmp_zero.1 e2]
   exact h1
  ·have:=cmp_trans (x:=patText p) (y:=patText q) (z:=patText r) (by omega) (by omega)
   omega
def keepT (cs : List Pat) (h : Pat) : Bool:=!(cs.any fun o=>(patText o != patText h) && insideP h o)
theorem redL_prog2 {b : Pat} {ps cs : List Pat} (hm : ∀ x,x ∈ cs ↔ x ∈ meetsL b ps) (hs : cs.Pairwise ltT) : cs.filter (keepT cs) = redL b ps:=by
 refine redL_of (List.Pairwise.filter _ hs) fun h=>?_
 rw [List.mem_filter,hm]
 refine and_congr_right fun hh=>?_
 have gh:=meetsL_good h hh
 unfold keepT
 rw [Bool.not_eq_true',List.any_eq_false]
 constructor
 ·intro H k hk hi
  have:=H k ((hm k).2 hk)
  rw [hi,Bool.and_true,bne_iff_ne,ne_eq,Classical.not_not] at this
  exact patText_inj (meetsL_good k hk) gh this
 ·intro H k hk hx
  rw [Bool.and_eq_true,bne_iff_ne] at hx
  exact hx.1 (by rw [H k ((hm k).1 hk) hx.2])

/-! ### the reference's way: sorted; those behind an equal one, or inside another, left out -/
def keepR (ds : List Pat) (i : Nat) : Bool:=(List.range ds.length).all fun j=>match ds[i]?,ds[j]? with
 |some h,some k=>!(decide (i ≠ j) && insideP h k && (decide (j < i) || decide (h ≠ k)))
 |_,_=>true
def refKeep (ds : List Pat) (n : Nat) : List Pat:=(List.range n).filterMap fun i=>if keepR ds i then ds[i]? else none
theorem keepR_iff {ds : List Pat} {i : Nat} {h : Pat} (hi : ds[i]? = some h) : keepR ds i = true ↔ ∀ j k,ds[j]? = some k → i ≠ j → insideP h k = true → i < j ∧ h = k:=by
 unfold keepR
 rw [List.all_eq_true,hi]
 constructor
 ·intro H j k hj hne hin
  have hjl:=(List.getElem?_eq_some_iff.1 hj).1
  have:=H j (List.mem_range.2 hjl)
  rw [hj] at this
  simp only [hin,Bool.and_true,hne,ne_eq,not_false_eq_true,decide_true,Bool.true_and,Bool.not_eq_true',Bool.or_eq_false_iff,decide_eq_false_iff_not,Classical.not_not] at this
  exact ⟨by omega,this.2⟩
 ·intro H j hj
  rcases hk : ds[j]? with _ | k
  ·rfl
  ·simp only
   rw [Bool.not_eq_true']
   rcases hin : insideP h k with _ | _
   ·simp
   ·by_cases hne : i = j
    ·simp [hne]
    ·obtain ⟨h1,h2⟩:=H j k hk hne hin
     simp [h2,hne]
     omega
theorem refKeep_mem {ds : List Pat} {h : Pat} : h ∈ refKeep ds ds.length ↔ ∃ i,ds[i]? = some h ∧ keepR ds i = true:=by
 unfold refKeep
 rw [List.mem_filterMap]
 constructor
 ·rintro ⟨i,_,hi⟩
  split at hi
  ·rename_i hk
   exact ⟨i,hi,hk⟩
  ·cases hi
 ·rintro ⟨i,hi,hk⟩
  exact ⟨i,List.mem_range.2 (List.getElem?_eq_some_iff.1 hi).1,by rw [if_pos hk,hi]⟩
theorem first_ix {ds : List Pat} {h : Pat} (hm : h ∈ ds) : ∃ i : Nat,ds[i]? = some h ∧ ∀ j : Nat,j < i → ds[j]? ≠ some h:=by
 induction ds with
 |nil=>cases hm
 |cons a r ih=>
  by_cases e : a = h
  ·exact ⟨0,by simp [e],fun j hj=>absurd hj (Nat.not_lt_zero _)⟩
  ·obtain ⟨i,h1,h2⟩:=ih ((List.mem_cons.1 hm).resolve_left (Ne.symm e))
   refine ⟨i + 1,by simpa using h1,fun j hj=>?_⟩
   cases j with
   |zero=>simpa using e
   |succ j=>simpa using h2 j (by omega)
theorem redL_ref {b : Pat} {ps ds : List Pat} (hm : ∀ x,x ∈ ds ↔ x ∈ meetsL b ps) (hs : ds.Pairwise leT) : refKeep ds ds.length = redL b ps:=by
 have hg : ∀ x ∈ ds,patErr x = 0:=fun x hx=>meetsL_good x ((hm x).1 hx)
 refine redL_of ?_ fun h=>?_
 ·unfold refKeep
  rw [List.pairwise_filterMap]
  refine List.Pairwise.imp_of_mem ?_ List.pairwise_lt_range
  intro i j _ _ hij x hx y hy
  split at hx
  ·rename_i hki
   split at hy
   ·rename_i hkj
    have h1 : leT x y:=by
     obtain ⟨li,ei⟩:=List.getElem?_eq_some_iff.1 hx
     obtain ⟨lj,ej⟩:=List.getElem?_eq_some_iff.1 hy
     have:=(List.pairwise_iff_getElem.1 hs) i j li lj hij
     rw [ei,ej] at this
     exact this
    have gx:=hg x (List.mem_of_getElem? hx)
    have gy:=hg y (List.mem_of_getElem? hy)
    have hne : x ≠ y:=fun e=>by
     subst e
     have:=(keepR_iff hy).1 hkj i x hx (by omega) (insideP_refl (allOk_of gx))
     omega
    have h2 : Lib.compareBytes (patText x) (patText y) ≠ 0:=fun e=>hne (patText_inj gx gy (cmp_zero.1 e))
    unfold leT at h1
    unfold ltT
    omega
   ·cases hy
  ·cases hx
 ·rw [refKeep_mem]
  constructor
  ·rintro ⟨i,hi,hk⟩
   refine ⟨(hm h).1 (List.mem_of_getElem? hi),fun k hk2 hin=>?_⟩
   obtain ⟨j,hj,e⟩:=List.mem_iff_getElem.1 ((hm k).2 hk2)
   have hj2 : ds[j]? = some k:=by rw [List.getElem?_eq_getElem hj,e]
   by_cases hij : i = j
   ·subst hij
    rw [hi] at hj2
    exact (Option.some.inj hj2).symm
   ·exact ((keepR_iff hi).1 hk j k hj2 hij hin).2.symm
  ·rintro ⟨h1,h2⟩
   obtain ⟨i,hi,hf⟩:=first_ix ((hm h).2 h1)
   refine ⟨i,hi,(keepR_iff hi).2 fun j k hj hij hin=>?_⟩
   have e:=h2 k ((hm k).1 (List.mem_of_getElem? hj)) hin
   subst e
   refine ⟨?_,rfl⟩
   rcases Nat.lt_or_ge i j with h | h
   ·exact h
   ·exact absurd hj (hf j (by omega))
end Go.Proofs.YtnlnclefedohkaaGreatDoor.Sy
set_option linter.unusedVariables false
set_option linter.unusedSimpArgs false
namespace Go.Proofs.YtnlnclefedohkaaGreatDoor.Sy

structure Reg where
 b : Pat
 hs : List Pat
deriving DecidableEq,Inhabited

def gErr (g : Reg) : Int:=regErr g.b g.hs
theorem gErr_zero {g : Reg} (h : gErr g = 0) : patErr g.b = 0 ∧ (∀ p ∈ g.hs,patErr p = 0) ∧ g.hs.length ≤ 64:=by
 unfold gErr regErr at h
 split at h
 ·cases h
 ·rename_i h1
  split at h
  ·cases h
  ·rename_i h2
   split at h
   ·cases h
   ·rename_i h3
    refine ⟨by omega,fun p hp=>?_,by omega⟩
    rw [Bool.not_eq_true,List.any_eq_false] at h2
    have:=h2 p hp
    simpa using this
theorem gErr_of {g : Reg} (h1 : patErr g.b = 0) (h2 : ∀ p ∈ g.hs,patErr p = 0) (h3 : g.hs.length ≤ 64) : gErr g = 0:=by
 unfold gErr
 rw [regErr_end h1 (fun j h _ hj=>h2 h (List.mem_of_getElem? hj)),if_neg (by omega)]
end Go.Proofs.YtnlnclefedohkaaGreatDoor.Sy
set_option linter.unusedVariables false
set_option linter.unusedSimpArgs false
namespace Go.Proofs.YtnlnclefedohkaaGreatDoor.Sy

end Go.Proofs.YtnlnclefedohkaaGreatDoor.Sy
set_option linter.unusedVariables false
set_option linter.unusedSimpArgs false
namespace Go.Proofs.YtnlnclefedohkaaGreatDoor.Sy

structure Ent where
 left : Pat
 right : Pat
 hs : List Pat
deriving DecidableEq,Inhabited
def Ent.reg (x : Ent) : Reg:=⟨x.left,x.hs⟩
def Ent.rule (x : Ent) : Rule:=⟨false,x.left,x.right⟩
end Go.Proofs.YtnlnclefedohkaaGreatDoor.Sy
set_option linter.unusedVariables false
set_option linter.unusedSimpArgs false
namespace Go.Proofs.YtnlnclefedohkaaGreatDoor.Sy
theorem free_path {b : Pat} {hs : List Pat} {n : Nat} (hb : allOk b) (hr : reaches b n = true) (hlen : hs.length ≤ 64) (hf : full b hs n = false) : hasL b hs (comps b hs n n) = true ∧ (comps b hs n n).length = n ∧ (comps b hs n n).all comp = true:=by
 have hc:=comps_comp hb hs n n
 have hl:=comps_length b hs n n
 refine ⟨?_,hl,hc⟩
 rw [hasL,Bool.and_eq_true]
 constructor
 ·refine matchL_true.2 ⟨by rw [hl];exact hr,fun j hj=>?_⟩
  have hjn:=Nat.lt_of_lt_of_le hj (reaches_le hr)
  rw [comps_at hjn]
  have:=pick_mtch (b:=b) hs n (comps b hs n j)
  rw [comps_length] at this
  exact this
 ·simp only [Bool.not_eq_true',List.any_eq_false]
  intro q hq hm
  have hI:=inv_comps hf hlen n q hq
  rw [hl] at hI
  have ho:=matchL_open (p:=q) hc
  rw [hl] at ho
  have:=hI (by rw [ho];exact hm)
  have ht : covers q b n n = true:=covers_true.2 fun j h1 h2=>by omega
  rw [ht] at this
  cases this
theorem full_any (b : Pat) (hs : List Pat) (n : Nat) : full b hs n = hs.any fun h=>full b [h] n:=by
 simp [full]
theorem full_one {b h : Pat} {n : Nat} (hb : allOk b) (hr : reaches b n = true) : full b [h] n = true ↔ ∀ l : List Str,l.length = n → l.all comp = true → matchL b l = true → matchL h l = true:=by
 constructor
 ·intro hf l hl hc hm
  have:=full_match (hs:=[h]) hc hm (by rw [hl];exact hf)
  rw [hasL,hm] at this
  simpa using this
 ·intro H
  rcases hf : full b [h] n with _ | _
  ·obtain ⟨h1,h2,h3⟩:=free_path hb hr (by simp) hf
   rw [hasL,Bool.and_eq_true] at h1
   have:=H _ h2 h3 h1.1
   simp [this] at h1
  ·rfl
theorem some_path {b : Pat} {n : Nat} (hb : allOk b) (hr : reaches b n = true) : ∃ l : List Str,l.length = n ∧ l.all comp = true ∧ matchL b l = true:=by
 obtain ⟨h1,h2,h3⟩:=free_path (hs:=[]) hb hr (by simp) (by simp [full])
 rw [hasL,Bool.and_eq_true] at h1
 exact ⟨_,h2,h3,h1.1⟩
theorem below_fullF {b : Pat} {hs : List Pat} {m : Nat} (h0 : 0 < b.parts.length) (hr : reaches b m = true) (h : leastLen b hs = 0 ∨ m < leastLen b hs) : full b hs m = true:=by
 obtain ⟨h1,h2⟩:=reaches_first hr
 rcases Nat.lt_or_ge (lastLen b hs) m with hbig | hsm
 ·have hrest : b.rest = true:=by
   rcases hre : b.rest with _ | _
   ·have h3:=h2 hre
    unfold lastLen at hbig
    unfold firstLen at h3
    rw [hre] at hbig h3
    simp at hbig h3
    omega
   ·rfl
  have hl0 : lastLen b hs = hs.foldl (fun m h=>max m (h.parts.length + 1)) (b.parts.length + 1):=by rw [lastLen,if_pos hrest]
  have hf0 : firstLen b = b.parts.length + 1:=by rw [firstLen,if_pos hrest]
  obtain ⟨g1,g2⟩:=last_max (hs:=hs) (b.parts.length + 1)
  rw [← hl0] at g1 g2
  have hz : leastLen b hs = 0:=by
   rcases h with h | h
   ·exact h
   ·have:=(seek_in (b:=b) (hs:=hs) (lastLen b hs + 1 - firstLen b) (firstLen b) (by unfold leastLen at h;omega)).2
    unfold leastLen at h
    omega
  have hfl : full b hs (lastLen b hs) = true:=seek_lt (lastLen b hs + 1 - firstLen b) (firstLen b) (lastLen b hs) (by omega) (by omega) (by omega) (.inl hz)
  simp only [full,List.any_eq_true,Bool.and_eq_true] at hfl
  obtain ⟨q,hm,hrq,hcov⟩:=hfl
  have hq:=g2 q hm
  have hqr : q.rest = true:=by
   rcases hre : q.rest with _ | _
   ·unfold reaches at hrq
    rw [hre] at hrq
    simp at hrq
    omega
   ·rfl
  simp only [full,List.any_eq_true,Bool.and_eq_true]
  exact ⟨q,hm,by rw [reaches,hqr];simp;omega,covers_true.2 fun j j1 j2 j3=>covers_true.1 hcov j j1 (by omega) j3⟩
 ·exact seek_lt _ (firstLen b) m (by unfold firstLen;split <;> omega) h1 (by omega) h
theorem zero_iff {b : Pat} {hs : List Pat} (h0 : 0 < b.parts.length) : leastLen b hs = 0 ↔ ∀ n,reaches b n = true → full b hs n = true:=by
 constructor
 ·exact fun h n hr=>below_fullF h0 hr (.inl h)
 ·intro H
  apply Classical.byContradiction
  intro hne
  have h1:=leastLen_full hne
  rw [H _ (least_reaches hne)] at h1
  cases h1
theorem red_full {m x : Pat} {ps : List Pat} {n : Nat} (hm : allOk m) (hr : reaches m n = true) (hx : patErr x = 0) (hps : ∀ p ∈ ps,patErr p = 0) (hin : ∀ l : List Str,l.all comp = true → matchL m l = true → matchL x l = true) : full m (redL x ps) n = full m ps n:=by
 rw [full_any m (redL x ps),full_any m ps,Bool.eq_iff_iff,List.any_eq_true,List.any_eq_true]
 constructor
 ·rintro ⟨k,hk,hf⟩
  obtain ⟨p,hp,hmt⟩:=meetsL_mem.1 (redL_mem.1 hk).1
  obtain ⟨g1,g2,g3,_⟩:=meetP_some hmt
  refine ⟨p,hp,(full_one hm hr).2 fun l hl hc hml=>?_⟩
  have h1:=(full_one hm hr).1 hf l hl hc hml
  rw [meetL_match (allOk_of g1) (allOk_of g2) g3 hc,Bool.and_eq_true] at h1
  exact h1.2
 ·rintro ⟨p,hp,hf⟩
  obtain ⟨l0,hl0,hc0,hm0⟩:=some_path hm hr
  rcases hmt : meetP x p with _ | k
  ·have h1 : meetL x p = none:=by
    unfold meetP at hmt
    rw [if_pos ⟨hx,hps p hp⟩] at hmt
    exact hmt
   have h2:=meetL_nomatch h1 hc0
   rw [hin l0 hc0 hm0,(full_one hm hr).1 hf l0 hl0 hc0 hm0] at h2
   cases h2
  ·obtain ⟨g1,g2,g3,g4⟩:=meetP_some hmt
   obtain ⟨k',hk',hin'⟩:=redL_above (meetsL_mem.2 ⟨p,hp,hmt⟩)
   refine ⟨k',hk',(full_one hm hr).2 fun l hl hc hml=>?_⟩
   refine insideP_match (allOk_of g4) hin' hc ?_
   rw [meetL_match (allOk_of g1) (allOk_of g2) g3 hc,hin l hc hml,(full_one hm hr).1 hf l hl hc hml]
   rfl
theorem full_app (b : Pat) (hs ks : List Pat) (n : Nat) : full b (hs ++ ks) n = (full b hs n || full b ks n):=by
 simp [full,List.any_append]
end Go.Proofs.YtnlnclefedohkaaGreatDoor.Sy
set_option linter.unusedVariables false
set_option linter.unusedSimpArgs false
namespace Go.Proofs.YtnlnclefedohkaaGreatDoor.Sy
def rightHs (r : Rule) : List Pat → Option (List Pat)
 |[]=>some []
 |h :: hs=>if (narL r h).2 ≠ 0 then none else (rightHs r hs).map fun l=>((narL r h).1.map (·.right)).toList ++ l
def rightG (x : Ent) : Option Reg:=(rightHs x.rule x.hs).map fun hs=>⟨x.right,hs⟩
def rG (x : Ent) : Reg:=(rightG x).getD ⟨x.right,[]⟩
def entryOk (x : Ent) : Bool:=ruleErr x.rule == 0 && gErr x.reg == 0
def commonG (a b : Reg) : Bool:=match meetP a.b b.b with
 |none=>false
 |some m=>leastLen m (a.hs ++ b.hs) != 0
def clashE (x y : Ent) : Bool:=commonG x.reg y.reg || commonG (rG x) (rG y)
def clashAt (m : List Ent) (i : Nat) : Bool:=(List.range i).any fun j=>clashE (m.getD i default) (m.getD j default)
def mapE (m : List Ent) : Nat × Int:=match m.findIdx? (fun x=>!entryOk x) with
 |some i=>(i,70)
 |none=>if 32 < m.length then (0,72) else if m.any (fun x=>(rightG x).isNone) then (0,72) else
  match (List.range m.length).find? (clashAt m) with
  |some i=>(i,71)
  |none=>(0,0)

theorem entryOk_iff {x : Ent} : entryOk x = true ↔ ruleErr x.rule = 0 ∧ gErr x.reg = 0:=by simp [entryOk]
theorem rightHs_good {r : Rule} : ∀ {hs ks : List Pat},rightHs r hs = some ks → (∀ k ∈ ks,patErr k = 0) ∧ ks.length ≤ hs.length
 |[],ks,h=>by
  obtain rfl:=Option.some.inj h
  exact ⟨fun k hk=>(by cases hk),Nat.le_refl _⟩
 |x :: hs,ks,h=>by
  unfold rightHs at h
  split at h
  ·cases h
  ·obtain ⟨l,hl,rfl⟩:=Option.map_eq_some_iff.1 h
   obtain ⟨h1,h2⟩:=rightHs_good hl
   refine ⟨fun k hk=>?_,?_⟩
   ·rcases List.mem_append.1 hk with hk | hk
    ·rw [Option.mem_toList] at hk
     obtain ⟨n,hn,rfl⟩:=Option.map_eq_some_iff.1 hk
     exact (ruleErr_twin.1 (narL_good hn)).rp
    ·exact h1 k hk
   ·have : ((narL r x).1.map (·.right)).toList.length ≤ 1:=by
     rcases (narL r x).1 with _ | n <;> simp
    rw [List.length_append,List.length_cons]
    omega
theorem rightHs_app {r : Rule} : ∀ (hs ks : List Pat),rightHs r (hs ++ ks) = match rightHs r hs with
  |none=>none
  |some l=>(rightHs r ks).map (l ++ ·)
 |[],ks=>by
  simp only [List.nil_append,rightHs]
  simp
 |x :: hs,ks=>by
  have ih:=rightHs_app (r:=r) hs ks
  simp only [List.cons_append,rightHs]
  by_cases h : (narL r x).2 ≠ 0
  ·rw [if_pos h,if_pos h]
  ·rw [if_neg h,if_neg h,ih]
   rcases rightHs r hs with _ | l
   ·rfl
   ·simp only [Option.map_some]
    rcases rightHs r ks with _ | k
    ·rfl
    ·simp
theorem rightHs_none {r : Rule} {hs : List Pat} (h : rightHs r hs = none) (ks : List Pat) : rightHs r (hs ++ ks) = none:=by
 rw [rightHs_app,h]
theorem commonG_red {a b : Reg} (ha : ∀ p ∈ a.hs,patErr p = 0) (hb : ∀ p ∈ b.hs,patErr p = 0) : commonG ⟨a.b,redL a.b a.hs⟩ ⟨b.b,redL b.b b.hs⟩ = commonG a b:=by
 unfold commonG
 rcases hm : meetP a.b b.b with _ | m
 ·rfl
 ·obtain ⟨g1,g2,g3,h4⟩:=meetP_some hm
  have h0 : 0 < m.parts.length:=(patErr_form h4).1
  have hin:=fun (l : List Str) (hc : l.all comp = true) (hml : matchL m l = true)=>(by
   rw [meetL_match (allOk_of g1) (allOk_of g2) g3 hc,Bool.and_eq_true] at hml
   exact hml : matchL a.b l = true ∧ matchL b.b l = true)
  have : leastLen m (redL a.b a.hs ++ redL b.b b.hs) = 0 ↔ leastLen m (a.hs ++ b.hs) = 0:=by
   rw [zero_iff h0,zero_iff h0]
   have e : ∀ n,reaches m n = true → full m (redL a.b a.hs ++ redL b.b b.hs) n = full m (a.hs ++ b.hs) n:=fun n hr=>by
    rw [full_app,full_app,red_full (allOk_of h4) hr g1 ha (fun l hc hml=>(hin l hc hml).1),red_full (allOk_of h4) hr g2 hb (fun l hc hml=>(hin l hc hml).2)]
   constructor <;> intro H n hr <;> have:=H n hr
   ·rw [e n hr] at this;exact this
   ·rw [e n hr];exact this
  simp only
  rw [Bool.eq_iff_iff,bne_iff_ne,bne_iff_ne]
  exact not_congr this
structure Mapping (m : List Ent) : Prop where
 good : ∀ x ∈ m,ruleErr x.rule = 0 ∧ gErr x.reg = 0
 few : m.length ≤ 32
 right : ∀ x ∈ m,∃ g,rightG x = some g
 apart : ∀ (i j : Nat) x y,m[i]? = some x → m[j]? = some y → j < i → clashE x y = false
theorem getD_of {α : Type} [Inhabited α] {l : List α} {i : Nat} {x : α} (h : l[i]? = some x) : l.getD i default = x:=by
 rw [List.getD_eq_getElem?_getD,h]
 rfl
theorem mapE_zero {m : List Ent} (h : (mapE m).2 = 0) : Mapping m ∧ mapE m = (0,0):=by
 unfold mapE at h ⊢
 rcases h1 : m.findIdx? (fun x=>!entryOk x) with _ | i
 ·rw [h1] at h
  simp only at h ⊢
  by_cases h2 : 32 < m.length
  ·rw [if_pos h2] at h;cases h
  ·rw [if_neg h2] at h ⊢
   by_cases h3 : m.any (fun x=>(rightG x).isNone) = true
   ·rw [if_pos h3] at h;cases h
   ·rw [if_neg h3] at h ⊢
    rcases h4 : (List.range m.length).find? (clashAt m) with _ | i
    ·refine ⟨⟨fun x hx=>?_,by omega,fun x hx=>?_,fun i j x y hi hj hji=>?_⟩,rfl⟩
     ·have:=List.findIdx?_eq_none_iff.1 h1 x hx
      exact entryOk_iff.1 (by simpa using this)
     ·rw [Bool.not_eq_true,List.any_eq_false] at h3
      have:=h3 x hx
      rcases h5 : rightG x with _ | g
      ·rw [h5] at this
       simp at this
      ·exact ⟨g,rfl⟩
     ·have:=List.find?_eq_none.1 h4 i (List.mem_range.2 (List.getElem?_eq_some_iff.1 hi).1)
      rw [Bool.not_eq_true,clashAt,List.any_eq_false] at this
      have:=this j (List.mem_range.2 hji)
      rw [getD_of hi,getD_of hj] at this
      simpa using this
    ·rw [h4] at h
     cases h
 ·rw [h1] at h
  cases h
end Go.Proofs.YtnlnclefedohkaaGreatDoor.Sy
