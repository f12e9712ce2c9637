/- Lines and views: what they relate. No program in sight. -/
import Derived.Test.YthopphabeddnfaaGreatDoorZSem
set_option linter.unusedVariables false
set_option linter.unusedSimpArgs false
namespace Go.Proofs.YthopphabeddnfaaGreatDoor.Sy

structure Rule where
 excl : Bool
 left : Pat
 right : Pat
deriving DecidableEq,Inhabited
def starTo (p : Pat) (k : Nat) : Nat:=((p.parts.take k).filter isStar).length
def starN (p : Pat) : Nat:=(p.parts.filter isStar).length
def ruleErr (r : Rule) : Int:=if patErr r.left ≠ 0 then 40 else if patErr r.right ≠ 0 then 41 else if starN r.left ≠ starN r.right ∨ r.left.rest ≠ r.right.rest then 42 else 0
def Rule.turn (r : Rule) : Rule:=⟨r.excl,r.right,r.left⟩
def fillR : List Str → List Str → List Str
 |[],_=>[]
 |x :: xs,cs=>if isStar x then (cs.headD [] ++ x.tail) :: fillR xs cs.tail else x :: fillR xs cs
def trL (p q : Pat) (l : List Str) : List Str:=fillR q.parts (capsTo p l p.parts.length) ++ (if q.rest then l.drop p.parts.length else [])
def fwd (r : Rule) (s : Str) : Option Str:=if ruleErr r = 0 then (match pathOf s with
 |some l=>if matchL r.left l then some (pathStr (trL r.left r.right l)) else none
 |none=>none) else none

/-! ### matches and captures, part by part -/
def mR : List Str → List Str → Bool
 |[],_=>true
 |x :: xs,c :: cs=>mtch x c && mR xs cs
 |_ :: _,[]=>false
def capsR : List Str → List Str → List Str
 |x :: xs,c :: cs=>if isStar x then cap1 x c :: capsR xs cs else capsR xs cs
 |_,_=>[]

theorem range_cons (n : Nat) : List.range (n + 1) = 0 :: (List.range n).map (· + 1):=by
 rw [List.range_succ_eq_map]
theorem matchTo_mR (rest : Bool) : ∀ (ps l : List Str),ps.length ≤ l.length → matchTo ⟨ps,rest⟩ l ps.length = mR ps l
 |[],l,_=>by simp [matchTo,mR]
 |x :: xs,[],h=>by simp at h
 |x :: xs,c :: cs,h=>by
  have ih:=matchTo_mR rest xs cs (by simpa using h)
  rw [mR,← ih]
  simp only [matchTo,List.length_cons,range_cons,List.all_cons,List.all_map]
  congr 1
theorem capsTo_capsR (rest : Bool) : ∀ (ps l : List Str),ps.length ≤ l.length → capsTo ⟨ps,rest⟩ l ps.length = capsR ps l
 |[],l,_=>by simp [capsTo,capsR]
 |x :: xs,[],h=>by simp at h
 |x :: xs,c :: cs,h=>by
  have ih:=capsTo_capsR rest xs cs (by simpa using h)
  simp only [capsTo,List.length_cons,range_cons,List.flatMap_cons,List.flatMap_map]
  have e1 : pAt ⟨x :: xs,rest⟩ 0 = x:=rfl
  have e2 : (c :: cs).getD 0 [] = c:=rfl
  rw [e1,e2,capsR]
  have e3 : (List.range xs.length).flatMap (fun a=>if isStar (pAt ⟨x :: xs,rest⟩ (a + 1)) = true then [cap1 (pAt ⟨x :: xs,rest⟩ (a + 1)) ((c :: cs).getD (a + 1) [])] else []) = capsTo ⟨xs,rest⟩ cs xs.length:=rfl
  rw [e3,ih]
  rcases hs : isStar x with _ | _
  ·simp
  ·simp
theorem matchL_mR {p : Pat} {l : List Str} : matchL p l = (reaches p l.length && mR p.parts l):=by
 rw [matchL_eq]
 rcases hr : reaches p l.length with _ | _
 ·rfl
 ·rw [← matchTo_mR p.rest p.parts l (reaches_le hr)]

theorem mtch_star_iff {x c : Str} (hs : isStar x = true) : mtch x c = true ↔ x.tail <:+ c ∧ x.tail.length < c.length:=by
 unfold mtch
 rw [if_pos hs,Bool.and_eq_true,decide_eq_true_eq,endsWith,List.isSuffixOf_iff_suffix]
theorem mtch_lit_iff {x c : Str} (hs : isStar x = false) : mtch x c = true ↔ x = c:=by
 unfold mtch
 rw [hs]
 simp
theorem cap1_tail {x c : Str} (hs : isStar x = true) (h : mtch x c = true) : cap1 x c ++ x.tail = c:=by
 obtain ⟨⟨pre,hpre⟩,hlt⟩:=(mtch_star_iff hs).1 h
 have : cap1 x c = pre:=by
  rw [cap1,← hpre,List.length_append,Nat.add_sub_cancel,List.take_left']
  rfl
 rw [this]
 exact hpre
theorem comp_take_ {c : Str} (h : comp c = true) {k : Nat} (hk : 0 < k) : comp (c.take k) = true:=by
 cases c with
 |nil=>cases h
 |cons a t=>
  cases k with
  |zero=>omega
  |succ k=>
   simp only [comp,Bool.and_eq_true] at h
   simp only [List.take_succ_cons,comp,h.1.1,h.1.2,Bool.true_and]
   exact List.all_eq_true.2 fun b hb=>List.all_eq_true.1 h.2 b (List.mem_of_mem_take hb)
theorem comp_app {a t : Str} (ha : comp a = true) (ht : t.all isByte = true) : comp (a ++ t) = true:=by
 cases a with
 |nil=>cases ha
 |cons x s=>
  simp only [comp,Bool.and_eq_true] at ha
  simp only [List.cons_append,comp,ha.1.1,ha.1.2,Bool.true_and,List.all_append,ha.2,ht]
theorem cap1_comp {x c : Str} (hs : isStar x = true) (h : mtch x c = true) (hc : comp c = true) : comp (cap1 x c) = true:=
 comp_take_ hc (by have:=((mtch_star_iff hs).1 h).2;omega)

theorem capsR_len : ∀ (ps l : List Str),mR ps l = true → (capsR ps l).length = (ps.filter isStar).length
 |[],l,_=>by cases l <;> rfl
 |x :: xs,[],h=>by cases h
 |x :: xs,c :: cs,h=>by
  rw [mR,Bool.and_eq_true] at h
  have ih:=capsR_len xs cs h.2
  rw [capsR,List.filter_cons]
  split <;> simp [ih]
theorem capsR_comp : ∀ (ps l : List Str),mR ps l = true → l.all comp = true → (capsR ps l).all comp = true
 |[],l,_,_=>by cases l <;> rfl
 |x :: xs,[],h,_=>by cases h
 |x :: xs,c :: cs,h,hc=>by
  rw [mR,Bool.and_eq_true] at h
  rw [List.all_cons,Bool.and_eq_true] at hc
  have ih:=capsR_comp xs cs h.2 hc.2
  rw [capsR]
  split
  ·rename_i hs
   rw [List.all_cons,ih,cap1_comp hs h.1 hc.1]
   rfl
  ·exact ih
theorem fillR_len : ∀ (qs cs : List Str),(fillR qs cs).length = qs.length
 |[],cs=>rfl
 |x :: xs,cs=>by
  rw [fillR]
  split <;> simp [fillR_len xs]
theorem fill_mR : ∀ (qs cs r : List Str),cs.length = (qs.filter isStar).length → cs.all comp = true → mR qs (fillR qs cs ++ r) = true ∧ capsR qs (fillR qs cs ++ r) = cs
 |[],cs,r,h,_=>by
  have : cs = []:=List.eq_nil_of_length_eq_zero (by simpa using h)
  subst this
  simp only [fillR,List.nil_append,mR,true_and]
  cases r <;> rfl
 |x :: xs,cs,r,h,hc=>by
  rcases hs : isStar x with _ | _
  ·have h' : cs.length = (xs.filter isStar).length:=by simpa [List.filter_cons,hs] using h
   obtain ⟨h1,h2⟩:=fill_mR xs cs r h' hc
   simp only [fillR,hs,Bool.false_eq_true,if_false,List.cons_append,mR,capsR,h1,Bool.and_true]
   exact ⟨(mtch_lit_iff hs).2 rfl,h2⟩
  ·cases cs with
   |nil=>simp [List.filter_cons,hs] at h
   |cons c cs=>
    have h' : cs.length = (xs.filter isStar).length:=by simpa [List.filter_cons,hs] using h
    rw [List.all_cons,Bool.and_eq_true] at hc
    obtain ⟨h1,h2⟩:=fill_mR xs cs r h' hc.2
    have hm : mtch x (c ++ x.tail) = true:=(mtch_star_iff hs).2 ⟨List.suffix_append _ _,by
     have:=comp_ne hc.1
     have : 0 < c.length:=List.length_pos_iff.2 this
     rw [List.length_append]
     omega⟩
    simp only [fillR,hs,if_true,List.headD_cons,List.tail_cons,List.cons_append,mR,capsR,h1,h2,hm,Bool.and_true,true_and,List.cons.injEq,and_true]
    have:=cap1_tail hs hm
    exact List.append_cancel_right this
theorem fill_comp : ∀ (qs cs : List Str),(∀ x ∈ qs,partOk x = true) → cs.length = (qs.filter isStar).length → cs.all comp = true → (fillR qs cs).all comp = true
 |[],cs,_,_,_=>rfl
 |x :: xs,cs,hq,h,hc=>by
  have hx:=hq x (by simp)
  rcases hs : isStar x with _ | _
  ·have h' : cs.length = (xs.filter isStar).length:=by simpa [List.filter_cons,hs] using h
   have ih:=fill_comp xs cs (fun y hy=>hq y (by simp [hy])) h' hc
   simp only [fillR,hs,Bool.false_eq_true,if_false,List.all_cons,ih,Bool.and_true]
   exact partOk_comp hx hs
  ·cases cs with
   |nil=>simp [List.filter_cons,hs] at h
   |cons c cs=>
    have h' : cs.length = (xs.filter isStar).length:=by simpa [List.filter_cons,hs] using h
    rw [List.all_cons,Bool.and_eq_true] at hc
    have ih:=fill_comp xs cs (fun y hy=>hq y (by simp [hy])) h' hc.2
    simp only [fillR,hs,if_true,List.headD_cons,List.tail_cons,List.all_cons,ih,Bool.and_true]
    exact comp_app hc.1 (partOk_star hx hs)
theorem fill_caps : ∀ (ps l : List Str),mR ps l = true → fillR ps (capsR ps l) = l.take ps.length
 |[],l,_=>by simp [fillR]
 |x :: xs,[],h=>by cases h
 |x :: xs,c :: cs,h=>by
  rw [mR,Bool.and_eq_true] at h
  have ih:=fill_caps xs cs h.2
  rcases hs : isStar x with _ | _
  ·have e:=(mtch_lit_iff hs).1 h.1
   simp only [capsR,hs,Bool.false_eq_true,if_false,fillR,ih,List.length_cons,List.take_succ_cons]
   rw [e]
  ·simp only [capsR,hs,if_true,fillR,List.headD_cons,List.tail_cons,ih,List.length_cons,List.take_succ_cons,cap1_tail hs h.1]

/-! ### lines -/
structure Twin (p q : Pat) : Prop where
 lp : patErr p = 0
 rp : patErr q = 0
 sn : starN p = starN q
 rs : p.rest = q.rest
theorem Twin.turn {p q : Pat} (h : Twin p q) : Twin q p:=⟨h.rp,h.lp,h.sn.symm,h.rs.symm⟩
theorem ruleErr_twin {r : Rule} : ruleErr r = 0 ↔ Twin r.left r.right:=by
 unfold ruleErr
 constructor
 ·intro h
  split at h
  ·cases h
  ·rename_i h1
   split at h
   ·cases h
   ·rename_i h2
    split at h
    ·cases h
    ·rename_i h3
     exact ⟨by simpa using h1,by simpa using h2,by
      apply Classical.byContradiction
      intro hh
      exact h3 (.inl hh),by
      apply Classical.byContradiction
      intro hh
      exact h3 (.inr hh)⟩
 ·intro h
  rw [if_neg (by simpa using h.lp),if_neg (by simpa using h.rp),if_neg]
  rintro (h1 | h1)
  ·exact h1 h.sn
  ·exact h1 h.rs
theorem patErr_form {p : Pat} (h : patErr p = 0) : 0 < p.parts.length ∧ (p.rest = false → 2 ≤ p.parts.length) ∧ p.parts.length ≤ 12:=by
 unfold patErr at h
 split at h
 ·cases h
 ·rename_i h0
  split at h
  ·split at h
   ·cases h
   ·have h1 : p.parts.length ≠ 0:=fun e=>h0 (.inl e)
    refine ⟨by omega,fun hr=>?_,by omega⟩
    have h2 : ¬ p.parts.length = 1:=fun e=>h0 (.inr ⟨e,hr⟩)
    omega
  ·cases h
theorem tr_twin {p q : Pat} {l : List Str} (h : Twin p q) (hc : l.all comp = true) (hm : matchL p l = true) :
  matchL q (trL p q l) = true ∧ (trL p q l).all comp = true ∧ 2 ≤ (trL p q l).length ∧ trL q p (trL p q l) = l:=by
 rw [matchL_mR,Bool.and_eq_true] at hm
 obtain ⟨hr,hm⟩:=hm
 have hle:=reaches_le hr
 have hcap : capsTo p l p.parts.length = capsR p.parts l:=capsTo_capsR p.rest p.parts l hle
 have hcl : (capsR p.parts l).length = (q.parts.filter isStar).length:=(capsR_len _ _ hm).trans h.sn
 have hcc:=capsR_comp _ _ hm hc
 obtain ⟨f1,f2⟩:=fill_mR q.parts (capsR p.parts l) (if q.rest then l.drop p.parts.length else []) hcl hcc
 have f3:=fill_comp q.parts _ (allOk_of h.rp) hcl hcc
 have f4:=fillR_len q.parts (capsR p.parts l)
 have hq:=patErr_form h.rp
 have htr : trL p q l = fillR q.parts (capsR p.parts l) ++ (if q.rest then l.drop p.parts.length else []):=by rw [trL,hcap]
 rw [htr]
 obtain ⟨rl,hrl⟩ : ∃ rl,(if q.rest then l.drop p.parts.length else []) = rl:=⟨_,rfl⟩
 rw [hrl] at f1 f2 ⊢
 have hreach : reaches q (fillR q.parts (capsR p.parts l) ++ rl).length = true ∧ 2 ≤ (fillR q.parts (capsR p.parts l) ++ rl).length:=by
  rw [List.length_append,f4]
  unfold reaches at hr ⊢
  rcases hre : q.rest with _ | _
  ·rw [hre] at hrl
   simp only [Bool.false_eq_true,if_false] at hrl
   subst hrl
   have:=hq.2.1 hre
   simp
   omega
  ·rw [h.rs,hre] at hr
   rw [hre] at hrl
   simp only [if_true] at hrl hr
   have h1:=of_decide_eq_true hr
   have h2 : 0 < rl.length:=by rw [← hrl,List.length_drop];omega
   have:=hq.1
   simp only [if_true,decide_eq_true_eq]
   omega
 refine ⟨?_,?_,hreach.2,?_⟩
 ·rw [matchL_mR,hreach.1,f1]
  rfl
 ·rw [List.all_append,f3,← hrl]
  split
  ·rw [Bool.true_and]
   exact List.all_eq_true.2 fun x hx=>List.all_eq_true.1 hc x (List.mem_of_mem_drop hx)
  ·rfl
 ·rw [trL,show capsTo q (fillR q.parts (capsR p.parts l) ++ rl) q.parts.length = capsR q.parts (fillR q.parts (capsR p.parts l) ++ rl) from capsTo_capsR q.rest q.parts _ (by rw [List.length_append,f4];omega),f2,fill_caps _ _ hm]
  have hd : (fillR q.parts (capsR p.parts l) ++ rl).drop q.parts.length = rl:=by
   rw [← f4,List.drop_left']
   rfl
  rw [hd,← hrl,h.rs]
  rcases hre : q.rest with _ | _
  ·unfold reaches at hr
   rw [h.rs,hre] at hr
   simp only [Bool.false_eq_true,if_false] at hr ⊢
   have:=beq_iff_eq.1 hr
   rw [List.append_nil,List.take_of_length_le (by omega)]
  ·simp only [if_true]
   exact List.take_append_drop _ _

theorem fwd_some {r : Rule} {s t : Str} (h : fwd r s = some t) : ∃ l,ruleErr r = 0 ∧ pathOf s = some l ∧ matchL r.left l = true ∧ t = pathStr (trL r.left r.right l) ∧ pathOf t = some (trL r.left r.right l):=by
 unfold fwd at h
 split at h
 ·rename_i h0
  rcases hp : pathOf s with _ | l
  ·rw [hp] at h
   cases h
  ·rw [hp] at h
   simp only at h
   split at h
   ·rename_i hm
    simp only [Option.some.injEq] at h
    have ht:=tr_twin (ruleErr_twin.1 h0) (pathOf_some hp).2.1 hm
    exact ⟨l,h0,rfl,hm,h.symm,by rw [← h];exact pathOf_str ht.2.2.1 ht.2.1⟩
   ·cases h
 ·cases h
theorem fwd_match {r : Rule} {s : Str} (h : ruleErr r = 0) : (∃ t,fwd r s = some t) ↔ matchS r.left s = true:=by
 have ht:=ruleErr_twin.1 h
 constructor
 ·rintro ⟨t,h1⟩
  obtain ⟨l,_,h2,h3,_⟩:=fwd_some h1
  rw [matchS,h2]
  simp only
  rw [okPat,ht.lp,h3]
  rfl
 ·intro h1
  rw [matchS] at h1
  rcases hp : pathOf s with _ | l
  ·rw [hp] at h1
   cases h1
  ·rw [hp] at h1
   simp only at h1
   rw [Bool.and_eq_true] at h1
   exact ⟨_,by rw [fwd,if_pos h,hp];simp only;rw [if_pos h1.2]⟩
theorem fwd_back {r : Rule} {s t : Str} (h : fwd r s = some t) : matchS r.right t = true ∧ fwd r.turn t = some s:=by
 obtain ⟨l,h0,hp,hm,ht,hpt⟩:=fwd_some h
 have tw:=ruleErr_twin.1 h0
 obtain ⟨g1,g2,g3,g4⟩:=tr_twin tw (pathOf_some hp).2.1 hm
 constructor
 ·rw [matchS,hpt]
  simp only
  rw [okPat,tw.rp,g1]
  rfl
 ·have h0' : ruleErr r.turn = 0:=ruleErr_twin.2 tw.turn
  rw [fwd,if_pos h0',hpt]
  simp only
  rw [show r.turn.left = r.right from rfl,g1,show r.turn.right = r.left from rfl,g4]
  simp only [if_true]
  rw [← (pathOf_some hp).2.2]
theorem turn_err (r : Rule) : ruleErr r.turn = 0 ↔ ruleErr r = 0:=⟨fun h=>ruleErr_twin.2 (ruleErr_twin.1 h).turn,fun h=>ruleErr_twin.2 (ruleErr_twin.1 h).turn⟩

/-! ### the last index -/
def lastIx {α : Type} (f : α → Bool) : List α → Int
 |[]=>-1
 |a :: v=>if 0 ≤ lastIx f v then lastIx f v + 1 else if f a then 0 else -1
theorem lastIx_ge {α : Type} (f : α → Bool) : ∀ v : List α,-1 ≤ lastIx f v ∧ lastIx f v < v.length
 |[]=>by simp [lastIx]
 |a :: v=>by
  have:=lastIx_ge f v
  unfold lastIx
  simp only [List.length_cons]
  split
  ·omega
  ·split <;> omega
theorem lastIx_miss {α : Type} {f : α → Bool} : ∀ {v : List α},(∀ a ∈ v,f a = false) → lastIx f v = -1
 |[],_=>rfl
 |a :: v,h=>by
  rw [lastIx,lastIx_miss (fun b hb=>h b (by simp [hb])),if_neg (by decide),h a (by simp)]
  rfl
theorem lastIx_hit {α : Type} {f : α → Bool} : ∀ {v : List α} {k : Nat} {a : α},v[k]? = some a → f a = true → (∀ j b,k < j → v[j]? = some b → f b = false) → lastIx f v = k
 |[],k,a,h,_,_=>by simp at h
 |b :: v,0,a,h,hf,hn=>by
  simp only [List.getElem?_cons_zero,Option.some.injEq] at h
  subst h
  have hm : lastIx f v = -1:=lastIx_miss fun c hc=>by
   obtain ⟨j,hj,e⟩:=List.mem_iff_getElem.1 hc
   exact hn (j + 1) c (by omega) (by rw [List.getElem?_cons_succ,List.getElem?_eq_getElem hj,e])
  rw [lastIx,hm,if_neg (by decide),hf]
  rfl
 |b :: v,k + 1,a,h,hf,hn=>by
  have ih:=lastIx_hit (v:=v) (k:=k) (a:=a) (by simpa using h) hf (fun j c hj hc=>hn (j + 1) c (by omega) (by simpa using hc))
  rw [lastIx,ih,if_pos (by omega)]
  omega
theorem lastIx_cases {α : Type} (f : α → Bool) : ∀ v : List α,(lastIx f v = -1 ∧ ∀ a ∈ v,f a = false) ∨ ∃ (k : Nat) (a : α),lastIx f v = k ∧ v[k]? = some a ∧ f a = true ∧ ∀ j b,k < j → v[j]? = some b → f b = false
 |[]=>.inl ⟨rfl,fun a h=>by cases h⟩
 |a :: v=>by
  rcases lastIx_cases f v with ⟨h1,h2⟩ | ⟨k,b,h1,h2,h3,h4⟩
  ·rcases hf : f a with _ | _
   ·left
    refine ⟨by rw [lastIx,h1,hf];rfl,fun c hc=>?_⟩
    rcases List.mem_cons.1 hc with rfl | hc
    ·exact hf
    ·exact h2 c hc
   ·right
    refine ⟨0,a,by rw [lastIx,h1,hf];rfl,rfl,hf,fun j c hj hc=>?_⟩
    cases j with
    |zero=>omega
    |succ j=>exact h2 c (List.mem_of_getElem? (by simpa using hc))
  ·right
   refine ⟨k + 1,b,by rw [lastIx,h1,if_pos (by omega)];omega,by simpa using h2,h3,fun j c hj hc=>?_⟩
   cases j with
   |zero=>omega
   |succ j=>exact h4 j c (by omega) (by simpa using hc)
/-! ### views -/
def viewErrFrom : List Rule → Nat → Option Nat
 |[],_=>none
 |r :: v,i=>if ruleErr r ≠ 0 then some i else viewErrFrom v (i + 1)
def viewIx (v : List Rule) : Nat:=(viewErrFrom v 0).getD 0
def viewErr (v : List Rule) : Int:=if (viewErrFrom v 0).isSome then 60 else if 16 < v.length then 61 else 0
theorem viewErrFrom_bad : ∀ {v : List Rule} {i k : Nat} {r : Rule},v[k]? = some r → ruleErr r ≠ 0 → (∀ j q,j < k → v[j]? = some q → ruleErr q = 0) → viewErrFrom v i = some (i + k)
 |[],i,k,r,h,_,_=>by simp at h
 |q :: v,i,0,r,h,hr,_=>by
  simp only [List.getElem?_cons_zero,Option.some.injEq] at h
  subst h
  rw [viewErrFrom,if_pos hr]
  rfl
 |q :: v,i,k + 1,r,h,hr,hn=>by
  rw [viewErrFrom,if_neg (by simpa using hn 0 q (by omega) rfl),viewErrFrom_bad (k:=k) (by simpa using h) hr (fun j c hj hc=>hn (j + 1) c (by omega) (by simpa using hc))]
  congr 1
  omega
theorem viewErrFrom_good : ∀ {v : List Rule} {i : Nat},(∀ r ∈ v,ruleErr r = 0) → viewErrFrom v i = none
 |[],i,_=>rfl
 |r :: v,i,h=>by
  rw [viewErrFrom,if_neg (by simpa using h r (by simp))]
  exact viewErrFrom_good fun q hq=>h q (by simp [hq])
theorem viewErrFrom_none : ∀ {v : List Rule} {i : Nat},viewErrFrom v i = none → ∀ r ∈ v,ruleErr r = 0
 |[],i,_,r,hr=>by cases hr
 |q :: v,i,h,r,hr=>by
  rw [viewErrFrom] at h
  split at h
  ·cases h
  ·rename_i h1
   rcases List.mem_cons.1 hr with rfl | hr
   ·simpa using h1
   ·exact viewErrFrom_none h r hr
theorem viewErr_ok {v : List Rule} : viewErr v = 0 ↔ (∀ r ∈ v,ruleErr r = 0) ∧ v.length ≤ 16:=by
 unfold viewErr
 constructor
 ·intro h
  rcases hn : viewErrFrom v 0 with _ | i
  ·rw [hn] at h
   simp only [Option.isSome_none,Bool.false_eq_true,if_false] at h
   split at h
   ·cases h
   ·exact ⟨viewErrFrom_none hn,by omega⟩
  ·rw [hn] at h
   cases h
 ·rintro ⟨h1,h2⟩
  rw [viewErrFrom_good h1]
  simp only [Option.isSome_none,Bool.false_eq_true,if_false]
  rw [if_neg (by omega)]

def turnV (v : List Rule) : List Rule:=v.map Rule.turn
theorem turnV_ok (v : List Rule) : viewErr (turnV v) = 0 ↔ viewErr v = 0:=by
 rw [viewErr_ok,viewErr_ok,turnV,List.length_map]
 constructor
 ·rintro ⟨h1,h2⟩
  exact ⟨fun r hr=>(turn_err r).1 (h1 _ (List.mem_map.2 ⟨r,hr,rfl⟩)),h2⟩
 ·rintro ⟨h1,h2⟩
  refine ⟨fun r hr=>?_,h2⟩
  obtain ⟨q,hq,rfl⟩:=List.mem_map.1 hr
  exact (turn_err q).2 (h1 q hq)
def decL (v : List Rule) (s : Str) : Int:=lastIx (fun r=>matchS r.left s) v
def decR (v : List Rule) (s : Str) : Int:=lastIx (fun r=>matchS r.right s) v
def decides (v : List Rule) (s : Str) : Int:=if viewErr v = 0 then decL v s else -1
def vfwd (v : List Rule) (s : Str) : Option Str:=
 if viewErr v = 0 then (if 0 ≤ decL v s then (match v[(decL v s).toNat]? with
  |some r=>if r.excl then none else (match fwd r s with
   |some t=>if decL v s < decR v t then none else some t
   |none=>none)
  |none=>none) else none) else none
def vbwd (v : List Rule) (s : Str) : Option Str:=vfwd (turnV v) s

theorem vfwd_some {v : List Rule} {s t : Str} : vfwd v s = some t ↔ viewErr v = 0 ∧ ∃ (k : Nat) (r : Rule),decL v s = k ∧ v[k]? = some r ∧ r.excl = false ∧ fwd r s = some t ∧ decR v t ≤ k:=by
 constructor
 ·intro h
  unfold vfwd at h
  split at h
  ·rename_i h0
   split at h
   ·rename_i h1
    rcases hg : v[(decL v s).toNat]? with _ | r
    ·rw [hg] at h
     cases h
    ·rw [hg] at h
     simp only at h
     split at h
     ·cases h
     ·rename_i hx
      rcases hf : fwd r s with _ | u
      ·rw [hf] at h
       cases h
      ·rw [hf] at h
       simp only at h
       split at h
       ·cases h
       ·rename_i hd
        simp only [Option.some.injEq] at h
        subst h
        exact ⟨h0,(decL v s).toNat,r,by omega,hg,by simpa using hx,hf,by omega⟩
   ·cases h
  ·cases h
 ·rintro ⟨h0,k,r,h1,h2,h3,h4,h5⟩
  unfold vfwd
  rw [if_pos h0,h1,if_pos (by omega),Int.toNat_natCast,h2]
  simp only
  rw [h3,h4]
  simp only [Bool.false_eq_true,if_false]
  rw [if_neg (by omega)]

theorem decL_turn (v : List Rule) (s : Str) : decL (turnV v) s = decR v s:=by
 induction v with
 |nil=>rfl
 |cons r v ih=>
  simp only [decL,decR,turnV,List.map_cons,lastIx] at ih ⊢
  rw [ih]
  rfl
theorem decR_turn (v : List Rule) (s : Str) : decR (turnV v) s = decL v s:=by
 induction v with
 |nil=>rfl
 |cons r v ih=>
  simp only [decL,decR,turnV,List.map_cons,lastIx] at ih ⊢
  rw [ih]
  rfl
theorem turnV_turnV (v : List Rule) : turnV (turnV v) = v:=by
 induction v with
 |nil=>rfl
 |cons r v ih=>
  simp only [turnV,List.map_cons] at ih ⊢
  rw [ih]
  rfl
theorem vfwd_back {v : List Rule} {s t : Str} (h : vfwd v s = some t) : vbwd v t = some s:=by
 obtain ⟨h0,k,r,h1,h2,h3,h4,h5⟩:=vfwd_some.1 h
 obtain ⟨g1,g2⟩:=fwd_back h4
 refine vfwd_some.2 ⟨(turnV_ok v).2 h0,k,r.turn,?_,?_,h3,g2,?_⟩
 ·rw [decL_turn]
  rcases lastIx_cases (fun r=>matchS r.right t) v with ⟨_,e2⟩ | ⟨j,b,e1,e2,e3,e4⟩
  ·have:=e2 r (List.mem_of_getElem? h2)
   simp only [g1] at this
   cases this
  ·have e5 : decR v t = j:=e1
   rw [e5] at h5 ⊢
   by_cases hjk : j < k
   ·have:=e4 k r hjk h2
    simp only [g1] at this
    cases this
   ·omega
 ·rw [turnV,List.getElem?_map,h2]
  rfl
 ·rw [decR_turn,h1]
  omega

end Go.Proofs.YthopphabeddnfaaGreatDoor.Sy
