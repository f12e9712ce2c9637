/- The agreement of two mappings. No program in sight. -/
import Derived.Test.YtnlnclefedohkaaGreatDoorZChainW
set_option linter.unusedVariables false
set_option linter.unusedSimpArgs false
namespace Go.Proofs.YtnlnclefedohkaaGreatDoor.Sy
def fixR : List Str → Nat → Str → List Str
 |[],_,_=>[]
 |x :: xs,0,c=>if isStar x then (c ++ x.tail) :: xs else x :: fixR xs 0 c
 |x :: xs,k + 1,c=>if isStar x then x :: fixR xs k c else x :: fixR xs (k + 1) c
def fixP (p : Pat) (k : Nat) (c : Str) : Pat:=⟨fixR p.parts k c,p.rest⟩
def capK : Nat → Nat → Str → List Str
 |0,_,_=>[]
 |n + 1,0,c=>c :: List.replicate n [42]
 |n + 1,k + 1,c=>[42] :: capK n k c
theorem fixR_len : ∀ (xs : List Str) (k : Nat) (c : Str),(fixR xs k c).length = xs.length
 |[],_,_=>rfl
 |x :: xs,0,c=>by
  unfold fixR
  split
  ·rfl
  ·rw [List.length_cons,fixR_len xs 0 c,List.length_cons]
 |x :: xs,k + 1,c=>by
  unfold fixR
  split
  ·rw [List.length_cons,fixR_len xs k c,List.length_cons]
  ·rw [List.length_cons,fixR_len xs (k + 1) c,List.length_cons]
theorem star_cons {x : Str} (h : isStar x = true) : [42] ++ x.tail = x:=(star_text h).symm
theorem fillR_stars : ∀ (xs : List Str),fillR xs (List.replicate (xs.filter isStar).length [42]) = xs
 |[]=>rfl
 |x :: xs=>by
  have ih:=fillR_stars xs
  rcases hs : isStar x with _ | _
  ·rw [List.filter_cons,hs]
   simp only [Bool.false_eq_true,if_false,fillR,hs]
   rw [ih]
  ·rw [List.filter_cons,hs]
   simp only [if_true,List.length_cons,List.replicate_succ,fillR,hs,List.headD_cons,List.tail_cons]
   rw [ih,star_cons hs]
theorem fillR_capK : ∀ (xs : List Str) (k : Nat) (c : Str),fillR xs (capK (xs.filter isStar).length k c) = fixR xs k c
 |[],_,_=>rfl
 |x :: xs,k,c=>by
  rcases hs : isStar x with _ | _
  ·rw [List.filter_cons,hs]
   have ih:=fillR_capK xs k c
   cases k <;> simp only [Bool.false_eq_true,if_false,fillR,hs,fixR] <;> rw [ih]
  ·rw [List.filter_cons,hs]
   cases k with
   |zero=>
    simp only [if_true,List.length_cons,capK,fillR,hs,fixR,List.headD_cons,List.tail_cons]
    rw [fillR_stars]
   |succ k=>
    have ih:=fillR_capK xs k c
    simp only [if_true,List.length_cons,capK,fillR,hs,fixR,List.headD_cons,List.tail_cons]
    rw [ih,star_cons hs]
theorem cap1_app {x : Str} (c : Str) : cap1 x (c ++ x.tail) = c:=by
 unfold cap1
 rw [List.length_append,Nat.add_sub_cancel,List.take_left']
 rfl
theorem cap1_self {x : Str} (h : isStar x = true) : cap1 x x = [42]:=by
 have:=cap1_app (x:=x) [42]
 rwa [star_cons h] at this
theorem capsR_self : ∀ (ms : List Str),capsR ms ms = List.replicate (ms.filter isStar).length [42]
 |[]=>rfl
 |x :: xs=>by
  have ih:=capsR_self xs
  rcases hs : isStar x with _ | _
  ·rw [List.filter_cons,hs]
   simp only [Bool.false_eq_true,if_false,capsR,hs]
   exact ih
  ·rw [List.filter_cons,hs]
   simp only [if_true,capsR,hs,List.length_cons,List.replicate_succ,cap1_self hs]
   rw [ih]
theorem capsR_fix : ∀ (ms : List Str) (k : Nat) (c : Str),capsR ms (fixR ms k c) = capK (ms.filter isStar).length k c
 |[],_,_=>rfl
 |x :: xs,k,c=>by
  rcases hs : isStar x with _ | _
  ·rw [List.filter_cons,hs]
   have ih:=capsR_fix xs k c
   cases k <;> simp only [Bool.false_eq_true,if_false,capsR,hs,fixR] <;> exact ih
  ·rw [List.filter_cons,hs]
   cases k with
   |zero=>
    simp only [if_true,List.length_cons,capK,capsR,hs,fixR,cap1_app]
    rw [capsR_self]
   |succ k=>
    have ih:=capsR_fix xs k c
    simp only [if_true,List.length_cons,capK,capsR,hs,fixR,cap1_self hs]
    rw [ih]
theorem inR_self : ∀ (ms : List Str),inR ms ms = true
 |[]=>rfl
 |x :: xs=>by
  rw [inR,inside_refl,inR_self xs]
  rfl
theorem inside_fix {x c : Str} (hs : isStar x = true) (hc : comp c = true) : inside (c ++ x.tail) x = true:=by
 rw [inside_iff]
 refine .inr ⟨hs,.inr ⟨?_,⟨c,rfl⟩,?_⟩⟩
 ·rw [star_app (comp_ne hc)]
  exact comp_noStar hc
 ·rw [List.length_append]
  have:=List.length_pos_iff.2 (comp_ne hc)
  omega
theorem inR_fix : ∀ (ms : List Str) (k : Nat) (c : Str),comp c = true → inR ms (fixR ms k c) = true
 |[],_,_,_=>rfl
 |x :: xs,k,c,hc=>by
  rcases hs : isStar x with _ | _
  ·have ih:=inR_fix xs k c hc
   cases k <;> simp only [Bool.false_eq_true,if_false,fixR,hs] <;> rw [inR,inside_refl,ih] <;> rfl
  ·cases k with
   |zero=>
    simp only [if_true,fixR,hs]
    rw [inR,inside_fix hs hc,inR_self]
    rfl
   |succ k=>
    simp only [if_true,fixR,hs]
    rw [inR,inside_refl,inR_fix xs k c hc]
    rfl
theorem fixR_ok : ∀ (ms : List Str) (k : Nat) (c : Str),comp c = true → (∀ x ∈ ms,partOk x = true) → ∀ x ∈ fixR ms k c,partOk x = true
 |[],_,_,_,_,x,hx=>by cases hx
 |y :: ys,k,c,hc,h,x,hx=>by
  have hy:=h y List.mem_cons_self
  have ht : ∀ x ∈ ys,partOk x = true:=fun x hx=>h x (List.mem_cons_of_mem _ hx)
  rcases hs : isStar y with _ | _
  ·have ih:=fixR_ok ys k c hc ht
   cases k <;> simp only [Bool.false_eq_true,if_false,fixR,hs] at hx <;> (rcases List.mem_cons.1 hx with rfl | hx;exact hy;exact ih x hx)
  ·cases k with
   |zero=>
    simp only [if_true,fixR,hs] at hx
    rcases List.mem_cons.1 hx with rfl | hx
    ·refine part_cap (by unfold partOk;rw [hc];rfl) ?_
     unfold partOk at hy
     rw [Bool.or_eq_true] at hy
     rcases hy with hy | hy
     ·rw [comp_noStar hy] at hs
      cases hs
     ·cases y with
      |nil=>cases hs
      |cons a t=>
       unfold starOk at hy
       rw [Bool.and_eq_true] at hy
       exact hy.2
    ·exact ht x hx
   |succ k=>
    simp only [if_true,fixR,hs] at hx
    rcases List.mem_cons.1 hx with rfl | hx
    ·exact hy
    ·exact fixR_ok ys k c hc ht x hx
theorem fixR_head {ms : List Str} {k : Nat} {c : Str} (h : comp (ms.getD 0 [42]) = true) : (fixR ms k c).getD 0 [42] = ms.getD 0 [42]:=by
 cases ms with
 |nil=>rfl
 |cons x xs=>
  have hs : isStar x = false:=comp_noStar h
  cases k <;> simp [fixR,hs]
theorem fixP_good {p : Pat} {k : Nat} {c : Str} (hp : patErr p = 0) (hc : comp c = true) : patErr (fixP p k c) = 0:=by
 obtain ⟨h0,h1,h2,h3,h4⟩:=patErr_iff.1 hp
 have hl : (fixP p k c).parts.length = p.parts.length:=fixR_len _ _ _
 refine patErr_iff.2 ⟨by omega,fun hr=>by have:=h1 hr;omega,by omega,?_,fun x hx=>fixR_ok _ _ _ hc h4 x hx⟩
 show comp ((fixR p.parts k c).getD 0 [42]) = true
 rw [fixR_head h3]
 exact h3
theorem fixP_in {p : Pat} {k : Nat} {c : Str} (hp : patErr p = 0) (hc : comp c = true) : insideP (fixP p k c) p = true:=by
 refine insideP_of ?_ (inR_fix _ _ _ hc)
 have hl : (fixP p k c).parts.length = p.parts.length:=fixR_len _ _ _
 unfold lenIn
 rw [hl]
 show (if p.rest = true then (if p.rest = true then _ else _) else (!p.rest && _)) = true
 cases p.rest <;> simp
theorem inner_fix {p q : Pat} {k : Nat} {c : Str} (h : Twin p q) (hc : comp c = true) : Inner p q (fixP p k c):=⟨h,fixP_good h.lp hc,fixP_in h.lp hc⟩
theorem carry_fix {p q : Pat} {k : Nat} {c : Str} (h : Twin p q) (hc : comp c = true) : carryP p q (fixP p k c) = fixP q k c:=by
 have hi:=inner_fix (k:=k) h hc
 have hl : (fixP p k c).parts.length = p.parts.length:=fixR_len _ _ _
 have h1 : (carryP p q (fixP p k c)).parts = (fixP q k c).parts:=by
  rw [hi.parts]
  show fillR q.parts (capsR p.parts (fixR p.parts k c)) ++ _ = fixR q.parts k c
  rw [capsR_fix,show (p.parts.filter isStar).length = (q.parts.filter isStar).length from h.sn,fillR_capK,List.drop_of_length_le (by omega)]
  cases q.rest <;> simp
 have h2 : (carryP p q (fixP p k c)).rest = (fixP q k c).rest:=by
  rw [hi.crest]
  exact h.rs
 rcases e1 : carryP p q (fixP p k c) with ⟨a,b⟩
 rcases e2 : fixP q k c with ⟨a',b'⟩
 rw [e1,e2] at h1 h2
 simp only at h1 h2
 rw [h1,h2]
theorem carry_carry {p q m m' : Pat} (h : Inner p q m) (hl : (carryP p q m).parts.length ≤ 12) (h' : Inner m (carryP p q m) m') (hn : m'.parts.length = m.parts.length) : carryP m (carryP p q m) m' = carryP p q m':=by
 have hm:=h'.mr
 have hle:=h.le
 have hst : ((m.parts.take p.parts.length).filter isStar).length = (capsR (m.parts.take p.parts.length) m'.parts).length:=(capsR_len _ _ (mR_take _ _ _ hm)).symm
 have hfl : (capsR (m.parts.take p.parts.length) m'.parts).length = ((fillR q.parts (capsR p.parts m.parts)).filter isStar).length:=by
  rw [fill_stars _ _ h.cl h.cn,caps_stars _ _ h.inr h.mr,hst]
 have e : trL m (carryP p q m) m'.parts = trL p q m'.parts:=by
  rw [trL_eq (by omega),trL_eq (by omega),h.parts,h.crest,capsR_split p.parts.length m.parts m'.parts hm,fillR_app _ _ _ _ hfl,fill_fill _ _ _ h.cl h.cn,← caps_caps _ _ _ h.inr h.mr hm,List.append_assoc]
  congr 1
  rw [List.drop_of_length_le (show m'.parts.length ≤ m.parts.length by omega)]
  rcases hq : q.rest with _ | _
  ·simp [fillR]
  ·simp only [if_true]
   rw [fill_caps _ _ (mR_drop p.parts.length _ _ hm),List.length_drop,List.take_of_length_le (by rw [List.length_drop];omega)]
   cases m.rest <;> simp
 have hr : ((carryP p q m).rest && m'.rest) = (q.rest && m'.rest):=by
  rw [h.crest]
  rcases hm' : m'.rest with _ | _
  ·rw [Bool.and_false,Bool.and_false]
  ·have h1:=h'.rest hm'
   rw [h.crest] at h1
   rw [h1,h.rest h1]
 show (⟨trL m (carryP p q m) m'.parts,(carryP p q m).rest && m'.rest⟩ : Pat) = ⟨trL p q m'.parts,q.rest && m'.rest⟩
 rw [e,hr]
theorem carry_step {p q m : Pat} {k : Nat} {c : Str} (h : Inner p q m) (hl : (carryP p q m).parts.length ≤ 12) (hc : comp c = true) : Inner p q (fixP m k c) ∧ carryP p q (fixP m k c) = fixP (carryP p q m) k c:=by
 have ht:=h.twin hl
 have hi:=inner_fix (k:=k) ht hc
 refine ⟨⟨h.tw,hi.good,insideP_trans (allOk_of hi.good) (allOk_of h.good) hi.inn h.inn⟩,?_⟩
 rw [← carry_carry h hl hi (fixR_len _ _ _),carry_fix ht hc]
def diffR : List Str → List Str → Nat → Option (Nat × Str × Str)
 |s :: xs,t :: ys,k=>if s = t then diffR xs ys (if isStar s then k + 1 else k) else some (k,s,t)
 |_,_,_=>none
def detP (s t : Str) : Option Str:=
 if isStar s then (if isStar t then none else if mtch s t then some (cap1 s t) else none) else if isStar t then (if mtch t s then some (cap1 t s) else none) else none
def eqP : Nat → Pat → Pat → Pat → Option Pat
 |0,_,_,_=>none
 |n + 1,m,x,y=>match diffR x.parts y.parts 0 with
  |none=>some m
  |some (k,s,t)=>match detP s t with
   |none=>none
   |some c=>eqP n (fixP m k c) (fixP x k c) (fixP y k c)
theorem diffR_none : ∀ {xs ys : List Str} {k : Nat},xs.length = ys.length → diffR xs ys k = none → xs = ys
 |[],[],_,_,_=>rfl
 |[],y :: ys,_,h,_=>by simp at h
 |x :: xs,[],_,h,_=>by simp at h
 |x :: xs,y :: ys,k,h,hd=>by
  unfold diffR at hd
  split at hd
  ·rename_i e
   rw [e,diffR_none (by simpa using h) hd]
  ·cases hd
theorem diffR_some : ∀ {xs ys : List Str} {k d : Nat} {s t : Str} {cs : List Str},diffR xs ys k = some (d,s,t) → (∀ x ∈ xs,x ≠ []) → (∀ x ∈ ys,x ≠ []) → (∀ c ∈ cs,comp c = true) → cs.length = (xs.filter isStar).length → cs.length = (ys.filter isStar).length → fillR xs cs = fillR ys cs →
  k ≤ d ∧ ∃ c,detP s t = some c ∧ cs[d - k]? = some c
 |[],[],_,_,_,_,_,h,_,_,_,_,_,_=>by cases h
 |[],y :: ys,_,_,_,_,_,h,_,_,_,_,_,_=>by cases h
 |x :: xs,[],_,_,_,_,_,h,_,_,_,_,_,_=>by cases h
 |x :: xs,y :: ys,k,d,s,t,cs,h,hx,hy,hc,h1,h2,hf=>by
  unfold diffR at h
  split at h
  ·rename_i e
   subst e
   rcases hs : isStar x with _ | _
   ·rw [hs] at h
    simp only [Bool.false_eq_true,if_false] at h
    rw [List.filter_cons,hs] at h1 h2
    simp only [Bool.false_eq_true,if_false] at h1 h2
    simp only [fillR,hs,Bool.false_eq_true,if_false,List.cons.injEq,true_and] at hf
    exact diffR_some h (fun z hz=>hx z (List.mem_cons_of_mem _ hz)) (fun z hz=>hy z (List.mem_cons_of_mem _ hz)) hc h1 h2 hf
   ·rw [hs] at h
    simp only [if_true] at h
    rw [List.filter_cons,hs] at h1 h2
    simp only [if_true,List.length_cons] at h1 h2
    cases cs with
    |nil=>simp at h1
    |cons c cs=>
     simp only [fillR,hs,if_true,List.cons.injEq,true_and,List.tail_cons] at hf
     obtain ⟨g1,c',g2,g3⟩:=diffR_some (cs:=cs) h (fun z hz=>hx z (List.mem_cons_of_mem _ hz)) (fun z hz=>hy z (List.mem_cons_of_mem _ hz)) (fun z hz=>hc z (List.mem_cons_of_mem _ hz)) (by simpa using h1) (by simpa using h2) hf
     refine ⟨by omega,c',g2,?_⟩
     rw [show d - k = (d - (k + 1)) + 1 by omega,List.getElem?_cons_succ]
     exact g3
  ·rename_i e
   simp only [Option.some.injEq,Prod.mk.injEq] at h
   obtain ⟨rfl,rfl,rfl⟩:=h
   refine ⟨Nat.le_refl _,?_⟩
   rw [Nat.sub_self]
   rcases hs : isStar x with _ | _ <;> rcases ht : isStar y with _ | _
   ·simp only [fillR,hs,ht,Bool.false_eq_true,if_false,List.cons.injEq] at hf
    exact absurd hf.1 e
   ·rw [List.filter_cons,ht] at h2
    simp only [if_true,List.length_cons] at h2
    cases cs with
    |nil=>simp at h2
    |cons c cs=>
     simp only [fillR,hs,ht,Bool.false_eq_true,if_false,if_true,List.cons.injEq,List.headD_cons] at hf
     have hcc:=hc c List.mem_cons_self
     refine ⟨c,?_,rfl⟩
     unfold detP
     rw [hs,ht,hf.1]
     have hm : mtch y (c ++ y.tail) = true:=(mtch_star_iff ht).2 ⟨⟨c,rfl⟩,by rw [List.length_append];have:=List.length_pos_iff.2 (comp_ne hcc);omega⟩
     simp only [Bool.false_eq_true,if_false,if_true,hm,cap1_app]
   ·rw [List.filter_cons,hs] at h1
    simp only [if_true,List.length_cons] at h1
    cases cs with
    |nil=>simp at h1
    |cons c cs=>
     simp only [fillR,hs,ht,Bool.false_eq_true,if_false,if_true,List.cons.injEq,List.headD_cons] at hf
     have hcc:=hc c List.mem_cons_self
     refine ⟨c,?_,rfl⟩
     unfold detP
     rw [hs,ht,← hf.1]
     have hm : mtch x (c ++ x.tail) = true:=(mtch_star_iff hs).2 ⟨⟨c,rfl⟩,by rw [List.length_append];have:=List.length_pos_iff.2 (comp_ne hcc);omega⟩
     simp only [Bool.false_eq_true,if_false,if_true,hm,cap1_app]
   ·cases cs with
    |nil=>
     rw [List.filter_cons,hs] at h1
     simp at h1
    |cons c cs=>
     simp only [fillR,hs,ht,if_true,List.cons.injEq,List.headD_cons] at hf
     have:=List.append_cancel_left hf.1
     exact absurd (by rw [star_text hs,star_text ht,this]) e
theorem detP_comp {s t c : Str} (hs : partOk s = true) (ht : partOk t = true) (h : detP s t = some c) : comp c = true:=by
 have key : ∀ {a b : Str},partOk b = true → isStar a = true → isStar b = false → mtch a b = true → comp (cap1 a b) = true:=fun {a b} hb ha hbs hm=>by
  have hcb : comp b = true:=by
   unfold partOk at hb
   rw [Bool.or_eq_true] at hb
   rcases hb with hb | hb
   ·exact hb
   ·exfalso
    cases b with
    |nil=>cases hb
    |cons x y=>
     unfold starOk at hb
     rw [Bool.and_eq_true] at hb
     have hbs' : (x == 42) = false:=hbs
     rw [hb.1] at hbs'
     cases hbs'
  exact cap1_comp ha hm hcb
 unfold detP at h
 split at h
 ·rename_i h1
  split at h
  ·cases h
  ·rename_i h2
   split at h
   ·rename_i h3
    obtain rfl:=Option.some.inj h
    exact key ht h1 (by simpa using h2) h3
   ·cases h
 ·rename_i h1
  split at h
  ·rename_i h2
   split at h
   ·rename_i h3
    obtain rfl:=Option.some.inj h
    exact key hs h2 (by simpa using h1) h3
   ·cases h
  ·cases h
theorem diffR_mem : ∀ {xs ys : List Str} {k d : Nat} {s t : Str},diffR xs ys k = some (d,s,t) → s ∈ xs ∧ t ∈ ys ∧ k ≤ d
 |[],[],_,_,_,_,h=>by cases h
 |[],y :: ys,_,_,_,_,h=>by cases h
 |x :: xs,[],_,_,_,_,h=>by cases h
 |x :: xs,y :: ys,k,d,s,t,h=>by
  unfold diffR at h
  split at h
  ·obtain ⟨h1,h2,h3⟩:=diffR_mem h
   refine ⟨List.mem_cons_of_mem _ h1,List.mem_cons_of_mem _ h2,?_⟩
   split at h3 <;> omega
  ·simp only [Option.some.injEq,Prod.mk.injEq] at h
   obtain ⟨rfl,rfl,rfl⟩:=h
   exact ⟨List.mem_cons_self,List.mem_cons_self,Nat.le_refl _⟩
theorem diffR_star : ∀ {xs ys : List Str} {k d : Nat} {s t c : Str},diffR xs ys k = some (d,s,t) → detP s t = some c → (xs.filter isStar).length = (ys.filter isStar).length → d - k < (xs.filter isStar).length
 |[],[],_,_,_,_,_,h,_,_=>by cases h
 |[],y :: ys,_,_,_,_,_,h,_,_=>by cases h
 |x :: xs,[],_,_,_,_,_,h,_,_=>by cases h
 |x :: xs,y :: ys,k,d,s,t,c,h,hd,hn=>by
  unfold diffR at h
  split at h
  ·rename_i e
   subst e
   rw [List.filter_cons,List.filter_cons] at hn
   rw [List.filter_cons]
   rcases hs : isStar x with _ | _
   ·rw [hs] at h hn
    simp only [Bool.false_eq_true,if_false] at h hn ⊢
    exact diffR_star h hd hn
   ·rw [hs] at h hn
    simp only [if_true,List.length_cons] at h hn ⊢
    have:=diffR_star h hd (by omega)
    omega
  ·simp only [Option.some.injEq,Prod.mk.injEq] at h
   obtain ⟨rfl,rfl,rfl⟩:=h
   rw [Nat.sub_self]
   rw [List.filter_cons,List.filter_cons] at hn
   rw [List.filter_cons]
   rcases hs : isStar x with _ | _ <;> rcases ht : isStar y with _ | _
   ·unfold detP at hd
    rw [hs,ht] at hd
    cases hd
   ·rw [hs,ht] at hn
    simp only [Bool.false_eq_true,if_false,if_true,List.length_cons] at hn ⊢
    omega
   ·simp only [if_true,List.length_cons]
    omega
   ·simp only [if_true,List.length_cons]
    omega
theorem fixR_stars : ∀ {xs : List Str} {k : Nat} {c : Str},comp c = true → k < (xs.filter isStar).length → ((fixR xs k c).filter isStar).length + 1 = (xs.filter isStar).length
 |[],k,c,_,h=>by simp at h
 |x :: xs,k,c,hc,h=>by
  rw [List.filter_cons] at h ⊢
  rcases hs : isStar x with _ | _
  ·rw [hs] at h
   simp only [Bool.false_eq_true,if_false] at h ⊢
   have ih:=fixR_stars (xs:=xs) hc h
   cases k <;> simp only [fixR,hs,Bool.false_eq_true,if_false,List.filter_cons] <;> exact ih
  ·rw [hs] at h
   simp only [if_true,List.length_cons] at h ⊢
   cases k with
   |zero=>
    simp only [fixR,hs,if_true,List.filter_cons]
    rw [star_app (comp_ne hc),comp_noStar hc]
    simp
   |succ k=>
    have ih:=fixR_stars (xs:=xs) (k:=k) hc (by omega)
    simp only [fixR,hs,if_true,List.filter_cons,List.length_cons]
    omega
theorem mR_fix : ∀ {ms l : List Str} {k : Nat} {c : Str},mR ms l = true → (capsR ms l)[k]? = some c → comp c = true → mR (fixR ms k c) l = true
 |[],l,k,c,_,h,_=>by cases l <;> simp [capsR] at h
 |x :: xs,[],k,c,h,_,_=>by cases h
 |x :: xs,d :: l,k,c,h,hk,hc=>by
  rw [mR,Bool.and_eq_true] at h
  rcases hs : isStar x with _ | _
  ·simp only [capsR,hs,Bool.false_eq_true,if_false] at hk
   have ih:=mR_fix h.2 hk hc
   cases k <;> simp only [fixR,hs,Bool.false_eq_true,if_false] <;> rw [mR,h.1,ih] <;> rfl
  ·simp only [capsR,hs,if_true] at hk
   cases k with
   |zero=>
    simp only [List.getElem?_cons_zero,Option.some.injEq] at hk
    simp only [fixR,hs,if_true]
    have e : c ++ x.tail = d:=by rw [← hk];exact cap1_tail hs h.1
    have hns : isStar (c ++ x.tail) = false:=by rw [star_app (comp_ne hc)];exact comp_noStar hc
    rw [mR,(mtch_lit_iff hns).2 e,h.2]
    rfl
   |succ k=>
    simp only [List.getElem?_cons_succ] at hk
    simp only [fixR,hs,if_true]
    rw [mR,h.1,mR_fix h.2 hk hc]
    rfl
theorem trL_same {m x y : Pat} {l : List Str} (hr : x.rest = y.rest) (hle : m.parts.length ≤ l.length) (hlen : x.parts.length = y.parts.length) : trL m x l = trL m y l ↔ fillR x.parts (capsR m.parts l) = fillR y.parts (capsR m.parts l):=by
 rw [trL_eq hle,trL_eq hle,hr]
 constructor
 ·intro h
  exact (List.append_inj h (by rw [fillR_len,fillR_len,hlen])).1
 ·intro h
  rw [h]
theorem eqP_mean : ∀ (n : Nat) {m x y : Pat},Twin m x → Twin m y → x.parts.length = y.parts.length → starN m < n →
  (∀ p,eqP n m x y = some p → patErr p = 0 ∧ ∀ l : List Str,l.all comp = true → (matchL p l = true ↔ matchL m l = true ∧ trL m x l = trL m y l)) ∧ (eqP n m x y = none → ∀ l : List Str,l.all comp = true → matchL m l = true → trL m x l ≠ trL m y l)
 |0,m,x,y,_,_,_,h=>by omega
 |n + 1,m,x,y,hx,hy,hlen,hn=>by
  have hrs : x.rest = y.rest:=hx.rs.symm.trans hy.rs
  unfold eqP
  rcases hd : diffR x.parts y.parts 0 with _ | ⟨k,s,t⟩
  ·have e:=diffR_none hlen hd
   refine ⟨fun p hp=>?_,fun h=>by cases h⟩
   obtain rfl:=Option.some.inj hp
   refine ⟨hx.lp,fun l hc=>⟨fun h=>⟨h,?_⟩,fun h=>h.1⟩⟩
   have hle : m.parts.length ≤ l.length:=by
    rw [matchL_mR,Bool.and_eq_true] at h
    exact reaches_le h.1
   exact (trL_same hrs hle hlen).2 (by rw [e])
  ·simp only
   obtain ⟨hsx,hty,_⟩:=diffR_mem hd
   have key : ∀ l : List Str,l.all comp = true → matchL m l = true → trL m x l = trL m y l → ∃ c,detP s t = some c ∧ (capsR m.parts l)[k]? = some c:=fun l hc hm he=>by
    rw [matchL_mR,Bool.and_eq_true] at hm
    have hle:=reaches_le hm.1
    have h1:=(trL_same hrs hle hlen).1 he
    have hcl:=capsR_len _ _ hm.2
    have hcc:=capsR_comp _ _ hm.2 hc
    obtain ⟨_,c,h2,h3⟩:=diffR_some hd (fun z hz=>parts_ne hx.rp z hz) (fun z hz=>parts_ne hy.rp z hz) (fun z hz=>List.all_eq_true.1 hcc z hz) (hcl.trans hx.sn) (hcl.trans hy.sn) h1
    exact ⟨c,h2,h3⟩
   rcases hdet : detP s t with _ | c
   ·refine ⟨fun p hp=>(by cases hp),fun _ l hc hm he=>?_⟩
    obtain ⟨c,h1,_⟩:=key l hc hm he
    rw [hdet] at h1
    cases h1
   ·simp only
    have hcc : comp c = true:=detP_comp (allOk_of hx.rp s hsx) (allOk_of hy.rp t hty) hdet
    have hk : k < (x.parts.filter isStar).length:=by
     have:=diffR_star hd hdet (hx.sn.symm.trans hy.sn)
     omega
    have ix:=inner_fix (k:=k) hx hcc
    have iy:=inner_fix (k:=k) hy hcc
    have cx:=carry_fix (k:=k) hx hcc
    have cy:=carry_fix (k:=k) hy hcc
    have hxl : (fixP x k c).parts.length = x.parts.length:=fixR_len _ _ _
    have hyl : (fixP y k c).parts.length = y.parts.length:=fixR_len _ _ _
    have hx12 : x.parts.length ≤ 12:=(patErr_iff.1 hx.rp).2.2.1
    have tx : Twin (fixP m k c) (fixP x k c):=by
     rw [← cx]
     exact ix.twin (by rw [cx];omega)
    have ty : Twin (fixP m k c) (fixP y k c):=by
     rw [← cy]
     exact iy.twin (by rw [cy];omega)
    have hst : starN (fixP m k c) < n:=by
     have h1 : starN (fixP m k c) + 1 = starN m:=fixR_stars hcc (by rw [show (m.parts.filter isStar).length = (x.parts.filter isStar).length from hx.sn];exact hk)
     omega
    have ih:=eqP_mean n tx ty (by omega) hst
    have hmm : ∀ l : List Str,l.all comp = true → matchL (fixP m k c) l = true → matchL m l = true ∧ (trL (fixP m k c) (fixP x k c) l = trL m x l ∧ trL (fixP m k c) (fixP y k c) l = trL m y l):=fun l hc hm=>by
     have e1:=ix.tr hm
     have e2:=iy.tr hm
     rw [cx] at e1
     rw [cy] at e2
     exact ⟨insideP_match (allOk_of ix.good) ix.inn hc hm,e1,e2⟩
    have hback : ∀ l : List Str,l.all comp = true → matchL m l = true → trL m x l = trL m y l → matchL (fixP m k c) l = true:=fun l hc hm he=>by
     obtain ⟨c',h1,h2⟩:=key l hc hm he
     rw [hdet] at h1
     obtain rfl:=Option.some.inj h1
     rw [matchL_mR,Bool.and_eq_true] at hm ⊢
     refine ⟨?_,mR_fix hm.2 h2 hcc⟩
     have hl : (fixP m k c).parts.length = m.parts.length:=fixR_len _ _ _
     have:=hm.1
     unfold reaches at this ⊢
     rw [hl]
     exact this
    refine ⟨fun p hp=>?_,fun hp l hc hm he=>?_⟩
    ·obtain ⟨h1,h2⟩:=ih.1 p hp
     refine ⟨h1,fun l hc=>⟨fun h=>?_,fun h=>?_⟩⟩
     ·obtain ⟨h3,h4⟩:=(h2 l hc).1 h
      obtain ⟨h5,h6,h7⟩:=hmm l hc h3
      exact ⟨h5,by rw [← h6,← h7];exact h4⟩
     ·have h3:=hback l hc h.1 h.2
      obtain ⟨_,h6,h7⟩:=hmm l hc h3
      exact (h2 l hc).2 ⟨h3,by rw [h6,h7];exact h.2⟩
    ·have h3:=hback l hc hm he
     obtain ⟨_,h6,h7⟩:=hmm l hc h3
     exact ih.2 hp l hc h3 (by rw [h6,h7];exact he)
def agE (a b : Rule) : Option Pat × Int:=
 if ruleErr a ≠ 0 then (none,ruleErr a) else if ruleErr b ≠ 0 then (none,ruleErr b) else match meetP a.left b.left with
  |none=>(none,0)
  |some m=>if 12 < (carryP a.left a.right m).parts.length ∨ 12 < (carryP b.left b.right m).parts.length then (none,43) else
   if (carryP a.left a.right m).parts.length ≠ (carryP b.left b.right m).parts.length then (none,0) else (eqP (starN m + 1) m (carryP a.left a.right m) (carryP b.left b.right m),0)
theorem agE_mean {a b : Rule} (ha : ruleErr a = 0) (hb : ruleErr b = 0) (h0 : (agE a b).2 = 0) {l : List Str} (hc : l.all comp = true) : (∀ p,(agE a b).1 = some p → patErr p = 0 ∧ (matchL p l = true ↔ matchL a.left l = true ∧ matchL b.left l = true ∧ trL a.left a.right l = trL b.left b.right l)) ∧ ((agE a b).1 = none → ¬ (matchL a.left l = true ∧ matchL b.left l = true ∧ trL a.left a.right l = trL b.left b.right l)):=by
 unfold agE at h0 ⊢
 rw [if_neg (by simpa using ha),if_neg (by simpa using hb)] at h0 ⊢
 rcases hm : meetP a.left b.left with _ | m
 ·refine ⟨fun p hp=>(by cases hp),fun _ h=>?_⟩
  have h1 : meetL a.left b.left = none:=by
   unfold meetP at hm
   rw [if_pos ⟨(ruleErr_twin.1 ha).lp,(ruleErr_twin.1 hb).lp⟩] at hm
   exact hm
  have:=meetL_nomatch h1 hc
  rw [h.1,h.2.1] at this
  cases this
 ·rw [hm] at h0
  simp only at h0 ⊢
  obtain ⟨m1,m2,m3,m4⟩:=meetP_some hm
  have hin:=meetL_in (allOk_of m1) (allOk_of m2) m3
  have ia : Inner a.left a.right m:=⟨ruleErr_twin.1 ha,m4,hin.1⟩
  have ib : Inner b.left b.right m:=⟨ruleErr_twin.1 hb,m4,hin.2⟩
  have hml:=meetL_match (allOk_of m1) (allOk_of m2) m3 hc
  by_cases h12 : 12 < (carryP a.left a.right m).parts.length ∨ 12 < (carryP b.left b.right m).parts.length
  ·rw [if_pos h12] at h0
   cases h0
  ·rw [if_neg h12]
   have ta:=ia.twin (by omega)
   have tb:=ib.twin (by omega)
   have hmb : matchL m l = true ↔ matchL a.left l = true ∧ matchL b.left l = true:=by rw [hml,Bool.and_eq_true]
   by_cases hl : (carryP a.left a.right m).parts.length ≠ (carryP b.left b.right m).parts.length
   ·rw [if_pos hl]
    refine ⟨fun p hp=>(by cases hp),fun _ h=>hl ?_⟩
    have hmm:=hmb.2 ⟨h.1,h.2.1⟩
    have e1:=ia.tr hmm
    have e2:=ib.tr hmm
    have l1:=tr_length ta hmm
    have l2:=tr_length tb hmm
    rw [e1] at l1
    rw [e2] at l2
    rw [h.2.2] at l1
    omega
   ·rw [if_neg hl]
    have hme:=eqP_mean (starN m + 1) ta tb (by simpa using hl) (Nat.lt_succ_self _)
    refine ⟨fun p hp=>?_,fun hp h=>?_⟩
    ·obtain ⟨h1,h2⟩:=hme.1 p hp
     refine ⟨h1,?_⟩
     rw [h2 l hc]
     constructor
     ·rintro ⟨h3,h4⟩
      have h5:=hmb.1 h3
      rw [ia.tr h3,ib.tr h3] at h4
      exact ⟨h5.1,h5.2,h4⟩
     ·rintro ⟨h3,h4,h5⟩
      have h6:=hmb.2 ⟨h3,h4⟩
      exact ⟨h6,by rw [ia.tr h6,ib.tr h6];exact h5⟩
    ·have h6:=hmb.2 ⟨h.1,h.2.1⟩
     exact hme.2 hp l hc h6 (by rw [ia.tr h6,ib.tr h6];exact h.2.2)
end Go.Proofs.YtnlnclefedohkaaGreatDoor.Sy
set_option linter.unusedVariables false
set_option linter.unusedSimpArgs false
namespace Go.Proofs.YtnlnclefedohkaaGreatDoor.Sy

def agOf (x y : Ent) : Option (Option Reg):=if (agE x.rule y.rule).2 ≠ 0 then none else match (agE x.rule y.rule).1 with
 |none=>some none
 |some p=>redG p (x.hs ++ y.hs)
theorem ag_good {x y : Ent} (hx : ruleErr x.rule = 0) (hy : ruleErr y.rule = 0) {g : Reg} (h : agOf x y = some (some g)) : gErr g = 0:=by
 unfold agOf at h
 by_cases h0 : (agE x.rule y.rule).2 ≠ 0
 ·rw [if_pos h0] at h;cases h
 ·rw [if_neg h0] at h
  rcases hp : (agE x.rule y.rule).1 with _ | p
  ·rw [hp] at h;cases h
  ·rw [hp] at h
   exact redG_good ((agE_mean hx hy (by simpa using h0) (l:=[]) rfl).1 p hp).1 h
end Go.Proofs.YtnlnclefedohkaaGreatDoor.Sy
