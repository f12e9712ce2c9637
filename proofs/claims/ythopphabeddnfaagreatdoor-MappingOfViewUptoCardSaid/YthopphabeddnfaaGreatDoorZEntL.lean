/- The entries of a view: what they are, what they mean. No program in sight. -/
import Derived.Test.YthopphabeddnfaaGreatDoorZView
import Derived.Test.YthopphabeddnfaaGreatDoorZReduceL
import Derived.Test.YthopphabeddnfaaGreatDoorZNarL
set_option linter.unusedVariables false
set_option linter.unusedSimpArgs false
namespace Go.Proofs.YthopphabeddnfaaGreatDoor.Sy

theorem decR_ge (v : List Rule) (s : Str) : -1 ≤ decR v s ∧ decR v s < v.length:=lastIx_ge _ v
theorem viewErr_cons {v : List Rule} {r : Rule} (h : viewErr (r :: v) = 0) : viewErr v = 0 ∧ ruleErr r = 0:=by
 obtain ⟨h1,h2⟩:=viewErr_ok.1 h
 rw [List.length_cons] at h2
 exact ⟨viewErr_ok.2 ⟨fun q hq=>h1 q (by simp [hq]),by omega⟩,h1 r (by simp)⟩

theorem decL_cons (r : Rule) (v : List Rule) (s : Str) : decL (r :: v) s = if 0 ≤ decL v s then decL v s + 1 else if matchS r.left s then 0 else -1:=rfl
theorem decR_cons (r : Rule) (v : List Rule) (s : Str) : decR (r :: v) s = if 0 ≤ decR v s then decR v s + 1 else if matchS r.right s then 0 else -1:=rfl
theorem first_some {v : List Rule} {r : Rule} {s : Str} (h : viewErr (r :: v) = 0) (hn : 0 ≤ decides v s) : decides (r :: v) s = decides v s + 1 ∧ vfwd (r :: v) s = vfwd v s:=by
 obtain ⟨h1,h2⟩:=viewErr_cons h
 unfold decides at hn ⊢
 rw [if_pos h1] at hn ⊢
 have hd : decL (r :: v) s = decL v s + 1:=by rw [decL_cons,if_pos hn]
 rw [if_pos h]
 refine ⟨hd,?_⟩
 have hR : ∀ t (k : Int),0 ≤ k → (decR (r :: v) t ≤ k + 1 ↔ decR v t ≤ k):=fun t k hk=>by
  rw [decR_cons]
  split
  ·omega
  ·split <;> omega
 rcases hf : vfwd v s with _ | t
 ·rcases hw : vfwd (r :: v) s with _ | u
  ·rfl
  ·exfalso
   obtain ⟨_,k,q,g1,g2,g3,g4,g5⟩:=vfwd_some.1 hw
   rw [hd] at g1
   obtain ⟨j,rfl⟩ : ∃ j,k = j + 1:=⟨k - 1,by omega⟩
   have : vfwd v s = some u:=vfwd_some.2 ⟨h1,j,q,by omega,by simpa using g2,g3,g4,by
    have:=(hR u j (by omega)).1 (by omega)
    exact this⟩
   rw [hf] at this
   cases this
 ·obtain ⟨_,k,q,g1,g2,g3,g4,g5⟩:=vfwd_some.1 hf
  exact vfwd_some.2 ⟨h,k + 1,q,by rw [hd,g1];rfl,by simpa using g2,g3,g4,by
   have:=(hR t k (by omega)).2 g5
   omega⟩
theorem vbwd_back {v : List Rule} {s t : Str} (h : vbwd v s = some t) : vfwd v t = some s:=by
 have:=vfwd_back (v:=turnV v) h
 rw [vbwd,turnV_turnV] at this
 exact this
end Go.Proofs.YthopphabeddnfaaGreatDoor.Sy
set_option linter.unusedVariables false
set_option linter.unusedSimpArgs false
namespace Go.Proofs.YthopphabeddnfaaGreatDoor.Sy

structure Reg where
 b : Pat
 hs : List Pat
deriving DecidableEq,Inhabited

def gErr (g : Reg) : Int:=regErr g.b g.hs
def hasG (g : Reg) (l : List Str) : Bool:=hasL g.b g.hs l
theorem gErr_zero {g : Reg} (h : gErr g = 0) : patErr g.b = 0 ∧ (∀ p ∈ g.hs,patErr p = 0) ∧ g.hs.length ≤ 64:=by
 unfold gErr regErr at h
 split at h
 ·cases h
 ·rename_i h1
  split at h
  ·cases h
  ·rename_i h2
   split at h
   ·cases h
   ·rename_i h3
    refine ⟨by omega,fun p hp=>?_,by omega⟩
    rw [Bool.not_eq_true,List.any_eq_false] at h2
    have:=h2 p hp
    simpa using this
theorem gErr_of {g : Reg} (h1 : patErr g.b = 0) (h2 : ∀ p ∈ g.hs,patErr p = 0) (h3 : g.hs.length ≤ 64) : gErr g = 0:=by
 unfold gErr
 rw [regErr_end h1 (fun j h _ hj=>h2 h (List.mem_of_getElem? hj)),if_neg (by omega)]
theorem pos_of {p : Pat} (h : patErr p = 0) : 0 < p.parts.length:=(patErr_iff.1 h).1
end Go.Proofs.YthopphabeddnfaaGreatDoor.Sy
set_option linter.unusedVariables false
set_option linter.unusedSimpArgs false
namespace Go.Proofs.YthopphabeddnfaaGreatDoor.Sy

structure Ent where
 left : Pat
 right : Pat
 hs : List Pat
deriving DecidableEq,Inhabited
def Ent.reg (x : Ent) : Reg:=⟨x.left,x.hs⟩
def Ent.rule (x : Ent) : Rule:=⟨false,x.left,x.right⟩
def entHoles (r : Rule) : List Rule → Option (List Pat)
 |[]=>some []
 |q :: ls=>if (narR r q.right).2 ≠ 0 then none else (entHoles r ls).map fun hs=>q.left :: ((narR r q.right).1.map (·.left)).toList ++ hs
def entOf (r : Rule) (hs : List Pat) : Ent:=⟨r.left,r.right,redL r.left hs⟩
def entsL : List Rule → Option (List Ent)
 |[]=>some []
 |r :: ls=>if r.excl then entsL ls else match entHoles r ls with
  |none=>none
  |some hs=>(entsL ls).map fun es=>if leastLen r.left (redL r.left hs) = 0 then es else entOf r hs :: es
def entE (v : List Rule) : List Ent × Int:=if viewErr v ≠ 0 then ([],viewErr v) else match entsL v with
 |none=>([],61)
 |some es=>(es,0)

theorem narR_match {r : Rule} {q : Pat} (hr : ruleErr r = 0) (hq : patErr q = 0) (h0 : (narR r q).2 = 0) {l : List Str} (hc : l.all comp = true) (hl : matchL r.left l = true) :
  ((narR r q).1.map (·.left)).toList.any (fun h=>matchL h l) = matchL q (trL r.left r.right l):=by
 have htw:=ruleErr_twin.1 hr
 have hr2 : ruleErr ⟨false,r.right,r.left⟩ = 0:=ruleErr_twin.2 htw.turn
 obtain ⟨g1,g2,g3,g4⟩:=tr_twin htw hc hl
 unfold narR at h0 ⊢
 rw [if_neg (by simpa using hr)] at h0 ⊢
 simp only at h0 ⊢
 rcases hn : (narL ⟨false,r.right,r.left⟩ q).1 with _ | n
 ·have:=narL_none hr2 hq hn h0 g2 g1
  rw [this]
  rfl
 ·have:=narL_right hn g2 g1
  simp only at this
  rw [g4] at this
  simp only [Option.map_some,Option.toList,List.any_cons,List.any_nil,Bool.or_false]
  exact this
theorem narR_good {r n : Rule} {q : Pat} (h : (narR r q).1 = some n) : patErr n.left = 0:=by
 unfold narR at h
 by_cases h0 : ruleErr r ≠ 0
 ·rw [if_pos h0] at h
  cases h
 ·rw [if_neg h0] at h
  simp only at h
  rcases hn : (narL ⟨false,r.right,r.left⟩ q).1 with _ | m
  ·rw [hn] at h;cases h
  ·rw [hn] at h
   obtain rfl:=Option.some.inj h
   exact (ruleErr_twin.1 (narL_good hn)).rp
theorem entHoles_good {r : Rule} : ∀ {ls : List Rule} {hs : List Pat},(∀ q ∈ ls,ruleErr q = 0) → entHoles r ls = some hs → (∀ h ∈ hs,patErr h = 0) ∧ hs.length ≤ 2 * ls.length
 |[],hs,_,h=>by
  obtain rfl:=Option.some.inj h
  exact ⟨fun h hh=>(by cases hh),(by simp)⟩
 |q :: ls,hs,hq,h=>by
  unfold entHoles at h
  split at h
  ·cases h
  ·obtain ⟨hs',h1,rfl⟩:=Option.map_eq_some_iff.1 h
   obtain ⟨h2,h3⟩:=entHoles_good (fun y hy=>hq y (by simp [hy])) h1
   have hql:=(ruleErr_twin.1 (hq q (by simp))).lp
   refine ⟨fun x hx=>?_,?_⟩
   ·simp only [List.cons_append,List.mem_cons,List.mem_append] at hx
    rcases hx with rfl | hx | hx
    ·exact hql
    ·rw [Option.mem_toList] at hx
     obtain ⟨n,hn,rfl⟩:=Option.map_eq_some_iff.1 hx
     exact narR_good hn
    ·exact h2 x hx
   ·rcases (narR r q.right).1 with _ | n
    ·simp
     omega
    ·simp
     omega
theorem entHoles_any {r : Rule} (hr : ruleErr r = 0) {l : List Str} (hc : l.all comp = true) (hl : matchL r.left l = true) : ∀ {ls : List Rule} {hs : List Pat},(∀ q ∈ ls,ruleErr q = 0) → entHoles r ls = some hs →
  hs.any (fun h=>matchL h l) = ls.any fun q=>matchL q.left l || matchL q.right (trL r.left r.right l)
 |[],hs,_,h=>by
  obtain rfl:=Option.some.inj h
  rfl
 |q :: ls,hs,hq,h=>by
  unfold entHoles at h
  split at h
  ·cases h
  ·rename_i h0
   obtain ⟨hs',h1,rfl⟩:=Option.map_eq_some_iff.1 h
   have ih:=entHoles_any hr hc hl (fun y hy=>hq y (by simp [hy])) h1
   have hn:=narR_match hr (ruleErr_twin.1 (hq q (by simp))).rp (by simpa using h0) hc hl
   rw [List.cons_append,List.any_cons,List.any_append,ih,hn,List.any_cons]
   cases matchL q.left l <;> simp
theorem entOf_has {r : Rule} (hr : ruleErr r = 0) {ls : List Rule} {hs : List Pat} (hq : ∀ q ∈ ls,ruleErr q = 0) (h : entHoles r ls = some hs) {l : List Str} (hc : l.all comp = true) :
  hasG (entOf r hs).reg l = (matchL r.left l && !ls.any fun q=>matchL q.left l || matchL q.right (trL r.left r.right l)):=by
 have h1 : hasG (entOf r hs).reg l = hasL r.left hs l:=redL_has (ruleErr_twin.1 hr).lp (entHoles_good hq h).1 hc
 rw [h1]
 unfold hasL
 rcases hl : matchL r.left l with _ | _
 ·rfl
 ·rw [entHoles_any hr hc hl hq h]
theorem matchS_path {p : Pat} (hp : patErr p = 0) {s : Str} {l : List Str} (h : pathOf s = some l) : matchS p s = matchL p l:=by
 unfold matchS
 rw [h]
 simp [okPat,hp]
theorem lastIx_neg {α : Type} {f : α → Bool} {v : List α} : lastIx f v < 0 ↔ v.any f = false:=by
 rcases lastIx_cases f v with ⟨h1,h2⟩ | ⟨k,a,h1,h2,h3,_⟩
 ·rw [h1]
  refine ⟨fun _=>?_,fun _=>by decide⟩
  rw [List.any_eq_false]
  exact fun a ha=>by rw [h2 a ha];decide
 ·rw [h1]
  refine ⟨fun h=>by omega,fun h=>?_⟩
  have:=List.any_eq_false.1 h a (List.mem_of_getElem? h2)
  exact absurd h3 this
theorem cons_fwd {v : List Rule} {r : Rule} {s : Str} {l : List Str} (h : viewErr (r :: v) = 0) (hs : pathOf s = some l) :
  vfwd (r :: v) s = if v.any (fun q=>matchL q.left l) then vfwd v s else if matchL r.left l && !r.excl && !v.any (fun q=>matchL q.right (trL r.left r.right l)) then fwd r s else none:=by
 obtain ⟨hv,hr⟩:=viewErr_cons h
 have hgood:=(viewErr_ok.1 hv).1
 have hc:=(pathOf_some hs).2.1
 have hL : v.any (fun q=>matchS q.left s) = v.any (fun q=>matchL q.left l):=by
  rw [Bool.eq_iff_iff,List.any_eq_true,List.any_eq_true]
  exact ⟨fun ⟨q,hq,e⟩=>⟨q,hq,by rw [← matchS_path (ruleErr_twin.1 (hgood q hq)).lp hs];exact e⟩,fun ⟨q,hq,e⟩=>⟨q,hq,by rw [matchS_path (ruleErr_twin.1 (hgood q hq)).lp hs];exact e⟩⟩
 by_cases hd : 0 ≤ decL v s
 ·have : v.any (fun q=>matchL q.left l) = true:=by
   rw [← hL]
   rcases hx : v.any (fun q=>matchS q.left s) with _ | _
   ·have:=lastIx_neg.2 hx
    unfold decL at hd
    omega
   ·rfl
  rw [this,if_pos rfl]
  exact (first_some h (by unfold decides;rw [if_pos hv];exact hd)).2
 ·have hneg : decL v s < 0:=by omega
  have hany : v.any (fun q=>matchL q.left l) = false:=by rw [← hL];exact lastIx_neg.1 hneg
  rw [hany,if_neg (by decide)]
  have hms:=matchS_path (ruleErr_twin.1 hr).lp hs
  have hdec : decL (r :: v) s = if matchL r.left l then 0 else -1:=by rw [decL_cons,if_neg hd,hms]
  rcases hm : matchL r.left l with _ | _
  ·simp only [Bool.false_and,Bool.false_eq_true,if_false]
   rcases hw : vfwd (r :: v) s with _ | u
   ·rfl
   ·obtain ⟨_,k,q,g1,_⟩:=vfwd_some.1 hw
    rw [hdec,hm] at g1
    simp at g1
    try omega
  ·rw [hm,if_pos rfl] at hdec
   obtain ⟨t,ht⟩:=(fwd_match hr).2 (hms.trans hm)
   obtain ⟨l',_,hp',_,ht',hpt⟩:=fwd_some ht
   obtain rfl : l = l':=by rw [hs] at hp';exact Option.some.inj hp'
   have hR : v.any (fun q=>matchS q.right t) = v.any (fun q=>matchL q.right (trL r.left r.right l)):=by
    rw [Bool.eq_iff_iff,List.any_eq_true,List.any_eq_true]
    exact ⟨fun ⟨q,hq,e⟩=>⟨q,hq,by rw [← matchS_path (ruleErr_twin.1 (hgood q hq)).rp hpt];exact e⟩,fun ⟨q,hq,e⟩=>⟨q,hq,by rw [matchS_path (ruleErr_twin.1 (hgood q hq)).rp hpt];exact e⟩⟩
   have hdr : decR (r :: v) t ≤ 0 ↔ v.any (fun q=>matchL q.right (trL r.left r.right l)) = false:=by
    rw [← hR,← lastIx_neg]
    show _ ↔ decR v t < 0
    rw [decR_cons]
    split
    ·omega
    ·have : decR v t < 0:=by omega
     split <;> omega
   rcases hx : r.excl with _ | _
   ·rcases ha : v.any (fun q=>matchL q.right (trL r.left r.right l)) with _ | _
    ·simp only [Bool.not_false,Bool.and_true,if_true]
     rw [ht]
     exact vfwd_some.2 ⟨h,0,r,by rw [hdec];rfl,rfl,hx,ht,hdr.2 ha⟩
    ·simp only [Bool.not_true,Bool.and_false,Bool.false_eq_true,if_false]
     rcases hw : vfwd (r :: v) s with _ | u
     ·rfl
     ·obtain ⟨_,k,q,g1,g2,_,g4,g5⟩:=vfwd_some.1 hw
      rw [hdec] at g1
      obtain rfl : k = 0:=by omega
      obtain rfl : r = q:=by simpa using g2
      rw [ht] at g4
      obtain rfl:=Option.some.inj g4
      have:=hdr.1 (by simpa using g5)
      rw [ha] at this
      cases this
   ·simp only [Bool.not_true,Bool.and_false,Bool.false_and,Bool.false_eq_true,if_false]
    rcases hw : vfwd (r :: v) s with _ | u
    ·rfl
    ·obtain ⟨_,k,q,g1,g2,g3,_⟩:=vfwd_some.1 hw
     rw [hdec] at g1
     obtain rfl : k = 0:=by omega
     obtain rfl : r = q:=by simpa using g2
     rw [hx] at g3
     cases g3
def byE (es : List Ent) (s : Str) (l : List Str) : Option Str:=match es.find? (fun x=>hasG x.reg l) with
 |some x=>fwd x.rule s
 |none=>none
theorem ents_mean {s : Str} {l : List Str} (hs : pathOf s = some l) : ∀ {v : List Rule} {es : List Ent},viewErr v = 0 → entsL v = some es → byE es s l = vfwd v s ∧ es.countP (fun x=>hasG x.reg l) = if (vfwd v s).isSome then 1 else 0
 |[],es,hv,h=>by
  obtain rfl:=Option.some.inj h
  have : vfwd [] s = none:=by
   rcases hw : vfwd [] s with _ | u
   ·rfl
   ·obtain ⟨_,k,q,_,g2,_⟩:=vfwd_some.1 hw
    simp at g2
  rw [this]
  exact ⟨rfl,rfl⟩
 |r :: v,es,hv,h=>by
  obtain ⟨hv1,hr⟩:=viewErr_cons hv
  have hgood:=(viewErr_ok.1 hv1).1
  have hc:=(pathOf_some hs).2.1
  rw [cons_fwd hv hs]
  unfold entsL at h
  by_cases hx : r.excl = true
  ·rw [if_pos hx] at h
   obtain ⟨i1,i2⟩:=ents_mean hs hv1 h
   rw [hx]
   simp only [Bool.not_true,Bool.and_false,Bool.false_and,Bool.false_eq_true,if_false]
   rcases ha : v.any (fun q=>matchL q.left l) with _ | _
   ·simp only [Bool.false_eq_true,if_false]
    have hz : vfwd v s = none:=by
     rcases hw : vfwd v s with _ | u
     ·rfl
     ·obtain ⟨_,k,q,g1,g2,_,g4,_⟩:=vfwd_some.1 hw
      obtain ⟨l',g5,g6,g7,_⟩:=fwd_some g4
      obtain rfl : l = l':=by rw [hs] at g6;exact Option.some.inj g6
      have:=List.any_eq_false.1 ha q (List.mem_of_getElem? g2)
      rw [g7] at this
      exact absurd rfl this
    rw [hz] at i1 i2
    exact ⟨i1,i2⟩
   ·simp only [if_true]
    exact ⟨i1,i2⟩
  ·rw [if_neg hx] at h
   have hx0 : r.excl = false:=by simpa using hx
   rcases hh : entHoles r v with _ | hs'
   ·rw [hh] at h;cases h
   ·rw [hh] at h
    simp only at h
    obtain ⟨es',h1,h2⟩:=Option.map_eq_some_iff.1 h
    obtain ⟨i1,i2⟩:=ents_mean hs hv1 h1
    have hhas:=entOf_has hr hgood hh hc
    -- whether the entry is there or not,what it has is the same
    have key : byE es s l = (if hasG (entOf r hs').reg l then fwd r s else byE es' s l) ∧ es.countP (fun x=>hasG x.reg l) = es'.countP (fun x=>hasG x.reg l) + if hasG (entOf r hs').reg l then 1 else 0:=by
     subst h2
     by_cases hz : leastLen r.left (redL r.left hs') = 0
     ·have : hasG (entOf r hs').reg l = false:=least_none (pos_of (ruleErr_twin.1 hr).lp) hz hc
      rw [if_pos hz,this]
      exact ⟨rfl,rfl⟩
     ·rw [if_neg hz]
      refine ⟨?_,by rw [List.countP_cons]⟩
      unfold byE
      rw [List.find?_cons]
      rcases hasG (entOf r hs').reg l with _ | _
      ·rfl
      ·rfl
    rw [key.1,key.2,hx0]
    simp only [Bool.not_false,Bool.and_true]
    rcases ha : v.any (fun q=>matchL q.left l) with _ | _
    ·have hz : vfwd v s = none:=by
      rcases hw : vfwd v s with _ | u
      ·rfl
      ·obtain ⟨_,k,q,g1,g2,_,g4,_⟩:=vfwd_some.1 hw
       obtain ⟨l',g5,g6,g7,_⟩:=fwd_some g4
       obtain rfl : l = l':=by rw [hs] at g6;exact Option.some.inj g6
       have:=List.any_eq_false.1 ha q (List.mem_of_getElem? g2)
       rw [g7] at this
       exact absurd rfl this
     rw [hz] at i1 i2
     have e : hasG (entOf r hs').reg l = (matchL r.left l && !v.any (fun q=>matchL q.right (trL r.left r.right l))):=by
      rw [hhas]
      congr 2
      rw [Bool.eq_iff_iff,List.any_eq_true,List.any_eq_true]
      exact ⟨fun ⟨q,hq,e⟩=>⟨q,hq,by
       have:=List.any_eq_false.1 ha q hq
       simp only [Bool.or_eq_true] at e
       rcases e with e | e
       ·exact absurd e this
       ·exact e⟩,fun ⟨q,hq,e⟩=>⟨q,hq,by rw [e,Bool.or_true]⟩⟩
     rw [← e,i1,i2]
     rw [if_neg (show ¬ (false = true) by decide)]
     rcases hb : hasG (entOf r hs').reg l with _ | _
     ·exact ⟨rfl,rfl⟩
     ·rw [e] at hb
      simp only [Bool.and_eq_true] at hb
      obtain ⟨t,ht⟩:=(fwd_match hr).2 ((matchS_path (ruleErr_twin.1 hr).lp hs).trans hb.1)
      rw [ht]
      exact ⟨rfl,rfl⟩
    ·have e : hasG (entOf r hs').reg l = false:=by
      rw [hhas]
      obtain ⟨q,hq,e⟩:=List.any_eq_true.1 ha
      have : v.any (fun q=>matchL q.left l || matchL q.right (trL r.left r.right l)) = true:=List.any_eq_true.2 ⟨q,hq,by rw [e,Bool.true_or]⟩
      rw [this]
      simp
     rw [e]
     simp only [if_true,Bool.false_eq_true,if_false,Nat.add_zero]
     exact ⟨i1,i2⟩
theorem ents_good : ∀ {v : List Rule} {es : List Ent},viewErr v = 0 → entsL v = some es → es.length ≤ v.length ∧ ∀ x ∈ es,ruleErr x.rule = 0 ∧ gErr x.reg = 0 ∧ ∃ r ∈ v,x.left = r.left ∧ x.right = r.right
 |[],es,hv,h=>by
  obtain rfl:=Option.some.inj h
  exact ⟨Nat.le_refl _,fun x hx=>by cases hx⟩
 |r :: v,es,hv,h=>by
  obtain ⟨hv1,hr⟩:=viewErr_cons hv
  have hgood:=(viewErr_ok.1 hv1).1
  have hlen:=(viewErr_ok.1 hv1).2
  unfold entsL at h
  by_cases hx : r.excl = true
  ·rw [if_pos hx] at h
   obtain ⟨h1,h2⟩:=ents_good hv1 h
   exact ⟨by rw [List.length_cons];omega,fun x hx=>⟨(h2 x hx).1,(h2 x hx).2.1,by obtain ⟨q,hq,e⟩:=(h2 x hx).2.2;exact ⟨q,List.mem_cons_of_mem _ hq,e⟩⟩⟩
  ·rw [if_neg hx] at h
   rcases hh : entHoles r v with _ | hs'
   ·rw [hh] at h;cases h
   ·rw [hh] at h
    simp only at h
    obtain ⟨es',h1,h2⟩:=Option.map_eq_some_iff.1 h
    obtain ⟨g1,g2⟩:=ents_good hv1 h1
    obtain ⟨k1,k2⟩:=entHoles_good hgood hh
    have keep : ∀ x ∈ es',ruleErr x.rule = 0 ∧ gErr x.reg = 0 ∧ ∃ q ∈ r :: v,x.left = q.left ∧ x.right = q.right:=fun x hx=>⟨(g2 x hx).1,(g2 x hx).2.1,by obtain ⟨q,hq,e⟩:=(g2 x hx).2.2;exact ⟨q,List.mem_cons_of_mem _ hq,e⟩⟩
    subst h2
    split
    ·exact ⟨by rw [List.length_cons];omega,keep⟩
    ·refine ⟨by rw [List.length_cons,List.length_cons];omega,fun x hx=>?_⟩
     rcases List.mem_cons.1 hx with rfl | hx
     ·refine ⟨ruleErr_twin.2 (ruleErr_twin.1 hr),gErr_of (ruleErr_twin.1 hr).lp (fun p hp=>redL_good p hp) ?_,r,by simp,rfl,rfl⟩
      have:=redL_len r.left hs'
      show (redL r.left hs').length ≤ 64
      omega
     ·exact keep x hx
end Go.Proofs.YthopphabeddnfaaGreatDoor.Sy
