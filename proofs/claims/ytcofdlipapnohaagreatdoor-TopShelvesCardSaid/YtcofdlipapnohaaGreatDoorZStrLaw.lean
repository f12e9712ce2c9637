/- The plain law of streams: their forest, what Check says, what a stream sees of a path. No program in sight. -/
import Derived.Test.YtcofdlipapnohaaGreatDoorZMeetL
set_option linter.unusedVariables false
set_option linter.unusedSimpArgs false
namespace Go.Proofs.YtcofdlipapnohaaGreatDoor.Sy
structure Rule where
 excl:Bool
 left:Pat
 right:Pat
deriving DecidableEq,Inhabited
def starTo (p:Pat) (k:Nat):Nat:=((p.parts.take k).filter isStar).length
def starN (p:Pat):Nat:=(p.parts.filter isStar).length
def ruleErr (r:Rule):Int:=if patErr r.left≠0 then 40 else if patErr r.right≠0 then 41 else if starN r.left≠starN r.right∨r.left.rest≠r.right.rest then 42 else 0
def Rule.turn (r:Rule):Rule:=⟨r.excl,r.right,r.left⟩
def fillR:List Str→List Str→List Str
 |[],_=>[]
 |x :: xs,cs=>if isStar x then (cs.headD []++x.tail) :: fillR xs cs.tail else x :: fillR xs cs
def trL (p q:Pat) (l:List Str):List Str:=fillR q.parts (capsTo p l p.parts.length)++(if q.rest then l.drop p.parts.length else [])
def fwd (r:Rule) (s:Str):Option Str:=if ruleErr r=0 then (match pathOf s with
 |some l=>if matchL r.left l then some (pathStr (trL r.left r.right l)) else none
 |none=>none) else none
/-! ### matches and captures, part by part -/
def mR:List Str→List Str→Bool
 |[],_=>true
 |x :: xs,c :: cs=>mtch x c && mR xs cs
 |_ :: _,[]=>false
def capsR:List Str→List Str→List Str
 |x :: xs,c :: cs=>if isStar x then cap1 x c :: capsR xs cs else capsR xs cs
 |_,_=>[]
theorem range_cons (n:Nat):List.range (n+1)=0 :: (List.range n).map (·+1):=by
 rw[List.range_succ_eq_map]
theorem matchTo_mR (rest:Bool):∀(ps l:List Str),ps.length≤l.length→matchTo ⟨ps,rest⟩ l ps.length=mR ps l
 |[],l,_=>by simp[matchTo,mR]
 |x :: xs,[],h=>by simp at h
 |x :: xs,c :: cs,h=>by
  have ih:=matchTo_mR rest xs cs (by simpa using h)
  rw[mR,←ih]
  simp only[matchTo,List.length_cons,range_cons,List.all_cons,List.all_map]
  congr 1
theorem capsTo_capsR (rest:Bool):∀(ps l:List Str),ps.length≤l.length→capsTo ⟨ps,rest⟩ l ps.length=capsR ps l
 |[],l,_=>by simp[capsTo,capsR]
 |x :: xs,[],h=>by simp at h
 |x :: xs,c :: cs,h=>by
  have ih:=capsTo_capsR rest xs cs (by simpa using h)
  simp only[capsTo,List.length_cons,range_cons,List.flatMap_cons,List.flatMap_map]
  have e1:pAt ⟨x :: xs,rest⟩ 0=x:=rfl
  have e2:(c :: cs).getD 0 []=c:=rfl
  rw[e1,e2,capsR]
  have e3:(List.range xs.length).flatMap (fun a=>if isStar (pAt ⟨x :: xs,rest⟩ (a+1))=true then [cap1 (pAt ⟨x :: xs,rest⟩ (a+1)) ((c :: cs).getD (a+1) [])] else [])=capsTo ⟨xs,rest⟩ cs xs.length:=rfl
  rw[e3,ih]
  rcases hs:isStar x with _ | _
  ·simp
  ·simp
theorem matchL_mR {p:Pat} {l:List Str}:matchL p l=(reaches p l.length && mR p.parts l):=by
 rw[matchL_eq]
 rcases hr:reaches p l.length with _ | _
 ·rfl
 ·rw[←matchTo_mR p.rest p.parts l (reaches_le hr)]
theorem mtch_star_iff {x c:Str} (hs:isStar x=true):mtch x c=true↔x.tail <:+ c∧x.tail.length < c.length:=by
 unfold mtch
 rw[if_pos hs,Bool.and_eq_true,decide_eq_true_eq,endsWith,List.isSuffixOf_iff_suffix]
theorem mtch_lit_iff {x c:Str} (hs:isStar x=false):mtch x c=true↔x=c:=by
 unfold mtch
 rw[hs]
 simp
theorem cap1_tail {x c:Str} (hs:isStar x=true) (h:mtch x c=true):cap1 x c++x.tail=c:=by
 obtain⟨⟨pre,hpre⟩,hlt⟩:=(mtch_star_iff hs).1 h
 have:cap1 x c=pre:=by
  rw[cap1,←hpre,List.length_append,Nat.add_sub_cancel,List.take_left']
  rfl
 rw[this]
 exact hpre
theorem comp_take_ {c:Str} (h:comp c=true) {k:Nat} (hk:0 < k):comp (c.take k)=true:=by
 cases c with
 |nil=>cases h
 |cons a t=>
  cases k with
  |zero=>omega
  |succ k=>
   simp only[comp,Bool.and_eq_true] at h
   simp only[List.take_succ_cons,comp,h.1.1,h.1.2,Bool.true_and]
   exact List.all_eq_true.2 fun b hb=>List.all_eq_true.1 h.2 b (List.mem_of_mem_take hb)
theorem comp_app {a t:Str} (ha:comp a=true) (ht:t.all isByte=true):comp (a++t)=true:=by
 cases a with
 |nil=>cases ha
 |cons x s=>
  simp only[comp,Bool.and_eq_true] at ha
  simp only[List.cons_append,comp,ha.1.1,ha.1.2,Bool.true_and,List.all_append,ha.2,ht]
theorem cap1_comp {x c:Str} (hs:isStar x=true) (h:mtch x c=true) (hc:comp c=true):comp (cap1 x c)=true:=
 comp_take_ hc (by have:=((mtch_star_iff hs).1 h).2;omega)
theorem capsR_len:∀(ps l:List Str),mR ps l=true→(capsR ps l).length=(ps.filter isStar).length
 |[],l,_=>by cases l <;> rfl
 |x :: xs,[],h=>by cases h
 |x :: xs,c :: cs,h=>by
  rw[mR,Bool.and_eq_true] at h
  have ih:=capsR_len xs cs h.2
  rw[capsR,List.filter_cons]
  split <;> simp[ih]
theorem capsR_comp:∀(ps l:List Str),mR ps l=true→l.all comp=true→(capsR ps l).all comp=true
 |[],l,_,_=>by cases l <;> rfl
 |x :: xs,[],h,_=>by cases h
 |x :: xs,c :: cs,h,hc=>by
  rw[mR,Bool.and_eq_true] at h
  rw[List.all_cons,Bool.and_eq_true] at hc
  have ih:=capsR_comp xs cs h.2 hc.2
  rw[capsR]
  split
  ·rename_i hs
   rw[List.all_cons,ih,cap1_comp hs h.1 hc.1]
   rfl
  ·exact ih
theorem fillR_len:∀(qs cs:List Str),(fillR qs cs).length=qs.length
 |[],cs=>rfl
 |x :: xs,cs=>by
  rw[fillR]
  split <;> simp[fillR_len xs]
theorem fill_mR:∀(qs cs r:List Str),cs.length=(qs.filter isStar).length→cs.all comp=true→mR qs (fillR qs cs++r)=true∧capsR qs (fillR qs cs++r)=cs
 |[],cs,r,h,_=>by
  have:cs=[]:=List.eq_nil_of_length_eq_zero (by simpa using h)
  subst this
  simp only[fillR,List.nil_append,mR,true_and]
  cases r <;> rfl
 |x :: xs,cs,r,h,hc=>by
  rcases hs:isStar x with _ | _
  ·have h':cs.length=(xs.filter isStar).length:=by simpa[List.filter_cons,hs] using h
   obtain⟨h1,h2⟩:=fill_mR xs cs r h' hc
   simp only[fillR,hs,Bool.false_eq_true,if_false,List.cons_append,mR,capsR,h1,Bool.and_true]
   exact⟨(mtch_lit_iff hs).2 rfl,h2⟩
  ·cases cs with
   |nil=>simp[List.filter_cons,hs] at h
   |cons c cs=>
    have h':cs.length=(xs.filter isStar).length:=by simpa[List.filter_cons,hs] using h
    rw[List.all_cons,Bool.and_eq_true] at hc
    obtain⟨h1,h2⟩:=fill_mR xs cs r h' hc.2
    have hm:mtch x (c++x.tail)=true:=(mtch_star_iff hs).2 ⟨List.suffix_append _ _,by
     have:=comp_ne hc.1
     have:0 < c.length:=List.length_pos_iff.2 this
     rw[List.length_append]
     omega⟩
    simp only[fillR,hs,if_true,List.headD_cons,List.tail_cons,List.cons_append,mR,capsR,h1,h2,hm,Bool.and_true,true_and,List.cons.injEq,and_true]
    have:=cap1_tail hs hm
    exact List.append_cancel_right this
theorem fill_comp:∀(qs cs:List Str),(∀x∈qs,partOk x=true)→cs.length=(qs.filter isStar).length→cs.all comp=true→(fillR qs cs).all comp=true
 |[],cs,_,_,_=>rfl
 |x :: xs,cs,hq,h,hc=>by
  have hx:=hq x (by simp)
  rcases hs:isStar x with _ | _
  ·have h':cs.length=(xs.filter isStar).length:=by simpa[List.filter_cons,hs] using h
   have ih:=fill_comp xs cs (fun y hy=>hq y (by simp[hy])) h' hc
   simp only[fillR,hs,Bool.false_eq_true,if_false,List.all_cons,ih,Bool.and_true]
   exact partOk_comp hx hs
  ·cases cs with
   |nil=>simp[List.filter_cons,hs] at h
   |cons c cs=>
    have h':cs.length=(xs.filter isStar).length:=by simpa[List.filter_cons,hs] using h
    rw[List.all_cons,Bool.and_eq_true] at hc
    have ih:=fill_comp xs cs (fun y hy=>hq y (by simp[hy])) h' hc.2
    simp only[fillR,hs,if_true,List.headD_cons,List.tail_cons,List.all_cons,ih,Bool.and_true]
    exact comp_app hc.1 (partOk_star hx hs)
theorem fill_caps:∀(ps l:List Str),mR ps l=true→fillR ps (capsR ps l)=l.take ps.length
 |[],l,_=>by simp[fillR]
 |x :: xs,[],h=>by cases h
 |x :: xs,c :: cs,h=>by
  rw[mR,Bool.and_eq_true] at h
  have ih:=fill_caps xs cs h.2
  rcases hs:isStar x with _ | _
  ·have e:=(mtch_lit_iff hs).1 h.1
   simp only[capsR,hs,Bool.false_eq_true,if_false,fillR,ih,List.length_cons,List.take_succ_cons]
   rw[e]
  ·simp only[capsR,hs,if_true,fillR,List.headD_cons,List.tail_cons,ih,List.length_cons,List.take_succ_cons,cap1_tail hs h.1]
/-! ### lines -/
structure Twin (p q:Pat):Prop where
 lp:patErr p=0
 rp:patErr q=0
 sn:starN p=starN q
 rs:p.rest=q.rest
theorem Twin.turn {p q:Pat} (h:Twin p q):Twin q p:=⟨h.rp,h.lp,h.sn.symm,h.rs.symm⟩
theorem ruleErr_twin {r:Rule}:ruleErr r=0↔Twin r.left r.right:=by
 unfold ruleErr
 constructor
 ·intro h
  split at h
  ·cases h
  ·rename_i h1
   split at h
   ·cases h
   ·rename_i h2
    split at h
    ·cases h
    ·rename_i h3
     exact⟨by simpa using h1,by simpa using h2,by
      apply Classical.byContradiction
      intro hh
      exact h3 (.inl hh),by
      apply Classical.byContradiction
      intro hh
      exact h3 (.inr hh)⟩
 ·intro h
  rw[if_neg (by simpa using h.lp),if_neg (by simpa using h.rp),if_neg]
  rintro (h1 | h1)
  ·exact h1 h.sn
  ·exact h1 h.rs
theorem patErr_form {p:Pat} (h:patErr p=0):0 < p.parts.length∧(p.rest=false→2≤p.parts.length)∧p.parts.length≤12:=by
 unfold patErr at h
 split at h
 ·cases h
 ·rename_i h0
  split at h
  ·split at h
   ·cases h
   ·have h1:p.parts.length≠0:=fun e=>h0 (.inl e)
    refine⟨by omega,fun hr=>?_,by omega⟩
    have h2:¬p.parts.length=1:=fun e=>h0 (.inr ⟨e,hr⟩)
    omega
  ·cases h
theorem tr_twin {p q:Pat} {l:List Str} (h:Twin p q) (hc:l.all comp=true) (hm:matchL p l=true) :
  matchL q (trL p q l)=true∧(trL p q l).all comp=true∧2≤(trL p q l).length∧trL q p (trL p q l)=l:=by
 rw[matchL_mR,Bool.and_eq_true] at hm
 obtain⟨hr,hm⟩:=hm
 have hle:=reaches_le hr
 have hcap:capsTo p l p.parts.length=capsR p.parts l:=capsTo_capsR p.rest p.parts l hle
 have hcl:(capsR p.parts l).length=(q.parts.filter isStar).length:=(capsR_len _ _ hm).trans h.sn
 have hcc:=capsR_comp _ _ hm hc
 obtain⟨f1,f2⟩:=fill_mR q.parts (capsR p.parts l) (if q.rest then l.drop p.parts.length else []) hcl hcc
 have f3:=fill_comp q.parts _ (allOk_of h.rp) hcl hcc
 have f4:=fillR_len q.parts (capsR p.parts l)
 have hq:=patErr_form h.rp
 have htr:trL p q l=fillR q.parts (capsR p.parts l)++(if q.rest then l.drop p.parts.length else []):=by rw[trL,hcap]
 rw[htr]
 obtain⟨rl,hrl⟩:∃rl,(if q.rest then l.drop p.parts.length else [])=rl:=⟨_,rfl⟩
 rw[hrl] at f1 f2 ⊢
 have hreach:reaches q (fillR q.parts (capsR p.parts l)++rl).length=true∧2≤(fillR q.parts (capsR p.parts l)++rl).length:=by
  rw[List.length_append,f4]
  unfold reaches at hr ⊢
  rcases hre:q.rest with _ | _
  ·rw[hre] at hrl
   simp only[Bool.false_eq_true,if_false] at hrl
   subst hrl
   have:=hq.2.1 hre
   simp
   omega
  ·rw[h.rs,hre] at hr
   rw[hre] at hrl
   simp only[if_true] at hrl hr
   have h1:=of_decide_eq_true hr
   have h2:0 < rl.length:=by rw[←hrl,List.length_drop];omega
   have:=hq.1
   simp only[if_true,decide_eq_true_eq]
   omega
 refine⟨?_,?_,hreach.2,?_⟩
 ·rw[matchL_mR,hreach.1,f1]
  rfl
 ·rw[List.all_append,f3,←hrl]
  split
  ·rw[Bool.true_and]
   exact List.all_eq_true.2 fun x hx=>List.all_eq_true.1 hc x (List.mem_of_mem_drop hx)
  ·rfl
 ·rw[trL,show capsTo q (fillR q.parts (capsR p.parts l)++rl) q.parts.length=capsR q.parts (fillR q.parts (capsR p.parts l)++rl) from capsTo_capsR q.rest q.parts _ (by rw[List.length_append,f4];omega),f2,fill_caps _ _ hm]
  have hd:(fillR q.parts (capsR p.parts l)++rl).drop q.parts.length=rl:=by
   rw[←f4,List.drop_left']
   rfl
  rw[hd,←hrl,h.rs]
  rcases hre:q.rest with _ | _
  ·unfold reaches at hr
   rw[h.rs,hre] at hr
   simp only[Bool.false_eq_true,if_false] at hr ⊢
   have:=beq_iff_eq.1 hr
   rw[List.append_nil,List.take_of_length_le (by omega)]
  ·simp only[if_true]
   exact List.take_append_drop _ _
theorem fwd_some {r:Rule} {s t:Str} (h:fwd r s=some t):∃l,ruleErr r=0∧pathOf s=some l∧matchL r.left l=true∧t=pathStr (trL r.left r.right l)∧pathOf t=some (trL r.left r.right l):=by
 unfold fwd at h
 split at h
 ·rename_i h0
  rcases hp:pathOf s with _ | l
  ·rw[hp] at h
   cases h
  ·rw[hp] at h
   simp only at h
   split at h
   ·rename_i hm
    simp only[Option.some.injEq] at h
    have ht:=tr_twin (ruleErr_twin.1 h0) (pathOf_some hp).2.1 hm
    exact⟨l,h0,rfl,hm,h.symm,by rw[←h];exact pathOf_str ht.2.2.1 ht.2.1⟩
   ·cases h
 ·cases h
end Go.Proofs.YtcofdlipapnohaaGreatDoor.Sy
namespace Go.Proofs.YtcofdlipapnohaaGreatDoor.Sy
open Go
structure Line where
 kind:Int
 path:Pat
 frm:Pat
deriving DecidableEq,Inhabited
structure Strm where
 name:Str
 parent:Str
 paths:List Line
deriving DecidableEq,Inhabited
def Line.rule (x:Line):Rule:=⟨false,x.path,x.frm⟩
def viewN:Str:=[118,105,101,119]
def findI:List Strm→Str→Option Nat
 |[],_=>none
 |s :: l,n=>if s.name=n then some 0 else (findI l n).map (·+1)
theorem findI_some:∀{l:List Strm} {n:Str} {i:Nat},findI l n=some i→∃s,l[i]?=some s∧s.name=n∧∀j t,j < i→l[j]?=some t→t.name≠n
 |[],_,_,h=>by simp[findI] at h
 |x :: l,n,i,h=>by
  unfold findI at h
  by_cases h0:x.name=n
  ·rw[if_pos h0] at h
   simp only[Option.some.injEq] at h
   subst h
   exact⟨x,by simp,h0,fun j t hj=>absurd hj (Nat.not_lt_zero _)⟩
  ·rw[if_neg h0] at h
   obtain⟨k,hk,rfl⟩:=Option.map_eq_some_iff.1 h
   obtain⟨s,hs,hn,hj⟩:=findI_some hk
   refine⟨s,by simpa using hs,hn,fun j t hlt ht=>?_⟩
   match j with
   |0=>
    simp only[List.getElem?_cons_zero,Option.some.injEq] at ht
    subst ht
    exact h0
   |j+1=>exact hj j t (by omega) (by simpa using ht)
theorem findI_lt {l:List Strm} {n:Str} {i:Nat} (h:findI l n=some i):i < l.length:=by
 obtain⟨s,hs,_⟩:=findI_some h
 exact (List.getElem?_eq_some_iff.1 hs).1
theorem findI_snoc (l:List Strm) (s:Strm) (n:Str):findI (l++[s]) n=match findI l n with
  |some i=>some i
  |none=>if s.name=n then some l.length else none:=by
 induction l with
 |nil=>simp[findI]
 |cons x l ih=>
  simp only[List.cons_append,findI,ih]
  by_cases h:x.name=n
  ·simp[h]
  ·simp only[h,if_false]
   rcases findI l n with _ | k
   ·by_cases h2:s.name=n <;> simp[h2]
   ·simp
section
variable (ss:List Strm)
def strm (i:Nat):Strm:=ss.getD i default
def parentI (i:Nat):Option Nat:=if (strm ss i).parent=[] then none else findI ss (strm ss i).parent
def aboveN:Nat→Nat→List Nat
 |0,_=>[]
 |n+1,i=>match parentI ss i with
  |none=>[]
  |some p=>p :: aboveN n p
def above (i:Nat):List Nat:=aboveN ss ss.length i
def topI (i:Nat):Nat:=(above ss i).getLastD i
def lineOk (x:Line):Bool:=patErr x.path == 0 && x.path.parts.getD 0 [] == viewN && (if x.kind=3 then ruleErr x.rule == 0 && x.frm.parts.getD 0 [] != viewN else (x.kind == 1 || x.kind == 2 || x.kind == 4) && x.frm.parts.isEmpty && !x.frm.rest)
def ownErr (i:Nat):Int:=
 if comp (strm ss i).name=false∨24 < (strm ss i).name.length∨(strm ss i).name=viewN then 81
 else if (findI ss (strm ss i).name).getD 0 < i then 82
 else if (strm ss i).paths.all lineOk=false then 85
 else if 12 < (strm ss i).paths.length then 80 else 0
def parErr (i:Nat):Int:=if parentI ss i=none∧(strm ss i).parent≠[] then 83 else 0
def cycErr (i:Nat):Int:=if i∈above ss i then 84 else 0
def deepErr (i:Nat):Int:=if 6 < 1+(above ss i).length then 80 else 0
def sameTree (i:Nat) (n:Str):Bool:=match findI ss n with
 |none=>false
 |some j=>topI ss j == topI ss i
def impsOf (ls:List Line):List Pat:=(ls.filter (·.kind == 3)).map (·.frm)
def othersOf (c:List Nat):List Pat:=c.flatMap fun p=>impsOf (strm ss p).paths
def badFrom (i:Nat):List Pat→List Line→Bool
 |_,[]=>false
 |os,x :: r=>if x.kind=3 then sameTree ss i (x.frm.parts.getD 0 []) || os.any (fun o=>(meetP x.frm o).isSome) || badFrom i (os++[x.frm]) r else badFrom i os r
def badImp (i:Nat):Bool:=badFrom ss i (othersOf ss (above ss i)) (strm ss i).paths
def impErr (i:Nat):Int:=if badImp ss i then 85 else 0
def runSteps (n:Nat):List (Nat→Int)→Nat × Int
 |[]=>(0,0)
 |f :: r=>match (List.range n).find? (fun i=>f i != 0) with
  |some i=>(i,f i)
  |none=>runSteps n r
def stepsOf:List (Nat→Int):=[ownErr ss,parErr ss,cycErr ss,deepErr ss,impErr ss]
def strErr:Nat × Int:=if 16 < ss.length then (0,80) else runSteps ss.length (stepsOf ss)
def readyE (n:Str):Int:=if (strErr ss).2≠0 then (strErr ss).2 else if findI ss n=none then 86 else 0
def decLine (ls:List Line) (c:Str):Option Line:=ls.foldl (fun a x=>if matchS x.path c then some x else a) none
def seeStep (s:Strm) (c:Str) (up:Int × Str):Int × Str:=match decLine s.paths c with
 |none=>(0,[])
 |some x=>if up.1=0∨x.kind=4 then (0,[]) else if up.1=3 then up else if x.kind=3 then (3,(fwd x.rule c).getD []) else (if x.kind=1∧up.1=1 then 1 else 2,47 :: 47 :: s.name++c.drop 6)
def seeL (c:Str):List Nat→Int × Str
 |[]=>(1,[])
 |i :: r=>seeStep (strm ss i) c (seeL c r)
def see (i:Nat) (c:Str):Int × Str:=seeL ss c (i :: above ss i)
def underV (c:Str):Bool:=match pathOf c with
 |none=>false
 |some l=>l.getD 0 [] == viewN
def locI (i:Nat) (c:Str):Int × Str:=if underV c then see ss i c else (0,[])
end
theorem strm_at {ss:List Strm} {i:Nat} {s:Strm} (h:ss[i]?=some s):strm ss i=s:=by simp[strm,List.getD_eq_getElem?_getD,h]
theorem at_strm {ss:List Strm} {i:Nat} (h:i < ss.length):ss[i]?=some (strm ss i):=by simp[strm,List.getD_eq_getElem?_getD,h]
/-! ### runs of steps -/
theorem runSteps_zero {n:Nat}:∀{fs:List (Nat→Int)},(runSteps n fs).2=0↔∀f∈fs,∀i,i < n→f i=0
 |[]=>by simp[runSteps]
 |f :: r=>by
  unfold runSteps
  rcases h:(List.range n).find? (fun i=>f i != 0) with _ | i
  ·have h1:∀i,i < n→f i=0:=fun i hi=>by
    have:=List.find?_eq_none.1 h i (List.mem_range.2 hi)
    simpa using this
   simp only[runSteps_zero (fs:=r),List.mem_cons,forall_eq_or_imp]
   exact⟨fun h2=>⟨h1,h2⟩,fun h2=>h2.2⟩
  ·have h1:=List.find?_some h
   have h2:=List.mem_range.1 (List.mem_of_find?_eq_some h)
   simp only[bne_iff_ne,ne_eq] at h1
   constructor
   ·intro h3;exact absurd h3 h1
   ·intro h3;exact absurd (h3 f (by simp) i h2) h1
theorem find_first {n k:Nat} {f:Nat→Int} (hk:k < n) (h:f k≠0) (hj:∀j,j < k→f j=0):(List.range n).find? (fun i=>f i != 0)=some k:=by
 rw[List.find?_eq_some_iff_getElem]
 refine⟨by simpa using h,k,by simpa using hk,by simp,fun j hj2=>?_⟩
 simp[hj j hj2]
theorem find_none_ {n:Nat} {f:Nat→Int} (hj:∀j,j < n→f j=0):(List.range n).find? (fun i=>f i != 0)=none:=by
 rw[List.find?_eq_none]
 intro x hx
 simp[hj x (List.mem_range.1 hx)]
theorem runSteps_hit {n k:Nat} {f:Nat→Int}:∀{a b:List (Nat→Int)},(∀g∈a,∀i,i < n→g i=0)→k < n→f k≠0→(∀j,j < k→f j=0)→runSteps n (a++f :: b)=(k,f k)
 |[],b,_,hk,h,hj=>by simp[runSteps,find_first hk h hj]
 |g :: a,b,ha,hk,h,hj=>by
  have:=runSteps_hit (a:=a) (b:=b) (fun g' hg=>ha g' (by simp[hg])) hk h hj
  simp[runSteps,find_none_ (ha g (by simp)),this]
structure Good (ss:List Strm):Prop where
 len:ss.length≤16
 own:∀i,i < ss.length→ownErr ss i=0
 par:∀i,i < ss.length→parErr ss i=0
 cyc:∀i,i < ss.length→cycErr ss i=0
 deep:∀i,i < ss.length→deepErr ss i=0
 imp:∀i,i < ss.length→impErr ss i=0
theorem good_iff {ss:List Strm}:(strErr ss).2=0↔Good ss:=by
 unfold strErr
 by_cases h:16 < ss.length
 ·rw[if_pos h]
  exact⟨fun h1=>absurd h1 (by decide),fun h1=>absurd h1.len (by omega)⟩
 ·rw[if_neg h,runSteps_zero]
  constructor
  ·intro H
   exact⟨by omega,H _ (by simp[stepsOf]),H _ (by simp[stepsOf]),H _ (by simp[stepsOf]),H _ (by simp[stepsOf]),H _ (by simp[stepsOf])⟩
  ·intro H f hf
   simp only[stepsOf,List.mem_cons,List.not_mem_nil,or_false] at hf
   rcases hf with rfl | rfl | rfl | rfl | rfl
   ·exact H.own
   ·exact H.par
   ·exact H.cyc
   ·exact H.deep
   ·exact H.imp
/-! ### chains -/
section
variable {ss:List Strm}
theorem parentI_lt {i p:Nat} (h:parentI ss i=some p):p < ss.length:=by
 unfold parentI at h
 split at h
 ·cases h
 ·exact findI_lt h
theorem aboveN_len:∀(n i:Nat),(aboveN ss n i).length≤n
 |0,_=>Nat.le_refl _
 |n+1,i=>by
  unfold aboveN
  rcases parentI ss i with _ | p
  ·simp
  ·have:=aboveN_len n p
   simp only[List.length_cons]
   omega
theorem aboveN_take:∀(m n i:Nat),m≤n→aboveN ss m i=(aboveN ss n i).take m
 |0,n,i,_=>by simp[aboveN]
 |m+1,0,i,h=>by omega
 |m+1,n+1,i,h=>by
  unfold aboveN
  rcases parentI ss i with _ | p
  ·simp
  ·simp[aboveN_take m n p (by omega)]
theorem aboveN_lt:∀(n i:Nat),∀p∈aboveN ss n i,p < ss.length
 |0,_,p,h=>by simp[aboveN] at h
 |n+1,i,p,h=>by
  unfold aboveN at h
  rcases hp:parentI ss i with _ | q
  ·rw[hp] at h;simp at h
  ·rw[hp] at h
   rcases List.mem_cons.1 h with rfl | h1
   ·exact parentI_lt hp
   ·exact aboveN_lt n q p h1
theorem above_lt {i p:Nat} (h:p∈above ss i):p < ss.length:=aboveN_lt _ _ p h
theorem mem_aboveN {m n i p:Nat} (h:m≤n) (hp:p∈aboveN ss m i):p∈aboveN ss n i:=by
 rw[aboveN_take m n i h] at hp
 exact List.mem_of_mem_take hp
theorem chain_nodup (hcyc:∀i,i < ss.length→i∉above ss i):∀(n i:Nat),n≤ss.length→(aboveN ss n i).Nodup
 |0,i,_=>by simp[aboveN]
 |n+1,i,hn=>by
  unfold aboveN
  rcases hp:parentI ss i with _ | p
  ·simp
  ·simp only[List.nodup_cons]
   exact⟨fun h=>hcyc p (parentI_lt hp) (mem_aboveN (by omega) h),chain_nodup hcyc n p (by omega)⟩
theorem chain_short (hcyc:∀i,i < ss.length→i∉above ss i) {i:Nat} (hi:i < ss.length):(above ss i).length < ss.length:=by
 have h1:(i :: above ss i).Nodup:=List.nodup_cons.2 ⟨hcyc i hi,chain_nodup hcyc _ _ (Nat.le_refl _)⟩
 have h2:=pigeon (i :: above ss i) (List.range ss.length) h1 (fun x hx=>by
  rcases List.mem_cons.1 hx with rfl | hx
  ·exact List.mem_range.2 hi
  ·exact List.mem_range.2 (above_lt hx))
 simp only[List.length_cons,List.length_range] at h2
 omega
theorem above_none {i:Nat} (h:parentI ss i=none):above ss i=[]:=by
 unfold above
 rcases ss.length with _ | n
 ·rfl
 ·simp[aboveN,h]
theorem above_some (hcyc:∀i,i < ss.length→i∉above ss i) {i p:Nat} (h:parentI ss i=some p):above ss i=p :: above ss p:=by
 have hp:=parentI_lt h
 have hs:=chain_short hcyc hp
 obtain⟨n,hn⟩:∃n,ss.length=n+1:=⟨ss.length - 1,by omega⟩
 have h1:above ss i=p :: aboveN ss n p:=by
  unfold above
  rw[hn]
  simp[aboveN,h]
 rw[h1,aboveN_take n ss.length p (by omega)]
 congr 1
 show (above ss p).take n=above ss p
 exact List.take_of_length_le (by omega)
end
theorem Good.nocyc {ss:List Strm} (h:Good ss):∀i,i < ss.length→i∉above ss i:=fun i hi hm=>by
 have:=h.cyc i hi
 simp[cycErr,hm] at this
theorem Good.none {ss:List Strm} (h:Good ss) {i:Nat} (hp:parentI ss i=none):above ss i=[]:=above_none hp
theorem Good.some {ss:List Strm} (h:Good ss) {i p:Nat} (hp:parentI ss i=some p):above ss i=p :: above ss p:=above_some h.nocyc hp
theorem Good.parent {ss:List Strm} (h:Good ss) {i:Nat} (hi:i < ss.length) (hp:parentI ss i=.none):(strm ss i).parent=[]:=by
 have:=h.par i hi
 unfold parErr at this
 by_cases e:(strm ss i).parent=[]
 ·exact e
 ·simp[hp,e] at this
theorem ownErr_zero {ss:List Strm} {i:Nat} (h:ownErr ss i=0):comp (strm ss i).name=true∧(strm ss i).name.length≤24∧(strm ss i).name≠viewN∧¬(findI ss (strm ss i).name).getD 0 < i∧(strm ss i).paths.all lineOk=true∧(strm ss i).paths.length≤12:=by
 unfold ownErr at h
 split at h
 ·cases h
 ·rename_i h1
  split at h
  ·cases h
  ·rename_i h2
   split at h
   ·cases h
   ·rename_i h3
    split at h
    ·cases h
    ·rename_i h4
     refine⟨?_,?_,?_,h2,by simpa using h3,by omega⟩
     ·rcases hc:comp (strm ss i).name with _ | _
      ·exact absurd (.inl hc) h1
      ·rfl
     ·rcases Nat.lt_or_ge 24 (strm ss i).name.length with h5 | h5
      ·exact absurd (.inr (.inl h5)) h1
      ·exact h5
     ·exact fun h5=>h1 (.inr (.inr h5))
theorem Good.lines {ss:List Strm} (h:Good ss) {i:Nat} (hi:i < ss.length):∀x∈(strm ss i).paths,lineOk x=true:=by
 have:=(ownErr_zero (h.own i hi)).2.2.2.2.1
 simpa using this
theorem Good.top {ss:List Strm} (h:Good ss) {i p:Nat} (hp:parentI ss i=.some p):topI ss i=topI ss p:=by
 unfold topI
 rw[h.some hp]
 rcases above ss p with _ | ⟨q,l⟩
 ·rfl
 ·show ((p :: q :: l).getLastD i)=(q :: l).getLastD p
  simp only[List.getLastD_cons]
theorem Good.above_ind {ss:List Strm} (h:Good ss) {P:Nat→Prop} (h0:∀i,i < ss.length→parentI ss i=.none→P i) (h1:∀i p,i < ss.length→parentI ss i=.some p→P p→P i):∀i,i < ss.length→P i:=by
 have key:∀(n i:Nat),i < ss.length→(above ss i).length=n→P i:=by
  intro n
  induction n with
  |zero=>
   intro i hi hl
   rcases hp:parentI ss i with _ | p
   ·exact h0 i hi hp
   ·rw[h.some hp] at hl
    simp at hl
  |succ n ih=>
   intro i hi hl
   rcases hp:parentI ss i with _ | p
   ·exact h0 i hi hp
   ·rw[h.some hp] at hl
    exact h1 i p hi hp (ih p (parentI_lt hp) (by simpa using hl))
 exact fun i hi=>key _ i hi rfl
theorem Good.top_above {ss:List Strm} (h:Good ss) {i:Nat} (hi:i < ss.length):∀j∈above ss i,topI ss j=topI ss i:=by
 refine h.above_ind (P:=fun i=>∀j∈above ss i,topI ss j=topI ss i) ?_ ?_ i hi
 ·intro i hi hp j hj
  rw[h.none hp] at hj
  simp at hj
 ·intro i p hi hp ih j hj
  rw[h.some hp] at hj
  rw[h.top hp]
  rcases List.mem_cons.1 hj with rfl | hj
  ·rfl
  ·exact ih j hj
theorem see_none {ss:List Strm} (h:Good ss) {i:Nat} (hp:parentI ss i=.none) (c:Str):see ss i c=seeStep (strm ss i) c (1,[]):=by
 simp[see,h.none hp,seeL]
theorem see_some {ss:List Strm} (h:Good ss) {i p:Nat} (hp:parentI ss i=.some p) (c:Str):see ss i c=seeStep (strm ss i) c (see ss p c):=by
 simp[see,h.some hp,seeL]
/-! ### the deciding line -/
theorem decLine_snoc (ls:List Line) (x:Line) (c:Str):decLine (ls++[x]) c=if matchS x.path c then some x else decLine ls c:=by
 simp[decLine,List.foldl_append]
theorem decLine_some:∀{ls:List Line} {c:Str} {x:Line},decLine ls c=some x→x∈ls∧matchS x.path c=true:=by
 intro ls c x
 have key:∀(ls:List Line) (a:Option Line),ls.foldl (fun a x=>if matchS x.path c then some x else a) a=some x→a=some x∨(x∈ls∧matchS x.path c=true):=by
  intro ls
  induction ls with
  |nil=>intro a h;exact .inl h
  |cons y l ih=>
   intro a h
   rw[List.foldl_cons] at h
   rcases ih _ h with h1 | h1
   ·by_cases hm:matchS y.path c=true
    ·rw[if_pos hm] at h1
     simp only[Option.some.injEq] at h1
     subst h1
     exact .inr ⟨by simp,hm⟩
    ·rw[if_neg hm] at h1
     exact .inl h1
   ·exact .inr ⟨by simp[h1.1],h1.2⟩
 intro h
 rcases key ls none h with h1 | h1
 ·cases h1
 ·exact h1
theorem decLine_far {c:Str}:∀(b a:List Line),(∀y∈b,matchS y.path c=false)→decLine (a++b) c=decLine a c
 |[],a,_=>by simp
 |y :: b,a,h=>by
  have h1:=decLine_far b (a++[y]) (fun z hz=>h z (by simp[hz]))
  rw[List.append_assoc,List.singleton_append] at h1
  rw[h1,decLine_snoc,if_neg (by simp[h y (by simp)])]
theorem decLine_at {ls:List Line} {k:Nat} {x:Line} {c:Str} (hk:ls[k]?=some x) (hm:matchS x.path c=true) (h:∀(j:Nat) (y:Line),k < j→ls[j]?=some y→matchS y.path c=false):decLine ls c=some x:=by
 obtain⟨hlt,he⟩:=List.getElem?_eq_some_iff.1 hk
 have hs:ls=ls.take k++[x]++ls.drop (k+1):=by
  rw[List.append_assoc,List.singleton_append,←he,←List.drop_eq_getElem_cons hlt,List.take_append_drop]
 rw[hs,decLine_far _ _ (fun y hy=>?_),decLine_snoc,if_pos hm]
 obtain⟨j,hj⟩:=List.mem_iff_getElem?.1 hy
 rw[List.getElem?_drop] at hj
 exact h (k+1+j) y (by omega) hj
theorem decLine_nil {ls:List Line} {c:Str} (h:∀(j:Nat) (y:Line),ls[j]?=some y→matchS y.path c=false):decLine ls c=none:=by
 have:=decLine_far (c:=c) ls [] (fun y hy=>by
  obtain⟨j,hj⟩:=List.mem_iff_getElem?.1 hy
  exact h j y hj)
 simpa[decLine] using this
/-! ### lines -/
theorem lineOk_path {x:Line} (h:lineOk x=true):patErr x.path=0∧x.path.parts.getD 0 []=viewN:=by
 simp only[lineOk,Bool.and_eq_true,beq_iff_eq] at h
 exact⟨h.1.1,h.1.2⟩
theorem lineOk_import {x:Line} (h:lineOk x=true) (hk:x.kind=3):ruleErr x.rule=0∧x.frm.parts.getD 0 []≠viewN∧patErr x.frm=0:=by
 simp only[lineOk,Bool.and_eq_true,beq_iff_eq,hk,if_true,bne_iff_ne] at h
 refine⟨h.2.1,h.2.2,?_⟩
 have:=ruleErr_twin.1 h.2.1
 exact this.rp
theorem match_first {p:Pat} (hp:patErr p=0) {l:List Str} (hm:matchL p l=true):l.getD 0 []=p.parts.getD 0 []:=by
 obtain⟨h0,_⟩:=patErr_form hp
 obtain⟨_,_,_,hc,_⟩:=patErr_iff.1 hp
 have hst:=comp_noStar hc
 rw[matchL_eq,Bool.and_eq_true] at hm
 have h1:=hm.2
 simp only[matchTo,List.all_eq_true,List.mem_range] at h1
 have h2:=h1 0 h0
 simp only[mtch,hst,Bool.false_eq_true,if_false,beq_iff_eq] at h2
 rw[←h2]
 simp[pAt,List.getD_eq_getElem?_getD,List.getElem?_eq_getElem h0]
theorem line_under {x:Line} (h:lineOk x=true) {c:Str} (hm:matchS x.path c=true):underV c=true:=by
 unfold matchS at hm
 unfold underV
 rcases hc:pathOf c with _ | l
 ·rw[hc] at hm;simp at hm
 ·rw[hc] at hm
  obtain⟨h1,h2⟩:=lineOk_path h
  simp only[Bool.and_eq_true] at hm
  have:=match_first h1 hm.2
  rw[h2] at this
  simpa using this
theorem under_form {c:Str} (h:underV c=true):∃r,r≠[]∧r.all comp=true∧pathOf c=some (viewN :: r)∧c=pathStr (viewN :: r)∧c.take 6=47 :: 47 :: viewN∧c.drop 6=47 :: Lib.join r [47]:=by
 unfold underV at h
 rcases hc:pathOf c with _ | l
 ·rw[hc] at h;simp at h
 ·rw[hc] at h
  simp only[beq_iff_eq] at h
  obtain⟨h2,h3,h4⟩:=pathOf_some hc
  match l,h2 with
  |a :: b :: r,_=>
   have:a=viewN:=by simpa using h
   subst this
   refine⟨b :: r,by simp,?_,rfl,h4,?_,?_⟩
   ·simp only[List.all_cons,Bool.and_eq_true] at h3 ⊢
    exact h3.2
   ·rw[h4]
    simp[pathStr,join47_cons,viewN]
   ·rw[h4]
    simp[pathStr,join47_cons,viewN]
theorem under_own {c:Str} (h:underV c=true) (n:Str):∃r,r≠[]∧r.all comp=true∧pathOf c=some (viewN :: r)∧47 :: 47 :: n++c.drop 6=pathStr (n :: r):=by
 obtain⟨r,h0,h1,h2,_,_,h5⟩:=under_form h
 refine⟨r,h0,h1,h2,?_⟩
 rw[h5]
 match r,h0 with
 |a :: r,_=>simp[pathStr,join47_cons]
theorem Good.bad {ss:List Strm} (h:Good ss) {i:Nat} (hi:i < ss.length):badFrom ss i (othersOf ss (above ss i)) (strm ss i).paths=false:=by
 have:=h.imp i hi
 unfold impErr badImp at this
 rcases hb:badFrom ss i (othersOf ss (above ss i)) (strm ss i).paths with _ | _
 ·rfl
 ·rw[hb] at this;simp at this
theorem seeStep_cases (s:Strm) (c:Str) (up:Int × Str):seeStep s c up=(0,[])∨(up.1=3∧seeStep s c up=up) ∨
  (up.1≠0∧up.1≠3∧∃x,decLine s.paths c=some x∧x.kind=3∧seeStep s c up=(3,(fwd x.rule c).getD [])) ∨
  (up.1≠0∧up.1≠3∧∃x,decLine s.paths c=some x∧x.kind≠3∧x.kind≠4∧seeStep s c up=(if x.kind=1∧up.1=1 then 1 else 2,47 :: 47 :: s.name++c.drop 6)):=by
 unfold seeStep
 rcases decLine s.paths c with _ | x
 ·exact .inl rfl
 ·simp only
  by_cases h1:up.1=0∨x.kind=4
  ·rw[if_pos h1];exact .inl rfl
  ·rw[if_neg h1]
   by_cases h2:up.1=3
   ·rw[if_pos h2];exact .inr (.inl ⟨h2,rfl⟩)
   ·rw[if_neg h2]
    have h0:up.1≠0:=fun e=>h1 (.inl e)
    by_cases h3:x.kind=3
    ·rw[if_pos h3];exact .inr (.inr (.inl ⟨h0,h2,x,rfl,h3,rfl⟩))
    ·rw[if_neg h3];exact .inr (.inr (.inr ⟨h0,h2,x,rfl,h3,fun e=>h1 (.inr e),rfl⟩))
theorem seeStep_zero (s:Strm) (c:Str) (up:Int × Str) (h:up.1=0):seeStep s c up=(0,[]):=by
 rcases seeStep_cases s c up with h1 | ⟨h1,_⟩ | ⟨h1,_⟩ | ⟨h1,_⟩
 ·exact h1
 ·rw[h] at h1;exact absurd h1 (by decide)
 ·exact absurd h h1
 ·exact absurd h h1
def allLine:Line:=⟨1,⟨[viewN],true⟩,⟨[],false⟩⟩
theorem all_match {c:Str} (hc:underV c=true):matchS allLine.path c=true:=by
 obtain⟨r,h0,h1,h2,_⟩:=under_form hc
 unfold matchS
 rw[h2]
 have e1:okPat allLine.path=true:=by decide
 have e2:matchL allLine.path (viewN :: r)=true:=by
  match r,h0 with
  |a :: r,_=>
   rw[matchL_eq]
   simp[reaches,allLine,matchTo,pAt,mtch,isStar,viewN]
 simp[e1,e2]
end Go.Proofs.YtcofdlipapnohaaGreatDoor.Sy
