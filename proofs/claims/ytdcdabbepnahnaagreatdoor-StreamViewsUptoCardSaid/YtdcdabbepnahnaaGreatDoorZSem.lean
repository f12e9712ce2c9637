/- What the least path of a region means: it lies in the region, none comes ahead of it; an empty region has no path. No program in sight. -/
import Derived.Lib.SplitLaws
import Derived.Lib.Split
import Derived.Lib.Join
set_option linter.unusedSimpArgs false
set_option linter.unusedVariables false
namespace Go.Proofs.YtdcdabbepnahnaaGreatDoor.Sy
abbrev Str:=List UInt8
def isByte (c:UInt8):Bool:=
 (decide (65≤c) && decide (c≤90)) || (decide (97≤c) && decide (c≤122)) || (decide (48≤c) && decide (c≤57)) || c == 95 || c == 46 || c == 43 || c == 45
def comp:Str→Bool
 |[]=>false
 |c :: s=>c != 46 && isByte c && s.all isByte
def isStar:Str→Bool
 |[]=>false
 |c :: _=>c == 42
def starOk:Str→Bool
 |[]=>false
 |c :: s=>c == 42 && s.all isByte
def partOk (s:Str):Bool:=comp s || starOk s
structure Pat where
 parts:List Str
 rest:Bool
deriving DecidableEq,Inhabited
def formI (l:Str):Int:=if comp l then 1 else if starOk l then 2 else 0
theorem form_cases (l:Str):(formI l=1∧comp l=true)∨(formI l=2∧comp l=false∧starOk l=true)∨(formI l=0∧comp l=false∧starOk l=false):=by
 unfold formI
 cases comp l <;> cases starOk l <;> simp
def good (i:Nat) (l:Str):Bool:=if i=0 then comp l else partOk l
def goodTo (ls:List Str) (k:Nat):Bool:=(List.range k).all fun j=>good j (ls.getD j [])
theorem goodTo_succ (ls:List Str) (k:Nat):goodTo ls (k+1)=(goodTo ls k && good k (ls.getD k [])):=by
 simp[goodTo,List.range_succ]
theorem goodTo_le {ls:List Str} {k m:Nat} (h:k≤m) (hm:goodTo ls m=true):goodTo ls k=true:=by
 simp only[goodTo,List.all_eq_true,List.mem_range] at hm ⊢
 exact fun j hj=>hm j (by omega)
def patErr (p:Pat):Int:=
 if p.parts.length=0∨(p.parts.length=1∧p.rest=false) then 30
 else if goodTo p.parts p.parts.length then (if 12 < p.parts.length then 31 else 0) else 30
def okPat (p:Pat):Bool:=patErr p == 0
theorem patErr_bad {p:Pat} {k:Nat} {l:Str} (hk:p.parts[k]?=some l) (hg:good k l=false):patErr p=30:=by
 have hlt:k < p.parts.length:=(List.getElem?_eq_some_iff.1 hk).1
 have hb:goodTo p.parts p.parts.length=false:=by
  rcases h:goodTo p.parts p.parts.length with _ | _
  ·rfl
  ·have h1:=goodTo_le (show k+1≤p.parts.length by omega) h
   rw[goodTo_succ] at h1
   have:p.parts.getD k []=l:=by simp[List.getD_eq_getElem?_getD,hk]
   rw[this,hg] at h1
   simp at h1
 unfold patErr
 rw[hb]
 simp
theorem patErr_good {p:Pat} (h0:p.parts.length≠0) (h1:¬(p.parts.length=1∧p.rest=false)) (hg:goodTo p.parts p.parts.length=true):patErr p=if 12 < p.parts.length then 31 else 0:=by
 unfold patErr
 rw[if_neg (fun h=>h.elim h0 h1),hg]
 simp
def regErr (b:Pat) (hs:List Pat):Int:=
 if patErr b≠0 then 50 else if hs.any (fun h=>patErr h != 0) then 51 else if 64 < hs.length then 52 else 0
theorem regErr_base {b:Pat} {hs:List Pat} (h:patErr b≠0):regErr b hs=50:=by rw[regErr,if_pos h]
theorem regErr_hole {b:Pat} {hs:List Pat} (hb:patErr b=0) {k:Nat} {h:Pat} (hk:hs[k]?=some h) (hh:patErr h≠0):regErr b hs=51:=by
 have:hs.any (fun h=>patErr h != 0)=true:=List.any_eq_true.2 ⟨h,List.mem_of_getElem? hk,by simpa using hh⟩
 rw[regErr,if_neg (by simpa using hb),if_pos this]
theorem regErr_end {b:Pat} {hs:List Pat} (hb:patErr b=0) (hall:∀j h,j < hs.length→hs[j]?=some h→patErr h=0):regErr b hs=if 64 < hs.length then 52 else 0:=by
 have:hs.any (fun h=>patErr h != 0)=false:=by
  rw[List.any_eq_false]
  intro h hm
  obtain⟨j,hj,e⟩:=List.mem_iff_getElem.1 hm
  simp[hall j h hj (by rw[List.getElem?_eq_getElem hj,e])]
 rw[regErr,if_neg (by simpa using hb),this]
 simp
def endsWith (s t:Str):Bool:=t.isSuffixOf s
def mtch (part c:Str):Bool:=if isStar part then endsWith c part.tail && decide (part.tail.length < c.length) else part == c
def inside (x y:Str):Bool:=x == y || (isStar y && (if isStar x then endsWith x.tail y.tail else mtch y x))
def pAt (p:Pat) (i:Nat):Str:=p.parts.getD i [42]
def reaches (p:Pat) (n:Nat):Bool:=if p.rest then decide (p.parts.length < n) else n == p.parts.length
def covers (h b:Pat) (i n:Nat):Bool:=(List.range (min n h.parts.length)).all fun j=>decide (j < i) || inside (pAt b j) (pAt h j)
def full (b:Pat) (hs:List Pat) (n:Nat):Bool:=hs.any fun h=>reaches h n && covers h b 0 n
def firstLen (b:Pat):Nat:=if b.rest then b.parts.length+1 else b.parts.length
def lastLen (b:Pat) (hs:List Pat):Nat:=if b.rest then hs.foldl (fun m h=>max m (h.parts.length+1)) (b.parts.length+1) else b.parts.length
def seek (b:Pat) (hs:List Pat):Nat→Nat→Nat
 |_,0=>0
 |n,k+1=>if full b hs n then seek b hs (n+1) k else n
def leastLen (b:Pat) (hs:List Pat):Nat:=seek b hs (firstLen b) (lastLen b hs+1 - firstLen b)
theorem covers_true {h b:Pat} {i n:Nat}:covers h b i n=true↔∀j,i≤j→j < n→j < h.parts.length→inside (pAt b j) (pAt h j)=true:=by
 simp only[covers,List.all_eq_true,List.mem_range,Bool.or_eq_true,decide_eq_true_eq]
 constructor
 ·intro H j h1 h2 h3
  rcases H j (by omega) with h4 | h4
  ·omega
  ·exact h4
 ·intro H j hj
  by_cases h4:j < i
  ·exact .inl h4
  ·exact .inr (H j (by omega) (by omega) (by omega))
theorem pAt_out {p:Pat} {i:Nat} (h:p.parts.length≤i):pAt p i=[42]:=by
 simp[pAt,List.getD_eq_getElem?_getD,List.getElem?_eq_none h]
theorem endsWith_iff {s t:Str}:endsWith s t=true↔t <:+ s:=by simp[endsWith]
theorem pigeon {α:Type} [DecidableEq α]:∀(l m:List α),l.Nodup→(∀x∈l,x∈m)→l.length≤m.length
 |[],_,_,_=>Nat.zero_le _
 |x :: l,m,hn,hs=>by
  have hx:=hs x (by simp)
  have hn':=List.nodup_cons.1 hn
  have h1:=pigeon l (m.erase x) hn'.2 (fun y hy=>(List.mem_erase_of_ne (by rintro rfl;exact hn'.1 hy)).2 (hs y (by simp[hy])))
  rw[List.length_erase_of_mem hx] at h1
  have h2:=List.length_pos_of_mem hx
  simp only[List.length_cons]
  omega
def slash:Str→List Str
 |[]=>[[]]
 |c :: s=>if c=47 then [] :: slash s else match slash s with
  |[]=>[[c]]
  |p :: ps=>(c :: p) :: ps
theorem slash_ne:∀s,slash s≠[]
 |[]=>by simp[slash]
 |c :: s=>by
  unfold slash
  split
  ·simp
  ·split <;> simp
theorem slash_cons (c:UInt8) (s:Str) (h:c≠47):∃p ps,slash s=p :: ps∧slash (c :: s)=(c :: p) :: ps:=by
 rcases hs:slash s with _ | ⟨p,ps⟩
 ·exact absurd hs (slash_ne s)
 ·exact⟨p,ps,rfl,by rw[slash,if_neg h,hs]⟩
theorem slash_len:∀s,(slash s).length≤s.length+1
 |[]=>by simp[slash]
 |c :: s=>by
  by_cases h:c=47
  ·rw[slash,if_pos h]
   have:=slash_len s
   simp only[List.length_cons]
   omega
  ·obtain⟨p,ps,h1,h2⟩:=slash_cons c s h
   have:=slash_len s
   rw[h1] at this
   rw[h2]
   simp only[List.length_cons] at this ⊢
   omega
theorem slash_each:∀s,∀l∈slash s,l.length≤s.length
 |[],l,h=>by
  simp[slash] at h
  simp[h]
 |c :: s,l,h=>by
  by_cases hc:c=47
  ·rw[slash,if_pos hc] at h
   rcases List.mem_cons.1 h with rfl | h
   ·simp
   ·have:=slash_each s l h
    simp only[List.length_cons]
    omega
  ·obtain⟨p,ps,h1,h2⟩:=slash_cons c s hc
   rw[h2] at h
   rcases List.mem_cons.1 h with rfl | h
   ·have:=slash_each s p (by rw[h1];simp)
    simp only[List.length_cons]
    omega
   ·have:=slash_each s l (by rw[h1];simp[h])
    simp only[List.length_cons]
    omega
theorem slash_no:∀s:Str,(47:UInt8)∉s→slash s=[s]
 |[],_=>rfl
 |c :: s,h=>by
  have hc:c≠47:=fun e=>h (by simp[e])
  have ih:=slash_no s (fun hm=>h (by simp[hm]))
  rw[slash,if_neg hc,ih]
theorem slash_app:∀(a r:Str),(47:UInt8)∉a→slash (a++47 :: r)=a :: slash r
 |[],r,_=>by rw[List.nil_append,slash,if_pos rfl]
 |c :: a,r,h=>by
  have hc:c≠47:=fun e=>h (by simp[e])
  have ih:=slash_app a r (fun hm=>h (by simp[hm]))
  rw[List.cons_append,slash,if_neg hc,ih]
theorem join47_one (x:Str):Lib.join [x] [47]=x:=Lib.join_one x [47]
theorem join47_cons (x y:Str) (r:List Str):Lib.join (x :: y :: r) [47]=x++47 :: Lib.join (y :: r) [47]:=by
 simp[Lib.join,List.intercalate]
theorem join_slash:∀s:Str,Lib.join (slash s) [47]=s
 |[]=>by simp[slash,join47_one]
 |c :: s=>by
  have ih:=join_slash s
  by_cases hc:c=47
  ·rw[slash,if_pos hc]
   rcases hs:slash s with _ | ⟨p,ps⟩
   ·exact absurd hs (slash_ne s)
   ·rw[join47_cons,←hs,ih,hc]
    rfl
  ·obtain⟨p,ps,h1,h2⟩:=slash_cons c s hc
   rw[h2]
   rw[h1] at ih
   cases ps with
   |nil=>
    rw[join47_one] at ih ⊢
    rw[ih]
   |cons q qs=>
    rw[join47_cons] at ih ⊢
    rw[←ih]
    rfl
theorem slash_join:∀ls:List Str,ls≠[]→(∀l∈ls,(47:UInt8)∉l)→slash (Lib.join ls [47])=ls
 |[],h,_=>absurd rfl h
 |[a],_,h=>by rw[join47_one,slash_no a (h a (by simp))]
 |a :: b :: t,_,h=>by
  rw[join47_cons,slash_app _ _ (h a (by simp)),slash_join (b :: t) (by simp) (fun l hl=>h l (by simp[hl]))]
theorem splitK_slash:∀s:Str,Lib.splitK [47] 0 (Lib.count s [47]) s=slash s
 |[]=>by rw[Lib.count_one];rfl
 |c :: s=>by
  have ih:=splitK_slash s
  by_cases hc:c=47
  ·subst hc
   have hi:Lib.index (47 :: s) [47]=0:=by simp[Lib.index]
   rw[Lib.count_cons_eq,Nat.add_comm,Lib.splitK,hi,if_neg (by decide),slash,if_pos rfl]
   simp only[Int.toNat_zero,Nat.zero_add,List.take_zero,List.length_cons,List.length_nil,List.drop_succ_cons,List.drop_zero]
   rw[ih]
  ·obtain⟨p,ps,h1,h2⟩:=slash_cons c s hc
   rw[Lib.count_cons_ne _ _ _ hc,h2]
   rw[h1] at ih
   have hpre:([47]:List UInt8).isPrefixOf (c :: s)=false:=by
    simp[List.isPrefixOf,Ne.symm hc]
   rcases hk:Lib.count s [47] with _ | k
   ·rw[hk] at ih
    simp only[Lib.splitK,List.cons.injEq] at ih ⊢
    obtain⟨rfl,rfl⟩:=ih
    simp
   ·rw[hk] at ih
    rw[Lib.splitK] at ih ⊢
    have hci:Lib.index (c :: s) [47]=if Lib.index s [47] == -1 then -1 else Lib.index s [47]+1:=by
     rw[Lib.index,hpre]
     rfl
    rcases hx:(Lib.index s [47] == -1) with _ | _
    ·rw[hx] at hci ih
     have hge:=Lib.index_ge s [47]
     have hne:Lib.index s [47]≠-1:=by
      intro e
      rw[e] at hx
      exact absurd hx (by decide)
     obtain⟨i,hi⟩:∃i:Nat,Lib.index s [47]=i:=⟨(Lib.index s [47]).toNat,by omega⟩
     rw[hi] at ih hci
     simp only[Bool.false_eq_true,if_false] at hci ih
     rw[hci]
     have hb:((i:Int)+1 == -1)=false:=by
      rw[beq_eq_false_iff_ne]
      omega
     have e1:((i:Int)+1).toNat=i+1:=by omega
     have e2:((i:Int)).toNat=i:=by omega
     rw[hb,if_neg (by simp),e1]
     rw[e2] at ih
     simp only[Nat.add_zero,List.length_cons,List.length_nil,Nat.zero_add,List.cons.injEq] at ih
     obtain⟨ih1,ih2⟩:=ih
     simp only[Nat.add_zero,List.length_cons,List.length_nil,Nat.zero_add,List.cons.injEq,List.take_succ_cons,List.drop_succ_cons]
     exact⟨⟨trivial,ih1⟩,ih2⟩
    ·rw[hx] at hci ih
     simp only[if_true] at hci ih
     rw[hci]
     simp only[beq_self_eq_true,if_true]
     simp only[List.cons.injEq] at ih
     obtain⟨rfl,rfl⟩:=ih
     rfl
def pathParts (p:Str):Option (List Str):=if p.take 2=[47,47]∧(slash (p.drop 2)).all comp=true then some (slash (p.drop 2)) else none
def pathOf (p:Str):Option (List Str):=match pathParts p with
 |some l=>if 2≤l.length then some l else none
 |none=>none
def pathStr (l:List Str):Str:=47 :: 47 :: Lib.join l [47]
theorem comp_no47 {l:Str} (h:comp l=true):(47:UInt8)∉l:=by
 cases l with
 |nil=>cases h
 |cons c s=>
  simp only[comp,Bool.and_eq_true,List.all_eq_true] at h
  intro hm
  rcases List.mem_cons.1 hm with e | hm
  ·rw[←e] at h
   exact absurd h.1.2 (by decide)
  ·exact absurd (h.2 47 hm) (by decide)
theorem comp_ne {l:Str} (h:comp l=true):l≠[]:=by
 rintro rfl
 cases h
theorem comp_noStar {l:Str} (h:comp l=true):isStar l=false:=by
 cases l with
 |nil=>cases h
 |cons c s=>
  simp only[comp,Bool.and_eq_true] at h
  rcases hc:isStar (c :: s) with _ | _
  ·rfl
  ·have e:c=42:=by simpa[isStar] using hc
   subst e
   exact absurd h.1.2 (by decide)
theorem pathParts_some {p:Str} {l:List Str} (h:pathParts p=some l):l≠[]∧l.all comp=true∧p=pathStr l:=by
 unfold pathParts at h
 split at h
 ·rename_i hc
  simp only[Option.some.injEq] at h
  subst h
  refine⟨slash_ne _,hc.2,?_⟩
  rw[pathStr,join_slash]
  have:=List.take_append_drop 2 p
  rw[hc.1] at this
  exact this.symm
 ·cases h
theorem pathOf_some {p:Str} {l:List Str} (h:pathOf p=some l):2≤l.length∧l.all comp=true∧p=pathStr l:=by
 unfold pathOf at h
 split at h
 ·rename_i l' hl
  split at h
  ·simp only[Option.some.injEq] at h
   subst h
   obtain⟨_,h2,h3⟩:=pathParts_some hl
   exact⟨‹_›,h2,h3⟩
  ·cases h
 ·cases h
def matchL (p:Pat) (l:List Str):Bool:=reaches p l.length && (List.range p.parts.length).all fun j=>mtch (pAt p j) (l.getD j [])
def matchS (p:Pat) (s:Str):Bool:=match pathOf s with
 |some l=>okPat p && matchL p l
 |none=>false
def cap1 (part c:Str):Str:=c.take (c.length - part.tail.length)
def capsTo (p:Pat) (l:List Str) (k:Nat):List Str:=(List.range k).flatMap fun j=>if isStar (pAt p j) then [cap1 (pAt p j) (l.getD j [])] else []
def caps (p:Pat) (l:List Str):List Str:=capsTo p l p.parts.length++(if p.rest then [Lib.join (l.drop p.parts.length) [47]] else [])
def capsS (p:Pat) (s:Str):List Str:=match pathOf s with
 |some l=>if okPat p && matchL p l then caps p l else []
 |none=>[]
theorem capsTo_succ (p:Pat) (l:List Str) (k:Nat):capsTo p l (k+1)=capsTo p l k++(if isStar (pAt p k) then [cap1 (pAt p k) (l.getD k [])] else []):=by
 simp[capsTo,List.range_succ]
def matchTo (p:Pat) (l:List Str) (k:Nat):Bool:=(List.range k).all fun j=>mtch (pAt p j) (l.getD j [])
theorem matchTo_succ (p:Pat) (l:List Str) (k:Nat):matchTo p l (k+1)=(matchTo p l k && mtch (pAt p k) (l.getD k [])):=by
 simp[matchTo,List.range_succ]
theorem matchTo_stop {p:Pat} {l:List Str} {k n:Nat} (hk:k < n) (h:mtch (pAt p k) (l.getD k [])=false):matchTo p l n=false:=by
 rw[matchTo,List.all_eq_false]
 exact⟨k,by simpa using hk,by simp only[h];simp⟩
theorem matchL_eq (p:Pat) (l:List Str):matchL p l=(reaches p l.length && matchTo p l p.parts.length):=rfl
theorem capsTo_length (p:Pat) (l:List Str):∀k,(capsTo p l k).length≤k
 |0=>by simp[capsTo]
 |k+1=>by
  have:=capsTo_length p l k
  rw[capsTo_succ,List.length_append]
  split <;> simp <;> omega
theorem capsTo_each {p:Pat} {l:List Str} {B:Nat} (h:∀x∈l,x.length≤B):∀k,∀x∈capsTo p l k,x.length≤B
 |0,x,hx=>by simp[capsTo] at hx
 |k+1,x,hx=>by
  rw[capsTo_succ,List.mem_append] at hx
  rcases hx with hx | hx
  ·exact capsTo_each h k x hx
  ·split at hx
   ·rw[List.mem_singleton.1 hx]
    have h1:(l.getD k []).length≤B:=by
     rw[List.getD_eq_getElem?_getD]
     rcases e:l[k]? with _ | y
     ·simp
     ·exact h y (List.mem_of_getElem? e)
    simp only[cap1,List.length_take]
    omega
   ·cases hx
def hasL (b:Pat) (hs:List Pat) (l:List Str):Bool:=matchL b l && !(hs.any fun h=>matchL h l)
theorem mtch_any {x:Str} (h:x≠[]):mtch [42] x=true:=by
 cases x with
 |nil=>exact absurd rfl h
 |cons a t=>simp[mtch,isStar,endsWith]
theorem getD_comp {l:List Str} (hc:l.all comp=true) {j:Nat} (hj:j < l.length):comp (l.getD j [])=true:=by
 have:l.getD j []=l[j]:=by simp[List.getD_eq_getElem?_getD,List.getElem?_eq_getElem hj]
 rw[this]
 exact List.all_eq_true.1 hc _ (List.getElem_mem hj)
theorem reaches_le {p:Pat} {n:Nat} (h:reaches p n=true):p.parts.length≤n:=by
 unfold reaches at h
 split at h
 ·have:=of_decide_eq_true h
  omega
 ·have:=beq_iff_eq.1 h
  omega
theorem matchL_true {p:Pat} {l:List Str}:matchL p l=true↔reaches p l.length=true∧∀j,j < p.parts.length→mtch (pAt p j) (l.getD j [])=true:=by
 simp only[matchL,Bool.and_eq_true,List.all_eq_true,List.mem_range]
theorem matchL_all {p:Pat} {l:List Str} (hc:l.all comp=true) (h:matchL p l=true) {j:Nat} (hj:j < l.length):mtch (pAt p j) (l.getD j [])=true:=by
 rcases Nat.lt_or_ge j p.parts.length with h1 | h1
 ·exact (matchL_true.1 h).2 j h1
 ·rw[pAt_out h1]
  exact mtch_any (comp_ne (getD_comp hc hj))
theorem suffix_tail {c s t:Str} (h1:endsWith c s=true) (h2:endsWith s t=true):endsWith c t=true:=by
 rw[endsWith,List.isSuffixOf_iff_suffix] at *
 exact h2.trans h1
theorem suffix_le {s t:Str} (h:endsWith s t=true):t.length≤s.length:=by
 rw[endsWith,List.isSuffixOf_iff_suffix] at h
 exact h.length_le
theorem inside_mtch {x y c:Str} (h:inside x y=true) (hm:mtch x c=true):mtch y c=true:=by
 unfold inside at h
 rw[Bool.or_eq_true] at h
 rcases h with h | h
 ·rw[←beq_iff_eq.1 h]
  exact hm
 ·rw[Bool.and_eq_true] at h
  obtain⟨hy,h⟩:=h
  rcases hx:isStar x with _ | _
  ·rw[hx] at h
   simp only[Bool.false_eq_true,if_false] at h
   unfold mtch at hm
   rw[hx] at hm
   simp only[Bool.false_eq_true,if_false,beq_iff_eq] at hm
   rw[←hm]
   exact h
  ·rw[hx] at h
   simp only[if_true] at h
   unfold mtch at hm ⊢
   rw[hx] at hm
   rw[hy]
   simp only[if_true,Bool.and_eq_true,decide_eq_true_eq] at hm ⊢
   have:=suffix_le h
   exact⟨suffix_tail hm.1 h,by omega⟩
theorem covers_match {h b:Pat} {l:List Str} (hc:l.all comp=true) (hb:matchL b l=true) (hr:reaches h l.length=true) (hcov:covers h b 0 l.length=true):matchL h l=true:=by
 refine matchL_true.2 ⟨hr,fun j hj=>?_⟩
 have hjl:=Nat.lt_of_lt_of_le hj (reaches_le hr)
 exact inside_mtch (covers_true.1 hcov j (Nat.zero_le _) hjl hj) (matchL_all hc hb hjl)
theorem full_match {b:Pat} {hs:List Pat} {l:List Str} (hc:l.all comp=true) (hb:matchL b l=true) (hf:full b hs l.length=true):hasL b hs l=false:=by
 simp only[full,List.any_eq_true,Bool.and_eq_true] at hf
 obtain⟨h,hm,hr,hcov⟩:=hf
 have:(hs.any fun h=>matchL h l)=true:=List.any_eq_true.2 ⟨h,hm,covers_match hc hb hr hcov⟩
 rw[hasL,this]
 simp
/-! ### the least number of components -/
theorem seek_lt {b:Pat} {hs:List Pat}:∀(k n m:Nat),0 < n→n≤m→m < n+k→(seek b hs n k=0∨m < seek b hs n k)→full b hs m=true
 |0,n,m,_,h1,h2,_=>by omega
 |k+1,n,m,h0,h1,h2,h3=>by
  unfold seek at h3
  rcases hf:full b hs n with _ | _
  ·rw[hf] at h3
   simp only[Bool.false_eq_true,if_false] at h3
   rcases h3 with h3 | h3 <;> omega
  ·rw[hf] at h3
   simp only[if_true] at h3
   by_cases e:m=n
   ·rw[e]
    exact hf
   ·exact seek_lt k (n+1) m (by omega) (by omega) (by omega) h3
theorem seek_in {b:Pat} {hs:List Pat}:∀(k n:Nat),seek b hs n k≠0→n≤seek b hs n k∧seek b hs n k < n+k
 |0,n,h=>absurd rfl h
 |k+1,n,h=>by
  unfold seek at h ⊢
  rcases hf:full b hs n with _ | _
  ·simp
  ·rw[hf] at h
   simp only[if_true] at h ⊢
   have:=seek_in k (n+1) h
   omega
theorem last_max {hs:List Pat}:∀(m:Nat),m≤hs.foldl (fun m h=>max m (h.parts.length+1)) m∧∀h∈hs,h.parts.length+1≤hs.foldl (fun m h=>max m (h.parts.length+1)) m:=by
 induction hs with
 |nil=>intro m;exact⟨Nat.le_refl _,fun h hm=>by cases hm⟩
 |cons a hs ih=>
  intro m
  obtain⟨h1,h2⟩:=ih (max m (a.parts.length+1))
  simp only[List.foldl_cons]
  refine⟨by omega,fun h hm=>?_⟩
  rcases List.mem_cons.1 hm with rfl | hm
  ·omega
  ·exact h2 h hm
theorem reaches_first {b:Pat} {n:Nat} (h:reaches b n=true):firstLen b≤n∧(b.rest=false→n=firstLen b):=by
 unfold reaches at h
 unfold firstLen
 rcases hr:b.rest with _ | _
 ·rw[hr] at h
  simp at h ⊢
  omega
 ·rw[hr] at h
  simp at h ⊢
  omega
theorem below_full {b:Pat} {hs:List Pat} {m:Nat} (h0:0 < b.parts.length) (hr:reaches b m=true) (h:leastLen b hs=0∨m < leastLen b hs):∀l:List Str,l.length=m→l.all comp=true→matchL b l=true→hasL b hs l=false:=by
 intro l hl hc hb
 obtain⟨h1,h2⟩:=reaches_first hr
 rcases Nat.lt_or_ge (lastLen b hs) m with hbig | hsm
 ·-- beyond all holes: the hole that covers at the last number covers here
  have hrest:b.rest=true:=by
   rcases hre:b.rest with _ | _
   ·have h3:=h2 hre
    unfold lastLen at hbig
    unfold firstLen at h3
    rw[hre] at hbig h3
    simp at hbig h3
    omega
   ·rfl
  have hl0:lastLen b hs=hs.foldl (fun m h=>max m (h.parts.length+1)) (b.parts.length+1):=by rw[lastLen,if_pos hrest]
  have hf0:firstLen b=b.parts.length+1:=by rw[firstLen,if_pos hrest]
  obtain⟨g1,g2⟩:=last_max (hs:=hs) (b.parts.length+1)
  rw[←hl0] at g1 g2
  have hz:leastLen b hs=0:=by
   rcases h with h | h
   ·exact h
   ·have:=(seek_in (b:=b) (hs:=hs) (lastLen b hs+1 - firstLen b) (firstLen b) (by unfold leastLen at h;omega)).2
    unfold leastLen at h
    omega
  have hfl:full b hs (lastLen b hs)=true:=seek_lt (lastLen b hs+1 - firstLen b) (firstLen b) (lastLen b hs) (by omega) (by omega) (by omega) (.inl hz)
  simp only[full,List.any_eq_true,Bool.and_eq_true] at hfl
  obtain⟨q,hm,hrq,hcov⟩:=hfl
  have hq:=g2 q hm
  have hqr:q.rest=true:=by
   rcases hre:q.rest with _ | _
   ·unfold reaches at hrq
    rw[hre] at hrq
    simp at hrq
    omega
   ·rfl
  refine full_match hc hb ?_
  simp only[full,List.any_eq_true,Bool.and_eq_true]
  refine⟨q,hm,by rw[reaches,hqr];simp;omega,covers_true.2 fun j j1 j2 j3=>covers_true.1 hcov j j1 (by omega) j3⟩
 ·refine full_match hc hb ?_
  rw[hl]
  exact seek_lt _ (firstLen b) m (by unfold firstLen;split <;> omega) h1 (by omega) h
theorem starOk_form {p:Str} (h:starOk p=true):p.tail.all isByte=true:=by
 cases p with
 |nil=>cases h
 |cons a t=>
  simp only[starOk,Bool.and_eq_true] at h
  exact h.2
theorem partOk_star {p:Str} (h:partOk p=true) (hs:isStar p=true):p.tail.all isByte=true:=by
 simp only[partOk,Bool.or_eq_true] at h
 rcases h with h | h
 ·rw[comp_noStar h] at hs
  cases hs
 ·exact starOk_form h
theorem partOk_comp {p:Str} (h:partOk p=true) (hs:isStar p=false):comp p=true:=by
 simp only[partOk,Bool.or_eq_true] at h
 rcases h with h | h
 ·exact h
 ·cases p with
  |nil=>cases h
  |cons a t=>
   simp only[starOk,Bool.and_eq_true] at h
   rw[isStar,h.1] at hs
   cases hs
def allOk (p:Pat):Prop:=∀l∈p.parts,partOk l=true
theorem allOk_at {p:Pat} (h:allOk p) (i:Nat):partOk (pAt p i)=true:=by
 rcases Nat.lt_or_ge i p.parts.length with hi | hi
 ·have:pAt p i=p.parts[i]:=by simp[pAt,List.getD_eq_getElem?_getD,List.getElem?_eq_getElem hi]
  rw[this]
  exact h _ (List.getElem_mem hi)
 ·rw[pAt_out hi]
  rfl
theorem allOk_of {p:Pat} (h:patErr p=0):allOk p:=by
 intro l hl
 obtain⟨j,hj,e⟩:=List.mem_iff_getElem.1 hl
 rcases hp:partOk l with _ | _
 ·have hg:good j l=false:=by
   unfold good
   split
   ·simp only[partOk,Bool.or_eq_false_iff] at hp
    exact hp.1
   ·exact hp
  rw[patErr_bad (by rw[List.getElem?_eq_getElem hj,e]) hg] at h
  omega
 ·rfl
theorem least_none {b:Pat} {hs:List Pat} (h0:0 < b.parts.length) (h:leastLen b hs=0) {l:List Str} (hc:l.all comp=true):hasL b hs l=false:=by
 rcases hm:matchL b l with _ | _
 ·rw[hasL,hm]
  rfl
 ·exact below_full h0 (matchL_true.1 hm).1 (.inl h) l rfl hc hm
/-! ### a single path as a region -/
theorem point_pAt {l:List Str} {j:Nat} (hj:j < l.length):pAt ⟨l,false⟩ j=l.getD j []:=by
 simp[pAt,List.getD_eq_getElem?_getD,List.getElem?_eq_getElem hj]
end Go.Proofs.YtdcdabbepnahnaaGreatDoor.Sy
