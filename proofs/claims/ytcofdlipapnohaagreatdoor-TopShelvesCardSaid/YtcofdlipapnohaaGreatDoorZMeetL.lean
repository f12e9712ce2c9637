/- Patterns as a partial order: what lies inside what, and meets. No program in sight. -/
import Derived.Test.YtcofdlipapnohaaGreatDoorZNewS
set_option linter.unusedVariables false
set_option linter.unusedSimpArgs false
namespace Go.Proofs.YtcofdlipapnohaaGreatDoor.Sy
theorem mtch_any {x:Str} (h:x≠[]):mtch [42] x=true:=by
 cases x with
 |nil=>exact absurd rfl h
 |cons a t=>simp[mtch,isStar,endsWith]
theorem getD_comp {l:List Str} (hc:l.all comp=true) {j:Nat} (hj:j < l.length):comp (l.getD j [])=true:=by
 have:l.getD j []=l[j]:=by simp[List.getD_eq_getElem?_getD,List.getElem?_eq_getElem hj]
 rw[this]
 exact List.all_eq_true.1 hc _ (List.getElem_mem hj)
theorem reaches_le {p:Pat} {n:Nat} (h:reaches p n=true):p.parts.length≤n:=by
 unfold reaches at h
 split at h
 ·have:=of_decide_eq_true h
  omega
 ·have:=beq_iff_eq.1 h
  omega
theorem matchL_true {p:Pat} {l:List Str}:matchL p l=true↔reaches p l.length=true∧∀j,j < p.parts.length→mtch (pAt p j) (l.getD j [])=true:=by
 simp only[matchL,Bool.and_eq_true,List.all_eq_true,List.mem_range]
theorem matchL_all {p:Pat} {l:List Str} (hc:l.all comp=true) (h:matchL p l=true) {j:Nat} (hj:j < l.length):mtch (pAt p j) (l.getD j [])=true:=by
 rcases Nat.lt_or_ge j p.parts.length with h1 | h1
 ·exact (matchL_true.1 h).2 j h1
 ·rw[pAt_out h1]
  exact mtch_any (comp_ne (getD_comp hc hj))
theorem suffix_tail {c s t:Str} (h1:endsWith c s=true) (h2:endsWith s t=true):endsWith c t=true:=by
 rw[endsWith,List.isSuffixOf_iff_suffix] at *
 exact h2.trans h1
theorem suffix_le {s t:Str} (h:endsWith s t=true):t.length≤s.length:=by
 rw[endsWith,List.isSuffixOf_iff_suffix] at h
 exact h.length_le
theorem inside_mtch {x y c:Str} (h:inside x y=true) (hm:mtch x c=true):mtch y c=true:=by
 unfold inside at h
 rw[Bool.or_eq_true] at h
 rcases h with h | h
 ·rw[←beq_iff_eq.1 h]
  exact hm
 ·rw[Bool.and_eq_true] at h
  obtain⟨hy,h⟩:=h
  rcases hx:isStar x with _ | _
  ·rw[hx] at h
   simp only[Bool.false_eq_true,if_false] at h
   unfold mtch at hm
   rw[hx] at hm
   simp only[Bool.false_eq_true,if_false,beq_iff_eq] at hm
   rw[←hm]
   exact h
  ·rw[hx] at h
   simp only[if_true] at h
   unfold mtch at hm ⊢
   rw[hx] at hm
   rw[hy]
   simp only[if_true,Bool.and_eq_true,decide_eq_true_eq] at hm ⊢
   have:=suffix_le h
   exact⟨suffix_tail hm.1 h,by omega⟩
theorem covers_match {h b:Pat} {l:List Str} (hc:l.all comp=true) (hb:matchL b l=true) (hr:reaches h l.length=true) (hcov:covers h b 0 l.length=true):matchL h l=true:=by
 refine matchL_true.2 ⟨hr,fun j hj=>?_⟩
 have hjl:=Nat.lt_of_lt_of_le hj (reaches_le hr)
 exact inside_mtch (covers_true.1 hcov j (Nat.zero_le _) hjl hj) (matchL_all hc hb hjl)
theorem full_match {b:Pat} {hs:List Pat} {l:List Str} (hc:l.all comp=true) (hb:matchL b l=true) (hf:full b hs l.length=true):hasL b hs l=false:=by
 simp only[full,List.any_eq_true,Bool.and_eq_true] at hf
 obtain⟨h,hm,hr,hcov⟩:=hf
 have:(hs.any fun h=>matchL h l)=true:=List.any_eq_true.2 ⟨h,hm,covers_match hc hb hr hcov⟩
 rw[hasL,this]
 simp
/-! ### the least number of components -/
theorem seek_lt {b:Pat} {hs:List Pat}:∀(k n m:Nat),0 < n→n≤m→m < n+k→(seek b hs n k=0∨m < seek b hs n k)→full b hs m=true
 |0,n,m,_,h1,h2,_=>by omega
 |k+1,n,m,h0,h1,h2,h3=>by
  unfold seek at h3
  rcases hf:full b hs n with _ | _
  ·rw[hf] at h3
   simp only[Bool.false_eq_true,if_false] at h3
   rcases h3 with h3 | h3 <;> omega
  ·rw[hf] at h3
   simp only[if_true] at h3
   by_cases e:m=n
   ·rw[e]
    exact hf
   ·exact seek_lt k (n+1) m (by omega) (by omega) (by omega) h3
theorem seek_in {b:Pat} {hs:List Pat}:∀(k n:Nat),seek b hs n k≠0→n≤seek b hs n k∧seek b hs n k < n+k
 |0,n,h=>absurd rfl h
 |k+1,n,h=>by
  unfold seek at h ⊢
  rcases hf:full b hs n with _ | _
  ·simp
  ·rw[hf] at h
   simp only[if_true] at h ⊢
   have:=seek_in k (n+1) h
   omega
theorem last_max {hs:List Pat}:∀(m:Nat),m≤hs.foldl (fun m h=>max m (h.parts.length+1)) m∧∀h∈hs,h.parts.length+1≤hs.foldl (fun m h=>max m (h.parts.length+1)) m:=by
 induction hs with
 |nil=>intro m;exact⟨Nat.le_refl _,fun h hm=>by cases hm⟩
 |cons a hs ih=>
  intro m
  obtain⟨h1,h2⟩:=ih (max m (a.parts.length+1))
  simp only[List.foldl_cons]
  refine⟨by omega,fun h hm=>?_⟩
  rcases List.mem_cons.1 hm with rfl | hm
  ·omega
  ·exact h2 h hm
theorem reaches_first {b:Pat} {n:Nat} (h:reaches b n=true):firstLen b≤n∧(b.rest=false→n=firstLen b):=by
 unfold reaches at h
 unfold firstLen
 rcases hr:b.rest with _ | _
 ·rw[hr] at h
  simp at h ⊢
  omega
 ·rw[hr] at h
  simp at h ⊢
  omega
theorem below_full {b:Pat} {hs:List Pat} {m:Nat} (h0:0 < b.parts.length) (hr:reaches b m=true) (h:leastLen b hs=0∨m < leastLen b hs):∀l:List Str,l.length=m→l.all comp=true→matchL b l=true→hasL b hs l=false:=by
 intro l hl hc hb
 obtain⟨h1,h2⟩:=reaches_first hr
 rcases Nat.lt_or_ge (lastLen b hs) m with hbig | hsm
 ·-- beyond all holes: the hole that covers at the last number covers here
  have hrest:b.rest=true:=by
   rcases hre:b.rest with _ | _
   ·have h3:=h2 hre
    unfold lastLen at hbig
    unfold firstLen at h3
    rw[hre] at hbig h3
    simp at hbig h3
    omega
   ·rfl
  have hl0:lastLen b hs=hs.foldl (fun m h=>max m (h.parts.length+1)) (b.parts.length+1):=by rw[lastLen,if_pos hrest]
  have hf0:firstLen b=b.parts.length+1:=by rw[firstLen,if_pos hrest]
  obtain⟨g1,g2⟩:=last_max (hs:=hs) (b.parts.length+1)
  rw[←hl0] at g1 g2
  have hz:leastLen b hs=0:=by
   rcases h with h | h
   ·exact h
   ·have:=(seek_in (b:=b) (hs:=hs) (lastLen b hs+1 - firstLen b) (firstLen b) (by unfold leastLen at h;omega)).2
    unfold leastLen at h
    omega
  have hfl:full b hs (lastLen b hs)=true:=seek_lt (lastLen b hs+1 - firstLen b) (firstLen b) (lastLen b hs) (by omega) (by omega) (by omega) (.inl hz)
  simp only[full,List.any_eq_true,Bool.and_eq_true] at hfl
  obtain⟨q,hm,hrq,hcov⟩:=hfl
  have hq:=g2 q hm
  have hqr:q.rest=true:=by
   rcases hre:q.rest with _ | _
   ·unfold reaches at hrq
    rw[hre] at hrq
    simp at hrq
    omega
   ·rfl
  refine full_match hc hb ?_
  simp only[full,List.any_eq_true,Bool.and_eq_true]
  refine⟨q,hm,by rw[reaches,hqr];simp;omega,covers_true.2 fun j j1 j2 j3=>covers_true.1 hcov j j1 (by omega) j3⟩
 ·refine full_match hc hb ?_
  rw[hl]
  exact seek_lt _ (firstLen b) m (by unfold firstLen;split <;> omega) h1 (by omega) h
theorem starOk_form {p:Str} (h:starOk p=true):p.tail.all isByte=true:=by
 cases p with
 |nil=>cases h
 |cons a t=>
  simp only[starOk,Bool.and_eq_true] at h
  exact h.2
theorem partOk_star {p:Str} (h:partOk p=true) (hs:isStar p=true):p.tail.all isByte=true:=by
 simp only[partOk,Bool.or_eq_true] at h
 rcases h with h | h
 ·rw[comp_noStar h] at hs
  cases hs
 ·exact starOk_form h
theorem partOk_comp {p:Str} (h:partOk p=true) (hs:isStar p=false):comp p=true:=by
 simp only[partOk,Bool.or_eq_true] at h
 rcases h with h | h
 ·exact h
 ·cases p with
  |nil=>cases h
  |cons a t=>
   simp only[starOk,Bool.and_eq_true] at h
   rw[isStar,h.1] at hs
   cases hs
def allOk (p:Pat):Prop:=∀l∈p.parts,partOk l=true
theorem allOk_at {p:Pat} (h:allOk p) (i:Nat):partOk (pAt p i)=true:=by
 rcases Nat.lt_or_ge i p.parts.length with hi | hi
 ·have:pAt p i=p.parts[i]:=by simp[pAt,List.getD_eq_getElem?_getD,List.getElem?_eq_getElem hi]
  rw[this]
  exact h _ (List.getElem_mem hi)
 ·rw[pAt_out hi]
  rfl
theorem allOk_of {p:Pat} (h:patErr p=0):allOk p:=by
 intro l hl
 obtain⟨j,hj,e⟩:=List.mem_iff_getElem.1 hl
 rcases hp:partOk l with _ | _
 ·have hg:good j l=false:=by
   unfold good
   split
   ·simp only[partOk,Bool.or_eq_false_iff] at hp
    exact hp.1
   ·exact hp
  rw[patErr_bad (by rw[List.getElem?_eq_getElem hj,e]) hg] at h
  omega
 ·rfl
theorem least_none {b:Pat} {hs:List Pat} (h0:0 < b.parts.length) (h:leastLen b hs=0) {l:List Str} (hc:l.all comp=true):hasL b hs l=false:=by
 rcases hm:matchL b l with _ | _
 ·rw[hasL,hm]
  rfl
 ·exact below_full h0 (matchL_true.1 hm).1 (.inl h) l rfl hc hm
/-! ### a single path as a region -/
theorem point_pAt {l:List Str} {j:Nat} (hj:j < l.length):pAt ⟨l,false⟩ j=l.getD j []:=by
 simp[pAt,List.getD_eq_getElem?_getD,List.getElem?_eq_getElem hj]
theorem inside_refl (x:Str):inside x x=true:=by simp[inside]
theorem star_text {x:Str} (h:isStar x=true):x=42 :: x.tail:=by
 cases x with
 |nil=>cases h
 |cons c t=>
  have:c=42:=by simpa[isStar] using h
  rw[this]
  rfl
theorem inside_iff {x y:Str}:inside x y=true↔x=y∨(isStar y=true∧((isStar x=true∧y.tail <:+ x.tail)∨(isStar x=false∧y.tail <:+ x∧y.tail.length < x.length))):=by
 unfold inside
 rw[Bool.or_eq_true,Bool.and_eq_true,beq_iff_eq]
 rcases hx:isStar x with _ | _
 ·simp only[Bool.false_eq_true,if_false,false_and,false_or,true_and]
  constructor
  ·rintro (h | ⟨h1,h2⟩)
   ·exact .inl h
   ·rw[mtch,h1] at h2
    simp only[if_true,Bool.and_eq_true,decide_eq_true_eq] at h2
    exact .inr ⟨h1,endsWith_iff.1 h2.1,h2.2⟩
  ·rintro (h | ⟨h1,h2,h3⟩)
   ·exact .inl h
   ·refine .inr ⟨h1,?_⟩
    rw[mtch,h1]
    simp only[if_true,Bool.and_eq_true,decide_eq_true_eq]
    exact⟨endsWith_iff.2 h2,h3⟩
 ·simp only[if_true,true_and,Bool.true_eq_false,false_and,or_false]
  rw[endsWith_iff]
theorem inside_trans {x y z:Str} (h1:inside x y=true) (h2:inside y z=true):inside x z=true:=by
 rw[inside_iff] at h1 h2 ⊢
 rcases h1 with rfl | ⟨hy,h1⟩
 ·exact h2
 rcases h2 with rfl | ⟨hz,h2⟩
 ·exact .inr ⟨hy,h1⟩
 rcases h2 with⟨_,h2⟩ | ⟨h2,_⟩
 ·refine .inr ⟨hz,?_⟩
  rcases h1 with⟨hx,h1⟩ | ⟨hx,h1,h3⟩
  ·exact .inl ⟨hx,h2.trans h1⟩
  ·exact .inr ⟨hx,h2.trans h1,by have:=h2.length_le;omega⟩
 ·rw[hy] at h2
  cases h2
theorem inside_antisymm {x y:Str} (h1:inside x y=true) (h2:inside y x=true):x=y:=by
 rw[inside_iff] at h1 h2
 rcases h1 with rfl | ⟨hy,h1⟩
 ·rfl
 rcases h2 with rfl | ⟨hx,h2⟩
 ·rfl
 rcases h1 with⟨_,h1⟩ | ⟨h,_⟩
 ·rcases h2 with⟨_,h2⟩ | ⟨h,_⟩
  ·have:x.tail=y.tail:=List.IsSuffix.eq_of_length h2 (by have:=h1.length_le;have:=h2.length_le;omega)
   rw[star_text hx,star_text hy,this]
  ·rw[hy] at h
   cases h
 ·rw[hx] at h
  cases h
theorem inside_any {x:Str} (h:x≠[]):inside x [42]=true:=by
 rw[inside_iff]
 refine .inr ⟨rfl,?_⟩
 rcases hx:isStar x with _ | _
 ·exact .inr ⟨rfl,List.nil_suffix,List.length_pos_iff.2 h⟩
 ·exact .inl ⟨rfl,List.nil_suffix⟩
def canMeet (x y:Str):Bool:=inside x y || inside y x
def mPart (x y:Str):Str:=if inside x y then x else y
theorem mPart_or (x y:Str):mPart x y=x∨mPart x y=y:=by
 unfold mPart
 split
 ·exact .inl rfl
 ·exact .inr rfl
theorem mPart_l {x y:Str} (h:canMeet x y=true):inside (mPart x y) x=true:=by
 unfold mPart
 split
 ·exact inside_refl x
 ·rename_i h2
  unfold canMeet at h
  simpa[h2] using h
theorem mPart_r {x y:Str}:inside (mPart x y) y=true:=by
 unfold mPart
 split
 ·assumption
 ·exact inside_refl y
theorem mPart_glb {x y z:Str} (h1:inside z x=true) (h2:inside z y=true):inside z (mPart x y)=true:=by
 rcases mPart_or x y with e | e <;> rw[e] <;> assumption
theorem can_of {x y z:Str} (h1:inside z x=true) (h2:inside z y=true):canMeet x y=true:=by
 unfold canMeet
 rw[Bool.or_eq_true]
 rw[inside_iff] at h1 h2
 rcases h1 with rfl | ⟨hx,h1⟩
 ·exact .inl (inside_iff.2 h2)
 rcases h2 with rfl | ⟨hy,h2⟩
 ·exact .inr (inside_iff.2 (.inr ⟨hx,h1⟩))
 have key:x.tail <:+ y.tail∨y.tail <:+ x.tail:=by
  rcases h1 with⟨hz,h1⟩ | ⟨hz,h1,_⟩
  ·rcases h2 with⟨_,h2⟩ | ⟨h,_⟩
   ·exact List.suffix_or_suffix_of_suffix h1 h2
   ·rw[hz] at h
    cases h
  ·rcases h2 with⟨h,_⟩ | ⟨_,h2,_⟩
   ·rw[hz] at h
    cases h
   ·exact List.suffix_or_suffix_of_suffix h1 h2
 rcases key with k | k
 ·exact .inr (inside_iff.2 (.inr ⟨hx,.inl ⟨hy,k⟩⟩))
 ·exact .inl (inside_iff.2 (.inr ⟨hy,.inl ⟨hx,k⟩⟩))
/-! ### patterns -/
def lenIn (p q:Pat):Bool:=if q.rest then (if p.rest then decide (q.parts.length≤p.parts.length) else decide (q.parts.length < p.parts.length)) else (!p.rest && p.parts.length == q.parts.length)
def insideP (p q:Pat):Bool:=lenIn p q && (List.range q.parts.length).all fun j=>inside (pAt p j) (pAt q j)
theorem partOk_ne {x:Str} (h:partOk x=true):x≠[]:=by
 rintro rfl
 cases h
theorem insideP_iff {p q:Pat} (hp:allOk p):insideP p q=true↔lenIn p q=true∧∀j,inside (pAt p j) (pAt q j)=true:=by
 unfold insideP
 rw[Bool.and_eq_true,List.all_eq_true]
 refine and_congr_right fun _=>⟨fun h j=>?_,fun h j _=>h j⟩
 by_cases hj:j < q.parts.length
 ·exact h j (List.mem_range.2 hj)
 ·rw[pAt_out (p:=q) (by omega)]
  exact inside_any (partOk_ne (allOk_at hp j))
theorem lenIn_iff {p q:Pat}:lenIn p q=true↔(q.rest=true∧p.rest=true∧q.parts.length≤p.parts.length)∨(q.rest=true∧p.rest=false∧q.parts.length < p.parts.length)∨(q.rest=false∧p.rest=false∧p.parts.length=q.parts.length):=by
 unfold lenIn
 cases q.rest <;> cases p.rest <;> simp
theorem lenIn_refl (p:Pat):lenIn p p=true:=by
 rw[lenIn_iff]
 cases p.rest <;> simp
theorem lenIn_trans {p q r:Pat} (h1:lenIn p q=true) (h2:lenIn q r=true):lenIn p r=true:=by
 rw[lenIn_iff] at h1 h2 ⊢
 rcases h1 with⟨a,b,c⟩ | ⟨a,b,c⟩ | ⟨a,b,c⟩ <;> rcases h2 with⟨d,e,f⟩ | ⟨d,e,f⟩ | ⟨d,e,f⟩ <;> simp_all <;> omega
theorem insideP_refl {p:Pat} (hp:allOk p):insideP p p=true:=(insideP_iff hp).2 ⟨lenIn_refl p,fun j=>inside_refl _⟩
theorem insideP_trans {p q r:Pat} (hp:allOk p) (hq:allOk q) (h1:insideP p q=true) (h2:insideP q r=true):insideP p r=true:=by
 rw[insideP_iff hp] at h1 ⊢
 rw[insideP_iff hq] at h2
 exact⟨lenIn_trans h1.1 h2.1,fun j=>inside_trans (h1.2 j) (h2.2 j)⟩
theorem pat_ext {p q:Pat} (hr:p.rest=q.rest) (hl:p.parts.length=q.parts.length) (h:∀j,j < p.parts.length→pAt p j=pAt q j):p=q:=by
 obtain⟨ps,pr⟩:=p
 obtain⟨qs,qr⟩:=q
 simp only at hr hl h
 subst hr
 congr 1
 apply List.ext_getElem hl
 intro j h1 h2
 have:=h j h1
 simpa[pAt,List.getD_eq_getElem?_getD,h1,h2] using this
theorem insideP_antisymm {p q:Pat} (hp:allOk p) (hq:allOk q) (h1:insideP p q=true) (h2:insideP q p=true):p=q:=by
 rw[insideP_iff hp] at h1
 rw[insideP_iff hq] at h2
 have a:=lenIn_iff.1 h1.1
 have b:=lenIn_iff.1 h2.1
 have hr:p.rest=q.rest∧p.parts.length=q.parts.length:=by
  rcases a with⟨a1,a2,a3⟩ | ⟨a1,a2,a3⟩ | ⟨a1,a2,a3⟩ <;> rcases b with⟨b1,b2,b3⟩ | ⟨b1,b2,b3⟩ | ⟨b1,b2,b3⟩ <;> simp_all <;> omega
 exact pat_ext hr.1 hr.2 fun j _=>inside_antisymm (h1.2 j) (h2.2 j)
def compat (p q:Pat):Bool:=if p.rest then (if q.rest then true else decide (p.parts.length < q.parts.length)) else (if q.rest then decide (q.parts.length < p.parts.length) else p.parts.length == q.parts.length)
theorem compat_iff {p q:Pat}:compat p q=true↔(p.rest=true∧q.rest=true)∨(p.rest=true∧q.rest=false∧p.parts.length < q.parts.length)∨(p.rest=false∧q.rest=true∧q.parts.length < p.parts.length)∨(p.rest=false∧q.rest=false∧p.parts.length=q.parts.length):=by
 unfold compat
 cases p.rest <;> cases q.rest <;> simp
def mCan (p q:Pat):Bool:=(List.range (max p.parts.length q.parts.length)).all fun j=>canMeet (pAt p j) (pAt q j)
def mPat (p q:Pat):Pat:=⟨(List.range (max p.parts.length q.parts.length)).map fun j=>mPart (pAt p j) (pAt q j),p.rest && q.rest⟩
def meetL (p q:Pat):Option Pat:=if compat p q && mCan p q then some (mPat p q) else none
theorem mPat_len (p q:Pat):(mPat p q).parts.length=max p.parts.length q.parts.length:=by simp[mPat]
theorem mPat_at (p q:Pat) (j:Nat):pAt (mPat p q) j=mPart (pAt p j) (pAt q j):=by
 by_cases hj:j < max p.parts.length q.parts.length
 ·simp[pAt,mPat,List.getD_eq_getElem?_getD,hj]
 ·rw[pAt_out (p:=mPat p q) (by rw[mPat_len];omega),pAt_out (p:=p) (by omega),pAt_out (p:=q) (by omega)]
  rfl
theorem mCan_iff {p q:Pat}:mCan p q=true↔∀j,canMeet (pAt p j) (pAt q j)=true:=by
 unfold mCan
 rw[List.all_eq_true]
 refine⟨fun h j=>?_,fun h j _=>h j⟩
 by_cases hj:j < max p.parts.length q.parts.length
 ·exact h j (List.mem_range.2 hj)
 ·rw[pAt_out (p:=p) (by omega),pAt_out (p:=q) (by omega)]
  rfl
theorem mPat_ok {p q:Pat} (hp:allOk p) (hq:allOk q):allOk (mPat p q):=by
 intro l hl
 obtain⟨j,_,rfl⟩:=List.mem_map.1 hl
 rcases mPart_or (pAt p j) (pAt q j) with e | e <;> rw[e]
 ·exact allOk_at hp j
 ·exact allOk_at hq j
theorem lenIn_glb {p q z:Pat} (h:compat p q=true):lenIn z (mPat p q)=true↔lenIn z p=true∧lenIn z q=true:=by
 rw[lenIn_iff,lenIn_iff,lenIn_iff,mPat_len]
 have hr:(mPat p q).rest=(p.rest && q.rest):=rfl
 rw[hr]
 rcases compat_iff.1 h with⟨a,b⟩ | ⟨a,b,c⟩ | ⟨a,b,c⟩ | ⟨a,b,c⟩ <;> rw[a,b] <;> cases z.rest <;> simp <;> omega
theorem compat_of {p q z:Pat} (h1:lenIn z p=true) (h2:lenIn z q=true):compat p q=true:=by
 rw[lenIn_iff] at h1 h2
 rw[compat_iff]
 rcases h1 with⟨a,b,c⟩ | ⟨a,b,c⟩ | ⟨a,b,c⟩ <;> rcases h2 with⟨d,e,f⟩ | ⟨d,e,f⟩ | ⟨d,e,f⟩ <;> simp_all <;> omega
theorem meetL_some {p q m:Pat} (h:meetL p q=some m):m=mPat p q∧compat p q=true∧∀j,canMeet (pAt p j) (pAt q j)=true:=by
 unfold meetL at h
 split at h
 ·rename_i hc
  rw[Bool.and_eq_true] at hc
  exact⟨(Option.some.inj h).symm,hc.1,mCan_iff.1 hc.2⟩
 ·cases h
theorem meetL_of {p q:Pat} (h1:compat p q=true) (h2:∀j,canMeet (pAt p j) (pAt q j)=true):meetL p q=some (mPat p q):=by rw[meetL,h1,mCan_iff.2 h2];rfl
theorem meetL_glb {p q m z:Pat} (hp:allOk p) (hq:allOk q) (h:meetL p q=some m) (hz:allOk z):insideP z m=true↔insideP z p=true∧insideP z q=true:=by
 obtain⟨rfl,hc,hm⟩:=meetL_some h
 rw[insideP_iff hz,insideP_iff hz,insideP_iff hz,lenIn_glb hc]
 constructor
 ·rintro⟨⟨h1,h2⟩,h3⟩
  refine⟨⟨h1,fun j=>?_⟩,h2,fun j=>?_⟩
  ·have:=h3 j
   rw[mPat_at] at this
   exact inside_trans this (mPart_l (hm j))
  ·have:=h3 j
   rw[mPat_at] at this
   exact inside_trans this mPart_r
 ·rintro⟨⟨h1,h2⟩,h3,h4⟩
  refine⟨⟨h1,h3⟩,fun j=>?_⟩
  rw[mPat_at]
  exact mPart_glb (h2 j) (h4 j)
theorem meetL_none {p q z:Pat} (hz:allOk z) (h:meetL p q=none) (h1:insideP z p=true) (h2:insideP z q=true):False:=by
 rw[insideP_iff hz] at h1 h2
 rw[meetL_of (compat_of h1.1 h2.1) (fun j=>can_of (h1.2 j) (h2.2 j))] at h
 cases h
theorem meetL_ok {p q m:Pat} (hp:allOk p) (hq:allOk q) (h:meetL p q=some m):allOk m:=by
 obtain⟨rfl,_,_⟩:=meetL_some h
 exact mPat_ok hp hq
theorem meetL_in {p q m:Pat} (hp:allOk p) (hq:allOk q) (h:meetL p q=some m):insideP m p=true∧insideP m q=true:=
 (meetL_glb hp hq h (meetL_ok hp hq h)).1 (insideP_refl (meetL_ok hp hq h))
theorem meetL_comm {p q:Pat} (hp:allOk p) (hq:allOk q):meetL p q=meetL q p:=by
 rcases h1:meetL p q with _ | m
 ·rcases h2:meetL q p with _ | n
  ·rfl
  ·obtain⟨a,b⟩:=meetL_in hq hp h2
   exact (meetL_none (meetL_ok hq hp h2) h1 b a).elim
 ·obtain⟨a,b⟩:=meetL_in hp hq h1
  have om:=meetL_ok hp hq h1
  rcases h2:meetL q p with _ | n
  ·exact (meetL_none om h2 b a).elim
  ·obtain⟨c,d⟩:=meetL_in hq hp h2
   have on:=meetL_ok hq hp h2
   have h3:=(meetL_glb hq hp h2 om).2 ⟨b,a⟩
   have h4:=(meetL_glb hp hq h1 on).2 ⟨d,c⟩
   rw[insideP_antisymm om on h3 h4]
theorem meetL_inside {p q:Pat} (hp:allOk p) (hq:allOk q) (h:insideP q p=true):meetL p q=some q:=by
 rcases h1:meetL p q with _ | m
 ·exact (meetL_none hq h1 h (insideP_refl hq)).elim
 ·have om:=meetL_ok hp hq h1
  obtain⟨a,b⟩:=meetL_in hp hq h1
  rw[insideP_antisymm om hq b ((meetL_glb hp hq h1 hq).2 ⟨h,insideP_refl hq⟩)]
/-! ### a meet, part by part: p the longer one -/
def mixL (p q:Pat) (k:Nat):List Str:=(List.range p.parts.length).map fun j=>if j < k then mPart (pAt p j) (pAt q j) else pAt p j
theorem mixL_len (p q:Pat) (k:Nat):(mixL p q k).length=p.parts.length:=by simp[mixL]
theorem mixL_get {p q:Pat} {k j:Nat} (hj:j < p.parts.length):(mixL p q k)[j]?=some (if j < k then mPart (pAt p j) (pAt q j) else pAt p j):=by simp[mixL,hj]
theorem pAt_get {p:Pat} {j:Nat} (hj:j < p.parts.length):p.parts[j]?=some (pAt p j):=by simp[pAt,List.getD_eq_getElem?_getD,hj]
theorem mixL_zero (p q:Pat):mixL p q 0=p.parts:=by
 apply List.ext_getElem?
 intro j
 by_cases hj:j < p.parts.length
 ·rw[mixL_get hj,pAt_get hj]
  simp
 ·rw[List.getElem?_eq_none (by rw[mixL_len];omega),List.getElem?_eq_none (by omega)]
theorem mixL_succ {p q:Pat} {k:Nat} (hk:k < p.parts.length):mixL p q (k+1)=(mixL p q k).set k (mPart (pAt p k) (pAt q k)):=by
 apply List.ext_getElem?
 intro j
 rw[List.getElem?_set,mixL_len]
 by_cases hj:j < p.parts.length
 ·rw[mixL_get hj,mixL_get hj]
  by_cases e:k=j
  ·subst e
   simp[hk]
  ·rw[if_neg e]
   by_cases h:j < k
   ·rw[if_pos h,if_pos (by omega)]
   ·rw[if_neg h,if_neg (by omega)]
 ·rw[List.getElem?_eq_none (by rw[mixL_len];omega),if_neg (by omega),List.getElem?_eq_none (by rw[mixL_len];omega)]
theorem mixL_end {p q:Pat} (hp:allOk p) (hl:q.parts.length≤p.parts.length) {k:Nat} (hk:q.parts.length≤k):mixL p q k=(mPat p q).parts:=by
 apply List.ext_getElem?
 intro j
 have hm:=mPat_len p q
 by_cases hj:j < p.parts.length
 ·rw[mixL_get hj,pAt_get (p:=mPat p q) (by rw[hm];omega),mPat_at]
  split
  ·rfl
  ·rw[pAt_out (p:=q) (by omega),mPart,if_pos (inside_any (partOk_ne (allOk_at hp j)))]
 ·rw[List.getElem?_eq_none (by rw[mixL_len];omega),List.getElem?_eq_none (by rw[hm];omega)]
theorem mCan_all {p q:Pat} (hp:allOk p) (hl:q.parts.length≤p.parts.length):mCan p q=true↔∀j,j < q.parts.length→canMeet (pAt p j) (pAt q j)=true:=by
 rw[mCan_iff]
 refine⟨fun h j _=>h j,fun h j=>?_⟩
 by_cases hj:j < q.parts.length
 ·exact h j hj
 ·rw[pAt_out (p:=q) (by omega),canMeet,inside_any (partOk_ne (allOk_at hp j))]
  rfl
theorem meetL_yes {p q:Pat} (hp:allOk p) (hl:q.parts.length≤p.parts.length) (hc:compat p q=true) (h:∀j,j < q.parts.length→canMeet (pAt p j) (pAt q j)=true):meetL p q=some (mPat p q):=by
 rw[meetL,hc,(mCan_all hp hl).2 h]
 rfl
theorem meetL_bad {p q:Pat} {j:Nat} (h:canMeet (pAt p j) (pAt q j)=false):meetL p q=none:=by
 rcases hm:meetL p q with _ | m
 ·rfl
 ·obtain⟨_,_,h2⟩:=meetL_some hm
  rw[h2 j] at h
  cases h
theorem meetL_far {p q:Pat} (h:compat p q=false):meetL p q=none:=by
 rw[meetL,h]
 rfl
theorem compat_comm (p q:Pat):compat p q=compat q p:=by
 rw[Bool.eq_iff_iff,compat_iff,compat_iff]
 constructor
 ·rintro (⟨a,b⟩ | ⟨a,b,c⟩ | ⟨a,b,c⟩ | ⟨a,b,c⟩)
  ·exact .inl ⟨b,a⟩
  ·exact .inr (.inr (.inl ⟨b,a,c⟩))
  ·exact .inr (.inl ⟨b,a,c⟩)
  ·exact .inr (.inr (.inr ⟨b,a,c.symm⟩))
 ·rintro (⟨a,b⟩ | ⟨a,b,c⟩ | ⟨a,b,c⟩ | ⟨a,b,c⟩)
  ·exact .inl ⟨b,a⟩
  ·exact .inr (.inr (.inl ⟨b,a,c⟩))
  ·exact .inr (.inl ⟨b,a,c⟩)
  ·exact .inr (.inr (.inr ⟨b,a,c.symm⟩))
def mPartE (x y:Str):Str:=if canMeet x y then mPart x y else []
/-! ### good patterns -/
theorem patErr_iff {p:Pat}:patErr p=0↔0 < p.parts.length∧(p.rest=false→2≤p.parts.length)∧p.parts.length≤12∧comp (pAt p 0)=true∧allOk p:=by
 constructor
 ·intro h
  have hok:=allOk_of h
  unfold patErr at h
  split at h
  ·cases h
  ·rename_i h0
   split at h
   ·rename_i hg
    split at h
    ·cases h
    ·have hl:0 < p.parts.length:=by omega
     refine⟨hl,fun hr=>?_,by omega,?_,hok⟩
     ·rcases Nat.lt_or_ge p.parts.length 2 with h2 | h2
      ·exact absurd (.inr ⟨by omega,hr⟩) h0
      ·exact h2
     ·have:=goodTo_le (show 0+1≤p.parts.length by omega) hg
      rw[goodTo_succ,Bool.and_eq_true] at this
      have h2:=this.2
      unfold good at h2
      rw[if_pos rfl] at h2
      have e:pAt p 0=p.parts.getD 0 []:=by simp[pAt,List.getD_eq_getElem?_getD,hl]
      rw[e]
      exact h2
   ·cases h
 ·rintro⟨h0,h1,h2,h3,h4⟩
  have hg:goodTo p.parts p.parts.length=true:=by
   unfold goodTo
   rw[List.all_eq_true]
   intro j hj
   have hj:=List.mem_range.1 hj
   have e:p.parts.getD j []=pAt p j:=by simp[pAt,List.getD_eq_getElem?_getD,hj]
   rw[e]
   unfold good
   split
   ·rename_i h;subst h;exact h3
   ·exact allOk_at h4 j
  rw[patErr_good (by omega) (by rintro⟨a,b⟩;have:=h1 b;omega) hg,if_neg (by omega)]
theorem meetL_good {p q m:Pat} (hp:patErr p=0) (hq:patErr q=0) (h:meetL p q=some m):patErr m=0:=by
 obtain⟨p0,p1,p2,p3,p4⟩:=patErr_iff.1 hp
 obtain⟨q0,q1,q2,q3,q4⟩:=patErr_iff.1 hq
 have hm:=meetL_ok p4 q4 h
 obtain⟨rfl,hc,_⟩:=meetL_some h
 refine patErr_iff.2 ⟨by rw[mPat_len];omega,fun hr=>?_,by rw[mPat_len];omega,?_,hm⟩
 ·rw[mPat_len]
  have:p.rest=false∨q.rest=false:=by
   have e:(p.rest && q.rest)=false:=hr
   rcases hp:p.rest with _ | _
   ·exact .inl rfl
   ·rw[hp,Bool.true_and] at e
    exact .inr e
  rcases this with e | e
  ·have:=p1 e
   omega
  ·have:=q1 e
   omega
 ·rw[mPat_at]
  rcases mPart_or (pAt p 0) (pAt q 0) with e | e <;> rw[e] <;> assumption
def meetP (p q:Pat):Option Pat:=if patErr p=0∧patErr q=0 then meetL p q else none
theorem meetP_some {p q m:Pat} (h:meetP p q=some m):patErr p=0∧patErr q=0∧meetL p q=some m∧patErr m=0:=by
 unfold meetP at h
 split at h
 ·rename_i hc
  exact⟨hc.1,hc.2,h,meetL_good hc.1 hc.2 h⟩
 ·cases h
/-! ### paths as patterns -/
theorem point_ok {l:List Str} (hc:l.all comp=true):allOk ⟨l,false⟩:=fun x hx=>by
 have:=List.all_eq_true.1 hc x hx
 simp[partOk,this]
theorem inside_comp {x c:Str} (hc:isStar c=false):inside c x=mtch x c:=by
 unfold inside mtch
 rw[hc]
 rcases hx:isStar x with _ | _
 ·simp only[Bool.false_and,Bool.or_false,Bool.false_eq_true,if_false]
  rw[Bool.eq_iff_iff,beq_iff_eq,beq_iff_eq]
  exact eq_comm
 ·have hne:(c == x)=false:=by
   rw[beq_eq_false_iff_ne]
   rintro rfl
   rw[hc] at hx
   cases hx
  rw[hne]
  simp[mtch,hx]
theorem matchL_inside {p:Pat} {l:List Str} (hc:l.all comp=true):matchL p l=insideP ⟨l,false⟩ p:=by
 rw[Bool.eq_iff_iff,matchL_true,insideP,Bool.and_eq_true]
 have hr:reaches p l.length=true↔lenIn ⟨l,false⟩ p=true:=by
  rw[lenIn_iff]
  unfold reaches
  cases p.rest <;> simp
 rw[hr]
 refine and_congr_right fun h=>?_
 have hle:=reaches_le (hr.2 h)
 rw[List.all_eq_true]
 have key:∀j,j < p.parts.length→inside (pAt ⟨l,false⟩ j) (pAt p j)=mtch (pAt p j) (l.getD j []):=fun j hj=>by
  rw[point_pAt (by omega)]
  exact inside_comp (comp_noStar (getD_comp hc (by omega)))
 constructor
 ·intro H j hj
  rw[key j (List.mem_range.1 hj)]
  exact H j (List.mem_range.1 hj)
 ·intro H j hj
  rw[←key j hj]
  exact H j (List.mem_range.2 hj)
theorem meetL_match {p q m:Pat} (hp:allOk p) (hq:allOk q) (h:meetL p q=some m) {l:List Str} (hc:l.all comp=true):matchL m l=(matchL p l && matchL q l):=by
 rw[matchL_inside hc,matchL_inside hc,matchL_inside hc,Bool.eq_iff_iff,Bool.and_eq_true]
 exact meetL_glb hp hq h (point_ok hc)
theorem meetL_nomatch {p q:Pat} (h:meetL p q=none) {l:List Str} (hc:l.all comp=true):(matchL p l && matchL q l)=false:=by
 rw[matchL_inside hc,matchL_inside hc]
 rcases h1:insideP ⟨l,false⟩ p with _ | _
 ·rfl
 ·rcases h2:insideP ⟨l,false⟩ q with _ | _
  ·rfl
  ·exact (meetL_none (point_ok hc) h h1 h2).elim
theorem insideP_match {p q:Pat} (hp:allOk p) (h:insideP p q=true) {l:List Str} (hc:l.all comp=true) (hm:matchL p l=true):matchL q l=true:=by
 rw[matchL_inside hc] at hm ⊢
 exact insideP_trans (point_ok hc) hp hm h
/-! ### texts -/
def patText (p:Pat):Str:=pathStr p.parts++(if p.rest then [47,46,46,46] else [])
theorem part_no47 {x:Str} (h:partOk x=true):(47:UInt8)∉x:=by
 rcases hs:isStar x with _ | _
 ·exact comp_no47 (partOk_comp h hs)
 ·rw[star_text hs]
  intro hm
  rcases List.mem_cons.1 hm with e | e
  ·exact absurd e (by decide)
  ·have:=List.all_eq_true.1 (partOk_star h hs) 47 e
   exact absurd this (by decide)
theorem join47_snoc (x:Str):∀ls:List Str,ls≠[]→Lib.join (ls++[x]) [47]=Lib.join ls [47]++47 :: x
 |[],h=>absurd rfl h
 |[y],_=>by
  rw[List.singleton_append,join47_cons,join47_one,join47_one]
 |y :: z :: r,_=>by
  have ih:=join47_snoc x (z :: r) (by simp)
  rw[List.cons_append,List.cons_append,join47_cons,←List.cons_append,ih,join47_cons,List.append_assoc,List.cons_append]
def tailP (p:Pat):List Str:=p.parts++(if p.rest then [[46,46,46]] else [])
theorem patText_eq {p:Pat} (h:p.parts≠[]):patText p=47 :: 47 :: Lib.join (tailP p) [47]:=by
 unfold patText tailP pathStr
 cases p.rest
 ·simp
 ·simp only[if_true]
  rw[join47_snoc _ _ h]
  simp
theorem tailP_no47 {p:Pat} (h:allOk p):∀l∈tailP p,(47:UInt8)∉l:=by
 intro l hl
 rcases List.mem_append.1 hl with hl | hl
 ·exact part_no47 (h l hl)
 ·split at hl
  ·obtain rfl:=List.mem_singleton.1 hl
   decide
  ·cases hl
theorem patText_inj {p q:Pat} (hp:patErr p=0) (hq:patErr q=0) (h:patText p=patText q):p=q:=by
 obtain⟨p0,_,_,_,p4⟩:=patErr_iff.1 hp
 obtain⟨q0,_,_,_,q4⟩:=patErr_iff.1 hq
 have pn:p.parts≠[]:=List.length_pos_iff.1 p0
 have qn:q.parts≠[]:=List.length_pos_iff.1 q0
 rw[patText_eq pn,patText_eq qn] at h
 have h1:Lib.join (tailP p) [47]=Lib.join (tailP q) [47]:=by simpa using h
 have h2:tailP p=tailP q:=by
  rw[←slash_join (tailP p) (by unfold tailP;simp[pn]) (tailP_no47 p4),←slash_join (tailP q) (by unfold tailP;simp[qn]) (tailP_no47 q4),h1]
 obtain⟨ps,pr⟩:=p
 obtain⟨qs,qr⟩:=q
 have bad:partOk [46,46,46]=true→False:=by decide
 have mem:∀{xs ys:List Str},xs++[[46,46,46]]=ys→([46,46,46]:Str)∈ys:=fun h=>by rw[←h];simp
 cases pr <;> cases qr <;> simp only[tailP,Bool.false_eq_true,if_false,if_true,List.append_nil] at h2
 ·rw[h2]
 ·exact (bad (p4 _ (mem h2.symm))).elim
 ·exact (bad (q4 _ (mem h2))).elim
 ·rw[List.append_cancel_right h2]
end Go.Proofs.YtcofdlipapnohaaGreatDoor.Sy
