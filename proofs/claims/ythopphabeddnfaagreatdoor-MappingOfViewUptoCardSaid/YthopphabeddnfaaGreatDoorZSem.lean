/- What the least path of a region means: it lies in the region, none comes ahead of it; an empty region has no path. No program in sight. -/
import Derived.Test.YthopphabeddnfaaGreatDoorZPath
set_option linter.unusedVariables false
set_option linter.unusedSimpArgs false
namespace Go.Proofs.YthopphabeddnfaaGreatDoor.Sy

theorem mtch_any {x : Str} (h : x ≠ []) : mtch [42] x = true:=by
 cases x with
 |nil=>exact absurd rfl h
 |cons a t=>simp [mtch,isStar,endsWith]
theorem getD_comp {l : List Str} (hc : l.all comp = true) {j : Nat} (hj : j < l.length) : comp (l.getD j []) = true:=by
 have : l.getD j [] = l[j]:=by simp [List.getD_eq_getElem?_getD,List.getElem?_eq_getElem hj]
 rw [this]
 exact List.all_eq_true.1 hc _ (List.getElem_mem hj)
theorem reaches_le {p : Pat} {n : Nat} (h : reaches p n = true) : p.parts.length ≤ n:=by
 unfold reaches at h
 split at h
 ·have:=of_decide_eq_true h
  omega
 ·have:=beq_iff_eq.1 h
  omega
theorem matchL_true {p : Pat} {l : List Str} : matchL p l = true ↔ reaches p l.length = true ∧ ∀ j,j < p.parts.length → mtch (pAt p j) (l.getD j []) = true:=by
 simp only [matchL,Bool.and_eq_true,List.all_eq_true,List.mem_range]
theorem matchL_all {p : Pat} {l : List Str} (hc : l.all comp = true) (h : matchL p l = true) {j : Nat} (hj : j < l.length) : mtch (pAt p j) (l.getD j []) = true:=by
 rcases Nat.lt_or_ge j p.parts.length with h1 | h1
 ·exact (matchL_true.1 h).2 j h1
 ·rw [pAt_out h1]
  exact mtch_any (comp_ne (getD_comp hc hj))
theorem matchL_open {p : Pat} {l : List Str} (hc : l.all comp = true) : isOpen l.length l p = matchL p l:=by
 rw [Bool.eq_iff_iff]
 constructor
 ·intro h
  simp only [isOpen,Bool.and_eq_true,List.all_eq_true,List.mem_range] at h
  exact matchL_true.2 ⟨h.1,fun j hj=>h.2 j (Nat.lt_of_lt_of_le hj (reaches_le h.1))⟩
 ·intro h
  simp only [isOpen,Bool.and_eq_true,List.all_eq_true,List.mem_range]
  exact ⟨(matchL_true.1 h).1,fun j hj=>matchL_all hc h hj⟩

theorem suffix_tail {c s t : Str} (h1 : endsWith c s = true) (h2 : endsWith s t = true) : endsWith c t = true:=by
 rw [endsWith,List.isSuffixOf_iff_suffix] at *
 exact h2.trans h1
theorem suffix_le {s t : Str} (h : endsWith s t = true) : t.length ≤ s.length:=by
 rw [endsWith,List.isSuffixOf_iff_suffix] at h
 exact h.length_le
theorem inside_mtch {x y c : Str} (h : inside x y = true) (hm : mtch x c = true) : mtch y c = true:=by
 unfold inside at h
 rw [Bool.or_eq_true] at h
 rcases h with h | h
 ·rw [← beq_iff_eq.1 h]
  exact hm
 ·rw [Bool.and_eq_true] at h
  obtain ⟨hy,h⟩:=h
  rcases hx : isStar x with _ | _
  ·rw [hx] at h
   simp only [Bool.false_eq_true,if_false] at h
   unfold mtch at hm
   rw [hx] at hm
   simp only [Bool.false_eq_true,if_false,beq_iff_eq] at hm
   rw [← hm]
   exact h
  ·rw [hx] at h
   simp only [if_true] at h
   unfold mtch at hm ⊢
   rw [hx] at hm
   rw [hy]
   simp only [if_true,Bool.and_eq_true,decide_eq_true_eq] at hm ⊢
   have:=suffix_le h
   exact ⟨suffix_tail hm.1 h,by omega⟩
theorem covers_match {h b : Pat} {l : List Str} (hc : l.all comp = true) (hb : matchL b l = true) (hr : reaches h l.length = true) (hcov : covers h b 0 l.length = true) : matchL h l = true:=by
 refine matchL_true.2 ⟨hr,fun j hj=>?_⟩
 have hjl:=Nat.lt_of_lt_of_le hj (reaches_le hr)
 exact inside_mtch (covers_true.1 hcov j (Nat.zero_le _) hjl hj) (matchL_all hc hb hjl)
theorem full_match {b : Pat} {hs : List Pat} {l : List Str} (hc : l.all comp = true) (hb : matchL b l = true) (hf : full b hs l.length = true) : hasL b hs l = false:=by
 simp only [full,List.any_eq_true,Bool.and_eq_true] at hf
 obtain ⟨h,hm,hr,hcov⟩:=hf
 have : (hs.any fun h=>matchL h l) = true:=List.any_eq_true.2 ⟨h,hm,covers_match hc hb hr hcov⟩
 rw [hasL,this]
 simp

/-! ### the least number of components -/
theorem seek_lt {b : Pat} {hs : List Pat} : ∀ (k n m : Nat),0 < n → n ≤ m → m < n + k → (seek b hs n k = 0 ∨ m < seek b hs n k) → full b hs m = true
 |0,n,m,_,h1,h2,_=>by omega
 |k + 1,n,m,h0,h1,h2,h3=>by
  unfold seek at h3
  rcases hf : full b hs n with _ | _
  ·rw [hf] at h3
   simp only [Bool.false_eq_true,if_false] at h3
   rcases h3 with h3 | h3 <;> omega
  ·rw [hf] at h3
   simp only [if_true] at h3
   by_cases e : m = n
   ·rw [e]
    exact hf
   ·exact seek_lt k (n + 1) m (by omega) (by omega) (by omega) h3
theorem seek_in {b : Pat} {hs : List Pat} : ∀ (k n : Nat),seek b hs n k ≠ 0 → n ≤ seek b hs n k ∧ seek b hs n k < n + k
 |0,n,h=>absurd rfl h
 |k + 1,n,h=>by
  unfold seek at h ⊢
  rcases hf : full b hs n with _ | _
  ·simp
  ·rw [hf] at h
   simp only [if_true] at h ⊢
   have:=seek_in k (n + 1) h
   omega
theorem last_max {hs : List Pat} : ∀ (m : Nat),m ≤ hs.foldl (fun m h=>max m (h.parts.length + 1)) m ∧ ∀ h ∈ hs,h.parts.length + 1 ≤ hs.foldl (fun m h=>max m (h.parts.length + 1)) m:=by
 induction hs with
 |nil=>intro m;exact ⟨Nat.le_refl _,fun h hm=>by cases hm⟩
 |cons a hs ih=>
  intro m
  obtain ⟨h1,h2⟩:=ih (max m (a.parts.length + 1))
  simp only [List.foldl_cons]
  refine ⟨by omega,fun h hm=>?_⟩
  rcases List.mem_cons.1 hm with rfl | hm
  ·omega
  ·exact h2 h hm
theorem reaches_first {b : Pat} {n : Nat} (h : reaches b n = true) : firstLen b ≤ n ∧ (b.rest = false → n = firstLen b):=by
 unfold reaches at h
 unfold firstLen
 rcases hr : b.rest with _ | _
 ·rw [hr] at h
  simp at h ⊢
  omega
 ·rw [hr] at h
  simp at h ⊢
  omega
theorem below_full {b : Pat} {hs : List Pat} {m : Nat} (h0 : 0 < b.parts.length) (hr : reaches b m = true) (h : leastLen b hs = 0 ∨ m < leastLen b hs) : ∀ l : List Str,l.length = m → l.all comp = true → matchL b l = true → hasL b hs l = false:=by
 intro l hl hc hb
 obtain ⟨h1,h2⟩:=reaches_first hr
 rcases Nat.lt_or_ge (lastLen b hs) m with hbig | hsm
 ·-- beyond all holes: the hole that covers at the last number covers here
  have hrest : b.rest = true:=by
   rcases hre : b.rest with _ | _
   ·have h3:=h2 hre
    unfold lastLen at hbig
    unfold firstLen at h3
    rw [hre] at hbig h3
    simp at hbig h3
    omega
   ·rfl
  have hl0 : lastLen b hs = hs.foldl (fun m h=>max m (h.parts.length + 1)) (b.parts.length + 1):=by rw [lastLen,if_pos hrest]
  have hf0 : firstLen b = b.parts.length + 1:=by rw [firstLen,if_pos hrest]
  obtain ⟨g1,g2⟩:=last_max (hs:=hs) (b.parts.length + 1)
  rw [← hl0] at g1 g2
  have hz : leastLen b hs = 0:=by
   rcases h with h | h
   ·exact h
   ·have:=(seek_in (b:=b) (hs:=hs) (lastLen b hs + 1 - firstLen b) (firstLen b) (by unfold leastLen at h;omega)).2
    unfold leastLen at h
    omega
  have hfl : full b hs (lastLen b hs) = true:=seek_lt (lastLen b hs + 1 - firstLen b) (firstLen b) (lastLen b hs) (by omega) (by omega) (by omega) (.inl hz)
  simp only [full,List.any_eq_true,Bool.and_eq_true] at hfl
  obtain ⟨q,hm,hrq,hcov⟩:=hfl
  have hq:=g2 q hm
  have hqr : q.rest = true:=by
   rcases hre : q.rest with _ | _
   ·unfold reaches at hrq
    rw [hre] at hrq
    simp at hrq
    omega
   ·rfl
  refine full_match hc hb ?_
  simp only [full,List.any_eq_true,Bool.and_eq_true]
  refine ⟨q,hm,by rw [reaches,hqr];simp;omega,covers_true.2 fun j j1 j2 j3=>covers_true.1 hcov j j1 (by omega) j3⟩
 ·refine full_match hc hb ?_
  rw [hl]
  exact seek_lt _ (firstLen b) m (by unfold firstLen;split <;> omega) h1 (by omega) h

/-! ### the components that are picked -/
theorem starts_byte : ∀ c ∈ starts,isByte c = true ∧ c ≠ 46:=by decide +kernel
theorem starOk_form {p : Str} (h : starOk p = true) : p.tail.all isByte = true:=by
 cases p with
 |nil=>cases h
 |cons a t=>
  simp only [starOk,Bool.and_eq_true] at h
  exact h.2
theorem start_compS {p : Str} {c : UInt8} (hc : c ∈ starts) (hp : p.tail.all isByte = true) : comp (c :: p.tail) = true:=by
 have:=starts_byte c hc
 simp [comp,this.1,this.2]
 simpa using hp
theorem partOk_star {p : Str} (h : partOk p = true) (hs : isStar p = true) : p.tail.all isByte = true:=by
 simp only [partOk,Bool.or_eq_true] at h
 rcases h with h | h
 ·rw [comp_noStar h] at hs
  cases hs
 ·exact starOk_form h
theorem partOk_comp {p : Str} (h : partOk p = true) (hs : isStar p = false) : comp p = true:=by
 simp only [partOk,Bool.or_eq_true] at h
 rcases h with h | h
 ·exact h
 ·cases p with
  |nil=>cases h
  |cons a t=>
   simp only [starOk,Bool.and_eq_true] at h
   rw [isStar,h.1] at hs
   cases hs
theorem find_mem {pr : UInt8 → Bool} : (starts.find? pr).getD 43 ∈ starts:=by
 rcases h : starts.find? pr with _ | y
 ·decide
 ·exact List.mem_of_find?_eq_some h
def allOk (p : Pat) : Prop:=∀ l ∈ p.parts,partOk l = true
theorem allOk_at {p : Pat} (h : allOk p) (i : Nat) : partOk (pAt p i) = true:=by
 rcases Nat.lt_or_ge i p.parts.length with hi | hi
 ·have : pAt p i = p.parts[i]:=by simp [pAt,List.getD_eq_getElem?_getD,List.getElem?_eq_getElem hi]
  rw [this]
  exact h _ (List.getElem_mem hi)
 ·rw [pAt_out hi]
  rfl
theorem allOk_of {p : Pat} (h : patErr p = 0) : allOk p:=by
 intro l hl
 obtain ⟨j,hj,e⟩:=List.mem_iff_getElem.1 hl
 rcases hp : partOk l with _ | _
 ·have hg : good j l = false:=by
   unfold good
   split
   ·simp only [partOk,Bool.or_eq_false_iff] at hp
    exact hp.1
   ·exact hp
  rw [patErr_bad (by rw [List.getElem?_eq_getElem hj,e]) hg] at h
  omega
 ·rfl
theorem pick_comp {b : Pat} (hb : allOk b) (hs : List Pat) (n : Nat) (c : List Str) : comp (pick b hs n c) = true:=by
 have h:=allOk_at hb c.length
 unfold pick
 rcases hst : isStar (pAt b c.length) with _ | _
 ·simp only [hst,Bool.false_eq_true,if_false]
  exact partOk_comp h hst
 ·simp only [hst,if_true]
  exact start_compS find_mem (partOk_star h hst)
theorem comps_comp {b : Pat} (hb : allOk b) (hs : List Pat) (n : Nat) : ∀ k,(comps b hs n k).all comp = true
 |0=>rfl
 |k + 1=>by
  rw [comps,List.all_append,comps_comp hb hs n k]
  simp [pick_comp hb]
theorem comps_at {b : Pat} {hs : List Pat} {n : Nat} : ∀ {k j : Nat},j < k → (comps b hs n k).getD j [] = pick b hs n (comps b hs n j)
 |0,j,h=>by omega
 |k + 1,j,h=>by
  rw [comps,List.getD_eq_getElem?_getD]
  by_cases e : j = k
  ·subst e
   rw [List.getElem?_append_right (by rw [comps_length];exact Nat.le_refl _),comps_length,Nat.sub_self]
   rfl
  ·rw [List.getElem?_append_left (by rw [comps_length];omega),← List.getD_eq_getElem?_getD,comps_at (by omega)]
theorem pick_mtch {b : Pat} (hs : List Pat) (n : Nat) (c : List Str) : mtch (pAt b c.length) (pick b hs n c) = true:=by
 unfold pick
 rcases hst : isStar (pAt b c.length) with _ | _
 ·simp only [hst,Bool.false_eq_true,if_false]
  unfold mtch
  rw [hst]
  simp
 ·simp only [hst,if_true]
  unfold mtch
  rw [hst]
  simp only [if_true,Bool.and_eq_true,decide_eq_true_eq,List.length_cons]
  refine ⟨?_,by omega⟩
  rw [endsWith,List.isSuffixOf_iff_suffix]
  exact List.suffix_cons _ _
theorem least_reaches {b : Pat} {hs : List Pat} (h : leastLen b hs ≠ 0) : reaches b (leastLen b hs) = true:=by
 have h1:=seek_in (b:=b) (hs:=hs) (lastLen b hs + 1 - firstLen b) (firstLen b) h
 have h2 : seek b hs (firstLen b) (lastLen b hs + 1 - firstLen b) = leastLen b hs:=rfl
 rw [h2] at h1
 generalize leastLen b hs = n at h1 ⊢
 unfold firstLen lastLen at h1
 rw [reaches]
 rcases hr : b.rest with _ | _
 ·rw [hr] at h1
  simp only [Bool.false_eq_true,if_false] at h1 ⊢
  rw [beq_iff_eq]
  omega
 ·rw [hr] at h1
  simp only [if_true] at h1 ⊢
  rw [decide_eq_true_eq]
  omega

theorem least_none {b : Pat} {hs : List Pat} (h0 : 0 < b.parts.length) (h : leastLen b hs = 0) {l : List Str} (hc : l.all comp = true) : hasL b hs l = false:=by
 rcases hm : matchL b l with _ | _
 ·rw [hasL,hm]
  rfl
 ·exact below_full h0 (matchL_true.1 hm).1 (.inl h) l rfl hc hm
/-! ### a single path as a region -/
theorem point_pAt {l : List Str} {j : Nat} (hj : j < l.length) : pAt ⟨l,false⟩ j = l.getD j []:=by
 simp [pAt,List.getD_eq_getElem?_getD,List.getElem?_eq_getElem hj]
end Go.Proofs.YthopphabeddnfaaGreatDoor.Sy
