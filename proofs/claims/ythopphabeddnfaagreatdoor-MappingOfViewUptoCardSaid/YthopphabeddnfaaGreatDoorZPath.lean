/- Paths: a text and its components; which patterns match them. No program in sight. -/
import Derived.Lib.SplitLaws
import Derived.Lib.Split
import Derived.Lib.Join
import Derived.Test.YthopphabeddnfaaGreatDoorZPlain
set_option linter.unusedVariables false
set_option linter.unusedSimpArgs false
namespace Go.Proofs.YthopphabeddnfaaGreatDoor.Sy
def slash : Str → List Str
 |[]=>[[]]
 |c :: s=>if c = 47 then [] :: slash s else match slash s with
  |[]=>[[c]]
  |p :: ps=>(c :: p) :: ps

theorem slash_ne : ∀ s,slash s ≠ []
 |[]=>by simp [slash]
 |c :: s=>by
  unfold slash
  split
  ·simp
  ·split <;> simp
theorem slash_cons (c : UInt8) (s : Str) (h : c ≠ 47) : ∃ p ps,slash s = p :: ps ∧ slash (c :: s) = (c :: p) :: ps:=by
 rcases hs : slash s with _ | ⟨p,ps⟩
 ·exact absurd hs (slash_ne s)
 ·exact ⟨p,ps,rfl,by rw [slash,if_neg h,hs]⟩
theorem slash_len : ∀ s,(slash s).length ≤ s.length + 1
 |[]=>by simp [slash]
 |c :: s=>by
  by_cases h : c = 47
  ·rw [slash,if_pos h]
   have:=slash_len s
   simp only [List.length_cons]
   omega
  ·obtain ⟨p,ps,h1,h2⟩:=slash_cons c s h
   have:=slash_len s
   rw [h1] at this
   rw [h2]
   simp only [List.length_cons] at this ⊢
   omega
theorem slash_each : ∀ s,∀ l ∈ slash s,l.length ≤ s.length
 |[],l,h=>by
  simp [slash] at h
  simp [h]
 |c :: s,l,h=>by
  by_cases hc : c = 47
  ·rw [slash,if_pos hc] at h
   rcases List.mem_cons.1 h with rfl | h
   ·simp
   ·have:=slash_each s l h
    simp only [List.length_cons]
    omega
  ·obtain ⟨p,ps,h1,h2⟩:=slash_cons c s hc
   rw [h2] at h
   rcases List.mem_cons.1 h with rfl | h
   ·have:=slash_each s p (by rw [h1];simp)
    simp only [List.length_cons]
    omega
   ·have:=slash_each s l (by rw [h1];simp [h])
    simp only [List.length_cons]
    omega
theorem slash_no : ∀ s : Str,(47 : UInt8) ∉ s → slash s = [s]
 |[],_=>rfl
 |c :: s,h=>by
  have hc : c ≠ 47:=fun e=>h (by simp [e])
  have ih:=slash_no s (fun hm=>h (by simp [hm]))
  rw [slash,if_neg hc,ih]
theorem slash_app : ∀ (a r : Str),(47 : UInt8) ∉ a → slash (a ++ 47 :: r) = a :: slash r
 |[],r,_=>by rw [List.nil_append,slash,if_pos rfl]
 |c :: a,r,h=>by
  have hc : c ≠ 47:=fun e=>h (by simp [e])
  have ih:=slash_app a r (fun hm=>h (by simp [hm]))
  rw [List.cons_append,slash,if_neg hc,ih]

theorem join47_one (x : Str) : Lib.join [x] [47] = x:=Lib.join_one x [47]
theorem join47_cons (x y : Str) (r : List Str) : Lib.join (x :: y :: r) [47] = x ++ 47 :: Lib.join (y :: r) [47]:=by
 simp [Lib.join,List.intercalate]

theorem join_slash : ∀ s : Str,Lib.join (slash s) [47] = s
 |[]=>by simp [slash,join47_one]
 |c :: s=>by
  have ih:=join_slash s
  by_cases hc : c = 47
  ·rw [slash,if_pos hc]
   rcases hs : slash s with _ | ⟨p,ps⟩
   ·exact absurd hs (slash_ne s)
   ·rw [join47_cons,← hs,ih,hc]
    rfl
  ·obtain ⟨p,ps,h1,h2⟩:=slash_cons c s hc
   rw [h2]
   rw [h1] at ih
   cases ps with
   |nil=>
    rw [join47_one] at ih ⊢
    rw [ih]
   |cons q qs=>
    rw [join47_cons] at ih ⊢
    rw [← ih]
    rfl
theorem slash_join : ∀ ls : List Str,ls ≠ [] → (∀ l ∈ ls,(47 : UInt8) ∉ l) → slash (Lib.join ls [47]) = ls
 |[],h,_=>absurd rfl h
 |[a],_,h=>by rw [join47_one,slash_no a (h a (by simp))]
 |a :: b :: t,_,h=>by
  rw [join47_cons,slash_app _ _ (h a (by simp)),slash_join (b :: t) (by simp) (fun l hl=>h l (by simp [hl]))]

theorem splitK_slash : ∀ s : Str,Lib.splitK [47] 0 (Lib.count s [47]) s = slash s
 |[]=>by rw [Lib.count_one];rfl
 |c :: s=>by
  have ih:=splitK_slash s
  by_cases hc : c = 47
  ·subst hc
   have hi : Lib.index (47 :: s) [47] = 0:=by simp [Lib.index]
   rw [Lib.count_cons_eq,Nat.add_comm,Lib.splitK,hi,if_neg (by decide),slash,if_pos rfl]
   simp only [Int.toNat_zero,Nat.zero_add,List.take_zero,List.length_cons,List.length_nil,List.drop_succ_cons,List.drop_zero]
   rw [ih]
  ·obtain ⟨p,ps,h1,h2⟩:=slash_cons c s hc
   rw [Lib.count_cons_ne _ _ _ hc,h2]
   rw [h1] at ih
   have hpre : ([47] : List UInt8).isPrefixOf (c :: s) = false:=by
    simp [List.isPrefixOf,Ne.symm hc]
   rcases hk : Lib.count s [47] with _ | k
   ·rw [hk] at ih
    simp only [Lib.splitK,List.cons.injEq] at ih ⊢
    obtain ⟨rfl,rfl⟩:=ih
    simp
   ·rw [hk] at ih
    rw [Lib.splitK] at ih ⊢
    have hci : Lib.index (c :: s) [47] = if Lib.index s [47] == -1 then -1 else Lib.index s [47] + 1:=by
     rw [Lib.index,hpre]
     rfl
    rcases hx : (Lib.index s [47] == -1) with _ | _
    ·rw [hx] at hci ih
     have hge:=Lib.index_ge s [47]
     have hne : Lib.index s [47] ≠ -1:=by
      intro e
      rw [e] at hx
      exact absurd hx (by decide)
     obtain ⟨i,hi⟩ : ∃ i : Nat,Lib.index s [47] = i:=⟨(Lib.index s [47]).toNat,by omega⟩
     rw [hi] at ih hci
     simp only [Bool.false_eq_true,if_false] at hci ih
     rw [hci]
     have hb : ((i : Int) + 1 == -1) = false:=by
      rw [beq_eq_false_iff_ne]
      omega
     have e1 : ((i : Int) + 1).toNat = i + 1:=by omega
     have e2 : ((i : Int)).toNat = i:=by omega
     rw [hb,if_neg (by simp),e1]
     rw [e2] at ih
     simp only [Nat.add_zero,List.length_cons,List.length_nil,Nat.zero_add,List.cons.injEq] at ih
     obtain ⟨ih1,ih2⟩:=ih
     simp only [Nat.add_zero,List.length_cons,List.length_nil,Nat.zero_add,List.cons.injEq,List.take_succ_cons,List.drop_succ_cons]
     exact ⟨⟨trivial,ih1⟩,ih2⟩
    ·rw [hx] at hci ih
     simp only [if_true] at hci ih
     rw [hci]
     simp only [beq_self_eq_true,if_true]
     simp only [List.cons.injEq] at ih
     obtain ⟨rfl,rfl⟩:=ih
     rfl
def pathParts (p : Str) : Option (List Str):=if p.take 2 = [47,47] ∧ (slash (p.drop 2)).all comp = true then some (slash (p.drop 2)) else none
def pathOf (p : Str) : Option (List Str):=match pathParts p with
 |some l=>if 2 ≤ l.length then some l else none
 |none=>none
def pathStr (l : List Str) : Str:=47 :: 47 :: Lib.join l [47]

theorem comp_no47 {l : Str} (h : comp l = true) : (47 : UInt8) ∉ l:=by
 cases l with
 |nil=>cases h
 |cons c s=>
  simp only [comp,Bool.and_eq_true,List.all_eq_true] at h
  intro hm
  rcases List.mem_cons.1 hm with e | hm
  ·rw [← e] at h
   exact absurd h.1.2 (by decide)
  ·exact absurd (h.2 47 hm) (by decide)
theorem comp_ne {l : Str} (h : comp l = true) : l ≠ []:=by
 rintro rfl
 cases h
theorem comp_noStar {l : Str} (h : comp l = true) : isStar l = false:=by
 cases l with
 |nil=>cases h
 |cons c s=>
  simp only [comp,Bool.and_eq_true] at h
  rcases hc : isStar (c :: s) with _ | _
  ·rfl
  ·have e : c = 42:=by simpa [isStar] using hc
   subst e
   exact absurd h.1.2 (by decide)

theorem pathParts_some {p : Str} {l : List Str} (h : pathParts p = some l) : l ≠ [] ∧ l.all comp = true ∧ p = pathStr l:=by
 unfold pathParts at h
 split at h
 ·rename_i hc
  simp only [Option.some.injEq] at h
  subst h
  refine ⟨slash_ne _,hc.2,?_⟩
  rw [pathStr,join_slash]
  have:=List.take_append_drop 2 p
  rw [hc.1] at this
  exact this.symm
 ·cases h
theorem pathParts_str {l : List Str} (h0 : l ≠ []) (hc : l.all comp = true) : pathParts (pathStr l) = some l:=by
 have hs : slash ((pathStr l).drop 2) = l:=by
  show slash (Lib.join l [47]) = l
  exact slash_join l h0 (fun x hx=>comp_no47 (List.all_eq_true.1 hc x hx))
 unfold pathParts
 rw [hs,if_pos ⟨rfl,hc⟩]
theorem pathOf_some {p : Str} {l : List Str} (h : pathOf p = some l) : 2 ≤ l.length ∧ l.all comp = true ∧ p = pathStr l:=by
 unfold pathOf at h
 split at h
 ·rename_i l' hl
  split at h
  ·simp only [Option.some.injEq] at h
   subst h
   obtain ⟨_,h2,h3⟩:=pathParts_some hl
   exact ⟨‹_›,h2,h3⟩
  ·cases h
 ·cases h
theorem pathOf_str {l : List Str} (h2 : 2 ≤ l.length) (hc : l.all comp = true) : pathOf (pathStr l) = some l:=by
 have h0 : l ≠ []:=by
  rintro rfl
  simp at h2
 rw [pathOf,pathParts_str h0 hc]
 simp [h2]
def matchL (p : Pat) (l : List Str) : Bool:=reaches p l.length && (List.range p.parts.length).all fun j=>mtch (pAt p j) (l.getD j [])
def matchS (p : Pat) (s : Str) : Bool:=match pathOf s with
 |some l=>okPat p && matchL p l
 |none=>false
def cap1 (part c : Str) : Str:=c.take (c.length - part.tail.length)
def capsTo (p : Pat) (l : List Str) (k : Nat) : List Str:=(List.range k).flatMap fun j=>if isStar (pAt p j) then [cap1 (pAt p j) (l.getD j [])] else []
def caps (p : Pat) (l : List Str) : List Str:=capsTo p l p.parts.length ++ (if p.rest then [Lib.join (l.drop p.parts.length) [47]] else [])
def capsS (p : Pat) (s : Str) : List Str:=match pathOf s with
 |some l=>if okPat p && matchL p l then caps p l else []
 |none=>[]
theorem capsTo_succ (p : Pat) (l : List Str) (k : Nat) : capsTo p l (k + 1) = capsTo p l k ++ (if isStar (pAt p k) then [cap1 (pAt p k) (l.getD k [])] else []):=by
 simp [capsTo,List.range_succ]
def matchTo (p : Pat) (l : List Str) (k : Nat) : Bool:=(List.range k).all fun j=>mtch (pAt p j) (l.getD j [])
theorem matchTo_succ (p : Pat) (l : List Str) (k : Nat) : matchTo p l (k + 1) = (matchTo p l k && mtch (pAt p k) (l.getD k [])):=by
 simp [matchTo,List.range_succ]
theorem matchTo_stop {p : Pat} {l : List Str} {k n : Nat} (hk : k < n) (h : mtch (pAt p k) (l.getD k []) = false) : matchTo p l n = false:=by
 rw [matchTo,List.all_eq_false]
 exact ⟨k,by simpa using hk,by simp only [h];simp⟩
theorem matchL_eq (p : Pat) (l : List Str) : matchL p l = (reaches p l.length && matchTo p l p.parts.length):=rfl
theorem capsTo_length (p : Pat) (l : List Str) : ∀ k,(capsTo p l k).length ≤ k
 |0=>by simp [capsTo]
 |k + 1=>by
  have:=capsTo_length p l k
  rw [capsTo_succ,List.length_append]
  split <;> simp <;> omega
theorem capsTo_each {p : Pat} {l : List Str} {B : Nat} (h : ∀ x ∈ l,x.length ≤ B) : ∀ k,∀ x ∈ capsTo p l k,x.length ≤ B
 |0,x,hx=>by simp [capsTo] at hx
 |k + 1,x,hx=>by
  rw [capsTo_succ,List.mem_append] at hx
  rcases hx with hx | hx
  ·exact capsTo_each h k x hx
  ·split at hx
   ·rw [List.mem_singleton.1 hx]
    have h1 : (l.getD k []).length ≤ B:=by
     rw [List.getD_eq_getElem?_getD]
     rcases e : l[k]? with _ | y
     ·simp
     ·exact h y (List.mem_of_getElem? e)
    simp only [cap1,List.length_take]
    omega
   ·cases hx
def hasL (b : Pat) (hs : List Pat) (l : List Str) : Bool:=matchL b l && !(hs.any fun h=>matchL h l)
def hasR (b : Pat) (hs : List Pat) (s : Str) : Bool:=match pathOf s with
 |some l=>hasL b hs l
 |none=>false
end Go.Proofs.YthopphabeddnfaaGreatDoor.Sy
