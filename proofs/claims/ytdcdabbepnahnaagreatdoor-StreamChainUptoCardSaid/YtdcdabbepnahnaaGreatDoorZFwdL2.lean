/- The length of what a line says. -/
import Derived.Test.YtdcdabbepnahnaaGreatDoorZFwdP
set_option linter.unusedVariables false
set_option linter.unusedSimpArgs false
namespace Go.Proofs.YtdcdabbepnahnaaGreatDoor
open Go Go.RowKit Sy

theorem join_app_len (K : Nat) (b : List Str) : ∀ a : List Str,(∀ x ∈ a,x.length ≤ K) → (Lib.join (a ++ b) [47]).length ≤ a.length * (K + 1) + (Lib.join b [47]).length
 |[],_=>by simp
 |x :: a,h=>by
  have ih:=join_app_len K b a (fun y hy=>h y (by simp [hy]))
  have hx:=h x (by simp)
  rw [List.cons_append,List.length_cons,Nat.succ_mul]
  rcases hab : a ++ b with _ | ⟨y,t⟩
  ·rw [join47_one]
   omega
  ·rw [join47_cons,← hab]
   simp only [List.length_append,List.length_cons]
   omega
theorem fwd_len {r : Rule} {s t : Str} (hsm : SmallV r) (hs : s.length ≤ 300) (h : fwd r s = some t) : t.length ≤ 8000:=by
 obtain ⟨l,h0,hp,hm,ht,_⟩:=fwd_some h
 have tw:=ruleErr_twin.1 h0
 have h12:=patErr_len tw.rp
 obtain ⟨h2,h3,h4⟩:=pathOf_some hp
 have hjl : (Lib.join l [47]).length ≤ 300:=by
  rw [h4] at hs
  simp only [pathStr,List.length_cons] at hs
  omega
 have hea : ∀ x ∈ l,x.length ≤ 300:=by
  have hh : l = slash (Lib.join l [47]):=(slash_join l (by rintro rfl;simp at h2) (fun x hx=>comp_no47 (List.all_eq_true.1 h3 x hx))).symm
  intro x hx
  rw [hh] at hx
  have:=slash_each _ x hx
  omega
 have hcs:=capsTo_each (p:=r.left) hea r.left.parts.length
 have hK : ∀ x ∈ fillR r.right.parts (capsTo r.left l r.left.parts.length),x.length ≤ 550:=by
  intro y hy
  obtain ⟨j,hj,e⟩:=List.mem_iff_getElem.1 hy
  have hjl : j < r.right.parts.length:=by rw [fillR_len] at hj;exact hj
  have h1:=fillR_get r.right.parts (capsTo r.left l r.left.parts.length) j _ (List.getElem?_eq_getElem hjl)
  rw [List.getElem?_eq_getElem hj,e] at h1
  simp only [Option.some.injEq] at h1
  have h2:=hsm.rs _ (List.getElem_mem hjl)
  rw [h1]
  split
  ·rw [List.length_append,List.length_tail]
   have h3 : ((capsTo r.left l r.left.parts.length).getD ((r.right.parts.take j).filter isStar).length []).length ≤ 300:=by
    rw [List.getD_eq_getElem?_getD]
    rcases e : (capsTo r.left l r.left.parts.length)[((r.right.parts.take j).filter isStar).length]? with _ | y
    ·simp
    ·exact hcs y (List.mem_of_getElem? e)
   omega
  ·omega
 have hfl:=fillR_len r.right.parts (capsTo r.left l r.left.parts.length)
 have hrest : (Lib.join (if r.right.rest then l.drop r.left.parts.length else []) [47]).length ≤ 300:=by
  split
  ·have:=join_drop_le r.left.parts.length l
   omega
  ·simp [Lib.join,List.intercalate]
 have hj:=join_app_len 550 (if r.right.rest then l.drop r.left.parts.length else []) _ hK
 rw [ht,pathStr,trL]
 simp only [List.length_cons]
 rw [hfl] at hj
 have : r.right.parts.length * (550 + 1) ≤ 12 * 551:=Nat.mul_le_mul h12 (Nat.le_refl _)
 omega

end Go.Proofs.YtdcdabbepnahnaaGreatDoor
