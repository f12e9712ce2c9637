/- A mapping restricted to a region. No program in sight. -/
import Derived.Test.YthopphabeddnfaaGreatDoorZMapV
set_option linter.unusedVariables false
set_option linter.unusedSimpArgs false
namespace Go.Proofs.YthopphabeddnfaaGreatDoor.Sy
def putH (n : Rule) (hs : List Pat) : Option (Option Ent):=
 if 64 < (redL n.left hs).length then none else if leastLen n.left (redL n.left hs) = 0 then some none else some (some ⟨n.left,n.right,redL n.left hs⟩)
theorem mapE_or {es : List Ent} (h : ∀ x ∈ es,ruleErr x.rule = 0 ∧ gErr x.reg = 0) (hc : (∀ x ∈ es,∃ g,rightG x = some g) → es.Pairwise fun y x=>clashE x y = false) : (mapE es).2 = 0 ∨ (mapE es).2 = 72:=by
 unfold mapE
 rcases h1 : es.findIdx? (fun x=>!entryOk x) with _ | i
 ·simp only
  by_cases h2 : 32 < es.length
  ·rw [if_pos h2];exact .inr rfl
  ·rw [if_neg h2]
   by_cases h3 : es.any (fun x=>(rightG x).isNone) = true
   ·rw [if_pos h3];exact .inr rfl
   ·rw [if_neg h3]
    have hr : ∀ x ∈ es,∃ g,rightG x = some g:=fun x hx=>by
     rw [Bool.not_eq_true,List.any_eq_false] at h3
     have:=h3 x hx
     rcases h5 : rightG x with _ | g
     ·rw [h5] at this
      simp at this
     ·exact ⟨g,rfl⟩
    have ha:=apart_of (hc hr)
    rcases h4 : (List.range es.length).find? (clashAt es) with _ | i
    ·exact .inl rfl
    ·exfalso
     have h5:=List.find?_some h4
     have h6:=List.mem_range.1 (List.mem_of_find?_eq_some h4)
     unfold clashAt at h5
     obtain ⟨j,hj,h7⟩:=List.any_eq_true.1 h5
     have hji:=List.mem_range.1 hj
     have e1:=List.getElem?_eq_getElem h6
     have e2:=List.getElem?_eq_getElem (l:=es) (i:=j) (by omega)
     rw [getD_of e1,getD_of e2,ha i j _ _ e1 e2 hji] at h7
     cases h7
 ·exfalso
  have h2:=(List.findIdx?_eq_some_iff_getElem.1 h1).2.1
  have:=entryOk_iff.2 (h _ (List.getElem_mem (List.findIdx?_eq_some_iff_getElem.1 h1).1))
  rw [this] at h2
  simp at h2

end Go.Proofs.YthopphabeddnfaaGreatDoor.Sy
