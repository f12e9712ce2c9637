/- The domain of a mapping; the overlap of two. No program in sight. -/
import Derived.Test.YthopphabeddnfaaGreatDoorZMapR
set_option linter.unusedVariables false
set_option linter.unusedSimpArgs false
namespace Go.Proofs.YthopphabeddnfaaGreatDoor.Sy

end Go.Proofs.YthopphabeddnfaaGreatDoor.Sy
set_option linter.unusedVariables false
set_option linter.unusedSimpArgs false
namespace Go.Proofs.YthopphabeddnfaaGreatDoor.Sy

theorem clashE_comm (x y : Ent) : clashE x y = clashE y x:=by
 unfold clashE
 rw [commonG_comm x.reg y.reg,commonG_comm (rG x) (rG y)]
theorem Mapping.or {m : List Ent} (h : Mapping m) {x y : Ent} (hx : x ∈ m) (hy : y ∈ m) : x = y ∨ clashE x y = false:=by
 obtain ⟨i,hi,ex⟩:=List.mem_iff_getElem.1 hx
 obtain ⟨j,hj,ey⟩:=List.mem_iff_getElem.1 hy
 have e1 : m[i]? = some x:=by rw [List.getElem?_eq_getElem hi,ex]
 have e2 : m[j]? = some y:=by rw [List.getElem?_eq_getElem hj,ey]
 rcases Nat.lt_trichotomy i j with hlt | heq | hgt
 ·rw [clashE_comm]
  exact .inr (h.apart j i y x e2 e1 hlt)
 ·subst heq
  rw [e1] at e2
  exact .inl (Option.some.inj e2)
 ·exact .inr (h.apart i j x y e1 e2 hgt)
theorem hasG_left {x : Ent} {l : List Str} (h : hasG x.reg l = true) : matchL x.left l = true:=by
 unfold hasG hasL at h
 rw [Bool.and_eq_true] at h
 exact h.1
end Go.Proofs.YthopphabeddnfaaGreatDoor.Sy
set_option linter.unusedVariables false
set_option linter.unusedSimpArgs false
namespace Go.Proofs.YthopphabeddnfaaGreatDoor.Sy

end Go.Proofs.YthopphabeddnfaaGreatDoor.Sy
