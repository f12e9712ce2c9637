/- A mapping restricted to a region. No program in sight. -/
import Derived.Test.YtmfjppaeddbdaaaGreatDoorZMapL
set_option linter.unusedVariables false
set_option linter.unusedSimpArgs false
namespace Go.Proofs.YtmfjppaeddbdaaaGreatDoor.Sy

end Go.Proofs.YtmfjppaeddbdaaaGreatDoor.Sy
set_option linter.unusedVariables false
set_option linter.unusedSimpArgs false
namespace Go.Proofs.YtmfjppaeddbdaaaGreatDoor.Sy

end Go.Proofs.YtmfjppaeddbdaaaGreatDoor.Sy
set_option linter.unusedVariables false
set_option linter.unusedSimpArgs false
namespace Go.Proofs.YtmfjppaeddbdaaaGreatDoor.Sy
def fwdM (m : List Ent) (s : Str) : Option Str := match pathOf s with
  | none => none
  | some l => (m.find? fun x => hasG x.reg l).map fun x => pathStr (trL x.left x.right l)
def hasR' (r : List Str) (x : Ent) : Bool := matchL x.right r && hasG x.reg (trL x.right x.left r)
def bwdM (m : List Ent) (s : Str) : Option Str := match pathOf s with
  | none => none
  | some r => (m.find? (hasR' r)).map fun x => pathStr (trL x.right x.left r)
def invOf (x : Ent) : Option Ent := match rightG x with
  | none => none
  | some g => if leastLen x.right (redL x.right g.hs) = 0 then none else some ⟨x.right, x.left, redL x.right g.hs⟩
def invE (m : List Ent) : List Ent × Int := if (mapE m).2 ≠ 0 then ([], (mapE m).2) else (m.filterMap invOf, 0)

end Go.Proofs.YtmfjppaeddbdaaaGreatDoor.Sy
set_option linter.unusedVariables false
set_option linter.unusedSimpArgs false
namespace Go.Proofs.YtmfjppaeddbdaaaGreatDoor.Sy

end Go.Proofs.YtmfjppaeddbdaaaGreatDoor.Sy
set_option linter.unusedVariables false
set_option linter.unusedSimpArgs false
namespace Go.Proofs.YtmfjppaeddbdaaaGreatDoor.Sy
def putH (n : Rule) (hs : List Pat) : Option (Option Ent) :=
  if 64 < (redL n.left hs).length then none else if leastLen n.left (redL n.left hs) = 0 then some none else some (some ⟨n.left, n.right, redL n.left hs⟩)
end Go.Proofs.YtmfjppaeddbdaaaGreatDoor.Sy
