/- What the form asks of the whole program, each fact by itself: in one theorem they pass the memory that a compile has. -/
import Derived.Test.YtdcdabbepnahnaaGreatDoorCards
import Derived.Test.YtdcdabbepnahnaaGreatDoorTie
import Derived.WalkKit
import Derived.ProofKit
import Derived.OpenShut
import Derived.Deep.DeepHandedRow
set_option linter.unusedVariables false
set_option linter.unusedSimpArgs false
namespace Go.Proofs.YtdcdabbepnahnaaGreatDoor
open Go.ChangeShapes Go.WideShapes Go.ChangeAt Go.RowKit

theorem fact_and {a b : Bool} (ha : a = true) (hb : b = true) : (a && b) = true:=by rw [ha,hb];rfl
theorem fact1 : (laidOutB Tryz.pinned.checked.prog) = true:=by kernel_rfl
theorem fact2 : (mapsRowed Tryz.pinned.checked.prog) = true:=by kernel_rfl
theorem fact6 : ((Tryz.pinned.checked.prog.stops == [])) = true:=by kernel_rfl
theorem fact8 : ((Tryz.pinned.checked.prog.stopKnobs == [])) = true:=by kernel_rfl
theorem fact22 : ((Rows.streamViewMeansUptoRow.plainKeys == Tryz.pinned.checked.prog.plainKeys)) = true:=by kernel_rfl
theorem fact24 : (Tryz.pinned.checked.prog.stopsHeard) = true:=by kernel_rfl
theorem fact25 : (Tryz.pinned.checked.prog.mayEnter) = true:=by kernel_rfl
theorem fact26 : ((Rows.streamViewMeansUptoRow.lifted == Tryz.pinned.checked.prog.liftsFinal)) = true:=by kernel_rfl
theorem fact27 : ((Tryz.pinned.checked.prog.make == some Rows.streamViewMeansUptoRow.make)) = true:=by kernel_rfl
theorem factLooks : false = Tryz.pinned.checked.prog.looks []:=by kernel_rfl
end Go.Proofs.YtdcdabbepnahnaaGreatDoor
