/- Restrict: what its loop has collected, step by step. -/
import Derived.Test.YtnlnclefedohkaaGreatDoorZOutM
import Derived.Test.YtnlnclefedohkaaGreatDoorZRightW
set_option linter.unusedVariables false
set_option linter.unusedSimpArgs false
namespace Go.Proofs.YtnlnclefedohkaaGreatDoor
open Go Go.RowKit Sy

end Go.Proofs.YtnlnclefedohkaaGreatDoor
