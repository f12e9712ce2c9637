/-
  DERIVED. GIVEN WITH THE SEED: THE CARDS: each row of YtcofdlipapnohaaGreatDoorRows.lean that lists a variable, with what it lists TIED to the program's text (the seventh form; the later family's looks); each row that meets fmt, with fmt's text TOLD by the authors' own Lean function (tested against real Go, not proved from fmt's source: count such statements apart). THE CARD IS WHAT COUNTS. Prove the row's statement (the work); the ties are given (YtcofdlipapnohaaGreatDoorTie.lean); close each card by the builder's one call (the guide's Derived/Test/ToyasCard.lean, 'card_holds'). Laid BY PROGRAM, IN A SANDBOX (cutbox-door.mjs). By AI agents, Wed Nov 11 2026. No macro, syntax, notation, axiom, sorry.
-/
import Derived.Test.YtcofdlipapnohaaGreatDoorRows
import GoSem.ClaimSeven
namespace Go.Proofs.YtcofdlipapnohaaGreatDoor
namespace Rows

/-- THE TIED CARD OF 'stockyardtop.TopShelves'. -/
def topShelvesCard : Claim7 := { stood := { row := topShelvesRow, standIns := [], harness := (true, "aa5e25ca465d138f402a4860e4561883a8a2f26926d3ef8c8f19f1ffdeb4d470"), looks := false }, kinds := [], alts := [], laidByText := true, laidKinds := [.data, .pinned], laidTests := true, laidLooks := .later }
def TopShelvesCardSaid : Prop := Claim7.holds Tryz.pinned (.plain (OpenSpec.ofChange topShelvesSpec)) topShelvesCard

/-- THE SECOND FORM's CARD OF 'stockyardtop.TopShelves'. -/
def topShelvesUptoCard : Claim7 := { stood := { row := topShelvesUptoRow, standIns := [], harness := (true, "aa5e25ca465d138f402a4860e4561883a8a2f26926d3ef8c8f19f1ffdeb4d470"), looks := false }, kinds := [], alts := [], laidByText := true, laidKinds := [.data, .pinned], laidTests := true, laidLooks := .later }
def TopShelvesUptoCardSaid : Prop := Claim7.holds Tryz.pinned (.plain (OpenSpec.upto topShelvesSpec)) topShelvesUptoCard
end Rows
end Go.Proofs.YtcofdlipapnohaaGreatDoor
