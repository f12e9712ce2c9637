/-
  DERIVED. GIVEN WITH THE SEED: THE CARDS: each row of YthopphabeddnfaaGreatDoorRows.lean that lists a variable, with what it lists TIED to the program's text (the seventh form; the later family's looks); each row that meets fmt, with fmt's text TOLD by the authors' own Lean function (tested against real Go, not proved from fmt's source: count such statements apart). THE CARD IS WHAT COUNTS. Prove the row's statement (the work); the ties are given (YthopphabeddnfaaGreatDoorTie.lean); close each card by the builder's one call (the guide's Derived/Test/ToyasCard.lean, 'card_holds'). Laid BY PROGRAM, IN A SANDBOX (cutbox-door.mjs). By AI agents, Wed Nov 11 2026. No macro, syntax, notation, axiom, sorry.
-/
import Derived.Test.YthopphabeddnfaaGreatDoorRows
import GoSem.ClaimSeven
namespace Go.Proofs.YthopphabeddnfaaGreatDoor
namespace Rows

/-- THE TIED CARD OF 'stockyardlaw07.MappingOfView'. -/
def mappingOfViewCard : Claim7 := { stood := { row := mappingOfViewRow, standIns := [], harness := (true, "d198dafd097230f47387841df8cafff85c1be8707f435c96dd2a1161a9be84c1"), looks := false }, kinds := [], alts := [], laidByText := true, laidKinds := [.data, .pinned], laidTests := true, laidLooks := .later }
def MappingOfViewCardSaid : Prop := Claim7.holds Tryz.pinned (.plain (OpenSpec.ofChange mappingOfViewSpec)) mappingOfViewCard

/-- THE SECOND FORM's CARD OF 'stockyardlaw07.MappingOfView'. -/
def mappingOfViewUptoCard : Claim7 := { stood := { row := mappingOfViewUptoRow, standIns := [], harness := (true, "d198dafd097230f47387841df8cafff85c1be8707f435c96dd2a1161a9be84c1"), looks := false }, kinds := [], alts := [], laidByText := true, laidKinds := [.data, .pinned], laidTests := true, laidLooks := .later }
def MappingOfViewUptoCardSaid : Prop := Claim7.holds Tryz.pinned (.plain (OpenSpec.upto mappingOfViewSpec)) mappingOfViewUptoCard
end Rows
end Go.Proofs.YthopphabeddnfaaGreatDoor
