/-
  DERIVED. GIVEN WITH THE SEED: THE CARDS: each row of YtnlnclefedohkaaGreatDoorRows.lean that lists a variable, with what it lists TIED to the program's text (the seventh form; the later family's looks); each row that meets fmt, with fmt's text TOLD by the authors' own Lean function (tested against real Go, not proved from fmt's source: count such statements apart). THE CARD IS WHAT COUNTS. Prove the row's statement (the work); the ties are given (YtnlnclefedohkaaGreatDoorTie.lean); close each card by the builder's one call (the guide's Derived/Test/ToyasCard.lean, 'card_holds'). Laid BY PROGRAM, IN A SANDBOX (cutbox-door.mjs). By AI agents, Wed Nov 11 2026. No macro, syntax, notation, axiom, sorry.
-/
import Derived.Test.YtnlnclefedohkaaGreatDoorRows
import GoSem.ClaimSeven
namespace Go.Proofs.YtnlnclefedohkaaGreatDoor
namespace Rows

/-- THE TIED CARD OF 'stockyardlaw07.MappingComposes'. -/
def mappingComposesCard : Claim7 := { stood := { row := mappingComposesRow, standIns := [], harness := (true, "55d379e85e1222feade2c489c645191426a209581ce73c69e6eb4d96eaf5fd7c"), looks := false }, kinds := [], alts := [], laidByText := true, laidKinds := [.data, .pinned], laidTests := true, laidLooks := .later }
def MappingComposesCardSaid : Prop := Claim7.holds Tryz.pinned (.plain (OpenSpec.ofChange mappingComposesSpec)) mappingComposesCard

/-- THE TIED CARD OF 'stockyardlaw07.MappingOverlaps'. -/
def mappingOverlapsCard : Claim7 := { stood := { row := mappingOverlapsRow, standIns := [], harness := (true, "55d379e85e1222feade2c489c645191426a209581ce73c69e6eb4d96eaf5fd7c"), looks := false }, kinds := [], alts := [], laidByText := true, laidKinds := [.data, .pinned], laidTests := true, laidLooks := .later }
def MappingOverlapsCardSaid : Prop := Claim7.holds Tryz.pinned (.plain (OpenSpec.ofChange mappingOverlapsSpec)) mappingOverlapsCard

/-- THE TIED CARD OF 'stockyardlaw07.MappingOverlapMeans'. -/
def mappingOverlapMeansCard : Claim7 := { stood := { row := mappingOverlapMeansRow, standIns := [], harness := (true, "55d379e85e1222feade2c489c645191426a209581ce73c69e6eb4d96eaf5fd7c"), looks := false }, kinds := [], alts := [], laidByText := true, laidKinds := [.data, .pinned], laidTests := true, laidLooks := .later }
def MappingOverlapMeansCardSaid : Prop := Claim7.holds Tryz.pinned (.plain (OpenSpec.ofChange mappingOverlapMeansSpec)) mappingOverlapMeansCard

/-- THE SECOND FORM's CARD OF 'stockyardlaw07.MappingComposes'. -/
def mappingComposesUptoCard : Claim7 := { stood := { row := mappingComposesUptoRow, standIns := [], harness := (true, "55d379e85e1222feade2c489c645191426a209581ce73c69e6eb4d96eaf5fd7c"), looks := false }, kinds := [], alts := [], laidByText := true, laidKinds := [.data, .pinned], laidTests := true, laidLooks := .later }
def MappingComposesUptoCardSaid : Prop := Claim7.holds Tryz.pinned (.plain (OpenSpec.upto mappingComposesSpec)) mappingComposesUptoCard

/-- THE SECOND FORM's CARD OF 'stockyardlaw07.MappingOverlaps'. -/
def mappingOverlapsUptoCard : Claim7 := { stood := { row := mappingOverlapsUptoRow, standIns := [], harness := (true, "55d379e85e1222feade2c489c645191426a209581ce73c69e6eb4d96eaf5fd7c"), looks := false }, kinds := [], alts := [], laidByText := true, laidKinds := [.data, .pinned], laidTests := true, laidLooks := .later }
def MappingOverlapsUptoCardSaid : Prop := Claim7.holds Tryz.pinned (.plain (OpenSpec.upto mappingOverlapsSpec)) mappingOverlapsUptoCard

/-- THE SECOND FORM's CARD OF 'stockyardlaw07.MappingOverlapMeans'. -/
def mappingOverlapMeansUptoCard : Claim7 := { stood := { row := mappingOverlapMeansUptoRow, standIns := [], harness := (true, "55d379e85e1222feade2c489c645191426a209581ce73c69e6eb4d96eaf5fd7c"), looks := false }, kinds := [], alts := [], laidByText := true, laidKinds := [.data, .pinned], laidTests := true, laidLooks := .later }
def MappingOverlapMeansUptoCardSaid : Prop := Claim7.holds Tryz.pinned (.plain (OpenSpec.upto mappingOverlapMeansSpec)) mappingOverlapMeansUptoCard
end Rows
end Go.Proofs.YtnlnclefedohkaaGreatDoor
