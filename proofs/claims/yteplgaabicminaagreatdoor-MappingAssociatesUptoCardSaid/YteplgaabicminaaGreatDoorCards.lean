/-
  DERIVED. GIVEN WITH THE SEED: THE CARDS: each row of YteplgaabicminaaGreatDoorRows.lean that lists a variable, with what it lists TIED to the program's text (the seventh form; the later family's looks); each row that meets fmt, with fmt's text TOLD by the authors' own Lean function (tested against real Go, not proved from fmt's source: count such statements apart). THE CARD IS WHAT COUNTS. Prove the row's statement (the work); the ties are given (YteplgaabicminaaGreatDoorTie.lean); close each card by the builder's one call (the guide's Derived/Test/ToyasCard.lean, 'card_holds'). Laid BY PROGRAM, IN A SANDBOX (cutbox-door.mjs). By AI agents, Wed Nov 11 2026. No macro, syntax, notation, axiom, sorry.
-/
import Derived.Test.YteplgaabicminaaGreatDoorRows
import GoSem.ClaimSeven
namespace Go.Proofs.YteplgaabicminaaGreatDoor
namespace Rows

/-- THE TIED CARD OF 'stockyardlaw07.MappingComposes'. -/
def mappingComposesCard : Claim7 := { stood := { row := mappingComposesRow, standIns := [], harness := (true, "57207d24d7bca17a346fa77d2c31fe4ce793f877e18560a57ce28b0e7bbc17b5"), looks := false }, kinds := [], alts := [], laidByText := true, laidKinds := [.data, .pinned], laidTests := true, laidLooks := .later }
def MappingComposesCardSaid : Prop := Claim7.holds Tryz.pinned (.plain (OpenSpec.ofChange mappingComposesSpec)) mappingComposesCard

/-- THE TIED CARD OF 'stockyardlaw07.MappingComposeMeans'. -/
def mappingComposeMeansCard : Claim7 := { stood := { row := mappingComposeMeansRow, standIns := [], harness := (true, "57207d24d7bca17a346fa77d2c31fe4ce793f877e18560a57ce28b0e7bbc17b5"), looks := false }, kinds := [], alts := [], laidByText := true, laidKinds := [.data, .pinned], laidTests := true, laidLooks := .later }
def MappingComposeMeansCardSaid : Prop := Claim7.holds Tryz.pinned (.plain (OpenSpec.ofChange mappingComposeMeansSpec)) mappingComposeMeansCard

/-- THE TIED CARD OF 'stockyardlaw07.MappingOpposite'. -/
def mappingOppositeCard : Claim7 := { stood := { row := mappingOppositeRow, standIns := [], harness := (true, "57207d24d7bca17a346fa77d2c31fe4ce793f877e18560a57ce28b0e7bbc17b5"), looks := false }, kinds := [], alts := [], laidByText := true, laidKinds := [.data, .pinned], laidTests := true, laidLooks := .later }
def MappingOppositeCardSaid : Prop := Claim7.holds Tryz.pinned (.plain (OpenSpec.ofChange mappingOppositeSpec)) mappingOppositeCard

/-- THE TIED CARD OF 'stockyardlaw07.MappingAssociates'. -/
def mappingAssociatesCard : Claim7 := { stood := { row := mappingAssociatesRow, standIns := [], harness := (true, "57207d24d7bca17a346fa77d2c31fe4ce793f877e18560a57ce28b0e7bbc17b5"), looks := false }, kinds := [], alts := [], laidByText := true, laidKinds := [.data, .pinned], laidTests := true, laidLooks := .later }
def MappingAssociatesCardSaid : Prop := Claim7.holds Tryz.pinned (.plain (OpenSpec.ofChange mappingAssociatesSpec)) mappingAssociatesCard

/-- THE SECOND FORM's CARD OF 'stockyardlaw07.MappingComposes'. -/
def mappingComposesUptoCard : Claim7 := { stood := { row := mappingComposesUptoRow, standIns := [], harness := (true, "57207d24d7bca17a346fa77d2c31fe4ce793f877e18560a57ce28b0e7bbc17b5"), looks := false }, kinds := [], alts := [], laidByText := true, laidKinds := [.data, .pinned], laidTests := true, laidLooks := .later }
def MappingComposesUptoCardSaid : Prop := Claim7.holds Tryz.pinned (.plain (OpenSpec.upto mappingComposesSpec)) mappingComposesUptoCard

/-- THE SECOND FORM's CARD OF 'stockyardlaw07.MappingComposeMeans'. -/
def mappingComposeMeansUptoCard : Claim7 := { stood := { row := mappingComposeMeansUptoRow, standIns := [], harness := (true, "57207d24d7bca17a346fa77d2c31fe4ce793f877e18560a57ce28b0e7bbc17b5"), looks := false }, kinds := [], alts := [], laidByText := true, laidKinds := [.data, .pinned], laidTests := true, laidLooks := .later }
def MappingComposeMeansUptoCardSaid : Prop := Claim7.holds Tryz.pinned (.plain (OpenSpec.upto mappingComposeMeansSpec)) mappingComposeMeansUptoCard

/-- THE SECOND FORM's CARD OF 'stockyardlaw07.MappingOpposite'. -/
def mappingOppositeUptoCard : Claim7 := { stood := { row := mappingOppositeUptoRow, standIns := [], harness := (true, "57207d24d7bca17a346fa77d2c31fe4ce793f877e18560a57ce28b0e7bbc17b5"), looks := false }, kinds := [], alts := [], laidByText := true, laidKinds := [.data, .pinned], laidTests := true, laidLooks := .later }
def MappingOppositeUptoCardSaid : Prop := Claim7.holds Tryz.pinned (.plain (OpenSpec.upto mappingOppositeSpec)) mappingOppositeUptoCard

/-- THE SECOND FORM's CARD OF 'stockyardlaw07.MappingAssociates'. -/
def mappingAssociatesUptoCard : Claim7 := { stood := { row := mappingAssociatesUptoRow, standIns := [], harness := (true, "57207d24d7bca17a346fa77d2c31fe4ce793f877e18560a57ce28b0e7bbc17b5"), looks := false }, kinds := [], alts := [], laidByText := true, laidKinds := [.data, .pinned], laidTests := true, laidLooks := .later }
def MappingAssociatesUptoCardSaid : Prop := Claim7.holds Tryz.pinned (.plain (OpenSpec.upto mappingAssociatesSpec)) mappingAssociatesUptoCard
end Rows
end Go.Proofs.YteplgaabicminaaGreatDoor
