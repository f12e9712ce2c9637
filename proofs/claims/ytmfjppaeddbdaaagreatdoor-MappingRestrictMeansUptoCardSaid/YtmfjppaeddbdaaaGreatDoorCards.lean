/-
  DERIVED. GIVEN WITH THE SEED: THE CARDS: each row of YtmfjppaeddbdaaaGreatDoorRows.lean that lists a variable, with what it lists TIED to the program's text (the seventh form; the later family's looks); each row that meets fmt, with fmt's text TOLD by the authors' own Lean function (tested against real Go, not proved from fmt's source: count such statements apart). THE CARD IS WHAT COUNTS. Prove the row's statement (the work); the ties are given (YtmfjppaeddbdaaaGreatDoorTie.lean); close each card by the builder's one call (the guide's Derived/Test/ToyasCard.lean, 'card_holds'). Laid BY PROGRAM, IN A SANDBOX (cutbox-door.mjs). By AI agents, Wed Nov 11 2026. No macro, syntax, notation, axiom, sorry.
-/
import Derived.Test.YtmfjppaeddbdaaaGreatDoorRows
import GoSem.ClaimSeven
namespace Go.Proofs.YtmfjppaeddbdaaaGreatDoor
namespace Rows

/-- THE TIED CARD OF 'stockyardlaw07.MappingChecks'. -/
def mappingChecksCard : Claim7 := { stood := { row := mappingChecksRow, standIns := [], harness := (true, "f671720ad892633037ecdd5cd406a908ea139ac815459fbaac615b40f3aac44c"), looks := false }, kinds := [], alts := [], laidByText := true, laidKinds := [.data, .pinned], laidTests := true, laidLooks := .later }
def MappingChecksCardSaid : Prop := Claim7.holds Tryz.pinned (.plain (OpenSpec.ofChange mappingChecksSpec)) mappingChecksCard

/-- THE TIED CARD OF 'stockyardlaw07.MappingInverts'. -/
def mappingInvertsCard : Claim7 := { stood := { row := mappingInvertsRow, standIns := [], harness := (true, "f671720ad892633037ecdd5cd406a908ea139ac815459fbaac615b40f3aac44c"), looks := false }, kinds := [], alts := [], laidByText := true, laidKinds := [.data, .pinned], laidTests := true, laidLooks := .later }
def MappingInvertsCardSaid : Prop := Claim7.holds Tryz.pinned (.plain (OpenSpec.ofChange mappingInvertsSpec)) mappingInvertsCard

/-- THE TIED CARD OF 'stockyardlaw07.MappingInverseMeans'. -/
def mappingInverseMeansCard : Claim7 := { stood := { row := mappingInverseMeansRow, standIns := [], harness := (true, "f671720ad892633037ecdd5cd406a908ea139ac815459fbaac615b40f3aac44c"), looks := false }, kinds := [], alts := [], laidByText := true, laidKinds := [.data, .pinned], laidTests := true, laidLooks := .later }
def MappingInverseMeansCardSaid : Prop := Claim7.holds Tryz.pinned (.plain (OpenSpec.ofChange mappingInverseMeansSpec)) mappingInverseMeansCard

/-- THE TIED CARD OF 'stockyardlaw07.MappingMaps'. -/
def mappingMapsCard : Claim7 := { stood := { row := mappingMapsRow, standIns := [], harness := (true, "f671720ad892633037ecdd5cd406a908ea139ac815459fbaac615b40f3aac44c"), looks := false }, kinds := [], alts := [], laidByText := true, laidKinds := [.data, .pinned], laidTests := true, laidLooks := .later }
def MappingMapsCardSaid : Prop := Claim7.holds Tryz.pinned (.plain (OpenSpec.ofChange mappingMapsSpec)) mappingMapsCard

/-- THE TIED CARD OF 'stockyardlaw07.MappingRestricts'. -/
def mappingRestrictsCard : Claim7 := { stood := { row := mappingRestrictsRow, standIns := [], harness := (true, "f671720ad892633037ecdd5cd406a908ea139ac815459fbaac615b40f3aac44c"), looks := false }, kinds := [], alts := [], laidByText := true, laidKinds := [.data, .pinned], laidTests := true, laidLooks := .later }
def MappingRestrictsCardSaid : Prop := Claim7.holds Tryz.pinned (.plain (OpenSpec.ofChange mappingRestrictsSpec)) mappingRestrictsCard

/-- THE TIED CARD OF 'stockyardlaw07.MappingDomainMeans'. -/
def mappingDomainMeansCard : Claim7 := { stood := { row := mappingDomainMeansRow, standIns := [], harness := (true, "f671720ad892633037ecdd5cd406a908ea139ac815459fbaac615b40f3aac44c"), looks := false }, kinds := [], alts := [], laidByText := true, laidKinds := [.data, .pinned], laidTests := true, laidLooks := .later }
def MappingDomainMeansCardSaid : Prop := Claim7.holds Tryz.pinned (.plain (OpenSpec.ofChange mappingDomainMeansSpec)) mappingDomainMeansCard

/-- THE TIED CARD OF 'stockyardlaw07.MappingRestrictMeans'. -/
def mappingRestrictMeansCard : Claim7 := { stood := { row := mappingRestrictMeansRow, standIns := [], harness := (true, "f671720ad892633037ecdd5cd406a908ea139ac815459fbaac615b40f3aac44c"), looks := false }, kinds := [], alts := [], laidByText := true, laidKinds := [.data, .pinned], laidTests := true, laidLooks := .later }
def MappingRestrictMeansCardSaid : Prop := Claim7.holds Tryz.pinned (.plain (OpenSpec.ofChange mappingRestrictMeansSpec)) mappingRestrictMeansCard

/-- THE SECOND FORM's CARD OF 'stockyardlaw07.MappingChecks'. -/
def mappingChecksUptoCard : Claim7 := { stood := { row := mappingChecksUptoRow, standIns := [], harness := (true, "f671720ad892633037ecdd5cd406a908ea139ac815459fbaac615b40f3aac44c"), looks := false }, kinds := [], alts := [], laidByText := true, laidKinds := [.data, .pinned], laidTests := true, laidLooks := .later }
def MappingChecksUptoCardSaid : Prop := Claim7.holds Tryz.pinned (.plain (OpenSpec.upto mappingChecksSpec)) mappingChecksUptoCard

/-- THE SECOND FORM's CARD OF 'stockyardlaw07.MappingInverts'. -/
def mappingInvertsUptoCard : Claim7 := { stood := { row := mappingInvertsUptoRow, standIns := [], harness := (true, "f671720ad892633037ecdd5cd406a908ea139ac815459fbaac615b40f3aac44c"), looks := false }, kinds := [], alts := [], laidByText := true, laidKinds := [.data, .pinned], laidTests := true, laidLooks := .later }
def MappingInvertsUptoCardSaid : Prop := Claim7.holds Tryz.pinned (.plain (OpenSpec.upto mappingInvertsSpec)) mappingInvertsUptoCard

/-- THE SECOND FORM's CARD OF 'stockyardlaw07.MappingInverseMeans'. -/
def mappingInverseMeansUptoCard : Claim7 := { stood := { row := mappingInverseMeansUptoRow, standIns := [], harness := (true, "f671720ad892633037ecdd5cd406a908ea139ac815459fbaac615b40f3aac44c"), looks := false }, kinds := [], alts := [], laidByText := true, laidKinds := [.data, .pinned], laidTests := true, laidLooks := .later }
def MappingInverseMeansUptoCardSaid : Prop := Claim7.holds Tryz.pinned (.plain (OpenSpec.upto mappingInverseMeansSpec)) mappingInverseMeansUptoCard

/-- THE SECOND FORM's CARD OF 'stockyardlaw07.MappingMaps'. -/
def mappingMapsUptoCard : Claim7 := { stood := { row := mappingMapsUptoRow, standIns := [], harness := (true, "f671720ad892633037ecdd5cd406a908ea139ac815459fbaac615b40f3aac44c"), looks := false }, kinds := [], alts := [], laidByText := true, laidKinds := [.data, .pinned], laidTests := true, laidLooks := .later }
def MappingMapsUptoCardSaid : Prop := Claim7.holds Tryz.pinned (.plain (OpenSpec.upto mappingMapsSpec)) mappingMapsUptoCard

/-- THE SECOND FORM's CARD OF 'stockyardlaw07.MappingRestricts'. -/
def mappingRestrictsUptoCard : Claim7 := { stood := { row := mappingRestrictsUptoRow, standIns := [], harness := (true, "f671720ad892633037ecdd5cd406a908ea139ac815459fbaac615b40f3aac44c"), looks := false }, kinds := [], alts := [], laidByText := true, laidKinds := [.data, .pinned], laidTests := true, laidLooks := .later }
def MappingRestrictsUptoCardSaid : Prop := Claim7.holds Tryz.pinned (.plain (OpenSpec.upto mappingRestrictsSpec)) mappingRestrictsUptoCard

/-- THE SECOND FORM's CARD OF 'stockyardlaw07.MappingDomainMeans'. -/
def mappingDomainMeansUptoCard : Claim7 := { stood := { row := mappingDomainMeansUptoRow, standIns := [], harness := (true, "f671720ad892633037ecdd5cd406a908ea139ac815459fbaac615b40f3aac44c"), looks := false }, kinds := [], alts := [], laidByText := true, laidKinds := [.data, .pinned], laidTests := true, laidLooks := .later }
def MappingDomainMeansUptoCardSaid : Prop := Claim7.holds Tryz.pinned (.plain (OpenSpec.upto mappingDomainMeansSpec)) mappingDomainMeansUptoCard

/-- THE SECOND FORM's CARD OF 'stockyardlaw07.MappingRestrictMeans'. -/
def mappingRestrictMeansUptoCard : Claim7 := { stood := { row := mappingRestrictMeansUptoRow, standIns := [], harness := (true, "f671720ad892633037ecdd5cd406a908ea139ac815459fbaac615b40f3aac44c"), looks := false }, kinds := [], alts := [], laidByText := true, laidKinds := [.data, .pinned], laidTests := true, laidLooks := .later }
def MappingRestrictMeansUptoCardSaid : Prop := Claim7.holds Tryz.pinned (.plain (OpenSpec.upto mappingRestrictMeansSpec)) mappingRestrictMeansUptoCard
end Rows
end Go.Proofs.YtmfjppaeddbdaaaGreatDoor
