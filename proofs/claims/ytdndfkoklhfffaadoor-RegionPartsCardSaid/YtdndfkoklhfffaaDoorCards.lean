/-
  DERIVED. GIVEN WITH THE SEED: THE CARDS: each row of YtdndfkoklhfffaaDoorRows.lean that lists a variable, with what it lists TIED to the program's text (the seventh form; the later family's looks); each row that meets fmt, with fmt's text TOLD by the authors' own Lean function (tested against real Go, not proved from fmt's source: count such statements apart). THE CARD IS WHAT COUNTS. Prove the row's statement (the work); the ties are given (YtdndfkoklhfffaaDoorTie.lean); close each card by the builder's one call (the guide's Derived/Test/ToyasCard.lean, 'card_holds'). Laid BY PROGRAM, IN A SANDBOX (cutbox-door.mjs). By AI agents, Wed Nov 11 2026. No macro, syntax, notation, axiom, sorry.
-/
import Derived.Test.YtdndfkoklhfffaaDoorRows
import GoSem.ClaimSeven
namespace Go.Proofs.YtdndfkoklhfffaaDoor
namespace Rows

/-- THE TIED CARD OF 'stockyardlaw05.RegionLeasts'. -/
def regionLeastsCard : Claim7 := { stood := { row := regionLeastsRow, standIns := [], harness := (true, "f322283883f32a79add61f1b4c9eed9929d105faa822c957b01041ab8922165d"), looks := false }, kinds := [], alts := [], laidByText := true, laidKinds := [.data], laidTests := true, laidLooks := .later }
def RegionLeastsCardSaid : Prop := Claim7.holds Tryd.pinned (.plain (OpenSpec.ofChange regionLeastsSpec)) regionLeastsCard

/-- THE TIED CARD OF 'stockyardlaw05.RegionPoint'. -/
def regionPointCard : Claim7 := { stood := { row := regionPointRow, standIns := [], harness := (true, "f322283883f32a79add61f1b4c9eed9929d105faa822c957b01041ab8922165d"), looks := false }, kinds := [], alts := [], laidByText := true, laidKinds := [.data, .data, .pinned], laidTests := true, laidLooks := .later }
def RegionPointCardSaid : Prop := Claim7.holds Tryd.pinned (.plain (OpenSpec.ofChange regionPointSpec)) regionPointCard

/-- THE TIED CARD OF 'stockyardlaw05.RegionChecks'. -/
def regionChecksCard : Claim7 := { stood := { row := regionChecksRow, standIns := [], harness := (true, "f322283883f32a79add61f1b4c9eed9929d105faa822c957b01041ab8922165d"), looks := false }, kinds := [], alts := [], laidByText := true, laidKinds := [.data, .data, .pinned], laidTests := true, laidLooks := .later }
def RegionChecksCardSaid : Prop := Claim7.holds Tryd.pinned (.plain (OpenSpec.ofChange regionChecksSpec)) regionChecksCard

/-- THE TIED CARD OF 'stockyardlaw05.RegionWitness'. -/
def regionWitnessCard : Claim7 := { stood := { row := regionWitnessRow, standIns := [], harness := (true, "f322283883f32a79add61f1b4c9eed9929d105faa822c957b01041ab8922165d"), looks := false }, kinds := [], alts := [], laidByText := true, laidKinds := [.data, .data, .pinned], laidTests := true, laidLooks := .later }
def RegionWitnessCardSaid : Prop := Claim7.holds Tryd.pinned (.plain (OpenSpec.ofChange regionWitnessSpec)) regionWitnessCard

/-- THE TIED CARD OF 'stockyardlaw05.RegionOrder'. -/
def regionOrderCard : Claim7 := { stood := { row := regionOrderRow, standIns := [], harness := (true, "f322283883f32a79add61f1b4c9eed9929d105faa822c957b01041ab8922165d"), looks := false }, kinds := [], alts := [], laidByText := true, laidKinds := [.data], laidTests := true, laidLooks := .later }
def RegionOrderCardSaid : Prop := Claim7.holds Tryd.pinned (.plain (OpenSpec.ofChange regionOrderSpec)) regionOrderCard

/-- THE TIED CARD OF 'stockyardlaw05.RegionSimplifies'. -/
def regionSimplifiesCard : Claim7 := { stood := { row := regionSimplifiesRow, standIns := [], harness := (true, "f322283883f32a79add61f1b4c9eed9929d105faa822c957b01041ab8922165d"), looks := false }, kinds := [], alts := [], laidByText := true, laidKinds := [.data], laidTests := true, laidLooks := .later }
def RegionSimplifiesCardSaid : Prop := Claim7.holds Tryd.pinned (.plain (OpenSpec.ofChange regionSimplifiesSpec)) regionSimplifiesCard

/-- THE TIED CARD OF 'stockyardlaw05.RegionParts'. -/
def regionPartsCard : Claim7 := { stood := { row := regionPartsRow, standIns := [], harness := (true, "f322283883f32a79add61f1b4c9eed9929d105faa822c957b01041ab8922165d"), looks := false }, kinds := [], alts := [], laidByText := true, laidKinds := [.data], laidTests := true, laidLooks := .later }
def RegionPartsCardSaid : Prop := Claim7.holds Tryd.pinned (.plain (OpenSpec.ofChange regionPartsSpec)) regionPartsCard

/-- THE SECOND FORM's CARD OF 'stockyardlaw05.RegionLeasts'. -/
def regionLeastsUptoCard : Claim7 := { stood := { row := regionLeastsUptoRow, standIns := [], harness := (true, "f322283883f32a79add61f1b4c9eed9929d105faa822c957b01041ab8922165d"), looks := false }, kinds := [], alts := [], laidByText := true, laidKinds := [.data], laidTests := true, laidLooks := .later }
def RegionLeastsUptoCardSaid : Prop := Claim7.holds Tryd.pinned (.plain (OpenSpec.upto regionLeastsSpec)) regionLeastsUptoCard

/-- THE SECOND FORM's CARD OF 'stockyardlaw05.RegionPoint'. -/
def regionPointUptoCard : Claim7 := { stood := { row := regionPointUptoRow, standIns := [], harness := (true, "f322283883f32a79add61f1b4c9eed9929d105faa822c957b01041ab8922165d"), looks := false }, kinds := [], alts := [], laidByText := true, laidKinds := [.data, .data, .pinned], laidTests := true, laidLooks := .later }
def RegionPointUptoCardSaid : Prop := Claim7.holds Tryd.pinned (.plain (OpenSpec.upto regionPointSpec)) regionPointUptoCard

/-- THE SECOND FORM's CARD OF 'stockyardlaw05.RegionChecks'. -/
def regionChecksUptoCard : Claim7 := { stood := { row := regionChecksUptoRow, standIns := [], harness := (true, "f322283883f32a79add61f1b4c9eed9929d105faa822c957b01041ab8922165d"), looks := false }, kinds := [], alts := [], laidByText := true, laidKinds := [.data, .data, .pinned], laidTests := true, laidLooks := .later }
def RegionChecksUptoCardSaid : Prop := Claim7.holds Tryd.pinned (.plain (OpenSpec.upto regionChecksSpec)) regionChecksUptoCard

/-- THE SECOND FORM's CARD OF 'stockyardlaw05.RegionWitness'. -/
def regionWitnessUptoCard : Claim7 := { stood := { row := regionWitnessUptoRow, standIns := [], harness := (true, "f322283883f32a79add61f1b4c9eed9929d105faa822c957b01041ab8922165d"), looks := false }, kinds := [], alts := [], laidByText := true, laidKinds := [.data, .data, .pinned], laidTests := true, laidLooks := .later }
def RegionWitnessUptoCardSaid : Prop := Claim7.holds Tryd.pinned (.plain (OpenSpec.upto regionWitnessSpec)) regionWitnessUptoCard

/-- THE SECOND FORM's CARD OF 'stockyardlaw05.RegionOrder'. -/
def regionOrderUptoCard : Claim7 := { stood := { row := regionOrderUptoRow, standIns := [], harness := (true, "f322283883f32a79add61f1b4c9eed9929d105faa822c957b01041ab8922165d"), looks := false }, kinds := [], alts := [], laidByText := true, laidKinds := [.data], laidTests := true, laidLooks := .later }
def RegionOrderUptoCardSaid : Prop := Claim7.holds Tryd.pinned (.plain (OpenSpec.upto regionOrderSpec)) regionOrderUptoCard

/-- THE SECOND FORM's CARD OF 'stockyardlaw05.RegionSimplifies'. -/
def regionSimplifiesUptoCard : Claim7 := { stood := { row := regionSimplifiesUptoRow, standIns := [], harness := (true, "f322283883f32a79add61f1b4c9eed9929d105faa822c957b01041ab8922165d"), looks := false }, kinds := [], alts := [], laidByText := true, laidKinds := [.data], laidTests := true, laidLooks := .later }
def RegionSimplifiesUptoCardSaid : Prop := Claim7.holds Tryd.pinned (.plain (OpenSpec.upto regionSimplifiesSpec)) regionSimplifiesUptoCard

/-- THE SECOND FORM's CARD OF 'stockyardlaw05.RegionParts'. -/
def regionPartsUptoCard : Claim7 := { stood := { row := regionPartsUptoRow, standIns := [], harness := (true, "f322283883f32a79add61f1b4c9eed9929d105faa822c957b01041ab8922165d"), looks := false }, kinds := [], alts := [], laidByText := true, laidKinds := [.data], laidTests := true, laidLooks := .later }
def RegionPartsUptoCardSaid : Prop := Claim7.holds Tryd.pinned (.plain (OpenSpec.upto regionPartsSpec)) regionPartsUptoCard
end Rows
end Go.Proofs.YtdndfkoklhfffaaDoor
