/-
  DERIVED. GIVEN WITH THE SEED: THE CARDS: each row of YtoaelfdkamgdaaaDoorRows.lean that lists a variable, with what it lists TIED to the program's text (the seventh form; the later family's looks); each row that meets fmt, with fmt's text TOLD by the authors' own Lean function (tested against real Go, not proved from fmt's source: count such statements apart). THE CARD IS WHAT COUNTS. Prove the row's statement (the work); the ties are given (YtoaelfdkamgdaaaDoorTie.lean); close each card by the builder's one call (the guide's Derived/Test/ToyasCard.lean, 'card_holds'). Laid BY PROGRAM, IN A SANDBOX (cutbox-door.mjs). By AI agents, Wed Nov 11 2026. No macro, syntax, notation, axiom, sorry.
-/
import Derived.Test.YtoaelfdkamgdaaaDoorRows
import GoSem.ClaimSeven
namespace Go.Proofs.YtoaelfdkamgdaaaDoor
namespace Rows

/-- THE TIED CARD OF 'stockyardlaw06.ViewLast'. -/
def viewLastCard : Claim7 := { stood := { row := viewLastRow, standIns := [], harness := (true, "5f0e44b877369df7057dac9a35ba0d25a995fdae774fed8ff07d5d3ca3cfffeb"), looks := false }, kinds := [], alts := [], laidByText := true, laidKinds := [.data, .pinned], laidTests := true, laidLooks := .later }
def ViewLastCardSaid : Prop := Claim7.holds Tryd.pinned (.plain (OpenSpec.ofChange viewLastSpec)) viewLastCard

/-- THE TIED CARD OF 'stockyardlaw06.ViewFirst'. -/
def viewFirstCard : Claim7 := { stood := { row := viewFirstRow, standIns := [], harness := (true, "5f0e44b877369df7057dac9a35ba0d25a995fdae774fed8ff07d5d3ca3cfffeb"), looks := false }, kinds := [], alts := [], laidByText := true, laidKinds := [.data, .pinned], laidTests := true, laidLooks := .later }
def ViewFirstCardSaid : Prop := Claim7.holds Tryd.pinned (.plain (OpenSpec.ofChange viewFirstSpec)) viewFirstCard

/-- THE TIED CARD OF 'stockyardlaw06.ViewDecided'. -/
def viewDecidedCard : Claim7 := { stood := { row := viewDecidedRow, standIns := [], harness := (true, "5f0e44b877369df7057dac9a35ba0d25a995fdae774fed8ff07d5d3ca3cfffeb"), looks := false }, kinds := [], alts := [], laidByText := true, laidKinds := [.data, .pinned], laidTests := true, laidLooks := .later }
def ViewDecidedCardSaid : Prop := Claim7.holds Tryd.pinned (.plain (OpenSpec.ofChange viewDecidedSpec)) viewDecidedCard

/-- THE TIED CARD OF 'stockyardlaw06.ViewChecks'. -/
def viewChecksCard : Claim7 := { stood := { row := viewChecksRow, standIns := [], harness := (true, "5f0e44b877369df7057dac9a35ba0d25a995fdae774fed8ff07d5d3ca3cfffeb"), looks := false }, kinds := [], alts := [], laidByText := true, laidKinds := [.data, .pinned], laidTests := true, laidLooks := .later }
def ViewChecksCardSaid : Prop := Claim7.holds Tryd.pinned (.plain (OpenSpec.ofChange viewChecksSpec)) viewChecksCard

/-- THE TIED CARD OF 'stockyardlaw06.ViewOneToOne'. -/
def viewOneToOneCard : Claim7 := { stood := { row := viewOneToOneRow, standIns := [], harness := (true, "5f0e44b877369df7057dac9a35ba0d25a995fdae774fed8ff07d5d3ca3cfffeb"), looks := false }, kinds := [], alts := [], laidByText := true, laidKinds := [.data, .pinned], laidTests := true, laidLooks := .later }
def ViewOneToOneCardSaid : Prop := Claim7.holds Tryd.pinned (.plain (OpenSpec.ofChange viewOneToOneSpec)) viewOneToOneCard

/-- THE TIED CARD OF 'stockyardlaw06.ViewTurns'. -/
def viewTurnsCard : Claim7 := { stood := { row := viewTurnsRow, standIns := [], harness := (true, "5f0e44b877369df7057dac9a35ba0d25a995fdae774fed8ff07d5d3ca3cfffeb"), looks := false }, kinds := [], alts := [], laidByText := true, laidKinds := [.data, .pinned], laidTests := true, laidLooks := .later }
def ViewTurnsCardSaid : Prop := Claim7.holds Tryd.pinned (.plain (OpenSpec.ofChange viewTurnsSpec)) viewTurnsCard

/-- THE TIED CARD OF 'stockyardlaw06.ViewMaps'. -/
def viewMapsCard : Claim7 := { stood := { row := viewMapsRow, standIns := [], harness := (true, "5f0e44b877369df7057dac9a35ba0d25a995fdae774fed8ff07d5d3ca3cfffeb"), looks := false }, kinds := [], alts := [], laidByText := true, laidKinds := [.data, .pinned], laidTests := true, laidLooks := .later }
def ViewMapsCardSaid : Prop := Claim7.holds Tryd.pinned (.plain (OpenSpec.ofChange viewMapsSpec)) viewMapsCard

/-- THE SECOND FORM's CARD OF 'stockyardlaw06.ViewLast'. -/
def viewLastUptoCard : Claim7 := { stood := { row := viewLastUptoRow, standIns := [], harness := (true, "5f0e44b877369df7057dac9a35ba0d25a995fdae774fed8ff07d5d3ca3cfffeb"), looks := false }, kinds := [], alts := [], laidByText := true, laidKinds := [.data, .pinned], laidTests := true, laidLooks := .later }
def ViewLastUptoCardSaid : Prop := Claim7.holds Tryd.pinned (.plain (OpenSpec.upto viewLastSpec)) viewLastUptoCard

/-- THE SECOND FORM's CARD OF 'stockyardlaw06.ViewFirst'. -/
def viewFirstUptoCard : Claim7 := { stood := { row := viewFirstUptoRow, standIns := [], harness := (true, "5f0e44b877369df7057dac9a35ba0d25a995fdae774fed8ff07d5d3ca3cfffeb"), looks := false }, kinds := [], alts := [], laidByText := true, laidKinds := [.data, .pinned], laidTests := true, laidLooks := .later }
def ViewFirstUptoCardSaid : Prop := Claim7.holds Tryd.pinned (.plain (OpenSpec.upto viewFirstSpec)) viewFirstUptoCard

/-- THE SECOND FORM's CARD OF 'stockyardlaw06.ViewDecided'. -/
def viewDecidedUptoCard : Claim7 := { stood := { row := viewDecidedUptoRow, standIns := [], harness := (true, "5f0e44b877369df7057dac9a35ba0d25a995fdae774fed8ff07d5d3ca3cfffeb"), looks := false }, kinds := [], alts := [], laidByText := true, laidKinds := [.data, .pinned], laidTests := true, laidLooks := .later }
def ViewDecidedUptoCardSaid : Prop := Claim7.holds Tryd.pinned (.plain (OpenSpec.upto viewDecidedSpec)) viewDecidedUptoCard

/-- THE SECOND FORM's CARD OF 'stockyardlaw06.ViewChecks'. -/
def viewChecksUptoCard : Claim7 := { stood := { row := viewChecksUptoRow, standIns := [], harness := (true, "5f0e44b877369df7057dac9a35ba0d25a995fdae774fed8ff07d5d3ca3cfffeb"), looks := false }, kinds := [], alts := [], laidByText := true, laidKinds := [.data, .pinned], laidTests := true, laidLooks := .later }
def ViewChecksUptoCardSaid : Prop := Claim7.holds Tryd.pinned (.plain (OpenSpec.upto viewChecksSpec)) viewChecksUptoCard

/-- THE SECOND FORM's CARD OF 'stockyardlaw06.ViewOneToOne'. -/
def viewOneToOneUptoCard : Claim7 := { stood := { row := viewOneToOneUptoRow, standIns := [], harness := (true, "5f0e44b877369df7057dac9a35ba0d25a995fdae774fed8ff07d5d3ca3cfffeb"), looks := false }, kinds := [], alts := [], laidByText := true, laidKinds := [.data, .pinned], laidTests := true, laidLooks := .later }
def ViewOneToOneUptoCardSaid : Prop := Claim7.holds Tryd.pinned (.plain (OpenSpec.upto viewOneToOneSpec)) viewOneToOneUptoCard

/-- THE SECOND FORM's CARD OF 'stockyardlaw06.ViewTurns'. -/
def viewTurnsUptoCard : Claim7 := { stood := { row := viewTurnsUptoRow, standIns := [], harness := (true, "5f0e44b877369df7057dac9a35ba0d25a995fdae774fed8ff07d5d3ca3cfffeb"), looks := false }, kinds := [], alts := [], laidByText := true, laidKinds := [.data, .pinned], laidTests := true, laidLooks := .later }
def ViewTurnsUptoCardSaid : Prop := Claim7.holds Tryd.pinned (.plain (OpenSpec.upto viewTurnsSpec)) viewTurnsUptoCard

/-- THE SECOND FORM's CARD OF 'stockyardlaw06.ViewMaps'. -/
def viewMapsUptoCard : Claim7 := { stood := { row := viewMapsUptoRow, standIns := [], harness := (true, "5f0e44b877369df7057dac9a35ba0d25a995fdae774fed8ff07d5d3ca3cfffeb"), looks := false }, kinds := [], alts := [], laidByText := true, laidKinds := [.data, .pinned], laidTests := true, laidLooks := .later }
def ViewMapsUptoCardSaid : Prop := Claim7.holds Tryd.pinned (.plain (OpenSpec.upto viewMapsSpec)) viewMapsUptoCard
end Rows
end Go.Proofs.YtoaelfdkamgdaaaDoor
