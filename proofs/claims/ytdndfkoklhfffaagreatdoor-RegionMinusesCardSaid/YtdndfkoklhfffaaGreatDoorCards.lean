/-
  DERIVED. GIVEN WITH THE SEED: THE CARDS: each row of YtdndfkoklhfffaaGreatDoorRows.lean that lists a variable, with what it lists TIED to the program's text (the seventh form; the later family's looks); each row that meets fmt, with fmt's text TOLD by the authors' own Lean function (tested against real Go, not proved from fmt's source: count such statements apart). THE CARD IS WHAT COUNTS. Prove the row's statement (the work); the ties are given (YtdndfkoklhfffaaGreatDoorTie.lean); close each card by the builder's one call (the guide's Derived/Test/ToyasCard.lean, 'card_holds'). Laid BY PROGRAM, IN A SANDBOX (cutbox-door.mjs). By AI agents, Wed Nov 11 2026. No macro, syntax, notation, axiom, sorry.
-/
import Derived.Test.YtdndfkoklhfffaaGreatDoorRows
import GoSem.ClaimSeven
namespace Go.Proofs.YtdndfkoklhfffaaGreatDoor
namespace Rows

/-- THE TIED CARD OF 'stockyardlaw05.RegionMeets'. -/
def regionMeetsCard : Claim7 := { stood := { row := regionMeetsRow, standIns := [], harness := (true, "83a160a2cc25cc990f7b1967109bc252d00907688dcb8204a8bb6e8615a2863d"), looks := false }, kinds := [], alts := [], laidByText := true, laidKinds := [.data], laidTests := true, laidLooks := .later }
def RegionMeetsCardSaid : Prop := Claim7.holds Tryz.pinned (.plain (OpenSpec.ofChange regionMeetsSpec)) regionMeetsCard

/-- THE TIED CARD OF 'stockyardlaw05.RegionMinuses'. -/
def regionMinusesCard : Claim7 := { stood := { row := regionMinusesRow, standIns := [], harness := (true, "83a160a2cc25cc990f7b1967109bc252d00907688dcb8204a8bb6e8615a2863d"), looks := false }, kinds := [], alts := [], laidByText := true, laidKinds := [.data], laidTests := true, laidLooks := .later }
def RegionMinusesCardSaid : Prop := Claim7.holds Tryz.pinned (.plain (OpenSpec.ofChange regionMinusesSpec)) regionMinusesCard

/-- THE TIED CARD OF 'stockyardlaw05.RegionKeeps'. -/
def regionKeepsCard : Claim7 := { stood := { row := regionKeepsRow, standIns := [], harness := (true, "83a160a2cc25cc990f7b1967109bc252d00907688dcb8204a8bb6e8615a2863d"), looks := false }, kinds := [], alts := [], laidByText := true, laidKinds := [.data, .data, .pinned], laidTests := true, laidLooks := .later }
def RegionKeepsCardSaid : Prop := Claim7.holds Tryz.pinned (.plain (OpenSpec.ofChange regionKeepsSpec)) regionKeepsCard

/-- THE TIED CARD OF 'stockyardlaw05.RegionMeetMeans'. -/
def regionMeetMeansCard : Claim7 := { stood := { row := regionMeetMeansRow, standIns := [], harness := (true, "83a160a2cc25cc990f7b1967109bc252d00907688dcb8204a8bb6e8615a2863d"), looks := false }, kinds := [], alts := [], laidByText := true, laidKinds := [.data, .data, .pinned], laidTests := true, laidLooks := .later }
def RegionMeetMeansCardSaid : Prop := Claim7.holds Tryz.pinned (.plain (OpenSpec.ofChange regionMeetMeansSpec)) regionMeetMeansCard

/-- THE TIED CARD OF 'stockyardlaw05.RegionMinusMeans'. -/
def regionMinusMeansCard : Claim7 := { stood := { row := regionMinusMeansRow, standIns := [], harness := (true, "83a160a2cc25cc990f7b1967109bc252d00907688dcb8204a8bb6e8615a2863d"), looks := false }, kinds := [], alts := [], laidByText := true, laidKinds := [.data, .data, .pinned], laidTests := true, laidLooks := .later }
def RegionMinusMeansCardSaid : Prop := Claim7.holds Tryz.pinned (.plain (OpenSpec.ofChange regionMinusMeansSpec)) regionMinusMeansCard

/-- THE SECOND FORM's CARD OF 'stockyardlaw05.RegionMeets'. -/
def regionMeetsUptoCard : Claim7 := { stood := { row := regionMeetsUptoRow, standIns := [], harness := (true, "83a160a2cc25cc990f7b1967109bc252d00907688dcb8204a8bb6e8615a2863d"), looks := false }, kinds := [], alts := [], laidByText := true, laidKinds := [.data], laidTests := true, laidLooks := .later }
def RegionMeetsUptoCardSaid : Prop := Claim7.holds Tryz.pinned (.plain (OpenSpec.upto regionMeetsSpec)) regionMeetsUptoCard

/-- THE SECOND FORM's CARD OF 'stockyardlaw05.RegionMinuses'. -/
def regionMinusesUptoCard : Claim7 := { stood := { row := regionMinusesUptoRow, standIns := [], harness := (true, "83a160a2cc25cc990f7b1967109bc252d00907688dcb8204a8bb6e8615a2863d"), looks := false }, kinds := [], alts := [], laidByText := true, laidKinds := [.data], laidTests := true, laidLooks := .later }
def RegionMinusesUptoCardSaid : Prop := Claim7.holds Tryz.pinned (.plain (OpenSpec.upto regionMinusesSpec)) regionMinusesUptoCard

/-- THE SECOND FORM's CARD OF 'stockyardlaw05.RegionKeeps'. -/
def regionKeepsUptoCard : Claim7 := { stood := { row := regionKeepsUptoRow, standIns := [], harness := (true, "83a160a2cc25cc990f7b1967109bc252d00907688dcb8204a8bb6e8615a2863d"), looks := false }, kinds := [], alts := [], laidByText := true, laidKinds := [.data, .data, .pinned], laidTests := true, laidLooks := .later }
def RegionKeepsUptoCardSaid : Prop := Claim7.holds Tryz.pinned (.plain (OpenSpec.upto regionKeepsSpec)) regionKeepsUptoCard

/-- THE SECOND FORM's CARD OF 'stockyardlaw05.RegionMeetMeans'. -/
def regionMeetMeansUptoCard : Claim7 := { stood := { row := regionMeetMeansUptoRow, standIns := [], harness := (true, "83a160a2cc25cc990f7b1967109bc252d00907688dcb8204a8bb6e8615a2863d"), looks := false }, kinds := [], alts := [], laidByText := true, laidKinds := [.data, .data, .pinned], laidTests := true, laidLooks := .later }
def RegionMeetMeansUptoCardSaid : Prop := Claim7.holds Tryz.pinned (.plain (OpenSpec.upto regionMeetMeansSpec)) regionMeetMeansUptoCard

/-- THE SECOND FORM's CARD OF 'stockyardlaw05.RegionMinusMeans'. -/
def regionMinusMeansUptoCard : Claim7 := { stood := { row := regionMinusMeansUptoRow, standIns := [], harness := (true, "83a160a2cc25cc990f7b1967109bc252d00907688dcb8204a8bb6e8615a2863d"), looks := false }, kinds := [], alts := [], laidByText := true, laidKinds := [.data, .data, .pinned], laidTests := true, laidLooks := .later }
def RegionMinusMeansUptoCardSaid : Prop := Claim7.holds Tryz.pinned (.plain (OpenSpec.upto regionMinusMeansSpec)) regionMinusMeansUptoCard
end Rows
end Go.Proofs.YtdndfkoklhfffaaGreatDoor
