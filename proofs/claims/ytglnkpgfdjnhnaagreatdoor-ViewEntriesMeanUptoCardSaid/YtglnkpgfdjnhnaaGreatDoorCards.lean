/-
  DERIVED. GIVEN WITH THE SEED: THE CARDS: each row of YtglnkpgfdjnhnaaGreatDoorRows.lean that lists a variable, with what it lists TIED to the program's text (the seventh form; the later family's looks); each row that meets fmt, with fmt's text TOLD by the authors' own Lean function (tested against real Go, not proved from fmt's source: count such statements apart). THE CARD IS WHAT COUNTS. Prove the row's statement (the work); the ties are given (YtglnkpgfdjnhnaaGreatDoorTie.lean); close each card by the builder's one call (the guide's Derived/Test/ToyasCard.lean, 'card_holds'). Laid BY PROGRAM, IN A SANDBOX (cutbox-door.mjs). By AI agents, Wed Nov 11 2026. No macro, syntax, notation, axiom, sorry.
-/
import Derived.Test.YtglnkpgfdjnhnaaGreatDoorRows
import GoSem.ClaimSeven
namespace Go.Proofs.YtglnkpgfdjnhnaaGreatDoor
namespace Rows

/-- THE TIED CARD OF 'stockyardlaw06.ViewEntries'. -/
def viewEntriesCard : Claim7 := { stood := { row := viewEntriesRow, standIns := [], harness := (true, "611015b7227f6aba69cc52ef3179f122805ea090f4cf9b81e0e08308838eb65f"), looks := false }, kinds := [], alts := [], laidByText := true, laidKinds := [.data, .pinned], laidTests := true, laidLooks := .later }
def ViewEntriesCardSaid : Prop := Claim7.holds Tryz.pinned (.plain (OpenSpec.ofChange viewEntriesSpec)) viewEntriesCard

/-- THE TIED CARD OF 'stockyardlaw06.ViewEntriesMean'. -/
def viewEntriesMeanCard : Claim7 := { stood := { row := viewEntriesMeanRow, standIns := [], harness := (true, "611015b7227f6aba69cc52ef3179f122805ea090f4cf9b81e0e08308838eb65f"), looks := false }, kinds := [], alts := [], laidByText := true, laidKinds := [.data, .pinned], laidTests := true, laidLooks := .later }
def ViewEntriesMeanCardSaid : Prop := Claim7.holds Tryz.pinned (.plain (OpenSpec.ofChange viewEntriesMeanSpec)) viewEntriesMeanCard

/-- THE SECOND FORM's CARD OF 'stockyardlaw06.ViewEntries'. -/
def viewEntriesUptoCard : Claim7 := { stood := { row := viewEntriesUptoRow, standIns := [], harness := (true, "611015b7227f6aba69cc52ef3179f122805ea090f4cf9b81e0e08308838eb65f"), looks := false }, kinds := [], alts := [], laidByText := true, laidKinds := [.data, .pinned], laidTests := true, laidLooks := .later }
def ViewEntriesUptoCardSaid : Prop := Claim7.holds Tryz.pinned (.plain (OpenSpec.upto viewEntriesSpec)) viewEntriesUptoCard

/-- THE SECOND FORM's CARD OF 'stockyardlaw06.ViewEntriesMean'. -/
def viewEntriesMeanUptoCard : Claim7 := { stood := { row := viewEntriesMeanUptoRow, standIns := [], harness := (true, "611015b7227f6aba69cc52ef3179f122805ea090f4cf9b81e0e08308838eb65f"), looks := false }, kinds := [], alts := [], laidByText := true, laidKinds := [.data, .pinned], laidTests := true, laidLooks := .later }
def ViewEntriesMeanUptoCardSaid : Prop := Claim7.holds Tryz.pinned (.plain (OpenSpec.upto viewEntriesMeanSpec)) viewEntriesMeanUptoCard
end Rows
end Go.Proofs.YtglnkpgfdjnhnaaGreatDoor
