/-
  DERIVED. GIVEN WITH THE SEED: THE CARDS: each row of YtlmclpbkhhgekaaGreatDoorRows.lean that lists a variable, with what it lists TIED to the program's text (the seventh form; the later family's looks); each row that meets fmt, with fmt's text TOLD by the authors' own Lean function (tested against real Go, not proved from fmt's source: count such statements apart). THE CARD IS WHAT COUNTS. Prove the row's statement (the work); the ties are given (YtlmclpbkhhgekaaGreatDoorTie.lean); close each card by the builder's one call (the guide's Derived/Test/ToyasCard.lean, 'card_holds'). Laid BY PROGRAM, IN A SANDBOX (cutbox-door.mjs). By AI agents, Wed Nov 11 2026. No macro, syntax, notation, axiom, sorry.
-/
import Derived.Test.YtlmclpbkhhgekaaGreatDoorRows
import GoSem.ClaimSeven
namespace Go.Proofs.YtlmclpbkhhgekaaGreatDoor
namespace Rows

/-- THE TIED CARD OF 'stockyardlaw08.StreamLocates'. -/
def streamLocatesCard : Claim7 := { stood := { row := streamLocatesRow, standIns := [], harness := (true, "32f9ad7f5fb94b2d97519be370340a16a159a92c39a16ba6a31a19961ad6cc1e"), looks := false }, kinds := [], alts := [], laidByText := true, laidKinds := [.data, .pinned], laidTests := true, laidLooks := .later }
def StreamLocatesCardSaid : Prop := Claim7.holds Tryz.pinned (.plain (OpenSpec.ofChange streamLocatesSpec)) streamLocatesCard

/-- THE SECOND FORM's CARD OF 'stockyardlaw08.StreamLocates'. -/
def streamLocatesUptoCard : Claim7 := { stood := { row := streamLocatesUptoRow, standIns := [], harness := (true, "32f9ad7f5fb94b2d97519be370340a16a159a92c39a16ba6a31a19961ad6cc1e"), looks := false }, kinds := [], alts := [], laidByText := true, laidKinds := [.data, .pinned], laidTests := true, laidLooks := .later }
def StreamLocatesUptoCardSaid : Prop := Claim7.holds Tryz.pinned (.plain (OpenSpec.upto streamLocatesSpec)) streamLocatesUptoCard
end Rows
end Go.Proofs.YtlmclpbkhhgekaaGreatDoor
