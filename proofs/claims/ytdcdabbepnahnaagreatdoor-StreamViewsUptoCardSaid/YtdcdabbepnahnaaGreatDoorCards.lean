/-
  DERIVED. GIVEN WITH THE SEED: THE CARDS: each row of YtdcdabbepnahnaaGreatDoorRows.lean that lists a variable, with what it lists TIED to the program's text (the seventh form; the later family's looks); each row that meets fmt, with fmt's text TOLD by the authors' own Lean function (tested against real Go, not proved from fmt's source: count such statements apart). THE CARD IS WHAT COUNTS. Prove the row's statement (the work); the ties are given (YtdcdabbepnahnaaGreatDoorTie.lean); close each card by the builder's one call (the guide's Derived/Test/ToyasCard.lean, 'card_holds'). Laid BY PROGRAM, IN A SANDBOX (cutbox-door.mjs). By AI agents, Wed Nov 11 2026. No macro, syntax, notation, axiom, sorry.
-/
import Derived.Test.YtdcdabbepnahnaaGreatDoorRows
import GoSem.ClaimSeven
namespace Go.Proofs.YtdcdabbepnahnaaGreatDoor
namespace Rows

/-- THE TIED CARD OF 'stockyardlaw08.StreamViews'. -/
def streamViewsCard : Claim7 := { stood := { row := streamViewsRow, standIns := [], harness := (true, "2a627ae0e6d5715f2784c29fdab1049a0bcc7236c5bad5df64afd11799ec4cd4"), looks := false }, kinds := [], alts := [], laidByText := true, laidKinds := [.data, .pinned], laidTests := true, laidLooks := .later }
def StreamViewsCardSaid : Prop := Claim7.holds Tryz.pinned (.plain (OpenSpec.ofChange streamViewsSpec)) streamViewsCard

/-- THE TIED CARD OF 'stockyardlaw08.StreamViewMeans'. -/
def streamViewMeansCard : Claim7 := { stood := { row := streamViewMeansRow, standIns := [], harness := (true, "2a627ae0e6d5715f2784c29fdab1049a0bcc7236c5bad5df64afd11799ec4cd4"), looks := false }, kinds := [], alts := [], laidByText := true, laidKinds := [.data, .pinned], laidTests := true, laidLooks := .later }
def StreamViewMeansCardSaid : Prop := Claim7.holds Tryz.pinned (.plain (OpenSpec.ofChange streamViewMeansSpec)) streamViewMeansCard

/-- THE TIED CARD OF 'stockyardlaw08.StreamBetweenMeans'. -/
def streamBetweenMeansCard : Claim7 := { stood := { row := streamBetweenMeansRow, standIns := [], harness := (true, "2a627ae0e6d5715f2784c29fdab1049a0bcc7236c5bad5df64afd11799ec4cd4"), looks := false }, kinds := [], alts := [], laidByText := true, laidKinds := [.data, .pinned], laidTests := true, laidLooks := .later }
def StreamBetweenMeansCardSaid : Prop := Claim7.holds Tryz.pinned (.plain (OpenSpec.ofChange streamBetweenMeansSpec)) streamBetweenMeansCard

/-- THE TIED CARD OF 'stockyardlaw08.StreamChain'. -/
def streamChainCard : Claim7 := { stood := { row := streamChainRow, standIns := [], harness := (true, "2a627ae0e6d5715f2784c29fdab1049a0bcc7236c5bad5df64afd11799ec4cd4"), looks := false }, kinds := [], alts := [], laidByText := true, laidKinds := [.data, .pinned], laidTests := true, laidLooks := .later }
def StreamChainCardSaid : Prop := Claim7.holds Tryz.pinned (.plain (OpenSpec.ofChange streamChainSpec)) streamChainCard

/-- THE SECOND FORM's CARD OF 'stockyardlaw08.StreamViews'. -/
def streamViewsUptoCard : Claim7 := { stood := { row := streamViewsUptoRow, standIns := [], harness := (true, "2a627ae0e6d5715f2784c29fdab1049a0bcc7236c5bad5df64afd11799ec4cd4"), looks := false }, kinds := [], alts := [], laidByText := true, laidKinds := [.data, .pinned], laidTests := true, laidLooks := .later }
def StreamViewsUptoCardSaid : Prop := Claim7.holds Tryz.pinned (.plain (OpenSpec.upto streamViewsSpec)) streamViewsUptoCard

/-- THE SECOND FORM's CARD OF 'stockyardlaw08.StreamViewMeans'. -/
def streamViewMeansUptoCard : Claim7 := { stood := { row := streamViewMeansUptoRow, standIns := [], harness := (true, "2a627ae0e6d5715f2784c29fdab1049a0bcc7236c5bad5df64afd11799ec4cd4"), looks := false }, kinds := [], alts := [], laidByText := true, laidKinds := [.data, .pinned], laidTests := true, laidLooks := .later }
def StreamViewMeansUptoCardSaid : Prop := Claim7.holds Tryz.pinned (.plain (OpenSpec.upto streamViewMeansSpec)) streamViewMeansUptoCard

/-- THE SECOND FORM's CARD OF 'stockyardlaw08.StreamBetweenMeans'. -/
def streamBetweenMeansUptoCard : Claim7 := { stood := { row := streamBetweenMeansUptoRow, standIns := [], harness := (true, "2a627ae0e6d5715f2784c29fdab1049a0bcc7236c5bad5df64afd11799ec4cd4"), looks := false }, kinds := [], alts := [], laidByText := true, laidKinds := [.data, .pinned], laidTests := true, laidLooks := .later }
def StreamBetweenMeansUptoCardSaid : Prop := Claim7.holds Tryz.pinned (.plain (OpenSpec.upto streamBetweenMeansSpec)) streamBetweenMeansUptoCard

/-- THE SECOND FORM's CARD OF 'stockyardlaw08.StreamChain'. -/
def streamChainUptoCard : Claim7 := { stood := { row := streamChainUptoRow, standIns := [], harness := (true, "2a627ae0e6d5715f2784c29fdab1049a0bcc7236c5bad5df64afd11799ec4cd4"), looks := false }, kinds := [], alts := [], laidByText := true, laidKinds := [.data, .pinned], laidTests := true, laidLooks := .later }
def StreamChainUptoCardSaid : Prop := Claim7.holds Tryz.pinned (.plain (OpenSpec.upto streamChainSpec)) streamChainUptoCard
end Rows
end Go.Proofs.YtdcdabbepnahnaaGreatDoor
