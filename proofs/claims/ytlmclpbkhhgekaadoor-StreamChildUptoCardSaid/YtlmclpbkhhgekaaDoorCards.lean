/-
  DERIVED. GIVEN WITH THE SEED: THE CARDS: each row of YtlmclpbkhhgekaaDoorRows.lean that lists a variable, with what it lists TIED to the program's text (the seventh form; the later family's looks); each row that meets fmt, with fmt's text TOLD by the authors' own Lean function (tested against real Go, not proved from fmt's source: count such statements apart). THE CARD IS WHAT COUNTS. Prove the row's statement (the work); the ties are given (YtlmclpbkhhgekaaDoorTie.lean); close each card by the builder's one call (the guide's Derived/Test/ToyasCard.lean, 'card_holds'). Laid BY PROGRAM, IN A SANDBOX (cutbox-door.mjs). By AI agents, Wed Nov 11 2026. No macro, syntax, notation, axiom, sorry.
-/
import Derived.Test.YtlmclpbkhhgekaaDoorRows
import GoSem.ClaimSeven
namespace Go.Proofs.YtlmclpbkhhgekaaDoor
namespace Rows

/-- THE TIED CARD OF 'stockyardlaw08.StreamSources'. -/
def streamSourcesCard : Claim7 := { stood := { row := streamSourcesRow, standIns := [], harness := (true, "46aef4f59e62c26eb92a5cdf54594e854c2bdde984876505d5b6a07245f51816"), looks := false }, kinds := [], alts := [], laidByText := true, laidKinds := [.data, .pinned], laidTests := true, laidLooks := .later }
def StreamSourcesCardSaid : Prop := Claim7.holds Tryd.pinned (.plain (OpenSpec.ofChange streamSourcesSpec)) streamSourcesCard

/-- THE TIED CARD OF 'stockyardlaw08.StreamChecks'. -/
def streamChecksCard : Claim7 := { stood := { row := streamChecksRow, standIns := [], harness := (true, "46aef4f59e62c26eb92a5cdf54594e854c2bdde984876505d5b6a07245f51816"), looks := false }, kinds := [], alts := [], laidByText := true, laidKinds := [.data, .pinned], laidTests := true, laidLooks := .later }
def StreamChecksCardSaid : Prop := Claim7.holds Tryd.pinned (.plain (OpenSpec.ofChange streamChecksSpec)) streamChecksCard

/-- THE TIED CARD OF 'stockyardlaw08.StreamLast'. -/
def streamLastCard : Claim7 := { stood := { row := streamLastRow, standIns := [], harness := (true, "46aef4f59e62c26eb92a5cdf54594e854c2bdde984876505d5b6a07245f51816"), looks := false }, kinds := [], alts := [], laidByText := true, laidKinds := [.data, .pinned], laidTests := true, laidLooks := .later }
def StreamLastCardSaid : Prop := Claim7.holds Tryd.pinned (.plain (OpenSpec.ofChange streamLastSpec)) streamLastCard

/-- THE TIED CARD OF 'stockyardlaw08.StreamChild'. -/
def streamChildCard : Claim7 := { stood := { row := streamChildRow, standIns := [], harness := (true, "46aef4f59e62c26eb92a5cdf54594e854c2bdde984876505d5b6a07245f51816"), looks := false }, kinds := [], alts := [], laidByText := true, laidKinds := [.data, .pinned], laidTests := true, laidLooks := .later }
def StreamChildCardSaid : Prop := Claim7.holds Tryd.pinned (.plain (OpenSpec.ofChange streamChildSpec)) streamChildCard

/-- THE TIED CARD OF 'stockyardlaw08.StreamNarrows'. -/
def streamNarrowsCard : Claim7 := { stood := { row := streamNarrowsRow, standIns := [], harness := (true, "46aef4f59e62c26eb92a5cdf54594e854c2bdde984876505d5b6a07245f51816"), looks := false }, kinds := [], alts := [], laidByText := true, laidKinds := [.data, .pinned], laidTests := true, laidLooks := .later }
def StreamNarrowsCardSaid : Prop := Claim7.holds Tryd.pinned (.plain (OpenSpec.ofChange streamNarrowsSpec)) streamNarrowsCard

/-- THE TIED CARD OF 'stockyardlaw08.StreamAncestors'. -/
def streamAncestorsCard : Claim7 := { stood := { row := streamAncestorsRow, standIns := [], harness := (true, "46aef4f59e62c26eb92a5cdf54594e854c2bdde984876505d5b6a07245f51816"), looks := false }, kinds := [], alts := [], laidByText := true, laidKinds := [.data, .pinned], laidTests := true, laidLooks := .later }
def StreamAncestorsCardSaid : Prop := Claim7.holds Tryd.pinned (.plain (OpenSpec.ofChange streamAncestorsSpec)) streamAncestorsCard

/-- THE SECOND FORM's CARD OF 'stockyardlaw08.StreamSources'. -/
def streamSourcesUptoCard : Claim7 := { stood := { row := streamSourcesUptoRow, standIns := [], harness := (true, "46aef4f59e62c26eb92a5cdf54594e854c2bdde984876505d5b6a07245f51816"), looks := false }, kinds := [], alts := [], laidByText := true, laidKinds := [.data, .pinned], laidTests := true, laidLooks := .later }
def StreamSourcesUptoCardSaid : Prop := Claim7.holds Tryd.pinned (.plain (OpenSpec.upto streamSourcesSpec)) streamSourcesUptoCard

/-- THE SECOND FORM's CARD OF 'stockyardlaw08.StreamChecks'. -/
def streamChecksUptoCard : Claim7 := { stood := { row := streamChecksUptoRow, standIns := [], harness := (true, "46aef4f59e62c26eb92a5cdf54594e854c2bdde984876505d5b6a07245f51816"), looks := false }, kinds := [], alts := [], laidByText := true, laidKinds := [.data, .pinned], laidTests := true, laidLooks := .later }
def StreamChecksUptoCardSaid : Prop := Claim7.holds Tryd.pinned (.plain (OpenSpec.upto streamChecksSpec)) streamChecksUptoCard

/-- THE SECOND FORM's CARD OF 'stockyardlaw08.StreamLast'. -/
def streamLastUptoCard : Claim7 := { stood := { row := streamLastUptoRow, standIns := [], harness := (true, "46aef4f59e62c26eb92a5cdf54594e854c2bdde984876505d5b6a07245f51816"), looks := false }, kinds := [], alts := [], laidByText := true, laidKinds := [.data, .pinned], laidTests := true, laidLooks := .later }
def StreamLastUptoCardSaid : Prop := Claim7.holds Tryd.pinned (.plain (OpenSpec.upto streamLastSpec)) streamLastUptoCard

/-- THE SECOND FORM's CARD OF 'stockyardlaw08.StreamChild'. -/
def streamChildUptoCard : Claim7 := { stood := { row := streamChildUptoRow, standIns := [], harness := (true, "46aef4f59e62c26eb92a5cdf54594e854c2bdde984876505d5b6a07245f51816"), looks := false }, kinds := [], alts := [], laidByText := true, laidKinds := [.data, .pinned], laidTests := true, laidLooks := .later }
def StreamChildUptoCardSaid : Prop := Claim7.holds Tryd.pinned (.plain (OpenSpec.upto streamChildSpec)) streamChildUptoCard

/-- THE SECOND FORM's CARD OF 'stockyardlaw08.StreamNarrows'. -/
def streamNarrowsUptoCard : Claim7 := { stood := { row := streamNarrowsUptoRow, standIns := [], harness := (true, "46aef4f59e62c26eb92a5cdf54594e854c2bdde984876505d5b6a07245f51816"), looks := false }, kinds := [], alts := [], laidByText := true, laidKinds := [.data, .pinned], laidTests := true, laidLooks := .later }
def StreamNarrowsUptoCardSaid : Prop := Claim7.holds Tryd.pinned (.plain (OpenSpec.upto streamNarrowsSpec)) streamNarrowsUptoCard

/-- THE SECOND FORM's CARD OF 'stockyardlaw08.StreamAncestors'. -/
def streamAncestorsUptoCard : Claim7 := { stood := { row := streamAncestorsUptoRow, standIns := [], harness := (true, "46aef4f59e62c26eb92a5cdf54594e854c2bdde984876505d5b6a07245f51816"), looks := false }, kinds := [], alts := [], laidByText := true, laidKinds := [.data, .pinned], laidTests := true, laidLooks := .later }
def StreamAncestorsUptoCardSaid : Prop := Claim7.holds Tryd.pinned (.plain (OpenSpec.upto streamAncestorsSpec)) streamAncestorsUptoCard
end Rows
end Go.Proofs.YtlmclpbkhhgekaaDoor
