/-
  NARROWER THAN 'FOR EVERY INPUT', by the rows' own cells (each row's printed sentence says how): StreamSources: laid · StreamChecks: laid · StreamLast: laid · StreamChild: laid · StreamNarrows: laid · StreamAncestors: laid.
  DERIVED. THE GIVEN ROWS OF THIS SEAT. 6 by the template 'for every input the law returns true; each argument reads behind the call as it read before'; 0 by the template 'total and deterministic' (their statements: YtlmclpbkhhgekaaDoorTotals.lean).
  GIVEN WITH THE SEED: the statements are not yours to turn. If you find one false, say at which input.
  Laid BY PROGRAM, IN A SANDBOX (cutbox-rows.mjs): the forced cells as the released guide's own fill.sh prints them over the translation 1e1eccdfa81514d0… (all of the seat's roots in one cut). By AI agents, Wed Nov 11 2026. No macro, syntax, notation, axiom, sorry.
-/
import Derived.Test.YtlmclpbkhhgekaaDoorChecked
import GoSem.PinnedTables
import GoSem.Claim
import GoSem.ClaimJoined
import GoSem.ClaimMapViews
import Derived.JoinedTies
import Derived.KernelRfl
namespace Go.Proofs.YtlmclpbkhhgekaaDoor
/- THE CELL 'sum', in the pinned program and in every row, IS THE sha256 OF THE DUMP (.gsa) THAT YtlmclpbkhhgekaaDoorProg.lean LOADS. Nothing in Lean hashes anything: it is a label: what it is worth is what the hold of that sum in a sandbox is worth. -/
noncomputable def Tryd.pinned : Pinned := { name := "ytlmclpbkhhgekaadoor", sum := "1e1eccdfa81514d0c96805575e8bfa3a3dbbbd3db84cf3d9091ca3da4593c569", checked := Tryd.checked }
namespace Rows
def none {H : Type} : Left H := { results := [], args := [] }

/- WHAT THE LISTED PACKAGE-LEVEL VARIABLES READ AS WHEN THE CALL BEGINS. Each datum BY PROGRAM (the guide's laid-datum.mjs) off the statement by which the dump's own 'gosem.cut.vars' lays the variable. In a bare row this is a premise. The card (YtlmclpbkhhgekaaDoorCards.lean) ties it to the program's text. -/
def laid_unicode_utf8_acceptRanges {H : Type} : DataW H := .agg [.agg [.lit (.int .u8 128), .lit (.int .u8 191)], .agg [.lit (.int .u8 160), .lit (.int .u8 191)], .agg [.lit (.int .u8 128), .lit (.int .u8 159)], .agg [.lit (.int .u8 144), .lit (.int .u8 191)], .agg [.lit (.int .u8 128), .lit (.int .u8 143)], .agg [.lit (.int .u8 0), .lit (.int .u8 0)], .agg [.lit (.int .u8 0), .lit (.int .u8 0)], .agg [.lit (.int .u8 0), .lit (.int .u8 0)], .agg [.lit (.int .u8 0), .lit (.int .u8 0)], .agg [.lit (.int .u8 0), .lit (.int .u8 0)], .agg [.lit (.int .u8 0), .lit (.int .u8 0)], .agg [.lit (.int .u8 0), .lit (.int .u8 0)], .agg [.lit (.int .u8 0), .lit (.int .u8 0)], .agg [.lit (.int .u8 0), .lit (.int .u8 0)], .agg [.lit (.int .u8 0), .lit (.int .u8 0)], .agg [.lit (.int .u8 0), .lit (.int .u8 0)]]
/-- One of Go's own tables, pinned by name: the form's constant. -/
def laid_unicode_utf8_first : DataW Unit := Go.Pinned.utf8First

/-- 'stockyardlaw08.StreamSources': WHATEVER THE INPUT: true; the input reads as it did. -/
def streamSourcesSpec : ChangeSpec := { name := "streamSources", fn := fun _ => fun
  | [d1, d2, d3, d4] => { results := [.lit (.bool true)], args := [d1, d2, d3, d4] }
  | _ => none }
def streamSourcesRow : OpenClaim := { program := "ytlmclpbkhhgekaadoor", sum := "1e1eccdfa81514d0c96805575e8bfa3a3dbbbd3db84cf3d9091ca3da4593c569", func := "stockyard/stockyardlaw08.StreamSources", spec := "streamSources", inPlace := ["internal/bytealg.CountString", "internal/bytealg.IndexByteString", "internal/bytealg.IndexString", "internal/abi.NoEscape", "internal/bytealg.MakeNoZero"], unfollowed := true, recurses := true, named := ["unicode/utf8.first", "unicode/utf8.acceptRanges", "internal/bytealg.MaxLen"], apart := false, laid := [("unicode/utf8.acceptRanges", laid_unicode_utf8_acceptRanges), ("unicode/utf8.first", laid_unicode_utf8_first)] }
def StreamSourcesSaid : Prop := streamSourcesRow.holds Tryd.pinned (OpenSpec.ofChange streamSourcesSpec)

/-- ITS FALSE NEIGHBOUR: 'it returns false'. Refute it at one input. -/
def streamSourcesWrong : ChangeSpec := { name := "streamSources", fn := fun _ => fun
  | [d1, d2, d3, d4] => { results := [.lit (.bool false)], args := [d1, d2, d3, d4] }
  | _ => none }
def StreamSourcesWrongFalsely : Prop := streamSourcesRow.holds Tryd.pinned (OpenSpec.ofChange streamSourcesWrong)

/-- 'stockyardlaw08.StreamChecks': WHATEVER THE INPUT: true; the input reads as it did. -/
def streamChecksSpec : ChangeSpec := { name := "streamChecks", fn := fun _ => fun
  | [d] => { results := [.lit (.bool true)], args := [d] }
  | _ => none }
def streamChecksRow : OpenClaim := { program := "ytlmclpbkhhgekaadoor", sum := "1e1eccdfa81514d0c96805575e8bfa3a3dbbbd3db84cf3d9091ca3da4593c569", func := "stockyard/stockyardlaw08.StreamChecks", spec := "streamChecks", inPlace := ["internal/bytealg.CountString", "internal/bytealg.IndexByteString", "internal/bytealg.IndexString", "internal/abi.NoEscape", "internal/bytealg.MakeNoZero"], unfollowed := true, recurses := true, named := ["unicode/utf8.first", "unicode/utf8.acceptRanges", "internal/bytealg.MaxLen"], apart := false, laid := [("unicode/utf8.acceptRanges", laid_unicode_utf8_acceptRanges), ("unicode/utf8.first", laid_unicode_utf8_first)] }
def StreamChecksSaid : Prop := streamChecksRow.holds Tryd.pinned (OpenSpec.ofChange streamChecksSpec)

/-- ITS FALSE NEIGHBOUR: 'it returns false'. Refute it at one input. -/
def streamChecksWrong : ChangeSpec := { name := "streamChecks", fn := fun _ => fun
  | [d] => { results := [.lit (.bool false)], args := [d] }
  | _ => none }
def StreamChecksWrongFalsely : Prop := streamChecksRow.holds Tryd.pinned (OpenSpec.ofChange streamChecksWrong)

/-- 'stockyardlaw08.StreamLast': WHATEVER THE INPUT: true; the input reads as it did. -/
def streamLastSpec : ChangeSpec := { name := "streamLast", fn := fun _ => fun
  | [d1, d2, d3, d4] => { results := [.lit (.bool true)], args := [d1, d2, d3, d4] }
  | _ => none }
def streamLastRow : OpenClaim := { program := "ytlmclpbkhhgekaadoor", sum := "1e1eccdfa81514d0c96805575e8bfa3a3dbbbd3db84cf3d9091ca3da4593c569", func := "stockyard/stockyardlaw08.StreamLast", spec := "streamLast", inPlace := ["internal/bytealg.CountString", "internal/bytealg.IndexByteString", "internal/bytealg.IndexString", "internal/abi.NoEscape", "internal/bytealg.MakeNoZero"], unfollowed := true, recurses := true, named := ["unicode/utf8.first", "unicode/utf8.acceptRanges", "internal/bytealg.MaxLen"], apart := false, laid := [("unicode/utf8.acceptRanges", laid_unicode_utf8_acceptRanges), ("unicode/utf8.first", laid_unicode_utf8_first)] }
def StreamLastSaid : Prop := streamLastRow.holds Tryd.pinned (OpenSpec.ofChange streamLastSpec)

/-- ITS FALSE NEIGHBOUR: 'it returns false'. Refute it at one input. -/
def streamLastWrong : ChangeSpec := { name := "streamLast", fn := fun _ => fun
  | [d1, d2, d3, d4] => { results := [.lit (.bool false)], args := [d1, d2, d3, d4] }
  | _ => none }
def StreamLastWrongFalsely : Prop := streamLastRow.holds Tryd.pinned (OpenSpec.ofChange streamLastWrong)

/-- 'stockyardlaw08.StreamChild': WHATEVER THE INPUT: true; the input reads as it did. -/
def streamChildSpec : ChangeSpec := { name := "streamChild", fn := fun _ => fun
  | [d1, d2, d3, d4] => { results := [.lit (.bool true)], args := [d1, d2, d3, d4] }
  | _ => none }
def streamChildRow : OpenClaim := { program := "ytlmclpbkhhgekaadoor", sum := "1e1eccdfa81514d0c96805575e8bfa3a3dbbbd3db84cf3d9091ca3da4593c569", func := "stockyard/stockyardlaw08.StreamChild", spec := "streamChild", inPlace := ["internal/bytealg.CountString", "internal/bytealg.IndexByteString", "internal/bytealg.IndexString", "internal/abi.NoEscape", "internal/bytealg.MakeNoZero"], unfollowed := true, recurses := true, named := ["unicode/utf8.first", "unicode/utf8.acceptRanges", "internal/bytealg.MaxLen"], apart := false, laid := [("unicode/utf8.acceptRanges", laid_unicode_utf8_acceptRanges), ("unicode/utf8.first", laid_unicode_utf8_first)] }
def StreamChildSaid : Prop := streamChildRow.holds Tryd.pinned (OpenSpec.ofChange streamChildSpec)

/-- ITS FALSE NEIGHBOUR: 'it returns false'. Refute it at one input. -/
def streamChildWrong : ChangeSpec := { name := "streamChild", fn := fun _ => fun
  | [d1, d2, d3, d4] => { results := [.lit (.bool false)], args := [d1, d2, d3, d4] }
  | _ => none }
def StreamChildWrongFalsely : Prop := streamChildRow.holds Tryd.pinned (OpenSpec.ofChange streamChildWrong)

/-- 'stockyardlaw08.StreamNarrows': WHATEVER THE INPUT: true; the input reads as it did. -/
def streamNarrowsSpec : ChangeSpec := { name := "streamNarrows", fn := fun _ => fun
  | [d1, d2, d3] => { results := [.lit (.bool true)], args := [d1, d2, d3] }
  | _ => none }
def streamNarrowsRow : OpenClaim := { program := "ytlmclpbkhhgekaadoor", sum := "1e1eccdfa81514d0c96805575e8bfa3a3dbbbd3db84cf3d9091ca3da4593c569", func := "stockyard/stockyardlaw08.StreamNarrows", spec := "streamNarrows", inPlace := ["internal/bytealg.CountString", "internal/bytealg.IndexByteString", "internal/bytealg.IndexString", "internal/abi.NoEscape", "internal/bytealg.MakeNoZero"], unfollowed := true, recurses := true, named := ["unicode/utf8.first", "unicode/utf8.acceptRanges", "internal/bytealg.MaxLen"], apart := false, laid := [("unicode/utf8.acceptRanges", laid_unicode_utf8_acceptRanges), ("unicode/utf8.first", laid_unicode_utf8_first)] }
def StreamNarrowsSaid : Prop := streamNarrowsRow.holds Tryd.pinned (OpenSpec.ofChange streamNarrowsSpec)

/-- ITS FALSE NEIGHBOUR: 'it returns false'. Refute it at one input. -/
def streamNarrowsWrong : ChangeSpec := { name := "streamNarrows", fn := fun _ => fun
  | [d1, d2, d3] => { results := [.lit (.bool false)], args := [d1, d2, d3] }
  | _ => none }
def StreamNarrowsWrongFalsely : Prop := streamNarrowsRow.holds Tryd.pinned (OpenSpec.ofChange streamNarrowsWrong)

/-- 'stockyardlaw08.StreamAncestors': WHATEVER THE INPUT: true; the input reads as it did. -/
def streamAncestorsSpec : ChangeSpec := { name := "streamAncestors", fn := fun _ => fun
  | [d1, d2] => { results := [.lit (.bool true)], args := [d1, d2] }
  | _ => none }
def streamAncestorsRow : OpenClaim := { program := "ytlmclpbkhhgekaadoor", sum := "1e1eccdfa81514d0c96805575e8bfa3a3dbbbd3db84cf3d9091ca3da4593c569", func := "stockyard/stockyardlaw08.StreamAncestors", spec := "streamAncestors", inPlace := ["internal/bytealg.CountString", "internal/bytealg.IndexByteString", "internal/bytealg.IndexString", "internal/abi.NoEscape", "internal/bytealg.MakeNoZero"], unfollowed := true, recurses := true, named := ["unicode/utf8.first", "unicode/utf8.acceptRanges", "internal/bytealg.MaxLen"], apart := false, laid := [("unicode/utf8.acceptRanges", laid_unicode_utf8_acceptRanges), ("unicode/utf8.first", laid_unicode_utf8_first)] }
def StreamAncestorsSaid : Prop := streamAncestorsRow.holds Tryd.pinned (OpenSpec.ofChange streamAncestorsSpec)

/-- ITS FALSE NEIGHBOUR: 'it returns false'. Refute it at one input. -/
def streamAncestorsWrong : ChangeSpec := { name := "streamAncestors", fn := fun _ => fun
  | [d1, d2] => { results := [.lit (.bool false)], args := [d1, d2] }
  | _ => none }
def StreamAncestorsWrongFalsely : Prop := streamAncestorsRow.holds Tryd.pinned (OpenSpec.ofChange streamAncestorsWrong)

/- THE SECOND FORM. 'bulk': how many values and letters a reading holds, each counted each time it is reached (what is shared counts as often as it is met; a slice's spare places count too). A statement '..UptoSaid' is the law's where the arguments, and the package variables that the reading takes, are together of bulk at most 1048576: NARROWER than '..Said'. Prove '..Said' where nothing that the law and all that it calls make is longer than what came in: it says more and counts as full. Else prove '..UptoSaid'. A law counts once. -/
mutual
def uptoBulk {H : Type} : DataW H → Nat
  | .lit (.string bytes) => bytes.length + 1
  | .lit _ => 1
  | .nil => 1
  | .ptr d => uptoBulk d + 1
  | .slice elems spare => uptoBulkAll elems + uptoBulkAll spare + 1
  | .agg parts => uptoBulkAll parts + 1
  | .iface _ d => uptoBulk d + 1
  | .map entries => uptoBulkEntries entries + 1
  | .held _ => 1
def uptoBulkAll {H : Type} : List (DataW H) → Nat
  | [] => 0
  | d :: r => uptoBulk d + uptoBulkAll r
def uptoBulkEntries {H : Type} : List (Lit × DataW H) → Nat
  | [] => 0
  | x :: r => uptoBulkEntry x + uptoBulkEntries r
def uptoBulkEntry {H : Type} : Lit × DataW H → Nat
  | (.string bytes, d) => bytes.length + uptoBulk d + 1
  | (_, d) => uptoBulk d + 1
 end
def uptoSmall : (H : Type) → List (DataW H) → Bool := fun _ ds => decide (uptoBulkAll ds ≤ 1048576)
def OpenSpec.upto (s : _root_.Go.ChangeSpec) : _root_.Go.OpenSpec := { _root_.Go.OpenSpec.ofChange s with cond := some uptoSmall }

/-- 'stockyardlaw08.StreamSources', WHERE WHAT IT READS IS OF BULK AT MOST 1048576: true; the input reads as it did. -/
def streamSourcesUptoRow : OpenClaim := { program := "ytlmclpbkhhgekaadoor", sum := "1e1eccdfa81514d0c96805575e8bfa3a3dbbbd3db84cf3d9091ca3da4593c569", func := "stockyard/stockyardlaw08.StreamSources", spec := "streamSources", inPlace := ["internal/bytealg.CountString", "internal/bytealg.IndexByteString", "internal/bytealg.IndexString", "internal/abi.NoEscape", "internal/bytealg.MakeNoZero"], unfollowed := true, recurses := true, named := ["unicode/utf8.first", "unicode/utf8.acceptRanges", "internal/bytealg.MaxLen"], apart := false, laid := [("unicode/utf8.acceptRanges", laid_unicode_utf8_acceptRanges), ("unicode/utf8.first", laid_unicode_utf8_first)], narrowed := true }
def StreamSourcesUptoSaid : Prop := streamSourcesUptoRow.holds Tryd.pinned (OpenSpec.upto streamSourcesSpec)

/-- 'stockyardlaw08.StreamChecks', WHERE WHAT IT READS IS OF BULK AT MOST 1048576: true; the input reads as it did. -/
def streamChecksUptoRow : OpenClaim := { program := "ytlmclpbkhhgekaadoor", sum := "1e1eccdfa81514d0c96805575e8bfa3a3dbbbd3db84cf3d9091ca3da4593c569", func := "stockyard/stockyardlaw08.StreamChecks", spec := "streamChecks", inPlace := ["internal/bytealg.CountString", "internal/bytealg.IndexByteString", "internal/bytealg.IndexString", "internal/abi.NoEscape", "internal/bytealg.MakeNoZero"], unfollowed := true, recurses := true, named := ["unicode/utf8.first", "unicode/utf8.acceptRanges", "internal/bytealg.MaxLen"], apart := false, laid := [("unicode/utf8.acceptRanges", laid_unicode_utf8_acceptRanges), ("unicode/utf8.first", laid_unicode_utf8_first)], narrowed := true }
def StreamChecksUptoSaid : Prop := streamChecksUptoRow.holds Tryd.pinned (OpenSpec.upto streamChecksSpec)

/-- 'stockyardlaw08.StreamLast', WHERE WHAT IT READS IS OF BULK AT MOST 1048576: true; the input reads as it did. -/
def streamLastUptoRow : OpenClaim := { program := "ytlmclpbkhhgekaadoor", sum := "1e1eccdfa81514d0c96805575e8bfa3a3dbbbd3db84cf3d9091ca3da4593c569", func := "stockyard/stockyardlaw08.StreamLast", spec := "streamLast", inPlace := ["internal/bytealg.CountString", "internal/bytealg.IndexByteString", "internal/bytealg.IndexString", "internal/abi.NoEscape", "internal/bytealg.MakeNoZero"], unfollowed := true, recurses := true, named := ["unicode/utf8.first", "unicode/utf8.acceptRanges", "internal/bytealg.MaxLen"], apart := false, laid := [("unicode/utf8.acceptRanges", laid_unicode_utf8_acceptRanges), ("unicode/utf8.first", laid_unicode_utf8_first)], narrowed := true }
def StreamLastUptoSaid : Prop := streamLastUptoRow.holds Tryd.pinned (OpenSpec.upto streamLastSpec)

/-- 'stockyardlaw08.StreamChild', WHERE WHAT IT READS IS OF BULK AT MOST 1048576: true; the input reads as it did. -/
def streamChildUptoRow : OpenClaim := { program := "ytlmclpbkhhgekaadoor", sum := "1e1eccdfa81514d0c96805575e8bfa3a3dbbbd3db84cf3d9091ca3da4593c569", func := "stockyard/stockyardlaw08.StreamChild", spec := "streamChild", inPlace := ["internal/bytealg.CountString", "internal/bytealg.IndexByteString", "internal/bytealg.IndexString", "internal/abi.NoEscape", "internal/bytealg.MakeNoZero"], unfollowed := true, recurses := true, named := ["unicode/utf8.first", "unicode/utf8.acceptRanges", "internal/bytealg.MaxLen"], apart := false, laid := [("unicode/utf8.acceptRanges", laid_unicode_utf8_acceptRanges), ("unicode/utf8.first", laid_unicode_utf8_first)], narrowed := true }
def StreamChildUptoSaid : Prop := streamChildUptoRow.holds Tryd.pinned (OpenSpec.upto streamChildSpec)

/-- 'stockyardlaw08.StreamNarrows', WHERE WHAT IT READS IS OF BULK AT MOST 1048576: true; the input reads as it did. -/
def streamNarrowsUptoRow : OpenClaim := { program := "ytlmclpbkhhgekaadoor", sum := "1e1eccdfa81514d0c96805575e8bfa3a3dbbbd3db84cf3d9091ca3da4593c569", func := "stockyard/stockyardlaw08.StreamNarrows", spec := "streamNarrows", inPlace := ["internal/bytealg.CountString", "internal/bytealg.IndexByteString", "internal/bytealg.IndexString", "internal/abi.NoEscape", "internal/bytealg.MakeNoZero"], unfollowed := true, recurses := true, named := ["unicode/utf8.first", "unicode/utf8.acceptRanges", "internal/bytealg.MaxLen"], apart := false, laid := [("unicode/utf8.acceptRanges", laid_unicode_utf8_acceptRanges), ("unicode/utf8.first", laid_unicode_utf8_first)], narrowed := true }
def StreamNarrowsUptoSaid : Prop := streamNarrowsUptoRow.holds Tryd.pinned (OpenSpec.upto streamNarrowsSpec)

/-- 'stockyardlaw08.StreamAncestors', WHERE WHAT IT READS IS OF BULK AT MOST 1048576: true; the input reads as it did. -/
def streamAncestorsUptoRow : OpenClaim := { program := "ytlmclpbkhhgekaadoor", sum := "1e1eccdfa81514d0c96805575e8bfa3a3dbbbd3db84cf3d9091ca3da4593c569", func := "stockyard/stockyardlaw08.StreamAncestors", spec := "streamAncestors", inPlace := ["internal/bytealg.CountString", "internal/bytealg.IndexByteString", "internal/bytealg.IndexString", "internal/abi.NoEscape", "internal/bytealg.MakeNoZero"], unfollowed := true, recurses := true, named := ["unicode/utf8.first", "unicode/utf8.acceptRanges", "internal/bytealg.MaxLen"], apart := false, laid := [("unicode/utf8.acceptRanges", laid_unicode_utf8_acceptRanges), ("unicode/utf8.first", laid_unicode_utf8_first)], narrowed := true }
def StreamAncestorsUptoSaid : Prop := streamAncestorsUptoRow.holds Tryd.pinned (OpenSpec.upto streamAncestorsSpec)

end Rows
end Go.Proofs.YtlmclpbkhhgekaaDoor
