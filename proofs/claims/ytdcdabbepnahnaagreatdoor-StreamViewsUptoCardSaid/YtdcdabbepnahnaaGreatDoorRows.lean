/-
  NARROWER THAN 'FOR EVERY INPUT', by the rows' own cells (each row's printed sentence says how): StreamViews: laid · StreamViewMeans: laid · StreamBetweenMeans: laid · StreamChain: laid.
  DERIVED. THE GIVEN ROWS OF THIS SEAT. 4 by the template 'for every input the law returns true; each argument reads behind the call as it read before'; 0 by the template 'total and deterministic' (their statements: YtdcdabbepnahnaaGreatDoorTotals.lean).
  GIVEN WITH THE SEED: the statements are not yours to turn. If you find one false, say at which input.
  Laid BY PROGRAM, IN A SANDBOX (cutbox-rows.mjs): the forced cells as the released guide's own fill.sh prints them over the translation 95b31d83b4a9cac6… (all of the seat's roots in one cut). By AI agents, Wed Nov 11 2026. No macro, syntax, notation, axiom, sorry.
-/
import Derived.Test.YtdcdabbepnahnaaGreatDoorChecked
import GoSem.PinnedTables
import GoSem.Claim
import GoSem.ClaimJoined
import GoSem.ClaimMapViews
import Derived.JoinedTies
import Derived.KernelRfl
namespace Go.Proofs.YtdcdabbepnahnaaGreatDoor
/- THE CELL 'sum', in the pinned program and in every row, IS THE sha256 OF THE DUMP (.gsa) THAT YtdcdabbepnahnaaGreatDoorProg.lean LOADS. Nothing in Lean hashes anything: it is a label: what it is worth is what the hold of that sum in a sandbox is worth. -/
noncomputable def Tryz.pinned : Pinned := { name := "ytdcdabbepnahnaagreatdoor", sum := "95b31d83b4a9cac6427172e4f114ef736425907e8b206e30cde4dbf692ac98b3", checked := Tryz.checked }
namespace Rows
def none {H : Type} : Left H := { results := [], args := [] }

/- WHAT THE LISTED PACKAGE-LEVEL VARIABLES READ AS WHEN THE CALL BEGINS. Each datum BY PROGRAM (the guide's laid-datum.mjs) off the statement by which the dump's own 'gosem.cut.vars' lays the variable. In a bare row this is a premise. The card (YtdcdabbepnahnaaGreatDoorCards.lean) ties it to the program's text. -/
def laid_unicode_utf8_acceptRanges {H : Type} : DataW H := .agg [.agg [.lit (.int .u8 128), .lit (.int .u8 191)], .agg [.lit (.int .u8 160), .lit (.int .u8 191)], .agg [.lit (.int .u8 128), .lit (.int .u8 159)], .agg [.lit (.int .u8 144), .lit (.int .u8 191)], .agg [.lit (.int .u8 128), .lit (.int .u8 143)], .agg [.lit (.int .u8 0), .lit (.int .u8 0)], .agg [.lit (.int .u8 0), .lit (.int .u8 0)], .agg [.lit (.int .u8 0), .lit (.int .u8 0)], .agg [.lit (.int .u8 0), .lit (.int .u8 0)], .agg [.lit (.int .u8 0), .lit (.int .u8 0)], .agg [.lit (.int .u8 0), .lit (.int .u8 0)], .agg [.lit (.int .u8 0), .lit (.int .u8 0)], .agg [.lit (.int .u8 0), .lit (.int .u8 0)], .agg [.lit (.int .u8 0), .lit (.int .u8 0)], .agg [.lit (.int .u8 0), .lit (.int .u8 0)], .agg [.lit (.int .u8 0), .lit (.int .u8 0)]]
/-- One of Go's own tables, pinned by name: the form's constant. -/
def laid_unicode_utf8_first : DataW Unit := Go.Pinned.utf8First

/-- 'stockyardlaw08.StreamViews': WHATEVER THE INPUT: true; the input reads as it did. -/
def streamViewsSpec : ChangeSpec := { name := "streamViews", fn := fun _ => fun
  | [d1, d2] => { results := [.lit (.bool true)], args := [d1, d2] }
  | _ => none }
def streamViewsRow : OpenClaim := { program := "ytdcdabbepnahnaagreatdoor", sum := "95b31d83b4a9cac6427172e4f114ef736425907e8b206e30cde4dbf692ac98b3", func := "stockyard/stockyardlaw08.StreamViews", spec := "streamViews", inPlace := ["internal/bytealg.CountString", "internal/bytealg.IndexByteString", "internal/bytealg.IndexString", "internal/abi.NoEscape", "internal/bytealg.MakeNoZero", "internal/bytealg.abigen_runtime_cmpstring"], unfollowed := true, recurses := true, named := ["unicode/utf8.first", "unicode/utf8.acceptRanges", "internal/bytealg.MaxLen"], apart := false, laid := [("unicode/utf8.acceptRanges", laid_unicode_utf8_acceptRanges), ("unicode/utf8.first", laid_unicode_utf8_first)] }
def StreamViewsSaid : Prop := streamViewsRow.holds Tryz.pinned (OpenSpec.ofChange streamViewsSpec)

/-- ITS FALSE NEIGHBOUR: 'it returns false'. Refute it at one input. -/
def streamViewsWrong : ChangeSpec := { name := "streamViews", fn := fun _ => fun
  | [d1, d2] => { results := [.lit (.bool false)], args := [d1, d2] }
  | _ => none }
def StreamViewsWrongFalsely : Prop := streamViewsRow.holds Tryz.pinned (OpenSpec.ofChange streamViewsWrong)

/-- 'stockyardlaw08.StreamViewMeans': WHATEVER THE INPUT: true; the input reads as it did. -/
def streamViewMeansSpec : ChangeSpec := { name := "streamViewMeans", fn := fun _ => fun
  | [d1, d2, d3] => { results := [.lit (.bool true)], args := [d1, d2, d3] }
  | _ => none }
def streamViewMeansRow : OpenClaim := { program := "ytdcdabbepnahnaagreatdoor", sum := "95b31d83b4a9cac6427172e4f114ef736425907e8b206e30cde4dbf692ac98b3", func := "stockyard/stockyardlaw08.StreamViewMeans", spec := "streamViewMeans", inPlace := ["internal/bytealg.CountString", "internal/bytealg.IndexByteString", "internal/bytealg.IndexString", "internal/abi.NoEscape", "internal/bytealg.MakeNoZero", "internal/bytealg.abigen_runtime_cmpstring"], unfollowed := true, recurses := true, named := ["unicode/utf8.first", "unicode/utf8.acceptRanges", "internal/bytealg.MaxLen"], apart := false, laid := [("unicode/utf8.acceptRanges", laid_unicode_utf8_acceptRanges), ("unicode/utf8.first", laid_unicode_utf8_first)] }
def StreamViewMeansSaid : Prop := streamViewMeansRow.holds Tryz.pinned (OpenSpec.ofChange streamViewMeansSpec)

/-- ITS FALSE NEIGHBOUR: 'it returns false'. Refute it at one input. -/
def streamViewMeansWrong : ChangeSpec := { name := "streamViewMeans", fn := fun _ => fun
  | [d1, d2, d3] => { results := [.lit (.bool false)], args := [d1, d2, d3] }
  | _ => none }
def StreamViewMeansWrongFalsely : Prop := streamViewMeansRow.holds Tryz.pinned (OpenSpec.ofChange streamViewMeansWrong)

/-- 'stockyardlaw08.StreamBetweenMeans': WHATEVER THE INPUT: true; the input reads as it did. -/
def streamBetweenMeansSpec : ChangeSpec := { name := "streamBetweenMeans", fn := fun _ => fun
  | [d1, d2, d3] => { results := [.lit (.bool true)], args := [d1, d2, d3] }
  | _ => none }
def streamBetweenMeansRow : OpenClaim := { program := "ytdcdabbepnahnaagreatdoor", sum := "95b31d83b4a9cac6427172e4f114ef736425907e8b206e30cde4dbf692ac98b3", func := "stockyard/stockyardlaw08.StreamBetweenMeans", spec := "streamBetweenMeans", inPlace := ["internal/bytealg.CountString", "internal/bytealg.IndexByteString", "internal/bytealg.IndexString", "internal/abi.NoEscape", "internal/bytealg.MakeNoZero", "internal/bytealg.abigen_runtime_cmpstring"], unfollowed := true, recurses := true, named := ["unicode/utf8.first", "unicode/utf8.acceptRanges", "internal/bytealg.MaxLen"], apart := false, laid := [("unicode/utf8.acceptRanges", laid_unicode_utf8_acceptRanges), ("unicode/utf8.first", laid_unicode_utf8_first)] }
def StreamBetweenMeansSaid : Prop := streamBetweenMeansRow.holds Tryz.pinned (OpenSpec.ofChange streamBetweenMeansSpec)

/-- ITS FALSE NEIGHBOUR: 'it returns false'. Refute it at one input. -/
def streamBetweenMeansWrong : ChangeSpec := { name := "streamBetweenMeans", fn := fun _ => fun
  | [d1, d2, d3] => { results := [.lit (.bool false)], args := [d1, d2, d3] }
  | _ => none }
def StreamBetweenMeansWrongFalsely : Prop := streamBetweenMeansRow.holds Tryz.pinned (OpenSpec.ofChange streamBetweenMeansWrong)

/-- 'stockyardlaw08.StreamChain': WHATEVER THE INPUT: true; the input reads as it did. -/
def streamChainSpec : ChangeSpec := { name := "streamChain", fn := fun _ => fun
  | [d1, d2, d3] => { results := [.lit (.bool true)], args := [d1, d2, d3] }
  | _ => none }
def streamChainRow : OpenClaim := { program := "ytdcdabbepnahnaagreatdoor", sum := "95b31d83b4a9cac6427172e4f114ef736425907e8b206e30cde4dbf692ac98b3", func := "stockyard/stockyardlaw08.StreamChain", spec := "streamChain", inPlace := ["internal/bytealg.CountString", "internal/bytealg.IndexByteString", "internal/bytealg.IndexString", "internal/abi.NoEscape", "internal/bytealg.MakeNoZero", "internal/bytealg.abigen_runtime_cmpstring"], unfollowed := true, recurses := true, named := ["unicode/utf8.first", "unicode/utf8.acceptRanges", "internal/bytealg.MaxLen"], apart := false, laid := [("unicode/utf8.acceptRanges", laid_unicode_utf8_acceptRanges), ("unicode/utf8.first", laid_unicode_utf8_first)] }
def StreamChainSaid : Prop := streamChainRow.holds Tryz.pinned (OpenSpec.ofChange streamChainSpec)

/-- ITS FALSE NEIGHBOUR: 'it returns false'. Refute it at one input. -/
def streamChainWrong : ChangeSpec := { name := "streamChain", fn := fun _ => fun
  | [d1, d2, d3] => { results := [.lit (.bool false)], args := [d1, d2, d3] }
  | _ => none }
def StreamChainWrongFalsely : Prop := streamChainRow.holds Tryz.pinned (OpenSpec.ofChange streamChainWrong)

/- THE SECOND FORM. 'bulk': how many values and letters a reading holds, each counted each time it is reached (what is shared counts as often as it is met; a slice's spare places count too). A statement '..UptoSaid' is the law's where the arguments, and the package variables that the reading takes, are together of bulk at most 1048576: NARROWER than '..Said'. Prove '..Said' where nothing that the law and all that it calls make is longer than what came in: it says more and counts as full. Else prove '..UptoSaid'. A law counts once. -/
mutual
def uptoBulk {H : Type} : DataW H → Nat
  | .lit (.string bytes) => bytes.length + 1
  | .lit _ => 1
  | .nil => 1
  | .ptr d => uptoBulk d + 1
  | .slice elems spare => uptoBulkAll elems + uptoBulkAll spare + 1
  | .agg parts => uptoBulkAll parts + 1
  | .iface _ d => uptoBulk d + 1
  | .map entries => uptoBulkEntries entries + 1
  | .held _ => 1
def uptoBulkAll {H : Type} : List (DataW H) → Nat
  | [] => 0
  | d :: r => uptoBulk d + uptoBulkAll r
def uptoBulkEntries {H : Type} : List (Lit × DataW H) → Nat
  | [] => 0
  | x :: r => uptoBulkEntry x + uptoBulkEntries r
def uptoBulkEntry {H : Type} : Lit × DataW H → Nat
  | (.string bytes, d) => bytes.length + uptoBulk d + 1
  | (_, d) => uptoBulk d + 1
 end
def uptoSmall : (H : Type) → List (DataW H) → Bool := fun _ ds => decide (uptoBulkAll ds ≤ 1048576)
def OpenSpec.upto (s : _root_.Go.ChangeSpec) : _root_.Go.OpenSpec := { _root_.Go.OpenSpec.ofChange s with cond := some uptoSmall }

/-- 'stockyardlaw08.StreamViews', WHERE WHAT IT READS IS OF BULK AT MOST 1048576: true; the input reads as it did. -/
def streamViewsUptoRow : OpenClaim := { program := "ytdcdabbepnahnaagreatdoor", sum := "95b31d83b4a9cac6427172e4f114ef736425907e8b206e30cde4dbf692ac98b3", func := "stockyard/stockyardlaw08.StreamViews", spec := "streamViews", inPlace := ["internal/bytealg.CountString", "internal/bytealg.IndexByteString", "internal/bytealg.IndexString", "internal/abi.NoEscape", "internal/bytealg.MakeNoZero", "internal/bytealg.abigen_runtime_cmpstring"], unfollowed := true, recurses := true, named := ["unicode/utf8.first", "unicode/utf8.acceptRanges", "internal/bytealg.MaxLen"], apart := false, laid := [("unicode/utf8.acceptRanges", laid_unicode_utf8_acceptRanges), ("unicode/utf8.first", laid_unicode_utf8_first)], narrowed := true }
def StreamViewsUptoSaid : Prop := streamViewsUptoRow.holds Tryz.pinned (OpenSpec.upto streamViewsSpec)

/-- 'stockyardlaw08.StreamViewMeans', WHERE WHAT IT READS IS OF BULK AT MOST 1048576: true; the input reads as it did. -/
def streamViewMeansUptoRow : OpenClaim := { program := "ytdcdabbepnahnaagreatdoor", sum := "95b31d83b4a9cac6427172e4f114ef736425907e8b206e30cde4dbf692ac98b3", func := "stockyard/stockyardlaw08.StreamViewMeans", spec := "streamViewMeans", inPlace := ["internal/bytealg.CountString", "internal/bytealg.IndexByteString", "internal/bytealg.IndexString", "internal/abi.NoEscape", "internal/bytealg.MakeNoZero", "internal/bytealg.abigen_runtime_cmpstring"], unfollowed := true, recurses := true, named := ["unicode/utf8.first", "unicode/utf8.acceptRanges", "internal/bytealg.MaxLen"], apart := false, laid := [("unicode/utf8.acceptRanges", laid_unicode_utf8_acceptRanges), ("unicode/utf8.first", laid_unicode_utf8_first)], narrowed := true }
def StreamViewMeansUptoSaid : Prop := streamViewMeansUptoRow.holds Tryz.pinned (OpenSpec.upto streamViewMeansSpec)

/-- 'stockyardlaw08.StreamBetweenMeans', WHERE WHAT IT READS IS OF BULK AT MOST 1048576: true; the input reads as it did. -/
def streamBetweenMeansUptoRow : OpenClaim := { program := "ytdcdabbepnahnaagreatdoor", sum := "95b31d83b4a9cac6427172e4f114ef736425907e8b206e30cde4dbf692ac98b3", func := "stockyard/stockyardlaw08.StreamBetweenMeans", spec := "streamBetweenMeans", inPlace := ["internal/bytealg.CountString", "internal/bytealg.IndexByteString", "internal/bytealg.IndexString", "internal/abi.NoEscape", "internal/bytealg.MakeNoZero", "internal/bytealg.abigen_runtime_cmpstring"], unfollowed := true, recurses := true, named := ["unicode/utf8.first", "unicode/utf8.acceptRanges", "internal/bytealg.MaxLen"], apart := false, laid := [("unicode/utf8.acceptRanges", laid_unicode_utf8_acceptRanges), ("unicode/utf8.first", laid_unicode_utf8_first)], narrowed := true }
def StreamBetweenMeansUptoSaid : Prop := streamBetweenMeansUptoRow.holds Tryz.pinned (OpenSpec.upto streamBetweenMeansSpec)

/-- 'stockyardlaw08.StreamChain', WHERE WHAT IT READS IS OF BULK AT MOST 1048576: true; the input reads as it did. -/
def streamChainUptoRow : OpenClaim := { program := "ytdcdabbepnahnaagreatdoor", sum := "95b31d83b4a9cac6427172e4f114ef736425907e8b206e30cde4dbf692ac98b3", func := "stockyard/stockyardlaw08.StreamChain", spec := "streamChain", inPlace := ["internal/bytealg.CountString", "internal/bytealg.IndexByteString", "internal/bytealg.IndexString", "internal/abi.NoEscape", "internal/bytealg.MakeNoZero", "internal/bytealg.abigen_runtime_cmpstring"], unfollowed := true, recurses := true, named := ["unicode/utf8.first", "unicode/utf8.acceptRanges", "internal/bytealg.MaxLen"], apart := false, laid := [("unicode/utf8.acceptRanges", laid_unicode_utf8_acceptRanges), ("unicode/utf8.first", laid_unicode_utf8_first)], narrowed := true }
def StreamChainUptoSaid : Prop := streamChainUptoRow.holds Tryz.pinned (OpenSpec.upto streamChainSpec)

end Rows
end Go.Proofs.YtdcdabbepnahnaaGreatDoor
