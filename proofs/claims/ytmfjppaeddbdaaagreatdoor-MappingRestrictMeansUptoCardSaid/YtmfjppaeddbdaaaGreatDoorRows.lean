/-
  NARROWER THAN 'FOR EVERY INPUT', by the rows' own cells (each row's printed sentence says how): MappingChecks: laid · MappingInverts: laid · MappingInverseMeans: laid · MappingMaps: laid · MappingRestricts: laid · MappingDomainMeans: laid · MappingRestrictMeans: laid.
  DERIVED. THE GIVEN ROWS OF THIS SEAT. 7 by the template 'for every input the law returns true; each argument reads behind the call as it read before'; 0 by the template 'total and deterministic' (their statements: YtmfjppaeddbdaaaGreatDoorTotals.lean).
  GIVEN WITH THE SEED: the statements are not yours to turn. If you find one false, say at which input.
  Laid BY PROGRAM, IN A SANDBOX (cutbox-rows.mjs): the forced cells as the released guide's own fill.sh prints them over the translation 244541bec1089d48… (all of the seat's roots in one cut). By AI agents, Wed Nov 11 2026. No macro, syntax, notation, axiom, sorry.
-/
import Derived.Test.YtmfjppaeddbdaaaGreatDoorChecked
import GoSem.PinnedTables
import GoSem.Claim
import GoSem.ClaimJoined
import GoSem.ClaimMapViews
import Derived.JoinedTies
import Derived.KernelRfl
namespace Go.Proofs.YtmfjppaeddbdaaaGreatDoor
/- THE CELL 'sum', in the pinned program and in every row, IS THE sha256 OF THE DUMP (.gsa) THAT YtmfjppaeddbdaaaGreatDoorProg.lean LOADS. Nothing in Lean hashes anything: it is a label: what it is worth is what the hold of that sum in a sandbox is worth. -/
noncomputable def Tryz.pinned : Pinned := { name := "ytmfjppaeddbdaaagreatdoor", sum := "244541bec1089d48158cee570c895dd76791dca724f631a585a4a4b5e6ea91e1", checked := Tryz.checked }
namespace Rows
def none {H : Type} : Left H := { results := [], args := [] }

/- WHAT THE LISTED PACKAGE-LEVEL VARIABLES READ AS WHEN THE CALL BEGINS. Each datum BY PROGRAM (the guide's laid-datum.mjs) off the statement by which the dump's own 'gosem.cut.vars' lays the variable. In a bare row this is a premise. The card (YtmfjppaeddbdaaaGreatDoorCards.lean) ties it to the program's text. -/
def laid_unicode_utf8_acceptRanges {H : Type} : DataW H := .agg [.agg [.lit (.int .u8 128), .lit (.int .u8 191)], .agg [.lit (.int .u8 160), .lit (.int .u8 191)], .agg [.lit (.int .u8 128), .lit (.int .u8 159)], .agg [.lit (.int .u8 144), .lit (.int .u8 191)], .agg [.lit (.int .u8 128), .lit (.int .u8 143)], .agg [.lit (.int .u8 0), .lit (.int .u8 0)], .agg [.lit (.int .u8 0), .lit (.int .u8 0)], .agg [.lit (.int .u8 0), .lit (.int .u8 0)], .agg [.lit (.int .u8 0), .lit (.int .u8 0)], .agg [.lit (.int .u8 0), .lit (.int .u8 0)], .agg [.lit (.int .u8 0), .lit (.int .u8 0)], .agg [.lit (.int .u8 0), .lit (.int .u8 0)], .agg [.lit (.int .u8 0), .lit (.int .u8 0)], .agg [.lit (.int .u8 0), .lit (.int .u8 0)], .agg [.lit (.int .u8 0), .lit (.int .u8 0)], .agg [.lit (.int .u8 0), .lit (.int .u8 0)]]
/-- One of Go's own tables, pinned by name: the form's constant. -/
def laid_unicode_utf8_first : DataW Unit := Go.Pinned.utf8First

/-- 'stockyardlaw07.MappingChecks': WHATEVER THE INPUT: true; the input reads as it did. -/
def mappingChecksSpec : ChangeSpec := { name := "mappingChecks", fn := fun _ => fun
  | [d] => { results := [.lit (.bool true)], args := [d] }
  | _ => none }
def mappingChecksRow : OpenClaim := { program := "ytmfjppaeddbdaaagreatdoor", sum := "244541bec1089d48158cee570c895dd76791dca724f631a585a4a4b5e6ea91e1", func := "stockyard/stockyardlaw07.MappingChecks", spec := "mappingChecks", inPlace := ["internal/abi.NoEscape", "internal/bytealg.MakeNoZero", "internal/bytealg.abigen_runtime_cmpstring", "internal/bytealg.CountString", "internal/bytealg.IndexByteString", "internal/bytealg.IndexString"], unfollowed := true, recurses := true, named := ["unicode/utf8.first", "unicode/utf8.acceptRanges", "internal/bytealg.MaxLen"], apart := false, laid := [("unicode/utf8.acceptRanges", laid_unicode_utf8_acceptRanges), ("unicode/utf8.first", laid_unicode_utf8_first)] }
def MappingChecksSaid : Prop := mappingChecksRow.holds Tryz.pinned (OpenSpec.ofChange mappingChecksSpec)

/-- ITS FALSE NEIGHBOUR: 'it returns false'. Refute it at one input. -/
def mappingChecksWrong : ChangeSpec := { name := "mappingChecks", fn := fun _ => fun
  | [d] => { results := [.lit (.bool false)], args := [d] }
  | _ => none }
def MappingChecksWrongFalsely : Prop := mappingChecksRow.holds Tryz.pinned (OpenSpec.ofChange mappingChecksWrong)

/-- 'stockyardlaw07.MappingInverts': WHATEVER THE INPUT: true; the input reads as it did. -/
def mappingInvertsSpec : ChangeSpec := { name := "mappingInverts", fn := fun _ => fun
  | [d] => { results := [.lit (.bool true)], args := [d] }
  | _ => none }
def mappingInvertsRow : OpenClaim := { program := "ytmfjppaeddbdaaagreatdoor", sum := "244541bec1089d48158cee570c895dd76791dca724f631a585a4a4b5e6ea91e1", func := "stockyard/stockyardlaw07.MappingInverts", spec := "mappingInverts", inPlace := ["internal/abi.NoEscape", "internal/bytealg.MakeNoZero", "internal/bytealg.abigen_runtime_cmpstring", "internal/bytealg.CountString", "internal/bytealg.IndexByteString", "internal/bytealg.IndexString"], unfollowed := true, recurses := true, named := ["unicode/utf8.first", "unicode/utf8.acceptRanges", "internal/bytealg.MaxLen"], apart := false, laid := [("unicode/utf8.acceptRanges", laid_unicode_utf8_acceptRanges), ("unicode/utf8.first", laid_unicode_utf8_first)] }
def MappingInvertsSaid : Prop := mappingInvertsRow.holds Tryz.pinned (OpenSpec.ofChange mappingInvertsSpec)

/-- ITS FALSE NEIGHBOUR: 'it returns false'. Refute it at one input. -/
def mappingInvertsWrong : ChangeSpec := { name := "mappingInverts", fn := fun _ => fun
  | [d] => { results := [.lit (.bool false)], args := [d] }
  | _ => none }
def MappingInvertsWrongFalsely : Prop := mappingInvertsRow.holds Tryz.pinned (OpenSpec.ofChange mappingInvertsWrong)

/-- 'stockyardlaw07.MappingInverseMeans': WHATEVER THE INPUT: true; the input reads as it did. -/
def mappingInverseMeansSpec : ChangeSpec := { name := "mappingInverseMeans", fn := fun _ => fun
  | [d1, d2] => { results := [.lit (.bool true)], args := [d1, d2] }
  | _ => none }
def mappingInverseMeansRow : OpenClaim := { program := "ytmfjppaeddbdaaagreatdoor", sum := "244541bec1089d48158cee570c895dd76791dca724f631a585a4a4b5e6ea91e1", func := "stockyard/stockyardlaw07.MappingInverseMeans", spec := "mappingInverseMeans", inPlace := ["internal/abi.NoEscape", "internal/bytealg.MakeNoZero", "internal/bytealg.abigen_runtime_cmpstring", "internal/bytealg.CountString", "internal/bytealg.IndexByteString", "internal/bytealg.IndexString"], unfollowed := true, recurses := true, named := ["unicode/utf8.first", "unicode/utf8.acceptRanges", "internal/bytealg.MaxLen"], apart := false, laid := [("unicode/utf8.acceptRanges", laid_unicode_utf8_acceptRanges), ("unicode/utf8.first", laid_unicode_utf8_first)] }
def MappingInverseMeansSaid : Prop := mappingInverseMeansRow.holds Tryz.pinned (OpenSpec.ofChange mappingInverseMeansSpec)

/-- ITS FALSE NEIGHBOUR: 'it returns false'. Refute it at one input. -/
def mappingInverseMeansWrong : ChangeSpec := { name := "mappingInverseMeans", fn := fun _ => fun
  | [d1, d2] => { results := [.lit (.bool false)], args := [d1, d2] }
  | _ => none }
def MappingInverseMeansWrongFalsely : Prop := mappingInverseMeansRow.holds Tryz.pinned (OpenSpec.ofChange mappingInverseMeansWrong)

/-- 'stockyardlaw07.MappingMaps': WHATEVER THE INPUT: true; the input reads as it did. -/
def mappingMapsSpec : ChangeSpec := { name := "mappingMaps", fn := fun _ => fun
  | [d1, d2] => { results := [.lit (.bool true)], args := [d1, d2] }
  | _ => none }
def mappingMapsRow : OpenClaim := { program := "ytmfjppaeddbdaaagreatdoor", sum := "244541bec1089d48158cee570c895dd76791dca724f631a585a4a4b5e6ea91e1", func := "stockyard/stockyardlaw07.MappingMaps", spec := "mappingMaps", inPlace := ["internal/abi.NoEscape", "internal/bytealg.MakeNoZero", "internal/bytealg.abigen_runtime_cmpstring", "internal/bytealg.CountString", "internal/bytealg.IndexByteString", "internal/bytealg.IndexString"], unfollowed := true, recurses := true, named := ["unicode/utf8.first", "unicode/utf8.acceptRanges", "internal/bytealg.MaxLen"], apart := false, laid := [("unicode/utf8.acceptRanges", laid_unicode_utf8_acceptRanges), ("unicode/utf8.first", laid_unicode_utf8_first)] }
def MappingMapsSaid : Prop := mappingMapsRow.holds Tryz.pinned (OpenSpec.ofChange mappingMapsSpec)

/-- ITS FALSE NEIGHBOUR: 'it returns false'. Refute it at one input. -/
def mappingMapsWrong : ChangeSpec := { name := "mappingMaps", fn := fun _ => fun
  | [d1, d2] => { results := [.lit (.bool false)], args := [d1, d2] }
  | _ => none }
def MappingMapsWrongFalsely : Prop := mappingMapsRow.holds Tryz.pinned (OpenSpec.ofChange mappingMapsWrong)

/-- 'stockyardlaw07.MappingRestricts': WHATEVER THE INPUT: true; the input reads as it did. -/
def mappingRestrictsSpec : ChangeSpec := { name := "mappingRestricts", fn := fun _ => fun
  | [d1, d2] => { results := [.lit (.bool true)], args := [d1, d2] }
  | _ => none }
def mappingRestrictsRow : OpenClaim := { program := "ytmfjppaeddbdaaagreatdoor", sum := "244541bec1089d48158cee570c895dd76791dca724f631a585a4a4b5e6ea91e1", func := "stockyard/stockyardlaw07.MappingRestricts", spec := "mappingRestricts", inPlace := ["internal/abi.NoEscape", "internal/bytealg.MakeNoZero", "internal/bytealg.abigen_runtime_cmpstring", "internal/bytealg.CountString", "internal/bytealg.IndexByteString", "internal/bytealg.IndexString"], unfollowed := true, recurses := true, named := ["unicode/utf8.first", "unicode/utf8.acceptRanges", "internal/bytealg.MaxLen"], apart := false, laid := [("unicode/utf8.acceptRanges", laid_unicode_utf8_acceptRanges), ("unicode/utf8.first", laid_unicode_utf8_first)] }
def MappingRestrictsSaid : Prop := mappingRestrictsRow.holds Tryz.pinned (OpenSpec.ofChange mappingRestrictsSpec)

/-- ITS FALSE NEIGHBOUR: 'it returns false'. Refute it at one input. -/
def mappingRestrictsWrong : ChangeSpec := { name := "mappingRestricts", fn := fun _ => fun
  | [d1, d2] => { results := [.lit (.bool false)], args := [d1, d2] }
  | _ => none }
def MappingRestrictsWrongFalsely : Prop := mappingRestrictsRow.holds Tryz.pinned (OpenSpec.ofChange mappingRestrictsWrong)

/-- 'stockyardlaw07.MappingDomainMeans': WHATEVER THE INPUT: true; the input reads as it did. -/
def mappingDomainMeansSpec : ChangeSpec := { name := "mappingDomainMeans", fn := fun _ => fun
  | [d1, d2] => { results := [.lit (.bool true)], args := [d1, d2] }
  | _ => none }
def mappingDomainMeansRow : OpenClaim := { program := "ytmfjppaeddbdaaagreatdoor", sum := "244541bec1089d48158cee570c895dd76791dca724f631a585a4a4b5e6ea91e1", func := "stockyard/stockyardlaw07.MappingDomainMeans", spec := "mappingDomainMeans", inPlace := ["internal/abi.NoEscape", "internal/bytealg.MakeNoZero", "internal/bytealg.abigen_runtime_cmpstring", "internal/bytealg.CountString", "internal/bytealg.IndexByteString", "internal/bytealg.IndexString"], unfollowed := true, recurses := true, named := ["unicode/utf8.first", "unicode/utf8.acceptRanges", "internal/bytealg.MaxLen"], apart := false, laid := [("unicode/utf8.acceptRanges", laid_unicode_utf8_acceptRanges), ("unicode/utf8.first", laid_unicode_utf8_first)] }
def MappingDomainMeansSaid : Prop := mappingDomainMeansRow.holds Tryz.pinned (OpenSpec.ofChange mappingDomainMeansSpec)

/-- ITS FALSE NEIGHBOUR: 'it returns false'. Refute it at one input. -/
def mappingDomainMeansWrong : ChangeSpec := { name := "mappingDomainMeans", fn := fun _ => fun
  | [d1, d2] => { results := [.lit (.bool false)], args := [d1, d2] }
  | _ => none }
def MappingDomainMeansWrongFalsely : Prop := mappingDomainMeansRow.holds Tryz.pinned (OpenSpec.ofChange mappingDomainMeansWrong)

/-- 'stockyardlaw07.MappingRestrictMeans': WHATEVER THE INPUT: true; the input reads as it did. -/
def mappingRestrictMeansSpec : ChangeSpec := { name := "mappingRestrictMeans", fn := fun _ => fun
  | [d1, d2, d3] => { results := [.lit (.bool true)], args := [d1, d2, d3] }
  | _ => none }
def mappingRestrictMeansRow : OpenClaim := { program := "ytmfjppaeddbdaaagreatdoor", sum := "244541bec1089d48158cee570c895dd76791dca724f631a585a4a4b5e6ea91e1", func := "stockyard/stockyardlaw07.MappingRestrictMeans", spec := "mappingRestrictMeans", inPlace := ["internal/abi.NoEscape", "internal/bytealg.MakeNoZero", "internal/bytealg.abigen_runtime_cmpstring", "internal/bytealg.CountString", "internal/bytealg.IndexByteString", "internal/bytealg.IndexString"], unfollowed := true, recurses := true, named := ["unicode/utf8.first", "unicode/utf8.acceptRanges", "internal/bytealg.MaxLen"], apart := false, laid := [("unicode/utf8.acceptRanges", laid_unicode_utf8_acceptRanges), ("unicode/utf8.first", laid_unicode_utf8_first)] }
def MappingRestrictMeansSaid : Prop := mappingRestrictMeansRow.holds Tryz.pinned (OpenSpec.ofChange mappingRestrictMeansSpec)

/-- ITS FALSE NEIGHBOUR: 'it returns false'. Refute it at one input. -/
def mappingRestrictMeansWrong : ChangeSpec := { name := "mappingRestrictMeans", fn := fun _ => fun
  | [d1, d2, d3] => { results := [.lit (.bool false)], args := [d1, d2, d3] }
  | _ => none }
def MappingRestrictMeansWrongFalsely : Prop := mappingRestrictMeansRow.holds Tryz.pinned (OpenSpec.ofChange mappingRestrictMeansWrong)

/- THE SECOND FORM. 'bulk': how many values and letters a reading holds, each counted each time it is reached (what is shared counts as often as it is met; a slice's spare places count too). A statement '..UptoSaid' is the law's where the arguments, and the package variables that the reading takes, are together of bulk at most 1048576: NARROWER than '..Said'. Prove '..Said' where nothing that the law and all that it calls make is longer than what came in: it says more and counts as full. Else prove '..UptoSaid'. A law counts once. -/
mutual
def uptoBulk {H : Type} : DataW H → Nat
  | .lit (.string bytes) => bytes.length + 1
  | .lit _ => 1
  | .nil => 1
  | .ptr d => uptoBulk d + 1
  | .slice elems spare => uptoBulkAll elems + uptoBulkAll spare + 1
  | .agg parts => uptoBulkAll parts + 1
  | .iface _ d => uptoBulk d + 1
  | .map entries => uptoBulkEntries entries + 1
  | .held _ => 1
def uptoBulkAll {H : Type} : List (DataW H) → Nat
  | [] => 0
  | d :: r => uptoBulk d + uptoBulkAll r
def uptoBulkEntries {H : Type} : List (Lit × DataW H) → Nat
  | [] => 0
  | x :: r => uptoBulkEntry x + uptoBulkEntries r
def uptoBulkEntry {H : Type} : Lit × DataW H → Nat
  | (.string bytes, d) => bytes.length + uptoBulk d + 1
  | (_, d) => uptoBulk d + 1
 end
def uptoSmall : (H : Type) → List (DataW H) → Bool := fun _ ds => decide (uptoBulkAll ds ≤ 1048576)
def OpenSpec.upto (s : _root_.Go.ChangeSpec) : _root_.Go.OpenSpec := { _root_.Go.OpenSpec.ofChange s with cond := some uptoSmall }

/-- 'stockyardlaw07.MappingChecks', WHERE WHAT IT READS IS OF BULK AT MOST 1048576: true; the input reads as it did. -/
def mappingChecksUptoRow : OpenClaim := { program := "ytmfjppaeddbdaaagreatdoor", sum := "244541bec1089d48158cee570c895dd76791dca724f631a585a4a4b5e6ea91e1", func := "stockyard/stockyardlaw07.MappingChecks", spec := "mappingChecks", inPlace := ["internal/abi.NoEscape", "internal/bytealg.MakeNoZero", "internal/bytealg.abigen_runtime_cmpstring", "internal/bytealg.CountString", "internal/bytealg.IndexByteString", "internal/bytealg.IndexString"], unfollowed := true, recurses := true, named := ["unicode/utf8.first", "unicode/utf8.acceptRanges", "internal/bytealg.MaxLen"], apart := false, laid := [("unicode/utf8.acceptRanges", laid_unicode_utf8_acceptRanges), ("unicode/utf8.first", laid_unicode_utf8_first)], narrowed := true }
def MappingChecksUptoSaid : Prop := mappingChecksUptoRow.holds Tryz.pinned (OpenSpec.upto mappingChecksSpec)

/-- 'stockyardlaw07.MappingInverts', WHERE WHAT IT READS IS OF BULK AT MOST 1048576: true; the input reads as it did. -/
def mappingInvertsUptoRow : OpenClaim := { program := "ytmfjppaeddbdaaagreatdoor", sum := "244541bec1089d48158cee570c895dd76791dca724f631a585a4a4b5e6ea91e1", func := "stockyard/stockyardlaw07.MappingInverts", spec := "mappingInverts", inPlace := ["internal/abi.NoEscape", "internal/bytealg.MakeNoZero", "internal/bytealg.abigen_runtime_cmpstring", "internal/bytealg.CountString", "internal/bytealg.IndexByteString", "internal/bytealg.IndexString"], unfollowed := true, recurses := true, named := ["unicode/utf8.first", "unicode/utf8.acceptRanges", "internal/bytealg.MaxLen"], apart := false, laid := [("unicode/utf8.acceptRanges", laid_unicode_utf8_acceptRanges), ("unicode/utf8.first", laid_unicode_utf8_first)], narrowed := true }
def MappingInvertsUptoSaid : Prop := mappingInvertsUptoRow.holds Tryz.pinned (OpenSpec.upto mappingInvertsSpec)

/-- 'stockyardlaw07.MappingInverseMeans', WHERE WHAT IT READS IS OF BULK AT MOST 1048576: true; the input reads as it did. -/
def mappingInverseMeansUptoRow : OpenClaim := { program := "ytmfjppaeddbdaaagreatdoor", sum := "244541bec1089d48158cee570c895dd76791dca724f631a585a4a4b5e6ea91e1", func := "stockyard/stockyardlaw07.MappingInverseMeans", spec := "mappingInverseMeans", inPlace := ["internal/abi.NoEscape", "internal/bytealg.MakeNoZero", "internal/bytealg.abigen_runtime_cmpstring", "internal/bytealg.CountString", "internal/bytealg.IndexByteString", "internal/bytealg.IndexString"], unfollowed := true, recurses := true, named := ["unicode/utf8.first", "unicode/utf8.acceptRanges", "internal/bytealg.MaxLen"], apart := false, laid := [("unicode/utf8.acceptRanges", laid_unicode_utf8_acceptRanges), ("unicode/utf8.first", laid_unicode_utf8_first)], narrowed := true }
def MappingInverseMeansUptoSaid : Prop := mappingInverseMeansUptoRow.holds Tryz.pinned (OpenSpec.upto mappingInverseMeansSpec)

/-- 'stockyardlaw07.MappingMaps', WHERE WHAT IT READS IS OF BULK AT MOST 1048576: true; the input reads as it did. -/
def mappingMapsUptoRow : OpenClaim := { program := "ytmfjppaeddbdaaagreatdoor", sum := "244541bec1089d48158cee570c895dd76791dca724f631a585a4a4b5e6ea91e1", func := "stockyard/stockyardlaw07.MappingMaps", spec := "mappingMaps", inPlace := ["internal/abi.NoEscape", "internal/bytealg.MakeNoZero", "internal/bytealg.abigen_runtime_cmpstring", "internal/bytealg.CountString", "internal/bytealg.IndexByteString", "internal/bytealg.IndexString"], unfollowed := true, recurses := true, named := ["unicode/utf8.first", "unicode/utf8.acceptRanges", "internal/bytealg.MaxLen"], apart := false, laid := [("unicode/utf8.acceptRanges", laid_unicode_utf8_acceptRanges), ("unicode/utf8.first", laid_unicode_utf8_first)], narrowed := true }
def MappingMapsUptoSaid : Prop := mappingMapsUptoRow.holds Tryz.pinned (OpenSpec.upto mappingMapsSpec)

/-- 'stockyardlaw07.MappingRestricts', WHERE WHAT IT READS IS OF BULK AT MOST 1048576: true; the input reads as it did. -/
def mappingRestrictsUptoRow : OpenClaim := { program := "ytmfjppaeddbdaaagreatdoor", sum := "244541bec1089d48158cee570c895dd76791dca724f631a585a4a4b5e6ea91e1", func := "stockyard/stockyardlaw07.MappingRestricts", spec := "mappingRestricts", inPlace := ["internal/abi.NoEscape", "internal/bytealg.MakeNoZero", "internal/bytealg.abigen_runtime_cmpstring", "internal/bytealg.CountString", "internal/bytealg.IndexByteString", "internal/bytealg.IndexString"], unfollowed := true, recurses := true, named := ["unicode/utf8.first", "unicode/utf8.acceptRanges", "internal/bytealg.MaxLen"], apart := false, laid := [("unicode/utf8.acceptRanges", laid_unicode_utf8_acceptRanges), ("unicode/utf8.first", laid_unicode_utf8_first)], narrowed := true }
def MappingRestrictsUptoSaid : Prop := mappingRestrictsUptoRow.holds Tryz.pinned (OpenSpec.upto mappingRestrictsSpec)

/-- 'stockyardlaw07.MappingDomainMeans', WHERE WHAT IT READS IS OF BULK AT MOST 1048576: true; the input reads as it did. -/
def mappingDomainMeansUptoRow : OpenClaim := { program := "ytmfjppaeddbdaaagreatdoor", sum := "244541bec1089d48158cee570c895dd76791dca724f631a585a4a4b5e6ea91e1", func := "stockyard/stockyardlaw07.MappingDomainMeans", spec := "mappingDomainMeans", inPlace := ["internal/abi.NoEscape", "internal/bytealg.MakeNoZero", "internal/bytealg.abigen_runtime_cmpstring", "internal/bytealg.CountString", "internal/bytealg.IndexByteString", "internal/bytealg.IndexString"], unfollowed := true, recurses := true, named := ["unicode/utf8.first", "unicode/utf8.acceptRanges", "internal/bytealg.MaxLen"], apart := false, laid := [("unicode/utf8.acceptRanges", laid_unicode_utf8_acceptRanges), ("unicode/utf8.first", laid_unicode_utf8_first)], narrowed := true }
def MappingDomainMeansUptoSaid : Prop := mappingDomainMeansUptoRow.holds Tryz.pinned (OpenSpec.upto mappingDomainMeansSpec)

/-- 'stockyardlaw07.MappingRestrictMeans', WHERE WHAT IT READS IS OF BULK AT MOST 1048576: true; the input reads as it did. -/
def mappingRestrictMeansUptoRow : OpenClaim := { program := "ytmfjppaeddbdaaagreatdoor", sum := "244541bec1089d48158cee570c895dd76791dca724f631a585a4a4b5e6ea91e1", func := "stockyard/stockyardlaw07.MappingRestrictMeans", spec := "mappingRestrictMeans", inPlace := ["internal/abi.NoEscape", "internal/bytealg.MakeNoZero", "internal/bytealg.abigen_runtime_cmpstring", "internal/bytealg.CountString", "internal/bytealg.IndexByteString", "internal/bytealg.IndexString"], unfollowed := true, recurses := true, named := ["unicode/utf8.first", "unicode/utf8.acceptRanges", "internal/bytealg.MaxLen"], apart := false, laid := [("unicode/utf8.acceptRanges", laid_unicode_utf8_acceptRanges), ("unicode/utf8.first", laid_unicode_utf8_first)], narrowed := true }
def MappingRestrictMeansUptoSaid : Prop := mappingRestrictMeansUptoRow.holds Tryz.pinned (OpenSpec.upto mappingRestrictMeansSpec)

end Rows
end Go.Proofs.YtmfjppaeddbdaaaGreatDoor
