/-
  NARROWER THAN 'FOR EVERY INPUT', by the rows' own cells (each row's printed sentence says how): ViewLast: laid · ViewFirst: laid · ViewDecided: laid · ViewChecks: laid · ViewOneToOne: laid · ViewTurns: laid · ViewMaps: laid.
  DERIVED. THE GIVEN ROWS OF THIS SEAT. 7 by the template 'for every input the law returns true; each argument reads behind the call as it read before'; 0 by the template 'total and deterministic' (their statements: YtoaelfdkamgdaaaDoorTotals.lean).
  GIVEN WITH THE SEED: the statements are not yours to turn. If you find one false, say at which input.
  Laid BY PROGRAM, IN A SANDBOX (cutbox-rows.mjs): the forced cells as the released guide's own fill.sh prints them over the translation dc3e436ddbafbf0c… (all of the seat's roots in one cut). By AI agents, Wed Nov 11 2026. No macro, syntax, notation, axiom, sorry.
-/
import Derived.Test.YtoaelfdkamgdaaaDoorChecked
import GoSem.PinnedTables
import GoSem.Claim
import GoSem.ClaimJoined
import GoSem.ClaimMapViews
import Derived.JoinedTies
import Derived.KernelRfl
namespace Go.Proofs.YtoaelfdkamgdaaaDoor
/- THE CELL 'sum', in the pinned program and in every row, IS THE sha256 OF THE DUMP (.gsa) THAT YtoaelfdkamgdaaaDoorProg.lean LOADS. Nothing in Lean hashes anything: it is a label: what it is worth is what the hold of that sum in a sandbox is worth. -/
noncomputable def Tryd.pinned : Pinned := { name := "ytoaelfdkamgdaaadoor", sum := "dc3e436ddbafbf0c11b929d8fe49d8de743c6a7c410e7a4b9b17112fd739e1df", checked := Tryd.checked }
namespace Rows
def none {H : Type} : Left H := { results := [], args := [] }

/- WHAT THE LISTED PACKAGE-LEVEL VARIABLES READ AS WHEN THE CALL BEGINS. Each datum BY PROGRAM (the guide's laid-datum.mjs) off the statement by which the dump's own 'gosem.cut.vars' lays the variable. In a bare row this is a premise. The card (YtoaelfdkamgdaaaDoorCards.lean) ties it to the program's text. -/
def laid_unicode_utf8_acceptRanges {H : Type} : DataW H := .agg [.agg [.lit (.int .u8 128), .lit (.int .u8 191)], .agg [.lit (.int .u8 160), .lit (.int .u8 191)], .agg [.lit (.int .u8 128), .lit (.int .u8 159)], .agg [.lit (.int .u8 144), .lit (.int .u8 191)], .agg [.lit (.int .u8 128), .lit (.int .u8 143)], .agg [.lit (.int .u8 0), .lit (.int .u8 0)], .agg [.lit (.int .u8 0), .lit (.int .u8 0)], .agg [.lit (.int .u8 0), .lit (.int .u8 0)], .agg [.lit (.int .u8 0), .lit (.int .u8 0)], .agg [.lit (.int .u8 0), .lit (.int .u8 0)], .agg [.lit (.int .u8 0), .lit (.int .u8 0)], .agg [.lit (.int .u8 0), .lit (.int .u8 0)], .agg [.lit (.int .u8 0), .lit (.int .u8 0)], .agg [.lit (.int .u8 0), .lit (.int .u8 0)], .agg [.lit (.int .u8 0), .lit (.int .u8 0)], .agg [.lit (.int .u8 0), .lit (.int .u8 0)]]
/-- One of Go's own tables, pinned by name: the form's constant. -/
def laid_unicode_utf8_first : DataW Unit := Go.Pinned.utf8First

/-- 'stockyardlaw06.ViewLast': WHATEVER THE INPUT: true; the input reads as it did. -/
def viewLastSpec : ChangeSpec := { name := "viewLast", fn := fun _ => fun
  | [d1, d2, d3] => { results := [.lit (.bool true)], args := [d1, d2, d3] }
  | _ => none }
def viewLastRow : OpenClaim := { program := "ytoaelfdkamgdaaadoor", sum := "dc3e436ddbafbf0c11b929d8fe49d8de743c6a7c410e7a4b9b17112fd739e1df", func := "stockyard/stockyardlaw06.ViewLast", spec := "viewLast", inPlace := ["internal/bytealg.CountString", "internal/bytealg.IndexByteString", "internal/bytealg.IndexString", "internal/abi.NoEscape", "internal/bytealg.MakeNoZero"], unfollowed := true, recurses := true, named := ["unicode/utf8.first", "unicode/utf8.acceptRanges", "internal/bytealg.MaxLen"], apart := false, laid := [("unicode/utf8.acceptRanges", laid_unicode_utf8_acceptRanges), ("unicode/utf8.first", laid_unicode_utf8_first)] }
def ViewLastSaid : Prop := viewLastRow.holds Tryd.pinned (OpenSpec.ofChange viewLastSpec)

/-- ITS FALSE NEIGHBOUR: 'it returns false'. Refute it at one input. -/
def viewLastWrong : ChangeSpec := { name := "viewLast", fn := fun _ => fun
  | [d1, d2, d3] => { results := [.lit (.bool false)], args := [d1, d2, d3] }
  | _ => none }
def ViewLastWrongFalsely : Prop := viewLastRow.holds Tryd.pinned (OpenSpec.ofChange viewLastWrong)

/-- 'stockyardlaw06.ViewFirst': WHATEVER THE INPUT: true; the input reads as it did. -/
def viewFirstSpec : ChangeSpec := { name := "viewFirst", fn := fun _ => fun
  | [d1, d2, d3] => { results := [.lit (.bool true)], args := [d1, d2, d3] }
  | _ => none }
def viewFirstRow : OpenClaim := { program := "ytoaelfdkamgdaaadoor", sum := "dc3e436ddbafbf0c11b929d8fe49d8de743c6a7c410e7a4b9b17112fd739e1df", func := "stockyard/stockyardlaw06.ViewFirst", spec := "viewFirst", inPlace := ["internal/bytealg.CountString", "internal/bytealg.IndexByteString", "internal/bytealg.IndexString", "internal/abi.NoEscape", "internal/bytealg.MakeNoZero"], unfollowed := true, recurses := true, named := ["unicode/utf8.first", "unicode/utf8.acceptRanges", "internal/bytealg.MaxLen"], apart := false, laid := [("unicode/utf8.acceptRanges", laid_unicode_utf8_acceptRanges), ("unicode/utf8.first", laid_unicode_utf8_first)] }
def ViewFirstSaid : Prop := viewFirstRow.holds Tryd.pinned (OpenSpec.ofChange viewFirstSpec)

/-- ITS FALSE NEIGHBOUR: 'it returns false'. Refute it at one input. -/
def viewFirstWrong : ChangeSpec := { name := "viewFirst", fn := fun _ => fun
  | [d1, d2, d3] => { results := [.lit (.bool false)], args := [d1, d2, d3] }
  | _ => none }
def ViewFirstWrongFalsely : Prop := viewFirstRow.holds Tryd.pinned (OpenSpec.ofChange viewFirstWrong)

/-- 'stockyardlaw06.ViewDecided': WHATEVER THE INPUT: true; the input reads as it did. -/
def viewDecidedSpec : ChangeSpec := { name := "viewDecided", fn := fun _ => fun
  | [d1, d2] => { results := [.lit (.bool true)], args := [d1, d2] }
  | _ => none }
def viewDecidedRow : OpenClaim := { program := "ytoaelfdkamgdaaadoor", sum := "dc3e436ddbafbf0c11b929d8fe49d8de743c6a7c410e7a4b9b17112fd739e1df", func := "stockyard/stockyardlaw06.ViewDecided", spec := "viewDecided", inPlace := ["internal/bytealg.CountString", "internal/bytealg.IndexByteString", "internal/bytealg.IndexString", "internal/abi.NoEscape", "internal/bytealg.MakeNoZero"], unfollowed := true, recurses := true, named := ["unicode/utf8.first", "unicode/utf8.acceptRanges", "internal/bytealg.MaxLen"], apart := false, laid := [("unicode/utf8.acceptRanges", laid_unicode_utf8_acceptRanges), ("unicode/utf8.first", laid_unicode_utf8_first)] }
def ViewDecidedSaid : Prop := viewDecidedRow.holds Tryd.pinned (OpenSpec.ofChange viewDecidedSpec)

/-- ITS FALSE NEIGHBOUR: 'it returns false'. Refute it at one input. -/
def viewDecidedWrong : ChangeSpec := { name := "viewDecided", fn := fun _ => fun
  | [d1, d2] => { results := [.lit (.bool false)], args := [d1, d2] }
  | _ => none }
def ViewDecidedWrongFalsely : Prop := viewDecidedRow.holds Tryd.pinned (OpenSpec.ofChange viewDecidedWrong)

/-- 'stockyardlaw06.ViewChecks': WHATEVER THE INPUT: true; the input reads as it did. -/
def viewChecksSpec : ChangeSpec := { name := "viewChecks", fn := fun _ => fun
  | [d] => { results := [.lit (.bool true)], args := [d] }
  | _ => none }
def viewChecksRow : OpenClaim := { program := "ytoaelfdkamgdaaadoor", sum := "dc3e436ddbafbf0c11b929d8fe49d8de743c6a7c410e7a4b9b17112fd739e1df", func := "stockyard/stockyardlaw06.ViewChecks", spec := "viewChecks", inPlace := ["internal/bytealg.CountString", "internal/bytealg.IndexByteString", "internal/bytealg.IndexString", "internal/abi.NoEscape", "internal/bytealg.MakeNoZero"], unfollowed := true, recurses := true, named := ["unicode/utf8.first", "unicode/utf8.acceptRanges", "internal/bytealg.MaxLen"], apart := false, laid := [("unicode/utf8.acceptRanges", laid_unicode_utf8_acceptRanges), ("unicode/utf8.first", laid_unicode_utf8_first)] }
def ViewChecksSaid : Prop := viewChecksRow.holds Tryd.pinned (OpenSpec.ofChange viewChecksSpec)

/-- ITS FALSE NEIGHBOUR: 'it returns false'. Refute it at one input. -/
def viewChecksWrong : ChangeSpec := { name := "viewChecks", fn := fun _ => fun
  | [d] => { results := [.lit (.bool false)], args := [d] }
  | _ => none }
def ViewChecksWrongFalsely : Prop := viewChecksRow.holds Tryd.pinned (OpenSpec.ofChange viewChecksWrong)

/-- 'stockyardlaw06.ViewOneToOne': WHATEVER THE INPUT: true; the input reads as it did. -/
def viewOneToOneSpec : ChangeSpec := { name := "viewOneToOne", fn := fun _ => fun
  | [d1, d2] => { results := [.lit (.bool true)], args := [d1, d2] }
  | _ => none }
def viewOneToOneRow : OpenClaim := { program := "ytoaelfdkamgdaaadoor", sum := "dc3e436ddbafbf0c11b929d8fe49d8de743c6a7c410e7a4b9b17112fd739e1df", func := "stockyard/stockyardlaw06.ViewOneToOne", spec := "viewOneToOne", inPlace := ["internal/bytealg.CountString", "internal/bytealg.IndexByteString", "internal/bytealg.IndexString", "internal/abi.NoEscape", "internal/bytealg.MakeNoZero"], unfollowed := true, recurses := true, named := ["unicode/utf8.first", "unicode/utf8.acceptRanges", "internal/bytealg.MaxLen"], apart := false, laid := [("unicode/utf8.acceptRanges", laid_unicode_utf8_acceptRanges), ("unicode/utf8.first", laid_unicode_utf8_first)] }
def ViewOneToOneSaid : Prop := viewOneToOneRow.holds Tryd.pinned (OpenSpec.ofChange viewOneToOneSpec)

/-- ITS FALSE NEIGHBOUR: 'it returns false'. Refute it at one input. -/
def viewOneToOneWrong : ChangeSpec := { name := "viewOneToOne", fn := fun _ => fun
  | [d1, d2] => { results := [.lit (.bool false)], args := [d1, d2] }
  | _ => none }
def ViewOneToOneWrongFalsely : Prop := viewOneToOneRow.holds Tryd.pinned (OpenSpec.ofChange viewOneToOneWrong)

/-- 'stockyardlaw06.ViewTurns': WHATEVER THE INPUT: true; the input reads as it did. -/
def viewTurnsSpec : ChangeSpec := { name := "viewTurns", fn := fun _ => fun
  | [d1, d2] => { results := [.lit (.bool true)], args := [d1, d2] }
  | _ => none }
def viewTurnsRow : OpenClaim := { program := "ytoaelfdkamgdaaadoor", sum := "dc3e436ddbafbf0c11b929d8fe49d8de743c6a7c410e7a4b9b17112fd739e1df", func := "stockyard/stockyardlaw06.ViewTurns", spec := "viewTurns", inPlace := ["internal/bytealg.CountString", "internal/bytealg.IndexByteString", "internal/bytealg.IndexString", "internal/abi.NoEscape", "internal/bytealg.MakeNoZero"], unfollowed := true, recurses := true, named := ["unicode/utf8.first", "unicode/utf8.acceptRanges", "internal/bytealg.MaxLen"], apart := false, laid := [("unicode/utf8.acceptRanges", laid_unicode_utf8_acceptRanges), ("unicode/utf8.first", laid_unicode_utf8_first)] }
def ViewTurnsSaid : Prop := viewTurnsRow.holds Tryd.pinned (OpenSpec.ofChange viewTurnsSpec)

/-- ITS FALSE NEIGHBOUR: 'it returns false'. Refute it at one input. -/
def viewTurnsWrong : ChangeSpec := { name := "viewTurns", fn := fun _ => fun
  | [d1, d2] => { results := [.lit (.bool false)], args := [d1, d2] }
  | _ => none }
def ViewTurnsWrongFalsely : Prop := viewTurnsRow.holds Tryd.pinned (OpenSpec.ofChange viewTurnsWrong)

/-- 'stockyardlaw06.ViewMaps': WHATEVER THE INPUT: true; the input reads as it did. -/
def viewMapsSpec : ChangeSpec := { name := "viewMaps", fn := fun _ => fun
  | [d1, d2] => { results := [.lit (.bool true)], args := [d1, d2] }
  | _ => none }
def viewMapsRow : OpenClaim := { program := "ytoaelfdkamgdaaadoor", sum := "dc3e436ddbafbf0c11b929d8fe49d8de743c6a7c410e7a4b9b17112fd739e1df", func := "stockyard/stockyardlaw06.ViewMaps", spec := "viewMaps", inPlace := ["internal/bytealg.CountString", "internal/bytealg.IndexByteString", "internal/bytealg.IndexString", "internal/abi.NoEscape", "internal/bytealg.MakeNoZero"], unfollowed := true, recurses := true, named := ["unicode/utf8.first", "unicode/utf8.acceptRanges", "internal/bytealg.MaxLen"], apart := false, laid := [("unicode/utf8.acceptRanges", laid_unicode_utf8_acceptRanges), ("unicode/utf8.first", laid_unicode_utf8_first)] }
def ViewMapsSaid : Prop := viewMapsRow.holds Tryd.pinned (OpenSpec.ofChange viewMapsSpec)

/-- ITS FALSE NEIGHBOUR: 'it returns false'. Refute it at one input. -/
def viewMapsWrong : ChangeSpec := { name := "viewMaps", fn := fun _ => fun
  | [d1, d2] => { results := [.lit (.bool false)], args := [d1, d2] }
  | _ => none }
def ViewMapsWrongFalsely : Prop := viewMapsRow.holds Tryd.pinned (OpenSpec.ofChange viewMapsWrong)

/- THE SECOND FORM. 'bulk': how many values and letters a reading holds, each counted each time it is reached (what is shared counts as often as it is met; a slice's spare places count too). A statement '..UptoSaid' is the law's where the arguments, and the package variables that the reading takes, are together of bulk at most 1048576: NARROWER than '..Said'. Prove '..Said' where nothing that the law and all that it calls make is longer than what came in: it says more and counts as full. Else prove '..UptoSaid'. A law counts once. -/
mutual
def uptoBulk {H : Type} : DataW H → Nat
  | .lit (.string bytes) => bytes.length + 1
  | .lit _ => 1
  | .nil => 1
  | .ptr d => uptoBulk d + 1
  | .slice elems spare => uptoBulkAll elems + uptoBulkAll spare + 1
  | .agg parts => uptoBulkAll parts + 1
  | .iface _ d => uptoBulk d + 1
  | .map entries => uptoBulkEntries entries + 1
  | .held _ => 1
def uptoBulkAll {H : Type} : List (DataW H) → Nat
  | [] => 0
  | d :: r => uptoBulk d + uptoBulkAll r
def uptoBulkEntries {H : Type} : List (Lit × DataW H) → Nat
  | [] => 0
  | x :: r => uptoBulkEntry x + uptoBulkEntries r
def uptoBulkEntry {H : Type} : Lit × DataW H → Nat
  | (.string bytes, d) => bytes.length + uptoBulk d + 1
  | (_, d) => uptoBulk d + 1
 end
def uptoSmall : (H : Type) → List (DataW H) → Bool := fun _ ds => decide (uptoBulkAll ds ≤ 1048576)
def OpenSpec.upto (s : _root_.Go.ChangeSpec) : _root_.Go.OpenSpec := { _root_.Go.OpenSpec.ofChange s with cond := some uptoSmall }

/-- 'stockyardlaw06.ViewLast', WHERE WHAT IT READS IS OF BULK AT MOST 1048576: true; the input reads as it did. -/
def viewLastUptoRow : OpenClaim := { program := "ytoaelfdkamgdaaadoor", sum := "dc3e436ddbafbf0c11b929d8fe49d8de743c6a7c410e7a4b9b17112fd739e1df", func := "stockyard/stockyardlaw06.ViewLast", spec := "viewLast", inPlace := ["internal/bytealg.CountString", "internal/bytealg.IndexByteString", "internal/bytealg.IndexString", "internal/abi.NoEscape", "internal/bytealg.MakeNoZero"], unfollowed := true, recurses := true, named := ["unicode/utf8.first", "unicode/utf8.acceptRanges", "internal/bytealg.MaxLen"], apart := false, laid := [("unicode/utf8.acceptRanges", laid_unicode_utf8_acceptRanges), ("unicode/utf8.first", laid_unicode_utf8_first)], narrowed := true }
def ViewLastUptoSaid : Prop := viewLastUptoRow.holds Tryd.pinned (OpenSpec.upto viewLastSpec)

/-- 'stockyardlaw06.ViewFirst', WHERE WHAT IT READS IS OF BULK AT MOST 1048576: true; the input reads as it did. -/
def viewFirstUptoRow : OpenClaim := { program := "ytoaelfdkamgdaaadoor", sum := "dc3e436ddbafbf0c11b929d8fe49d8de743c6a7c410e7a4b9b17112fd739e1df", func := "stockyard/stockyardlaw06.ViewFirst", spec := "viewFirst", inPlace := ["internal/bytealg.CountString", "internal/bytealg.IndexByteString", "internal/bytealg.IndexString", "internal/abi.NoEscape", "internal/bytealg.MakeNoZero"], unfollowed := true, recurses := true, named := ["unicode/utf8.first", "unicode/utf8.acceptRanges", "internal/bytealg.MaxLen"], apart := false, laid := [("unicode/utf8.acceptRanges", laid_unicode_utf8_acceptRanges), ("unicode/utf8.first", laid_unicode_utf8_first)], narrowed := true }
def ViewFirstUptoSaid : Prop := viewFirstUptoRow.holds Tryd.pinned (OpenSpec.upto viewFirstSpec)

/-- 'stockyardlaw06.ViewDecided', WHERE WHAT IT READS IS OF BULK AT MOST 1048576: true; the input reads as it did. -/
def viewDecidedUptoRow : OpenClaim := { program := "ytoaelfdkamgdaaadoor", sum := "dc3e436ddbafbf0c11b929d8fe49d8de743c6a7c410e7a4b9b17112fd739e1df", func := "stockyard/stockyardlaw06.ViewDecided", spec := "viewDecided", inPlace := ["internal/bytealg.CountString", "internal/bytealg.IndexByteString", "internal/bytealg.IndexString", "internal/abi.NoEscape", "internal/bytealg.MakeNoZero"], unfollowed := true, recurses := true, named := ["unicode/utf8.first", "unicode/utf8.acceptRanges", "internal/bytealg.MaxLen"], apart := false, laid := [("unicode/utf8.acceptRanges", laid_unicode_utf8_acceptRanges), ("unicode/utf8.first", laid_unicode_utf8_first)], narrowed := true }
def ViewDecidedUptoSaid : Prop := viewDecidedUptoRow.holds Tryd.pinned (OpenSpec.upto viewDecidedSpec)

/-- 'stockyardlaw06.ViewChecks', WHERE WHAT IT READS IS OF BULK AT MOST 1048576: true; the input reads as it did. -/
def viewChecksUptoRow : OpenClaim := { program := "ytoaelfdkamgdaaadoor", sum := "dc3e436ddbafbf0c11b929d8fe49d8de743c6a7c410e7a4b9b17112fd739e1df", func := "stockyard/stockyardlaw06.ViewChecks", spec := "viewChecks", inPlace := ["internal/bytealg.CountString", "internal/bytealg.IndexByteString", "internal/bytealg.IndexString", "internal/abi.NoEscape", "internal/bytealg.MakeNoZero"], unfollowed := true, recurses := true, named := ["unicode/utf8.first", "unicode/utf8.acceptRanges", "internal/bytealg.MaxLen"], apart := false, laid := [("unicode/utf8.acceptRanges", laid_unicode_utf8_acceptRanges), ("unicode/utf8.first", laid_unicode_utf8_first)], narrowed := true }
def ViewChecksUptoSaid : Prop := viewChecksUptoRow.holds Tryd.pinned (OpenSpec.upto viewChecksSpec)

/-- 'stockyardlaw06.ViewOneToOne', WHERE WHAT IT READS IS OF BULK AT MOST 1048576: true; the input reads as it did. -/
def viewOneToOneUptoRow : OpenClaim := { program := "ytoaelfdkamgdaaadoor", sum := "dc3e436ddbafbf0c11b929d8fe49d8de743c6a7c410e7a4b9b17112fd739e1df", func := "stockyard/stockyardlaw06.ViewOneToOne", spec := "viewOneToOne", inPlace := ["internal/bytealg.CountString", "internal/bytealg.IndexByteString", "internal/bytealg.IndexString", "internal/abi.NoEscape", "internal/bytealg.MakeNoZero"], unfollowed := true, recurses := true, named := ["unicode/utf8.first", "unicode/utf8.acceptRanges", "internal/bytealg.MaxLen"], apart := false, laid := [("unicode/utf8.acceptRanges", laid_unicode_utf8_acceptRanges), ("unicode/utf8.first", laid_unicode_utf8_first)], narrowed := true }
def ViewOneToOneUptoSaid : Prop := viewOneToOneUptoRow.holds Tryd.pinned (OpenSpec.upto viewOneToOneSpec)

/-- 'stockyardlaw06.ViewTurns', WHERE WHAT IT READS IS OF BULK AT MOST 1048576: true; the input reads as it did. -/
def viewTurnsUptoRow : OpenClaim := { program := "ytoaelfdkamgdaaadoor", sum := "dc3e436ddbafbf0c11b929d8fe49d8de743c6a7c410e7a4b9b17112fd739e1df", func := "stockyard/stockyardlaw06.ViewTurns", spec := "viewTurns", inPlace := ["internal/bytealg.CountString", "internal/bytealg.IndexByteString", "internal/bytealg.IndexString", "internal/abi.NoEscape", "internal/bytealg.MakeNoZero"], unfollowed := true, recurses := true, named := ["unicode/utf8.first", "unicode/utf8.acceptRanges", "internal/bytealg.MaxLen"], apart := false, laid := [("unicode/utf8.acceptRanges", laid_unicode_utf8_acceptRanges), ("unicode/utf8.first", laid_unicode_utf8_first)], narrowed := true }
def ViewTurnsUptoSaid : Prop := viewTurnsUptoRow.holds Tryd.pinned (OpenSpec.upto viewTurnsSpec)

/-- 'stockyardlaw06.ViewMaps', WHERE WHAT IT READS IS OF BULK AT MOST 1048576: true; the input reads as it did. -/
def viewMapsUptoRow : OpenClaim := { program := "ytoaelfdkamgdaaadoor", sum := "dc3e436ddbafbf0c11b929d8fe49d8de743c6a7c410e7a4b9b17112fd739e1df", func := "stockyard/stockyardlaw06.ViewMaps", spec := "viewMaps", inPlace := ["internal/bytealg.CountString", "internal/bytealg.IndexByteString", "internal/bytealg.IndexString", "internal/abi.NoEscape", "internal/bytealg.MakeNoZero"], unfollowed := true, recurses := true, named := ["unicode/utf8.first", "unicode/utf8.acceptRanges", "internal/bytealg.MaxLen"], apart := false, laid := [("unicode/utf8.acceptRanges", laid_unicode_utf8_acceptRanges), ("unicode/utf8.first", laid_unicode_utf8_first)], narrowed := true }
def ViewMapsUptoSaid : Prop := viewMapsUptoRow.holds Tryd.pinned (OpenSpec.upto viewMapsSpec)

end Rows
end Go.Proofs.YtoaelfdkamgdaaaDoor
