/-
  NARROWER THAN 'FOR EVERY INPUT', by the rows' own cells (each row's printed sentence says how): RegionLeasts: laid · RegionPoint: laid · RegionChecks: laid · RegionWitness: laid · RegionOrder: laid · RegionSimplifies: laid · RegionParts: laid.
  DERIVED. THE GIVEN ROWS OF THIS SEAT. 7 by the template 'for every input the law returns true; each argument reads behind the call as it read before'; 0 by the template 'total and deterministic' (their statements: YtdndfkoklhfffaaDoorTotals.lean).
  GIVEN WITH THE SEED: the statements are not yours to turn. If you find one false, say at which input.
  Laid BY PROGRAM, IN A SANDBOX (cutbox-rows.mjs): the forced cells as the released guide's own fill.sh prints them over the translation 4021d61831e64e6a… (all of the seat's roots in one cut). By AI agents, Wed Nov 11 2026. No macro, syntax, notation, axiom, sorry.
-/
import Derived.Test.YtdndfkoklhfffaaDoorChecked
import GoSem.PinnedTables
import GoSem.Claim
import GoSem.ClaimJoined
import GoSem.ClaimMapViews
import Derived.JoinedTies
import Derived.KernelRfl
namespace Go.Proofs.YtdndfkoklhfffaaDoor
/- THE CELL 'sum', in the pinned program and in every row, IS THE sha256 OF THE DUMP (.gsa) THAT YtdndfkoklhfffaaDoorProg.lean LOADS. Nothing in Lean hashes anything: it is a label: what it is worth is what the hold of that sum in a sandbox is worth. -/
noncomputable def Tryd.pinned : Pinned := { name := "ytdndfkoklhfffaadoor", sum := "4021d61831e64e6afb4487f34aa840ae6a37976e1174da5ed1a2733a2e262d9a", checked := Tryd.checked }
namespace Rows
def none {H : Type} : Left H := { results := [], args := [] }

/- WHAT THE LISTED PACKAGE-LEVEL VARIABLES READ AS WHEN THE CALL BEGINS. Each datum BY PROGRAM (the guide's laid-datum.mjs) off the statement by which the dump's own 'gosem.cut.vars' lays the variable. In a bare row this is a premise. The card (YtdndfkoklhfffaaDoorCards.lean) ties it to the program's text. -/
def laid_math_bits_deBruijn64tab {H : Type} : DataW H := .agg [.lit (.int .u8 0), .lit (.int .u8 1), .lit (.int .u8 56), .lit (.int .u8 2), .lit (.int .u8 57), .lit (.int .u8 49), .lit (.int .u8 28), .lit (.int .u8 3), .lit (.int .u8 61), .lit (.int .u8 58), .lit (.int .u8 42), .lit (.int .u8 50), .lit (.int .u8 38), .lit (.int .u8 29), .lit (.int .u8 17), .lit (.int .u8 4), .lit (.int .u8 62), .lit (.int .u8 47), .lit (.int .u8 59), .lit (.int .u8 36), .lit (.int .u8 45), .lit (.int .u8 43), .lit (.int .u8 51), .lit (.int .u8 22), .lit (.int .u8 53), .lit (.int .u8 39), .lit (.int .u8 33), .lit (.int .u8 30), .lit (.int .u8 24), .lit (.int .u8 18), .lit (.int .u8 12), .lit (.int .u8 5), .lit (.int .u8 63), .lit (.int .u8 55), .lit (.int .u8 48), .lit (.int .u8 27), .lit (.int .u8 60), .lit (.int .u8 41), .lit (.int .u8 37), .lit (.int .u8 16), .lit (.int .u8 46), .lit (.int .u8 35), .lit (.int .u8 44), .lit (.int .u8 21), .lit (.int .u8 52), .lit (.int .u8 32), .lit (.int .u8 23), .lit (.int .u8 11), .lit (.int .u8 54), .lit (.int .u8 26), .lit (.int .u8 40), .lit (.int .u8 15), .lit (.int .u8 34), .lit (.int .u8 20), .lit (.int .u8 31), .lit (.int .u8 10), .lit (.int .u8 25), .lit (.int .u8 14), .lit (.int .u8 19), .lit (.int .u8 9), .lit (.int .u8 13), .lit (.int .u8 8), .lit (.int .u8 7), .lit (.int .u8 6)]
def laid_unicode_utf8_acceptRanges {H : Type} : DataW H := .agg [.agg [.lit (.int .u8 128), .lit (.int .u8 191)], .agg [.lit (.int .u8 160), .lit (.int .u8 191)], .agg [.lit (.int .u8 128), .lit (.int .u8 159)], .agg [.lit (.int .u8 144), .lit (.int .u8 191)], .agg [.lit (.int .u8 128), .lit (.int .u8 143)], .agg [.lit (.int .u8 0), .lit (.int .u8 0)], .agg [.lit (.int .u8 0), .lit (.int .u8 0)], .agg [.lit (.int .u8 0), .lit (.int .u8 0)], .agg [.lit (.int .u8 0), .lit (.int .u8 0)], .agg [.lit (.int .u8 0), .lit (.int .u8 0)], .agg [.lit (.int .u8 0), .lit (.int .u8 0)], .agg [.lit (.int .u8 0), .lit (.int .u8 0)], .agg [.lit (.int .u8 0), .lit (.int .u8 0)], .agg [.lit (.int .u8 0), .lit (.int .u8 0)], .agg [.lit (.int .u8 0), .lit (.int .u8 0)], .agg [.lit (.int .u8 0), .lit (.int .u8 0)]]
/-- One of Go's own tables, pinned by name: the form's constant. -/
def laid_unicode_utf8_first : DataW Unit := Go.Pinned.utf8First

/-- 'stockyardlaw05.RegionLeasts': WHATEVER THE INPUT: true; the input reads as it did. -/
def regionLeastsSpec : ChangeSpec := { name := "regionLeasts", fn := fun _ => fun
  | [d] => { results := [.lit (.bool true)], args := [d] }
  | _ => none }
def regionLeastsRow : OpenClaim := { program := "ytdndfkoklhfffaadoor", sum := "4021d61831e64e6afb4487f34aa840ae6a37976e1174da5ed1a2733a2e262d9a", func := "stockyard/stockyardlaw05.RegionLeasts", spec := "regionLeasts", inPlace := ["internal/abi.NoEscape", "internal/bytealg.MakeNoZero", "internal/bytealg.IndexByteString"], unfollowed := true, recurses := true, named := ["math/bits.deBruijn64tab"], apart := false, laid := [("math/bits.deBruijn64tab", laid_math_bits_deBruijn64tab)] }
def RegionLeastsSaid : Prop := regionLeastsRow.holds Tryd.pinned (OpenSpec.ofChange regionLeastsSpec)

/-- ITS FALSE NEIGHBOUR: 'it returns false'. Refute it at one input. -/
def regionLeastsWrong : ChangeSpec := { name := "regionLeasts", fn := fun _ => fun
  | [d] => { results := [.lit (.bool false)], args := [d] }
  | _ => none }
def RegionLeastsWrongFalsely : Prop := regionLeastsRow.holds Tryd.pinned (OpenSpec.ofChange regionLeastsWrong)

/-- 'stockyardlaw05.RegionPoint': WHATEVER THE INPUT: true; the input reads as it did. -/
def regionPointSpec : ChangeSpec := { name := "regionPoint", fn := fun _ => fun
  | [d1, d2] => { results := [.lit (.bool true)], args := [d1, d2] }
  | _ => none }
def regionPointRow : OpenClaim := { program := "ytdndfkoklhfffaadoor", sum := "4021d61831e64e6afb4487f34aa840ae6a37976e1174da5ed1a2733a2e262d9a", func := "stockyard/stockyardlaw05.RegionPoint", spec := "regionPoint", inPlace := ["internal/bytealg.CountString", "internal/bytealg.IndexByteString", "internal/bytealg.IndexString", "internal/abi.NoEscape", "internal/bytealg.MakeNoZero"], unfollowed := true, recurses := true, named := ["unicode/utf8.first", "unicode/utf8.acceptRanges", "internal/bytealg.MaxLen", "math/bits.deBruijn64tab"], apart := false, laid := [("math/bits.deBruijn64tab", laid_math_bits_deBruijn64tab), ("unicode/utf8.acceptRanges", laid_unicode_utf8_acceptRanges), ("unicode/utf8.first", laid_unicode_utf8_first)] }
def RegionPointSaid : Prop := regionPointRow.holds Tryd.pinned (OpenSpec.ofChange regionPointSpec)

/-- ITS FALSE NEIGHBOUR: 'it returns false'. Refute it at one input. -/
def regionPointWrong : ChangeSpec := { name := "regionPoint", fn := fun _ => fun
  | [d1, d2] => { results := [.lit (.bool false)], args := [d1, d2] }
  | _ => none }
def RegionPointWrongFalsely : Prop := regionPointRow.holds Tryd.pinned (OpenSpec.ofChange regionPointWrong)

/-- 'stockyardlaw05.RegionChecks': WHATEVER THE INPUT: true; the input reads as it did. -/
def regionChecksSpec : ChangeSpec := { name := "regionChecks", fn := fun _ => fun
  | [d1, d2] => { results := [.lit (.bool true)], args := [d1, d2] }
  | _ => none }
def regionChecksRow : OpenClaim := { program := "ytdndfkoklhfffaadoor", sum := "4021d61831e64e6afb4487f34aa840ae6a37976e1174da5ed1a2733a2e262d9a", func := "stockyard/stockyardlaw05.RegionChecks", spec := "regionChecks", inPlace := ["internal/abi.NoEscape", "internal/bytealg.MakeNoZero", "internal/bytealg.IndexByteString", "internal/bytealg.CountString", "internal/bytealg.IndexString"], unfollowed := true, recurses := true, named := ["math/bits.deBruijn64tab", "unicode/utf8.first", "unicode/utf8.acceptRanges", "internal/bytealg.MaxLen"], apart := false, laid := [("math/bits.deBruijn64tab", laid_math_bits_deBruijn64tab), ("unicode/utf8.acceptRanges", laid_unicode_utf8_acceptRanges), ("unicode/utf8.first", laid_unicode_utf8_first)] }
def RegionChecksSaid : Prop := regionChecksRow.holds Tryd.pinned (OpenSpec.ofChange regionChecksSpec)

/-- ITS FALSE NEIGHBOUR: 'it returns false'. Refute it at one input. -/
def regionChecksWrong : ChangeSpec := { name := "regionChecks", fn := fun _ => fun
  | [d1, d2] => { results := [.lit (.bool false)], args := [d1, d2] }
  | _ => none }
def RegionChecksWrongFalsely : Prop := regionChecksRow.holds Tryd.pinned (OpenSpec.ofChange regionChecksWrong)

/-- 'stockyardlaw05.RegionWitness': WHATEVER THE INPUT: true; the input reads as it did. -/
def regionWitnessSpec : ChangeSpec := { name := "regionWitness", fn := fun _ => fun
  | [d1, d2] => { results := [.lit (.bool true)], args := [d1, d2] }
  | _ => none }
def regionWitnessRow : OpenClaim := { program := "ytdndfkoklhfffaadoor", sum := "4021d61831e64e6afb4487f34aa840ae6a37976e1174da5ed1a2733a2e262d9a", func := "stockyard/stockyardlaw05.RegionWitness", spec := "regionWitness", inPlace := ["internal/abi.NoEscape", "internal/bytealg.MakeNoZero", "internal/bytealg.CountString", "internal/bytealg.IndexByteString", "internal/bytealg.IndexString", "internal/bytealg.abigen_runtime_cmpstring"], unfollowed := true, recurses := true, named := ["math/bits.deBruijn64tab", "unicode/utf8.first", "unicode/utf8.acceptRanges", "internal/bytealg.MaxLen"], apart := false, laid := [("math/bits.deBruijn64tab", laid_math_bits_deBruijn64tab), ("unicode/utf8.acceptRanges", laid_unicode_utf8_acceptRanges), ("unicode/utf8.first", laid_unicode_utf8_first)] }
def RegionWitnessSaid : Prop := regionWitnessRow.holds Tryd.pinned (OpenSpec.ofChange regionWitnessSpec)

/-- ITS FALSE NEIGHBOUR: 'it returns false'. Refute it at one input. -/
def regionWitnessWrong : ChangeSpec := { name := "regionWitness", fn := fun _ => fun
  | [d1, d2] => { results := [.lit (.bool false)], args := [d1, d2] }
  | _ => none }
def RegionWitnessWrongFalsely : Prop := regionWitnessRow.holds Tryd.pinned (OpenSpec.ofChange regionWitnessWrong)

/-- 'stockyardlaw05.RegionOrder': WHATEVER THE INPUT: true; the input reads as it did. -/
def regionOrderSpec : ChangeSpec := { name := "regionOrder", fn := fun _ => fun
  | [d1, d2] => { results := [.lit (.bool true)], args := [d1, d2] }
  | _ => none }
def regionOrderRow : OpenClaim := { program := "ytdndfkoklhfffaadoor", sum := "4021d61831e64e6afb4487f34aa840ae6a37976e1174da5ed1a2733a2e262d9a", func := "stockyard/stockyardlaw05.RegionOrder", spec := "regionOrder", inPlace := ["internal/abi.NoEscape", "internal/bytealg.MakeNoZero", "internal/bytealg.abigen_runtime_cmpstring"], unfollowed := true, recurses := true, named := ["math/bits.deBruijn64tab"], apart := false, laid := [("math/bits.deBruijn64tab", laid_math_bits_deBruijn64tab)] }
def RegionOrderSaid : Prop := regionOrderRow.holds Tryd.pinned (OpenSpec.ofChange regionOrderSpec)

/-- ITS FALSE NEIGHBOUR: 'it returns false'. Refute it at one input. -/
def regionOrderWrong : ChangeSpec := { name := "regionOrder", fn := fun _ => fun
  | [d1, d2] => { results := [.lit (.bool false)], args := [d1, d2] }
  | _ => none }
def RegionOrderWrongFalsely : Prop := regionOrderRow.holds Tryd.pinned (OpenSpec.ofChange regionOrderWrong)

/-- 'stockyardlaw05.RegionSimplifies': WHATEVER THE INPUT: true; the input reads as it did. -/
def regionSimplifiesSpec : ChangeSpec := { name := "regionSimplifies", fn := fun _ => fun
  | [d] => { results := [.lit (.bool true)], args := [d] }
  | _ => none }
def regionSimplifiesRow : OpenClaim := { program := "ytdndfkoklhfffaadoor", sum := "4021d61831e64e6afb4487f34aa840ae6a37976e1174da5ed1a2733a2e262d9a", func := "stockyard/stockyardlaw05.RegionSimplifies", spec := "regionSimplifies", inPlace := ["internal/abi.NoEscape", "internal/bytealg.MakeNoZero", "internal/bytealg.abigen_runtime_cmpstring", "internal/bytealg.IndexByteString"], unfollowed := true, recurses := true, named := ["math/bits.deBruijn64tab"], apart := false, laid := [("math/bits.deBruijn64tab", laid_math_bits_deBruijn64tab)] }
def RegionSimplifiesSaid : Prop := regionSimplifiesRow.holds Tryd.pinned (OpenSpec.ofChange regionSimplifiesSpec)

/-- ITS FALSE NEIGHBOUR: 'it returns false'. Refute it at one input. -/
def regionSimplifiesWrong : ChangeSpec := { name := "regionSimplifies", fn := fun _ => fun
  | [d] => { results := [.lit (.bool false)], args := [d] }
  | _ => none }
def RegionSimplifiesWrongFalsely : Prop := regionSimplifiesRow.holds Tryd.pinned (OpenSpec.ofChange regionSimplifiesWrong)

/-- 'stockyardlaw05.RegionParts': WHATEVER THE INPUT: true; the input reads as it did. -/
def regionPartsSpec : ChangeSpec := { name := "regionParts", fn := fun _ => fun
  | [d1, d2] => { results := [.lit (.bool true)], args := [d1, d2] }
  | _ => none }
def regionPartsRow : OpenClaim := { program := "ytdndfkoklhfffaadoor", sum := "4021d61831e64e6afb4487f34aa840ae6a37976e1174da5ed1a2733a2e262d9a", func := "stockyard/stockyardlaw05.RegionParts", spec := "regionParts", inPlace := ["internal/abi.NoEscape", "internal/bytealg.MakeNoZero", "internal/bytealg.abigen_runtime_cmpstring"], unfollowed := true, recurses := true, named := ["math/bits.deBruijn64tab"], apart := false, laid := [("math/bits.deBruijn64tab", laid_math_bits_deBruijn64tab)] }
def RegionPartsSaid : Prop := regionPartsRow.holds Tryd.pinned (OpenSpec.ofChange regionPartsSpec)

/-- ITS FALSE NEIGHBOUR: 'it returns false'. Refute it at one input. -/
def regionPartsWrong : ChangeSpec := { name := "regionParts", fn := fun _ => fun
  | [d1, d2] => { results := [.lit (.bool false)], args := [d1, d2] }
  | _ => none }
def RegionPartsWrongFalsely : Prop := regionPartsRow.holds Tryd.pinned (OpenSpec.ofChange regionPartsWrong)

/- THE SECOND FORM. 'bulk': how many values and letters a reading holds, each counted each time it is reached (what is shared counts as often as it is met; a slice's spare places count too). A statement '..UptoSaid' is the law's where the arguments, and the package variables that the reading takes, are together of bulk at most 1048576: NARROWER than '..Said'. Prove '..Said' where nothing that the law and all that it calls make is longer than what came in: it says more and counts as full. Else prove '..UptoSaid'. A law counts once. -/
mutual
def uptoBulk {H : Type} : DataW H → Nat
  | .lit (.string bytes) => bytes.length + 1
  | .lit _ => 1
  | .nil => 1
  | .ptr d => uptoBulk d + 1
  | .slice elems spare => uptoBulkAll elems + uptoBulkAll spare + 1
  | .agg parts => uptoBulkAll parts + 1
  | .iface _ d => uptoBulk d + 1
  | .map entries => uptoBulkEntries entries + 1
  | .held _ => 1
def uptoBulkAll {H : Type} : List (DataW H) → Nat
  | [] => 0
  | d :: r => uptoBulk d + uptoBulkAll r
def uptoBulkEntries {H : Type} : List (Lit × DataW H) → Nat
  | [] => 0
  | x :: r => uptoBulkEntry x + uptoBulkEntries r
def uptoBulkEntry {H : Type} : Lit × DataW H → Nat
  | (.string bytes, d) => bytes.length + uptoBulk d + 1
  | (_, d) => uptoBulk d + 1
 end
def uptoSmall : (H : Type) → List (DataW H) → Bool := fun _ ds => decide (uptoBulkAll ds ≤ 1048576)
def OpenSpec.upto (s : _root_.Go.ChangeSpec) : _root_.Go.OpenSpec := { _root_.Go.OpenSpec.ofChange s with cond := some uptoSmall }

/-- 'stockyardlaw05.RegionLeasts', WHERE WHAT IT READS IS OF BULK AT MOST 1048576: true; the input reads as it did. -/
def regionLeastsUptoRow : OpenClaim := { program := "ytdndfkoklhfffaadoor", sum := "4021d61831e64e6afb4487f34aa840ae6a37976e1174da5ed1a2733a2e262d9a", func := "stockyard/stockyardlaw05.RegionLeasts", spec := "regionLeasts", inPlace := ["internal/abi.NoEscape", "internal/bytealg.MakeNoZero", "internal/bytealg.IndexByteString"], unfollowed := true, recurses := true, named := ["math/bits.deBruijn64tab"], apart := false, laid := [("math/bits.deBruijn64tab", laid_math_bits_deBruijn64tab)], narrowed := true }
def RegionLeastsUptoSaid : Prop := regionLeastsUptoRow.holds Tryd.pinned (OpenSpec.upto regionLeastsSpec)

/-- 'stockyardlaw05.RegionPoint', WHERE WHAT IT READS IS OF BULK AT MOST 1048576: true; the input reads as it did. -/
def regionPointUptoRow : OpenClaim := { program := "ytdndfkoklhfffaadoor", sum := "4021d61831e64e6afb4487f34aa840ae6a37976e1174da5ed1a2733a2e262d9a", func := "stockyard/stockyardlaw05.RegionPoint", spec := "regionPoint", inPlace := ["internal/bytealg.CountString", "internal/bytealg.IndexByteString", "internal/bytealg.IndexString", "internal/abi.NoEscape", "internal/bytealg.MakeNoZero"], unfollowed := true, recurses := true, named := ["unicode/utf8.first", "unicode/utf8.acceptRanges", "internal/bytealg.MaxLen", "math/bits.deBruijn64tab"], apart := false, laid := [("math/bits.deBruijn64tab", laid_math_bits_deBruijn64tab), ("unicode/utf8.acceptRanges", laid_unicode_utf8_acceptRanges), ("unicode/utf8.first", laid_unicode_utf8_first)], narrowed := true }
def RegionPointUptoSaid : Prop := regionPointUptoRow.holds Tryd.pinned (OpenSpec.upto regionPointSpec)

/-- 'stockyardlaw05.RegionChecks', WHERE WHAT IT READS IS OF BULK AT MOST 1048576: true; the input reads as it did. -/
def regionChecksUptoRow : OpenClaim := { program := "ytdndfkoklhfffaadoor", sum := "4021d61831e64e6afb4487f34aa840ae6a37976e1174da5ed1a2733a2e262d9a", func := "stockyard/stockyardlaw05.RegionChecks", spec := "regionChecks", inPlace := ["internal/abi.NoEscape", "internal/bytealg.MakeNoZero", "internal/bytealg.IndexByteString", "internal/bytealg.CountString", "internal/bytealg.IndexString"], unfollowed := true, recurses := true, named := ["math/bits.deBruijn64tab", "unicode/utf8.first", "unicode/utf8.acceptRanges", "internal/bytealg.MaxLen"], apart := false, laid := [("math/bits.deBruijn64tab", laid_math_bits_deBruijn64tab), ("unicode/utf8.acceptRanges", laid_unicode_utf8_acceptRanges), ("unicode/utf8.first", laid_unicode_utf8_first)], narrowed := true }
def RegionChecksUptoSaid : Prop := regionChecksUptoRow.holds Tryd.pinned (OpenSpec.upto regionChecksSpec)

/-- 'stockyardlaw05.RegionWitness', WHERE WHAT IT READS IS OF BULK AT MOST 1048576: true; the input reads as it did. -/
def regionWitnessUptoRow : OpenClaim := { program := "ytdndfkoklhfffaadoor", sum := "4021d61831e64e6afb4487f34aa840ae6a37976e1174da5ed1a2733a2e262d9a", func := "stockyard/stockyardlaw05.RegionWitness", spec := "regionWitness", inPlace := ["internal/abi.NoEscape", "internal/bytealg.MakeNoZero", "internal/bytealg.CountString", "internal/bytealg.IndexByteString", "internal/bytealg.IndexString", "internal/bytealg.abigen_runtime_cmpstring"], unfollowed := true, recurses := true, named := ["math/bits.deBruijn64tab", "unicode/utf8.first", "unicode/utf8.acceptRanges", "internal/bytealg.MaxLen"], apart := false, laid := [("math/bits.deBruijn64tab", laid_math_bits_deBruijn64tab), ("unicode/utf8.acceptRanges", laid_unicode_utf8_acceptRanges), ("unicode/utf8.first", laid_unicode_utf8_first)], narrowed := true }
def RegionWitnessUptoSaid : Prop := regionWitnessUptoRow.holds Tryd.pinned (OpenSpec.upto regionWitnessSpec)

/-- 'stockyardlaw05.RegionOrder', WHERE WHAT IT READS IS OF BULK AT MOST 1048576: true; the input reads as it did. -/
def regionOrderUptoRow : OpenClaim := { program := "ytdndfkoklhfffaadoor", sum := "4021d61831e64e6afb4487f34aa840ae6a37976e1174da5ed1a2733a2e262d9a", func := "stockyard/stockyardlaw05.RegionOrder", spec := "regionOrder", inPlace := ["internal/abi.NoEscape", "internal/bytealg.MakeNoZero", "internal/bytealg.abigen_runtime_cmpstring"], unfollowed := true, recurses := true, named := ["math/bits.deBruijn64tab"], apart := false, laid := [("math/bits.deBruijn64tab", laid_math_bits_deBruijn64tab)], narrowed := true }
def RegionOrderUptoSaid : Prop := regionOrderUptoRow.holds Tryd.pinned (OpenSpec.upto regionOrderSpec)

/-- 'stockyardlaw05.RegionSimplifies', WHERE WHAT IT READS IS OF BULK AT MOST 1048576: true; the input reads as it did. -/
def regionSimplifiesUptoRow : OpenClaim := { program := "ytdndfkoklhfffaadoor", sum := "4021d61831e64e6afb4487f34aa840ae6a37976e1174da5ed1a2733a2e262d9a", func := "stockyard/stockyardlaw05.RegionSimplifies", spec := "regionSimplifies", inPlace := ["internal/abi.NoEscape", "internal/bytealg.MakeNoZero", "internal/bytealg.abigen_runtime_cmpstring", "internal/bytealg.IndexByteString"], unfollowed := true, recurses := true, named := ["math/bits.deBruijn64tab"], apart := false, laid := [("math/bits.deBruijn64tab", laid_math_bits_deBruijn64tab)], narrowed := true }
def RegionSimplifiesUptoSaid : Prop := regionSimplifiesUptoRow.holds Tryd.pinned (OpenSpec.upto regionSimplifiesSpec)

/-- 'stockyardlaw05.RegionParts', WHERE WHAT IT READS IS OF BULK AT MOST 1048576: true; the input reads as it did. -/
def regionPartsUptoRow : OpenClaim := { program := "ytdndfkoklhfffaadoor", sum := "4021d61831e64e6afb4487f34aa840ae6a37976e1174da5ed1a2733a2e262d9a", func := "stockyard/stockyardlaw05.RegionParts", spec := "regionParts", inPlace := ["internal/abi.NoEscape", "internal/bytealg.MakeNoZero", "internal/bytealg.abigen_runtime_cmpstring"], unfollowed := true, recurses := true, named := ["math/bits.deBruijn64tab"], apart := false, laid := [("math/bits.deBruijn64tab", laid_math_bits_deBruijn64tab)], narrowed := true }
def RegionPartsUptoSaid : Prop := regionPartsUptoRow.holds Tryd.pinned (OpenSpec.upto regionPartsSpec)

end Rows
end Go.Proofs.YtdndfkoklhfffaaDoor
