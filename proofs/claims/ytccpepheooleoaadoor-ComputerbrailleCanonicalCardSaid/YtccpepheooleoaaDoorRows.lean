/-
  NARROWER THAN 'FOR EVERY INPUT', by the rows' own cells (each row's printed sentence says how): ComputerbrailleCells: laid · ComputerbrailleCapitals: laid · ComputerbrailleTable: laid · ComputerbrailleBijection: laid · ComputerbrailleConcatenation: laid · ComputerbrailleText: laid · ComputerbraillePrefix: laid · ComputerbrailleRoundTrip: laid · ComputerbrailleCanonical: laid.
  DERIVED. THE GIVEN ROWS OF THIS SEAT. 9 by the template 'for every input the law returns true; each argument reads behind the call as it read before'; 0 by the template 'total and deterministic' (their statements: YtccpepheooleoaaDoorTotals.lean).
  GIVEN WITH THE SEED: the statements are not yours to turn. If you find one false, say at which input.
  Laid BY PROGRAM, IN A SANDBOX (cutbox-rows.mjs): the forced cells as the released guide's own fill.sh prints them over the translation beaeeaf94738d246… (all of the seat's roots in one cut). By AI agents, Wed Nov 11 2026. No macro, syntax, notation, axiom, sorry.
-/
import Derived.Test.YtccpepheooleoaaDoorChecked
import GoSem.PinnedTables
import GoSem.Claim
import GoSem.ClaimJoined
import GoSem.ClaimMapViews
import Derived.JoinedTies
import Derived.KernelRfl
namespace Go.Proofs.YtccpepheooleoaaDoor
/- THE CELL 'sum', in the pinned program and in every row, IS THE sha256 OF THE DUMP (.gsa) THAT YtccpepheooleoaaDoorProg.lean LOADS. Nothing in Lean hashes anything: it is a label: what it is worth is what the hold of that sum in a sandbox is worth. -/
noncomputable def Tryd.pinned : Pinned := { name := "ytccpepheooleoaadoor", sum := "beaeeaf94738d246d1ae2c619c0db40d7cfe87bcf053370c37c477c9becea96b", checked := Tryd.checked }
namespace Rows
def none {H : Type} : Left H := { results := [], args := [] }

/- WHAT THE LISTED PACKAGE-LEVEL VARIABLES READ AS WHEN THE CALL BEGINS. Each datum BY PROGRAM (the guide's laid-datum.mjs) off the statement by which the dump's own 'gosem.cut.vars' lays the variable. In a bare row this is a premise. The card (YtccpepheooleoaaDoorCards.lean) ties it to the program's text. -/
def laid_narrator_computerbraille_table {H : Type} : DataW H := .agg [.lit (.int .u8 0), .lit (.int .u8 46), .lit (.int .u8 16), .lit (.int .u8 60), .lit (.int .u8 43), .lit (.int .u8 41), .lit (.int .u8 47), .lit (.int .u8 4), .lit (.int .u8 55), .lit (.int .u8 62), .lit (.int .u8 33), .lit (.int .u8 44), .lit (.int .u8 32), .lit (.int .u8 36), .lit (.int .u8 40), .lit (.int .u8 12), .lit (.int .u8 52), .lit (.int .u8 2), .lit (.int .u8 6), .lit (.int .u8 18), .lit (.int .u8 50), .lit (.int .u8 34), .lit (.int .u8 22), .lit (.int .u8 54), .lit (.int .u8 38), .lit (.int .u8 20), .lit (.int .u8 49), .lit (.int .u8 48), .lit (.int .u8 35), .lit (.int .u8 63), .lit (.int .u8 28), .lit (.int .u8 57), .lit (.int .u8 72), .lit (.int .u8 65), .lit (.int .u8 67), .lit (.int .u8 73), .lit (.int .u8 89), .lit (.int .u8 81), .lit (.int .u8 75), .lit (.int .u8 91), .lit (.int .u8 83), .lit (.int .u8 74), .lit (.int .u8 90), .lit (.int .u8 69), .lit (.int .u8 71), .lit (.int .u8 77), .lit (.int .u8 93), .lit (.int .u8 85), .lit (.int .u8 79), .lit (.int .u8 95), .lit (.int .u8 87), .lit (.int .u8 78), .lit (.int .u8 94), .lit (.int .u8 101), .lit (.int .u8 103), .lit (.int .u8 122), .lit (.int .u8 109), .lit (.int .u8 125), .lit (.int .u8 117), .lit (.int .u8 106), .lit (.int .u8 115), .lit (.int .u8 123), .lit (.int .u8 88), .lit (.int .u8 56), .lit (.int .u8 8), .lit (.int .u8 1), .lit (.int .u8 3), .lit (.int .u8 9), .lit (.int .u8 25), .lit (.int .u8 17), .lit (.int .u8 11), .lit (.int .u8 27), .lit (.int .u8 19), .lit (.int .u8 10), .lit (.int .u8 26), .lit (.int .u8 5), .lit (.int .u8 7), .lit (.int .u8 13), .lit (.int .u8 29), .lit (.int .u8 21), .lit (.int .u8 15), .lit (.int .u8 31), .lit (.int .u8 23), .lit (.int .u8 14), .lit (.int .u8 30), .lit (.int .u8 37), .lit (.int .u8 39), .lit (.int .u8 58), .lit (.int .u8 45), .lit (.int .u8 61), .lit (.int .u8 53), .lit (.int .u8 42), .lit (.int .u8 51), .lit (.int .u8 59), .lit (.int .u8 24)]
def laid_unicode_utf8_acceptRanges {H : Type} : DataW H := .agg [.agg [.lit (.int .u8 128), .lit (.int .u8 191)], .agg [.lit (.int .u8 160), .lit (.int .u8 191)], .agg [.lit (.int .u8 128), .lit (.int .u8 159)], .agg [.lit (.int .u8 144), .lit (.int .u8 191)], .agg [.lit (.int .u8 128), .lit (.int .u8 143)], .agg [.lit (.int .u8 0), .lit (.int .u8 0)], .agg [.lit (.int .u8 0), .lit (.int .u8 0)], .agg [.lit (.int .u8 0), .lit (.int .u8 0)], .agg [.lit (.int .u8 0), .lit (.int .u8 0)], .agg [.lit (.int .u8 0), .lit (.int .u8 0)], .agg [.lit (.int .u8 0), .lit (.int .u8 0)], .agg [.lit (.int .u8 0), .lit (.int .u8 0)], .agg [.lit (.int .u8 0), .lit (.int .u8 0)], .agg [.lit (.int .u8 0), .lit (.int .u8 0)], .agg [.lit (.int .u8 0), .lit (.int .u8 0)], .agg [.lit (.int .u8 0), .lit (.int .u8 0)]]
/-- One of Go's own tables, pinned by name: the form's constant. -/
def laid_unicode_utf8_first : DataW Unit := Go.Pinned.utf8First

/-- 'narratorlaw51.ComputerbrailleCells': WHATEVER THE INPUT: true; the input reads as it did. -/
def computerbrailleCellsSpec : ChangeSpec := { name := "computerbrailleCells", fn := fun _ => fun
  | [d] => { results := [.lit (.bool true)], args := [d] }
  | _ => none }
def computerbrailleCellsRow : OpenClaim := { program := "ytccpepheooleoaadoor", sum := "beaeeaf94738d246d1ae2c619c0db40d7cfe87bcf053370c37c477c9becea96b", func := "narrator/narratorlaw51.ComputerbrailleCells", spec := "computerbrailleCells", named := ["narrator/computerbraille.table"], apart := false, laid := [("narrator/computerbraille.table", laid_narrator_computerbraille_table)] }
def ComputerbrailleCellsSaid : Prop := computerbrailleCellsRow.holds Tryd.pinned (OpenSpec.ofChange computerbrailleCellsSpec)

/-- ITS FALSE NEIGHBOUR: 'it returns false'. Refute it at one input. -/
def computerbrailleCellsWrong : ChangeSpec := { name := "computerbrailleCells", fn := fun _ => fun
  | [d] => { results := [.lit (.bool false)], args := [d] }
  | _ => none }
def ComputerbrailleCellsWrongFalsely : Prop := computerbrailleCellsRow.holds Tryd.pinned (OpenSpec.ofChange computerbrailleCellsWrong)

/-- 'narratorlaw51.ComputerbrailleCapitals': WHATEVER THE INPUT: true; the input reads as it did. -/
def computerbrailleCapitalsSpec : ChangeSpec := { name := "computerbrailleCapitals", fn := fun _ => fun
  | [d] => { results := [.lit (.bool true)], args := [d] }
  | _ => none }
def computerbrailleCapitalsRow : OpenClaim := { program := "ytccpepheooleoaadoor", sum := "beaeeaf94738d246d1ae2c619c0db40d7cfe87bcf053370c37c477c9becea96b", func := "narrator/narratorlaw51.ComputerbrailleCapitals", spec := "computerbrailleCapitals", named := ["narrator/computerbraille.table"], apart := false, laid := [("narrator/computerbraille.table", laid_narrator_computerbraille_table)] }
def ComputerbrailleCapitalsSaid : Prop := computerbrailleCapitalsRow.holds Tryd.pinned (OpenSpec.ofChange computerbrailleCapitalsSpec)

/-- ITS FALSE NEIGHBOUR: 'it returns false'. Refute it at one input. -/
def computerbrailleCapitalsWrong : ChangeSpec := { name := "computerbrailleCapitals", fn := fun _ => fun
  | [d] => { results := [.lit (.bool false)], args := [d] }
  | _ => none }
def ComputerbrailleCapitalsWrongFalsely : Prop := computerbrailleCapitalsRow.holds Tryd.pinned (OpenSpec.ofChange computerbrailleCapitalsWrong)

/-- 'narratorlaw51.ComputerbrailleTable': WHATEVER THE INPUT: true; the input reads as it did. -/
def computerbrailleTableSpec : ChangeSpec := { name := "computerbrailleTable", fn := fun _ => fun
  | [d1, d2] => { results := [.lit (.bool true)], args := [d1, d2] }
  | _ => none }
def computerbrailleTableRow : OpenClaim := { program := "ytccpepheooleoaadoor", sum := "beaeeaf94738d246d1ae2c619c0db40d7cfe87bcf053370c37c477c9becea96b", func := "narrator/narratorlaw51.ComputerbrailleTable", spec := "computerbrailleTable", named := ["narrator/computerbraille.table"], apart := false, laid := [("narrator/computerbraille.table", laid_narrator_computerbraille_table)] }
def ComputerbrailleTableSaid : Prop := computerbrailleTableRow.holds Tryd.pinned (OpenSpec.ofChange computerbrailleTableSpec)

/-- ITS FALSE NEIGHBOUR: 'it returns false'. Refute it at one input. -/
def computerbrailleTableWrong : ChangeSpec := { name := "computerbrailleTable", fn := fun _ => fun
  | [d1, d2] => { results := [.lit (.bool false)], args := [d1, d2] }
  | _ => none }
def ComputerbrailleTableWrongFalsely : Prop := computerbrailleTableRow.holds Tryd.pinned (OpenSpec.ofChange computerbrailleTableWrong)

/-- 'narratorlaw51.ComputerbrailleBijection': WHATEVER THE INPUT: true; the input reads as it did. -/
def computerbrailleBijectionSpec : ChangeSpec := { name := "computerbrailleBijection", fn := fun _ => fun
  | [d1, d2, d3] => { results := [.lit (.bool true)], args := [d1, d2, d3] }
  | _ => none }
def computerbrailleBijectionRow : OpenClaim := { program := "ytccpepheooleoaadoor", sum := "beaeeaf94738d246d1ae2c619c0db40d7cfe87bcf053370c37c477c9becea96b", func := "narrator/narratorlaw51.ComputerbrailleBijection", spec := "computerbrailleBijection", named := ["narrator/computerbraille.table"], apart := false, laid := [("narrator/computerbraille.table", laid_narrator_computerbraille_table)] }
def ComputerbrailleBijectionSaid : Prop := computerbrailleBijectionRow.holds Tryd.pinned (OpenSpec.ofChange computerbrailleBijectionSpec)

/-- ITS FALSE NEIGHBOUR: 'it returns false'. Refute it at one input. -/
def computerbrailleBijectionWrong : ChangeSpec := { name := "computerbrailleBijection", fn := fun _ => fun
  | [d1, d2, d3] => { results := [.lit (.bool false)], args := [d1, d2, d3] }
  | _ => none }
def ComputerbrailleBijectionWrongFalsely : Prop := computerbrailleBijectionRow.holds Tryd.pinned (OpenSpec.ofChange computerbrailleBijectionWrong)

/-- 'narratorlaw51.ComputerbrailleConcatenation': WHATEVER THE INPUT: true; the input reads as it did. -/
def computerbrailleConcatenationSpec : ChangeSpec := { name := "computerbrailleConcatenation", fn := fun _ => fun
  | [d1, d2] => { results := [.lit (.bool true)], args := [d1, d2] }
  | _ => none }
def computerbrailleConcatenationRow : OpenClaim := { program := "ytccpepheooleoaadoor", sum := "beaeeaf94738d246d1ae2c619c0db40d7cfe87bcf053370c37c477c9becea96b", func := "narrator/narratorlaw51.ComputerbrailleConcatenation", spec := "computerbrailleConcatenation", named := ["unicode/utf8.first", "unicode/utf8.acceptRanges", "narrator/computerbraille.table"], apart := false, laid := [("unicode/utf8.acceptRanges", laid_unicode_utf8_acceptRanges), ("narrator/computerbraille.table", laid_narrator_computerbraille_table), ("unicode/utf8.first", laid_unicode_utf8_first)] }
def ComputerbrailleConcatenationSaid : Prop := computerbrailleConcatenationRow.holds Tryd.pinned (OpenSpec.ofChange computerbrailleConcatenationSpec)

/-- ITS FALSE NEIGHBOUR: 'it returns false'. Refute it at one input. -/
def computerbrailleConcatenationWrong : ChangeSpec := { name := "computerbrailleConcatenation", fn := fun _ => fun
  | [d1, d2] => { results := [.lit (.bool false)], args := [d1, d2] }
  | _ => none }
def ComputerbrailleConcatenationWrongFalsely : Prop := computerbrailleConcatenationRow.holds Tryd.pinned (OpenSpec.ofChange computerbrailleConcatenationWrong)

/-- 'narratorlaw51.ComputerbrailleText': WHATEVER THE INPUT: true; the input reads as it did. -/
def computerbrailleTextSpec : ChangeSpec := { name := "computerbrailleText", fn := fun _ => fun
  | [d] => { results := [.lit (.bool true)], args := [d] }
  | _ => none }
def computerbrailleTextRow : OpenClaim := { program := "ytccpepheooleoaadoor", sum := "beaeeaf94738d246d1ae2c619c0db40d7cfe87bcf053370c37c477c9becea96b", func := "narrator/narratorlaw51.ComputerbrailleText", spec := "computerbrailleText", inPlace := ["internal/bytealg.IndexByteString"], named := ["narrator/computerbraille.table"], apart := false, laid := [("narrator/computerbraille.table", laid_narrator_computerbraille_table)] }
def ComputerbrailleTextSaid : Prop := computerbrailleTextRow.holds Tryd.pinned (OpenSpec.ofChange computerbrailleTextSpec)

/-- ITS FALSE NEIGHBOUR: 'it returns false'. Refute it at one input. -/
def computerbrailleTextWrong : ChangeSpec := { name := "computerbrailleText", fn := fun _ => fun
  | [d] => { results := [.lit (.bool false)], args := [d] }
  | _ => none }
def ComputerbrailleTextWrongFalsely : Prop := computerbrailleTextRow.holds Tryd.pinned (OpenSpec.ofChange computerbrailleTextWrong)

/-- 'narratorlaw51.ComputerbraillePrefix': WHATEVER THE INPUT: true; the input reads as it did. -/
def computerbraillePrefixSpec : ChangeSpec := { name := "computerbraillePrefix", fn := fun _ => fun
  | [d] => { results := [.lit (.bool true)], args := [d] }
  | _ => none }
def computerbraillePrefixRow : OpenClaim := { program := "ytccpepheooleoaadoor", sum := "beaeeaf94738d246d1ae2c619c0db40d7cfe87bcf053370c37c477c9becea96b", func := "narrator/narratorlaw51.ComputerbraillePrefix", spec := "computerbraillePrefix", inPlace := ["internal/bytealg.IndexByteString"], named := ["narrator/computerbraille.table"], apart := false, laid := [("narrator/computerbraille.table", laid_narrator_computerbraille_table)] }
def ComputerbraillePrefixSaid : Prop := computerbraillePrefixRow.holds Tryd.pinned (OpenSpec.ofChange computerbraillePrefixSpec)

/-- ITS FALSE NEIGHBOUR: 'it returns false'. Refute it at one input. -/
def computerbraillePrefixWrong : ChangeSpec := { name := "computerbraillePrefix", fn := fun _ => fun
  | [d] => { results := [.lit (.bool false)], args := [d] }
  | _ => none }
def ComputerbraillePrefixWrongFalsely : Prop := computerbraillePrefixRow.holds Tryd.pinned (OpenSpec.ofChange computerbraillePrefixWrong)

/-- 'narratorlaw51.ComputerbrailleRoundTrip': WHATEVER THE INPUT: true; the input reads as it did. -/
def computerbrailleRoundTripSpec : ChangeSpec := { name := "computerbrailleRoundTrip", fn := fun _ => fun
  | [d] => { results := [.lit (.bool true)], args := [d] }
  | _ => none }
def computerbrailleRoundTripRow : OpenClaim := { program := "ytccpepheooleoaadoor", sum := "beaeeaf94738d246d1ae2c619c0db40d7cfe87bcf053370c37c477c9becea96b", func := "narrator/narratorlaw51.ComputerbrailleRoundTrip", spec := "computerbrailleRoundTrip", inPlace := ["internal/bytealg.IndexByteString"], named := ["narrator/computerbraille.table", "unicode/utf8.first", "unicode/utf8.acceptRanges"], apart := false, laid := [("unicode/utf8.acceptRanges", laid_unicode_utf8_acceptRanges), ("narrator/computerbraille.table", laid_narrator_computerbraille_table), ("unicode/utf8.first", laid_unicode_utf8_first)] }
def ComputerbrailleRoundTripSaid : Prop := computerbrailleRoundTripRow.holds Tryd.pinned (OpenSpec.ofChange computerbrailleRoundTripSpec)

/-- ITS FALSE NEIGHBOUR: 'it returns false'. Refute it at one input. -/
def computerbrailleRoundTripWrong : ChangeSpec := { name := "computerbrailleRoundTrip", fn := fun _ => fun
  | [d] => { results := [.lit (.bool false)], args := [d] }
  | _ => none }
def ComputerbrailleRoundTripWrongFalsely : Prop := computerbrailleRoundTripRow.holds Tryd.pinned (OpenSpec.ofChange computerbrailleRoundTripWrong)

/-- 'narratorlaw51.ComputerbrailleCanonical': WHATEVER THE INPUT: true; the input reads as it did. -/
def computerbrailleCanonicalSpec : ChangeSpec := { name := "computerbrailleCanonical", fn := fun _ => fun
  | [d] => { results := [.lit (.bool true)], args := [d] }
  | _ => none }
def computerbrailleCanonicalRow : OpenClaim := { program := "ytccpepheooleoaadoor", sum := "beaeeaf94738d246d1ae2c619c0db40d7cfe87bcf053370c37c477c9becea96b", func := "narrator/narratorlaw51.ComputerbrailleCanonical", spec := "computerbrailleCanonical", inPlace := ["internal/bytealg.IndexByteString"], named := ["narrator/computerbraille.table", "unicode/utf8.first", "unicode/utf8.acceptRanges"], apart := false, laid := [("unicode/utf8.acceptRanges", laid_unicode_utf8_acceptRanges), ("narrator/computerbraille.table", laid_narrator_computerbraille_table), ("unicode/utf8.first", laid_unicode_utf8_first)] }
def ComputerbrailleCanonicalSaid : Prop := computerbrailleCanonicalRow.holds Tryd.pinned (OpenSpec.ofChange computerbrailleCanonicalSpec)

/-- ITS FALSE NEIGHBOUR: 'it returns false'. Refute it at one input. -/
def computerbrailleCanonicalWrong : ChangeSpec := { name := "computerbrailleCanonical", fn := fun _ => fun
  | [d] => { results := [.lit (.bool false)], args := [d] }
  | _ => none }
def ComputerbrailleCanonicalWrongFalsely : Prop := computerbrailleCanonicalRow.holds Tryd.pinned (OpenSpec.ofChange computerbrailleCanonicalWrong)

/- THE SECOND FORM. 'bulk': how many values and letters a reading holds, each counted each time it is reached (what is shared counts as often as it is met; a slice's spare places count too). A statement '..UptoSaid' is the law's where the arguments, and the package variables that the reading takes, are together of bulk at most 1048576: NARROWER than '..Said'. Prove '..Said' where nothing that the law and all that it calls make is longer than what came in: it says more and counts as full. Else prove '..UptoSaid'. A law counts once. -/
mutual
def uptoBulk {H : Type} : DataW H → Nat
  | .lit (.string bytes) => bytes.length + 1
  | .lit _ => 1
  | .nil => 1
  | .ptr d => uptoBulk d + 1
  | .slice elems spare => uptoBulkAll elems + uptoBulkAll spare + 1
  | .agg parts => uptoBulkAll parts + 1
  | .iface _ d => uptoBulk d + 1
  | .map entries => uptoBulkEntries entries + 1
  | .held _ => 1
def uptoBulkAll {H : Type} : List (DataW H) → Nat
  | [] => 0
  | d :: r => uptoBulk d + uptoBulkAll r
def uptoBulkEntries {H : Type} : List (Lit × DataW H) → Nat
  | [] => 0
  | x :: r => uptoBulkEntry x + uptoBulkEntries r
def uptoBulkEntry {H : Type} : Lit × DataW H → Nat
  | (.string bytes, d) => bytes.length + uptoBulk d + 1
  | (_, d) => uptoBulk d + 1
 end
def uptoSmall : (H : Type) → List (DataW H) → Bool := fun _ ds => decide (uptoBulkAll ds ≤ 1048576)
def OpenSpec.upto (s : _root_.Go.ChangeSpec) : _root_.Go.OpenSpec := { _root_.Go.OpenSpec.ofChange s with cond := some uptoSmall }

/-- 'narratorlaw51.ComputerbrailleCells', WHERE WHAT IT READS IS OF BULK AT MOST 1048576: true; the input reads as it did. -/
def computerbrailleCellsUptoRow : OpenClaim := { program := "ytccpepheooleoaadoor", sum := "beaeeaf94738d246d1ae2c619c0db40d7cfe87bcf053370c37c477c9becea96b", func := "narrator/narratorlaw51.ComputerbrailleCells", spec := "computerbrailleCells", named := ["narrator/computerbraille.table"], apart := false, laid := [("narrator/computerbraille.table", laid_narrator_computerbraille_table)], narrowed := true }
def ComputerbrailleCellsUptoSaid : Prop := computerbrailleCellsUptoRow.holds Tryd.pinned (OpenSpec.upto computerbrailleCellsSpec)

/-- 'narratorlaw51.ComputerbrailleCapitals', WHERE WHAT IT READS IS OF BULK AT MOST 1048576: true; the input reads as it did. -/
def computerbrailleCapitalsUptoRow : OpenClaim := { program := "ytccpepheooleoaadoor", sum := "beaeeaf94738d246d1ae2c619c0db40d7cfe87bcf053370c37c477c9becea96b", func := "narrator/narratorlaw51.ComputerbrailleCapitals", spec := "computerbrailleCapitals", named := ["narrator/computerbraille.table"], apart := false, laid := [("narrator/computerbraille.table", laid_narrator_computerbraille_table)], narrowed := true }
def ComputerbrailleCapitalsUptoSaid : Prop := computerbrailleCapitalsUptoRow.holds Tryd.pinned (OpenSpec.upto computerbrailleCapitalsSpec)

/-- 'narratorlaw51.ComputerbrailleTable', WHERE WHAT IT READS IS OF BULK AT MOST 1048576: true; the input reads as it did. -/
def computerbrailleTableUptoRow : OpenClaim := { program := "ytccpepheooleoaadoor", sum := "beaeeaf94738d246d1ae2c619c0db40d7cfe87bcf053370c37c477c9becea96b", func := "narrator/narratorlaw51.ComputerbrailleTable", spec := "computerbrailleTable", named := ["narrator/computerbraille.table"], apart := false, laid := [("narrator/computerbraille.table", laid_narrator_computerbraille_table)], narrowed := true }
def ComputerbrailleTableUptoSaid : Prop := computerbrailleTableUptoRow.holds Tryd.pinned (OpenSpec.upto computerbrailleTableSpec)

/-- 'narratorlaw51.ComputerbrailleBijection', WHERE WHAT IT READS IS OF BULK AT MOST 1048576: true; the input reads as it did. -/
def computerbrailleBijectionUptoRow : OpenClaim := { program := "ytccpepheooleoaadoor", sum := "beaeeaf94738d246d1ae2c619c0db40d7cfe87bcf053370c37c477c9becea96b", func := "narrator/narratorlaw51.ComputerbrailleBijection", spec := "computerbrailleBijection", named := ["narrator/computerbraille.table"], apart := false, laid := [("narrator/computerbraille.table", laid_narrator_computerbraille_table)], narrowed := true }
def ComputerbrailleBijectionUptoSaid : Prop := computerbrailleBijectionUptoRow.holds Tryd.pinned (OpenSpec.upto computerbrailleBijectionSpec)

/-- 'narratorlaw51.ComputerbrailleConcatenation', WHERE WHAT IT READS IS OF BULK AT MOST 1048576: true; the input reads as it did. -/
def computerbrailleConcatenationUptoRow : OpenClaim := { program := "ytccpepheooleoaadoor", sum := "beaeeaf94738d246d1ae2c619c0db40d7cfe87bcf053370c37c477c9becea96b", func := "narrator/narratorlaw51.ComputerbrailleConcatenation", spec := "computerbrailleConcatenation", named := ["unicode/utf8.first", "unicode/utf8.acceptRanges", "narrator/computerbraille.table"], apart := false, laid := [("unicode/utf8.acceptRanges", laid_unicode_utf8_acceptRanges), ("narrator/computerbraille.table", laid_narrator_computerbraille_table), ("unicode/utf8.first", laid_unicode_utf8_first)], narrowed := true }
def ComputerbrailleConcatenationUptoSaid : Prop := computerbrailleConcatenationUptoRow.holds Tryd.pinned (OpenSpec.upto computerbrailleConcatenationSpec)

/-- 'narratorlaw51.ComputerbrailleText', WHERE WHAT IT READS IS OF BULK AT MOST 1048576: true; the input reads as it did. -/
def computerbrailleTextUptoRow : OpenClaim := { program := "ytccpepheooleoaadoor", sum := "beaeeaf94738d246d1ae2c619c0db40d7cfe87bcf053370c37c477c9becea96b", func := "narrator/narratorlaw51.ComputerbrailleText", spec := "computerbrailleText", inPlace := ["internal/bytealg.IndexByteString"], named := ["narrator/computerbraille.table"], apart := false, laid := [("narrator/computerbraille.table", laid_narrator_computerbraille_table)], narrowed := true }
def ComputerbrailleTextUptoSaid : Prop := computerbrailleTextUptoRow.holds Tryd.pinned (OpenSpec.upto computerbrailleTextSpec)

/-- 'narratorlaw51.ComputerbraillePrefix', WHERE WHAT IT READS IS OF BULK AT MOST 1048576: true; the input reads as it did. -/
def computerbraillePrefixUptoRow : OpenClaim := { program := "ytccpepheooleoaadoor", sum := "beaeeaf94738d246d1ae2c619c0db40d7cfe87bcf053370c37c477c9becea96b", func := "narrator/narratorlaw51.ComputerbraillePrefix", spec := "computerbraillePrefix", inPlace := ["internal/bytealg.IndexByteString"], named := ["narrator/computerbraille.table"], apart := false, laid := [("narrator/computerbraille.table", laid_narrator_computerbraille_table)], narrowed := true }
def ComputerbraillePrefixUptoSaid : Prop := computerbraillePrefixUptoRow.holds Tryd.pinned (OpenSpec.upto computerbraillePrefixSpec)

/-- 'narratorlaw51.ComputerbrailleRoundTrip', WHERE WHAT IT READS IS OF BULK AT MOST 1048576: true; the input reads as it did. -/
def computerbrailleRoundTripUptoRow : OpenClaim := { program := "ytccpepheooleoaadoor", sum := "beaeeaf94738d246d1ae2c619c0db40d7cfe87bcf053370c37c477c9becea96b", func := "narrator/narratorlaw51.ComputerbrailleRoundTrip", spec := "computerbrailleRoundTrip", inPlace := ["internal/bytealg.IndexByteString"], named := ["narrator/computerbraille.table", "unicode/utf8.first", "unicode/utf8.acceptRanges"], apart := false, laid := [("unicode/utf8.acceptRanges", laid_unicode_utf8_acceptRanges), ("narrator/computerbraille.table", laid_narrator_computerbraille_table), ("unicode/utf8.first", laid_unicode_utf8_first)], narrowed := true }
def ComputerbrailleRoundTripUptoSaid : Prop := computerbrailleRoundTripUptoRow.holds Tryd.pinned (OpenSpec.upto computerbrailleRoundTripSpec)

/-- 'narratorlaw51.ComputerbrailleCanonical', WHERE WHAT IT READS IS OF BULK AT MOST 1048576: true; the input reads as it did. -/
def computerbrailleCanonicalUptoRow : OpenClaim := { program := "ytccpepheooleoaadoor", sum := "beaeeaf94738d246d1ae2c619c0db40d7cfe87bcf053370c37c477c9becea96b", func := "narrator/narratorlaw51.ComputerbrailleCanonical", spec := "computerbrailleCanonical", inPlace := ["internal/bytealg.IndexByteString"], named := ["narrator/computerbraille.table", "unicode/utf8.first", "unicode/utf8.acceptRanges"], apart := false, laid := [("unicode/utf8.acceptRanges", laid_unicode_utf8_acceptRanges), ("narrator/computerbraille.table", laid_narrator_computerbraille_table), ("unicode/utf8.first", laid_unicode_utf8_first)], narrowed := true }
def ComputerbrailleCanonicalUptoSaid : Prop := computerbrailleCanonicalUptoRow.holds Tryd.pinned (OpenSpec.upto computerbrailleCanonicalSpec)

end Rows
end Go.Proofs.YtccpepheooleoaaDoor
