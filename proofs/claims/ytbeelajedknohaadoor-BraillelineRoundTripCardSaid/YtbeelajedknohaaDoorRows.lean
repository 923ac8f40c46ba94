/-
  NARROWER THAN 'FOR EVERY INPUT', by the rows' own cells (each row's printed sentence says how): BraillelineCells: laid · BraillelineOf: laid · BraillelinePositions: laid · BraillelineStyles: laid · BraillelineParts: laid · BraillelineEnd: laid · BraillelineGlyphs: laid · BraillelineRoundTrip: laid.
  DERIVED. THE GIVEN ROWS OF THIS SEAT. 8 by the template 'for every input the law returns true; each argument reads behind the call as it read before'; 0 by the template 'total and deterministic' (their statements: YtbeelajedknohaaDoorTotals.lean).
  GIVEN WITH THE SEED: the statements are not yours to turn. If you find one false, say at which input.
  Laid BY PROGRAM, IN A SANDBOX (cutbox-rows.mjs): the forced cells as the released guide's own fill.sh prints them over the translation decd1fecefefe9f2… (all of the seat's roots in one cut). By AI agents, Wed Nov 11 2026. No macro, syntax, notation, axiom, sorry.
-/
import Derived.Test.YtbeelajedknohaaDoorChecked
import GoSem.PinnedTables
import GoSem.Claim
import GoSem.ClaimJoined
import GoSem.ClaimMapViews
import Derived.JoinedTies
import Derived.KernelRfl
namespace Go.Proofs.YtbeelajedknohaaDoor
/- THE CELL 'sum', in the pinned program and in every row, IS THE sha256 OF THE DUMP (.gsa) THAT YtbeelajedknohaaDoorProg.lean LOADS. Nothing in Lean hashes anything: it is a label: what it is worth is what the hold of that sum in a sandbox is worth. -/
noncomputable def Tryd.pinned : Pinned := { name := "ytbeelajedknohaadoor", sum := "decd1fecefefe9f215c978eae63044a02b1dec7e9fa0cd40a98972d16eae5e15", checked := Tryd.checked }
namespace Rows
def none {H : Type} : Left H := { results := [], args := [] }

/- WHAT THE LISTED PACKAGE-LEVEL VARIABLES READ AS WHEN THE CALL BEGINS. Each datum BY PROGRAM (the guide's laid-datum.mjs) off the statement by which the dump's own 'gosem.cut.vars' lays the variable. In a bare row this is a premise. The card (YtbeelajedknohaaDoorCards.lean) ties it to the program's text. -/
def laid_narrator_computerbraille_table {H : Type} : DataW H := .agg [.lit (.int .u8 0), .lit (.int .u8 46), .lit (.int .u8 16), .lit (.int .u8 60), .lit (.int .u8 43), .lit (.int .u8 41), .lit (.int .u8 47), .lit (.int .u8 4), .lit (.int .u8 55), .lit (.int .u8 62), .lit (.int .u8 33), .lit (.int .u8 44), .lit (.int .u8 32), .lit (.int .u8 36), .lit (.int .u8 40), .lit (.int .u8 12), .lit (.int .u8 52), .lit (.int .u8 2), .lit (.int .u8 6), .lit (.int .u8 18), .lit (.int .u8 50), .lit (.int .u8 34), .lit (.int .u8 22), .lit (.int .u8 54), .lit (.int .u8 38), .lit (.int .u8 20), .lit (.int .u8 49), .lit (.int .u8 48), .lit (.int .u8 35), .lit (.int .u8 63), .lit (.int .u8 28), .lit (.int .u8 57), .lit (.int .u8 72), .lit (.int .u8 65), .lit (.int .u8 67), .lit (.int .u8 73), .lit (.int .u8 89), .lit (.int .u8 81), .lit (.int .u8 75), .lit (.int .u8 91), .lit (.int .u8 83), .lit (.int .u8 74), .lit (.int .u8 90), .lit (.int .u8 69), .lit (.int .u8 71), .lit (.int .u8 77), .lit (.int .u8 93), .lit (.int .u8 85), .lit (.int .u8 79), .lit (.int .u8 95), .lit (.int .u8 87), .lit (.int .u8 78), .lit (.int .u8 94), .lit (.int .u8 101), .lit (.int .u8 103), .lit (.int .u8 122), .lit (.int .u8 109), .lit (.int .u8 125), .lit (.int .u8 117), .lit (.int .u8 106), .lit (.int .u8 115), .lit (.int .u8 123), .lit (.int .u8 88), .lit (.int .u8 56), .lit (.int .u8 8), .lit (.int .u8 1), .lit (.int .u8 3), .lit (.int .u8 9), .lit (.int .u8 25), .lit (.int .u8 17), .lit (.int .u8 11), .lit (.int .u8 27), .lit (.int .u8 19), .lit (.int .u8 10), .lit (.int .u8 26), .lit (.int .u8 5), .lit (.int .u8 7), .lit (.int .u8 13), .lit (.int .u8 29), .lit (.int .u8 21), .lit (.int .u8 15), .lit (.int .u8 31), .lit (.int .u8 23), .lit (.int .u8 14), .lit (.int .u8 30), .lit (.int .u8 37), .lit (.int .u8 39), .lit (.int .u8 58), .lit (.int .u8 45), .lit (.int .u8 61), .lit (.int .u8 53), .lit (.int .u8 42), .lit (.int .u8 51), .lit (.int .u8 59), .lit (.int .u8 24)]
def laid_unicode_utf8_acceptRanges {H : Type} : DataW H := .agg [.agg [.lit (.int .u8 128), .lit (.int .u8 191)], .agg [.lit (.int .u8 160), .lit (.int .u8 191)], .agg [.lit (.int .u8 128), .lit (.int .u8 159)], .agg [.lit (.int .u8 144), .lit (.int .u8 191)], .agg [.lit (.int .u8 128), .lit (.int .u8 143)], .agg [.lit (.int .u8 0), .lit (.int .u8 0)], .agg [.lit (.int .u8 0), .lit (.int .u8 0)], .agg [.lit (.int .u8 0), .lit (.int .u8 0)], .agg [.lit (.int .u8 0), .lit (.int .u8 0)], .agg [.lit (.int .u8 0), .lit (.int .u8 0)], .agg [.lit (.int .u8 0), .lit (.int .u8 0)], .agg [.lit (.int .u8 0), .lit (.int .u8 0)], .agg [.lit (.int .u8 0), .lit (.int .u8 0)], .agg [.lit (.int .u8 0), .lit (.int .u8 0)], .agg [.lit (.int .u8 0), .lit (.int .u8 0)], .agg [.lit (.int .u8 0), .lit (.int .u8 0)]]
/-- One of Go's own tables, pinned by name: the form's constant. -/
def laid_unicode_utf8_first : DataW Unit := Go.Pinned.utf8First

/-- 'narratorlaw53.BraillelineCells': WHATEVER THE INPUT: true; the input reads as it did. -/
def braillelineCellsSpec : ChangeSpec := { name := "braillelineCells", fn := fun _ => fun
  | [d1, d2] => { results := [.lit (.bool true)], args := [d1, d2] }
  | _ => none }
def braillelineCellsRow : OpenClaim := { program := "ytbeelajedknohaadoor", sum := "decd1fecefefe9f215c978eae63044a02b1dec7e9fa0cd40a98972d16eae5e15", func := "narrator/narratorlaw53.BraillelineCells", spec := "braillelineCells", named := ["narrator/computerbraille.table"], apart := false, laid := [("narrator/computerbraille.table", laid_narrator_computerbraille_table)] }
def BraillelineCellsSaid : Prop := braillelineCellsRow.holds Tryd.pinned (OpenSpec.ofChange braillelineCellsSpec)

/-- ITS FALSE NEIGHBOUR: 'it returns false'. Refute it at one input. -/
def braillelineCellsWrong : ChangeSpec := { name := "braillelineCells", fn := fun _ => fun
  | [d1, d2] => { results := [.lit (.bool false)], args := [d1, d2] }
  | _ => none }
def BraillelineCellsWrongFalsely : Prop := braillelineCellsRow.holds Tryd.pinned (OpenSpec.ofChange braillelineCellsWrong)

/-- 'narratorlaw53.BraillelineOf': WHATEVER THE INPUT: true; the input reads as it did. -/
def braillelineOfSpec : ChangeSpec := { name := "braillelineOf", fn := fun _ => fun
  | [d1, d2] => { results := [.lit (.bool true)], args := [d1, d2] }
  | _ => none }
def braillelineOfRow : OpenClaim := { program := "ytbeelajedknohaadoor", sum := "decd1fecefefe9f215c978eae63044a02b1dec7e9fa0cd40a98972d16eae5e15", func := "narrator/narratorlaw53.BraillelineOf", spec := "braillelineOf", named := ["unicode/utf8.first", "unicode/utf8.acceptRanges", "narrator/computerbraille.table"], apart := false, laid := [("unicode/utf8.acceptRanges", laid_unicode_utf8_acceptRanges), ("narrator/computerbraille.table", laid_narrator_computerbraille_table), ("unicode/utf8.first", laid_unicode_utf8_first)] }
def BraillelineOfSaid : Prop := braillelineOfRow.holds Tryd.pinned (OpenSpec.ofChange braillelineOfSpec)

/-- ITS FALSE NEIGHBOUR: 'it returns false'. Refute it at one input. -/
def braillelineOfWrong : ChangeSpec := { name := "braillelineOf", fn := fun _ => fun
  | [d1, d2] => { results := [.lit (.bool false)], args := [d1, d2] }
  | _ => none }
def BraillelineOfWrongFalsely : Prop := braillelineOfRow.holds Tryd.pinned (OpenSpec.ofChange braillelineOfWrong)

/-- 'narratorlaw53.BraillelinePositions': WHATEVER THE INPUT: true; the input reads as it did. -/
def braillelinePositionsSpec : ChangeSpec := { name := "braillelinePositions", fn := fun _ => fun
  | [d1, d2] => { results := [.lit (.bool true)], args := [d1, d2] }
  | _ => none }
def braillelinePositionsRow : OpenClaim := { program := "ytbeelajedknohaadoor", sum := "decd1fecefefe9f215c978eae63044a02b1dec7e9fa0cd40a98972d16eae5e15", func := "narrator/narratorlaw53.BraillelinePositions", spec := "braillelinePositions", named := ["unicode/utf8.first", "unicode/utf8.acceptRanges", "narrator/computerbraille.table"], apart := false, laid := [("unicode/utf8.acceptRanges", laid_unicode_utf8_acceptRanges), ("narrator/computerbraille.table", laid_narrator_computerbraille_table), ("unicode/utf8.first", laid_unicode_utf8_first)] }
def BraillelinePositionsSaid : Prop := braillelinePositionsRow.holds Tryd.pinned (OpenSpec.ofChange braillelinePositionsSpec)

/-- ITS FALSE NEIGHBOUR: 'it returns false'. Refute it at one input. -/
def braillelinePositionsWrong : ChangeSpec := { name := "braillelinePositions", fn := fun _ => fun
  | [d1, d2] => { results := [.lit (.bool false)], args := [d1, d2] }
  | _ => none }
def BraillelinePositionsWrongFalsely : Prop := braillelinePositionsRow.holds Tryd.pinned (OpenSpec.ofChange braillelinePositionsWrong)

/-- 'narratorlaw53.BraillelineStyles': WHATEVER THE INPUT: true; the input reads as it did. -/
def braillelineStylesSpec : ChangeSpec := { name := "braillelineStyles", fn := fun _ => fun
  | [d1, d2, d3] => { results := [.lit (.bool true)], args := [d1, d2, d3] }
  | _ => none }
def braillelineStylesRow : OpenClaim := { program := "ytbeelajedknohaadoor", sum := "decd1fecefefe9f215c978eae63044a02b1dec7e9fa0cd40a98972d16eae5e15", func := "narrator/narratorlaw53.BraillelineStyles", spec := "braillelineStyles", named := ["unicode/utf8.first", "unicode/utf8.acceptRanges", "narrator/computerbraille.table"], apart := false, laid := [("unicode/utf8.acceptRanges", laid_unicode_utf8_acceptRanges), ("narrator/computerbraille.table", laid_narrator_computerbraille_table), ("unicode/utf8.first", laid_unicode_utf8_first)] }
def BraillelineStylesSaid : Prop := braillelineStylesRow.holds Tryd.pinned (OpenSpec.ofChange braillelineStylesSpec)

/-- ITS FALSE NEIGHBOUR: 'it returns false'. Refute it at one input. -/
def braillelineStylesWrong : ChangeSpec := { name := "braillelineStyles", fn := fun _ => fun
  | [d1, d2, d3] => { results := [.lit (.bool false)], args := [d1, d2, d3] }
  | _ => none }
def BraillelineStylesWrongFalsely : Prop := braillelineStylesRow.holds Tryd.pinned (OpenSpec.ofChange braillelineStylesWrong)

/-- 'narratorlaw53.BraillelineParts': WHATEVER THE INPUT: true; the input reads as it did. -/
def braillelinePartsSpec : ChangeSpec := { name := "braillelineParts", fn := fun _ => fun
  | [d1, d2] => { results := [.lit (.bool true)], args := [d1, d2] }
  | _ => none }
def braillelinePartsRow : OpenClaim := { program := "ytbeelajedknohaadoor", sum := "decd1fecefefe9f215c978eae63044a02b1dec7e9fa0cd40a98972d16eae5e15", func := "narrator/narratorlaw53.BraillelineParts", spec := "braillelineParts", named := ["unicode/utf8.first", "unicode/utf8.acceptRanges", "narrator/computerbraille.table"], apart := false, laid := [("unicode/utf8.acceptRanges", laid_unicode_utf8_acceptRanges), ("narrator/computerbraille.table", laid_narrator_computerbraille_table), ("unicode/utf8.first", laid_unicode_utf8_first)] }
def BraillelinePartsSaid : Prop := braillelinePartsRow.holds Tryd.pinned (OpenSpec.ofChange braillelinePartsSpec)

/-- ITS FALSE NEIGHBOUR: 'it returns false'. Refute it at one input. -/
def braillelinePartsWrong : ChangeSpec := { name := "braillelineParts", fn := fun _ => fun
  | [d1, d2] => { results := [.lit (.bool false)], args := [d1, d2] }
  | _ => none }
def BraillelinePartsWrongFalsely : Prop := braillelinePartsRow.holds Tryd.pinned (OpenSpec.ofChange braillelinePartsWrong)

/-- 'narratorlaw53.BraillelineEnd': WHATEVER THE INPUT: true; the input reads as it did. -/
def braillelineEndSpec : ChangeSpec := { name := "braillelineEnd", fn := fun _ => fun
  | [d1, d2, d3] => { results := [.lit (.bool true)], args := [d1, d2, d3] }
  | _ => none }
def braillelineEndRow : OpenClaim := { program := "ytbeelajedknohaadoor", sum := "decd1fecefefe9f215c978eae63044a02b1dec7e9fa0cd40a98972d16eae5e15", func := "narrator/narratorlaw53.BraillelineEnd", spec := "braillelineEnd", named := ["unicode/utf8.first", "unicode/utf8.acceptRanges", "narrator/computerbraille.table"], apart := false, laid := [("unicode/utf8.acceptRanges", laid_unicode_utf8_acceptRanges), ("narrator/computerbraille.table", laid_narrator_computerbraille_table), ("unicode/utf8.first", laid_unicode_utf8_first)] }
def BraillelineEndSaid : Prop := braillelineEndRow.holds Tryd.pinned (OpenSpec.ofChange braillelineEndSpec)

/-- ITS FALSE NEIGHBOUR: 'it returns false'. Refute it at one input. -/
def braillelineEndWrong : ChangeSpec := { name := "braillelineEnd", fn := fun _ => fun
  | [d1, d2, d3] => { results := [.lit (.bool false)], args := [d1, d2, d3] }
  | _ => none }
def BraillelineEndWrongFalsely : Prop := braillelineEndRow.holds Tryd.pinned (OpenSpec.ofChange braillelineEndWrong)

/-- 'narratorlaw53.BraillelineGlyphs': WHATEVER THE INPUT: true; the input reads as it did. -/
def braillelineGlyphsSpec : ChangeSpec := { name := "braillelineGlyphs", fn := fun _ => fun
  | [d1, d2] => { results := [.lit (.bool true)], args := [d1, d2] }
  | _ => none }
def braillelineGlyphsRow : OpenClaim := { program := "ytbeelajedknohaadoor", sum := "decd1fecefefe9f215c978eae63044a02b1dec7e9fa0cd40a98972d16eae5e15", func := "narrator/narratorlaw53.BraillelineGlyphs", spec := "braillelineGlyphs", inPlace := ["internal/bytealg.IndexByteString", "internal/abi.NoEscape"], unfollowed := true, recurses := true, named := ["narrator/computerbraille.table", "unicode/utf8.first", "unicode/utf8.acceptRanges"], apart := false, laid := [("unicode/utf8.acceptRanges", laid_unicode_utf8_acceptRanges), ("narrator/computerbraille.table", laid_narrator_computerbraille_table), ("unicode/utf8.first", laid_unicode_utf8_first)] }
def BraillelineGlyphsSaid : Prop := braillelineGlyphsRow.holds Tryd.pinned (OpenSpec.ofChange braillelineGlyphsSpec)

/-- ITS FALSE NEIGHBOUR: 'it returns false'. Refute it at one input. -/
def braillelineGlyphsWrong : ChangeSpec := { name := "braillelineGlyphs", fn := fun _ => fun
  | [d1, d2] => { results := [.lit (.bool false)], args := [d1, d2] }
  | _ => none }
def BraillelineGlyphsWrongFalsely : Prop := braillelineGlyphsRow.holds Tryd.pinned (OpenSpec.ofChange braillelineGlyphsWrong)

/-- 'narratorlaw53.BraillelineRoundTrip': WHATEVER THE INPUT: true; the input reads as it did. -/
def braillelineRoundTripSpec : ChangeSpec := { name := "braillelineRoundTrip", fn := fun _ => fun
  | [d1, d2] => { results := [.lit (.bool true)], args := [d1, d2] }
  | _ => none }
def braillelineRoundTripRow : OpenClaim := { program := "ytbeelajedknohaadoor", sum := "decd1fecefefe9f215c978eae63044a02b1dec7e9fa0cd40a98972d16eae5e15", func := "narrator/narratorlaw53.BraillelineRoundTrip", spec := "braillelineRoundTrip", inPlace := ["internal/bytealg.IndexByteString", "internal/abi.NoEscape"], unfollowed := true, recurses := true, named := ["unicode/utf8.first", "unicode/utf8.acceptRanges", "narrator/computerbraille.table"], apart := false, laid := [("unicode/utf8.acceptRanges", laid_unicode_utf8_acceptRanges), ("narrator/computerbraille.table", laid_narrator_computerbraille_table), ("unicode/utf8.first", laid_unicode_utf8_first)] }
def BraillelineRoundTripSaid : Prop := braillelineRoundTripRow.holds Tryd.pinned (OpenSpec.ofChange braillelineRoundTripSpec)

/-- ITS FALSE NEIGHBOUR: 'it returns false'. Refute it at one input. -/
def braillelineRoundTripWrong : ChangeSpec := { name := "braillelineRoundTrip", fn := fun _ => fun
  | [d1, d2] => { results := [.lit (.bool false)], args := [d1, d2] }
  | _ => none }
def BraillelineRoundTripWrongFalsely : Prop := braillelineRoundTripRow.holds Tryd.pinned (OpenSpec.ofChange braillelineRoundTripWrong)

/- THE SECOND FORM. 'bulk': how many values and letters a reading holds, each counted each time it is reached (what is shared counts as often as it is met; a slice's spare places count too). A statement '..UptoSaid' is the law's where the arguments, and the package variables that the reading takes, are together of bulk at most 1048576: NARROWER than '..Said'. Prove '..Said' where nothing that the law and all that it calls make is longer than what came in: it says more and counts as full. Else prove '..UptoSaid'. A law counts once. -/
mutual
def uptoBulk {H : Type} : DataW H → Nat
  | .lit (.string bytes) => bytes.length + 1
  | .lit _ => 1
  | .nil => 1
  | .ptr d => uptoBulk d + 1
  | .slice elems spare => uptoBulkAll elems + uptoBulkAll spare + 1
  | .agg parts => uptoBulkAll parts + 1
  | .iface _ d => uptoBulk d + 1
  | .map entries => uptoBulkEntries entries + 1
  | .held _ => 1
def uptoBulkAll {H : Type} : List (DataW H) → Nat
  | [] => 0
  | d :: r => uptoBulk d + uptoBulkAll r
def uptoBulkEntries {H : Type} : List (Lit × DataW H) → Nat
  | [] => 0
  | x :: r => uptoBulkEntry x + uptoBulkEntries r
def uptoBulkEntry {H : Type} : Lit × DataW H → Nat
  | (.string bytes, d) => bytes.length + uptoBulk d + 1
  | (_, d) => uptoBulk d + 1
 end
def uptoSmall : (H : Type) → List (DataW H) → Bool := fun _ ds => decide (uptoBulkAll ds ≤ 1048576)
def OpenSpec.upto (s : _root_.Go.ChangeSpec) : _root_.Go.OpenSpec := { _root_.Go.OpenSpec.ofChange s with cond := some uptoSmall }

/-- 'narratorlaw53.BraillelineCells', WHERE WHAT IT READS IS OF BULK AT MOST 1048576: true; the input reads as it did. -/
def braillelineCellsUptoRow : OpenClaim := { program := "ytbeelajedknohaadoor", sum := "decd1fecefefe9f215c978eae63044a02b1dec7e9fa0cd40a98972d16eae5e15", func := "narrator/narratorlaw53.BraillelineCells", spec := "braillelineCells", named := ["narrator/computerbraille.table"], apart := false, laid := [("narrator/computerbraille.table", laid_narrator_computerbraille_table)], narrowed := true }
def BraillelineCellsUptoSaid : Prop := braillelineCellsUptoRow.holds Tryd.pinned (OpenSpec.upto braillelineCellsSpec)

/-- 'narratorlaw53.BraillelineOf', WHERE WHAT IT READS IS OF BULK AT MOST 1048576: true; the input reads as it did. -/
def braillelineOfUptoRow : OpenClaim := { program := "ytbeelajedknohaadoor", sum := "decd1fecefefe9f215c978eae63044a02b1dec7e9fa0cd40a98972d16eae5e15", func := "narrator/narratorlaw53.BraillelineOf", spec := "braillelineOf", named := ["unicode/utf8.first", "unicode/utf8.acceptRanges", "narrator/computerbraille.table"], apart := false, laid := [("unicode/utf8.acceptRanges", laid_unicode_utf8_acceptRanges), ("narrator/computerbraille.table", laid_narrator_computerbraille_table), ("unicode/utf8.first", laid_unicode_utf8_first)], narrowed := true }
def BraillelineOfUptoSaid : Prop := braillelineOfUptoRow.holds Tryd.pinned (OpenSpec.upto braillelineOfSpec)

/-- 'narratorlaw53.BraillelinePositions', WHERE WHAT IT READS IS OF BULK AT MOST 1048576: true; the input reads as it did. -/
def braillelinePositionsUptoRow : OpenClaim := { program := "ytbeelajedknohaadoor", sum := "decd1fecefefe9f215c978eae63044a02b1dec7e9fa0cd40a98972d16eae5e15", func := "narrator/narratorlaw53.BraillelinePositions", spec := "braillelinePositions", named := ["unicode/utf8.first", "unicode/utf8.acceptRanges", "narrator/computerbraille.table"], apart := false, laid := [("unicode/utf8.acceptRanges", laid_unicode_utf8_acceptRanges), ("narrator/computerbraille.table", laid_narrator_computerbraille_table), ("unicode/utf8.first", laid_unicode_utf8_first)], narrowed := true }
def BraillelinePositionsUptoSaid : Prop := braillelinePositionsUptoRow.holds Tryd.pinned (OpenSpec.upto braillelinePositionsSpec)

/-- 'narratorlaw53.BraillelineStyles', WHERE WHAT IT READS IS OF BULK AT MOST 1048576: true; the input reads as it did. -/
def braillelineStylesUptoRow : OpenClaim := { program := "ytbeelajedknohaadoor", sum := "decd1fecefefe9f215c978eae63044a02b1dec7e9fa0cd40a98972d16eae5e15", func := "narrator/narratorlaw53.BraillelineStyles", spec := "braillelineStyles", named := ["unicode/utf8.first", "unicode/utf8.acceptRanges", "narrator/computerbraille.table"], apart := false, laid := [("unicode/utf8.acceptRanges", laid_unicode_utf8_acceptRanges), ("narrator/computerbraille.table", laid_narrator_computerbraille_table), ("unicode/utf8.first", laid_unicode_utf8_first)], narrowed := true }
def BraillelineStylesUptoSaid : Prop := braillelineStylesUptoRow.holds Tryd.pinned (OpenSpec.upto braillelineStylesSpec)

/-- 'narratorlaw53.BraillelineParts', WHERE WHAT IT READS IS OF BULK AT MOST 1048576: true; the input reads as it did. -/
def braillelinePartsUptoRow : OpenClaim := { program := "ytbeelajedknohaadoor", sum := "decd1fecefefe9f215c978eae63044a02b1dec7e9fa0cd40a98972d16eae5e15", func := "narrator/narratorlaw53.BraillelineParts", spec := "braillelineParts", named := ["unicode/utf8.first", "unicode/utf8.acceptRanges", "narrator/computerbraille.table"], apart := false, laid := [("unicode/utf8.acceptRanges", laid_unicode_utf8_acceptRanges), ("narrator/computerbraille.table", laid_narrator_computerbraille_table), ("unicode/utf8.first", laid_unicode_utf8_first)], narrowed := true }
def BraillelinePartsUptoSaid : Prop := braillelinePartsUptoRow.holds Tryd.pinned (OpenSpec.upto braillelinePartsSpec)

/-- 'narratorlaw53.BraillelineEnd', WHERE WHAT IT READS IS OF BULK AT MOST 1048576: true; the input reads as it did. -/
def braillelineEndUptoRow : OpenClaim := { program := "ytbeelajedknohaadoor", sum := "decd1fecefefe9f215c978eae63044a02b1dec7e9fa0cd40a98972d16eae5e15", func := "narrator/narratorlaw53.BraillelineEnd", spec := "braillelineEnd", named := ["unicode/utf8.first", "unicode/utf8.acceptRanges", "narrator/computerbraille.table"], apart := false, laid := [("unicode/utf8.acceptRanges", laid_unicode_utf8_acceptRanges), ("narrator/computerbraille.table", laid_narrator_computerbraille_table), ("unicode/utf8.first", laid_unicode_utf8_first)], narrowed := true }
def BraillelineEndUptoSaid : Prop := braillelineEndUptoRow.holds Tryd.pinned (OpenSpec.upto braillelineEndSpec)

/-- 'narratorlaw53.BraillelineGlyphs', WHERE WHAT IT READS IS OF BULK AT MOST 1048576: true; the input reads as it did. -/
def braillelineGlyphsUptoRow : OpenClaim := { program := "ytbeelajedknohaadoor", sum := "decd1fecefefe9f215c978eae63044a02b1dec7e9fa0cd40a98972d16eae5e15", func := "narrator/narratorlaw53.BraillelineGlyphs", spec := "braillelineGlyphs", inPlace := ["internal/bytealg.IndexByteString", "internal/abi.NoEscape"], unfollowed := true, recurses := true, named := ["narrator/computerbraille.table", "unicode/utf8.first", "unicode/utf8.acceptRanges"], apart := false, laid := [("unicode/utf8.acceptRanges", laid_unicode_utf8_acceptRanges), ("narrator/computerbraille.table", laid_narrator_computerbraille_table), ("unicode/utf8.first", laid_unicode_utf8_first)], narrowed := true }
def BraillelineGlyphsUptoSaid : Prop := braillelineGlyphsUptoRow.holds Tryd.pinned (OpenSpec.upto braillelineGlyphsSpec)

/-- 'narratorlaw53.BraillelineRoundTrip', WHERE WHAT IT READS IS OF BULK AT MOST 1048576: true; the input reads as it did. -/
def braillelineRoundTripUptoRow : OpenClaim := { program := "ytbeelajedknohaadoor", sum := "decd1fecefefe9f215c978eae63044a02b1dec7e9fa0cd40a98972d16eae5e15", func := "narrator/narratorlaw53.BraillelineRoundTrip", spec := "braillelineRoundTrip", inPlace := ["internal/bytealg.IndexByteString", "internal/abi.NoEscape"], unfollowed := true, recurses := true, named := ["unicode/utf8.first", "unicode/utf8.acceptRanges", "narrator/computerbraille.table"], apart := false, laid := [("unicode/utf8.acceptRanges", laid_unicode_utf8_acceptRanges), ("narrator/computerbraille.table", laid_narrator_computerbraille_table), ("unicode/utf8.first", laid_unicode_utf8_first)], narrowed := true }
def BraillelineRoundTripUptoSaid : Prop := braillelineRoundTripUptoRow.holds Tryd.pinned (OpenSpec.upto braillelineRoundTripSpec)

end Rows
end Go.Proofs.YtbeelajedknohaaDoor
