/-
  NARROWER THAN 'FOR EVERY INPUT', by the rows' own cells (each row's printed sentence says how): ClusterSplit: laid · ClusterProper: laid · ClusterWidths: laid · ClusterIndependence: laid · ClusterParts: laid · ClusterRoundTrip: laid · ClusterAttach: laid · ClusterMarks: laid · ClusterIdempotent: laid.
  DERIVED. THE GIVEN ROWS OF THIS SEAT. 9 by the template 'for every input the law returns true; each argument reads behind the call as it read before'; 0 by the template 'total and deterministic' (their statements: YtnbbepgmnbmfdaaDoorTotals.lean).
  GIVEN WITH THE SEED: the statements are not yours to turn. If you find one false, say at which input.
  Laid BY PROGRAM, IN A SANDBOX (cutbox-rows.mjs): the forced cells as the released guide's own fill.sh prints them over the translation 7e959f6c6d5b268a… (all of the seat's roots in one cut). By AI agents, Wed Nov 11 2026. No macro, syntax, notation, axiom, sorry.
-/
import Derived.Test.YtnbbepgmnbmfdaaDoorChecked
import GoSem.PinnedTables
import GoSem.Claim
import GoSem.ClaimJoined
import GoSem.ClaimMapViews
import Derived.JoinedTies
import Derived.KernelRfl
namespace Go.Proofs.YtnbbepgmnbmfdaaDoor
/- THE CELL 'sum', in the pinned program and in every row, IS THE sha256 OF THE DUMP (.gsa) THAT YtnbbepgmnbmfdaaDoorProg.lean LOADS. Nothing in Lean hashes anything: it is a label: what it is worth is what the hold of that sum in a sandbox is worth. -/
noncomputable def Tryd.pinned : Pinned := { name := "ytnbbepgmnbmfdaadoor", sum := "7e959f6c6d5b268a60a2e68724c79b2ff702daf73a3697217d7689ebfd6b5aa4", checked := Tryd.checked }
namespace Rows
def none {H : Type} : Left H := { results := [], args := [] }

/- WHAT THE LISTED PACKAGE-LEVEL VARIABLES READ AS WHEN THE CALL BEGINS. Each datum BY PROGRAM (the guide's laid-datum.mjs) off the statement by which the dump's own 'gosem.cut.vars' lays the variable. In a bare row this is a premise. The card (YtnbbepgmnbmfdaaDoorCards.lean) ties it to the program's text. -/
def laid_unicode_utf8_acceptRanges {H : Type} : DataW H := .agg [.agg [.lit (.int .u8 128), .lit (.int .u8 191)], .agg [.lit (.int .u8 160), .lit (.int .u8 191)], .agg [.lit (.int .u8 128), .lit (.int .u8 159)], .agg [.lit (.int .u8 144), .lit (.int .u8 191)], .agg [.lit (.int .u8 128), .lit (.int .u8 143)], .agg [.lit (.int .u8 0), .lit (.int .u8 0)], .agg [.lit (.int .u8 0), .lit (.int .u8 0)], .agg [.lit (.int .u8 0), .lit (.int .u8 0)], .agg [.lit (.int .u8 0), .lit (.int .u8 0)], .agg [.lit (.int .u8 0), .lit (.int .u8 0)], .agg [.lit (.int .u8 0), .lit (.int .u8 0)], .agg [.lit (.int .u8 0), .lit (.int .u8 0)], .agg [.lit (.int .u8 0), .lit (.int .u8 0)], .agg [.lit (.int .u8 0), .lit (.int .u8 0)], .agg [.lit (.int .u8 0), .lit (.int .u8 0)], .agg [.lit (.int .u8 0), .lit (.int .u8 0)]]
/-- One of Go's own tables, pinned by name: the form's constant. -/
def laid_unicode_utf8_first : DataW Unit := Go.Pinned.utf8First

/-- 'narratorlaw03.ClusterSplit': WHATEVER THE INPUT: true; the input reads as it did. -/
def clusterSplitSpec : ChangeSpec := { name := "clusterSplit", fn := fun _ => fun
  | [d] => { results := [.lit (.bool true)], args := [d] }
  | _ => none }
def clusterSplitRow : OpenClaim := { program := "ytnbbepgmnbmfdaadoor", sum := "7e959f6c6d5b268a60a2e68724c79b2ff702daf73a3697217d7689ebfd6b5aa4", func := "narrator/narratorlaw03.ClusterSplit", spec := "clusterSplit", unfollowed := true, recurses := true, named := ["unicode/utf8.first", "unicode/utf8.acceptRanges"], apart := false, laid := [("unicode/utf8.acceptRanges", laid_unicode_utf8_acceptRanges), ("unicode/utf8.first", laid_unicode_utf8_first)] }
def ClusterSplitSaid : Prop := clusterSplitRow.holds Tryd.pinned (OpenSpec.ofChange clusterSplitSpec)

/-- ITS FALSE NEIGHBOUR: 'it returns false'. Refute it at one input. -/
def clusterSplitWrong : ChangeSpec := { name := "clusterSplit", fn := fun _ => fun
  | [d] => { results := [.lit (.bool false)], args := [d] }
  | _ => none }
def ClusterSplitWrongFalsely : Prop := clusterSplitRow.holds Tryd.pinned (OpenSpec.ofChange clusterSplitWrong)

/-- 'narratorlaw03.ClusterProper': WHATEVER THE INPUT: true; the input reads as it did. -/
def clusterProperSpec : ChangeSpec := { name := "clusterProper", fn := fun _ => fun
  | [d] => { results := [.lit (.bool true)], args := [d] }
  | _ => none }
def clusterProperRow : OpenClaim := { program := "ytnbbepgmnbmfdaadoor", sum := "7e959f6c6d5b268a60a2e68724c79b2ff702daf73a3697217d7689ebfd6b5aa4", func := "narrator/narratorlaw03.ClusterProper", spec := "clusterProper", unfollowed := true, recurses := true, named := ["unicode/utf8.first", "unicode/utf8.acceptRanges"], apart := false, laid := [("unicode/utf8.acceptRanges", laid_unicode_utf8_acceptRanges), ("unicode/utf8.first", laid_unicode_utf8_first)] }
def ClusterProperSaid : Prop := clusterProperRow.holds Tryd.pinned (OpenSpec.ofChange clusterProperSpec)

/-- ITS FALSE NEIGHBOUR: 'it returns false'. Refute it at one input. -/
def clusterProperWrong : ChangeSpec := { name := "clusterProper", fn := fun _ => fun
  | [d] => { results := [.lit (.bool false)], args := [d] }
  | _ => none }
def ClusterProperWrongFalsely : Prop := clusterProperRow.holds Tryd.pinned (OpenSpec.ofChange clusterProperWrong)

/-- 'narratorlaw03.ClusterWidths': WHATEVER THE INPUT: true; the input reads as it did. -/
def clusterWidthsSpec : ChangeSpec := { name := "clusterWidths", fn := fun _ => fun
  | [d] => { results := [.lit (.bool true)], args := [d] }
  | _ => none }
def clusterWidthsRow : OpenClaim := { program := "ytnbbepgmnbmfdaadoor", sum := "7e959f6c6d5b268a60a2e68724c79b2ff702daf73a3697217d7689ebfd6b5aa4", func := "narrator/narratorlaw03.ClusterWidths", spec := "clusterWidths", unfollowed := true, recurses := true, named := ["unicode/utf8.first", "unicode/utf8.acceptRanges"], apart := false, laid := [("unicode/utf8.acceptRanges", laid_unicode_utf8_acceptRanges), ("unicode/utf8.first", laid_unicode_utf8_first)] }
def ClusterWidthsSaid : Prop := clusterWidthsRow.holds Tryd.pinned (OpenSpec.ofChange clusterWidthsSpec)

/-- ITS FALSE NEIGHBOUR: 'it returns false'. Refute it at one input. -/
def clusterWidthsWrong : ChangeSpec := { name := "clusterWidths", fn := fun _ => fun
  | [d] => { results := [.lit (.bool false)], args := [d] }
  | _ => none }
def ClusterWidthsWrongFalsely : Prop := clusterWidthsRow.holds Tryd.pinned (OpenSpec.ofChange clusterWidthsWrong)

/-- 'narratorlaw03.ClusterIndependence': WHATEVER THE INPUT: true; the input reads as it did. -/
def clusterIndependenceSpec : ChangeSpec := { name := "clusterIndependence", fn := fun _ => fun
  | [d1, d2] => { results := [.lit (.bool true)], args := [d1, d2] }
  | _ => none }
def clusterIndependenceRow : OpenClaim := { program := "ytnbbepgmnbmfdaadoor", sum := "7e959f6c6d5b268a60a2e68724c79b2ff702daf73a3697217d7689ebfd6b5aa4", func := "narrator/narratorlaw03.ClusterIndependence", spec := "clusterIndependence", unfollowed := true, recurses := true, named := ["unicode/utf8.first", "unicode/utf8.acceptRanges"], apart := false, laid := [("unicode/utf8.acceptRanges", laid_unicode_utf8_acceptRanges), ("unicode/utf8.first", laid_unicode_utf8_first)] }
def ClusterIndependenceSaid : Prop := clusterIndependenceRow.holds Tryd.pinned (OpenSpec.ofChange clusterIndependenceSpec)

/-- ITS FALSE NEIGHBOUR: 'it returns false'. Refute it at one input. -/
def clusterIndependenceWrong : ChangeSpec := { name := "clusterIndependence", fn := fun _ => fun
  | [d1, d2] => { results := [.lit (.bool false)], args := [d1, d2] }
  | _ => none }
def ClusterIndependenceWrongFalsely : Prop := clusterIndependenceRow.holds Tryd.pinned (OpenSpec.ofChange clusterIndependenceWrong)

/-- 'narratorlaw03.ClusterParts': WHATEVER THE INPUT: true; the input reads as it did. -/
def clusterPartsSpec : ChangeSpec := { name := "clusterParts", fn := fun _ => fun
  | [d] => { results := [.lit (.bool true)], args := [d] }
  | _ => none }
def clusterPartsRow : OpenClaim := { program := "ytnbbepgmnbmfdaadoor", sum := "7e959f6c6d5b268a60a2e68724c79b2ff702daf73a3697217d7689ebfd6b5aa4", func := "narrator/narratorlaw03.ClusterParts", spec := "clusterParts", unfollowed := true, recurses := true, named := ["unicode/utf8.first", "unicode/utf8.acceptRanges"], apart := false, laid := [("unicode/utf8.acceptRanges", laid_unicode_utf8_acceptRanges), ("unicode/utf8.first", laid_unicode_utf8_first)] }
def ClusterPartsSaid : Prop := clusterPartsRow.holds Tryd.pinned (OpenSpec.ofChange clusterPartsSpec)

/-- ITS FALSE NEIGHBOUR: 'it returns false'. Refute it at one input. -/
def clusterPartsWrong : ChangeSpec := { name := "clusterParts", fn := fun _ => fun
  | [d] => { results := [.lit (.bool false)], args := [d] }
  | _ => none }
def ClusterPartsWrongFalsely : Prop := clusterPartsRow.holds Tryd.pinned (OpenSpec.ofChange clusterPartsWrong)

/-- 'narratorlaw03.ClusterRoundTrip': WHATEVER THE INPUT: true; the input reads as it did. -/
def clusterRoundTripSpec : ChangeSpec := { name := "clusterRoundTrip", fn := fun _ => fun
  | [d] => { results := [.lit (.bool true)], args := [d] }
  | _ => none }
def clusterRoundTripRow : OpenClaim := { program := "ytnbbepgmnbmfdaadoor", sum := "7e959f6c6d5b268a60a2e68724c79b2ff702daf73a3697217d7689ebfd6b5aa4", func := "narrator/narratorlaw03.ClusterRoundTrip", spec := "clusterRoundTrip", unfollowed := true, recurses := true, named := ["unicode/utf8.first", "unicode/utf8.acceptRanges"], apart := false, laid := [("unicode/utf8.acceptRanges", laid_unicode_utf8_acceptRanges), ("unicode/utf8.first", laid_unicode_utf8_first)] }
def ClusterRoundTripSaid : Prop := clusterRoundTripRow.holds Tryd.pinned (OpenSpec.ofChange clusterRoundTripSpec)

/-- ITS FALSE NEIGHBOUR: 'it returns false'. Refute it at one input. -/
def clusterRoundTripWrong : ChangeSpec := { name := "clusterRoundTrip", fn := fun _ => fun
  | [d] => { results := [.lit (.bool false)], args := [d] }
  | _ => none }
def ClusterRoundTripWrongFalsely : Prop := clusterRoundTripRow.holds Tryd.pinned (OpenSpec.ofChange clusterRoundTripWrong)

/-- 'narratorlaw03.ClusterAttach': WHATEVER THE INPUT: true; the input reads as it did. -/
def clusterAttachSpec : ChangeSpec := { name := "clusterAttach", fn := fun _ => fun
  | [d1, d2] => { results := [.lit (.bool true)], args := [d1, d2] }
  | _ => none }
def clusterAttachRow : OpenClaim := { program := "ytnbbepgmnbmfdaadoor", sum := "7e959f6c6d5b268a60a2e68724c79b2ff702daf73a3697217d7689ebfd6b5aa4", func := "narrator/narratorlaw03.ClusterAttach", spec := "clusterAttach", unfollowed := true, recurses := true, named := ["unicode/utf8.first", "unicode/utf8.acceptRanges"], apart := false, laid := [("unicode/utf8.acceptRanges", laid_unicode_utf8_acceptRanges), ("unicode/utf8.first", laid_unicode_utf8_first)] }
def ClusterAttachSaid : Prop := clusterAttachRow.holds Tryd.pinned (OpenSpec.ofChange clusterAttachSpec)

/-- ITS FALSE NEIGHBOUR: 'it returns false'. Refute it at one input. -/
def clusterAttachWrong : ChangeSpec := { name := "clusterAttach", fn := fun _ => fun
  | [d1, d2] => { results := [.lit (.bool false)], args := [d1, d2] }
  | _ => none }
def ClusterAttachWrongFalsely : Prop := clusterAttachRow.holds Tryd.pinned (OpenSpec.ofChange clusterAttachWrong)

/-- 'narratorlaw03.ClusterMarks': WHATEVER THE INPUT: true; the input reads as it did. -/
def clusterMarksSpec : ChangeSpec := { name := "clusterMarks", fn := fun _ => fun
  | [d1, d2] => { results := [.lit (.bool true)], args := [d1, d2] }
  | _ => none }
def clusterMarksRow : OpenClaim := { program := "ytnbbepgmnbmfdaadoor", sum := "7e959f6c6d5b268a60a2e68724c79b2ff702daf73a3697217d7689ebfd6b5aa4", func := "narrator/narratorlaw03.ClusterMarks", spec := "clusterMarks", unfollowed := true, recurses := true, named := ["unicode/utf8.first", "unicode/utf8.acceptRanges"], apart := false, laid := [("unicode/utf8.acceptRanges", laid_unicode_utf8_acceptRanges), ("unicode/utf8.first", laid_unicode_utf8_first)] }
def ClusterMarksSaid : Prop := clusterMarksRow.holds Tryd.pinned (OpenSpec.ofChange clusterMarksSpec)

/-- ITS FALSE NEIGHBOUR: 'it returns false'. Refute it at one input. -/
def clusterMarksWrong : ChangeSpec := { name := "clusterMarks", fn := fun _ => fun
  | [d1, d2] => { results := [.lit (.bool false)], args := [d1, d2] }
  | _ => none }
def ClusterMarksWrongFalsely : Prop := clusterMarksRow.holds Tryd.pinned (OpenSpec.ofChange clusterMarksWrong)

/-- 'narratorlaw03.ClusterIdempotent': WHATEVER THE INPUT: true; the input reads as it did. -/
def clusterIdempotentSpec : ChangeSpec := { name := "clusterIdempotent", fn := fun _ => fun
  | [d] => { results := [.lit (.bool true)], args := [d] }
  | _ => none }
def clusterIdempotentRow : OpenClaim := { program := "ytnbbepgmnbmfdaadoor", sum := "7e959f6c6d5b268a60a2e68724c79b2ff702daf73a3697217d7689ebfd6b5aa4", func := "narrator/narratorlaw03.ClusterIdempotent", spec := "clusterIdempotent", unfollowed := true, recurses := true, named := ["unicode/utf8.first", "unicode/utf8.acceptRanges"], apart := false, laid := [("unicode/utf8.acceptRanges", laid_unicode_utf8_acceptRanges), ("unicode/utf8.first", laid_unicode_utf8_first)] }
def ClusterIdempotentSaid : Prop := clusterIdempotentRow.holds Tryd.pinned (OpenSpec.ofChange clusterIdempotentSpec)

/-- ITS FALSE NEIGHBOUR: 'it returns false'. Refute it at one input. -/
def clusterIdempotentWrong : ChangeSpec := { name := "clusterIdempotent", fn := fun _ => fun
  | [d] => { results := [.lit (.bool false)], args := [d] }
  | _ => none }
def ClusterIdempotentWrongFalsely : Prop := clusterIdempotentRow.holds Tryd.pinned (OpenSpec.ofChange clusterIdempotentWrong)

/- THE SECOND FORM. 'bulk': how many values and letters a reading holds, each counted each time it is reached (what is shared counts as often as it is met; a slice's spare places count too). A statement '..UptoSaid' is the law's where the arguments, and the package variables that the reading takes, are together of bulk at most 1048576: NARROWER than '..Said'. Prove '..Said' where nothing that the law and all that it calls make is longer than what came in: it says more and counts as full. Else prove '..UptoSaid'. A law counts once. -/
mutual
def uptoBulk {H : Type} : DataW H → Nat
  | .lit (.string bytes) => bytes.length + 1
  | .lit _ => 1
  | .nil => 1
  | .ptr d => uptoBulk d + 1
  | .slice elems spare => uptoBulkAll elems + uptoBulkAll spare + 1
  | .agg parts => uptoBulkAll parts + 1
  | .iface _ d => uptoBulk d + 1
  | .map entries => uptoBulkEntries entries + 1
  | .held _ => 1
def uptoBulkAll {H : Type} : List (DataW H) → Nat
  | [] => 0
  | d :: r => uptoBulk d + uptoBulkAll r
def uptoBulkEntries {H : Type} : List (Lit × DataW H) → Nat
  | [] => 0
  | x :: r => uptoBulkEntry x + uptoBulkEntries r
def uptoBulkEntry {H : Type} : Lit × DataW H → Nat
  | (.string bytes, d) => bytes.length + uptoBulk d + 1
  | (_, d) => uptoBulk d + 1
 end
def uptoSmall : (H : Type) → List (DataW H) → Bool := fun _ ds => decide (uptoBulkAll ds ≤ 1048576)
def OpenSpec.upto (s : _root_.Go.ChangeSpec) : _root_.Go.OpenSpec := { _root_.Go.OpenSpec.ofChange s with cond := some uptoSmall }

/-- 'narratorlaw03.ClusterSplit', WHERE WHAT IT READS IS OF BULK AT MOST 1048576: true; the input reads as it did. -/
def clusterSplitUptoRow : OpenClaim := { program := "ytnbbepgmnbmfdaadoor", sum := "7e959f6c6d5b268a60a2e68724c79b2ff702daf73a3697217d7689ebfd6b5aa4", func := "narrator/narratorlaw03.ClusterSplit", spec := "clusterSplit", unfollowed := true, recurses := true, named := ["unicode/utf8.first", "unicode/utf8.acceptRanges"], apart := false, laid := [("unicode/utf8.acceptRanges", laid_unicode_utf8_acceptRanges), ("unicode/utf8.first", laid_unicode_utf8_first)], narrowed := true }
def ClusterSplitUptoSaid : Prop := clusterSplitUptoRow.holds Tryd.pinned (OpenSpec.upto clusterSplitSpec)

/-- 'narratorlaw03.ClusterProper', WHERE WHAT IT READS IS OF BULK AT MOST 1048576: true; the input reads as it did. -/
def clusterProperUptoRow : OpenClaim := { program := "ytnbbepgmnbmfdaadoor", sum := "7e959f6c6d5b268a60a2e68724c79b2ff702daf73a3697217d7689ebfd6b5aa4", func := "narrator/narratorlaw03.ClusterProper", spec := "clusterProper", unfollowed := true, recurses := true, named := ["unicode/utf8.first", "unicode/utf8.acceptRanges"], apart := false, laid := [("unicode/utf8.acceptRanges", laid_unicode_utf8_acceptRanges), ("unicode/utf8.first", laid_unicode_utf8_first)], narrowed := true }
def ClusterProperUptoSaid : Prop := clusterProperUptoRow.holds Tryd.pinned (OpenSpec.upto clusterProperSpec)

/-- 'narratorlaw03.ClusterWidths', WHERE WHAT IT READS IS OF BULK AT MOST 1048576: true; the input reads as it did. -/
def clusterWidthsUptoRow : OpenClaim := { program := "ytnbbepgmnbmfdaadoor", sum := "7e959f6c6d5b268a60a2e68724c79b2ff702daf73a3697217d7689ebfd6b5aa4", func := "narrator/narratorlaw03.ClusterWidths", spec := "clusterWidths", unfollowed := true, recurses := true, named := ["unicode/utf8.first", "unicode/utf8.acceptRanges"], apart := false, laid := [("unicode/utf8.acceptRanges", laid_unicode_utf8_acceptRanges), ("unicode/utf8.first", laid_unicode_utf8_first)], narrowed := true }
def ClusterWidthsUptoSaid : Prop := clusterWidthsUptoRow.holds Tryd.pinned (OpenSpec.upto clusterWidthsSpec)

/-- 'narratorlaw03.ClusterIndependence', WHERE WHAT IT READS IS OF BULK AT MOST 1048576: true; the input reads as it did. -/
def clusterIndependenceUptoRow : OpenClaim := { program := "ytnbbepgmnbmfdaadoor", sum := "7e959f6c6d5b268a60a2e68724c79b2ff702daf73a3697217d7689ebfd6b5aa4", func := "narrator/narratorlaw03.ClusterIndependence", spec := "clusterIndependence", unfollowed := true, recurses := true, named := ["unicode/utf8.first", "unicode/utf8.acceptRanges"], apart := false, laid := [("unicode/utf8.acceptRanges", laid_unicode_utf8_acceptRanges), ("unicode/utf8.first", laid_unicode_utf8_first)], narrowed := true }
def ClusterIndependenceUptoSaid : Prop := clusterIndependenceUptoRow.holds Tryd.pinned (OpenSpec.upto clusterIndependenceSpec)

/-- 'narratorlaw03.ClusterParts', WHERE WHAT IT READS IS OF BULK AT MOST 1048576: true; the input reads as it did. -/
def clusterPartsUptoRow : OpenClaim := { program := "ytnbbepgmnbmfdaadoor", sum := "7e959f6c6d5b268a60a2e68724c79b2ff702daf73a3697217d7689ebfd6b5aa4", func := "narrator/narratorlaw03.ClusterParts", spec := "clusterParts", unfollowed := true, recurses := true, named := ["unicode/utf8.first", "unicode/utf8.acceptRanges"], apart := false, laid := [("unicode/utf8.acceptRanges", laid_unicode_utf8_acceptRanges), ("unicode/utf8.first", laid_unicode_utf8_first)], narrowed := true }
def ClusterPartsUptoSaid : Prop := clusterPartsUptoRow.holds Tryd.pinned (OpenSpec.upto clusterPartsSpec)

/-- 'narratorlaw03.ClusterRoundTrip', WHERE WHAT IT READS IS OF BULK AT MOST 1048576: true; the input reads as it did. -/
def clusterRoundTripUptoRow : OpenClaim := { program := "ytnbbepgmnbmfdaadoor", sum := "7e959f6c6d5b268a60a2e68724c79b2ff702daf73a3697217d7689ebfd6b5aa4", func := "narrator/narratorlaw03.ClusterRoundTrip", spec := "clusterRoundTrip", unfollowed := true, recurses := true, named := ["unicode/utf8.first", "unicode/utf8.acceptRanges"], apart := false, laid := [("unicode/utf8.acceptRanges", laid_unicode_utf8_acceptRanges), ("unicode/utf8.first", laid_unicode_utf8_first)], narrowed := true }
def ClusterRoundTripUptoSaid : Prop := clusterRoundTripUptoRow.holds Tryd.pinned (OpenSpec.upto clusterRoundTripSpec)

/-- 'narratorlaw03.ClusterAttach', WHERE WHAT IT READS IS OF BULK AT MOST 1048576: true; the input reads as it did. -/
def clusterAttachUptoRow : OpenClaim := { program := "ytnbbepgmnbmfdaadoor", sum := "7e959f6c6d5b268a60a2e68724c79b2ff702daf73a3697217d7689ebfd6b5aa4", func := "narrator/narratorlaw03.ClusterAttach", spec := "clusterAttach", unfollowed := true, recurses := true, named := ["unicode/utf8.first", "unicode/utf8.acceptRanges"], apart := false, laid := [("unicode/utf8.acceptRanges", laid_unicode_utf8_acceptRanges), ("unicode/utf8.first", laid_unicode_utf8_first)], narrowed := true }
def ClusterAttachUptoSaid : Prop := clusterAttachUptoRow.holds Tryd.pinned (OpenSpec.upto clusterAttachSpec)

/-- 'narratorlaw03.ClusterMarks', WHERE WHAT IT READS IS OF BULK AT MOST 1048576: true; the input reads as it did. -/
def clusterMarksUptoRow : OpenClaim := { program := "ytnbbepgmnbmfdaadoor", sum := "7e959f6c6d5b268a60a2e68724c79b2ff702daf73a3697217d7689ebfd6b5aa4", func := "narrator/narratorlaw03.ClusterMarks", spec := "clusterMarks", unfollowed := true, recurses := true, named := ["unicode/utf8.first", "unicode/utf8.acceptRanges"], apart := false, laid := [("unicode/utf8.acceptRanges", laid_unicode_utf8_acceptRanges), ("unicode/utf8.first", laid_unicode_utf8_first)], narrowed := true }
def ClusterMarksUptoSaid : Prop := clusterMarksUptoRow.holds Tryd.pinned (OpenSpec.upto clusterMarksSpec)

/-- 'narratorlaw03.ClusterIdempotent', WHERE WHAT IT READS IS OF BULK AT MOST 1048576: true; the input reads as it did. -/
def clusterIdempotentUptoRow : OpenClaim := { program := "ytnbbepgmnbmfdaadoor", sum := "7e959f6c6d5b268a60a2e68724c79b2ff702daf73a3697217d7689ebfd6b5aa4", func := "narrator/narratorlaw03.ClusterIdempotent", spec := "clusterIdempotent", unfollowed := true, recurses := true, named := ["unicode/utf8.first", "unicode/utf8.acceptRanges"], apart := false, laid := [("unicode/utf8.acceptRanges", laid_unicode_utf8_acceptRanges), ("unicode/utf8.first", laid_unicode_utf8_first)], narrowed := true }
def ClusterIdempotentUptoSaid : Prop := clusterIdempotentUptoRow.holds Tryd.pinned (OpenSpec.upto clusterIdempotentSpec)

end Rows
end Go.Proofs.YtnbbepgmnbmfdaaDoor
