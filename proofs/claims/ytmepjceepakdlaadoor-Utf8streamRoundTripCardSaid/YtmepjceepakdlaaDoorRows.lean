/-
  NARROWER THAN 'FOR EVERY INPUT', by the rows' own cells (each row's printed sentence says how): Utf8streamEncode: laid · Utf8streamRoundTrip: laid · Utf8streamCanonical: laid · Utf8streamGo: laid.
  DERIVED. THE GIVEN ROWS OF THIS SEAT. 4 by the template 'for every input the law returns true; each argument reads behind the call as it read before'; 0 by the template 'total and deterministic' (their statements: YtmepjceepakdlaaDoorTotals.lean).
  GIVEN WITH THE SEED: the statements are not yours to turn. If you find one false, say at which input.
  Laid BY PROGRAM, IN A SANDBOX (cutbox-rows.mjs): the forced cells as the released guide's own fill.sh prints them over the translation 520d564566093f87… (all of the seat's roots in one cut). By AI agents, Wed Nov 11 2026. No macro, syntax, notation, axiom, sorry.
-/
import Derived.Test.YtmepjceepakdlaaDoorChecked
import GoSem.PinnedTables
import GoSem.Claim
import GoSem.ClaimJoined
import GoSem.ClaimMapViews
import Derived.JoinedTies
import Derived.KernelRfl
namespace Go.Proofs.YtmepjceepakdlaaDoor
/- THE CELL 'sum', in the pinned program and in every row, IS THE sha256 OF THE DUMP (.gsa) THAT YtmepjceepakdlaaDoorProg.lean LOADS. Nothing in Lean hashes anything: it is a label: what it is worth is what the hold of that sum in a sandbox is worth. -/
noncomputable def Tryd.pinned : Pinned := { name := "ytmepjceepakdlaadoor", sum := "520d564566093f8774f1923d74ae39d70c81b851673ae6d3b2e4e4b71d9d1402", checked := Tryd.checked }
namespace Rows
def none {H : Type} : Left H := { results := [], args := [] }

/- WHAT THE LISTED PACKAGE-LEVEL VARIABLES READ AS WHEN THE CALL BEGINS. Each datum BY PROGRAM (the guide's laid-datum.mjs) off the statement by which the dump's own 'gosem.cut.vars' lays the variable. In a bare row this is a premise. The card (YtmepjceepakdlaaDoorCards.lean) ties it to the program's text. -/
def laid_unicode_utf8_acceptRanges {H : Type} : DataW H := .agg [.agg [.lit (.int .u8 128), .lit (.int .u8 191)], .agg [.lit (.int .u8 160), .lit (.int .u8 191)], .agg [.lit (.int .u8 128), .lit (.int .u8 159)], .agg [.lit (.int .u8 144), .lit (.int .u8 191)], .agg [.lit (.int .u8 128), .lit (.int .u8 143)], .agg [.lit (.int .u8 0), .lit (.int .u8 0)], .agg [.lit (.int .u8 0), .lit (.int .u8 0)], .agg [.lit (.int .u8 0), .lit (.int .u8 0)], .agg [.lit (.int .u8 0), .lit (.int .u8 0)], .agg [.lit (.int .u8 0), .lit (.int .u8 0)], .agg [.lit (.int .u8 0), .lit (.int .u8 0)], .agg [.lit (.int .u8 0), .lit (.int .u8 0)], .agg [.lit (.int .u8 0), .lit (.int .u8 0)], .agg [.lit (.int .u8 0), .lit (.int .u8 0)], .agg [.lit (.int .u8 0), .lit (.int .u8 0)], .agg [.lit (.int .u8 0), .lit (.int .u8 0)]]
/-- One of Go's own tables, pinned by name: the form's constant. -/
def laid_unicode_utf8_first : DataW Unit := Go.Pinned.utf8First

/-- 'narratorlaw01.Utf8streamEncode': WHATEVER THE INPUT: true; the input reads as it did. -/
def utf8streamEncodeSpec : ChangeSpec := { name := "utf8streamEncode", fn := fun _ => fun
  | [d1, d2] => { results := [.lit (.bool true)], args := [d1, d2] }
  | _ => none }
def utf8streamEncodeRow : OpenClaim := { program := "ytmepjceepakdlaadoor", sum := "520d564566093f8774f1923d74ae39d70c81b851673ae6d3b2e4e4b71d9d1402", func := "narrator/narratorlaw01.Utf8streamEncode", spec := "utf8streamEncode", named := ["unicode/utf8.first", "unicode/utf8.acceptRanges"], apart := false, laid := [("unicode/utf8.acceptRanges", laid_unicode_utf8_acceptRanges), ("unicode/utf8.first", laid_unicode_utf8_first)] }
def Utf8streamEncodeSaid : Prop := utf8streamEncodeRow.holds Tryd.pinned (OpenSpec.ofChange utf8streamEncodeSpec)

/-- ITS FALSE NEIGHBOUR: 'it returns false'. Refute it at one input. -/
def utf8streamEncodeWrong : ChangeSpec := { name := "utf8streamEncode", fn := fun _ => fun
  | [d1, d2] => { results := [.lit (.bool false)], args := [d1, d2] }
  | _ => none }
def Utf8streamEncodeWrongFalsely : Prop := utf8streamEncodeRow.holds Tryd.pinned (OpenSpec.ofChange utf8streamEncodeWrong)

/-- 'narratorlaw01.Utf8streamRoundTrip': WHATEVER THE INPUT: true; the input reads as it did. -/
def utf8streamRoundTripSpec : ChangeSpec := { name := "utf8streamRoundTrip", fn := fun _ => fun
  | [d] => { results := [.lit (.bool true)], args := [d] }
  | _ => none }
def utf8streamRoundTripRow : OpenClaim := { program := "ytmepjceepakdlaadoor", sum := "520d564566093f8774f1923d74ae39d70c81b851673ae6d3b2e4e4b71d9d1402", func := "narrator/narratorlaw01.Utf8streamRoundTrip", spec := "utf8streamRoundTrip", named := ["unicode/utf8.first", "unicode/utf8.acceptRanges"], apart := false, laid := [("unicode/utf8.acceptRanges", laid_unicode_utf8_acceptRanges), ("unicode/utf8.first", laid_unicode_utf8_first)] }
def Utf8streamRoundTripSaid : Prop := utf8streamRoundTripRow.holds Tryd.pinned (OpenSpec.ofChange utf8streamRoundTripSpec)

/-- ITS FALSE NEIGHBOUR: 'it returns false'. Refute it at one input. -/
def utf8streamRoundTripWrong : ChangeSpec := { name := "utf8streamRoundTrip", fn := fun _ => fun
  | [d] => { results := [.lit (.bool false)], args := [d] }
  | _ => none }
def Utf8streamRoundTripWrongFalsely : Prop := utf8streamRoundTripRow.holds Tryd.pinned (OpenSpec.ofChange utf8streamRoundTripWrong)

/-- 'narratorlaw01.Utf8streamCanonical': WHATEVER THE INPUT: true; the input reads as it did. -/
def utf8streamCanonicalSpec : ChangeSpec := { name := "utf8streamCanonical", fn := fun _ => fun
  | [d] => { results := [.lit (.bool true)], args := [d] }
  | _ => none }
def utf8streamCanonicalRow : OpenClaim := { program := "ytmepjceepakdlaadoor", sum := "520d564566093f8774f1923d74ae39d70c81b851673ae6d3b2e4e4b71d9d1402", func := "narrator/narratorlaw01.Utf8streamCanonical", spec := "utf8streamCanonical", named := ["unicode/utf8.first", "unicode/utf8.acceptRanges"], apart := false, laid := [("unicode/utf8.acceptRanges", laid_unicode_utf8_acceptRanges), ("unicode/utf8.first", laid_unicode_utf8_first)] }
def Utf8streamCanonicalSaid : Prop := utf8streamCanonicalRow.holds Tryd.pinned (OpenSpec.ofChange utf8streamCanonicalSpec)

/-- ITS FALSE NEIGHBOUR: 'it returns false'. Refute it at one input. -/
def utf8streamCanonicalWrong : ChangeSpec := { name := "utf8streamCanonical", fn := fun _ => fun
  | [d] => { results := [.lit (.bool false)], args := [d] }
  | _ => none }
def Utf8streamCanonicalWrongFalsely : Prop := utf8streamCanonicalRow.holds Tryd.pinned (OpenSpec.ofChange utf8streamCanonicalWrong)

/-- 'narratorlaw01.Utf8streamGo': WHATEVER THE INPUT: true; the input reads as it did. -/
def utf8streamGoSpec : ChangeSpec := { name := "utf8streamGo", fn := fun _ => fun
  | [d] => { results := [.lit (.bool true)], args := [d] }
  | _ => none }
def utf8streamGoRow : OpenClaim := { program := "ytmepjceepakdlaadoor", sum := "520d564566093f8774f1923d74ae39d70c81b851673ae6d3b2e4e4b71d9d1402", func := "narrator/narratorlaw01.Utf8streamGo", spec := "utf8streamGo", named := ["unicode/utf8.first", "unicode/utf8.acceptRanges"], apart := false, laid := [("unicode/utf8.acceptRanges", laid_unicode_utf8_acceptRanges), ("unicode/utf8.first", laid_unicode_utf8_first)] }
def Utf8streamGoSaid : Prop := utf8streamGoRow.holds Tryd.pinned (OpenSpec.ofChange utf8streamGoSpec)

/-- ITS FALSE NEIGHBOUR: 'it returns false'. Refute it at one input. -/
def utf8streamGoWrong : ChangeSpec := { name := "utf8streamGo", fn := fun _ => fun
  | [d] => { results := [.lit (.bool false)], args := [d] }
  | _ => none }
def Utf8streamGoWrongFalsely : Prop := utf8streamGoRow.holds Tryd.pinned (OpenSpec.ofChange utf8streamGoWrong)

/- THE SECOND FORM. 'bulk': how many values and letters a reading holds, each counted each time it is reached (what is shared counts as often as it is met; a slice's spare places count too). A statement '..UptoSaid' is the law's where the arguments, and the package variables that the reading takes, are together of bulk at most 1048576: NARROWER than '..Said'. Prove '..Said' where nothing that the law and all that it calls make is longer than what came in: it says more and counts as full. Else prove '..UptoSaid'. A law counts once. -/
mutual
def uptoBulk {H : Type} : DataW H → Nat
  | .lit (.string bytes) => bytes.length + 1
  | .lit _ => 1
  | .nil => 1
  | .ptr d => uptoBulk d + 1
  | .slice elems spare => uptoBulkAll elems + uptoBulkAll spare + 1
  | .agg parts => uptoBulkAll parts + 1
  | .iface _ d => uptoBulk d + 1
  | .map entries => uptoBulkEntries entries + 1
  | .held _ => 1
def uptoBulkAll {H : Type} : List (DataW H) → Nat
  | [] => 0
  | d :: r => uptoBulk d + uptoBulkAll r
def uptoBulkEntries {H : Type} : List (Lit × DataW H) → Nat
  | [] => 0
  | x :: r => uptoBulkEntry x + uptoBulkEntries r
def uptoBulkEntry {H : Type} : Lit × DataW H → Nat
  | (.string bytes, d) => bytes.length + uptoBulk d + 1
  | (_, d) => uptoBulk d + 1
 end
def uptoSmall : (H : Type) → List (DataW H) → Bool := fun _ ds => decide (uptoBulkAll ds ≤ 1048576)
def OpenSpec.upto (s : _root_.Go.ChangeSpec) : _root_.Go.OpenSpec := { _root_.Go.OpenSpec.ofChange s with cond := some uptoSmall }

/-- 'narratorlaw01.Utf8streamEncode', WHERE WHAT IT READS IS OF BULK AT MOST 1048576: true; the input reads as it did. -/
def utf8streamEncodeUptoRow : OpenClaim := { program := "ytmepjceepakdlaadoor", sum := "520d564566093f8774f1923d74ae39d70c81b851673ae6d3b2e4e4b71d9d1402", func := "narrator/narratorlaw01.Utf8streamEncode", spec := "utf8streamEncode", named := ["unicode/utf8.first", "unicode/utf8.acceptRanges"], apart := false, laid := [("unicode/utf8.acceptRanges", laid_unicode_utf8_acceptRanges), ("unicode/utf8.first", laid_unicode_utf8_first)], narrowed := true }
def Utf8streamEncodeUptoSaid : Prop := utf8streamEncodeUptoRow.holds Tryd.pinned (OpenSpec.upto utf8streamEncodeSpec)

/-- 'narratorlaw01.Utf8streamRoundTrip', WHERE WHAT IT READS IS OF BULK AT MOST 1048576: true; the input reads as it did. -/
def utf8streamRoundTripUptoRow : OpenClaim := { program := "ytmepjceepakdlaadoor", sum := "520d564566093f8774f1923d74ae39d70c81b851673ae6d3b2e4e4b71d9d1402", func := "narrator/narratorlaw01.Utf8streamRoundTrip", spec := "utf8streamRoundTrip", named := ["unicode/utf8.first", "unicode/utf8.acceptRanges"], apart := false, laid := [("unicode/utf8.acceptRanges", laid_unicode_utf8_acceptRanges), ("unicode/utf8.first", laid_unicode_utf8_first)], narrowed := true }
def Utf8streamRoundTripUptoSaid : Prop := utf8streamRoundTripUptoRow.holds Tryd.pinned (OpenSpec.upto utf8streamRoundTripSpec)

/-- 'narratorlaw01.Utf8streamCanonical', WHERE WHAT IT READS IS OF BULK AT MOST 1048576: true; the input reads as it did. -/
def utf8streamCanonicalUptoRow : OpenClaim := { program := "ytmepjceepakdlaadoor", sum := "520d564566093f8774f1923d74ae39d70c81b851673ae6d3b2e4e4b71d9d1402", func := "narrator/narratorlaw01.Utf8streamCanonical", spec := "utf8streamCanonical", named := ["unicode/utf8.first", "unicode/utf8.acceptRanges"], apart := false, laid := [("unicode/utf8.acceptRanges", laid_unicode_utf8_acceptRanges), ("unicode/utf8.first", laid_unicode_utf8_first)], narrowed := true }
def Utf8streamCanonicalUptoSaid : Prop := utf8streamCanonicalUptoRow.holds Tryd.pinned (OpenSpec.upto utf8streamCanonicalSpec)

/-- 'narratorlaw01.Utf8streamGo', WHERE WHAT IT READS IS OF BULK AT MOST 1048576: true; the input reads as it did. -/
def utf8streamGoUptoRow : OpenClaim := { program := "ytmepjceepakdlaadoor", sum := "520d564566093f8774f1923d74ae39d70c81b851673ae6d3b2e4e4b71d9d1402", func := "narrator/narratorlaw01.Utf8streamGo", spec := "utf8streamGo", named := ["unicode/utf8.first", "unicode/utf8.acceptRanges"], apart := false, laid := [("unicode/utf8.acceptRanges", laid_unicode_utf8_acceptRanges), ("unicode/utf8.first", laid_unicode_utf8_first)], narrowed := true }
def Utf8streamGoUptoSaid : Prop := utf8streamGoUptoRow.holds Tryd.pinned (OpenSpec.upto utf8streamGoSpec)

end Rows
end Go.Proofs.YtmepjceepakdlaaDoor
