/-
  No cell of these rows narrows 'for every input' (looked for: loops, veiled, ifaces, maps, wideKeys, modest, calm, conditions, laid).
  DERIVED. THE GIVEN ROWS OF THIS SEAT. 4 by the template 'for every input the law returns true; each argument reads behind the call as it read before'; 0 by the template 'total and deterministic' (their statements: YtmepjceepakdlaaTotals.lean).
  GIVEN WITH THE SEED: the statements are not yours to turn. If you find one false, say at which input.
  Laid BY PROGRAM, IN A SANDBOX (cutbox-rows.mjs): the forced cells as the released guide's own fill.sh prints them over the translation 0b603c751ecc73c8… (all of the seat's roots in one cut). By AI agents, Wed Nov 11 2026. No macro, syntax, notation, axiom, sorry.
-/
import Derived.Test.YtmepjceepakdlaaChecked
import GoSem.Claim
import GoSem.ClaimJoined
import GoSem.ClaimMapViews
import Derived.JoinedTies
import Derived.KernelRfl
namespace Go.Proofs.Ytmepjceepakdlaa
/- THE CELL 'sum', in the pinned program and in every row, IS THE sha256 OF THE DUMP (.gsa) THAT YtmepjceepakdlaaProg.lean LOADS. Nothing in Lean hashes anything: it is a label: what it is worth is what the hold of that sum in a sandbox is worth. -/
noncomputable def Try.pinned : Pinned := { name := "ytmepjceepakdlaa", sum := "0b603c751ecc73c8975e4c7b1f223a1bf67995f48b336417f77b2dcb58190246", checked := Try.checked }
namespace Rows
def none {H : Type} : Left H := { results := [], args := [] }

/-- 'narratorlaw01.Utf8streamSplit': WHATEVER THE INPUT: true; the input reads as it did. -/
def utf8streamSplitSpec : ChangeSpec := { name := "utf8streamSplit", fn := fun _ => fun
  | [d1, d2] => { results := [.lit (.bool true)], args := [d1, d2] }
  | _ => none }
def utf8streamSplitRow : OpenClaim := { program := "ytmepjceepakdlaa", sum := "0b603c751ecc73c8975e4c7b1f223a1bf67995f48b336417f77b2dcb58190246", func := "narrator/narratorlaw01.Utf8streamSplit", spec := "utf8streamSplit", apart := false }
def Utf8streamSplitSaid : Prop := utf8streamSplitRow.holds Try.pinned (OpenSpec.ofChange utf8streamSplitSpec)

/-- ITS FALSE NEIGHBOUR: 'it returns false'. Refute it at one input. -/
def utf8streamSplitWrong : ChangeSpec := { name := "utf8streamSplit", fn := fun _ => fun
  | [d1, d2] => { results := [.lit (.bool false)], args := [d1, d2] }
  | _ => none }
def Utf8streamSplitWrongFalsely : Prop := utf8streamSplitRow.holds Try.pinned (OpenSpec.ofChange utf8streamSplitWrong)

/-- 'narratorlaw01.Utf8streamDecode': WHATEVER THE INPUT: true; the input reads as it did. -/
def utf8streamDecodeSpec : ChangeSpec := { name := "utf8streamDecode", fn := fun _ => fun
  | [d1, d2] => { results := [.lit (.bool true)], args := [d1, d2] }
  | _ => none }
def utf8streamDecodeRow : OpenClaim := { program := "ytmepjceepakdlaa", sum := "0b603c751ecc73c8975e4c7b1f223a1bf67995f48b336417f77b2dcb58190246", func := "narrator/narratorlaw01.Utf8streamDecode", spec := "utf8streamDecode", apart := false }
def Utf8streamDecodeSaid : Prop := utf8streamDecodeRow.holds Try.pinned (OpenSpec.ofChange utf8streamDecodeSpec)

/-- ITS FALSE NEIGHBOUR: 'it returns false'. Refute it at one input. -/
def utf8streamDecodeWrong : ChangeSpec := { name := "utf8streamDecode", fn := fun _ => fun
  | [d1, d2] => { results := [.lit (.bool false)], args := [d1, d2] }
  | _ => none }
def Utf8streamDecodeWrongFalsely : Prop := utf8streamDecodeRow.holds Try.pinned (OpenSpec.ofChange utf8streamDecodeWrong)

/-- 'narratorlaw01.Utf8streamPending': WHATEVER THE INPUT: true; the input reads as it did. -/
def utf8streamPendingSpec : ChangeSpec := { name := "utf8streamPending", fn := fun _ => fun
  | [d] => { results := [.lit (.bool true)], args := [d] }
  | _ => none }
def utf8streamPendingRow : OpenClaim := { program := "ytmepjceepakdlaa", sum := "0b603c751ecc73c8975e4c7b1f223a1bf67995f48b336417f77b2dcb58190246", func := "narrator/narratorlaw01.Utf8streamPending", spec := "utf8streamPending", apart := false }
def Utf8streamPendingSaid : Prop := utf8streamPendingRow.holds Try.pinned (OpenSpec.ofChange utf8streamPendingSpec)

/-- ITS FALSE NEIGHBOUR: 'it returns false'. Refute it at one input. -/
def utf8streamPendingWrong : ChangeSpec := { name := "utf8streamPending", fn := fun _ => fun
  | [d] => { results := [.lit (.bool false)], args := [d] }
  | _ => none }
def Utf8streamPendingWrongFalsely : Prop := utf8streamPendingRow.holds Try.pinned (OpenSpec.ofChange utf8streamPendingWrong)

/-- 'narratorlaw01.Utf8streamSynchronizes': WHATEVER THE INPUT: true; the input reads as it did. -/
def utf8streamSynchronizesSpec : ChangeSpec := { name := "utf8streamSynchronizes", fn := fun _ => fun
  | [d1, d2, d3] => { results := [.lit (.bool true)], args := [d1, d2, d3] }
  | _ => none }
def utf8streamSynchronizesRow : OpenClaim := { program := "ytmepjceepakdlaa", sum := "0b603c751ecc73c8975e4c7b1f223a1bf67995f48b336417f77b2dcb58190246", func := "narrator/narratorlaw01.Utf8streamSynchronizes", spec := "utf8streamSynchronizes", apart := false }
def Utf8streamSynchronizesSaid : Prop := utf8streamSynchronizesRow.holds Try.pinned (OpenSpec.ofChange utf8streamSynchronizesSpec)

/-- ITS FALSE NEIGHBOUR: 'it returns false'. Refute it at one input. -/
def utf8streamSynchronizesWrong : ChangeSpec := { name := "utf8streamSynchronizes", fn := fun _ => fun
  | [d1, d2, d3] => { results := [.lit (.bool false)], args := [d1, d2, d3] }
  | _ => none }
def Utf8streamSynchronizesWrongFalsely : Prop := utf8streamSynchronizesRow.holds Try.pinned (OpenSpec.ofChange utf8streamSynchronizesWrong)

/- THE SECOND FORM. 'bulk': how many values and letters a reading holds, each counted each time it is reached (what is shared counts as often as it is met; a slice's spare places count too). A statement '..UptoSaid' is the law's where the arguments, and the package variables that the reading takes, are together of bulk at most 1048576: NARROWER than '..Said'. Prove '..Said' where nothing that the law and all that it calls make is longer than what came in: it says more and counts as full. Else prove '..UptoSaid'. A law counts once. -/
mutual
def uptoBulk {H : Type} : DataW H → Nat
  | .lit (.string bytes) => bytes.length + 1
  | .lit _ => 1
  | .nil => 1
  | .ptr d => uptoBulk d + 1
  | .slice elems spare => uptoBulkAll elems + uptoBulkAll spare + 1
  | .agg parts => uptoBulkAll parts + 1
  | .iface _ d => uptoBulk d + 1
  | .map entries => uptoBulkEntries entries + 1
  | .held _ => 1
def uptoBulkAll {H : Type} : List (DataW H) → Nat
  | [] => 0
  | d :: r => uptoBulk d + uptoBulkAll r
def uptoBulkEntries {H : Type} : List (Lit × DataW H) → Nat
  | [] => 0
  | x :: r => uptoBulkEntry x + uptoBulkEntries r
def uptoBulkEntry {H : Type} : Lit × DataW H → Nat
  | (.string bytes, d) => bytes.length + uptoBulk d + 1
  | (_, d) => uptoBulk d + 1
 end
def uptoSmall : (H : Type) → List (DataW H) → Bool := fun _ ds => decide (uptoBulkAll ds ≤ 1048576)
def OpenSpec.upto (s : _root_.Go.ChangeSpec) : _root_.Go.OpenSpec := { _root_.Go.OpenSpec.ofChange s with cond := some uptoSmall }

/-- 'narratorlaw01.Utf8streamSplit', WHERE WHAT IT READS IS OF BULK AT MOST 1048576: true; the input reads as it did. -/
def utf8streamSplitUptoRow : OpenClaim := { program := "ytmepjceepakdlaa", sum := "0b603c751ecc73c8975e4c7b1f223a1bf67995f48b336417f77b2dcb58190246", func := "narrator/narratorlaw01.Utf8streamSplit", spec := "utf8streamSplit", apart := false, narrowed := true }
def Utf8streamSplitUptoSaid : Prop := utf8streamSplitUptoRow.holds Try.pinned (OpenSpec.upto utf8streamSplitSpec)

/-- 'narratorlaw01.Utf8streamDecode', WHERE WHAT IT READS IS OF BULK AT MOST 1048576: true; the input reads as it did. -/
def utf8streamDecodeUptoRow : OpenClaim := { program := "ytmepjceepakdlaa", sum := "0b603c751ecc73c8975e4c7b1f223a1bf67995f48b336417f77b2dcb58190246", func := "narrator/narratorlaw01.Utf8streamDecode", spec := "utf8streamDecode", apart := false, narrowed := true }
def Utf8streamDecodeUptoSaid : Prop := utf8streamDecodeUptoRow.holds Try.pinned (OpenSpec.upto utf8streamDecodeSpec)

/-- 'narratorlaw01.Utf8streamPending', WHERE WHAT IT READS IS OF BULK AT MOST 1048576: true; the input reads as it did. -/
def utf8streamPendingUptoRow : OpenClaim := { program := "ytmepjceepakdlaa", sum := "0b603c751ecc73c8975e4c7b1f223a1bf67995f48b336417f77b2dcb58190246", func := "narrator/narratorlaw01.Utf8streamPending", spec := "utf8streamPending", apart := false, narrowed := true }
def Utf8streamPendingUptoSaid : Prop := utf8streamPendingUptoRow.holds Try.pinned (OpenSpec.upto utf8streamPendingSpec)

/-- 'narratorlaw01.Utf8streamSynchronizes', WHERE WHAT IT READS IS OF BULK AT MOST 1048576: true; the input reads as it did. -/
def utf8streamSynchronizesUptoRow : OpenClaim := { program := "ytmepjceepakdlaa", sum := "0b603c751ecc73c8975e4c7b1f223a1bf67995f48b336417f77b2dcb58190246", func := "narrator/narratorlaw01.Utf8streamSynchronizes", spec := "utf8streamSynchronizes", apart := false, narrowed := true }
def Utf8streamSynchronizesUptoSaid : Prop := utf8streamSynchronizesUptoRow.holds Try.pinned (OpenSpec.upto utf8streamSynchronizesSpec)

end Rows
end Go.Proofs.Ytmepjceepakdlaa
