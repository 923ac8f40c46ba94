/-
  No cell of these rows narrows 'for every input' (looked for: loops, veiled, ifaces, maps, wideKeys, modest, calm, conditions, laid).
  DERIVED. THE GIVEN ROWS OF THIS SEAT. 8 by the template 'for every input the law returns true; each argument reads behind the call as it read before'; 0 by the template 'total and deterministic' (their statements: YtghhanophenhbaaTotals.lean).
  GIVEN WITH THE SEED: the statements are not yours to turn. If you find one false, say at which input.
  Laid BY PROGRAM, IN A SANDBOX (cutbox-rows.mjs): the forced cells as the released guide's own fill.sh prints them over the translation 10f7f5875de6eeb1… (all of the seat's roots in one cut). By AI agents, Wed Nov 11 2026. No macro, syntax, notation, axiom, sorry.
-/
import Derived.Test.YtghhanophenhbaaChecked
import GoSem.Claim
import GoSem.ClaimJoined
import GoSem.ClaimMapViews
import Derived.JoinedTies
import Derived.KernelRfl
namespace Go.Proofs.Ytghhanophenhbaa
/- THE CELL 'sum', in the pinned program and in every row, IS THE sha256 OF THE DUMP (.gsa) THAT YtghhanophenhbaaProg.lean LOADS. Nothing in Lean hashes anything: it is a label: what it is worth is what the hold of that sum in a sandbox is worth. -/
noncomputable def Try.pinned : Pinned := { name := "ytghhanophenhbaa", sum := "10f7f5875de6eeb14c48ce453c04d30b4d9b48373d55c418fc0f1c1d822cffb1", checked := Try.checked }
namespace Rows
def none {H : Type} : Left H := { results := [], args := [] }

/-- 'narratorlaw10.CursorAdditive': WHATEVER THE INPUT: true; the input reads as it did. -/
def cursorAdditiveSpec : ChangeSpec := { name := "cursorAdditive", fn := fun _ => fun
  | [d1, d2, d3, d4, d5] => { results := [.lit (.bool true)], args := [d1, d2, d3, d4, d5] }
  | _ => none }
def cursorAdditiveRow : OpenClaim := { program := "ytghhanophenhbaa", sum := "10f7f5875de6eeb14c48ce453c04d30b4d9b48373d55c418fc0f1c1d822cffb1", func := "narrator/narratorlaw10.CursorAdditive", spec := "cursorAdditive", unfollowed := true, recurses := true, apart := false }
def CursorAdditiveSaid : Prop := cursorAdditiveRow.holds Try.pinned (OpenSpec.ofChange cursorAdditiveSpec)

/-- ITS FALSE NEIGHBOUR: 'it returns false'. Refute it at one input. -/
def cursorAdditiveWrong : ChangeSpec := { name := "cursorAdditive", fn := fun _ => fun
  | [d1, d2, d3, d4, d5] => { results := [.lit (.bool false)], args := [d1, d2, d3, d4, d5] }
  | _ => none }
def CursorAdditiveWrongFalsely : Prop := cursorAdditiveRow.holds Try.pinned (OpenSpec.ofChange cursorAdditiveWrong)

/-- 'narratorlaw10.CursorFeeds': WHATEVER THE INPUT: true; the input reads as it did. -/
def cursorFeedsSpec : ChangeSpec := { name := "cursorFeeds", fn := fun _ => fun
  | [d1, d2] => { results := [.lit (.bool true)], args := [d1, d2] }
  | _ => none }
def cursorFeedsRow : OpenClaim := { program := "ytghhanophenhbaa", sum := "10f7f5875de6eeb14c48ce453c04d30b4d9b48373d55c418fc0f1c1d822cffb1", func := "narrator/narratorlaw10.CursorFeeds", spec := "cursorFeeds", unfollowed := true, recurses := true, apart := false }
def CursorFeedsSaid : Prop := cursorFeedsRow.holds Try.pinned (OpenSpec.ofChange cursorFeedsSpec)

/-- ITS FALSE NEIGHBOUR: 'it returns false'. Refute it at one input. -/
def cursorFeedsWrong : ChangeSpec := { name := "cursorFeeds", fn := fun _ => fun
  | [d1, d2] => { results := [.lit (.bool false)], args := [d1, d2] }
  | _ => none }
def CursorFeedsWrongFalsely : Prop := cursorFeedsRow.holds Try.pinned (OpenSpec.ofChange cursorFeedsWrong)

/-- 'narratorlaw10.CursorRegion': WHATEVER THE INPUT: true; the input reads as it did. -/
def cursorRegionSpec : ChangeSpec := { name := "cursorRegion", fn := fun _ => fun
  | [d1, d2, d3] => { results := [.lit (.bool true)], args := [d1, d2, d3] }
  | _ => none }
def cursorRegionRow : OpenClaim := { program := "ytghhanophenhbaa", sum := "10f7f5875de6eeb14c48ce453c04d30b4d9b48373d55c418fc0f1c1d822cffb1", func := "narrator/narratorlaw10.CursorRegion", spec := "cursorRegion", unfollowed := true, recurses := true, apart := false }
def CursorRegionSaid : Prop := cursorRegionRow.holds Try.pinned (OpenSpec.ofChange cursorRegionSpec)

/-- ITS FALSE NEIGHBOUR: 'it returns false'. Refute it at one input. -/
def cursorRegionWrong : ChangeSpec := { name := "cursorRegion", fn := fun _ => fun
  | [d1, d2, d3] => { results := [.lit (.bool false)], args := [d1, d2, d3] }
  | _ => none }
def CursorRegionWrongFalsely : Prop := cursorRegionRow.holds Try.pinned (OpenSpec.ofChange cursorRegionWrong)

/-- 'narratorlaw10.CursorClamp': WHATEVER THE INPUT: true; the input reads as it did. -/
def cursorClampSpec : ChangeSpec := { name := "cursorClamp", fn := fun _ => fun
  | [d1, d2] => { results := [.lit (.bool true)], args := [d1, d2] }
  | _ => none }
def cursorClampRow : OpenClaim := { program := "ytghhanophenhbaa", sum := "10f7f5875de6eeb14c48ce453c04d30b4d9b48373d55c418fc0f1c1d822cffb1", func := "narrator/narratorlaw10.CursorClamp", spec := "cursorClamp", unfollowed := true, recurses := true, apart := false }
def CursorClampSaid : Prop := cursorClampRow.holds Try.pinned (OpenSpec.ofChange cursorClampSpec)

/-- ITS FALSE NEIGHBOUR: 'it returns false'. Refute it at one input. -/
def cursorClampWrong : ChangeSpec := { name := "cursorClamp", fn := fun _ => fun
  | [d1, d2] => { results := [.lit (.bool false)], args := [d1, d2] }
  | _ => none }
def CursorClampWrongFalsely : Prop := cursorClampRow.holds Try.pinned (OpenSpec.ofChange cursorClampWrong)

/-- 'narratorlaw10.CursorAddress': WHATEVER THE INPUT: true; the input reads as it did. -/
def cursorAddressSpec : ChangeSpec := { name := "cursorAddress", fn := fun _ => fun
  | [d1, d2, d3, d4] => { results := [.lit (.bool true)], args := [d1, d2, d3, d4] }
  | _ => none }
def cursorAddressRow : OpenClaim := { program := "ytghhanophenhbaa", sum := "10f7f5875de6eeb14c48ce453c04d30b4d9b48373d55c418fc0f1c1d822cffb1", func := "narrator/narratorlaw10.CursorAddress", spec := "cursorAddress", unfollowed := true, recurses := true, apart := false }
def CursorAddressSaid : Prop := cursorAddressRow.holds Try.pinned (OpenSpec.ofChange cursorAddressSpec)

/-- ITS FALSE NEIGHBOUR: 'it returns false'. Refute it at one input. -/
def cursorAddressWrong : ChangeSpec := { name := "cursorAddress", fn := fun _ => fun
  | [d1, d2, d3, d4] => { results := [.lit (.bool false)], args := [d1, d2, d3, d4] }
  | _ => none }
def CursorAddressWrongFalsely : Prop := cursorAddressRow.holds Try.pinned (OpenSpec.ofChange cursorAddressWrong)

/-- 'narratorlaw10.CursorReturns': WHATEVER THE INPUT: true; the input reads as it did. -/
def cursorReturnsSpec : ChangeSpec := { name := "cursorReturns", fn := fun _ => fun
  | [d1, d2, d3] => { results := [.lit (.bool true)], args := [d1, d2, d3] }
  | _ => none }
def cursorReturnsRow : OpenClaim := { program := "ytghhanophenhbaa", sum := "10f7f5875de6eeb14c48ce453c04d30b4d9b48373d55c418fc0f1c1d822cffb1", func := "narrator/narratorlaw10.CursorReturns", spec := "cursorReturns", unfollowed := true, recurses := true, apart := false }
def CursorReturnsSaid : Prop := cursorReturnsRow.holds Try.pinned (OpenSpec.ofChange cursorReturnsSpec)

/-- ITS FALSE NEIGHBOUR: 'it returns false'. Refute it at one input. -/
def cursorReturnsWrong : ChangeSpec := { name := "cursorReturns", fn := fun _ => fun
  | [d1, d2, d3] => { results := [.lit (.bool false)], args := [d1, d2, d3] }
  | _ => none }
def CursorReturnsWrongFalsely : Prop := cursorReturnsRow.holds Try.pinned (OpenSpec.ofChange cursorReturnsWrong)

/-- 'narratorlaw10.CursorMoves': WHATEVER THE INPUT: true; the input reads as it did. -/
def cursorMovesSpec : ChangeSpec := { name := "cursorMoves", fn := fun _ => fun
  | [d1, d2, d3, d4] => { results := [.lit (.bool true)], args := [d1, d2, d3, d4] }
  | _ => none }
def cursorMovesRow : OpenClaim := { program := "ytghhanophenhbaa", sum := "10f7f5875de6eeb14c48ce453c04d30b4d9b48373d55c418fc0f1c1d822cffb1", func := "narrator/narratorlaw10.CursorMoves", spec := "cursorMoves", unfollowed := true, recurses := true, apart := false }
def CursorMovesSaid : Prop := cursorMovesRow.holds Try.pinned (OpenSpec.ofChange cursorMovesSpec)

/-- ITS FALSE NEIGHBOUR: 'it returns false'. Refute it at one input. -/
def cursorMovesWrong : ChangeSpec := { name := "cursorMoves", fn := fun _ => fun
  | [d1, d2, d3, d4] => { results := [.lit (.bool false)], args := [d1, d2, d3, d4] }
  | _ => none }
def CursorMovesWrongFalsely : Prop := cursorMovesRow.holds Try.pinned (OpenSpec.ofChange cursorMovesWrong)

/-- 'narratorlaw10.CursorInside': WHATEVER THE INPUT: true; the input reads as it did. -/
def cursorInsideSpec : ChangeSpec := { name := "cursorInside", fn := fun _ => fun
  | [d1, d2, d3, d4] => { results := [.lit (.bool true)], args := [d1, d2, d3, d4] }
  | _ => none }
def cursorInsideRow : OpenClaim := { program := "ytghhanophenhbaa", sum := "10f7f5875de6eeb14c48ce453c04d30b4d9b48373d55c418fc0f1c1d822cffb1", func := "narrator/narratorlaw10.CursorInside", spec := "cursorInside", unfollowed := true, recurses := true, apart := false }
def CursorInsideSaid : Prop := cursorInsideRow.holds Try.pinned (OpenSpec.ofChange cursorInsideSpec)

/-- ITS FALSE NEIGHBOUR: 'it returns false'. Refute it at one input. -/
def cursorInsideWrong : ChangeSpec := { name := "cursorInside", fn := fun _ => fun
  | [d1, d2, d3, d4] => { results := [.lit (.bool false)], args := [d1, d2, d3, d4] }
  | _ => none }
def CursorInsideWrongFalsely : Prop := cursorInsideRow.holds Try.pinned (OpenSpec.ofChange cursorInsideWrong)

/- THE SECOND FORM. 'bulk': how many values and letters a reading holds, each counted each time it is reached (what is shared counts as often as it is met; a slice's spare places count too). A statement '..UptoSaid' is the law's where the arguments, and the package variables that the reading takes, are together of bulk at most 1048576: NARROWER than '..Said'. Prove '..Said' where nothing that the law and all that it calls make is longer than what came in: it says more and counts as full. Else prove '..UptoSaid'. A law counts once. -/
mutual
def uptoBulk {H : Type} : DataW H → Nat
  | .lit (.string bytes) => bytes.length + 1
  | .lit _ => 1
  | .nil => 1
  | .ptr d => uptoBulk d + 1
  | .slice elems spare => uptoBulkAll elems + uptoBulkAll spare + 1
  | .agg parts => uptoBulkAll parts + 1
  | .iface _ d => uptoBulk d + 1
  | .map entries => uptoBulkEntries entries + 1
  | .held _ => 1
def uptoBulkAll {H : Type} : List (DataW H) → Nat
  | [] => 0
  | d :: r => uptoBulk d + uptoBulkAll r
def uptoBulkEntries {H : Type} : List (Lit × DataW H) → Nat
  | [] => 0
  | x :: r => uptoBulkEntry x + uptoBulkEntries r
def uptoBulkEntry {H : Type} : Lit × DataW H → Nat
  | (.string bytes, d) => bytes.length + uptoBulk d + 1
  | (_, d) => uptoBulk d + 1
 end
def uptoSmall : (H : Type) → List (DataW H) → Bool := fun _ ds => decide (uptoBulkAll ds ≤ 1048576)
def OpenSpec.upto (s : _root_.Go.ChangeSpec) : _root_.Go.OpenSpec := { _root_.Go.OpenSpec.ofChange s with cond := some uptoSmall }

/-- 'narratorlaw10.CursorAdditive', WHERE WHAT IT READS IS OF BULK AT MOST 1048576: true; the input reads as it did. -/
def cursorAdditiveUptoRow : OpenClaim := { program := "ytghhanophenhbaa", sum := "10f7f5875de6eeb14c48ce453c04d30b4d9b48373d55c418fc0f1c1d822cffb1", func := "narrator/narratorlaw10.CursorAdditive", spec := "cursorAdditive", unfollowed := true, recurses := true, apart := false, narrowed := true }
def CursorAdditiveUptoSaid : Prop := cursorAdditiveUptoRow.holds Try.pinned (OpenSpec.upto cursorAdditiveSpec)

/-- 'narratorlaw10.CursorFeeds', WHERE WHAT IT READS IS OF BULK AT MOST 1048576: true; the input reads as it did. -/
def cursorFeedsUptoRow : OpenClaim := { program := "ytghhanophenhbaa", sum := "10f7f5875de6eeb14c48ce453c04d30b4d9b48373d55c418fc0f1c1d822cffb1", func := "narrator/narratorlaw10.CursorFeeds", spec := "cursorFeeds", unfollowed := true, recurses := true, apart := false, narrowed := true }
def CursorFeedsUptoSaid : Prop := cursorFeedsUptoRow.holds Try.pinned (OpenSpec.upto cursorFeedsSpec)

/-- 'narratorlaw10.CursorRegion', WHERE WHAT IT READS IS OF BULK AT MOST 1048576: true; the input reads as it did. -/
def cursorRegionUptoRow : OpenClaim := { program := "ytghhanophenhbaa", sum := "10f7f5875de6eeb14c48ce453c04d30b4d9b48373d55c418fc0f1c1d822cffb1", func := "narrator/narratorlaw10.CursorRegion", spec := "cursorRegion", unfollowed := true, recurses := true, apart := false, narrowed := true }
def CursorRegionUptoSaid : Prop := cursorRegionUptoRow.holds Try.pinned (OpenSpec.upto cursorRegionSpec)

/-- 'narratorlaw10.CursorClamp', WHERE WHAT IT READS IS OF BULK AT MOST 1048576: true; the input reads as it did. -/
def cursorClampUptoRow : OpenClaim := { program := "ytghhanophenhbaa", sum := "10f7f5875de6eeb14c48ce453c04d30b4d9b48373d55c418fc0f1c1d822cffb1", func := "narrator/narratorlaw10.CursorClamp", spec := "cursorClamp", unfollowed := true, recurses := true, apart := false, narrowed := true }
def CursorClampUptoSaid : Prop := cursorClampUptoRow.holds Try.pinned (OpenSpec.upto cursorClampSpec)

/-- 'narratorlaw10.CursorAddress', WHERE WHAT IT READS IS OF BULK AT MOST 1048576: true; the input reads as it did. -/
def cursorAddressUptoRow : OpenClaim := { program := "ytghhanophenhbaa", sum := "10f7f5875de6eeb14c48ce453c04d30b4d9b48373d55c418fc0f1c1d822cffb1", func := "narrator/narratorlaw10.CursorAddress", spec := "cursorAddress", unfollowed := true, recurses := true, apart := false, narrowed := true }
def CursorAddressUptoSaid : Prop := cursorAddressUptoRow.holds Try.pinned (OpenSpec.upto cursorAddressSpec)

/-- 'narratorlaw10.CursorReturns', WHERE WHAT IT READS IS OF BULK AT MOST 1048576: true; the input reads as it did. -/
def cursorReturnsUptoRow : OpenClaim := { program := "ytghhanophenhbaa", sum := "10f7f5875de6eeb14c48ce453c04d30b4d9b48373d55c418fc0f1c1d822cffb1", func := "narrator/narratorlaw10.CursorReturns", spec := "cursorReturns", unfollowed := true, recurses := true, apart := false, narrowed := true }
def CursorReturnsUptoSaid : Prop := cursorReturnsUptoRow.holds Try.pinned (OpenSpec.upto cursorReturnsSpec)

/-- 'narratorlaw10.CursorMoves', WHERE WHAT IT READS IS OF BULK AT MOST 1048576: true; the input reads as it did. -/
def cursorMovesUptoRow : OpenClaim := { program := "ytghhanophenhbaa", sum := "10f7f5875de6eeb14c48ce453c04d30b4d9b48373d55c418fc0f1c1d822cffb1", func := "narrator/narratorlaw10.CursorMoves", spec := "cursorMoves", unfollowed := true, recurses := true, apart := false, narrowed := true }
def CursorMovesUptoSaid : Prop := cursorMovesUptoRow.holds Try.pinned (OpenSpec.upto cursorMovesSpec)

/-- 'narratorlaw10.CursorInside', WHERE WHAT IT READS IS OF BULK AT MOST 1048576: true; the input reads as it did. -/
def cursorInsideUptoRow : OpenClaim := { program := "ytghhanophenhbaa", sum := "10f7f5875de6eeb14c48ce453c04d30b4d9b48373d55c418fc0f1c1d822cffb1", func := "narrator/narratorlaw10.CursorInside", spec := "cursorInside", unfollowed := true, recurses := true, apart := false, narrowed := true }
def CursorInsideUptoSaid : Prop := cursorInsideUptoRow.holds Try.pinned (OpenSpec.upto cursorInsideSpec)

end Rows
end Go.Proofs.Ytghhanophenhbaa
