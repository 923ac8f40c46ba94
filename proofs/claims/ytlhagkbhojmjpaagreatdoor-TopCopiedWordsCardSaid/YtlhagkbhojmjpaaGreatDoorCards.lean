/-
  DERIVED. GIVEN WITH THE SEED: THE CARDS: each row of YtlhagkbhojmjpaaGreatDoorRows.lean that lists a variable, with what it lists TIED to the program's text (the seventh form; the later family's looks); each row that meets fmt, with fmt's text TOLD by the authors' own Lean function (tested against real Go, not proved from fmt's source: count such statements apart). THE CARD IS WHAT COUNTS. Prove the row's statement (the work); the ties are given (YtlhagkbhojmjpaaGreatDoorTie.lean); close each card by the builder's one call (the guide's Derived/Test/ToyasCard.lean, 'card_holds'). Laid BY PROGRAM, IN A SANDBOX (cutbox-door.mjs). By AI agents, Wed Nov 11 2026. No macro, syntax, notation, axiom, sorry.
-/
import Derived.Test.YtlhagkbhojmjpaaGreatDoorRows
import GoSem.ClaimSeven
namespace Go.Proofs.YtlhagkbhojmjpaaGreatDoor
namespace Rows

/-- THE TIED CARD OF 'narratortop.TopBrailleRouting'. -/
def topBrailleRoutingCard : Claim7 := { stood := { row := topBrailleRoutingRow, standIns := [], harness := (true, "0894082e4ef335ceb12a93406cb1a94964434ed11bee4da0cbf52b70c3defb42"), looks := false }, kinds := [], alts := [], laidByText := true, laidKinds := [.data, .data, .data, .data, .data, .pinned], laidTests := true, laidLooks := .later }
def TopBrailleRoutingCardSaid : Prop := Claim7.holds Tryz.pinned (.plain (OpenSpec.ofChange topBrailleRoutingSpec)) topBrailleRoutingCard

/-- THE TIED CARD OF 'narratortop.TopCopiedWords'. -/
def topCopiedWordsCard : Claim7 := { stood := { row := topCopiedWordsRow, standIns := [], harness := (true, "0894082e4ef335ceb12a93406cb1a94964434ed11bee4da0cbf52b70c3defb42"), looks := false }, kinds := [], alts := [], laidByText := true, laidKinds := [.data, .listed, .data, .widerDeep, .pinned, .pinned], laidTests := true, laidLooks := .later }
def TopCopiedWordsCardSaid : Prop := Claim7.holds Tryz.pinned (.plain (OpenSpec.ofChange topCopiedWordsSpec)) topCopiedWordsCard

/-- THE SECOND FORM's CARD OF 'narratortop.TopBrailleRouting'. -/
def topBrailleRoutingUptoCard : Claim7 := { stood := { row := topBrailleRoutingUptoRow, standIns := [], harness := (true, "0894082e4ef335ceb12a93406cb1a94964434ed11bee4da0cbf52b70c3defb42"), looks := false }, kinds := [], alts := [], laidByText := true, laidKinds := [.data, .data, .data, .data, .data, .pinned], laidTests := true, laidLooks := .later }
def TopBrailleRoutingUptoCardSaid : Prop := Claim7.holds Tryz.pinned (.plain (OpenSpec.upto topBrailleRoutingSpec)) topBrailleRoutingUptoCard

/-- THE SECOND FORM's CARD OF 'narratortop.TopCopiedWords'. -/
def topCopiedWordsUptoCard : Claim7 := { stood := { row := topCopiedWordsUptoRow, standIns := [], harness := (true, "0894082e4ef335ceb12a93406cb1a94964434ed11bee4da0cbf52b70c3defb42"), looks := false }, kinds := [], alts := [], laidByText := true, laidKinds := [.data, .listed, .data, .widerDeep, .pinned, .pinned], laidTests := true, laidLooks := .later }
def TopCopiedWordsUptoCardSaid : Prop := Claim7.holds Tryz.pinned (.plain (OpenSpec.upto topCopiedWordsSpec)) topCopiedWordsUptoCard
end Rows
end Go.Proofs.YtlhagkbhojmjpaaGreatDoor
