/-
  DERIVED. GIVEN WITH THE SEED: THE CARDS: each row of YtlhagkbhojmjpaaDoorRows.lean that lists a variable, with what it lists TIED to the program's text (the seventh form; the later family's looks); each row that meets fmt, with fmt's text TOLD by the authors' own Lean function (tested against real Go, not proved from fmt's source: count such statements apart). THE CARD IS WHAT COUNTS. Prove the row's statement (the work); the ties are given (YtlhagkbhojmjpaaDoorTie.lean); close each card by the builder's one call (the guide's Derived/Test/ToyasCard.lean, 'card_holds'). Laid BY PROGRAM, IN A SANDBOX (cutbox-door.mjs). By AI agents, Wed Nov 11 2026. No macro, syntax, notation, axiom, sorry.
-/
import Derived.Test.YtlhagkbhojmjpaaDoorRows
import GoSem.ClaimSeven
namespace Go.Proofs.YtlhagkbhojmjpaaDoor
namespace Rows

/-- THE TIED CARD OF 'narratortop.TopScriptSafety'. -/
def topScriptSafetyCard : Claim7 := { stood := { row := topScriptSafetyRow, standIns := [], harness := (true, "d25743ab0422fd717cce187d72d9231c9c2b180f4d709312e78885e7559664d1"), looks := false }, kinds := [], alts := [], laidByText := true, laidKinds := [.data, .data], laidTests := true, laidLooks := .later }
def TopScriptSafetyCardSaid : Prop := Claim7.holds Tryd.pinned (.plain (OpenSpec.ofChange topScriptSafetySpec)) topScriptSafetyCard

/-- THE TIED CARD OF 'narratortop.TopScriptConcealment'. -/
def topScriptConcealmentCard : Claim7 := { stood := { row := topScriptConcealmentRow, standIns := [], harness := (true, "d25743ab0422fd717cce187d72d9231c9c2b180f4d709312e78885e7559664d1"), looks := false }, kinds := [], alts := [], laidByText := true, laidKinds := [.data, .data, .data, .pinned], laidTests := true, laidLooks := .later }
def TopScriptConcealmentCardSaid : Prop := Claim7.holds Tryd.pinned (.plain (OpenSpec.ofChange topScriptConcealmentSpec)) topScriptConcealmentCard

/-- THE TIED CARD OF 'narratortop.TopBrailleRows'. -/
def topBrailleRowsCard : Claim7 := { stood := { row := topBrailleRowsRow, standIns := [], harness := (true, "d25743ab0422fd717cce187d72d9231c9c2b180f4d709312e78885e7559664d1"), looks := false }, kinds := [], alts := [], laidByText := true, laidKinds := [.data, .data, .pinned], laidTests := true, laidLooks := .later }
def TopBrailleRowsCardSaid : Prop := Claim7.holds Tryd.pinned (.plain (OpenSpec.ofChange topBrailleRowsSpec)) topBrailleRowsCard

/-- THE SECOND FORM's CARD OF 'narratortop.TopScriptSafety'. -/
def topScriptSafetyUptoCard : Claim7 := { stood := { row := topScriptSafetyUptoRow, standIns := [], harness := (true, "d25743ab0422fd717cce187d72d9231c9c2b180f4d709312e78885e7559664d1"), looks := false }, kinds := [], alts := [], laidByText := true, laidKinds := [.data, .data], laidTests := true, laidLooks := .later }
def TopScriptSafetyUptoCardSaid : Prop := Claim7.holds Tryd.pinned (.plain (OpenSpec.upto topScriptSafetySpec)) topScriptSafetyUptoCard

/-- THE SECOND FORM's CARD OF 'narratortop.TopScriptConcealment'. -/
def topScriptConcealmentUptoCard : Claim7 := { stood := { row := topScriptConcealmentUptoRow, standIns := [], harness := (true, "d25743ab0422fd717cce187d72d9231c9c2b180f4d709312e78885e7559664d1"), looks := false }, kinds := [], alts := [], laidByText := true, laidKinds := [.data, .data, .data, .pinned], laidTests := true, laidLooks := .later }
def TopScriptConcealmentUptoCardSaid : Prop := Claim7.holds Tryd.pinned (.plain (OpenSpec.upto topScriptConcealmentSpec)) topScriptConcealmentUptoCard

/-- THE SECOND FORM's CARD OF 'narratortop.TopBrailleRows'. -/
def topBrailleRowsUptoCard : Claim7 := { stood := { row := topBrailleRowsUptoRow, standIns := [], harness := (true, "d25743ab0422fd717cce187d72d9231c9c2b180f4d709312e78885e7559664d1"), looks := false }, kinds := [], alts := [], laidByText := true, laidKinds := [.data, .data, .pinned], laidTests := true, laidLooks := .later }
def TopBrailleRowsUptoCardSaid : Prop := Claim7.holds Tryd.pinned (.plain (OpenSpec.upto topBrailleRowsSpec)) topBrailleRowsUptoCard
end Rows
end Go.Proofs.YtlhagkbhojmjpaaDoor
