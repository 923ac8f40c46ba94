/-
  DERIVED. GIVEN WITH THE SEED: THE CARDS: each row of YtccpepheooleoaaDoorRows.lean that lists a variable, with what it lists TIED to the program's text (the seventh form; the later family's looks); each row that meets fmt, with fmt's text TOLD by the authors' own Lean function (tested against real Go, not proved from fmt's source: count such statements apart). THE CARD IS WHAT COUNTS. Prove the row's statement (the work); the ties are given (YtccpepheooleoaaDoorTie.lean); close each card by the builder's one call (the guide's Derived/Test/ToyasCard.lean, 'card_holds'). Laid BY PROGRAM, IN A SANDBOX (cutbox-door.mjs). By AI agents, Wed Nov 11 2026. No macro, syntax, notation, axiom, sorry.
-/
import Derived.Test.YtccpepheooleoaaDoorRows
import GoSem.ClaimSeven
namespace Go.Proofs.YtccpepheooleoaaDoor
namespace Rows

/-- THE TIED CARD OF 'narratorlaw51.ComputerbrailleCells'. -/
def computerbrailleCellsCard : Claim7 := { stood := { row := computerbrailleCellsRow, standIns := [], harness := (true, "e2fece2b7599bddf5e481ed6322758d8397016cdb980733082237a4eb3d6a57b"), looks := false }, kinds := [], alts := [], laidByText := true, laidKinds := [.data], laidTests := true, laidLooks := .later }
def ComputerbrailleCellsCardSaid : Prop := Claim7.holds Tryd.pinned (.plain (OpenSpec.ofChange computerbrailleCellsSpec)) computerbrailleCellsCard

/-- THE TIED CARD OF 'narratorlaw51.ComputerbrailleCapitals'. -/
def computerbrailleCapitalsCard : Claim7 := { stood := { row := computerbrailleCapitalsRow, standIns := [], harness := (true, "e2fece2b7599bddf5e481ed6322758d8397016cdb980733082237a4eb3d6a57b"), looks := false }, kinds := [], alts := [], laidByText := true, laidKinds := [.data], laidTests := true, laidLooks := .later }
def ComputerbrailleCapitalsCardSaid : Prop := Claim7.holds Tryd.pinned (.plain (OpenSpec.ofChange computerbrailleCapitalsSpec)) computerbrailleCapitalsCard

/-- THE TIED CARD OF 'narratorlaw51.ComputerbrailleTable'. -/
def computerbrailleTableCard : Claim7 := { stood := { row := computerbrailleTableRow, standIns := [], harness := (true, "e2fece2b7599bddf5e481ed6322758d8397016cdb980733082237a4eb3d6a57b"), looks := false }, kinds := [], alts := [], laidByText := true, laidKinds := [.data], laidTests := true, laidLooks := .later }
def ComputerbrailleTableCardSaid : Prop := Claim7.holds Tryd.pinned (.plain (OpenSpec.ofChange computerbrailleTableSpec)) computerbrailleTableCard

/-- THE TIED CARD OF 'narratorlaw51.ComputerbrailleBijection'. -/
def computerbrailleBijectionCard : Claim7 := { stood := { row := computerbrailleBijectionRow, standIns := [], harness := (true, "e2fece2b7599bddf5e481ed6322758d8397016cdb980733082237a4eb3d6a57b"), looks := false }, kinds := [], alts := [], laidByText := true, laidKinds := [.data], laidTests := true, laidLooks := .later }
def ComputerbrailleBijectionCardSaid : Prop := Claim7.holds Tryd.pinned (.plain (OpenSpec.ofChange computerbrailleBijectionSpec)) computerbrailleBijectionCard

/-- THE TIED CARD OF 'narratorlaw51.ComputerbrailleConcatenation'. -/
def computerbrailleConcatenationCard : Claim7 := { stood := { row := computerbrailleConcatenationRow, standIns := [], harness := (true, "e2fece2b7599bddf5e481ed6322758d8397016cdb980733082237a4eb3d6a57b"), looks := false }, kinds := [], alts := [], laidByText := true, laidKinds := [.data, .data, .pinned], laidTests := true, laidLooks := .later }
def ComputerbrailleConcatenationCardSaid : Prop := Claim7.holds Tryd.pinned (.plain (OpenSpec.ofChange computerbrailleConcatenationSpec)) computerbrailleConcatenationCard

/-- THE TIED CARD OF 'narratorlaw51.ComputerbrailleText'. -/
def computerbrailleTextCard : Claim7 := { stood := { row := computerbrailleTextRow, standIns := [], harness := (true, "e2fece2b7599bddf5e481ed6322758d8397016cdb980733082237a4eb3d6a57b"), looks := false }, kinds := [], alts := [], laidByText := true, laidKinds := [.data], laidTests := true, laidLooks := .later }
def ComputerbrailleTextCardSaid : Prop := Claim7.holds Tryd.pinned (.plain (OpenSpec.ofChange computerbrailleTextSpec)) computerbrailleTextCard

/-- THE TIED CARD OF 'narratorlaw51.ComputerbraillePrefix'. -/
def computerbraillePrefixCard : Claim7 := { stood := { row := computerbraillePrefixRow, standIns := [], harness := (true, "e2fece2b7599bddf5e481ed6322758d8397016cdb980733082237a4eb3d6a57b"), looks := false }, kinds := [], alts := [], laidByText := true, laidKinds := [.data], laidTests := true, laidLooks := .later }
def ComputerbraillePrefixCardSaid : Prop := Claim7.holds Tryd.pinned (.plain (OpenSpec.ofChange computerbraillePrefixSpec)) computerbraillePrefixCard

/-- THE TIED CARD OF 'narratorlaw51.ComputerbrailleRoundTrip'. -/
def computerbrailleRoundTripCard : Claim7 := { stood := { row := computerbrailleRoundTripRow, standIns := [], harness := (true, "e2fece2b7599bddf5e481ed6322758d8397016cdb980733082237a4eb3d6a57b"), looks := false }, kinds := [], alts := [], laidByText := true, laidKinds := [.data, .data, .pinned], laidTests := true, laidLooks := .later }
def ComputerbrailleRoundTripCardSaid : Prop := Claim7.holds Tryd.pinned (.plain (OpenSpec.ofChange computerbrailleRoundTripSpec)) computerbrailleRoundTripCard

/-- THE TIED CARD OF 'narratorlaw51.ComputerbrailleCanonical'. -/
def computerbrailleCanonicalCard : Claim7 := { stood := { row := computerbrailleCanonicalRow, standIns := [], harness := (true, "e2fece2b7599bddf5e481ed6322758d8397016cdb980733082237a4eb3d6a57b"), looks := false }, kinds := [], alts := [], laidByText := true, laidKinds := [.data, .data, .pinned], laidTests := true, laidLooks := .later }
def ComputerbrailleCanonicalCardSaid : Prop := Claim7.holds Tryd.pinned (.plain (OpenSpec.ofChange computerbrailleCanonicalSpec)) computerbrailleCanonicalCard

/-- THE SECOND FORM's CARD OF 'narratorlaw51.ComputerbrailleCells'. -/
def computerbrailleCellsUptoCard : Claim7 := { stood := { row := computerbrailleCellsUptoRow, standIns := [], harness := (true, "e2fece2b7599bddf5e481ed6322758d8397016cdb980733082237a4eb3d6a57b"), looks := false }, kinds := [], alts := [], laidByText := true, laidKinds := [.data], laidTests := true, laidLooks := .later }
def ComputerbrailleCellsUptoCardSaid : Prop := Claim7.holds Tryd.pinned (.plain (OpenSpec.upto computerbrailleCellsSpec)) computerbrailleCellsUptoCard

/-- THE SECOND FORM's CARD OF 'narratorlaw51.ComputerbrailleCapitals'. -/
def computerbrailleCapitalsUptoCard : Claim7 := { stood := { row := computerbrailleCapitalsUptoRow, standIns := [], harness := (true, "e2fece2b7599bddf5e481ed6322758d8397016cdb980733082237a4eb3d6a57b"), looks := false }, kinds := [], alts := [], laidByText := true, laidKinds := [.data], laidTests := true, laidLooks := .later }
def ComputerbrailleCapitalsUptoCardSaid : Prop := Claim7.holds Tryd.pinned (.plain (OpenSpec.upto computerbrailleCapitalsSpec)) computerbrailleCapitalsUptoCard

/-- THE SECOND FORM's CARD OF 'narratorlaw51.ComputerbrailleTable'. -/
def computerbrailleTableUptoCard : Claim7 := { stood := { row := computerbrailleTableUptoRow, standIns := [], harness := (true, "e2fece2b7599bddf5e481ed6322758d8397016cdb980733082237a4eb3d6a57b"), looks := false }, kinds := [], alts := [], laidByText := true, laidKinds := [.data], laidTests := true, laidLooks := .later }
def ComputerbrailleTableUptoCardSaid : Prop := Claim7.holds Tryd.pinned (.plain (OpenSpec.upto computerbrailleTableSpec)) computerbrailleTableUptoCard

/-- THE SECOND FORM's CARD OF 'narratorlaw51.ComputerbrailleBijection'. -/
def computerbrailleBijectionUptoCard : Claim7 := { stood := { row := computerbrailleBijectionUptoRow, standIns := [], harness := (true, "e2fece2b7599bddf5e481ed6322758d8397016cdb980733082237a4eb3d6a57b"), looks := false }, kinds := [], alts := [], laidByText := true, laidKinds := [.data], laidTests := true, laidLooks := .later }
def ComputerbrailleBijectionUptoCardSaid : Prop := Claim7.holds Tryd.pinned (.plain (OpenSpec.upto computerbrailleBijectionSpec)) computerbrailleBijectionUptoCard

/-- THE SECOND FORM's CARD OF 'narratorlaw51.ComputerbrailleConcatenation'. -/
def computerbrailleConcatenationUptoCard : Claim7 := { stood := { row := computerbrailleConcatenationUptoRow, standIns := [], harness := (true, "e2fece2b7599bddf5e481ed6322758d8397016cdb980733082237a4eb3d6a57b"), looks := false }, kinds := [], alts := [], laidByText := true, laidKinds := [.data, .data, .pinned], laidTests := true, laidLooks := .later }
def ComputerbrailleConcatenationUptoCardSaid : Prop := Claim7.holds Tryd.pinned (.plain (OpenSpec.upto computerbrailleConcatenationSpec)) computerbrailleConcatenationUptoCard

/-- THE SECOND FORM's CARD OF 'narratorlaw51.ComputerbrailleText'. -/
def computerbrailleTextUptoCard : Claim7 := { stood := { row := computerbrailleTextUptoRow, standIns := [], harness := (true, "e2fece2b7599bddf5e481ed6322758d8397016cdb980733082237a4eb3d6a57b"), looks := false }, kinds := [], alts := [], laidByText := true, laidKinds := [.data], laidTests := true, laidLooks := .later }
def ComputerbrailleTextUptoCardSaid : Prop := Claim7.holds Tryd.pinned (.plain (OpenSpec.upto computerbrailleTextSpec)) computerbrailleTextUptoCard

/-- THE SECOND FORM's CARD OF 'narratorlaw51.ComputerbraillePrefix'. -/
def computerbraillePrefixUptoCard : Claim7 := { stood := { row := computerbraillePrefixUptoRow, standIns := [], harness := (true, "e2fece2b7599bddf5e481ed6322758d8397016cdb980733082237a4eb3d6a57b"), looks := false }, kinds := [], alts := [], laidByText := true, laidKinds := [.data], laidTests := true, laidLooks := .later }
def ComputerbraillePrefixUptoCardSaid : Prop := Claim7.holds Tryd.pinned (.plain (OpenSpec.upto computerbraillePrefixSpec)) computerbraillePrefixUptoCard

/-- THE SECOND FORM's CARD OF 'narratorlaw51.ComputerbrailleRoundTrip'. -/
def computerbrailleRoundTripUptoCard : Claim7 := { stood := { row := computerbrailleRoundTripUptoRow, standIns := [], harness := (true, "e2fece2b7599bddf5e481ed6322758d8397016cdb980733082237a4eb3d6a57b"), looks := false }, kinds := [], alts := [], laidByText := true, laidKinds := [.data, .data, .pinned], laidTests := true, laidLooks := .later }
def ComputerbrailleRoundTripUptoCardSaid : Prop := Claim7.holds Tryd.pinned (.plain (OpenSpec.upto computerbrailleRoundTripSpec)) computerbrailleRoundTripUptoCard

/-- THE SECOND FORM's CARD OF 'narratorlaw51.ComputerbrailleCanonical'. -/
def computerbrailleCanonicalUptoCard : Claim7 := { stood := { row := computerbrailleCanonicalUptoRow, standIns := [], harness := (true, "e2fece2b7599bddf5e481ed6322758d8397016cdb980733082237a4eb3d6a57b"), looks := false }, kinds := [], alts := [], laidByText := true, laidKinds := [.data, .data, .pinned], laidTests := true, laidLooks := .later }
def ComputerbrailleCanonicalUptoCardSaid : Prop := Claim7.holds Tryd.pinned (.plain (OpenSpec.upto computerbrailleCanonicalSpec)) computerbrailleCanonicalUptoCard
end Rows
end Go.Proofs.YtccpepheooleoaaDoor
