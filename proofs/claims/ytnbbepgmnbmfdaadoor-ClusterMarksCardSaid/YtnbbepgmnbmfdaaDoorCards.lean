/-
  DERIVED. GIVEN WITH THE SEED: THE CARDS: each row of YtnbbepgmnbmfdaaDoorRows.lean that lists a variable, with what it lists TIED to the program's text (the seventh form; the later family's looks); each row that meets fmt, with fmt's text TOLD by the authors' own Lean function (tested against real Go, not proved from fmt's source: count such statements apart). THE CARD IS WHAT COUNTS. Prove the row's statement (the work); the ties are given (YtnbbepgmnbmfdaaDoorTie.lean); close each card by the builder's one call (the guide's Derived/Test/ToyasCard.lean, 'card_holds'). Laid BY PROGRAM, IN A SANDBOX (cutbox-door.mjs). By AI agents, Wed Nov 11 2026. No macro, syntax, notation, axiom, sorry.
-/
import Derived.Test.YtnbbepgmnbmfdaaDoorRows
import GoSem.ClaimSeven
namespace Go.Proofs.YtnbbepgmnbmfdaaDoor
namespace Rows

/-- THE TIED CARD OF 'narratorlaw03.ClusterSplit'. -/
def clusterSplitCard : Claim7 := { stood := { row := clusterSplitRow, standIns := [], harness := (true, "13c13bcea43feabd56e1215b4d405503365d8f6a039fd78afac29fb6a6525808"), looks := false }, kinds := [], alts := [], laidByText := true, laidKinds := [.data, .pinned], laidTests := true, laidLooks := .later }
def ClusterSplitCardSaid : Prop := Claim7.holds Tryd.pinned (.plain (OpenSpec.ofChange clusterSplitSpec)) clusterSplitCard

/-- THE TIED CARD OF 'narratorlaw03.ClusterProper'. -/
def clusterProperCard : Claim7 := { stood := { row := clusterProperRow, standIns := [], harness := (true, "13c13bcea43feabd56e1215b4d405503365d8f6a039fd78afac29fb6a6525808"), looks := false }, kinds := [], alts := [], laidByText := true, laidKinds := [.data, .pinned], laidTests := true, laidLooks := .later }
def ClusterProperCardSaid : Prop := Claim7.holds Tryd.pinned (.plain (OpenSpec.ofChange clusterProperSpec)) clusterProperCard

/-- THE TIED CARD OF 'narratorlaw03.ClusterWidths'. -/
def clusterWidthsCard : Claim7 := { stood := { row := clusterWidthsRow, standIns := [], harness := (true, "13c13bcea43feabd56e1215b4d405503365d8f6a039fd78afac29fb6a6525808"), looks := false }, kinds := [], alts := [], laidByText := true, laidKinds := [.data, .pinned], laidTests := true, laidLooks := .later }
def ClusterWidthsCardSaid : Prop := Claim7.holds Tryd.pinned (.plain (OpenSpec.ofChange clusterWidthsSpec)) clusterWidthsCard

/-- THE TIED CARD OF 'narratorlaw03.ClusterIndependence'. -/
def clusterIndependenceCard : Claim7 := { stood := { row := clusterIndependenceRow, standIns := [], harness := (true, "13c13bcea43feabd56e1215b4d405503365d8f6a039fd78afac29fb6a6525808"), looks := false }, kinds := [], alts := [], laidByText := true, laidKinds := [.data, .pinned], laidTests := true, laidLooks := .later }
def ClusterIndependenceCardSaid : Prop := Claim7.holds Tryd.pinned (.plain (OpenSpec.ofChange clusterIndependenceSpec)) clusterIndependenceCard

/-- THE TIED CARD OF 'narratorlaw03.ClusterParts'. -/
def clusterPartsCard : Claim7 := { stood := { row := clusterPartsRow, standIns := [], harness := (true, "13c13bcea43feabd56e1215b4d405503365d8f6a039fd78afac29fb6a6525808"), looks := false }, kinds := [], alts := [], laidByText := true, laidKinds := [.data, .pinned], laidTests := true, laidLooks := .later }
def ClusterPartsCardSaid : Prop := Claim7.holds Tryd.pinned (.plain (OpenSpec.ofChange clusterPartsSpec)) clusterPartsCard

/-- THE TIED CARD OF 'narratorlaw03.ClusterRoundTrip'. -/
def clusterRoundTripCard : Claim7 := { stood := { row := clusterRoundTripRow, standIns := [], harness := (true, "13c13bcea43feabd56e1215b4d405503365d8f6a039fd78afac29fb6a6525808"), looks := false }, kinds := [], alts := [], laidByText := true, laidKinds := [.data, .pinned], laidTests := true, laidLooks := .later }
def ClusterRoundTripCardSaid : Prop := Claim7.holds Tryd.pinned (.plain (OpenSpec.ofChange clusterRoundTripSpec)) clusterRoundTripCard

/-- THE TIED CARD OF 'narratorlaw03.ClusterAttach'. -/
def clusterAttachCard : Claim7 := { stood := { row := clusterAttachRow, standIns := [], harness := (true, "13c13bcea43feabd56e1215b4d405503365d8f6a039fd78afac29fb6a6525808"), looks := false }, kinds := [], alts := [], laidByText := true, laidKinds := [.data, .pinned], laidTests := true, laidLooks := .later }
def ClusterAttachCardSaid : Prop := Claim7.holds Tryd.pinned (.plain (OpenSpec.ofChange clusterAttachSpec)) clusterAttachCard

/-- THE TIED CARD OF 'narratorlaw03.ClusterMarks'. -/
def clusterMarksCard : Claim7 := { stood := { row := clusterMarksRow, standIns := [], harness := (true, "13c13bcea43feabd56e1215b4d405503365d8f6a039fd78afac29fb6a6525808"), looks := false }, kinds := [], alts := [], laidByText := true, laidKinds := [.data, .pinned], laidTests := true, laidLooks := .later }
def ClusterMarksCardSaid : Prop := Claim7.holds Tryd.pinned (.plain (OpenSpec.ofChange clusterMarksSpec)) clusterMarksCard

/-- THE TIED CARD OF 'narratorlaw03.ClusterIdempotent'. -/
def clusterIdempotentCard : Claim7 := { stood := { row := clusterIdempotentRow, standIns := [], harness := (true, "13c13bcea43feabd56e1215b4d405503365d8f6a039fd78afac29fb6a6525808"), looks := false }, kinds := [], alts := [], laidByText := true, laidKinds := [.data, .pinned], laidTests := true, laidLooks := .later }
def ClusterIdempotentCardSaid : Prop := Claim7.holds Tryd.pinned (.plain (OpenSpec.ofChange clusterIdempotentSpec)) clusterIdempotentCard

/-- THE SECOND FORM's CARD OF 'narratorlaw03.ClusterSplit'. -/
def clusterSplitUptoCard : Claim7 := { stood := { row := clusterSplitUptoRow, standIns := [], harness := (true, "13c13bcea43feabd56e1215b4d405503365d8f6a039fd78afac29fb6a6525808"), looks := false }, kinds := [], alts := [], laidByText := true, laidKinds := [.data, .pinned], laidTests := true, laidLooks := .later }
def ClusterSplitUptoCardSaid : Prop := Claim7.holds Tryd.pinned (.plain (OpenSpec.upto clusterSplitSpec)) clusterSplitUptoCard

/-- THE SECOND FORM's CARD OF 'narratorlaw03.ClusterProper'. -/
def clusterProperUptoCard : Claim7 := { stood := { row := clusterProperUptoRow, standIns := [], harness := (true, "13c13bcea43feabd56e1215b4d405503365d8f6a039fd78afac29fb6a6525808"), looks := false }, kinds := [], alts := [], laidByText := true, laidKinds := [.data, .pinned], laidTests := true, laidLooks := .later }
def ClusterProperUptoCardSaid : Prop := Claim7.holds Tryd.pinned (.plain (OpenSpec.upto clusterProperSpec)) clusterProperUptoCard

/-- THE SECOND FORM's CARD OF 'narratorlaw03.ClusterWidths'. -/
def clusterWidthsUptoCard : Claim7 := { stood := { row := clusterWidthsUptoRow, standIns := [], harness := (true, "13c13bcea43feabd56e1215b4d405503365d8f6a039fd78afac29fb6a6525808"), looks := false }, kinds := [], alts := [], laidByText := true, laidKinds := [.data, .pinned], laidTests := true, laidLooks := .later }
def ClusterWidthsUptoCardSaid : Prop := Claim7.holds Tryd.pinned (.plain (OpenSpec.upto clusterWidthsSpec)) clusterWidthsUptoCard

/-- THE SECOND FORM's CARD OF 'narratorlaw03.ClusterIndependence'. -/
def clusterIndependenceUptoCard : Claim7 := { stood := { row := clusterIndependenceUptoRow, standIns := [], harness := (true, "13c13bcea43feabd56e1215b4d405503365d8f6a039fd78afac29fb6a6525808"), looks := false }, kinds := [], alts := [], laidByText := true, laidKinds := [.data, .pinned], laidTests := true, laidLooks := .later }
def ClusterIndependenceUptoCardSaid : Prop := Claim7.holds Tryd.pinned (.plain (OpenSpec.upto clusterIndependenceSpec)) clusterIndependenceUptoCard

/-- THE SECOND FORM's CARD OF 'narratorlaw03.ClusterParts'. -/
def clusterPartsUptoCard : Claim7 := { stood := { row := clusterPartsUptoRow, standIns := [], harness := (true, "13c13bcea43feabd56e1215b4d405503365d8f6a039fd78afac29fb6a6525808"), looks := false }, kinds := [], alts := [], laidByText := true, laidKinds := [.data, .pinned], laidTests := true, laidLooks := .later }
def ClusterPartsUptoCardSaid : Prop := Claim7.holds Tryd.pinned (.plain (OpenSpec.upto clusterPartsSpec)) clusterPartsUptoCard

/-- THE SECOND FORM's CARD OF 'narratorlaw03.ClusterRoundTrip'. -/
def clusterRoundTripUptoCard : Claim7 := { stood := { row := clusterRoundTripUptoRow, standIns := [], harness := (true, "13c13bcea43feabd56e1215b4d405503365d8f6a039fd78afac29fb6a6525808"), looks := false }, kinds := [], alts := [], laidByText := true, laidKinds := [.data, .pinned], laidTests := true, laidLooks := .later }
def ClusterRoundTripUptoCardSaid : Prop := Claim7.holds Tryd.pinned (.plain (OpenSpec.upto clusterRoundTripSpec)) clusterRoundTripUptoCard

/-- THE SECOND FORM's CARD OF 'narratorlaw03.ClusterAttach'. -/
def clusterAttachUptoCard : Claim7 := { stood := { row := clusterAttachUptoRow, standIns := [], harness := (true, "13c13bcea43feabd56e1215b4d405503365d8f6a039fd78afac29fb6a6525808"), looks := false }, kinds := [], alts := [], laidByText := true, laidKinds := [.data, .pinned], laidTests := true, laidLooks := .later }
def ClusterAttachUptoCardSaid : Prop := Claim7.holds Tryd.pinned (.plain (OpenSpec.upto clusterAttachSpec)) clusterAttachUptoCard

/-- THE SECOND FORM's CARD OF 'narratorlaw03.ClusterMarks'. -/
def clusterMarksUptoCard : Claim7 := { stood := { row := clusterMarksUptoRow, standIns := [], harness := (true, "13c13bcea43feabd56e1215b4d405503365d8f6a039fd78afac29fb6a6525808"), looks := false }, kinds := [], alts := [], laidByText := true, laidKinds := [.data, .pinned], laidTests := true, laidLooks := .later }
def ClusterMarksUptoCardSaid : Prop := Claim7.holds Tryd.pinned (.plain (OpenSpec.upto clusterMarksSpec)) clusterMarksUptoCard

/-- THE SECOND FORM's CARD OF 'narratorlaw03.ClusterIdempotent'. -/
def clusterIdempotentUptoCard : Claim7 := { stood := { row := clusterIdempotentUptoRow, standIns := [], harness := (true, "13c13bcea43feabd56e1215b4d405503365d8f6a039fd78afac29fb6a6525808"), looks := false }, kinds := [], alts := [], laidByText := true, laidKinds := [.data, .pinned], laidTests := true, laidLooks := .later }
def ClusterIdempotentUptoCardSaid : Prop := Claim7.holds Tryd.pinned (.plain (OpenSpec.upto clusterIdempotentSpec)) clusterIdempotentUptoCard
end Rows
end Go.Proofs.YtnbbepgmnbmfdaaDoor
