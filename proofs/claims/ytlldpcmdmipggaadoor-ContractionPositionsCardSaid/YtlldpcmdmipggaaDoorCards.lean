/-
  DERIVED. GIVEN WITH THE SEED: THE CARDS: each row of YtlldpcmdmipggaaDoorRows.lean that lists a variable, with what it lists TIED to the program's text (the seventh form; the later family's looks); each row that meets fmt, with fmt's text TOLD by the authors' own Lean function (tested against real Go, not proved from fmt's source: count such statements apart). THE CARD IS WHAT COUNTS. Prove the row's statement (the work); the ties are given (YtlldpcmdmipggaaDoorTie.lean); close each card by the builder's one call (the guide's Derived/Test/ToyasCard.lean, 'card_holds'). Laid BY PROGRAM, IN A SANDBOX (cutbox-door.mjs). By AI agents, Wed Nov 11 2026. No macro, syntax, notation, axiom, sorry.
-/
import Derived.Test.YtlldpcmdmipggaaDoorRows
import GoSem.ClaimSeven
namespace Go.Proofs.YtlldpcmdmipggaaDoor
namespace Rows

/-- THE TIED CARD OF 'narratorlaw52.ContractionBack'. -/
def contractionBackCard : Claim7 := { stood := { row := contractionBackRow, standIns := [], harness := (true, "4334b76bf5da3a0ecbc46a4e607625b083f287cafee76c334b70d62fc62cd05e"), looks := false }, kinds := [], alts := [], laidByText := true, laidKinds := [.data], laidTests := true, laidLooks := .later }
def ContractionBackCardSaid : Prop := Claim7.holds Tryd.pinned (.plain (OpenSpec.ofChange contractionBackSpec)) contractionBackCard

/-- THE TIED CARD OF 'narratorlaw52.ContractionRoundTrip'. -/
def contractionRoundTripCard : Claim7 := { stood := { row := contractionRoundTripRow, standIns := [], harness := (true, "4334b76bf5da3a0ecbc46a4e607625b083f287cafee76c334b70d62fc62cd05e"), looks := false }, kinds := [], alts := [], laidByText := true, laidKinds := [.data], laidTests := true, laidLooks := .later }
def ContractionRoundTripCardSaid : Prop := Claim7.holds Tryd.pinned (.plain (OpenSpec.ofChange contractionRoundTripSpec)) contractionRoundTripCard

/-- THE TIED CARD OF 'narratorlaw52.ContractionOther'. -/
def contractionOtherCard : Claim7 := { stood := { row := contractionOtherRow, standIns := [], harness := (true, "4334b76bf5da3a0ecbc46a4e607625b083f287cafee76c334b70d62fc62cd05e"), looks := false }, kinds := [], alts := [], laidByText := true, laidKinds := [.data], laidTests := true, laidLooks := .later }
def ContractionOtherCardSaid : Prop := Claim7.holds Tryd.pinned (.plain (OpenSpec.ofChange contractionOtherSpec)) contractionOtherCard

/-- THE TIED CARD OF 'narratorlaw52.ContractionPrefix'. -/
def contractionPrefixCard : Claim7 := { stood := { row := contractionPrefixRow, standIns := [], harness := (true, "4334b76bf5da3a0ecbc46a4e607625b083f287cafee76c334b70d62fc62cd05e"), looks := false }, kinds := [], alts := [], laidByText := true, laidKinds := [.data], laidTests := true, laidLooks := .later }
def ContractionPrefixCardSaid : Prop := Claim7.holds Tryd.pinned (.plain (OpenSpec.ofChange contractionPrefixSpec)) contractionPrefixCard

/-- THE TIED CARD OF 'narratorlaw52.ContractionLeast'. -/
def contractionLeastCard : Claim7 := { stood := { row := contractionLeastRow, standIns := [], harness := (true, "4334b76bf5da3a0ecbc46a4e607625b083f287cafee76c334b70d62fc62cd05e"), looks := false }, kinds := [], alts := [], laidByText := true, laidKinds := [.data], laidTests := true, laidLooks := .later }
def ContractionLeastCardSaid : Prop := Claim7.holds Tryd.pinned (.plain (OpenSpec.ofChange contractionLeastSpec)) contractionLeastCard

/-- THE TIED CARD OF 'narratorlaw52.ContractionPositions'. -/
def contractionPositionsCard : Claim7 := { stood := { row := contractionPositionsRow, standIns := [], harness := (true, "4334b76bf5da3a0ecbc46a4e607625b083f287cafee76c334b70d62fc62cd05e"), looks := false }, kinds := [], alts := [], laidByText := true, laidKinds := [.data, .data, .pinned], laidTests := true, laidLooks := .later }
def ContractionPositionsCardSaid : Prop := Claim7.holds Tryd.pinned (.plain (OpenSpec.ofChange contractionPositionsSpec)) contractionPositionsCard

/-- THE TIED CARD OF 'narratorlaw52.ContractionJoins'. -/
def contractionJoinsCard : Claim7 := { stood := { row := contractionJoinsRow, standIns := [], harness := (true, "4334b76bf5da3a0ecbc46a4e607625b083f287cafee76c334b70d62fc62cd05e"), looks := false }, kinds := [], alts := [], laidByText := true, laidKinds := [.data, .data, .pinned], laidTests := true, laidLooks := .later }
def ContractionJoinsCardSaid : Prop := Claim7.holds Tryd.pinned (.plain (OpenSpec.ofChange contractionJoinsSpec)) contractionJoinsCard

/-- THE TIED CARD OF 'narratorlaw52.ContractionTranslate'. -/
def contractionTranslateCard : Claim7 := { stood := { row := contractionTranslateRow, standIns := [], harness := (true, "4334b76bf5da3a0ecbc46a4e607625b083f287cafee76c334b70d62fc62cd05e"), looks := false }, kinds := [], alts := [], laidByText := true, laidKinds := [.data], laidTests := true, laidLooks := .later }
def ContractionTranslateCardSaid : Prop := Claim7.holds Tryd.pinned (.plain (OpenSpec.ofChange contractionTranslateSpec)) contractionTranslateCard

/-- THE SECOND FORM's CARD OF 'narratorlaw52.ContractionBack'. -/
def contractionBackUptoCard : Claim7 := { stood := { row := contractionBackUptoRow, standIns := [], harness := (true, "4334b76bf5da3a0ecbc46a4e607625b083f287cafee76c334b70d62fc62cd05e"), looks := false }, kinds := [], alts := [], laidByText := true, laidKinds := [.data], laidTests := true, laidLooks := .later }
def ContractionBackUptoCardSaid : Prop := Claim7.holds Tryd.pinned (.plain (OpenSpec.upto contractionBackSpec)) contractionBackUptoCard

/-- THE SECOND FORM's CARD OF 'narratorlaw52.ContractionRoundTrip'. -/
def contractionRoundTripUptoCard : Claim7 := { stood := { row := contractionRoundTripUptoRow, standIns := [], harness := (true, "4334b76bf5da3a0ecbc46a4e607625b083f287cafee76c334b70d62fc62cd05e"), looks := false }, kinds := [], alts := [], laidByText := true, laidKinds := [.data], laidTests := true, laidLooks := .later }
def ContractionRoundTripUptoCardSaid : Prop := Claim7.holds Tryd.pinned (.plain (OpenSpec.upto contractionRoundTripSpec)) contractionRoundTripUptoCard

/-- THE SECOND FORM's CARD OF 'narratorlaw52.ContractionOther'. -/
def contractionOtherUptoCard : Claim7 := { stood := { row := contractionOtherUptoRow, standIns := [], harness := (true, "4334b76bf5da3a0ecbc46a4e607625b083f287cafee76c334b70d62fc62cd05e"), looks := false }, kinds := [], alts := [], laidByText := true, laidKinds := [.data], laidTests := true, laidLooks := .later }
def ContractionOtherUptoCardSaid : Prop := Claim7.holds Tryd.pinned (.plain (OpenSpec.upto contractionOtherSpec)) contractionOtherUptoCard

/-- THE SECOND FORM's CARD OF 'narratorlaw52.ContractionPrefix'. -/
def contractionPrefixUptoCard : Claim7 := { stood := { row := contractionPrefixUptoRow, standIns := [], harness := (true, "4334b76bf5da3a0ecbc46a4e607625b083f287cafee76c334b70d62fc62cd05e"), looks := false }, kinds := [], alts := [], laidByText := true, laidKinds := [.data], laidTests := true, laidLooks := .later }
def ContractionPrefixUptoCardSaid : Prop := Claim7.holds Tryd.pinned (.plain (OpenSpec.upto contractionPrefixSpec)) contractionPrefixUptoCard

/-- THE SECOND FORM's CARD OF 'narratorlaw52.ContractionLeast'. -/
def contractionLeastUptoCard : Claim7 := { stood := { row := contractionLeastUptoRow, standIns := [], harness := (true, "4334b76bf5da3a0ecbc46a4e607625b083f287cafee76c334b70d62fc62cd05e"), looks := false }, kinds := [], alts := [], laidByText := true, laidKinds := [.data], laidTests := true, laidLooks := .later }
def ContractionLeastUptoCardSaid : Prop := Claim7.holds Tryd.pinned (.plain (OpenSpec.upto contractionLeastSpec)) contractionLeastUptoCard

/-- THE SECOND FORM's CARD OF 'narratorlaw52.ContractionPositions'. -/
def contractionPositionsUptoCard : Claim7 := { stood := { row := contractionPositionsUptoRow, standIns := [], harness := (true, "4334b76bf5da3a0ecbc46a4e607625b083f287cafee76c334b70d62fc62cd05e"), looks := false }, kinds := [], alts := [], laidByText := true, laidKinds := [.data, .data, .pinned], laidTests := true, laidLooks := .later }
def ContractionPositionsUptoCardSaid : Prop := Claim7.holds Tryd.pinned (.plain (OpenSpec.upto contractionPositionsSpec)) contractionPositionsUptoCard

/-- THE SECOND FORM's CARD OF 'narratorlaw52.ContractionJoins'. -/
def contractionJoinsUptoCard : Claim7 := { stood := { row := contractionJoinsUptoRow, standIns := [], harness := (true, "4334b76bf5da3a0ecbc46a4e607625b083f287cafee76c334b70d62fc62cd05e"), looks := false }, kinds := [], alts := [], laidByText := true, laidKinds := [.data, .data, .pinned], laidTests := true, laidLooks := .later }
def ContractionJoinsUptoCardSaid : Prop := Claim7.holds Tryd.pinned (.plain (OpenSpec.upto contractionJoinsSpec)) contractionJoinsUptoCard

/-- THE SECOND FORM's CARD OF 'narratorlaw52.ContractionTranslate'. -/
def contractionTranslateUptoCard : Claim7 := { stood := { row := contractionTranslateUptoRow, standIns := [], harness := (true, "4334b76bf5da3a0ecbc46a4e607625b083f287cafee76c334b70d62fc62cd05e"), looks := false }, kinds := [], alts := [], laidByText := true, laidKinds := [.data], laidTests := true, laidLooks := .later }
def ContractionTranslateUptoCardSaid : Prop := Claim7.holds Tryd.pinned (.plain (OpenSpec.upto contractionTranslateSpec)) contractionTranslateUptoCard
end Rows
end Go.Proofs.YtlldpcmdmipggaaDoor
