/-
  DERIVED. GIVEN WITH THE SEED: THE CARDS: each row of YtbeelajedknohaaDoorRows.lean that lists a variable, with what it lists TIED to the program's text (the seventh form; the later family's looks); each row that meets fmt, with fmt's text TOLD by the authors' own Lean function (tested against real Go, not proved from fmt's source: count such statements apart). THE CARD IS WHAT COUNTS. Prove the row's statement (the work); the ties are given (YtbeelajedknohaaDoorTie.lean); close each card by the builder's one call (the guide's Derived/Test/ToyasCard.lean, 'card_holds'). Laid BY PROGRAM, IN A SANDBOX (cutbox-door.mjs). By AI agents, Wed Nov 11 2026. No macro, syntax, notation, axiom, sorry.
-/
import Derived.Test.YtbeelajedknohaaDoorRows
import GoSem.ClaimSeven
namespace Go.Proofs.YtbeelajedknohaaDoor
namespace Rows

/-- THE TIED CARD OF 'narratorlaw53.BraillelineCells'. -/
def braillelineCellsCard : Claim7 := { stood := { row := braillelineCellsRow, standIns := [], harness := (true, "777287df794fe51123de763de282b0e614794c5cb1d24eacf1da175bad386b93"), looks := false }, kinds := [], alts := [], laidByText := true, laidKinds := [.data], laidTests := true, laidLooks := .later }
def BraillelineCellsCardSaid : Prop := Claim7.holds Tryd.pinned (.plain (OpenSpec.ofChange braillelineCellsSpec)) braillelineCellsCard

/-- THE TIED CARD OF 'narratorlaw53.BraillelineOf'. -/
def braillelineOfCard : Claim7 := { stood := { row := braillelineOfRow, standIns := [], harness := (true, "777287df794fe51123de763de282b0e614794c5cb1d24eacf1da175bad386b93"), looks := false }, kinds := [], alts := [], laidByText := true, laidKinds := [.data, .data, .pinned], laidTests := true, laidLooks := .later }
def BraillelineOfCardSaid : Prop := Claim7.holds Tryd.pinned (.plain (OpenSpec.ofChange braillelineOfSpec)) braillelineOfCard

/-- THE TIED CARD OF 'narratorlaw53.BraillelinePositions'. -/
def braillelinePositionsCard : Claim7 := { stood := { row := braillelinePositionsRow, standIns := [], harness := (true, "777287df794fe51123de763de282b0e614794c5cb1d24eacf1da175bad386b93"), looks := false }, kinds := [], alts := [], laidByText := true, laidKinds := [.data, .data, .pinned], laidTests := true, laidLooks := .later }
def BraillelinePositionsCardSaid : Prop := Claim7.holds Tryd.pinned (.plain (OpenSpec.ofChange braillelinePositionsSpec)) braillelinePositionsCard

/-- THE TIED CARD OF 'narratorlaw53.BraillelineStyles'. -/
def braillelineStylesCard : Claim7 := { stood := { row := braillelineStylesRow, standIns := [], harness := (true, "777287df794fe51123de763de282b0e614794c5cb1d24eacf1da175bad386b93"), looks := false }, kinds := [], alts := [], laidByText := true, laidKinds := [.data, .data, .pinned], laidTests := true, laidLooks := .later }
def BraillelineStylesCardSaid : Prop := Claim7.holds Tryd.pinned (.plain (OpenSpec.ofChange braillelineStylesSpec)) braillelineStylesCard

/-- THE TIED CARD OF 'narratorlaw53.BraillelineParts'. -/
def braillelinePartsCard : Claim7 := { stood := { row := braillelinePartsRow, standIns := [], harness := (true, "777287df794fe51123de763de282b0e614794c5cb1d24eacf1da175bad386b93"), looks := false }, kinds := [], alts := [], laidByText := true, laidKinds := [.data, .data, .pinned], laidTests := true, laidLooks := .later }
def BraillelinePartsCardSaid : Prop := Claim7.holds Tryd.pinned (.plain (OpenSpec.ofChange braillelinePartsSpec)) braillelinePartsCard

/-- THE TIED CARD OF 'narratorlaw53.BraillelineEnd'. -/
def braillelineEndCard : Claim7 := { stood := { row := braillelineEndRow, standIns := [], harness := (true, "777287df794fe51123de763de282b0e614794c5cb1d24eacf1da175bad386b93"), looks := false }, kinds := [], alts := [], laidByText := true, laidKinds := [.data, .data, .pinned], laidTests := true, laidLooks := .later }
def BraillelineEndCardSaid : Prop := Claim7.holds Tryd.pinned (.plain (OpenSpec.ofChange braillelineEndSpec)) braillelineEndCard

/-- THE TIED CARD OF 'narratorlaw53.BraillelineGlyphs'. -/
def braillelineGlyphsCard : Claim7 := { stood := { row := braillelineGlyphsRow, standIns := [], harness := (true, "777287df794fe51123de763de282b0e614794c5cb1d24eacf1da175bad386b93"), looks := false }, kinds := [], alts := [], laidByText := true, laidKinds := [.data, .data, .pinned], laidTests := true, laidLooks := .later }
def BraillelineGlyphsCardSaid : Prop := Claim7.holds Tryd.pinned (.plain (OpenSpec.ofChange braillelineGlyphsSpec)) braillelineGlyphsCard

/-- THE TIED CARD OF 'narratorlaw53.BraillelineRoundTrip'. -/
def braillelineRoundTripCard : Claim7 := { stood := { row := braillelineRoundTripRow, standIns := [], harness := (true, "777287df794fe51123de763de282b0e614794c5cb1d24eacf1da175bad386b93"), looks := false }, kinds := [], alts := [], laidByText := true, laidKinds := [.data, .data, .pinned], laidTests := true, laidLooks := .later }
def BraillelineRoundTripCardSaid : Prop := Claim7.holds Tryd.pinned (.plain (OpenSpec.ofChange braillelineRoundTripSpec)) braillelineRoundTripCard

/-- THE SECOND FORM's CARD OF 'narratorlaw53.BraillelineCells'. -/
def braillelineCellsUptoCard : Claim7 := { stood := { row := braillelineCellsUptoRow, standIns := [], harness := (true, "777287df794fe51123de763de282b0e614794c5cb1d24eacf1da175bad386b93"), looks := false }, kinds := [], alts := [], laidByText := true, laidKinds := [.data], laidTests := true, laidLooks := .later }
def BraillelineCellsUptoCardSaid : Prop := Claim7.holds Tryd.pinned (.plain (OpenSpec.upto braillelineCellsSpec)) braillelineCellsUptoCard

/-- THE SECOND FORM's CARD OF 'narratorlaw53.BraillelineOf'. -/
def braillelineOfUptoCard : Claim7 := { stood := { row := braillelineOfUptoRow, standIns := [], harness := (true, "777287df794fe51123de763de282b0e614794c5cb1d24eacf1da175bad386b93"), looks := false }, kinds := [], alts := [], laidByText := true, laidKinds := [.data, .data, .pinned], laidTests := true, laidLooks := .later }
def BraillelineOfUptoCardSaid : Prop := Claim7.holds Tryd.pinned (.plain (OpenSpec.upto braillelineOfSpec)) braillelineOfUptoCard

/-- THE SECOND FORM's CARD OF 'narratorlaw53.BraillelinePositions'. -/
def braillelinePositionsUptoCard : Claim7 := { stood := { row := braillelinePositionsUptoRow, standIns := [], harness := (true, "777287df794fe51123de763de282b0e614794c5cb1d24eacf1da175bad386b93"), looks := false }, kinds := [], alts := [], laidByText := true, laidKinds := [.data, .data, .pinned], laidTests := true, laidLooks := .later }
def BraillelinePositionsUptoCardSaid : Prop := Claim7.holds Tryd.pinned (.plain (OpenSpec.upto braillelinePositionsSpec)) braillelinePositionsUptoCard

/-- THE SECOND FORM's CARD OF 'narratorlaw53.BraillelineStyles'. -/
def braillelineStylesUptoCard : Claim7 := { stood := { row := braillelineStylesUptoRow, standIns := [], harness := (true, "777287df794fe51123de763de282b0e614794c5cb1d24eacf1da175bad386b93"), looks := false }, kinds := [], alts := [], laidByText := true, laidKinds := [.data, .data, .pinned], laidTests := true, laidLooks := .later }
def BraillelineStylesUptoCardSaid : Prop := Claim7.holds Tryd.pinned (.plain (OpenSpec.upto braillelineStylesSpec)) braillelineStylesUptoCard

/-- THE SECOND FORM's CARD OF 'narratorlaw53.BraillelineParts'. -/
def braillelinePartsUptoCard : Claim7 := { stood := { row := braillelinePartsUptoRow, standIns := [], harness := (true, "777287df794fe51123de763de282b0e614794c5cb1d24eacf1da175bad386b93"), looks := false }, kinds := [], alts := [], laidByText := true, laidKinds := [.data, .data, .pinned], laidTests := true, laidLooks := .later }
def BraillelinePartsUptoCardSaid : Prop := Claim7.holds Tryd.pinned (.plain (OpenSpec.upto braillelinePartsSpec)) braillelinePartsUptoCard

/-- THE SECOND FORM's CARD OF 'narratorlaw53.BraillelineEnd'. -/
def braillelineEndUptoCard : Claim7 := { stood := { row := braillelineEndUptoRow, standIns := [], harness := (true, "777287df794fe51123de763de282b0e614794c5cb1d24eacf1da175bad386b93"), looks := false }, kinds := [], alts := [], laidByText := true, laidKinds := [.data, .data, .pinned], laidTests := true, laidLooks := .later }
def BraillelineEndUptoCardSaid : Prop := Claim7.holds Tryd.pinned (.plain (OpenSpec.upto braillelineEndSpec)) braillelineEndUptoCard

/-- THE SECOND FORM's CARD OF 'narratorlaw53.BraillelineGlyphs'. -/
def braillelineGlyphsUptoCard : Claim7 := { stood := { row := braillelineGlyphsUptoRow, standIns := [], harness := (true, "777287df794fe51123de763de282b0e614794c5cb1d24eacf1da175bad386b93"), looks := false }, kinds := [], alts := [], laidByText := true, laidKinds := [.data, .data, .pinned], laidTests := true, laidLooks := .later }
def BraillelineGlyphsUptoCardSaid : Prop := Claim7.holds Tryd.pinned (.plain (OpenSpec.upto braillelineGlyphsSpec)) braillelineGlyphsUptoCard

/-- THE SECOND FORM's CARD OF 'narratorlaw53.BraillelineRoundTrip'. -/
def braillelineRoundTripUptoCard : Claim7 := { stood := { row := braillelineRoundTripUptoRow, standIns := [], harness := (true, "777287df794fe51123de763de282b0e614794c5cb1d24eacf1da175bad386b93"), looks := false }, kinds := [], alts := [], laidByText := true, laidKinds := [.data, .data, .pinned], laidTests := true, laidLooks := .later }
def BraillelineRoundTripUptoCardSaid : Prop := Claim7.holds Tryd.pinned (.plain (OpenSpec.upto braillelineRoundTripSpec)) braillelineRoundTripUptoCard
end Rows
end Go.Proofs.YtbeelajedknohaaDoor
