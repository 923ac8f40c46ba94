/-
  DERIVED. GIVEN WITH THE SEED: THE CARDS: each row of YtmepjceepakdlaaDoorRows.lean that lists a variable, with what it lists TIED to the program's text (the seventh form; the later family's looks); each row that meets fmt, with fmt's text TOLD by the authors' own Lean function (tested against real Go, not proved from fmt's source: count such statements apart). THE CARD IS WHAT COUNTS. Prove the row's statement (the work); the ties are given (YtmepjceepakdlaaDoorTie.lean); close each card by the builder's one call (the guide's Derived/Test/ToyasCard.lean, 'card_holds'). Laid BY PROGRAM, IN A SANDBOX (cutbox-door.mjs). By AI agents, Wed Nov 11 2026. No macro, syntax, notation, axiom, sorry.
-/
import Derived.Test.YtmepjceepakdlaaDoorRows
import GoSem.ClaimSeven
namespace Go.Proofs.YtmepjceepakdlaaDoor
namespace Rows

/-- THE TIED CARD OF 'narratorlaw01.Utf8streamEncode'. -/
def utf8streamEncodeCard : Claim7 := { stood := { row := utf8streamEncodeRow, standIns := [], harness := (true, "d92eaf0a73993f605f771796dcc8e9a8161b877b6c87422830a47b79262e254a"), looks := false }, kinds := [], alts := [], laidByText := true, laidKinds := [.data, .pinned], laidTests := true, laidLooks := .later }
def Utf8streamEncodeCardSaid : Prop := Claim7.holds Tryd.pinned (.plain (OpenSpec.ofChange utf8streamEncodeSpec)) utf8streamEncodeCard

/-- THE TIED CARD OF 'narratorlaw01.Utf8streamRoundTrip'. -/
def utf8streamRoundTripCard : Claim7 := { stood := { row := utf8streamRoundTripRow, standIns := [], harness := (true, "d92eaf0a73993f605f771796dcc8e9a8161b877b6c87422830a47b79262e254a"), looks := false }, kinds := [], alts := [], laidByText := true, laidKinds := [.data, .pinned], laidTests := true, laidLooks := .later }
def Utf8streamRoundTripCardSaid : Prop := Claim7.holds Tryd.pinned (.plain (OpenSpec.ofChange utf8streamRoundTripSpec)) utf8streamRoundTripCard

/-- THE TIED CARD OF 'narratorlaw01.Utf8streamCanonical'. -/
def utf8streamCanonicalCard : Claim7 := { stood := { row := utf8streamCanonicalRow, standIns := [], harness := (true, "d92eaf0a73993f605f771796dcc8e9a8161b877b6c87422830a47b79262e254a"), looks := false }, kinds := [], alts := [], laidByText := true, laidKinds := [.data, .pinned], laidTests := true, laidLooks := .later }
def Utf8streamCanonicalCardSaid : Prop := Claim7.holds Tryd.pinned (.plain (OpenSpec.ofChange utf8streamCanonicalSpec)) utf8streamCanonicalCard

/-- THE TIED CARD OF 'narratorlaw01.Utf8streamGo'. -/
def utf8streamGoCard : Claim7 := { stood := { row := utf8streamGoRow, standIns := [], harness := (true, "d92eaf0a73993f605f771796dcc8e9a8161b877b6c87422830a47b79262e254a"), looks := false }, kinds := [], alts := [], laidByText := true, laidKinds := [.data, .pinned], laidTests := true, laidLooks := .later }
def Utf8streamGoCardSaid : Prop := Claim7.holds Tryd.pinned (.plain (OpenSpec.ofChange utf8streamGoSpec)) utf8streamGoCard

/-- THE SECOND FORM's CARD OF 'narratorlaw01.Utf8streamEncode'. -/
def utf8streamEncodeUptoCard : Claim7 := { stood := { row := utf8streamEncodeUptoRow, standIns := [], harness := (true, "d92eaf0a73993f605f771796dcc8e9a8161b877b6c87422830a47b79262e254a"), looks := false }, kinds := [], alts := [], laidByText := true, laidKinds := [.data, .pinned], laidTests := true, laidLooks := .later }
def Utf8streamEncodeUptoCardSaid : Prop := Claim7.holds Tryd.pinned (.plain (OpenSpec.upto utf8streamEncodeSpec)) utf8streamEncodeUptoCard

/-- THE SECOND FORM's CARD OF 'narratorlaw01.Utf8streamRoundTrip'. -/
def utf8streamRoundTripUptoCard : Claim7 := { stood := { row := utf8streamRoundTripUptoRow, standIns := [], harness := (true, "d92eaf0a73993f605f771796dcc8e9a8161b877b6c87422830a47b79262e254a"), looks := false }, kinds := [], alts := [], laidByText := true, laidKinds := [.data, .pinned], laidTests := true, laidLooks := .later }
def Utf8streamRoundTripUptoCardSaid : Prop := Claim7.holds Tryd.pinned (.plain (OpenSpec.upto utf8streamRoundTripSpec)) utf8streamRoundTripUptoCard

/-- THE SECOND FORM's CARD OF 'narratorlaw01.Utf8streamCanonical'. -/
def utf8streamCanonicalUptoCard : Claim7 := { stood := { row := utf8streamCanonicalUptoRow, standIns := [], harness := (true, "d92eaf0a73993f605f771796dcc8e9a8161b877b6c87422830a47b79262e254a"), looks := false }, kinds := [], alts := [], laidByText := true, laidKinds := [.data, .pinned], laidTests := true, laidLooks := .later }
def Utf8streamCanonicalUptoCardSaid : Prop := Claim7.holds Tryd.pinned (.plain (OpenSpec.upto utf8streamCanonicalSpec)) utf8streamCanonicalUptoCard

/-- THE SECOND FORM's CARD OF 'narratorlaw01.Utf8streamGo'. -/
def utf8streamGoUptoCard : Claim7 := { stood := { row := utf8streamGoUptoRow, standIns := [], harness := (true, "d92eaf0a73993f605f771796dcc8e9a8161b877b6c87422830a47b79262e254a"), looks := false }, kinds := [], alts := [], laidByText := true, laidKinds := [.data, .pinned], laidTests := true, laidLooks := .later }
def Utf8streamGoUptoCardSaid : Prop := Claim7.holds Tryd.pinned (.plain (OpenSpec.upto utf8streamGoSpec)) utf8streamGoUptoCard
end Rows
end Go.Proofs.YtmepjceepakdlaaDoor
