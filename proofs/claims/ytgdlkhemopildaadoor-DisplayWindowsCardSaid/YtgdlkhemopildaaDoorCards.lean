/-
  DERIVED. GIVEN WITH THE SEED: THE CARDS: each row of YtgdlkhemopildaaDoorRows.lean that lists a variable, with what it lists TIED to the program's text (the seventh form; the later family's looks); each row that meets fmt, with fmt's text TOLD by the authors' own Lean function (tested against real Go, not proved from fmt's source: count such statements apart). THE CARD IS WHAT COUNTS. Prove the row's statement (the work); the ties are given (YtgdlkhemopildaaDoorTie.lean); close each card by the builder's one call (the guide's Derived/Test/ToyasCard.lean, 'card_holds'). Laid BY PROGRAM, IN A SANDBOX (cutbox-door.mjs). By AI agents, Wed Nov 11 2026. No macro, syntax, notation, axiom, sorry.
-/
import Derived.Test.YtgdlkhemopildaaDoorRows
import GoSem.ClaimSeven
namespace Go.Proofs.YtgdlkhemopildaaDoor
namespace Rows

/-- THE TIED CARD OF 'narratorlaw54.DisplayShow'. -/
def displayShowCard : Claim7 := { stood := { row := displayShowRow, standIns := [], harness := (true, "6abb516dfcec101e757b74bfe1c245d9aab51161223124f1d097f4bbb1c86fb0"), looks := false }, kinds := [], alts := [], laidByText := true, laidKinds := [.data, .data, .pinned], laidTests := true, laidLooks := .later }
def DisplayShowCardSaid : Prop := Claim7.holds Tryd.pinned (.plain (OpenSpec.ofChange displayShowSpec)) displayShowCard

/-- THE TIED CARD OF 'narratorlaw54.DisplayFollows'. -/
def displayFollowsCard : Claim7 := { stood := { row := displayFollowsRow, standIns := [], harness := (true, "6abb516dfcec101e757b74bfe1c245d9aab51161223124f1d097f4bbb1c86fb0"), looks := false }, kinds := [], alts := [], laidByText := true, laidKinds := [.data, .data, .pinned], laidTests := true, laidLooks := .later }
def DisplayFollowsCardSaid : Prop := Claim7.holds Tryd.pinned (.plain (OpenSpec.ofChange displayFollowsSpec)) displayFollowsCard

/-- THE TIED CARD OF 'narratorlaw54.DisplayRoutes'. -/
def displayRoutesCard : Claim7 := { stood := { row := displayRoutesRow, standIns := [], harness := (true, "6abb516dfcec101e757b74bfe1c245d9aab51161223124f1d097f4bbb1c86fb0"), looks := false }, kinds := [], alts := [], laidByText := true, laidKinds := [.data, .data, .pinned], laidTests := true, laidLooks := .later }
def DisplayRoutesCardSaid : Prop := Claim7.holds Tryd.pinned (.plain (OpenSpec.ofChange displayRoutesSpec)) displayRoutesCard

/-- THE TIED CARD OF 'narratorlaw54.DisplayWindows'. -/
def displayWindowsCard : Claim7 := { stood := { row := displayWindowsRow, standIns := [], harness := (true, "6abb516dfcec101e757b74bfe1c245d9aab51161223124f1d097f4bbb1c86fb0"), looks := false }, kinds := [], alts := [], laidByText := true, laidKinds := [.data, .data, .pinned], laidTests := true, laidLooks := .later }
def DisplayWindowsCardSaid : Prop := Claim7.holds Tryd.pinned (.plain (OpenSpec.ofChange displayWindowsSpec)) displayWindowsCard

/-- THE TIED CARD OF 'narratorlaw54.DisplayAdds'. -/
def displayAddsCard : Claim7 := { stood := { row := displayAddsRow, standIns := [], harness := (true, "6abb516dfcec101e757b74bfe1c245d9aab51161223124f1d097f4bbb1c86fb0"), looks := false }, kinds := [], alts := [], laidByText := true, laidKinds := [.data, .data, .pinned], laidTests := true, laidLooks := .later }
def DisplayAddsCardSaid : Prop := Claim7.holds Tryd.pinned (.plain (OpenSpec.ofChange displayAddsSpec)) displayAddsCard

/-- THE TIED CARD OF 'narratorlaw54.DisplayKeys'. -/
def displayKeysCard : Claim7 := { stood := { row := displayKeysRow, standIns := [], harness := (true, "6abb516dfcec101e757b74bfe1c245d9aab51161223124f1d097f4bbb1c86fb0"), looks := false }, kinds := [], alts := [], laidByText := true, laidKinds := [.data, .data, .pinned], laidTests := true, laidLooks := .later }
def DisplayKeysCardSaid : Prop := Claim7.holds Tryd.pinned (.plain (OpenSpec.ofChange displayKeysSpec)) displayKeysCard

/-- THE TIED CARD OF 'narratorlaw54.DisplayMoves'. -/
def displayMovesCard : Claim7 := { stood := { row := displayMovesRow, standIns := [], harness := (true, "6abb516dfcec101e757b74bfe1c245d9aab51161223124f1d097f4bbb1c86fb0"), looks := false }, kinds := [], alts := [], laidByText := true, laidKinds := [.data, .data, .pinned], laidTests := true, laidLooks := .later }
def DisplayMovesCardSaid : Prop := Claim7.holds Tryd.pinned (.plain (OpenSpec.ofChange displayMovesSpec)) displayMovesCard

/-- THE SECOND FORM's CARD OF 'narratorlaw54.DisplayShow'. -/
def displayShowUptoCard : Claim7 := { stood := { row := displayShowUptoRow, standIns := [], harness := (true, "6abb516dfcec101e757b74bfe1c245d9aab51161223124f1d097f4bbb1c86fb0"), looks := false }, kinds := [], alts := [], laidByText := true, laidKinds := [.data, .data, .pinned], laidTests := true, laidLooks := .later }
def DisplayShowUptoCardSaid : Prop := Claim7.holds Tryd.pinned (.plain (OpenSpec.upto displayShowSpec)) displayShowUptoCard

/-- THE SECOND FORM's CARD OF 'narratorlaw54.DisplayFollows'. -/
def displayFollowsUptoCard : Claim7 := { stood := { row := displayFollowsUptoRow, standIns := [], harness := (true, "6abb516dfcec101e757b74bfe1c245d9aab51161223124f1d097f4bbb1c86fb0"), looks := false }, kinds := [], alts := [], laidByText := true, laidKinds := [.data, .data, .pinned], laidTests := true, laidLooks := .later }
def DisplayFollowsUptoCardSaid : Prop := Claim7.holds Tryd.pinned (.plain (OpenSpec.upto displayFollowsSpec)) displayFollowsUptoCard

/-- THE SECOND FORM's CARD OF 'narratorlaw54.DisplayRoutes'. -/
def displayRoutesUptoCard : Claim7 := { stood := { row := displayRoutesUptoRow, standIns := [], harness := (true, "6abb516dfcec101e757b74bfe1c245d9aab51161223124f1d097f4bbb1c86fb0"), looks := false }, kinds := [], alts := [], laidByText := true, laidKinds := [.data, .data, .pinned], laidTests := true, laidLooks := .later }
def DisplayRoutesUptoCardSaid : Prop := Claim7.holds Tryd.pinned (.plain (OpenSpec.upto displayRoutesSpec)) displayRoutesUptoCard

/-- THE SECOND FORM's CARD OF 'narratorlaw54.DisplayWindows'. -/
def displayWindowsUptoCard : Claim7 := { stood := { row := displayWindowsUptoRow, standIns := [], harness := (true, "6abb516dfcec101e757b74bfe1c245d9aab51161223124f1d097f4bbb1c86fb0"), looks := false }, kinds := [], alts := [], laidByText := true, laidKinds := [.data, .data, .pinned], laidTests := true, laidLooks := .later }
def DisplayWindowsUptoCardSaid : Prop := Claim7.holds Tryd.pinned (.plain (OpenSpec.upto displayWindowsSpec)) displayWindowsUptoCard

/-- THE SECOND FORM's CARD OF 'narratorlaw54.DisplayAdds'. -/
def displayAddsUptoCard : Claim7 := { stood := { row := displayAddsUptoRow, standIns := [], harness := (true, "6abb516dfcec101e757b74bfe1c245d9aab51161223124f1d097f4bbb1c86fb0"), looks := false }, kinds := [], alts := [], laidByText := true, laidKinds := [.data, .data, .pinned], laidTests := true, laidLooks := .later }
def DisplayAddsUptoCardSaid : Prop := Claim7.holds Tryd.pinned (.plain (OpenSpec.upto displayAddsSpec)) displayAddsUptoCard

/-- THE SECOND FORM's CARD OF 'narratorlaw54.DisplayKeys'. -/
def displayKeysUptoCard : Claim7 := { stood := { row := displayKeysUptoRow, standIns := [], harness := (true, "6abb516dfcec101e757b74bfe1c245d9aab51161223124f1d097f4bbb1c86fb0"), looks := false }, kinds := [], alts := [], laidByText := true, laidKinds := [.data, .data, .pinned], laidTests := true, laidLooks := .later }
def DisplayKeysUptoCardSaid : Prop := Claim7.holds Tryd.pinned (.plain (OpenSpec.upto displayKeysSpec)) displayKeysUptoCard

/-- THE SECOND FORM's CARD OF 'narratorlaw54.DisplayMoves'. -/
def displayMovesUptoCard : Claim7 := { stood := { row := displayMovesUptoRow, standIns := [], harness := (true, "6abb516dfcec101e757b74bfe1c245d9aab51161223124f1d097f4bbb1c86fb0"), looks := false }, kinds := [], alts := [], laidByText := true, laidKinds := [.data, .data, .pinned], laidTests := true, laidLooks := .later }
def DisplayMovesUptoCardSaid : Prop := Claim7.holds Tryd.pinned (.plain (OpenSpec.upto displayMovesSpec)) displayMovesUptoCard
end Rows
end Go.Proofs.YtgdlkhemopildaaDoor
