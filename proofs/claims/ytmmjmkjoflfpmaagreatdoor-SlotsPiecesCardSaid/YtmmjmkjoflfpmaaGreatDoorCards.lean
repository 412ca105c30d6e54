/-
  DERIVED. GIVEN WITH THE SEED: THE CARDS: each row of YtmmjmkjoflfpmaaGreatDoorRows.lean that lists a variable, with what it lists TIED to the program's text (the seventh form; the later family's looks); each row that meets fmt, with fmt's text TOLD by the authors' own Lean function (tested against real Go, not proved from fmt's source: count such statements apart). THE CARD IS WHAT COUNTS. Prove the row's statement (the work); the ties are given (YtmmjmkjoflfpmaaGreatDoorTie.lean); close each card by the builder's one call (the guide's Derived/Test/ToyasCard.lean, 'card_holds'). Laid BY PROGRAM, IN A SANDBOX (cutbox-door.mjs). By AI agents, Wed Nov 11 2026. No macro, syntax, notation, axiom, sorry.
-/
import Derived.Test.YtmmjmkjoflfpmaaGreatDoorRows
import GoSem.ClaimSeven
namespace Go.Proofs.YtmmjmkjoflfpmaaGreatDoor
namespace Rows

/-- THE TIED CARD OF 'outpostlaw07.SlotsOnce'. -/
def slotsOnceCard : Claim7 := { stood := { row := slotsOnceRow, standIns := [], harness := (true, "da20ab1aa4dcb159715bf8d01899751569cbb44c81c12abb5f1e64a30a7a81f4"), looks := true }, kinds := [], alts := [], laidByText := true, laidKinds := [.data, .data, .data, .pinned], laidTests := true, laidLooks := .later }
def SlotsOnceCardSaid : Prop := Claim7.holds Tryz.pinned (.plain (OpenSpec.ofChange slotsOnceSpec)) slotsOnceCard

/-- THE TIED CARD OF 'outpostlaw07.SlotsRefuse'. -/
def slotsRefuseCard : Claim7 := { stood := { row := slotsRefuseRow, standIns := [], harness := (true, "da20ab1aa4dcb159715bf8d01899751569cbb44c81c12abb5f1e64a30a7a81f4"), looks := true }, kinds := [], alts := [], laidByText := true, laidKinds := [.data, .data, .data, .pinned], laidTests := true, laidLooks := .later }
def SlotsRefuseCardSaid : Prop := Claim7.holds Tryz.pinned (.plain (OpenSpec.ofChange slotsRefuseSpec)) slotsRefuseCard

/-- THE TIED CARD OF 'outpostlaw07.SlotsPieces'. -/
def slotsPiecesCard : Claim7 := { stood := { row := slotsPiecesRow, standIns := [], harness := (true, "da20ab1aa4dcb159715bf8d01899751569cbb44c81c12abb5f1e64a30a7a81f4"), looks := true }, kinds := [], alts := [], laidByText := true, laidKinds := [.data, .data, .data, .pinned], laidTests := true, laidLooks := .later }
def SlotsPiecesCardSaid : Prop := Claim7.holds Tryz.pinned (.plain (OpenSpec.ofChange slotsPiecesSpec)) slotsPiecesCard

/-- THE TIED CARD OF 'outpostlaw07.SlotsPlays'. -/
def slotsPlaysCard : Claim7 := { stood := { row := slotsPlaysRow, standIns := [], harness := (true, "da20ab1aa4dcb159715bf8d01899751569cbb44c81c12abb5f1e64a30a7a81f4"), looks := true }, kinds := [], alts := [], laidByText := true, laidKinds := [.data, .data, .data, .pinned], laidTests := true, laidLooks := .later }
def SlotsPlaysCardSaid : Prop := Claim7.holds Tryz.pinned (.plain (OpenSpec.ofChange slotsPlaysSpec)) slotsPlaysCard

/-- THE TIED CARD OF 'outpostlaw07.SlotsPower'. -/
def slotsPowerCard : Claim7 := { stood := { row := slotsPowerRow, standIns := [], harness := (true, "da20ab1aa4dcb159715bf8d01899751569cbb44c81c12abb5f1e64a30a7a81f4"), looks := true }, kinds := [], alts := [], laidByText := true, laidKinds := [.data, .data, .data, .pinned], laidTests := true, laidLooks := .later }
def SlotsPowerCardSaid : Prop := Claim7.holds Tryz.pinned (.plain (OpenSpec.ofChange slotsPowerSpec)) slotsPowerCard

/-- THE SECOND FORM's CARD OF 'outpostlaw07.SlotsOnce'. -/
def slotsOnceUptoCard : Claim7 := { stood := { row := slotsOnceUptoRow, standIns := [], harness := (true, "da20ab1aa4dcb159715bf8d01899751569cbb44c81c12abb5f1e64a30a7a81f4"), looks := true }, kinds := [], alts := [], laidByText := true, laidKinds := [.data, .data, .data, .pinned], laidTests := true, laidLooks := .later }
def SlotsOnceUptoCardSaid : Prop := Claim7.holds Tryz.pinned (.plain (OpenSpec.upto slotsOnceSpec)) slotsOnceUptoCard

/-- THE SECOND FORM's CARD OF 'outpostlaw07.SlotsRefuse'. -/
def slotsRefuseUptoCard : Claim7 := { stood := { row := slotsRefuseUptoRow, standIns := [], harness := (true, "da20ab1aa4dcb159715bf8d01899751569cbb44c81c12abb5f1e64a30a7a81f4"), looks := true }, kinds := [], alts := [], laidByText := true, laidKinds := [.data, .data, .data, .pinned], laidTests := true, laidLooks := .later }
def SlotsRefuseUptoCardSaid : Prop := Claim7.holds Tryz.pinned (.plain (OpenSpec.upto slotsRefuseSpec)) slotsRefuseUptoCard

/-- THE SECOND FORM's CARD OF 'outpostlaw07.SlotsPieces'. -/
def slotsPiecesUptoCard : Claim7 := { stood := { row := slotsPiecesUptoRow, standIns := [], harness := (true, "da20ab1aa4dcb159715bf8d01899751569cbb44c81c12abb5f1e64a30a7a81f4"), looks := true }, kinds := [], alts := [], laidByText := true, laidKinds := [.data, .data, .data, .pinned], laidTests := true, laidLooks := .later }
def SlotsPiecesUptoCardSaid : Prop := Claim7.holds Tryz.pinned (.plain (OpenSpec.upto slotsPiecesSpec)) slotsPiecesUptoCard

/-- THE SECOND FORM's CARD OF 'outpostlaw07.SlotsPlays'. -/
def slotsPlaysUptoCard : Claim7 := { stood := { row := slotsPlaysUptoRow, standIns := [], harness := (true, "da20ab1aa4dcb159715bf8d01899751569cbb44c81c12abb5f1e64a30a7a81f4"), looks := true }, kinds := [], alts := [], laidByText := true, laidKinds := [.data, .data, .data, .pinned], laidTests := true, laidLooks := .later }
def SlotsPlaysUptoCardSaid : Prop := Claim7.holds Tryz.pinned (.plain (OpenSpec.upto slotsPlaysSpec)) slotsPlaysUptoCard

/-- THE SECOND FORM's CARD OF 'outpostlaw07.SlotsPower'. -/
def slotsPowerUptoCard : Claim7 := { stood := { row := slotsPowerUptoRow, standIns := [], harness := (true, "da20ab1aa4dcb159715bf8d01899751569cbb44c81c12abb5f1e64a30a7a81f4"), looks := true }, kinds := [], alts := [], laidByText := true, laidKinds := [.data, .data, .data, .pinned], laidTests := true, laidLooks := .later }
def SlotsPowerUptoCardSaid : Prop := Claim7.holds Tryz.pinned (.plain (OpenSpec.upto slotsPowerSpec)) slotsPowerUptoCard
end Rows
end Go.Proofs.YtmmjmkjoflfpmaaGreatDoor
