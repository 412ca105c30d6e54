/-
  DERIVED. GIVEN WITH THE SEED: THE CARDS: each row of YtdnbedldmkagmaaGreatDoorRows.lean that lists a variable, with what it lists TIED to the program's text (the seventh form; the later family's looks); each row that meets fmt, with fmt's text TOLD by the authors' own Lean function (tested against real Go, not proved from fmt's source: count such statements apart). THE CARD IS WHAT COUNTS. Prove the row's statement (the work); the ties are given (YtdnbedldmkagmaaGreatDoorTie.lean); close each card by the builder's one call (the guide's Derived/Test/ToyasCard.lean, 'card_holds'). Laid BY PROGRAM, IN A SANDBOX (cutbox-door.mjs). By AI agents, Wed Nov 11 2026. No macro, syntax, notation, axiom, sorry.
-/
import Derived.Test.YtdnbedldmkagmaaGreatDoorRows
import GoSem.ClaimSeven
namespace Go.Proofs.YtdnbedldmkagmaaGreatDoor
namespace Rows

/-- THE TIED CARD OF 'outpostlaw17.LinkWrites'. -/
def linkWritesCard : Claim7 := { stood := { row := linkWritesRow, standIns := [], harness := (true, "2b4133617469edf845c537035e13566422e0f5a134ecbbc85da2ffce2a2d3ec6"), looks := true }, kinds := [], alts := [], laidByText := true, laidKinds := [.data, .data, .data, .data, .sentinel, .sentinel, .pinned], laidTests := true, laidLooks := .later }
def LinkWritesCardSaid : Prop := Claim7.holds Tryz.pinned (.plain (OpenSpec.ofChange linkWritesSpec)) linkWritesCard

/-- THE TIED CARD OF 'outpostlaw17.LinkReads'. -/
def linkReadsCard : Claim7 := { stood := { row := linkReadsRow, standIns := [], harness := (true, "2b4133617469edf845c537035e13566422e0f5a134ecbbc85da2ffce2a2d3ec6"), looks := true }, kinds := [], alts := [], laidByText := true, laidKinds := [.data, .data, .data, .data, .sentinel, .sentinel, .pinned], laidTests := true, laidLooks := .later }
def LinkReadsCardSaid : Prop := Claim7.holds Tryz.pinned (.plain (OpenSpec.ofChange linkReadsSpec)) linkReadsCard

/-- THE TIED CARD OF 'outpostlaw17.LinkPlain'. -/
def linkPlainCard : Claim7 := { stood := { row := linkPlainRow, standIns := [], harness := (true, "2b4133617469edf845c537035e13566422e0f5a134ecbbc85da2ffce2a2d3ec6"), looks := true }, kinds := [], alts := [], laidByText := true, laidKinds := [.data, .data, .data, .data, .sentinel, .sentinel, .pinned], laidTests := true, laidLooks := .later }
def LinkPlainCardSaid : Prop := Claim7.holds Tryz.pinned (.plain (OpenSpec.ofChange linkPlainSpec)) linkPlainCard

/-- THE SECOND FORM's CARD OF 'outpostlaw17.LinkWrites'. -/
def linkWritesUptoCard : Claim7 := { stood := { row := linkWritesUptoRow, standIns := [], harness := (true, "2b4133617469edf845c537035e13566422e0f5a134ecbbc85da2ffce2a2d3ec6"), looks := true }, kinds := [], alts := [], laidByText := true, laidKinds := [.data, .data, .data, .data, .sentinel, .sentinel, .pinned], laidTests := true, laidLooks := .later }
def LinkWritesUptoCardSaid : Prop := Claim7.holds Tryz.pinned (.plain (OpenSpec.upto linkWritesSpec)) linkWritesUptoCard

/-- THE SECOND FORM's CARD OF 'outpostlaw17.LinkReads'. -/
def linkReadsUptoCard : Claim7 := { stood := { row := linkReadsUptoRow, standIns := [], harness := (true, "2b4133617469edf845c537035e13566422e0f5a134ecbbc85da2ffce2a2d3ec6"), looks := true }, kinds := [], alts := [], laidByText := true, laidKinds := [.data, .data, .data, .data, .sentinel, .sentinel, .pinned], laidTests := true, laidLooks := .later }
def LinkReadsUptoCardSaid : Prop := Claim7.holds Tryz.pinned (.plain (OpenSpec.upto linkReadsSpec)) linkReadsUptoCard

/-- THE SECOND FORM's CARD OF 'outpostlaw17.LinkPlain'. -/
def linkPlainUptoCard : Claim7 := { stood := { row := linkPlainUptoRow, standIns := [], harness := (true, "2b4133617469edf845c537035e13566422e0f5a134ecbbc85da2ffce2a2d3ec6"), looks := true }, kinds := [], alts := [], laidByText := true, laidKinds := [.data, .data, .data, .data, .sentinel, .sentinel, .pinned], laidTests := true, laidLooks := .later }
def LinkPlainUptoCardSaid : Prop := Claim7.holds Tryz.pinned (.plain (OpenSpec.upto linkPlainSpec)) linkPlainUptoCard
end Rows
end Go.Proofs.YtdnbedldmkagmaaGreatDoor
