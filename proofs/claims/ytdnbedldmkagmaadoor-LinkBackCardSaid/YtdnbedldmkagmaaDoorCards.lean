/-
  DERIVED. GIVEN WITH THE SEED: THE CARDS: each row of YtdnbedldmkagmaaDoorRows.lean that lists a variable, with what it lists TIED to the program's text (the seventh form; the later family's looks); each row that meets fmt, with fmt's text TOLD by the authors' own Lean function (tested against real Go, not proved from fmt's source: count such statements apart). THE CARD IS WHAT COUNTS. Prove the row's statement (the work); the ties are given (YtdnbedldmkagmaaDoorTie.lean); close each card by the builder's one call (the guide's Derived/Test/ToyasCard.lean, 'card_holds'). Laid BY PROGRAM, IN A SANDBOX (cutbox-door.mjs). By AI agents, Wed Nov 11 2026. No macro, syntax, notation, axiom, sorry.
-/
import Derived.Test.YtdnbedldmkagmaaDoorRows
import GoSem.ClaimSeven
namespace Go.Proofs.YtdnbedldmkagmaaDoor
namespace Rows

/-- THE TIED CARD OF 'outpostlaw17.LinkBack'. -/
def linkBackCard : Claim7 := { stood := { row := linkBackRow, standIns := [], harness := (true, "43755b1e9a74da7a23114f47c11db916586f6639de07c21317c723a885208b45"), looks := true }, kinds := [], alts := [], laidByText := true, laidKinds := [.data, .data, .data, .data, .sentinel, .sentinel, .pinned], laidTests := true, laidLooks := .later }
def LinkBackCardSaid : Prop := Claim7.holds Tryd.pinned (.plain (OpenSpec.ofChange linkBackSpec)) linkBackCard

/-- THE TIED CARD OF 'outpostlaw17.LinkJoins'. -/
def linkJoinsCard : Claim7 := { stood := { row := linkJoinsRow, standIns := [], harness := (true, "43755b1e9a74da7a23114f47c11db916586f6639de07c21317c723a885208b45"), looks := true }, kinds := [], alts := [], laidByText := true, laidKinds := [.data, .data, .data, .data, .sentinel, .sentinel, .pinned], laidTests := true, laidLooks := .later }
def LinkJoinsCardSaid : Prop := Claim7.holds Tryd.pinned (.plain (OpenSpec.ofChange linkJoinsSpec)) linkJoinsCard

/-- THE SECOND FORM's CARD OF 'outpostlaw17.LinkBack'. -/
def linkBackUptoCard : Claim7 := { stood := { row := linkBackUptoRow, standIns := [], harness := (true, "43755b1e9a74da7a23114f47c11db916586f6639de07c21317c723a885208b45"), looks := true }, kinds := [], alts := [], laidByText := true, laidKinds := [.data, .data, .data, .data, .sentinel, .sentinel, .pinned], laidTests := true, laidLooks := .later }
def LinkBackUptoCardSaid : Prop := Claim7.holds Tryd.pinned (.plain (OpenSpec.upto linkBackSpec)) linkBackUptoCard

/-- THE SECOND FORM's CARD OF 'outpostlaw17.LinkJoins'. -/
def linkJoinsUptoCard : Claim7 := { stood := { row := linkJoinsUptoRow, standIns := [], harness := (true, "43755b1e9a74da7a23114f47c11db916586f6639de07c21317c723a885208b45"), looks := true }, kinds := [], alts := [], laidByText := true, laidKinds := [.data, .data, .data, .data, .sentinel, .sentinel, .pinned], laidTests := true, laidLooks := .later }
def LinkJoinsUptoCardSaid : Prop := Claim7.holds Tryd.pinned (.plain (OpenSpec.upto linkJoinsSpec)) linkJoinsUptoCard
end Rows
end Go.Proofs.YtdnbedldmkagmaaDoor
