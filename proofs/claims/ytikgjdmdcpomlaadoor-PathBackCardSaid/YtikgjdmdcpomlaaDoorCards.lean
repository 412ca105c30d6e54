/-
  DERIVED. GIVEN WITH THE SEED: THE CARDS: each row of YtikgjdmdcpomlaaDoorRows.lean that lists a variable, with what it lists TIED to the program's text (the seventh form; the later family's looks); each row that meets fmt, with fmt's text TOLD by the authors' own Lean function (tested against real Go, not proved from fmt's source: count such statements apart). THE CARD IS WHAT COUNTS. Prove the row's statement (the work); the ties are given (YtikgjdmdcpomlaaDoorTie.lean); close each card by the builder's one call (the guide's Derived/Test/ToyasCard.lean, 'card_holds'). Laid BY PROGRAM, IN A SANDBOX (cutbox-door.mjs). By AI agents, Wed Nov 11 2026. No macro, syntax, notation, axiom, sorry.
-/
import Derived.Test.YtikgjdmdcpomlaaDoorRows
import GoSem.ClaimSeven
namespace Go.Proofs.YtikgjdmdcpomlaaDoor
namespace Rows

/-- THE TIED CARD OF 'outpostlaw16.PathTexts'. -/
def pathTextsCard : Claim7 := { stood := { row := pathTextsRow, standIns := [], harness := (true, "3f65a29a4ea414beef199fa3421cc18f505a99ddfdf8f30b3aaebac5c172d58a"), looks := true }, kinds := [], alts := [], laidByText := true, laidKinds := [.data, .data, .data, .data, .sentinel, .sentinel, .pinned], laidTests := true, laidLooks := .later }
def PathTextsCardSaid : Prop := Claim7.holds Tryd.pinned (.plain (OpenSpec.ofChange pathTextsSpec)) pathTextsCard

/-- THE TIED CARD OF 'outpostlaw16.PathOpts'. -/
def pathOptsCard : Claim7 := { stood := { row := pathOptsRow, standIns := [], harness := (true, "3f65a29a4ea414beef199fa3421cc18f505a99ddfdf8f30b3aaebac5c172d58a"), looks := true }, kinds := [], alts := [], laidByText := true, laidKinds := [.data, .data, .data, .data, .sentinel, .sentinel, .pinned], laidTests := true, laidLooks := .later }
def PathOptsCardSaid : Prop := Claim7.holds Tryd.pinned (.plain (OpenSpec.ofChange pathOptsSpec)) pathOptsCard

/-- THE TIED CARD OF 'outpostlaw16.PathBack'. -/
def pathBackCard : Claim7 := { stood := { row := pathBackRow, standIns := [], harness := (true, "3f65a29a4ea414beef199fa3421cc18f505a99ddfdf8f30b3aaebac5c172d58a"), looks := true }, kinds := [], alts := [], laidByText := true, laidKinds := [.data, .data, .data, .data, .sentinel, .sentinel, .pinned], laidTests := true, laidLooks := .later }
def PathBackCardSaid : Prop := Claim7.holds Tryd.pinned (.plain (OpenSpec.ofChange pathBackSpec)) pathBackCard

/-- THE TIED CARD OF 'outpostlaw16.PathConds'. -/
def pathCondsCard : Claim7 := { stood := { row := pathCondsRow, standIns := [], harness := (true, "3f65a29a4ea414beef199fa3421cc18f505a99ddfdf8f30b3aaebac5c172d58a"), looks := true }, kinds := [], alts := [], laidByText := true, laidKinds := [.data, .data, .data, .data, .sentinel, .sentinel, .pinned], laidTests := true, laidLooks := .later }
def PathCondsCardSaid : Prop := Claim7.holds Tryd.pinned (.plain (OpenSpec.ofChange pathCondsSpec)) pathCondsCard

/-- THE SECOND FORM's CARD OF 'outpostlaw16.PathTexts'. -/
def pathTextsUptoCard : Claim7 := { stood := { row := pathTextsUptoRow, standIns := [], harness := (true, "3f65a29a4ea414beef199fa3421cc18f505a99ddfdf8f30b3aaebac5c172d58a"), looks := true }, kinds := [], alts := [], laidByText := true, laidKinds := [.data, .data, .data, .data, .sentinel, .sentinel, .pinned], laidTests := true, laidLooks := .later }
def PathTextsUptoCardSaid : Prop := Claim7.holds Tryd.pinned (.plain (OpenSpec.upto pathTextsSpec)) pathTextsUptoCard

/-- THE SECOND FORM's CARD OF 'outpostlaw16.PathOpts'. -/
def pathOptsUptoCard : Claim7 := { stood := { row := pathOptsUptoRow, standIns := [], harness := (true, "3f65a29a4ea414beef199fa3421cc18f505a99ddfdf8f30b3aaebac5c172d58a"), looks := true }, kinds := [], alts := [], laidByText := true, laidKinds := [.data, .data, .data, .data, .sentinel, .sentinel, .pinned], laidTests := true, laidLooks := .later }
def PathOptsUptoCardSaid : Prop := Claim7.holds Tryd.pinned (.plain (OpenSpec.upto pathOptsSpec)) pathOptsUptoCard

/-- THE SECOND FORM's CARD OF 'outpostlaw16.PathBack'. -/
def pathBackUptoCard : Claim7 := { stood := { row := pathBackUptoRow, standIns := [], harness := (true, "3f65a29a4ea414beef199fa3421cc18f505a99ddfdf8f30b3aaebac5c172d58a"), looks := true }, kinds := [], alts := [], laidByText := true, laidKinds := [.data, .data, .data, .data, .sentinel, .sentinel, .pinned], laidTests := true, laidLooks := .later }
def PathBackUptoCardSaid : Prop := Claim7.holds Tryd.pinned (.plain (OpenSpec.upto pathBackSpec)) pathBackUptoCard

/-- THE SECOND FORM's CARD OF 'outpostlaw16.PathConds'. -/
def pathCondsUptoCard : Claim7 := { stood := { row := pathCondsUptoRow, standIns := [], harness := (true, "3f65a29a4ea414beef199fa3421cc18f505a99ddfdf8f30b3aaebac5c172d58a"), looks := true }, kinds := [], alts := [], laidByText := true, laidKinds := [.data, .data, .data, .data, .sentinel, .sentinel, .pinned], laidTests := true, laidLooks := .later }
def PathCondsUptoCardSaid : Prop := Claim7.holds Tryd.pinned (.plain (OpenSpec.upto pathCondsSpec)) pathCondsUptoCard
end Rows
end Go.Proofs.YtikgjdmdcpomlaaDoor
