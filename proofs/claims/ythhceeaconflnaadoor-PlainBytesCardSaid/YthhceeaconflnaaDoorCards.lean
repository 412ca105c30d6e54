/-
  DERIVED. GIVEN WITH THE SEED: THE CARDS: each row of YthhceeaconflnaaDoorRows.lean that lists a variable, with what it lists TIED to the program's text (the seventh form; the later family's looks); each row that meets fmt, with fmt's text TOLD by the authors' own Lean function (tested against real Go, not proved from fmt's source: count such statements apart). THE CARD IS WHAT COUNTS. Prove the row's statement (the work); the ties are given (YthhceeaconflnaaDoorTie.lean); close each card by the builder's one call (the guide's Derived/Test/ToyasCard.lean, 'card_holds'). Laid BY PROGRAM, IN A SANDBOX (cutbox-door.mjs). By AI agents, Wed Nov 11 2026. No macro, syntax, notation, axiom, sorry.
-/
import Derived.Test.YthhceeaconflnaaDoorRows
import GoSem.ClaimSeven
namespace Go.Proofs.YthhceeaconflnaaDoor
namespace Rows

/-- THE TIED CARD OF 'outpostlaw13.PlainWrites'. -/
def plainWritesCard : Claim7 := { stood := { row := plainWritesRow, standIns := [], harness := (true, "e6c63e0692f63d52784a4e814f6b9245a9206afa8816cde50ace019dc818a630"), looks := true }, kinds := [], alts := [], laidByText := true, laidKinds := [.data, .data, .data, .data, .sentinel, .sentinel, .pinned], laidTests := true, laidLooks := .later }
def PlainWritesCardSaid : Prop := Claim7.holds Tryd.pinned (.plain (OpenSpec.ofChange plainWritesSpec)) plainWritesCard

/-- THE TIED CARD OF 'outpostlaw13.PlainReads'. -/
def plainReadsCard : Claim7 := { stood := { row := plainReadsRow, standIns := [], harness := (true, "e6c63e0692f63d52784a4e814f6b9245a9206afa8816cde50ace019dc818a630"), looks := true }, kinds := [], alts := [], laidByText := true, laidKinds := [.data, .data, .data, .data, .sentinel, .sentinel, .pinned], laidTests := true, laidLooks := .later }
def PlainReadsCardSaid : Prop := Claim7.holds Tryd.pinned (.plain (OpenSpec.ofChange plainReadsSpec)) plainReadsCard

/-- THE TIED CARD OF 'outpostlaw13.PlainRunes'. -/
def plainRunesCard : Claim7 := { stood := { row := plainRunesRow, standIns := [], harness := (true, "e6c63e0692f63d52784a4e814f6b9245a9206afa8816cde50ace019dc818a630"), looks := true }, kinds := [], alts := [], laidByText := true, laidKinds := [.data, .data, .data, .data, .sentinel, .sentinel, .pinned], laidTests := true, laidLooks := .later }
def PlainRunesCardSaid : Prop := Claim7.holds Tryd.pinned (.plain (OpenSpec.ofChange plainRunesSpec)) plainRunesCard

/-- THE TIED CARD OF 'outpostlaw13.PlainBack'. -/
def plainBackCard : Claim7 := { stood := { row := plainBackRow, standIns := [], harness := (true, "e6c63e0692f63d52784a4e814f6b9245a9206afa8816cde50ace019dc818a630"), looks := true }, kinds := [], alts := [], laidByText := true, laidKinds := [.data, .data, .data, .data, .sentinel, .sentinel, .pinned], laidTests := true, laidLooks := .later }
def PlainBackCardSaid : Prop := Claim7.holds Tryd.pinned (.plain (OpenSpec.ofChange plainBackSpec)) plainBackCard

/-- THE TIED CARD OF 'outpostlaw13.PlainBytes'. -/
def plainBytesCard : Claim7 := { stood := { row := plainBytesRow, standIns := [], harness := (true, "e6c63e0692f63d52784a4e814f6b9245a9206afa8816cde50ace019dc818a630"), looks := true }, kinds := [], alts := [], laidByText := true, laidKinds := [.data, .data, .data, .data, .sentinel, .sentinel, .pinned], laidTests := true, laidLooks := .later }
def PlainBytesCardSaid : Prop := Claim7.holds Tryd.pinned (.plain (OpenSpec.ofChange plainBytesSpec)) plainBytesCard

/-- THE TIED CARD OF 'outpostlaw13.PlainNumbers'. -/
def plainNumbersCard : Claim7 := { stood := { row := plainNumbersRow, standIns := [], harness := (true, "e6c63e0692f63d52784a4e814f6b9245a9206afa8816cde50ace019dc818a630"), looks := true }, kinds := [], alts := [], laidByText := true, laidKinds := [.data, .data, .data, .data, .sentinel, .sentinel, .pinned], laidTests := true, laidLooks := .later }
def PlainNumbersCardSaid : Prop := Claim7.holds Tryd.pinned (.plain (OpenSpec.ofChange plainNumbersSpec)) plainNumbersCard

/-- THE SECOND FORM's CARD OF 'outpostlaw13.PlainWrites'. -/
def plainWritesUptoCard : Claim7 := { stood := { row := plainWritesUptoRow, standIns := [], harness := (true, "e6c63e0692f63d52784a4e814f6b9245a9206afa8816cde50ace019dc818a630"), looks := true }, kinds := [], alts := [], laidByText := true, laidKinds := [.data, .data, .data, .data, .sentinel, .sentinel, .pinned], laidTests := true, laidLooks := .later }
def PlainWritesUptoCardSaid : Prop := Claim7.holds Tryd.pinned (.plain (OpenSpec.upto plainWritesSpec)) plainWritesUptoCard

/-- THE SECOND FORM's CARD OF 'outpostlaw13.PlainReads'. -/
def plainReadsUptoCard : Claim7 := { stood := { row := plainReadsUptoRow, standIns := [], harness := (true, "e6c63e0692f63d52784a4e814f6b9245a9206afa8816cde50ace019dc818a630"), looks := true }, kinds := [], alts := [], laidByText := true, laidKinds := [.data, .data, .data, .data, .sentinel, .sentinel, .pinned], laidTests := true, laidLooks := .later }
def PlainReadsUptoCardSaid : Prop := Claim7.holds Tryd.pinned (.plain (OpenSpec.upto plainReadsSpec)) plainReadsUptoCard

/-- THE SECOND FORM's CARD OF 'outpostlaw13.PlainRunes'. -/
def plainRunesUptoCard : Claim7 := { stood := { row := plainRunesUptoRow, standIns := [], harness := (true, "e6c63e0692f63d52784a4e814f6b9245a9206afa8816cde50ace019dc818a630"), looks := true }, kinds := [], alts := [], laidByText := true, laidKinds := [.data, .data, .data, .data, .sentinel, .sentinel, .pinned], laidTests := true, laidLooks := .later }
def PlainRunesUptoCardSaid : Prop := Claim7.holds Tryd.pinned (.plain (OpenSpec.upto plainRunesSpec)) plainRunesUptoCard

/-- THE SECOND FORM's CARD OF 'outpostlaw13.PlainBack'. -/
def plainBackUptoCard : Claim7 := { stood := { row := plainBackUptoRow, standIns := [], harness := (true, "e6c63e0692f63d52784a4e814f6b9245a9206afa8816cde50ace019dc818a630"), looks := true }, kinds := [], alts := [], laidByText := true, laidKinds := [.data, .data, .data, .data, .sentinel, .sentinel, .pinned], laidTests := true, laidLooks := .later }
def PlainBackUptoCardSaid : Prop := Claim7.holds Tryd.pinned (.plain (OpenSpec.upto plainBackSpec)) plainBackUptoCard

/-- THE SECOND FORM's CARD OF 'outpostlaw13.PlainBytes'. -/
def plainBytesUptoCard : Claim7 := { stood := { row := plainBytesUptoRow, standIns := [], harness := (true, "e6c63e0692f63d52784a4e814f6b9245a9206afa8816cde50ace019dc818a630"), looks := true }, kinds := [], alts := [], laidByText := true, laidKinds := [.data, .data, .data, .data, .sentinel, .sentinel, .pinned], laidTests := true, laidLooks := .later }
def PlainBytesUptoCardSaid : Prop := Claim7.holds Tryd.pinned (.plain (OpenSpec.upto plainBytesSpec)) plainBytesUptoCard

/-- THE SECOND FORM's CARD OF 'outpostlaw13.PlainNumbers'. -/
def plainNumbersUptoCard : Claim7 := { stood := { row := plainNumbersUptoRow, standIns := [], harness := (true, "e6c63e0692f63d52784a4e814f6b9245a9206afa8816cde50ace019dc818a630"), looks := true }, kinds := [], alts := [], laidByText := true, laidKinds := [.data, .data, .data, .data, .sentinel, .sentinel, .pinned], laidTests := true, laidLooks := .later }
def PlainNumbersUptoCardSaid : Prop := Claim7.holds Tryd.pinned (.plain (OpenSpec.upto plainNumbersSpec)) plainNumbersUptoCard
end Rows
end Go.Proofs.YthhceeaconflnaaDoor
