/-
  DERIVED. GIVEN WITH THE SEED: THE CARDS: each row of YtppkffebmoffnaaDoorRows.lean that lists a variable, with what it lists TIED to the program's text (the seventh form; the later family's looks); each row that meets fmt, with fmt's text TOLD by the authors' own Lean function (tested against real Go, not proved from fmt's source: count such statements apart). THE CARD IS WHAT COUNTS. Prove the row's statement (the work); the ties are given (YtppkffebmoffnaaDoorTie.lean); close each card by the builder's one call (the guide's Derived/Test/ToyasCard.lean, 'card_holds'). Laid BY PROGRAM, IN A SANDBOX (cutbox-door.mjs). By AI agents, Wed Nov 11 2026. No macro, syntax, notation, axiom, sorry.
-/
import Derived.Test.YtppkffebmoffnaaDoorRows
import GoSem.ClaimSeven
namespace Go.Proofs.YtppkffebmoffnaaDoor
namespace Rows

/-- THE TIED CARD OF 'outpostlaw14.ValueOfs'. -/
def valueOfsCard : Claim7 := { stood := { row := valueOfsRow, standIns := [], harness := (true, "812507ad738d43a00e969ee00a3db169e78defe0fca929f23410b0add2d16c3e"), looks := true }, kinds := [], alts := [], laidByText := true, laidKinds := [.data, .data, .data, .data, .pinned], laidTests := true, laidLooks := .later }
def ValueOfsCardSaid : Prop := Claim7.holds Tryd.pinned (.plain (OpenSpec.ofChange valueOfsSpec)) valueOfsCard

/-- THE TIED CARD OF 'outpostlaw14.ValueWires'. -/
def valueWiresCard : Claim7 := { stood := { row := valueWiresRow, standIns := [], harness := (true, "812507ad738d43a00e969ee00a3db169e78defe0fca929f23410b0add2d16c3e"), looks := true }, kinds := [], alts := [], laidByText := true, laidKinds := [.data, .data, .data, .data, .pinned], laidTests := true, laidLooks := .later }
def ValueWiresCardSaid : Prop := Claim7.holds Tryd.pinned (.plain (OpenSpec.ofChange valueWiresSpec)) valueWiresCard

/-- THE TIED CARD OF 'outpostlaw14.ValueFits'. -/
def valueFitsCard : Claim7 := { stood := { row := valueFitsRow, standIns := [], harness := (true, "812507ad738d43a00e969ee00a3db169e78defe0fca929f23410b0add2d16c3e"), looks := true }, kinds := [], alts := [], laidByText := true, laidKinds := [.data, .data, .data, .data, .pinned], laidTests := true, laidLooks := .later }
def ValueFitsCardSaid : Prop := Claim7.holds Tryd.pinned (.plain (OpenSpec.ofChange valueFitsSpec)) valueFitsCard

/-- THE TIED CARD OF 'outpostlaw14.ValueBack'. -/
def valueBackCard : Claim7 := { stood := { row := valueBackRow, standIns := [], harness := (true, "812507ad738d43a00e969ee00a3db169e78defe0fca929f23410b0add2d16c3e"), looks := true }, kinds := [], alts := [], laidByText := true, laidKinds := [.data, .data, .data, .data, .pinned], laidTests := true, laidLooks := .later }
def ValueBackCardSaid : Prop := Claim7.holds Tryd.pinned (.plain (OpenSpec.ofChange valueBackSpec)) valueBackCard

/-- THE TIED CARD OF 'outpostlaw14.ValueNumbers'. -/
def valueNumbersCard : Claim7 := { stood := { row := valueNumbersRow, standIns := [], harness := (true, "812507ad738d43a00e969ee00a3db169e78defe0fca929f23410b0add2d16c3e"), looks := true }, kinds := [], alts := [], laidByText := true, laidKinds := [.data, .data, .data, .data, .pinned], laidTests := true, laidLooks := .later }
def ValueNumbersCardSaid : Prop := Claim7.holds Tryd.pinned (.plain (OpenSpec.ofChange valueNumbersSpec)) valueNumbersCard

/-- THE SECOND FORM's CARD OF 'outpostlaw14.ValueOfs'. -/
def valueOfsUptoCard : Claim7 := { stood := { row := valueOfsUptoRow, standIns := [], harness := (true, "812507ad738d43a00e969ee00a3db169e78defe0fca929f23410b0add2d16c3e"), looks := true }, kinds := [], alts := [], laidByText := true, laidKinds := [.data, .data, .data, .data, .pinned], laidTests := true, laidLooks := .later }
def ValueOfsUptoCardSaid : Prop := Claim7.holds Tryd.pinned (.plain (OpenSpec.upto valueOfsSpec)) valueOfsUptoCard

/-- THE SECOND FORM's CARD OF 'outpostlaw14.ValueWires'. -/
def valueWiresUptoCard : Claim7 := { stood := { row := valueWiresUptoRow, standIns := [], harness := (true, "812507ad738d43a00e969ee00a3db169e78defe0fca929f23410b0add2d16c3e"), looks := true }, kinds := [], alts := [], laidByText := true, laidKinds := [.data, .data, .data, .data, .pinned], laidTests := true, laidLooks := .later }
def ValueWiresUptoCardSaid : Prop := Claim7.holds Tryd.pinned (.plain (OpenSpec.upto valueWiresSpec)) valueWiresUptoCard

/-- THE SECOND FORM's CARD OF 'outpostlaw14.ValueFits'. -/
def valueFitsUptoCard : Claim7 := { stood := { row := valueFitsUptoRow, standIns := [], harness := (true, "812507ad738d43a00e969ee00a3db169e78defe0fca929f23410b0add2d16c3e"), looks := true }, kinds := [], alts := [], laidByText := true, laidKinds := [.data, .data, .data, .data, .pinned], laidTests := true, laidLooks := .later }
def ValueFitsUptoCardSaid : Prop := Claim7.holds Tryd.pinned (.plain (OpenSpec.upto valueFitsSpec)) valueFitsUptoCard

/-- THE SECOND FORM's CARD OF 'outpostlaw14.ValueBack'. -/
def valueBackUptoCard : Claim7 := { stood := { row := valueBackUptoRow, standIns := [], harness := (true, "812507ad738d43a00e969ee00a3db169e78defe0fca929f23410b0add2d16c3e"), looks := true }, kinds := [], alts := [], laidByText := true, laidKinds := [.data, .data, .data, .data, .pinned], laidTests := true, laidLooks := .later }
def ValueBackUptoCardSaid : Prop := Claim7.holds Tryd.pinned (.plain (OpenSpec.upto valueBackSpec)) valueBackUptoCard

/-- THE SECOND FORM's CARD OF 'outpostlaw14.ValueNumbers'. -/
def valueNumbersUptoCard : Claim7 := { stood := { row := valueNumbersUptoRow, standIns := [], harness := (true, "812507ad738d43a00e969ee00a3db169e78defe0fca929f23410b0add2d16c3e"), looks := true }, kinds := [], alts := [], laidByText := true, laidKinds := [.data, .data, .data, .data, .pinned], laidTests := true, laidLooks := .later }
def ValueNumbersUptoCardSaid : Prop := Claim7.holds Tryd.pinned (.plain (OpenSpec.upto valueNumbersSpec)) valueNumbersUptoCard
end Rows
end Go.Proofs.YtppkffebmoffnaaDoor
