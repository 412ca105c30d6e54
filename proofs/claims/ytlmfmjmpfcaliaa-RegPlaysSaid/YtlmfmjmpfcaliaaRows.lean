/-
  No cell of these rows narrows 'for every input' (looked for: loops, veiled, ifaces, maps, wideKeys, modest, calm, conditions, laid).
  DERIVED. THE GIVEN ROWS OF THIS SEAT. 4 by the template 'for every input the law returns true; each argument reads behind the call as it read before'; 0 by the template 'total and deterministic' (their statements: YtlmfmjmpfcaliaaTotals.lean).
  GIVEN WITH THE SEED: the statements are not yours to turn. If you find one false, say at which input.
  Laid BY PROGRAM, IN A SANDBOX (cutbox-rows.mjs): the forced cells as the released guide's own fill.sh prints them over the translation 11e5a4d338132ee0… (all of the seat's roots in one cut). By AI agents, Wed Nov 11 2026. No macro, syntax, notation, axiom, sorry.
-/
import Derived.Test.YtlmfmjmpfcaliaaChecked
import GoSem.Claim
import GoSem.ClaimJoined
import GoSem.ClaimMapViews
import Derived.JoinedTies
import Derived.KernelRfl
namespace Go.Proofs.Ytlmfmjmpfcaliaa
/- THE CELL 'sum', in the pinned program and in every row, IS THE sha256 OF THE DUMP (.gsa) THAT YtlmfmjmpfcaliaaProg.lean LOADS. Nothing in Lean hashes anything: it is a label: what it is worth is what the hold of that sum in a sandbox is worth. -/
noncomputable def Try.pinned : Pinned := { name := "ytlmfmjmpfcaliaa", sum := "11e5a4d338132ee083449add0138613a18ca7324344128e3a0d8fa459174b20d", checked := Try.checked }
namespace Rows
def none {H : Type} : Left H := { results := [], args := [] }

/-- 'outpostlaw24.RegPlays': WHATEVER THE INPUT: true; the input reads as it did. -/
def regPlaysSpec : ChangeSpec := { name := "regPlays", fn := fun _ => fun
  | [d] => { results := [.lit (.bool true)], args := [d] }
  | _ => none }
def regPlaysRow : OpenClaim := { program := "ytlmfmjmpfcaliaa", sum := "11e5a4d338132ee083449add0138613a18ca7324344128e3a0d8fa459174b20d", func := "outpost/outpostlaw24.RegPlays", spec := "regPlays", apart := false }
def RegPlaysSaid : Prop := regPlaysRow.holds Try.pinned (OpenSpec.ofChange regPlaysSpec)

/-- ITS FALSE NEIGHBOUR: 'it returns false'. Refute it at one input. -/
def regPlaysWrong : ChangeSpec := { name := "regPlays", fn := fun _ => fun
  | [d] => { results := [.lit (.bool false)], args := [d] }
  | _ => none }
def RegPlaysWrongFalsely : Prop := regPlaysRow.holds Try.pinned (OpenSpec.ofChange regPlaysWrong)

/-- 'outpostlaw24.RegRenews': WHATEVER THE INPUT: true; the input reads as it did. -/
def regRenewsSpec : ChangeSpec := { name := "regRenews", fn := fun _ => fun
  | [d1, d2, d3, d4] => { results := [.lit (.bool true)], args := [d1, d2, d3, d4] }
  | _ => none }
def regRenewsRow : OpenClaim := { program := "ytlmfmjmpfcaliaa", sum := "11e5a4d338132ee083449add0138613a18ca7324344128e3a0d8fa459174b20d", func := "outpost/outpostlaw24.RegRenews", spec := "regRenews", apart := false }
def RegRenewsSaid : Prop := regRenewsRow.holds Try.pinned (OpenSpec.ofChange regRenewsSpec)

/-- ITS FALSE NEIGHBOUR: 'it returns false'. Refute it at one input. -/
def regRenewsWrong : ChangeSpec := { name := "regRenews", fn := fun _ => fun
  | [d1, d2, d3, d4] => { results := [.lit (.bool false)], args := [d1, d2, d3, d4] }
  | _ => none }
def RegRenewsWrongFalsely : Prop := regRenewsRow.holds Try.pinned (OpenSpec.ofChange regRenewsWrong)

/-- 'outpostlaw24.RegAgain': WHATEVER THE INPUT: true; the input reads as it did. -/
def regAgainSpec : ChangeSpec := { name := "regAgain", fn := fun _ => fun
  | [d1, d2] => { results := [.lit (.bool true)], args := [d1, d2] }
  | _ => none }
def regAgainRow : OpenClaim := { program := "ytlmfmjmpfcaliaa", sum := "11e5a4d338132ee083449add0138613a18ca7324344128e3a0d8fa459174b20d", func := "outpost/outpostlaw24.RegAgain", spec := "regAgain", apart := false }
def RegAgainSaid : Prop := regAgainRow.holds Try.pinned (OpenSpec.ofChange regAgainSpec)

/-- ITS FALSE NEIGHBOUR: 'it returns false'. Refute it at one input. -/
def regAgainWrong : ChangeSpec := { name := "regAgain", fn := fun _ => fun
  | [d1, d2] => { results := [.lit (.bool false)], args := [d1, d2] }
  | _ => none }
def RegAgainWrongFalsely : Prop := regAgainRow.holds Try.pinned (OpenSpec.ofChange regAgainWrong)

/-- 'outpostlaw24.RegWaits': WHATEVER THE INPUT: true; the input reads as it did. -/
def regWaitsSpec : ChangeSpec := { name := "regWaits", fn := fun _ => fun
  | [d] => { results := [.lit (.bool true)], args := [d] }
  | _ => none }
def regWaitsRow : OpenClaim := { program := "ytlmfmjmpfcaliaa", sum := "11e5a4d338132ee083449add0138613a18ca7324344128e3a0d8fa459174b20d", func := "outpost/outpostlaw24.RegWaits", spec := "regWaits", apart := false }
def RegWaitsSaid : Prop := regWaitsRow.holds Try.pinned (OpenSpec.ofChange regWaitsSpec)

/-- ITS FALSE NEIGHBOUR: 'it returns false'. Refute it at one input. -/
def regWaitsWrong : ChangeSpec := { name := "regWaits", fn := fun _ => fun
  | [d] => { results := [.lit (.bool false)], args := [d] }
  | _ => none }
def RegWaitsWrongFalsely : Prop := regWaitsRow.holds Try.pinned (OpenSpec.ofChange regWaitsWrong)

/- THE SECOND FORM. 'bulk': how many values and letters a reading holds, each counted each time it is reached (what is shared counts as often as it is met; a slice's spare places count too). A statement '..UptoSaid' is the law's where the arguments, and the package variables that the reading takes, are together of bulk at most 1048576: NARROWER than '..Said'. Prove '..Said' where nothing that the law and all that it calls make is longer than what came in: it says more and counts as full. Else prove '..UptoSaid'. A law counts once. -/
mutual
def uptoBulk {H : Type} : DataW H → Nat
  | .lit (.string bytes) => bytes.length + 1
  | .lit _ => 1
  | .nil => 1
  | .ptr d => uptoBulk d + 1
  | .slice elems spare => uptoBulkAll elems + uptoBulkAll spare + 1
  | .agg parts => uptoBulkAll parts + 1
  | .iface _ d => uptoBulk d + 1
  | .map entries => uptoBulkEntries entries + 1
  | .held _ => 1
def uptoBulkAll {H : Type} : List (DataW H) → Nat
  | [] => 0
  | d :: r => uptoBulk d + uptoBulkAll r
def uptoBulkEntries {H : Type} : List (Lit × DataW H) → Nat
  | [] => 0
  | x :: r => uptoBulkEntry x + uptoBulkEntries r
def uptoBulkEntry {H : Type} : Lit × DataW H → Nat
  | (.string bytes, d) => bytes.length + uptoBulk d + 1
  | (_, d) => uptoBulk d + 1
 end
def uptoSmall : (H : Type) → List (DataW H) → Bool := fun _ ds => decide (uptoBulkAll ds ≤ 1048576)
def OpenSpec.upto (s : _root_.Go.ChangeSpec) : _root_.Go.OpenSpec := { _root_.Go.OpenSpec.ofChange s with cond := some uptoSmall }

/-- 'outpostlaw24.RegPlays', WHERE WHAT IT READS IS OF BULK AT MOST 1048576: true; the input reads as it did. -/
def regPlaysUptoRow : OpenClaim := { program := "ytlmfmjmpfcaliaa", sum := "11e5a4d338132ee083449add0138613a18ca7324344128e3a0d8fa459174b20d", func := "outpost/outpostlaw24.RegPlays", spec := "regPlays", apart := false, narrowed := true }
def RegPlaysUptoSaid : Prop := regPlaysUptoRow.holds Try.pinned (OpenSpec.upto regPlaysSpec)

/-- 'outpostlaw24.RegRenews', WHERE WHAT IT READS IS OF BULK AT MOST 1048576: true; the input reads as it did. -/
def regRenewsUptoRow : OpenClaim := { program := "ytlmfmjmpfcaliaa", sum := "11e5a4d338132ee083449add0138613a18ca7324344128e3a0d8fa459174b20d", func := "outpost/outpostlaw24.RegRenews", spec := "regRenews", apart := false, narrowed := true }
def RegRenewsUptoSaid : Prop := regRenewsUptoRow.holds Try.pinned (OpenSpec.upto regRenewsSpec)

/-- 'outpostlaw24.RegAgain', WHERE WHAT IT READS IS OF BULK AT MOST 1048576: true; the input reads as it did. -/
def regAgainUptoRow : OpenClaim := { program := "ytlmfmjmpfcaliaa", sum := "11e5a4d338132ee083449add0138613a18ca7324344128e3a0d8fa459174b20d", func := "outpost/outpostlaw24.RegAgain", spec := "regAgain", apart := false, narrowed := true }
def RegAgainUptoSaid : Prop := regAgainUptoRow.holds Try.pinned (OpenSpec.upto regAgainSpec)

/-- 'outpostlaw24.RegWaits', WHERE WHAT IT READS IS OF BULK AT MOST 1048576: true; the input reads as it did. -/
def regWaitsUptoRow : OpenClaim := { program := "ytlmfmjmpfcaliaa", sum := "11e5a4d338132ee083449add0138613a18ca7324344128e3a0d8fa459174b20d", func := "outpost/outpostlaw24.RegWaits", spec := "regWaits", apart := false, narrowed := true }
def RegWaitsUptoSaid : Prop := regWaitsUptoRow.holds Try.pinned (OpenSpec.upto regWaitsSpec)

end Rows
end Go.Proofs.Ytlmfmjmpfcaliaa
