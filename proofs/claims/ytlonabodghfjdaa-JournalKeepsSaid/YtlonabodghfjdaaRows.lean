/-
  No cell of these rows narrows 'for every input' (looked for: loops, veiled, ifaces, maps, wideKeys, modest, calm, conditions, laid).
  DERIVED. THE GIVEN ROWS OF THIS SEAT. 4 by the template 'for every input the law returns true; each argument reads behind the call as it read before'; 0 by the template 'total and deterministic' (their statements: YtlonabodghfjdaaTotals.lean).
  GIVEN WITH THE SEED: the statements are not yours to turn. If you find one false, say at which input.
  Laid BY PROGRAM, IN A SANDBOX (cutbox-rows.mjs): the forced cells as the released guide's own fill.sh prints them over the translation 367551f93e101b6a… (all of the seat's roots in one cut). By AI agents, Wed Nov 11 2026. No macro, syntax, notation, axiom, sorry.
-/
import Derived.Test.YtlonabodghfjdaaChecked
import GoSem.Claim
import GoSem.ClaimJoined
import GoSem.ClaimMapViews
import Derived.JoinedTies
import Derived.KernelRfl
namespace Go.Proofs.Ytlonabodghfjdaa
/- THE CELL 'sum', in the pinned program and in every row, IS THE sha256 OF THE DUMP (.gsa) THAT YtlonabodghfjdaaProg.lean LOADS. Nothing in Lean hashes anything: it is a label: what it is worth is what the hold of that sum in a sandbox is worth. -/
noncomputable def Try.pinned : Pinned := { name := "ytlonabodghfjdaa", sum := "367551f93e101b6ae31abbe7e9a7fe5ea7acd71384c51c0839063fab688c169f", checked := Try.checked }
namespace Rows
def none {H : Type} : Left H := { results := [], args := [] }

/-- 'outpostlaw05.JournalMoves': WHATEVER THE INPUT: true; the input reads as it did. -/
def journalMovesSpec : ChangeSpec := { name := "journalMoves", fn := fun _ => fun
  | [d1, d2] => { results := [.lit (.bool true)], args := [d1, d2] }
  | _ => none }
def journalMovesRow : OpenClaim := { program := "ytlonabodghfjdaa", sum := "367551f93e101b6ae31abbe7e9a7fe5ea7acd71384c51c0839063fab688c169f", func := "outpost/outpostlaw05.JournalMoves", spec := "journalMoves", inPlace := ["internal/bytealg.MakeNoZero", "maps.clone"], unfollowed := true, recurses := true, apart := false }
def JournalMovesSaid : Prop := journalMovesRow.holds Try.pinned (OpenSpec.ofChange journalMovesSpec)

/-- ITS FALSE NEIGHBOUR: 'it returns false'. Refute it at one input. -/
def journalMovesWrong : ChangeSpec := { name := "journalMoves", fn := fun _ => fun
  | [d1, d2] => { results := [.lit (.bool false)], args := [d1, d2] }
  | _ => none }
def JournalMovesWrongFalsely : Prop := journalMovesRow.holds Try.pinned (OpenSpec.ofChange journalMovesWrong)

/-- 'outpostlaw05.JournalFull': WHATEVER THE INPUT: true; the input reads as it did. -/
def journalFullSpec : ChangeSpec := { name := "journalFull", fn := fun _ => fun
  | [d1, d2, d3] => { results := [.lit (.bool true)], args := [d1, d2, d3] }
  | _ => none }
def journalFullRow : OpenClaim := { program := "ytlonabodghfjdaa", sum := "367551f93e101b6ae31abbe7e9a7fe5ea7acd71384c51c0839063fab688c169f", func := "outpost/outpostlaw05.JournalFull", spec := "journalFull", inPlace := ["internal/bytealg.MakeNoZero", "maps.clone"], unfollowed := true, recurses := true, apart := false }
def JournalFullSaid : Prop := journalFullRow.holds Try.pinned (OpenSpec.ofChange journalFullSpec)

/-- ITS FALSE NEIGHBOUR: 'it returns false'. Refute it at one input. -/
def journalFullWrong : ChangeSpec := { name := "journalFull", fn := fun _ => fun
  | [d1, d2, d3] => { results := [.lit (.bool false)], args := [d1, d2, d3] }
  | _ => none }
def JournalFullWrongFalsely : Prop := journalFullRow.holds Try.pinned (OpenSpec.ofChange journalFullWrong)

/-- 'outpostlaw05.JournalKeeps': WHATEVER THE INPUT: true; the input reads as it did. -/
def journalKeepsSpec : ChangeSpec := { name := "journalKeeps", fn := fun _ => fun
  | [d1, d2, d3, d4] => { results := [.lit (.bool true)], args := [d1, d2, d3, d4] }
  | _ => none }
def journalKeepsRow : OpenClaim := { program := "ytlonabodghfjdaa", sum := "367551f93e101b6ae31abbe7e9a7fe5ea7acd71384c51c0839063fab688c169f", func := "outpost/outpostlaw05.JournalKeeps", spec := "journalKeeps", inPlace := ["internal/bytealg.MakeNoZero", "maps.clone"], unfollowed := true, recurses := true, apart := false }
def JournalKeepsSaid : Prop := journalKeepsRow.holds Try.pinned (OpenSpec.ofChange journalKeepsSpec)

/-- ITS FALSE NEIGHBOUR: 'it returns false'. Refute it at one input. -/
def journalKeepsWrong : ChangeSpec := { name := "journalKeeps", fn := fun _ => fun
  | [d1, d2, d3, d4] => { results := [.lit (.bool false)], args := [d1, d2, d3, d4] }
  | _ => none }
def JournalKeepsWrongFalsely : Prop := journalKeepsRow.holds Try.pinned (OpenSpec.ofChange journalKeepsWrong)

/-- 'outpostlaw05.JournalTwice': WHATEVER THE INPUT: true; the input reads as it did. -/
def journalTwiceSpec : ChangeSpec := { name := "journalTwice", fn := fun _ => fun
  | [d1, d2] => { results := [.lit (.bool true)], args := [d1, d2] }
  | _ => none }
def journalTwiceRow : OpenClaim := { program := "ytlonabodghfjdaa", sum := "367551f93e101b6ae31abbe7e9a7fe5ea7acd71384c51c0839063fab688c169f", func := "outpost/outpostlaw05.JournalTwice", spec := "journalTwice", inPlace := ["internal/bytealg.MakeNoZero", "maps.clone"], unfollowed := true, recurses := true, apart := false }
def JournalTwiceSaid : Prop := journalTwiceRow.holds Try.pinned (OpenSpec.ofChange journalTwiceSpec)

/-- ITS FALSE NEIGHBOUR: 'it returns false'. Refute it at one input. -/
def journalTwiceWrong : ChangeSpec := { name := "journalTwice", fn := fun _ => fun
  | [d1, d2] => { results := [.lit (.bool false)], args := [d1, d2] }
  | _ => none }
def JournalTwiceWrongFalsely : Prop := journalTwiceRow.holds Try.pinned (OpenSpec.ofChange journalTwiceWrong)

/- THE SECOND FORM. 'bulk': how many values and letters a reading holds, each counted each time it is reached (what is shared counts as often as it is met; a slice's spare places count too). A statement '..UptoSaid' is the law's where the arguments, and the package variables that the reading takes, are together of bulk at most 1048576: NARROWER than '..Said'. Prove '..Said' where nothing that the law and all that it calls make is longer than what came in: it says more and counts as full. Else prove '..UptoSaid'. A law counts once. -/
mutual
def uptoBulk {H : Type} : DataW H → Nat
  | .lit (.string bytes) => bytes.length + 1
  | .lit _ => 1
  | .nil => 1
  | .ptr d => uptoBulk d + 1
  | .slice elems spare => uptoBulkAll elems + uptoBulkAll spare + 1
  | .agg parts => uptoBulkAll parts + 1
  | .iface _ d => uptoBulk d + 1
  | .map entries => uptoBulkEntries entries + 1
  | .held _ => 1
def uptoBulkAll {H : Type} : List (DataW H) → Nat
  | [] => 0
  | d :: r => uptoBulk d + uptoBulkAll r
def uptoBulkEntries {H : Type} : List (Lit × DataW H) → Nat
  | [] => 0
  | x :: r => uptoBulkEntry x + uptoBulkEntries r
def uptoBulkEntry {H : Type} : Lit × DataW H → Nat
  | (.string bytes, d) => bytes.length + uptoBulk d + 1
  | (_, d) => uptoBulk d + 1
 end
def uptoSmall : (H : Type) → List (DataW H) → Bool := fun _ ds => decide (uptoBulkAll ds ≤ 1048576)
def OpenSpec.upto (s : _root_.Go.ChangeSpec) : _root_.Go.OpenSpec := { _root_.Go.OpenSpec.ofChange s with cond := some uptoSmall }

/-- 'outpostlaw05.JournalMoves', WHERE WHAT IT READS IS OF BULK AT MOST 1048576: true; the input reads as it did. -/
def journalMovesUptoRow : OpenClaim := { program := "ytlonabodghfjdaa", sum := "367551f93e101b6ae31abbe7e9a7fe5ea7acd71384c51c0839063fab688c169f", func := "outpost/outpostlaw05.JournalMoves", spec := "journalMoves", inPlace := ["internal/bytealg.MakeNoZero", "maps.clone"], unfollowed := true, recurses := true, apart := false, narrowed := true }
def JournalMovesUptoSaid : Prop := journalMovesUptoRow.holds Try.pinned (OpenSpec.upto journalMovesSpec)

/-- 'outpostlaw05.JournalFull', WHERE WHAT IT READS IS OF BULK AT MOST 1048576: true; the input reads as it did. -/
def journalFullUptoRow : OpenClaim := { program := "ytlonabodghfjdaa", sum := "367551f93e101b6ae31abbe7e9a7fe5ea7acd71384c51c0839063fab688c169f", func := "outpost/outpostlaw05.JournalFull", spec := "journalFull", inPlace := ["internal/bytealg.MakeNoZero", "maps.clone"], unfollowed := true, recurses := true, apart := false, narrowed := true }
def JournalFullUptoSaid : Prop := journalFullUptoRow.holds Try.pinned (OpenSpec.upto journalFullSpec)

/-- 'outpostlaw05.JournalKeeps', WHERE WHAT IT READS IS OF BULK AT MOST 1048576: true; the input reads as it did. -/
def journalKeepsUptoRow : OpenClaim := { program := "ytlonabodghfjdaa", sum := "367551f93e101b6ae31abbe7e9a7fe5ea7acd71384c51c0839063fab688c169f", func := "outpost/outpostlaw05.JournalKeeps", spec := "journalKeeps", inPlace := ["internal/bytealg.MakeNoZero", "maps.clone"], unfollowed := true, recurses := true, apart := false, narrowed := true }
def JournalKeepsUptoSaid : Prop := journalKeepsUptoRow.holds Try.pinned (OpenSpec.upto journalKeepsSpec)

/-- 'outpostlaw05.JournalTwice', WHERE WHAT IT READS IS OF BULK AT MOST 1048576: true; the input reads as it did. -/
def journalTwiceUptoRow : OpenClaim := { program := "ytlonabodghfjdaa", sum := "367551f93e101b6ae31abbe7e9a7fe5ea7acd71384c51c0839063fab688c169f", func := "outpost/outpostlaw05.JournalTwice", spec := "journalTwice", inPlace := ["internal/bytealg.MakeNoZero", "maps.clone"], unfollowed := true, recurses := true, apart := false, narrowed := true }
def JournalTwiceUptoSaid : Prop := journalTwiceUptoRow.holds Try.pinned (OpenSpec.upto journalTwiceSpec)

end Rows
end Go.Proofs.Ytlonabodghfjdaa
