/- PlainNumbers, in the loaded program: the walk.
   By the session's AI agent. -/
import Derived.Test.YthhceeaconflnaaDoorL6
import Derived.Test.YthhceeaconflnaaDoorTb
import Derived.Test.YthhceeaconflnaaDoorAm22
namespace Go.Am.YthhceeaconflnaaDoor
open Go.RowKit (Below)
theorem gl_ok (N0 : Nat) (w0 : World) : GlobOk gl N0 w0 := fun n cs h => by simp [gl, glob] at h
theorem in64_of {n : Int} (h : (Lit.int IntKind.i64 n).wf = true) : in64 n := by
  have h1 : IntKind.i64.min = -9223372036854775808 := rfl
  have h2 : IntKind.i64.max = 9223372036854775807 := rfl
  unfold in64
  simp [Lit.wf, h1, h2] at h
  omega
theorem plainNumbers_walk (W : World) (hF : Go.Proofs.YthhceeaconflnaaDoor.Facts W.heap.size W) (n : Int) (hn : (Lit.int IntKind.i64 n).wf = true) (o : Int) (ho : (Lit.int IntKind.i64 o).wf = true) (i : Int) (hi : (Lit.int IntKind.i64 i).wf = true) :
    Calls Go.Proofs.Tryd.prog 8 #[.int .i64 n, .int .i64 o, .int .i64 i] W fun e W' => e = .returned (.bool true) ∧ Below W.heap.size W W' := by
  refine (sound tableOk (numbers_true (in64_of hn) (in64_of ho) (in64_of hi)) W (gl_ok _ _) hF _ rfl ?_).mono fun e W' ⟨u, g', h1, h2, h3⟩ => ?_
  · intro j x hx
    match j, hx with
    | 0, hx => cases hx; exact .int _ _
    | 1, hx => cases hx; exact .int _ _
    | 2, hx => cases hx; exact .int _ _
    | j + 3, hx => simp at hx
  · cases h2; exact ⟨h1, h3⟩
end Go.Am.YthhceeaconflnaaDoor
