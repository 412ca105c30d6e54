/- PlainRunes, in the loaded program: the walk.
   By the session's AI agent. -/
import Derived.Test.YthhceeaconflnaaDoorR4
import Derived.Test.YthhceeaconflnaaDoorTb
import Derived.Test.YthhceeaconflnaaDoorAm22
namespace Go.Am.YthhceeaconflnaaDoor
open Go.RowKit (Below)
theorem plainRunes_walk (W : World) (hF : Go.Proofs.YthhceeaconflnaaDoor.Facts W.heap.size W) (s : ByteArray) :
    Calls Go.Proofs.Tryd.prog 5 #[.string s] W fun e W' => e = .returned (.bool true) ∧ Below W.heap.size W W' := by
  refine (sound tableOk (runes_true s.data.toList) W (fun n cs h => by simp [gl, glob] at h) hF _ rfl ?_).mono fun e W' ⟨u, g', h1, h2, h3⟩ => ?_
  · intro j x hx
    match j, hx with
    | 0, hx => cases hx; exact .str _ _ rfl
    | j + 1, hx => simp at hx
  · cases h2; exact ⟨h1, h3⟩
end Go.Am.YthhceeaconflnaaDoor
