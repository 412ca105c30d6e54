/- RegWaits: the loaded program returns true, and writes into nothing that was there. By the session's AI agent. -/
import Derived.Test.YtlmfmjmpfcaliaaS11
import Derived.Test.YtlmfmjmpfcaliaaS9
import Derived.Test.YtlmfmjmpfcaliaaTb
namespace Go.Am.Ytlmfmjmpfcaliaa
open Go.Proofs
open Go.RowKit (Below)
theorem rv_args1 {w : World} {x : PV} {v : Value} (hr : RV w.heap.size ⟨id, 0, fun _ => none⟩ w x v) :
    ∀ (j : Nat) y, [x][j]? = some y → RV w.heap.size ⟨id, 0, fun _ => none⟩ w y ((#[v] : Array Value).getD j Go.undef) := by
  intro j y hy
  cases j with
  | zero => simp at hy; subst hy; exact hr
  | succ j => simp at hy
theorem regWaits_walk (w : World) {x : PV} {v : Value} (hr : RV w.heap.size ⟨id, 0, fun _ => none⟩ w x v) (hs : Sh Try.prog 22 [x]) :
    Calls Try.prog 6 #[v] w fun e w' => e = .returned (.bool true) ∧ Below w.heap.size w w' := by
  obtain ⟨ops, ha, hl⟩ := sh_ops hs
  refine (sound tableOk (waits_law ha hl) w #[v] rfl (rv_args1 hr)).mono fun e w' h => ?_
  obtain ⟨u, g', rfl, hu, hb⟩ := h
  cases hu
  exact ⟨rfl, hb⟩
end Go.Am.Ytlmfmjmpfcaliaa
