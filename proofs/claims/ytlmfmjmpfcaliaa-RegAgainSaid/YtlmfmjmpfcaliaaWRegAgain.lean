/- RegAgain: the loaded program returns true, and writes into nothing that was there. By the session's AI agent. -/
import Derived.Test.YtlmfmjmpfcaliaaS10
import Derived.Test.YtlmfmjmpfcaliaaS9
import Derived.Test.YtlmfmjmpfcaliaaTb
namespace Go.Am.Ytlmfmjmpfcaliaa
open Go.Proofs
open Go.RowKit (Below)
theorem rv_args2 {w : World} {x y : PV} {v u : Value} (hr : RV w.heap.size ⟨id, 0, fun _ => none⟩ w x v) (hr2 : RV w.heap.size ⟨id, 0, fun _ => none⟩ w y u) :
    ∀ (j : Nat) z, [x, y][j]? = some z → RV w.heap.size ⟨id, 0, fun _ => none⟩ w z ((#[v, u] : Array Value).getD j Go.undef) := by
  intro j z hz
  match j with
  | 0 => simp at hz; subst hz; exact hr
  | 1 => simp at hz; subst hz; exact hr2
  | j + 2 => simp at hz
theorem regAgain_walk (w : World) {x y : PV} {v u : Value} (hr : RV w.heap.size ⟨id, 0, fun _ => none⟩ w x v) (hs : Sh Try.prog 22 [x]) (hr2 : RV w.heap.size ⟨id, 0, fun _ => none⟩ w y u) (hs2 : Sh Try.prog 4 [y]) :
    Calls Try.prog 5 #[v, u] w fun e w' => e = .returned (.bool true) ∧ Below w.heap.size w w' := by
  obtain ⟨ops, ha, hl⟩ := sh_ops hs
  obtain ⟨k, hk⟩ := Sh.inv_bool Try.underlying4 hs2
  cases hk
  refine (sound tableOk (again_law ha hl k) w #[v, u] rfl (rv_args2 hr hr2)).mono fun e w' h => ?_
  obtain ⟨u, g', rfl, hu, hb⟩ := h
  cases hu
  exact ⟨rfl, hb⟩
end Go.Am.Ytlmfmjmpfcaliaa
