/- RegPlays, in the loaded program: the walk. | The row of RegPlays: whatever the input it returns true, and each argument reads as before. The frame is the kit's; the walk is the abstract machine's.
   By the session's AI agent. -/
import Derived.Test.YtlmfmjmpfcaliaaRa4
import Derived.Test.YtlmfmjmpfcaliaaRows
import Derived.WalkKit
import Derived.ProofKit
import Derived.OpenShut
import Derived.ShutString
import Derived.ChangeOld
import Derived.Below
import Derived.SizedLaws
namespace Go.Am.Ytlmfmjmpfcaliaa
open Go.RowKit (Below)
set_option linter.unusedVariables false
theorem gl_ok (N0 : Nat) (w0 : World) : GlobOk gl N0 w0 := fun n cs h => by simp [gl, glob] at h
theorem regPlays_walk (W : World) {x : PV} {v : Value} (rx : RV W.heap.size { ι := id, n := 0, hw := fun _ => none } W x v) (sx : Sh Go.Proofs.Try.prog 22 [x]) :
    Calls Go.Proofs.Try.prog 3 #[v] W fun e W' => e = .returned (.bool true) ∧ Below W.heap.size W W' := by
  obtain ⟨ops, ha, hl⟩ := sh_ops sx
  refine (sound2 tableOk (plays_true ha hl) W (gl_ok _ _) trivial _ rfl ?_).mono fun e W' ⟨u, g', h1, h2, h3⟩ => ?_
  · intro j x hx
    match j, hx with
    | 0, hx => cases hx; exact rx
    | j + 1, hx => simp at hx
  · cases h2; exact ⟨h1, h3⟩
end Go.Am.Ytlmfmjmpfcaliaa
namespace Go.Proofs.Ytlmfmjmpfcaliaa.regPlays
open Go.ChangeShapes Go.WideShapes Go.ChangeAt Go.RowKit
open Go.ChangeMaps (open_string shut_string)
set_option linter.unusedVariables false
theorem own : ownKnob Try.prog.godebug = none := by kernel_rfl
theorem laidOut : laidOutB Try.prog = true := by kernel_rfl
set_option maxRecDepth 100000 in
theorem lifted (os : Os) (started : os.Started) (H : Type) (enc : TypeId × Value → H) :
    ReturnsInHanded {} Try.checked os 3 .any (Rows.regPlaysSpec.pre6 enc Try.prog Try.f3 Rows.regPlaysRow.domain false) (Rows.regPlaysSpec.post enc Try.prog Try.f3 false true false false) := by
  refine returnsInHanded_of_change_sized (C := Try.checked) own started (by kernel_rfl) Try.func3
    (ChangeSpec.witness6 (enc := enc) (C := Try.checked) false ⟨#[], #[.slice none 0 0], []⟩ 8 (by kernel_rfl) (by kernel_rfl) (by kernel_rfl) (by kernel_rfl)) ?_
  intro W base args ds gs before hval0 hW hcnd hsz0 _
  have hsz : (DataW.weightsEach Try.prog (Try.f3.params.toList ++ Rows.regPlaysSpec.plain.varTypes Try.prog) (ds ++ gs)).all (· ≤ reachBytes) = true := hsz0
  have hval : ∀ (j : Nat) t v, Try.f3.params[j]? = some t → args[j]? = some v → Value.okWide Try.prog W .any base t v := hval0
  have hW' := hW
  obtain ⟨p, q, hA0, hV, rfl, hfz, hnd⟩ := hW
  have hA : DataW.TrodAll enc Try.prog W 0 (fun _ => true) true Try.f3.params.toList args.toList ds p := hA0
  rw [Try.params3] at hA hval hsz
  obtain ⟨v0, vs0, d0, ds0, p0, q0, hargs, rfl, rfl, h0, r0⟩ := trodAll_cons hA
  obtain ⟨rfl, rfl, rfl⟩ := trodAll_nil r0
  obtain rfl : args = #[v0] := by cases args; simp_all
  obtain ⟨rfl, rfl⟩ := trodVars_none hV
  have k0 := h0
  have lt0 : ∀ x ∈ p0, x.block < W.heap.size := by obtain ⟨m, hm⟩ := k0; exact DataW.trod_lt m _ _ _ hm
  obtain ⟨a0, len0, cap0, rfl⟩ := okWide_slice Try.underlying22 (hval 0 22 v0 rfl rfl)
  obtain ⟨x0, rx0, sx0⟩ := Go.Am.open_arg (g := ⟨id, 0, fun _ => none, fun _ => default⟩) k0 rfl 20 (by kernel_rfl) (fun n hn => by have := List.all_eq_true.1 hsz _ (DataW.weights_mem_each (j := 0) (t := 22) rfl rfl n hn); simpa using this)
  refine (Go.Am.Ytlmfmjmpfcaliaa.regPlays_walk W rx0 sx0).mono fun e W' ⟨he, bel⟩ => ?_
  subst he
  exact ⟨_, rfl, _, _, _, [], _, [], hW', trodAll_mk1 (shut_bool Try.underlying4 _), (trodAll_cons_mk (Below.trod laidOut (by kernel_rfl) (of_decide_eq_true (by kernel_rfl)) k0 bel lt0) trodAll_mk0), rfl, bel.frame _, fun h => by cases h⟩
theorem over : Rows.regPlaysRow.holds Try.pinned (OpenSpec.ofChange Rows.regPlaysSpec) :=
  OpenClaim.holds_of_wide 3 Try.f3 rfl rfl rfl rfl rfl rfl rfl ⟨rfl, rfl, rfl, rfl, rfl⟩ rfl rfl rfl rfl rfl (by kernel_rfl) Try.func3 (by kernel_rfl)
    (of_decide_eq_true (by kernel_rfl)) (by unfold Func.isWrapper; first | (rw [if_pos (by decide +kernel)]; kernel_rfl) | (rw [if_neg (by decide +kernel)]; exact ⟨rfl, rfl⟩))
    (fun os started H enc _ => lifted os started H enc)
theorem proved : Rows.RegPlaysSaid := over
#print axioms proved
end Go.Proofs.Ytlmfmjmpfcaliaa.regPlays
namespace Go.Proofs.Ytlmfmjmpfcaliaa
/-- The row, under a short name, for the claim. -/
theorem regPlays_holds : Rows.RegPlaysSaid := regPlays.proved
end Go.Proofs.Ytlmfmjmpfcaliaa
