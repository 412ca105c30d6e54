/- Arguments of the seat: links; for the walks. | LinkPlain, in the loaded program: the walk. | The card of LinkPlain: whatever the input it returns true, and each argument reads as before. The frame is the kit's; the walk is the abstract machine's.
   By the session's AI agent. -/
import Derived.Test.YtdnbedldmkagmaaGreatDoorLr5
import Derived.Test.YtdnbedldmkagmaaGreatDoorCards
import Derived.Test.YtdnbedldmkagmaaGreatDoorTie
import Derived.WalkKit
import Derived.ProofKit
import Derived.OpenShut
import Derived.ShutString
import Derived.ChangeOld
import Derived.Below
import Derived.SizedLaws
import Derived.LaidMore
import Derived.Lay
import Derived.SevenTiedAt
import Derived.Deep.DeepHandedRow
import Derived.Deep.DeepWitnessRowRef
namespace Go.Am.YtdnbedldmkagmaaGreatDoor
open Go.RowKit (Below)
set_option linter.unusedSimpArgs false
set_option linter.unusedVariables false
open Go.Proofs
theorem pair_row {r : List PV} (h : Sh Tryz.prog 38 r) : ∃ o : Pr, rowV Tryz.prog 38 r = eP o ∧ True := by
  obtain ⟨hl, hf⟩ := h.inv_struct Tryz.underlying38
  have c38 : Tryz.prog.cellsOf 38 = 3 := by kernel_rfl
  have c9 : Tryz.prog.cellsOf 9 = 1 := by kernel_rfl
  have c4 : Tryz.prog.cellsOf 4 = 1 := by kernel_rfl
  rw [c38] at hl
  obtain ⟨x0, x1, x2, rfl⟩ := len3_of hl
  have f0 : Sh Tryz.prog 9 (([x0, x1, x2].drop 0).take (Tryz.prog.cellsOf 9)) := hf 0 _ rfl
  have f1 : Sh Tryz.prog 9 (([x0, x1, x2].drop 1).take (Tryz.prog.cellsOf 9)) := hf 1 _ rfl
  have f2 : Sh Tryz.prog 4 (([x0, x1, x2].drop 2).take (Tryz.prog.cellsOf 4)) := hf 2 _ rfl
  rw [c9] at f0 f1
  rw [c4] at f2
  obtain ⟨s, e0, _⟩ := Sh.inv_str Tryz.underlying9 f0
  obtain ⟨t, e1, _⟩ := Sh.inv_str Tryz.underlying9 f1
  obtain ⟨b, e2⟩ := Sh.inv_bool Tryz.underlying4 f2
  simp only [List.drop_succ_cons, List.drop_zero, List.take_succ_cons, List.take_zero] at e0 e1 e2
  cases e0
  cases e1
  cases e2
  exact ⟨(s, t, b), rowV_struct Tryz.underlying38 _, trivial⟩
theorem pairs_arg {x : PV} (h : Sh Tryz.prog 39 [x]) : ∃ l, Lv eP 3 x l := by
  have hc : Tryz.prog.cellsOf 38 = 3 := by kernel_rfl
  obtain ⟨l, hl, _⟩ := h.lst (el := eP) (Q := fun _ => True) Tryz.underlying39 (fun r hr => pair_row hr)
  rw [hc] at hl
  exact ⟨l, hl⟩
theorem link_row {r : List PV} (h : Sh Tryz.prog 41 r) : ∃ o : Lk, rowV Tryz.prog 41 r = eL o ∧ True := by
  obtain ⟨hl, hf⟩ := h.inv_struct Tryz.underlying41
  have c41 : Tryz.prog.cellsOf 41 = 2 := by kernel_rfl
  have c36 : Tryz.prog.cellsOf 36 = 1 := by kernel_rfl
  have c39 : Tryz.prog.cellsOf 39 = 1 := by kernel_rfl
  rw [c41] at hl
  obtain ⟨x0, x1, rfl⟩ := len2_of hl
  have f0 : Sh Tryz.prog 36 (([x0, x1].drop 0).take (Tryz.prog.cellsOf 36)) := hf 0 _ rfl
  have f1 : Sh Tryz.prog 39 (([x0, x1].drop 1).take (Tryz.prog.cellsOf 39)) := hf 1 _ rfl
  rw [c36] at f0
  rw [c39] at f1
  simp only [List.drop_succ_cons, List.drop_zero, List.take_succ_cons, List.take_zero] at f0 f1
  obtain ⟨l, e0, _⟩ := ints_arg f0
  obtain ⟨m, e1⟩ := pairs_arg f1
  exact ⟨(⟨x0, l, e0⟩, ⟨x1, m, e1⟩), rowV_struct Tryz.underlying41 _, trivial⟩
theorem links_arg {x : PV} (h : Sh Tryz.prog 22 [x]) : ∃ l, Lv eL 2 x l := by
  have hc : Tryz.prog.cellsOf 41 = 2 := by kernel_rfl
  obtain ⟨l, hl, _⟩ := h.lst (el := eL) (Q := fun _ => True) Tryz.underlying22 (fun r hr => link_row hr)
  rw [hc] at hl
  exact ⟨l, hl⟩
end Go.Am.YtdnbedldmkagmaaGreatDoor
namespace Go.Am.YtdnbedldmkagmaaGreatDoor
open Go.RowKit (Below)
set_option linter.unusedSimpArgs false
set_option linter.unusedVariables false
theorem linkPlain_walk (W : World) (hF : Go.Proofs.YtdnbedldmkagmaaGreatDoor.Facts W.heap.size W) {x : PV} {v : Value} (rx : RV W.heap.size { ι := id, n := 0, hw := fun _ => none } W x v) (sx : Sh Go.Proofs.Tryz.prog 36 [x]) (s t : ByteArray) :
    Calls Go.Proofs.Tryz.prog 5 #[v, .string s, .string t] W fun e W' => e = .returned (.bool true) ∧ Below W.heap.size W W' := by
  obtain ⟨l, hb, _, _⟩ := ints_arg sx
  refine (sound2 tableOk (plain_true hb s.data.toList t.data.toList) W (gl_ok _ _) hF _ rfl ?_).mono fun e W' ⟨u, g', h1, h2, h3⟩ => ?_
  · intro j x hx
    match j, hx with
    | 0, hx => cases hx; exact rx
    | 1, hx => cases hx; exact .str _ _ rfl
    | 2, hx => cases hx; exact .str _ _ rfl
    | j + 3, hx => simp at hx
  · cases h2; exact ⟨h1, h3⟩
end Go.Am.YtdnbedldmkagmaaGreatDoor
namespace Go.Proofs.YtdnbedldmkagmaaGreatDoor.linkPlain
open Go.ChangeShapes Go.WideShapes Go.ChangeAt Go.RowKit
open Go.ChangeMaps (open_string shut_string)
set_option linter.unusedVariables false
theorem own : ownKnob Tryz.prog.godebug = none := by kernel_rfl
theorem laidOut : laidOutB Tryz.prog = true := by kernel_rfl
set_option maxRecDepth 100000 in
theorem contract (H : Type) (enc : TypeId × Value → H) (W : World) (base : Nat) (args : Array Value) (ds gs : List (DataW H)) (before : List MemPlace)
    (hval0 : ∀ (j : Nat) t v, Tryz.f5.params[j]? = some t → args[j]? = some v → Value.okWide Tryz.prog W .any base t v)
    (hW : DataW.Whole enc Tryz.prog Tryz.f5.params.toList Rows.linkPlainSpec.vars false W args.toList ds gs before)
    (hsz0 : (DataW.weightsEach Tryz.prog (Tryz.f5.params.toList ++ Rows.linkPlainSpec.plain.varTypes Tryz.prog) (ds ++ gs)).all (· ≤ reachBytes) = true) (hL : laidMetH Tryz.prog Rows.linkPlainRow.laid W) (hS : W.ShapedOpen Tryz.prog) :
    Calls Tryz.prog 5 args W fun e W' => ∃ v, e = .returned v ∧ Rows.linkPlainSpec.post enc Tryz.prog Tryz.f5 false true false false W args v W' := by
  have hsz := hsz0
  have hval := hval0
  have hW' := hW
  obtain ⟨p, q, hA0, hV, rfl, hfz, hnd⟩ := hW
  have hA : DataW.TrodAll enc Tryz.prog W 0 (fun _ => true) true Tryz.f5.params.toList args.toList ds p := hA0
  rw [Tryz.params5] at hA hval hsz
  obtain ⟨v0, vs0, d0, ds0, p0, q0, hargs, rfl, rfl, h0, r0⟩ := trodAll_cons hA
  obtain ⟨v1, vs1, d1, ds1, p1, q1, rfl, rfl, rfl, h1, r1⟩ := trodAll_cons r0
  obtain ⟨v2, vs2, d2, ds2, p2, q2, rfl, rfl, rfl, h2, r2⟩ := trodAll_cons r1
  obtain ⟨rfl, rfl, rfl⟩ := trodAll_nil r2
  obtain rfl : args = #[v0, v1, v2] := by cases args; simp_all
  obtain ⟨rfl, rfl⟩ := trodVars_none hV
  have hL2 : laidMet Tryz.prog Rows.linkPlainRow.laid W := by rw [MakeChecks.laidMetH_plain _ _ _ (by kernel_rfl)] at hL; exact hL
  have hF : Facts W.heap.size W := facts_of hL2 hS (by simp [Rows.linkPlainRow]) (by simp [Rows.linkPlainRow]) (by simp [Rows.linkPlainRow])
  have k0 := h0
  have lt0 : ∀ x ∈ p0, x.block < W.heap.size := by obtain ⟨m, hm⟩ := k0; exact DataW.trod_lt m _ _ _ hm
  obtain ⟨a0, len0, cap0, rfl⟩ := okWide_slice Tryz.underlying36 (hval 0 36 v0 rfl rfl)
  obtain ⟨x0, rx0, sx0⟩ := Go.Am.open_arg (g := ⟨id, 0, fun _ => none, fun _ => default⟩) k0 rfl 20 (by kernel_rfl) (fun n hn => by have := List.all_eq_true.1 hsz _ (DataW.weights_mem_each (j := 0) (t := 36) rfl rfl n hn); simpa using this)
  have k1 := h1
  have lt1 : ∀ x ∈ p1, x.block < W.heap.size := by obtain ⟨m, hm⟩ := k1; exact DataW.trod_lt m _ _ _ hm
  obtain ⟨a1, rfl, rfl, rfl, y1⟩ := open_string Tryz.underlying9 (hval 1 9 v1 rfl rfl) h1
  have k2 := h2
  have lt2 : ∀ x ∈ p2, x.block < W.heap.size := by obtain ⟨m, hm⟩ := k2; exact DataW.trod_lt m _ _ _ hm
  obtain ⟨a2, rfl, rfl, rfl, y2⟩ := open_string Tryz.underlying9 (hval 2 9 v2 rfl rfl) h2
  refine (Go.Am.YtdnbedldmkagmaaGreatDoor.linkPlain_walk W hF rx0 sx0 a1 a2).mono fun e W' ⟨he, bel⟩ => ?_
  subst he
  exact ⟨_, rfl, _, _, _, [], _, [], hW', trodAll_mk1 (shut_bool Tryz.underlying4 _), (trodAll_cons_mk (Below.trod laidOut (by kernel_rfl) (of_decide_eq_true (by kernel_rfl)) k0 bel lt0) (trodAll_cons_mk (shut_string Tryz.underlying9 y1) (trodAll_cons_mk (shut_string Tryz.underlying9 y2) trodAll_mk0))), rfl, bel.frame _, fun h => by cases h⟩
noncomputable abbrev laidWorld (os : Os) : World := World.laidAll Tryz.prog os Rows.linkPlainRow.laid
theorem laid_met (os : Os) (args : Array Value) : laidMet Tryz.prog Rows.linkPlainRow.laid ((laidWorld os).forCall (fun _ _ => 0) ⟨#[], args, []⟩).memory := laidMet_laidAll _ (by kernel_rfl) (by kernel_rfl)
theorem reads (os : Os) {H : Type} (enc : TypeId × Value → H) : ∃ places, DataW.whole enc Tryz.prog ((laidWorld os).forCall (fun _ _ => 0) ⟨#[], #[.slice none 0 0, .string ByteArray.empty, .string ByteArray.empty], []⟩).memory Tryz.f5.params.toList Rows.linkPlainSpec.vars false (#[.slice none 0 0, .string ByteArray.empty, .string ByteArray.empty] : Array Value).toList 8 = some ([.nil, .lit (.string []), .lit (.string [])], [], places) := by
  have hw : (DataW.whole enc Tryz.prog ((laidWorld os).forCall (fun _ _ => 0) ⟨#[], #[.slice none 0 0, .string ByteArray.empty, .string ByteArray.empty], []⟩).memory Tryz.f5.params.toList Rows.linkPlainSpec.vars false (#[.slice none 0 0, .string ByteArray.empty, .string ByteArray.empty] : Array Value).toList 8).map (fun x => (x.1, x.2.1)) = some ([.nil, .lit (.string []), .lit (.string [])], []) := by kernel_rfl
  obtain ⟨⟨x1, x2, x3⟩, hx, hx1⟩ := Option.map_eq_some_iff.1 hw
  simp only [Prod.mk.injEq] at hx1
  obtain ⟨rfl, rfl⟩ := hx1
  exact ⟨_, hx⟩
set_option maxRecDepth 100000 in
theorem lifted (os : Os) (started : os.Started) (H : Type) (enc : TypeId × Value → H) (F : Stop.Interp) :
    ReturnsInHanded {} Tryz.checked os 5 .any ((OpenSpec.ofChange Rows.linkPlainSpec).preRow enc Tryz.prog Tryz.f5 Rows.linkPlainRow.domain false Rows.linkPlainRow.laid) (((OpenSpec.ofChange Rows.linkPlainSpec).at F).post enc Tryz.prog Tryz.f5 false true false false) := by
  obtain ⟨places, hx⟩ := reads os enc
  refine returnsInHanded_of_row (C := Tryz.checked) (s := OpenSpec.ofChange Rows.linkPlainSpec) own started (by kernel_rfl) Tryz.func5
    (witness_row_atRef (enc := enc) (C := Tryz.checked) false (laidWorld os) #[.slice none 0 0, .string ByteArray.empty, .string ByteArray.empty] (World.laidAll_os _ _ _) (by kernel_rfl) (by kernel_rfl) (by kernel_rfl)
      (OpenSpec.preRow_of_cond 8 hx (by kernel_rfl) (fun k hk => by cases hk) (by kernel_rfl) (laid_met os _))) ?_
  intro W base args ds gs before hval hW _ _ hsz hL hS _
  exact contract H enc W base args ds gs before hval hW hsz hL hS
theorem said : Rows.LinkPlainSaid :=
  OpenClaim.holds_of_cond 5 Tryz.f5 rfl rfl rfl rfl rfl rfl rfl ⟨rfl, rfl, rfl, rfl, rfl⟩ rfl rfl rfl rfl rfl (by kernel_rfl) Tryz.func5 (by kernel_rfl)
    (of_decide_eq_true (by kernel_rfl)) (by unfold Func.isWrapper; first | (rw [if_pos (by decide +kernel)]; kernel_rfl) | (rw [if_neg (by decide +kernel)]; exact ⟨rfl, rfl⟩))
    (fun os started H enc _ F => by rw [OpenClaim.pre_eq_preRow]; exact lifted os started H enc F)
theorem plain (f : FuncId) (fn : Func) (hf : Tryz.pinned.checked.prog.funcNamed Rows.linkPlainRow.func = some f) (hfn : Tryz.pinned.checked.prog.funcs[f]? = some fn) :
    true = Tryz.pinned.checked.prog.looks [] ∧ ∀ (j : Nat) t, fn.params[j]? = some t → Tryz.pinned.checked.prog.wantsStandIn t = false := by
  obtain rfl : f = 5 := Option.some.inj ((show Tryz.prog.funcNamed Rows.linkPlainRow.func = some 5 by kernel_rfl).symm.trans hf) |>.symm
  obtain rfl : fn = Tryz.f5 := (Option.some.inj (Tryz.func5.symm.trans hfn)).symm
  refine ⟨by kernel_rfl, fun j t ht => ?_⟩
  rw [Tryz.params5] at ht
  have hm : t ∈ [36, 9, 9] := by simpa using Array.mem_of_getElem? ht
  have hall : ([36, 9, 9].all fun u => !Tryz.prog.wantsStandIn u) = true := by kernel_rfl
  exact (show Tryz.prog.wantsStandIn t = false by simpa using List.all_eq_true.1 hall t hm)
theorem card : Rows.LinkPlainCardSaid :=
  Claim7.holds_tied_plain_at .later [] _ _ _ _ said (fun _ h => by cases h) (by kernel_rfl) (fun _ h => by cases h) linkPlain_row_tie rfl ⟨rfl, rfl⟩ (by kernel_rfl) rfl plain (by kernel_rfl)
#print axioms card
end Go.Proofs.YtdnbedldmkagmaaGreatDoor.linkPlain
namespace Go.Proofs.YtdnbedldmkagmaaGreatDoor
/-- The card, under a short name, for the claim. -/
theorem linkPlain_holds : Rows.LinkPlainCardSaid := linkPlain.card
end Go.Proofs.YtdnbedldmkagmaaGreatDoor
