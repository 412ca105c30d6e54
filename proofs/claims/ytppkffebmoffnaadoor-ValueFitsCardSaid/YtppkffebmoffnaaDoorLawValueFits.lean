/- ValueFits, in the loaded program: the walk. | The card of ValueFits: whatever the input it returns true, and each argument reads as before. The frame is the kit's; the walk is the abstract machine's.
   By the session's AI agent. -/
import Derived.Test.YtppkffebmoffnaaDoorVa5
import Derived.Test.YtppkffebmoffnaaDoorCards
import Derived.Test.YtppkffebmoffnaaDoorTie
import Derived.WalkKit
import Derived.ProofKit
import Derived.OpenShut
import Derived.ShutString
import Derived.ChangeOld
import Derived.Below
import Derived.SizedLaws
import Derived.LaidMore
import Derived.Lay
import Derived.SevenTiedAt
import Derived.Deep.DeepHandedRow
import Derived.Deep.DeepWitnessRowRef
namespace Go.Am.YtppkffebmoffnaaDoor
open Go.RowKit (Below)
set_option linter.unusedVariables false
theorem len8_of {α : Type} : ∀ {l : List α}, l.length = 8 → ∃ a b c d e f g i, l = [a, b, c, d, e, f, g, i]
  | [a, b, c, d, e, f, g, i], _ => ⟨a, b, c, d, e, f, g, i, rfl⟩
theorem rule_arg {cs : List PV} (h : Sh Go.Proofs.Tryd.prog 51 cs) : ∃ r : Ru, PV.agg cs = eR r := by
  obtain ⟨hl, hf⟩ := h.inv_struct Go.Proofs.Tryd.underlying51
  have c51 : Go.Proofs.Tryd.prog.cellsOf 51 = 8 := by kernel_rfl
  have c3 : Go.Proofs.Tryd.prog.cellsOf 3 = 1 := by kernel_rfl
  have c2 : Go.Proofs.Tryd.prog.cellsOf 2 = 1 := by kernel_rfl
  have c4 : Go.Proofs.Tryd.prog.cellsOf 4 = 1 := by kernel_rfl
  rw [c51] at hl
  obtain ⟨x0, x1, x2, x3, x4, x5, x6, x7, rfl⟩ := len8_of hl
  have f0 : Sh Go.Proofs.Tryd.prog 3 (([x0, x1, x2, x3, x4, x5, x6, x7].drop 0).take (Go.Proofs.Tryd.prog.cellsOf 3)) := hf 0 _ rfl
  have f1 : Sh Go.Proofs.Tryd.prog 3 (([x0, x1, x2, x3, x4, x5, x6, x7].drop 1).take (Go.Proofs.Tryd.prog.cellsOf 3)) := hf 1 _ rfl
  have f2 : Sh Go.Proofs.Tryd.prog 4 (([x0, x1, x2, x3, x4, x5, x6, x7].drop 2).take (Go.Proofs.Tryd.prog.cellsOf 4)) := hf 2 _ rfl
  have f3 : Sh Go.Proofs.Tryd.prog 4 (([x0, x1, x2, x3, x4, x5, x6, x7].drop 3).take (Go.Proofs.Tryd.prog.cellsOf 4)) := hf 3 _ rfl
  have f4 : Sh Go.Proofs.Tryd.prog 4 (([x0, x1, x2, x3, x4, x5, x6, x7].drop 4).take (Go.Proofs.Tryd.prog.cellsOf 4)) := hf 4 _ rfl
  have f5 : Sh Go.Proofs.Tryd.prog 2 (([x0, x1, x2, x3, x4, x5, x6, x7].drop 5).take (Go.Proofs.Tryd.prog.cellsOf 2)) := hf 5 _ rfl
  have f6 : Sh Go.Proofs.Tryd.prog 2 (([x0, x1, x2, x3, x4, x5, x6, x7].drop 6).take (Go.Proofs.Tryd.prog.cellsOf 2)) := hf 6 _ rfl
  have f7 : Sh Go.Proofs.Tryd.prog 4 (([x0, x1, x2, x3, x4, x5, x6, x7].drop 7).take (Go.Proofs.Tryd.prog.cellsOf 4)) := hf 7 _ rfl
  rw [c3] at f0 f1
  rw [c4] at f2 f3 f4 f7
  rw [c2] at f5 f6
  obtain ⟨n0, e0, _⟩ := Sh.inv_int Go.Proofs.Tryd.underlying3 f0
  obtain ⟨n1, e1, _⟩ := Sh.inv_int Go.Proofs.Tryd.underlying3 f1
  obtain ⟨b2, e2⟩ := Sh.inv_bool Go.Proofs.Tryd.underlying4 f2
  obtain ⟨b3, e3⟩ := Sh.inv_bool Go.Proofs.Tryd.underlying4 f3
  obtain ⟨b4, e4⟩ := Sh.inv_bool Go.Proofs.Tryd.underlying4 f4
  obtain ⟨n5, e5, _⟩ := Sh.inv_int Go.Proofs.Tryd.underlying2 f5
  obtain ⟨n6, e6, _⟩ := Sh.inv_int Go.Proofs.Tryd.underlying2 f6
  obtain ⟨b7, e7⟩ := Sh.inv_bool Go.Proofs.Tryd.underlying4 f7
  simp only [List.drop_succ_cons, List.drop_zero, List.take_succ_cons, List.take_zero] at e0 e1 e2 e3 e4 e5 e6 e7
  cases e0; cases e1; cases e2; cases e3; cases e4; cases e5; cases e6; cases e7
  exact ⟨⟨n0, n1, b2, b3, b4, n5, n6, b7⟩, rfl⟩
theorem valueFits_walk (W : World) (hF : Go.Proofs.YtppkffebmoffnaaDoor.Facts W.heap.size W) {z : List PV} {y : Array Value} (rz : RV W.heap.size { ι := id, n := 0, hw := fun _ => none } W (.agg z) (.agg y)) (sz : Sh Go.Proofs.Tryd.prog 51 z)
    {x : List PV} {u : Array Value} (rx : RV W.heap.size { ι := id, n := 0, hw := fun _ => none } W (.agg x) (.agg u)) (sx : Sh Go.Proofs.Tryd.prog 24 x)
    {t : List PV} {q : Array Value} (rt : RV W.heap.size { ι := id, n := 0, hw := fun _ => none } W (.agg t) (.agg q)) (st : Sh Go.Proofs.Tryd.prog 24 t) :
    Calls Go.Proofs.Tryd.prog 5 #[.agg y, .agg u, .agg q] W fun e W' => e = .returned (.bool true) ∧ Below W.heap.size W W' := by
  obtain ⟨r, hr⟩ := rule_arg sz
  obtain ⟨v, hv, vn, vo, vi⟩ := vi_arg sx
  obtain ⟨w, hw, wn, wo, wi⟩ := vi_arg st
  refine (sound2 tableOk (fits_true r v w vn vo vi wn wo wi) W (gl_ok _ _) hF _ rfl ?_).mono fun e W' ⟨u, g', h1, h2, h3⟩ => ?_
  · intro j x hx
    match j, hx with
    | 0, hx => cases hx; rw [← hr]; exact rz
    | 1, hx => cases hx; rw [← hv]; exact rx
    | 2, hx => cases hx; rw [← hw]; exact rt
    | j + 3, hx => simp at hx
  · cases h2; exact ⟨h1, h3⟩
end Go.Am.YtppkffebmoffnaaDoor
namespace Go.Proofs.YtppkffebmoffnaaDoor.valueFits
open Go.ChangeShapes Go.WideShapes Go.ChangeAt Go.RowKit
open Go.ChangeMaps (open_string shut_string)
set_option linter.unusedVariables false
theorem own : ownKnob Tryd.prog.godebug = none := by kernel_rfl
theorem laidOut : laidOutB Tryd.prog = true := by kernel_rfl
set_option maxRecDepth 100000 in
theorem contract (H : Type) (enc : TypeId × Value → H) (W : World) (base : Nat) (args : Array Value) (ds gs : List (DataW H)) (before : List MemPlace)
    (hval0 : ∀ (j : Nat) t v, Tryd.f5.params[j]? = some t → args[j]? = some v → Value.okWide Tryd.prog W .any base t v)
    (hW : DataW.Whole enc Tryd.prog Tryd.f5.params.toList Rows.valueFitsSpec.vars false W args.toList ds gs before)
    (hsz0 : (DataW.weightsEach Tryd.prog (Tryd.f5.params.toList ++ Rows.valueFitsSpec.plain.varTypes Tryd.prog) (ds ++ gs)).all (· ≤ reachBytes) = true) (hL : laidMetH Tryd.prog Rows.valueFitsRow.laid W) (hS : W.ShapedOpen Tryd.prog) :
    Calls Tryd.prog 5 args W fun e W' => ∃ v, e = .returned v ∧ Rows.valueFitsSpec.post enc Tryd.prog Tryd.f5 false true false false W args v W' := by
  have hsz := hsz0
  have hval := hval0
  have hW' := hW
  obtain ⟨p, q, hA0, hV, rfl, hfz, hnd⟩ := hW
  have hA : DataW.TrodAll enc Tryd.prog W 0 (fun _ => true) true Tryd.f5.params.toList args.toList ds p := hA0
  rw [Tryd.params5] at hA hval hsz
  obtain ⟨v0, vs0, d0, ds0, p0, q0, hargs, rfl, rfl, h0, r0⟩ := trodAll_cons hA
  obtain ⟨v1, vs1, d1, ds1, p1, q1, rfl, rfl, rfl, h1, r1⟩ := trodAll_cons r0
  obtain ⟨v2, vs2, d2, ds2, p2, q2, rfl, rfl, rfl, h2, r2⟩ := trodAll_cons r1
  obtain ⟨rfl, rfl, rfl⟩ := trodAll_nil r2
  obtain rfl : args = #[v0, v1, v2] := by cases args; simp_all
  obtain ⟨rfl, rfl⟩ := trodVars_none hV
  have hL2 : laidMet Tryd.prog Rows.valueFitsRow.laid W := by rw [MakeChecks.laidMetH_plain _ _ _ (by kernel_rfl)] at hL; exact hL
  have hF : Facts W.heap.size W := facts_of hL2 hS (by simp [Rows.valueFitsRow]) (by simp [Rows.valueFitsRow]) (by simp [Rows.valueFitsRow])
  have k0 := h0
  have lt0 : ∀ x ∈ p0, x.block < W.heap.size := by obtain ⟨m, hm⟩ := k0; exact DataW.trod_lt m _ _ _ hm
  obtain ⟨a0, rfl, _⟩ := okWide_struct Tryd.underlying51 (hval 0 51 v0 rfl rfl)
  obtain ⟨x0, rx0, sx0⟩ := Go.Am.open_struct (g := ⟨id, 0, fun _ => none, fun _ => default⟩) k0 20 (by kernel_rfl) (fun n hn => by have := List.all_eq_true.1 hsz _ (DataW.weights_mem_each (j := 0) (t := 51) rfl rfl n hn); simpa using this)
  have k1 := h1
  have lt1 : ∀ x ∈ p1, x.block < W.heap.size := by obtain ⟨m, hm⟩ := k1; exact DataW.trod_lt m _ _ _ hm
  obtain ⟨a1, rfl, _⟩ := okWide_struct Tryd.underlying24 (hval 1 24 v1 rfl rfl)
  obtain ⟨x1, rx1, sx1⟩ := Go.Am.open_struct (g := ⟨id, 0, fun _ => none, fun _ => default⟩) k1 20 (by kernel_rfl) (fun n hn => by have := List.all_eq_true.1 hsz _ (DataW.weights_mem_each (j := 1) (t := 24) rfl rfl n hn); simpa using this)
  have k2 := h2
  have lt2 : ∀ x ∈ p2, x.block < W.heap.size := by obtain ⟨m, hm⟩ := k2; exact DataW.trod_lt m _ _ _ hm
  obtain ⟨a2, rfl, _⟩ := okWide_struct Tryd.underlying24 (hval 2 24 v2 rfl rfl)
  obtain ⟨x2, rx2, sx2⟩ := Go.Am.open_struct (g := ⟨id, 0, fun _ => none, fun _ => default⟩) k2 20 (by kernel_rfl) (fun n hn => by have := List.all_eq_true.1 hsz _ (DataW.weights_mem_each (j := 2) (t := 24) rfl rfl n hn); simpa using this)
  refine (Go.Am.YtppkffebmoffnaaDoor.valueFits_walk W hF rx0 sx0 rx1 sx1 rx2 sx2).mono fun e W' ⟨he, bel⟩ => ?_
  subst he
  exact ⟨_, rfl, _, _, _, [], _, [], hW', trodAll_mk1 (shut_bool Tryd.underlying4 _), (trodAll_cons_mk (Below.trod laidOut (by kernel_rfl) (of_decide_eq_true (by kernel_rfl)) k0 bel lt0) (trodAll_cons_mk (Below.trod laidOut (by kernel_rfl) (of_decide_eq_true (by kernel_rfl)) k1 bel lt1) (trodAll_cons_mk (Below.trod laidOut (by kernel_rfl) (of_decide_eq_true (by kernel_rfl)) k2 bel lt2) trodAll_mk0))), rfl, bel.frame _, fun h => by cases h⟩
noncomputable abbrev laidWorld (os : Os) : World := World.laidAll Tryd.prog os Rows.valueFitsRow.laid
theorem laid_met (os : Os) (args : Array Value) : laidMet Tryd.prog Rows.valueFitsRow.laid ((laidWorld os).forCall (fun _ _ => 0) ⟨#[], args, []⟩).memory := laidMet_laidAll _ (by kernel_rfl) (by kernel_rfl)
theorem reads (os : Os) {H : Type} (enc : TypeId × Value → H) : ∃ places, DataW.whole enc Tryd.prog ((laidWorld os).forCall (fun _ _ => 0) ⟨#[], #[.agg #[.int .i64 0, .int .i64 0, .bool false, .bool false, .bool false, .int .i64 0, .int .i64 0, .bool false], .agg #[.int .i64 0, .int .i64 0, .string ByteArray.empty, .slice none 0 0, .int .i64 0, .int .i64 0], .agg #[.int .i64 0, .int .i64 0, .string ByteArray.empty, .slice none 0 0, .int .i64 0, .int .i64 0]], []⟩).memory Tryd.f5.params.toList Rows.valueFitsSpec.vars false (#[.agg #[.int .i64 0, .int .i64 0, .bool false, .bool false, .bool false, .int .i64 0, .int .i64 0, .bool false], .agg #[.int .i64 0, .int .i64 0, .string ByteArray.empty, .slice none 0 0, .int .i64 0, .int .i64 0], .agg #[.int .i64 0, .int .i64 0, .string ByteArray.empty, .slice none 0 0, .int .i64 0, .int .i64 0]] : Array Value).toList 8 = some ([.agg [.lit (.int .i64 0), .lit (.int .i64 0), .lit (.bool false), .lit (.bool false), .lit (.bool false), .lit (.int .i64 0), .lit (.int .i64 0), .lit (.bool false)], .agg [.lit (.int .i64 0), .lit (.int .i64 0), .lit (.string []), .nil, .lit (.int .i64 0), .lit (.int .i64 0)], .agg [.lit (.int .i64 0), .lit (.int .i64 0), .lit (.string []), .nil, .lit (.int .i64 0), .lit (.int .i64 0)]], [], places) := by
  have hw : (DataW.whole enc Tryd.prog ((laidWorld os).forCall (fun _ _ => 0) ⟨#[], #[.agg #[.int .i64 0, .int .i64 0, .bool false, .bool false, .bool false, .int .i64 0, .int .i64 0, .bool false], .agg #[.int .i64 0, .int .i64 0, .string ByteArray.empty, .slice none 0 0, .int .i64 0, .int .i64 0], .agg #[.int .i64 0, .int .i64 0, .string ByteArray.empty, .slice none 0 0, .int .i64 0, .int .i64 0]], []⟩).memory Tryd.f5.params.toList Rows.valueFitsSpec.vars false (#[.agg #[.int .i64 0, .int .i64 0, .bool false, .bool false, .bool false, .int .i64 0, .int .i64 0, .bool false], .agg #[.int .i64 0, .int .i64 0, .string ByteArray.empty, .slice none 0 0, .int .i64 0, .int .i64 0], .agg #[.int .i64 0, .int .i64 0, .string ByteArray.empty, .slice none 0 0, .int .i64 0, .int .i64 0]] : Array Value).toList 8).map (fun x => (x.1, x.2.1)) = some ([.agg [.lit (.int .i64 0), .lit (.int .i64 0), .lit (.bool false), .lit (.bool false), .lit (.bool false), .lit (.int .i64 0), .lit (.int .i64 0), .lit (.bool false)], .agg [.lit (.int .i64 0), .lit (.int .i64 0), .lit (.string []), .nil, .lit (.int .i64 0), .lit (.int .i64 0)], .agg [.lit (.int .i64 0), .lit (.int .i64 0), .lit (.string []), .nil, .lit (.int .i64 0), .lit (.int .i64 0)]], []) := by kernel_rfl
  obtain ⟨⟨x1, x2, x3⟩, hx, hx1⟩ := Option.map_eq_some_iff.1 hw
  simp only [Prod.mk.injEq] at hx1
  obtain ⟨rfl, rfl⟩ := hx1
  exact ⟨_, hx⟩
set_option maxRecDepth 100000 in
theorem lifted (os : Os) (started : os.Started) (H : Type) (enc : TypeId × Value → H) (F : Stop.Interp) :
    ReturnsInHanded {} Tryd.checked os 5 .any ((OpenSpec.ofChange Rows.valueFitsSpec).preRow enc Tryd.prog Tryd.f5 Rows.valueFitsRow.domain false Rows.valueFitsRow.laid) (((OpenSpec.ofChange Rows.valueFitsSpec).at F).post enc Tryd.prog Tryd.f5 false true false false) := by
  obtain ⟨places, hx⟩ := reads os enc
  refine returnsInHanded_of_row (C := Tryd.checked) (s := OpenSpec.ofChange Rows.valueFitsSpec) own started (by kernel_rfl) Tryd.func5
    (witness_row_atRef (enc := enc) (C := Tryd.checked) false (laidWorld os) #[.agg #[.int .i64 0, .int .i64 0, .bool false, .bool false, .bool false, .int .i64 0, .int .i64 0, .bool false], .agg #[.int .i64 0, .int .i64 0, .string ByteArray.empty, .slice none 0 0, .int .i64 0, .int .i64 0], .agg #[.int .i64 0, .int .i64 0, .string ByteArray.empty, .slice none 0 0, .int .i64 0, .int .i64 0]] (World.laidAll_os _ _ _) (by kernel_rfl) (by kernel_rfl) (by kernel_rfl)
      (OpenSpec.preRow_of_cond 8 hx (by kernel_rfl) (fun k hk => by cases hk) (by kernel_rfl) (laid_met os _))) ?_
  intro W base args ds gs before hval hW _ _ hsz hL hS _
  exact contract H enc W base args ds gs before hval hW hsz hL hS
theorem said : Rows.ValueFitsSaid :=
  OpenClaim.holds_of_cond 5 Tryd.f5 rfl rfl rfl rfl rfl rfl rfl ⟨rfl, rfl, rfl, rfl, rfl⟩ rfl rfl rfl rfl rfl (by kernel_rfl) Tryd.func5 (by kernel_rfl)
    (of_decide_eq_true (by kernel_rfl)) (by unfold Func.isWrapper; first | (rw [if_pos (by decide +kernel)]; kernel_rfl) | (rw [if_neg (by decide +kernel)]; exact ⟨rfl, rfl⟩))
    (fun os started H enc _ F => by rw [OpenClaim.pre_eq_preRow]; exact lifted os started H enc F)
theorem plain (f : FuncId) (fn : Func) (hf : Tryd.pinned.checked.prog.funcNamed Rows.valueFitsRow.func = some f) (hfn : Tryd.pinned.checked.prog.funcs[f]? = some fn) :
    true = Tryd.pinned.checked.prog.looks [] ∧ ∀ (j : Nat) t, fn.params[j]? = some t → Tryd.pinned.checked.prog.wantsStandIn t = false := by
  obtain rfl : f = 5 := Option.some.inj ((show Tryd.prog.funcNamed Rows.valueFitsRow.func = some 5 by kernel_rfl).symm.trans hf) |>.symm
  obtain rfl : fn = Tryd.f5 := (Option.some.inj (Tryd.func5.symm.trans hfn)).symm
  refine ⟨by kernel_rfl, fun j t ht => ?_⟩
  rw [Tryd.params5] at ht
  have hm : t ∈ [51, 24, 24] := by simpa using Array.mem_of_getElem? ht
  have hall : ([51, 24, 24].all fun u => !Tryd.prog.wantsStandIn u) = true := by kernel_rfl
  exact (show Tryd.prog.wantsStandIn t = false by simpa using List.all_eq_true.1 hall t hm)
theorem card : Rows.ValueFitsCardSaid :=
  Claim7.holds_tied_plain_at .later [] _ _ _ _ said (fun _ h => by cases h) (by kernel_rfl) (fun _ h => by cases h) valueFits_row_tie rfl ⟨rfl, rfl⟩ (by kernel_rfl) rfl plain (by kernel_rfl)
#print axioms card
end Go.Proofs.YtppkffebmoffnaaDoor.valueFits
namespace Go.Proofs.YtppkffebmoffnaaDoor
/-- The card, under a short name, for the claim. -/
theorem valueFits_holds : Rows.ValueFitsCardSaid := valueFits.card
end Go.Proofs.YtppkffebmoffnaaDoor
