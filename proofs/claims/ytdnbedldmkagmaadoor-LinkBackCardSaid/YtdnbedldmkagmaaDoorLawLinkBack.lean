/- Arguments of the seat: links; for the walks. | LinkBack, in the loaded program: the walk. | The card of LinkBack: whatever the input it returns true, and each argument reads as before. The frame is the kit's; the walk is the abstract machine's.
   By the session's AI agent. -/
import Derived.Test.YtdnbedldmkagmaaDoorLb5
import Derived.Test.YtdnbedldmkagmaaDoorCards
import Derived.Test.YtdnbedldmkagmaaDoorTie
import Derived.WalkKit
import Derived.ProofKit
import Derived.OpenShut
import Derived.ShutString
import Derived.ChangeOld
import Derived.Below
import Derived.SizedLaws
import Derived.LaidMore
import Derived.Lay
import Derived.SevenTiedAt
import Derived.Deep.DeepHandedRow
import Derived.Deep.DeepWitnessRowRef
namespace Go.Am.YtdnbedldmkagmaaDoor
open Go.RowKit (Below)
set_option linter.unusedSimpArgs false
set_option linter.unusedVariables false
open Go.Proofs
theorem pair_row {r : List PV} (h : Sh Tryd.prog 34 r) : ∃ o : Pr, rowV Tryd.prog 34 r = eP o ∧ True := by
  obtain ⟨hl, hf⟩ := h.inv_struct Tryd.underlying34
  have c34 : Tryd.prog.cellsOf 34 = 3 := by kernel_rfl
  have c9 : Tryd.prog.cellsOf 9 = 1 := by kernel_rfl
  have c4 : Tryd.prog.cellsOf 4 = 1 := by kernel_rfl
  rw [c34] at hl
  obtain ⟨x0, x1, x2, rfl⟩ := len3_of hl
  have f0 : Sh Tryd.prog 9 (([x0, x1, x2].drop 0).take (Tryd.prog.cellsOf 9)) := hf 0 _ rfl
  have f1 : Sh Tryd.prog 9 (([x0, x1, x2].drop 1).take (Tryd.prog.cellsOf 9)) := hf 1 _ rfl
  have f2 : Sh Tryd.prog 4 (([x0, x1, x2].drop 2).take (Tryd.prog.cellsOf 4)) := hf 2 _ rfl
  rw [c9] at f0 f1
  rw [c4] at f2
  obtain ⟨s, e0, _⟩ := Sh.inv_str Tryd.underlying9 f0
  obtain ⟨t, e1, _⟩ := Sh.inv_str Tryd.underlying9 f1
  obtain ⟨b, e2⟩ := Sh.inv_bool Tryd.underlying4 f2
  simp only [List.drop_succ_cons, List.drop_zero, List.take_succ_cons, List.take_zero] at e0 e1 e2
  cases e0
  cases e1
  cases e2
  exact ⟨(s, t, b), rowV_struct Tryd.underlying34 _, trivial⟩
theorem pairs_arg {x : PV} (h : Sh Tryd.prog 35 [x]) : ∃ l, Lv eP 3 x l := by
  have hc : Tryd.prog.cellsOf 34 = 3 := by kernel_rfl
  obtain ⟨l, hl, _⟩ := h.lst (el := eP) (Q := fun _ => True) Tryd.underlying35 (fun r hr => pair_row hr)
  rw [hc] at hl
  exact ⟨l, hl⟩
theorem link_row {r : List PV} (h : Sh Tryd.prog 37 r) : ∃ o : Lk, rowV Tryd.prog 37 r = eL o ∧ True := by
  obtain ⟨hl, hf⟩ := h.inv_struct Tryd.underlying37
  have c37 : Tryd.prog.cellsOf 37 = 2 := by kernel_rfl
  have c36 : Tryd.prog.cellsOf 32 = 1 := by kernel_rfl
  have c39 : Tryd.prog.cellsOf 35 = 1 := by kernel_rfl
  rw [c37] at hl
  obtain ⟨x0, x1, rfl⟩ := len2_of hl
  have f0 : Sh Tryd.prog 32 (([x0, x1].drop 0).take (Tryd.prog.cellsOf 32)) := hf 0 _ rfl
  have f1 : Sh Tryd.prog 35 (([x0, x1].drop 1).take (Tryd.prog.cellsOf 35)) := hf 1 _ rfl
  rw [c36] at f0
  rw [c39] at f1
  simp only [List.drop_succ_cons, List.drop_zero, List.take_succ_cons, List.take_zero] at f0 f1
  obtain ⟨l, e0, _⟩ := ints_arg f0
  obtain ⟨m, e1⟩ := pairs_arg f1
  exact ⟨(⟨x0, l, e0⟩, ⟨x1, m, e1⟩), rowV_struct Tryd.underlying37 _, trivial⟩
theorem links_arg {x : PV} (h : Sh Tryd.prog 22 [x]) : ∃ l, Lv eL 2 x l := by
  have hc : Tryd.prog.cellsOf 37 = 2 := by kernel_rfl
  obtain ⟨l, hl, _⟩ := h.lst (el := eL) (Q := fun _ => True) Tryd.underlying22 (fun r hr => link_row hr)
  rw [hc] at hl
  exact ⟨l, hl⟩
end Go.Am.YtdnbedldmkagmaaDoor
namespace Go.Am.YtdnbedldmkagmaaDoor
open Go.RowKit (Below)
set_option linter.unusedSimpArgs false
set_option linter.unusedVariables false
theorem linkBack_walk (W : World) (hF : Go.Proofs.YtdnbedldmkagmaaDoor.Facts W.heap.size W) {x y : PV} {v u : Value} (rx : RV W.heap.size { ι := id, n := 0, hw := fun _ => none } W x v) (sx : Sh Go.Proofs.Tryd.prog 22 [x]) (ry : RV W.heap.size { ι := id, n := 0, hw := fun _ => none } W y u) (sy : Sh Go.Proofs.Tryd.prog 22 [y]) (s : ByteArray) :
    Calls Go.Proofs.Tryd.prog 3 #[v, u, .string s] W fun e W' => e = .returned (.bool true) ∧ Below W.heap.size W W' := by
  obtain ⟨l, hb⟩ := links_arg sx
  obtain ⟨m, hc⟩ := links_arg sy
  refine (sound2 tableOk (back_true hb hc s.data.toList) W (gl_ok _ _) hF _ rfl ?_).mono fun e W' ⟨u, g', h1, h2, h3⟩ => ?_
  · intro j x hx
    match j, hx with
    | 0, hx => cases hx; exact rx
    | 1, hx => cases hx; exact ry
    | 2, hx => cases hx; exact .str _ _ rfl
    | j + 3, hx => simp at hx
  · cases h2; exact ⟨h1, h3⟩
end Go.Am.YtdnbedldmkagmaaDoor
namespace Go.Proofs.YtdnbedldmkagmaaDoor.linkBack
open Go.ChangeShapes Go.WideShapes Go.ChangeAt Go.RowKit
open Go.ChangeMaps (open_string shut_string)
set_option linter.unusedVariables false
theorem own : ownKnob Tryd.prog.godebug = none := by kernel_rfl
theorem laidOut : laidOutB Tryd.prog = true := by kernel_rfl
set_option maxRecDepth 100000 in
theorem contract (H : Type) (enc : TypeId × Value → H) (W : World) (base : Nat) (args : Array Value) (ds gs : List (DataW H)) (before : List MemPlace)
    (hval0 : ∀ (j : Nat) t v, Tryd.f3.params[j]? = some t → args[j]? = some v → Value.okWide Tryd.prog W .any base t v)
    (hW : DataW.Whole enc Tryd.prog Tryd.f3.params.toList Rows.linkBackSpec.vars false W args.toList ds gs before)
    (hsz0 : (DataW.weightsEach Tryd.prog (Tryd.f3.params.toList ++ Rows.linkBackSpec.plain.varTypes Tryd.prog) (ds ++ gs)).all (· ≤ reachBytes) = true) (hL : laidMetH Tryd.prog Rows.linkBackRow.laid W) (hS : W.ShapedOpen Tryd.prog) :
    Calls Tryd.prog 3 args W fun e W' => ∃ v, e = .returned v ∧ Rows.linkBackSpec.post enc Tryd.prog Tryd.f3 false true false false W args v W' := by
  have hsz := hsz0
  have hval := hval0
  have hW' := hW
  obtain ⟨p, q, hA0, hV, rfl, hfz, hnd⟩ := hW
  have hA : DataW.TrodAll enc Tryd.prog W 0 (fun _ => true) true Tryd.f3.params.toList args.toList ds p := hA0
  rw [Tryd.params3] at hA hval hsz
  obtain ⟨v0, vs0, d0, ds0, p0, q0, hargs, rfl, rfl, h0, r0⟩ := trodAll_cons hA
  obtain ⟨v1, vs1, d1, ds1, p1, q1, rfl, rfl, rfl, h1, r1⟩ := trodAll_cons r0
  obtain ⟨v2, vs2, d2, ds2, p2, q2, rfl, rfl, rfl, h2, r2⟩ := trodAll_cons r1
  obtain ⟨rfl, rfl, rfl⟩ := trodAll_nil r2
  obtain rfl : args = #[v0, v1, v2] := by cases args; simp_all
  obtain ⟨rfl, rfl⟩ := trodVars_none hV
  have hL2 : laidMet Tryd.prog Rows.linkBackRow.laid W := by rw [MakeChecks.laidMetH_plain _ _ _ (by kernel_rfl)] at hL; exact hL
  have hF : Facts W.heap.size W := facts_of hL2 hS (by simp [Rows.linkBackRow]) (by simp [Rows.linkBackRow]) (by simp [Rows.linkBackRow])
  have k0 := h0
  have lt0 : ∀ x ∈ p0, x.block < W.heap.size := by obtain ⟨m, hm⟩ := k0; exact DataW.trod_lt m _ _ _ hm
  obtain ⟨a0, len0, cap0, rfl⟩ := okWide_slice Tryd.underlying22 (hval 0 22 v0 rfl rfl)
  obtain ⟨x0, rx0, sx0⟩ := Go.Am.open_arg (g := ⟨id, 0, fun _ => none, fun _ => default⟩) k0 rfl 20 (by kernel_rfl) (fun n hn => by have := List.all_eq_true.1 hsz _ (DataW.weights_mem_each (j := 0) (t := 22) rfl rfl n hn); simpa using this)
  have k1 := h1
  have lt1 : ∀ x ∈ p1, x.block < W.heap.size := by obtain ⟨m, hm⟩ := k1; exact DataW.trod_lt m _ _ _ hm
  obtain ⟨a1, len1, cap1, rfl⟩ := okWide_slice Tryd.underlying22 (hval 1 22 v1 rfl rfl)
  obtain ⟨x1, rx1, sx1⟩ := Go.Am.open_arg (g := ⟨id, 0, fun _ => none, fun _ => default⟩) k1 rfl 20 (by kernel_rfl) (fun n hn => by have := List.all_eq_true.1 hsz _ (DataW.weights_mem_each (j := 1) (t := 22) rfl rfl n hn); simpa using this)
  have k2 := h2
  have lt2 : ∀ x ∈ p2, x.block < W.heap.size := by obtain ⟨m, hm⟩ := k2; exact DataW.trod_lt m _ _ _ hm
  obtain ⟨a2, rfl, rfl, rfl, y2⟩ := open_string Tryd.underlying9 (hval 2 9 v2 rfl rfl) h2
  refine (Go.Am.YtdnbedldmkagmaaDoor.linkBack_walk W hF rx0 sx0 rx1 sx1 a2).mono fun e W' ⟨he, bel⟩ => ?_
  subst he
  exact ⟨_, rfl, _, _, _, [], _, [], hW', trodAll_mk1 (shut_bool Tryd.underlying4 _), (trodAll_cons_mk (Below.trod laidOut (by kernel_rfl) (of_decide_eq_true (by kernel_rfl)) k0 bel lt0) (trodAll_cons_mk (Below.trod laidOut (by kernel_rfl) (of_decide_eq_true (by kernel_rfl)) k1 bel lt1) (trodAll_cons_mk (shut_string Tryd.underlying9 y2) trodAll_mk0))), rfl, bel.frame _, fun h => by cases h⟩
noncomputable abbrev laidWorld (os : Os) : World := World.laidAll Tryd.prog os Rows.linkBackRow.laid
theorem laid_met (os : Os) (args : Array Value) : laidMet Tryd.prog Rows.linkBackRow.laid ((laidWorld os).forCall (fun _ _ => 0) ⟨#[], args, []⟩).memory := laidMet_laidAll _ (by kernel_rfl) (by kernel_rfl)
theorem reads (os : Os) {H : Type} (enc : TypeId × Value → H) : ∃ places, DataW.whole enc Tryd.prog ((laidWorld os).forCall (fun _ _ => 0) ⟨#[], #[.slice none 0 0, .slice none 0 0, .string ByteArray.empty], []⟩).memory Tryd.f3.params.toList Rows.linkBackSpec.vars false (#[.slice none 0 0, .slice none 0 0, .string ByteArray.empty] : Array Value).toList 8 = some ([.nil, .nil, .lit (.string [])], [], places) := by
  have hw : (DataW.whole enc Tryd.prog ((laidWorld os).forCall (fun _ _ => 0) ⟨#[], #[.slice none 0 0, .slice none 0 0, .string ByteArray.empty], []⟩).memory Tryd.f3.params.toList Rows.linkBackSpec.vars false (#[.slice none 0 0, .slice none 0 0, .string ByteArray.empty] : Array Value).toList 8).map (fun x => (x.1, x.2.1)) = some ([.nil, .nil, .lit (.string [])], []) := by kernel_rfl
  obtain ⟨⟨x1, x2, x3⟩, hx, hx1⟩ := Option.map_eq_some_iff.1 hw
  simp only [Prod.mk.injEq] at hx1
  obtain ⟨rfl, rfl⟩ := hx1
  exact ⟨_, hx⟩
set_option maxRecDepth 100000 in
theorem lifted (os : Os) (started : os.Started) (H : Type) (enc : TypeId × Value → H) (F : Stop.Interp) :
    ReturnsInHanded {} Tryd.checked os 3 .any ((OpenSpec.ofChange Rows.linkBackSpec).preRow enc Tryd.prog Tryd.f3 Rows.linkBackRow.domain false Rows.linkBackRow.laid) (((OpenSpec.ofChange Rows.linkBackSpec).at F).post enc Tryd.prog Tryd.f3 false true false false) := by
  obtain ⟨places, hx⟩ := reads os enc
  refine returnsInHanded_of_row (C := Tryd.checked) (s := OpenSpec.ofChange Rows.linkBackSpec) own started (by kernel_rfl) Tryd.func3
    (witness_row_atRef (enc := enc) (C := Tryd.checked) false (laidWorld os) #[.slice none 0 0, .slice none 0 0, .string ByteArray.empty] (World.laidAll_os _ _ _) (by kernel_rfl) (by kernel_rfl) (by kernel_rfl)
      (OpenSpec.preRow_of_cond 8 hx (by kernel_rfl) (fun k hk => by cases hk) (by kernel_rfl) (laid_met os _))) ?_
  intro W base args ds gs before hval hW _ _ hsz hL hS _
  exact contract H enc W base args ds gs before hval hW hsz hL hS
theorem said : Rows.LinkBackSaid :=
  OpenClaim.holds_of_cond 3 Tryd.f3 rfl rfl rfl rfl rfl rfl rfl ⟨rfl, rfl, rfl, rfl, rfl⟩ rfl rfl rfl rfl rfl (by kernel_rfl) Tryd.func3 (by kernel_rfl)
    (of_decide_eq_true (by kernel_rfl)) (by unfold Func.isWrapper; first | (rw [if_pos (by decide +kernel)]; kernel_rfl) | (rw [if_neg (by decide +kernel)]; exact ⟨rfl, rfl⟩))
    (fun os started H enc _ F => by rw [OpenClaim.pre_eq_preRow]; exact lifted os started H enc F)
theorem plain (f : FuncId) (fn : Func) (hf : Tryd.pinned.checked.prog.funcNamed Rows.linkBackRow.func = some f) (hfn : Tryd.pinned.checked.prog.funcs[f]? = some fn) :
    true = Tryd.pinned.checked.prog.looks [] ∧ ∀ (j : Nat) t, fn.params[j]? = some t → Tryd.pinned.checked.prog.wantsStandIn t = false := by
  obtain rfl : f = 3 := Option.some.inj ((show Tryd.prog.funcNamed Rows.linkBackRow.func = some 3 by kernel_rfl).symm.trans hf) |>.symm
  obtain rfl : fn = Tryd.f3 := (Option.some.inj (Tryd.func3.symm.trans hfn)).symm
  refine ⟨by kernel_rfl, fun j t ht => ?_⟩
  rw [Tryd.params3] at ht
  have hm : t ∈ [22, 22, 9] := by simpa using Array.mem_of_getElem? ht
  have hall : ([22, 22, 9].all fun u => !Tryd.prog.wantsStandIn u) = true := by kernel_rfl
  exact (show Tryd.prog.wantsStandIn t = false by simpa using List.all_eq_true.1 hall t hm)
theorem card : Rows.LinkBackCardSaid :=
  Claim7.holds_tied_plain_at .later [] _ _ _ _ said (fun _ h => by cases h) (by kernel_rfl) (fun _ h => by cases h) linkBack_row_tie rfl ⟨rfl, rfl⟩ (by kernel_rfl) rfl plain (by kernel_rfl)
#print axioms card
end Go.Proofs.YtdnbedldmkagmaaDoor.linkBack
namespace Go.Proofs.YtdnbedldmkagmaaDoor
/-- The card, under a short name, for the claim. -/
theorem linkBack_holds : Rows.LinkBackCardSaid := linkBack.card
end Go.Proofs.YtdnbedldmkagmaaDoor
