/- A text builder's check and its text, at this program's numbers: the walks, and that they are the machine's. | The library's functions at this program, as the machine takes them. | What a row's list of package-level variables gives. | More evaluating equations. By the session's AI agent. | The machine's code as plain functions of what lies in its slots: each operation hands on what it gives. | Points of a function's code: what the rest of the function does from there, as a plain function of the slots. | Code that keeps fewer slots: what it answers, the code answers. | The functions of the seat as the abstract machine's code, printed by a program of this work (wip/v2/shcode.sh, mksh.py). | The abstract machine's code is what the loaded program compiles to, function by function: by the kernel. Printed by wip/v2/mksh.py. | What the functions do from point to point, as equations. Printed by wip/v2/shcode.sh, mksh.py.
   By the session's AI agent. -/
import Derived.Test.YtdnbedldmkagmaaDoorLb2
import Derived.Test.YtdnbedldmkagmaaDoorProg
import Derived.WalkKit
import Derived.ProofKit
import Derived.KernelRfl
import Derived.Laws.Externs
import Derived.Lib.AtoiErrMem
import Derived.Lib.AppendIntMem
import Derived.Test.YtdnbedldmkagmaaDoorRows
import Derived.Lib.LaidTab
import Derived.Lib.LaidU8
import Derived.LaidLaws
import Derived.Stop.LaidErr
import Derived.IntWalk
namespace Go.Proofs.YtdnbedldmkagmaaDoor
open Go Go.Proofs
set_option linter.unusedVariables false
set_option maxHeartbeats 1000000 in
set_option maxRecDepth 100000 in
theorem copyCheck_used (b : Nat) (w : World) (h0 : w.cell? ⟨b, 0, none⟩ = some (.pointer (some ⟨b, 0, none⟩))) :
    Calls Tryd.prog 42 #[.pointer (some ⟨b, 0, none⟩)] w fun e w' => e = .returned (.tuple #[]) ∧ w' = w := by
  have t72 := Tryd.underlying58; have a72 := Tryd.isAgg58; have z72 := Tryd.sizeOf58; have v72 := Tryd.zeroValue58; have u72 := run_underlying Tryd.underlying58
  have t70 := Tryd.underlying55; have a70 := Tryd.isAgg55; have z70 := Tryd.sizeOf55; have v70 := Tryd.zeroValue55; have u70 := run_underlying Tryd.underlying55
  go_enter Tryd.func42, Tryd.ntmps42
  go_wp2
  rw [Lib.run_neq_ptr_same w _ Tryd.underlying55 Tryd.type58]
  go_wp2
  go_end0
  exact ⟨rfl, rfl⟩

set_option maxHeartbeats 1000000 in
set_option maxRecDepth 100000 in
theorem copyCheck_fresh (b : Nat) (w : World) (h0 : w.cell? ⟨b, 0, none⟩ = some (.pointer none)) (hsh : w.shape? b = some (58, 2)) (hfz : w.frozen? ⟨b, 0, none⟩ = false) :
    Calls Tryd.prog 42 #[.pointer (some ⟨b, 0, none⟩)] w fun e w' => e = .returned (.tuple #[]) ∧ w' = w.setCell ⟨b, 0, none⟩ (.pointer (some ⟨b, 0, none⟩)) := by
  have t72 := Tryd.underlying58; have a72 := Tryd.isAgg58; have z72 := Tryd.sizeOf58; have v72 := Tryd.zeroValue58; have u72 := run_underlying Tryd.underlying58
  have t70 := Tryd.underlying55; have a70 := Tryd.isAgg55; have z70 := Tryd.sizeOf55; have v70 := Tryd.zeroValue55; have u70 := run_underlying Tryd.underlying55
  have t164 := Tryd.underlying85; have u164 := run_underlying Tryd.underlying85
  go_enter Tryd.func42, Tryd.ntmps42
  go_wp2
  rw [Lib.run_to_unsafe w ⟨b, 0, none⟩ Tryd.underlying55 Tryd.underlying85 Tryd.type58 (by decide) hsh (Nat.zero_lt_succ 1)]
  simp only [Result.andThen]
  rw [Oper.upon_value]
  go_wp2
  rw [run_callFunc_extern Tryd.func54 (by kernel_rfl) (by kernel_rfl) (by kernel_rfl) (e := Extern.AbiNoEscape.same) (by kernel_rfl)]
  rw [Lib.run_noEscape]
  simp only [Result.andThen]
  rw [Oper.upon_value]
  go_wp2
  rw [Lib.run_from_unsafe w ⟨b, 0, none⟩ Tryd.underlying85 Tryd.underlying55 Tryd.type58 hsh (by kernel_rfl)]
  simp only [Result.andThen]
  rw [Oper.upon_value]
  go_wp2
  go_end0
  exact ⟨rfl, rfl⟩

set_option maxHeartbeats 1000000 in
set_option maxRecDepth 100000 in
theorem string_row (b c cap cells : Nat) (l : List UInt8) (w : World) (h1 : w.cell? ⟨b, 1, none⟩ = some (.slice (some ⟨c, 0, none⟩) l.length cap)) (h0 : l ≠ []) (hc : l.length ≤ cap)
    (hsh : w.shape? c = some (5, cells)) (hn : l.length ≤ cells) (hlim : l.length ≤ 17179869184) (hcell : ∀ j x, l[j]? = some x → w.cell? ((⟨c, 0, none⟩ : Addr).add j) = some (.int .u8 x.toNat)) :
    Calls Tryd.prog 29 #[.pointer (some ⟨b, 0, none⟩)] w fun e w' => e = .returned (.string ⟨l.toArray⟩) ∧ w' = w.drew.freeze ⟨c, 0, none⟩ l.length := by
  have hl0 : l.length ≠ 0 := by simpa using h0
  have c1 : w.drew.cell? ⟨b, 1, none⟩ = some (.slice (some ⟨c, 0, none⟩) l.length cap) := h1
  have hSD : (Builtin.unsafeSliceData_ #[56] 79 #[.slice (some ⟨c, 0, none⟩) l.length cap]).run Tryd.prog w.drew = .ok (.pointer (some ⟨c, 0, none⟩)) w.drew :=
    Lib.run_unsafeSliceData_row _ _ _ _ _ _ (by omega)
  have hUS : (Builtin.unsafeString_ #[79, 3] 9 #[.pointer (some ⟨c, 0, none⟩), .int .i64 l.length]).run Tryd.prog w.drew = .ok (.string ⟨l.toArray⟩) (w.drew.freeze ⟨c, 0, none⟩ l.length) :=
    Lib.run_unsafeString_row w.drew 79 3 9 5 Tryd.underlying79 (by kernel_rfl) c cells hsh l h0 hn (by omega) hcell
  have mixed : Tryd.prog.follows .mixedOrders = true := by kernel_rfl
  go_enter Tryd.func29, Tryd.ntmps29
  go_wp2
  go_region
  all_goals (go_wp2; go_ret; exact ⟨rfl, rfl⟩)

set_option maxHeartbeats 1000000 in
set_option maxRecDepth 100000 in
theorem string_nil (b : Nat) (w : World) (h1 : w.cell? ⟨b, 1, none⟩ = some (.slice none 0 0)) :
    Calls Tryd.prog 29 #[.pointer (some ⟨b, 0, none⟩)] w fun e w' => e = .returned (.string ⟨#[]⟩) ∧ w' = w.drew := by
  have c1 : w.drew.cell? ⟨b, 1, none⟩ = some (.slice none 0 0) := h1
  have hSD : (Builtin.unsafeSliceData_ #[56] 79 #[.slice none 0 0]).run Tryd.prog w.drew = .ok (.pointer none) w.drew := Lib.run_unsafeSliceData_nil _ _ _ _ _
  have hUS : (Builtin.unsafeString_ #[79, 3] 9 #[.pointer none, .int .i64 0]).run Tryd.prog w.drew = .ok (.string ByteArray.empty) w.drew := Lib.run_unsafeString_none _ _ _ _ _
  have mixed : Tryd.prog.follows .mixedOrders = true := by kernel_rfl
  go_enter Tryd.func29, Tryd.ntmps29
  go_wp2
  go_region
  all_goals (go_wp2; go_ret; exact ⟨rfl, rfl⟩)

open Go.Am in
theorem prim_copyCheck {I : Nat → World → Prop} : PrimOk Tryd.prog I 42 (pCopyCheck 58) := primOk_copyCheck (Am.enters_of Tryd.func42 (by kernel_rfl) rfl) copyCheck_used copyCheck_fresh
open Go.Am in
theorem prim_string {I : Nat → World → Prop} : PrimOk Tryd.prog I 29 (pString 5) := primOk_string (Am.enters_of Tryd.func29 (by kernel_rfl) rfl) string_nil string_row
end Go.Proofs.YtdnbedldmkagmaaDoor
namespace Go.Proofs.YtdnbedldmkagmaaDoor
open Go Go.Proofs Go.Am
open Go.RowKit (Below)
set_option linter.unusedVariables false

/-- What is known of the package-level variables when a call begins. -/
structure Facts (N0 : Nat) (w0 : World) : Prop where
  size : 5 < N0
  tab : Lib.TabIs Tryd.prog w0 "internal/strconv.uint64pow10" .u64 Lib.pow10Tab
  syn : ∃ te pe, w0.cell? ⟨4, 0, none⟩ = some (.iface te pe)
  ran : ∃ te pe, w0.cell? ⟨5, 0, none⟩ = some (.iface te pe)

theorem facts_tab {N0 : Nat} {w0 w : World} (h : Facts N0 w0) (hb : Below N0 w0 w) : Lib.TabIs Tryd.prog w "internal/strconv.uint64pow10" .u64 Lib.pow10Tab :=
  var?_below hb (g := 1) (by kernel_rfl) (by have := h.size; omega) h.tab
theorem facts_cell {N0 : Nat} {w0 w : World} (h : Facts N0 w0) (hb : Below N0 w0 w) {c o : Nat} (hc : c ≤ 5) : w.cell? ⟨c, o, none⟩ = w0.cell? ⟨c, o, none⟩ :=
  below_cell hb (by have := h.size; omega) o

theorem p_itoa : PrimOk Tryd.prog Facts 39 (fun vs h => (pItoa vs).map fun r => (r, none)) :=
  prim_itoa (Am.enters_of Tryd.func39 (by kernel_rfl) rfl) (fun _ _ _ h hb => facts_tab h hb) fun n h0 h1 w ht => (Tryd.strconv_Itoa n h0 h1 w ht).mono fun e w' ⟨h1, k, os, h2⟩ => ⟨h1, h2 ▸ Lib.below_grow _ _ (Nat.le_refl _) _ _⟩
theorem p_index : PrimOk Tryd.prog Facts 69 (fun vs h => (pIndex1 vs).map fun r => (r, none)) :=
  prim_index1 (Am.enters_of Tryd.func69 (by kernel_rfl) rfl) Tryd.strings_Index_one
theorem p_count : PrimOk Tryd.prog Facts 68 (fun vs h => (pCount1 vs).map fun r => (r, none)) :=
  prim_count1 (Am.enters_of Tryd.func68 (by kernel_rfl) rfl) Tryd.strings_Count_one
theorem p_join : PrimOk Tryd.prog Facts 19 (fun vs h => (pJoin vs).map fun r => (r, none)) :=
  prim_join (Am.enters_of Tryd.func19 (by kernel_rfl) rfl) Tryd.strings_Join_none Tryd.strings_Join
theorem p_atoi : PrimOk Tryd.prog Facts 66 (fun vs h => (pAtoi 120 vs).map fun r => (r, none)) :=
  prim_atoi (Am.enters_of Tryd.func66 (by kernel_rfl) rfl)
    (fun s v w hs hv => (Tryd.strconv_Atoi_ok s (by omega) v hv w).mono fun e w' ⟨h1, h2⟩ => ⟨h1, by
      rcases h2 with rfl | ⟨t, rfl⟩
      · exact Below.refl _ _
      · exact Lib.bytesWorld_below _ _ _⟩)
    (fun N0 w0 hI s w hb hs hv1 hv2 => by
      obtain ⟨te, pe, hc⟩ := hI.syn
      exact (Tryd.strconv_Atoi_syntax s hs hv1 hv2 (.iface te pe) w (by rw [facts_cell hI hb (by omega)]; exact hc) (.inr ⟨_, _, rfl⟩)).mono fun e w' ⟨N, h1, _, _, h2⟩ => ⟨N, h1, h2⟩)
    (fun N0 w0 hI s w hb hs hv => by
      obtain ⟨te, pe, hc⟩ := hI.ran
      exact (Tryd.strconv_Atoi_range s hs hv (.iface te pe) w (by rw [facts_cell hI hb (by omega)]; exact hc) (.inr ⟨_, _, rfl⟩)).mono fun e w' ⟨N, h1, _, _, h2⟩ => ⟨N, h1, h2⟩)
end Go.Proofs.YtdnbedldmkagmaaDoor
namespace Go.Proofs.YtdnbedldmkagmaaDoor
open Go Go.Proofs Go.Lib
set_option linter.unusedVariables false
set_option maxRecDepth 100000
theorem sentinel_cell {W : World} {n nm : String} {d : DataW Unit} {g : Nat} (hg : Tryd.prog.globalNamed n = some g) (hty : (Tryd.prog.globals[g]?).map (·.type) = some 61) (h : VarReads Tryd.prog W n (.iface nm d)) :
    ∃ te pe, W.cell? ⟨g, 0, none⟩ = some (.iface te pe) := by
  obtain ⟨g', t, cs, fuel, p, h1, h2, h3, h4⟩ := h
  obtain rfl := Option.some.inj (hg.symm.trans h1)
  obtain rfl := Option.some.inj (hty.symm.trans h2)
  have := iface_of_trod Tryd.underlying61 h4
  obtain ⟨_, u, v, hcs, _⟩ := this
  refine ⟨u, v, ?_⟩
  rw [World.var?_cell hg h3 0, ← Array.getElem?_toList, hcs]
  rfl
theorem facts_of {W : World} {l : List (String × DataW Unit)} (h : laidMet Tryd.prog l W) (hs : W.ShapedOpen Tryd.prog) (h1 : ("internal/strconv.uint64pow10", Rows.laid_internal_strconv_uint64pow10) ∈ l)
    (h4 : ("strconv.ErrSyntax", Rows.laid_strconv_ErrSyntax) ∈ l) (h5 : ("strconv.ErrRange", Rows.laid_strconv_ErrRange) ∈ l) : Facts W.heap.size W := by
  have e6 := sentinel_cell (g := 4) (by kernel_rfl) (by kernel_rfl) (laidMet.reads h h4)
  have e7 := sentinel_cell (g := 5) (by kernel_rfl) (by kernel_rfl) (laidMet.reads h h5)
  refine ⟨?_, ?_, e6, e7⟩
  · obtain ⟨te, pe, hc⟩ := e7
    rcases Nat.lt_or_ge 5 W.heap.size with h' | h'
    · exact h'
    · simp [World.cell?, Array.getElem?_eq_none h'] at hc
  · obtain ⟨g, t, cs, fuel, p, q1, q2, q3, q4⟩ := laidMet.reads h h1
    obtain rfl := Option.some.inj ((show Tryd.prog.globalNamed "internal/strconv.uint64pow10" = some 1 by kernel_rfl).symm.trans q1)
    obtain rfl := Option.some.inj ((show (Tryd.prog.globals[1]?).map (·.type) = some 105 by kernel_rfl).symm.trans q2)
    unfold TabIs
    have q5 : DataW.trod (fun _ => ()) Tryd.prog W 0 (fun _ => true) false fuel 105 cs.toList = some (tabData .u64 pow10Tab, p) := q4
    rw [q3, ← cells_of_tab Tryd.underlying105 Tryd.underlying96 (by kernel_rfl) (by kernel_rfl) q5]
end Go.Proofs.YtdnbedldmkagmaaDoor
namespace Go.Am
set_option linter.unusedVariables false
set_option linter.unusedSimpArgs false
theorem evParts_nil (e : Env) : evParts e [] = some [] := (rfl)
theorem evParts_cons (e : Env) (i x r) : evParts e ((i, x) :: r) = (ev e x).bnd fun v => (evParts e r).bnd fun l => some ((i, strip v) :: l) := by
  show Option.bnd _ _ = _
  congr 1; funext v; cases evParts e r <;> rfl
theorem evParts3_nil (e : Env) : evParts3 e [] = some [] := (rfl)
theorem evParts3_cons (e : Env) (i n x r) : evParts3 e ((i, n, x) :: r) = (ev e x).bnd fun v => (evParts3 e r).bnd fun l => some ((i, n, v) :: l) := by
  show Option.bnd _ _ = _
  congr 1; funext v; cases evParts3 e r <;> rfl
theorem fillParts_nil (sz cs) : fillParts sz [] cs = some cs := (rfl)
theorem fillParts_cons (sz i v r cs) : fillParts sz ((i, v) :: r) cs = if v.cells.length = sz ∧ i < cs.length ∧ v.cells.all scalar = true then fillParts sz r (cs.set i v) else none := (rfl)
theorem buildAgg_nil (cs) : buildAgg [] cs = some cs := (rfl)
theorem buildAgg_cons (off n v r cs) : buildAgg ((off, n, v) :: r) cs = if v.cells.length = n ∧ off + n ≤ cs.length ∧ v.cells.all scalar = true then buildAgg r (setRange cs off v.cells) else none := (rfl)
theorem elems_nils (h) : elems h .nils = some [] := (rfl)
theorem elems_sl (h o sz es) : elems h (.sl o sz es) = some es := (rfl)
theorem elems_bsl (h f b off len) : elems h (.bsl f b off len 1) = (getBox h b).bnd fun cs => if off + len ≤ cs.length ∧ ((cs.drop off).take len).all scalar = true then some ((cs.drop off).take len) else none := (rfl)
theorem elems_str (h s) : elems h (.str s) = some (s.map fun c => .int .u8 c.toNat) := (rfl)
theorem appB_full (xs : List PV) (sz es e h) (hx : xs.all (fun x => x.cells.length == sz) = true) (hl : es.length + xs.length ≤ lim2) :
    appB xs sz (.sl .full sz es) e h = some (if xs.isEmpty then .sl .full sz es else .sl .no sz (es ++ strips xs), e, h) := by
  simp [appB, hx, hl]

/-! Frames of which not all is known. -/
def orr : Option PV → Option PV → Option PV
  | some v, _ => some v
  | none, o => o
theorem orr_some (v o) : orr (some v) o = some v := (rfl)
theorem orr_none (o) : orr none o = o := (rfl)
theorem orr_right (o) : orr o none = o := by cases o <;> rfl
theorem look_pruneC (t o r s) : look (pruneC t o r) s = if t = s then orr o (look r s) else look r s := by
  cases o with
  | none => show look r s = _; split <;> rfl
  | some v => rfl
theorem fits_def (sz x) : fits sz x = (x.cells.length == sz && x.cells.all scalar) := (rfl)
theorem ix_nat (k : IntKind) (i n : Nat) (h : i < n) : ix (.int k i) n = some i := by
  simp [ix, h]
theorem getElem_append_mid {α : Type} (a : List α) (x : α) (r : List α) : (a ++ x :: r)[a.length]? = some x := by simp
theorem wrap_small {n : Int} (h0 : -9223372036854775808 ≤ n) (h1 : n ≤ 9223372036854775807) : IntKind.i64.wrap n = n := by rw [IntKind.wrap_i64]; omega

/-! Answers of which a law alone is known. -/
def Ans {α : Type} (x : Option α) (Q : α → Prop) : Prop := ∃ a, x = some a ∧ Q a
theorem Ans.some {α : Type} {a : α} {Q : α → Prop} (h : Q a) : Ans (some a) Q := ⟨a, rfl, h⟩
theorem Ans.of {α : Type} {x : Option α} {a : α} {Q : α → Prop} (hx : x = Option.some a) (h : Q a) : Ans x Q := ⟨a, hx, h⟩
theorem Ans.mono {α : Type} {x : Option α} {P Q : α → Prop} (h : Ans x P) (hPQ : ∀ a, P a → Q a) : Ans x Q := by
  obtain ⟨a, h1, h2⟩ := h
  exact ⟨a, h1, hPQ a h2⟩
theorem Ans.bndX {α : Type} {X : Option (AEx × Env × Hp)} {K : AEx → Env → Hp → Option α} {P : AEx × Env × Hp → Prop} {Q : α → Prop} (hX : Ans X P) (hK : ∀ x e h, P (x, e, h) → Ans (K x e h) Q) : Ans (bndX X K) Q := by
  obtain ⟨⟨x, e, h⟩, rfl, hp⟩ := hX
  exact hK x e h hp
theorem bndX_assoc {α : Type} (X : Option (AEx × Env × Hp)) (f : AEx → Env → Hp → Option (AEx × Env × Hp)) (g : AEx → Env → Hp → Option α) : bndX (bndX X f) g = bndX X fun x e h => bndX (f x e h) g := by
  cases X with
  | none => rfl
  | some r => rfl
theorem Ans.ite {α : Type} {c : Prop} [Decidable c] {x y : Option α} {Q : α → Prop} (hx : c → Ans x Q) (hy : ¬ c → Ans y Q) : Ans (if c then x else y) Q := by
  split
  · rename_i hc; exact hx hc
  · rename_i hc; exact hy hc
theorem Ans.eq {α : Type} {x y : Option α} {Q : α → Prop} (h : x = y) (hy : Ans y Q) : Ans x Q := h ▸ hy
theorem R_loop_of {T : Table} {a b : ACode} {base : Nat} {e : Env} {h : Hp} (hab : a = b) : ExecA T (.loop a) base e h = Go.Am.bndX (ExecA T b base e h) fun x e h => onNorm x (ExecA T (.loop a) base e h) (Option.some (x, e, h)) := by
  subst hab; exact R_loop

noncomputable def appBoxB (xs : List PV) (sz : Nat) (v : PV) (e : Env) (h : Hp) : Option (PV × Env × Hp) := (fullEs h v).bnd fun es =>
      if xs = [] then some (v, e, h) else
      if sz = 1 ∧ xs.all (fun x => x.cells.length == sz) = true ∧ es.all (fun x => x.cells.length == sz) = true ∧ es.length + xs.length ≤ lim2 ∧ xs.all scalar = true ∧ es.all scalar = true then
        some (.bsl false (size h) 0 (es.length + xs.length) sz, e, ext h [.cells (es ++ xs)])
      else none
theorem step_appendBox {orc : Nat → List PV → Hp → Option (PV × Hp)} {base : Nat} {draw : Bool} {e : Env} {h : Hp} (sz s x) : step orc base draw (.appendBox sz s x) e h = (ev e s).bnd fun v => (ev e x).bnd fun u => (elems h u).bnd fun xs => appBoxB xs sz v e h := (rfl)
theorem X_appendBox {orc : Nat → List PV → Hp → Option (PV × Hp)} {base : Nat} {draw : Bool} {e : Env} {h : Hp} (d sz s x r) : execOps orc base draw (⟨d, none, .appendBox sz s x⟩ :: r) e h = (ev e s).bnd fun v => (ev e x).bnd fun u => (elems h u).bnd fun xs => bnd3 (appBoxB xs sz v e h) fun v e h => execOps orc base draw r (putD e d v) h := by
  rw [execOps_plain, step_appendBox]; simp only [bnd3_bnd, bnd3_some]
theorem appBoxB_full (xs : List PV) (e h) (h1 : xs.all (fun x => x.cells.length == 1) = true) (h2 : 0 < xs.length) (h3 : xs.length ≤ lim2) (h4 : xs.all scalar = true) :
    appBoxB xs 1 (.sl .full 1 []) e h = some (.bsl false (size h) 0 xs.length 1, e, ext h [.cells xs]) := by
  have hne : xs ≠ [] := by rintro rfl; cases h2
  simp [appBoxB, fullEs, Option.bnd, h1, h3, h4, hne]

/-! The other operations. -/
section more
variable {orc : Nat → List PV → Hp → Option (PV × Hp)} {base : Nat} {draw : Bool} {e : Env} {h : Hp}
def strBytesB (bx : Bool) (v : PV) (h : Hp) : Option (PV × Hp) := match v with
    | .str s => if s.length ≤ limS then (if bx then some (.bsl false (size h) 0 s.length 1, ext h [.cells (s.map fun c => .int .u8 c.toNat)]) else some (.sl .no 1 (s.map fun c => .int .u8 c.toNat), h)) else none
    | _ => none
theorem strBytesB_val (s h) (hs : s.length ≤ limS) : strBytesB false (.str s) h = some (.sl .no 1 (s.map fun c => .int .u8 c.toNat), h) := by simp [strBytesB, hs]
theorem strBytesB_box (s h) (hs : s.length ≤ limS) : strBytesB true (.str s) h = some (.bsl false (size h) 0 s.length 1, ext h [.cells (s.map fun c => .int .u8 c.toNat)]) := by simp [strBytesB, hs]
theorem X_strBytes (d bx x r) : execOps orc base draw (⟨d, none, .strBytes bx x⟩ :: r) e h = (ev e x).bnd fun v => bnd2 (strBytesB bx v h) fun v h => execOps orc base draw r (putD e d v) h := by
  rw [execOps_plain]
  show bnd3 (Option.bnd _ _) _ = _
  rw [bnd3_bnd]
  congr 1; funext v
  cases v <;> try rfl
  rename_i s
  simp only [strBytesB]
  split
  · cases bx <;> rfl
  · rfl
noncomputable def bytesStrB (h : Hp) (v : PV) : Option PV := match v with
    | .str _ => none
    | v => (elems h v).bnd fun es => (bytesOf es).bnd fun s => some (.str s)
theorem bytesStrB_sl (h o z es) : bytesStrB h (.sl o z es) = (bytesOf es).bnd fun s => some (.str s) := (rfl)
theorem bytesStrB_nils (h) : bytesStrB h .nils = some (.str []) := (rfl)
theorem bytesStrB_bsl (h f b off len z) : bytesStrB h (.bsl f b off len z) = (elems h (.bsl f b off len z)).bnd fun es => (bytesOf es).bnd fun s => some (.str s) := (rfl)
theorem bytesOf_bytes : ∀ s : List UInt8, bytesOf (s.map fun c => .int .u8 (c.toNat : Int)) = some s
  | [] => rfl
  | c :: s => by simp [bytesOf, bytesOf_bytes s]
theorem X_bytesStr (d x r) : execOps orc base draw (⟨d, none, .bytesStr x⟩ :: r) e h = (ev e x).bnd fun v => (bytesStrB h v).bnd fun v => execOps orc base draw r (putD e d v) h := by
  rw [execOps_plain]
  show bnd3 (Option.bnd _ _) _ = _
  rw [bnd3_bnd]
  congr 1; funext v
  cases v <;> first | rfl | (simp only [bytesStrB, bnd3_bnd, bnd_assoc, bnd3_some, Option.bnd_some])
theorem X_mkfn (d f cap r) : execOps orc base draw (⟨d, none, .mkfn f cap⟩ :: r) e h = (evs e cap).bnd fun vs => execOps orc base draw r (putD e d (.fn f vs)) h := by
  rw [execOps_plain]
  show bnd3 (Option.bnd _ _) _ = _
  rw [bnd3_bnd]; rfl
def rangeB (v : PV) (h : Hp) : Option (PV × Hp) := match v with
    | .str s => some (.it (size h), ext h [.iter s 0])
    | _ => none
theorem rangeB_str (s h) : rangeB (.str s) h = some (.it (size h), ext h [.iter s 0]) := (rfl)
theorem X_range (d x r) : execOps orc base draw (⟨d, none, .range x⟩ :: r) e h = (ev e x).bnd fun v => bnd2 (rangeB v h) fun v h => execOps orc base draw r (putD e d v) h := by
  rw [execOps_plain]
  show bnd3 (Option.bnd _ _) _ = _
  rw [bnd3_bnd]
  congr 1; funext v
  cases v <;> rfl
noncomputable def nextB (v : PV) (h : Hp) : Option (PV × Hp) := match v with
    | .it b => (getIter h b).bnd fun p =>
      if p.2 < p.1.length then some (.tup [.bool true, .int .i64 p.2, .int .i32 (runeAt p.1 p.2).1], setBx h b (.iter p.1 (p.2 + (runeAt p.1 p.2).2)))
      else some (.tup [.bool false], h)
    | _ => none
theorem nextB_more {h b s p} (hb : getIter h b = some (s, p)) (hp : p < s.length) : nextB (.it b) h = some (.tup [.bool true, .int .i64 p, .int .i32 (runeAt s p).1], setBx h b (.iter s (p + (runeAt s p).2))) := by
  simp only [nextB, hb, Option.bnd_some, if_pos hp]
theorem nextB_over {h b s p} (hb : getIter h b = some (s, p)) (hp : ¬ p < s.length) : nextB (.it b) h = some (.tup [.bool false], h) := by
  simp only [nextB, hb, Option.bnd_some, if_neg hp]
theorem X_next (d x r) : execOps orc base draw (⟨d, none, .next x⟩ :: r) e h = (ev e x).bnd fun v => bnd2 (nextB v h) fun v h => execOps orc base draw r (putD e d v) h := by
  rw [execOps_plain]
  show bnd3 (Option.bnd _ _) _ = _
  rw [bnd3_bnd]
  congr 1; funext v
  cases v <;> try rfl
  rename_i b
  simp only [nextB]
  cases getIter h b with
  | none => rfl
  | some p =>
    simp only [Option.bnd_some]
    split <;> rfl
def tassertB (t : Nat) (ok : Bool) (z v : PV) : Option PV := match v with
    | .iface t' u => if t' = t then (if ok then some (.tup [u, .bool true]) else some u) else if ok then some (.tup [z, .bool false]) else none
    | .nilif => if ok then some (.tup [z, .bool false]) else none
    | _ => none
theorem tassertB_iface (t ok z t' u) : tassertB t ok z (.iface t' u) = if t' = t then (if ok then some (.tup [u, .bool true]) else some u) else if ok then some (.tup [z, .bool false]) else none := (rfl)
theorem tassertB_nil (t ok z) : tassertB t ok z .nilif = if ok then some (.tup [z, .bool false]) else none := (rfl)
theorem X_tassert (d t ok z x r) : execOps orc base draw (⟨d, none, .tassert t ok z x⟩ :: r) e h = (ev e x).bnd fun v => (tassertB t ok z v).bnd fun v => execOps orc base draw r (putD e d v) h := by
  rw [execOps_plain]
  show bnd3 (Option.bnd _ _) _ = _
  rw [bnd3_bnd]
  congr 1; funext v
  cases v <;> try rfl
  · cases ok <;> rfl
  · simp only [tassertB]
    split
    · cases ok <;> rfl
    · cases ok <;> rfl
noncomputable def eqvB (neg : Bool) (ks : List Nat) (a b : PV) : Option PV := match a, b with
    | .agg cs, .agg ds => (eqCells ks cs ds).bnd fun b => some (.bool (if neg then !b else b))
    | _, _ => none
theorem eqvB_agg (neg ks cs ds) : eqvB neg ks (.agg cs) (.agg ds) = (eqCells ks cs ds).bnd fun b => some (.bool (if neg then !b else b)) := (rfl)
theorem eqCells_nil : eqCells [] [] [] = some true := (rfl)
theorem eqCells_cons (k ks x xs y ys) : eqCells (k :: ks) (x :: xs) (y :: ys) = (eqCell k x y).bnd fun b => (eqCells ks xs ys).bnd fun c => some (b && c) := (rfl)
theorem eqCell_bool (a b) : eqCell 0 (.bool a) (.bool b) = some (a == b) := (rfl)
theorem eqCell_int (k a j b) : eqCell 1 (.int k a) (.int j b) = if k = j then some (a == b) else none := (rfl)
theorem eqCell_str (a b) : eqCell 2 (.str a) (.str b) = some (a == b) := (rfl)
theorem X_eqv (d neg ks x y r) : execOps orc base draw (⟨d, none, .eqv neg ks x y⟩ :: r) e h = (ev e x).bnd fun a => (ev e y).bnd fun b => (eqvB neg ks a b).bnd fun v => execOps orc base draw r (putD e d v) h := by
  rw [execOps_plain]
  show bnd3 (Option.bnd _ _) _ = _
  rw [bnd3_bnd]
  congr 1; funext a
  rw [bnd3_bnd]
  congr 1; funext b
  cases a <;> try rfl
  cases b <;> try rfl
  simp only [eqvB, bnd_assoc, Option.bnd_some]
  rw [bnd3_bnd]; rfl
def makeB (T : Nat) (z : List PV) (n : Nat × Nat) (h : Hp) : Option (PV × Hp) :=
      if n.1 = n.2 then some (.bsl true (size h) 0 n.1 z.length, ext h [.cells (List.flatten (List.replicate n.1 z))])
      else if n.1 = 0 then some (.sl (.tok (size h)) z.length [], ext h [.tok 0 T]) else none
theorem makeB_eq (T z n h) : makeB T z (n, n) h = some (.bsl true (size h) 0 n z.length, ext h [.cells (List.flatten (List.replicate n z))]) := by simp [makeB]
theorem makeN_int (k l j c) : makeN (.int k l) (.int j c) = if 0 ≤ l ∧ l ≤ c ∧ c ≤ lim2 then some (l.toNat, c.toNat) else none := (rfl)
theorem makeN_nat (k j) (n : Nat) (hn : n ≤ lim2) : makeN (.int k n) (.int j n) = some (n, n) := by
  rw [makeN_int, if_pos (by omega)]; simp
theorem X_makeSl (d T z g l c r) : execOps orc base draw (⟨d, none, .makeSl T z g l c⟩ :: r) e h = (ev e l).bnd fun l => (ev e c).bnd fun c => (makeN l c).bnd fun n => bnd2 (makeB T z n h) fun v h => execOps orc base draw r (putD e d v) h := by
  rw [execOps_plain]
  show bnd3 (Option.bnd _ _) _ = _
  rw [bnd3_bnd]
  congr 1; funext a
  rw [bnd3_bnd]
  congr 1; funext b
  rw [bnd3_bnd]
  congr 1; funext n
  simp only [makeB]
  split
  · rfl
  · split <;> rfl

theorem nextB_it (b h) : nextB (.it b) h = (getIter h b).bnd fun p => if p.2 < p.1.length then some (.tup [.bool true, .int .i64 p.2, .int .i32 (runeAt p.1 p.2).1], setBx h b (.iter p.1 (p.2 + (runeAt p.1 p.2).2)))
      else some (.tup [.bool false], h) := (rfl)
def bdV (n : Nat) : PV → Option Nat
  | .int _ i => if 0 ≤ i ∧ i ≤ n then some i.toNat else none
  | _ => none
theorem bdV_int (n k i) : bdV n (.int k i) = if 0 ≤ i ∧ i ≤ n then some i.toNat else none := (rfl)
theorem bdV_nat (n k) (i : Nat) (h : i ≤ n) : bdV n (.int k i) = some i := by rw [bdV_int, if_pos (by omega)]; simp
theorem bd_none (e n d) : bd e n d none = some d := (rfl)
theorem bd_some (e n d x) : bd e n d (some x) = (ev e x).bnd fun v => bdV n v := (rfl)
theorem sliceOf_str (e lo hi s) : sliceOf e none lo hi none (.str s) = (bd e s.length s.length hi).bnd fun hh => (bd e hh 0 lo).bnd fun l => some (.str ((s.drop l).take (hh - l))) := (rfl)
theorem sliceOf_nils (e z lo hi mx) : sliceOf e (some z) lo hi mx .nils = (bd e 0 0 mx).bnd fun m => (bd e 0 0 hi).bnd fun hh => (bd e 0 0 lo).bnd fun l => some .nils := (rfl)
theorem sliceOf_sl (e z lo hi o es) : sliceOf e (some z) lo hi none (.sl o z es) = (bd e es.length es.length hi).bnd fun hh => (bd e hh 0 lo).bnd fun l =>
      some (.sl (if isFull o && hh == es.length then .full else .no) z ((es.drop l).take (hh - l))) := by
  simp [sliceOf, bd_none, Option.bnd_some]
theorem isFull_no : isFull .no = false := (rfl)
theorem isFull_full : isFull .full = true := (rfl)
theorem isFull_tok (t) : isFull (.tok t) = false := (rfl)

/-! Slices that grow. -/
theorem growT_one_nils (h T sz x) (hx : fits sz x = true) : growT h T sz .nils [x] = some (.sl (.tok (size h)) sz [strip x], ext h [.tok 1 T]) := by
  simp [growT, hx, lim2, strips]
/-- What grows: nothing yet, or all that is known of its token. -/
structure Buf (h : Hp) (o : PV) (T sz : Nat) (es : List PV) (v : PV) : Prop where
  is : (v = o ∧ es = [] ∧ (o = .nils ∨ o = .sl .full sz [])) ∨ ∃ t, v = .sl (.tok t) sz es ∧ getTok h t = some (es.length, T) ∧ es ≠ []
end more

/-! A heap over another: the other's boxes are as they were. -/
structure Ov (h k : Hp) : Prop where
  size : size h ≤ Go.Am.size k
  same : ∀ b, b < Go.Am.size h → box? k b = box? h b
theorem Ov.refl (h : Hp) : Ov h h := ⟨Nat.le_refl _, fun _ _ => rfl⟩
theorem Ov.trans {a b c : Hp} (x : Ov a b) (y : Ov b c) : Ov a c := ⟨Nat.le_trans x.size y.size, fun n hn => (y.same n (Nat.lt_of_lt_of_le hn x.size)).trans (x.same n hn)⟩
theorem Ov.ext {h k : Hp} (x : Ov h k) (l : List Box) : Ov h (Go.Am.ext k l) := ⟨by rw [size_ext]; exact Nat.le_trans x.size (Nat.le_add_right _ _), fun b hb => (box_ext_lt (Nat.lt_of_lt_of_le hb x.size)).trans (x.same b hb)⟩
theorem Ov.set {h k : Hp} (x : Ov h k) {b : Nat} (hb : Go.Am.size h ≤ b) (y : Box) : Ov h (setBx k b y) := ⟨by rw [size_setBx]; exact x.size, fun c hc => (box_set_ne (by omega)).trans (x.same c hc)⟩
theorem Ov.trunc {h k : Hp} (x : Ov h k) : Go.Am.trunc k (Go.Am.size h) = h := by
  apply List.ext_getElem?
  intro i
  rcases Nat.lt_or_ge i (Go.Am.size h) with hi | hi
  · have := x.same i hi
    simp only [box?] at this
    simp only [Go.Am.trunc, List.getElem?_take, if_pos hi, this]
  · simp only [Go.Am.trunc, List.getElem?_take, if_neg (by omega : ¬ i < Go.Am.size h)]
    exact (List.getElem?_eq_none hi).symm
theorem Ov.getBox {h k : Hp} (x : Ov h k) {b : Nat} {cs : List PV} (hb : Go.Am.getBox h b = some cs) : Go.Am.getBox k b = some cs := by
  rw [Go.Am.getBox, x.same b (lt_of_getBox hb)]; exact hb
theorem Ov.getTok {h k : Hp} (x : Ov h k) {b : Nat} {n : Nat × Nat} (hb : Go.Am.getTok h b = some n) : Go.Am.getTok k b = some n := by
  rw [Go.Am.getTok, x.same b (lt_of_getTok hb)]; exact hb

theorem strips_len (xs : List PV) : (strips xs).length = xs.length := by induction xs <;> simp_all [strips]
/-- A slice that grows in a frame: what it grows to; a box or more come on top, older boxes are left. -/
theorem Buf.grow {h0 h : Hp} {o : PV} {T sz : Nat} {es xs : List PV} {v : PV} (b : Buf h o T sz es v) (ht : ∀ t es, v = .sl (.tok t) sz es → size h0 ≤ t) (ov : Ov h0 h) (hx : xs.all (fits sz) = true) (hl : es.length + xs.length ≤ lim2) :
    ∃ v' h', growT h T sz v xs = some (v', h') ∧ Buf h' o T sz (es ++ strips xs) v' ∧ (∀ t es, v' = .sl (.tok t) sz es → size h0 ≤ t) ∧ Ov h0 h' ∧ size h ≤ size h' ∧ ∀ c cs, getBox h c = some cs → getBox h' c = some cs := by
  have sl := strips_len xs
  by_cases hne : xs = []
  · subst hne
    rcases b.is with ⟨rfl, rfl, rfl | rfl⟩ | ⟨t, rfl, h2, h3⟩
    · exact ⟨.nils, h, by simp [growT], ⟨.inl ⟨rfl, rfl, .inl rfl⟩⟩, ht, ov, Nat.le_refl _, fun _ _ h => h⟩
    · exact ⟨_, h, by simp [growT], ⟨.inl ⟨rfl, rfl, .inr rfl⟩⟩, ht, ov, Nat.le_refl _, fun _ _ h => h⟩
    · refine ⟨.sl (.tok t) sz es, setBx h t (.tok es.length T), ?_, ⟨.inr ⟨t, by simp [strips], ?_, by simpa [strips] using h3⟩⟩, ht, ov.set (ht t es rfl) _, by rw [size_setBx]; exact Nat.le_refl _, fun c cs hc => ?_⟩
      · simp at hl
        simp [growT, h2, hl, strips, Option.bnd_some]
      · rw [getTok_set_same (lt_of_getTok h2)]; simp [strips]
      · rw [getBox_set_ne]; exact hc
        rintro rfl
        have q1 := box_of_tok h2
        have q2 := box_of_get hc
        rw [q1] at q2; cases q2
  · have hpos : xs.isEmpty = false := by cases xs <;> simp_all
    have hns : strips xs ≠ [] := by cases xs <;> simp_all [strips]
    rcases b.is with ⟨rfl, rfl, rfl | rfl⟩ | ⟨t, rfl, h2, h3⟩
    · simp at hl
      refine ⟨.sl (.tok (size h)) sz (strips xs), Go.Am.ext h [.tok xs.length T], by simp [growT, hx, hl, hpos], ⟨.inr ⟨size h, by simp, by rw [getTok_ext_0]; simp [tokOf, sl], by simpa using hns⟩⟩, fun t es hq => by cases hq; exact ov.size, ov.ext _, by rw [size_ext]; omega, fun c cs hc => ?_⟩
      rw [getBox_ext_lt (lt_of_getBox hc)]; exact hc
    · simp at hl
      refine ⟨.sl (.tok (size h)) sz (strips xs), Go.Am.ext h [.tok xs.length T], by simp [growT, hx, hl, hpos], ⟨.inr ⟨size h, by simp, by rw [getTok_ext_0]; simp [tokOf, sl], by simpa using hns⟩⟩, fun t es hq => by cases hq; exact ov.size, ov.ext _, by rw [size_ext]; omega, fun c cs hc => ?_⟩
      rw [getBox_ext_lt (lt_of_getBox hc)]; exact hc
    · refine ⟨.sl (.tok t) sz (es ++ strips xs), setBx h t (.tok (es.length + xs.length) T), ?_, ⟨.inr ⟨t, rfl, ?_, by simp [h3]⟩⟩, fun t' es' hq => by cases hq; exact ht t es rfl, ov.set (ht t es rfl) _, by rw [size_setBx]; exact Nat.le_refl _, fun c cs hc => ?_⟩
      · simp [growT, hx, h2, hl, Option.bnd_some]
      · rw [getTok_set_same (lt_of_getTok h2)]; simp [sl]
      · rw [getBox_set_ne]; exact hc
        rintro rfl
        have q1 := box_of_tok h2
        have q2 := box_of_get hc
        rw [q1] at q2; cases q2
/-- What has grown, behind its frame. -/
def done (o : PV) (sz : Nat) (es : List PV) : PV := if es.isEmpty then o else .sl .no sz es
theorem Buf.frz {h : Hp} {o : PV} {T sz : Nat} {es : List PV} {v : PV} (b : Buf h o T sz es v) (n : Nat) (k : Hp) : Go.Am.frz n k v = some (done o sz es) := by
  rcases b.is with ⟨rfl, rfl, rfl | rfl⟩ | ⟨t, rfl, h2, h3⟩
  · rfl
  · rfl
  · have : es.isEmpty = false := by cases es <;> simp_all
    simp [Go.Am.frz, done, this, Own.strip]
theorem Buf.len {h : Hp} {o : PV} {T sz : Nat} {es : List PV} {v : PV} (b : Buf h o T sz es v) : lenB false v = some (.int .i64 es.length) := by
  rcases b.is with ⟨rfl, rfl, rfl | rfl⟩ | ⟨t, rfl, h2, h3⟩ <;> rfl
theorem Buf.elems {h : Hp} {o : PV} {T sz : Nat} {es : List PV} {v : PV} (b : Buf h o T sz es v) (k : Hp) : Go.Am.elems k v = some es := by
  rcases b.is with ⟨rfl, rfl, rfl | rfl⟩ | ⟨t, rfl, h2, h3⟩ <;> rfl
theorem done_elems {o : PV} {sz : Nat} (ho : o = .nils ∨ o = .sl .full sz []) (es : List PV) (k : Hp) : Go.Am.elems k (done o sz es) = some es := by
  unfold done
  cases es with
  | nil => rcases ho with rfl | rfl <;> rfl
  | cons x xs => rfl
theorem done_len {o : PV} {sz : Nat} (ho : o = .nils ∨ o = .sl .full sz []) (es : List PV) : lenB false (done o sz es) = some (.int .i64 es.length) := by
  unfold done
  cases es with
  | nil => rcases ho with rfl | rfl <;> rfl
  | cons x xs => rfl
theorem done_below {o : PV} {sz n : Nat} (ho : o = .nils ∨ o = .sl .full sz []) (es : List PV) (he : belows n es = true) : below n (done o sz es) = true := by
  unfold done
  cases es with
  | nil => rcases ho with rfl | rfl <;> rfl
  | cons x xs => simpa [below, Own.below] using he
end Go.Am
namespace Go.Am
set_option linter.unusedVariables false
set_option linter.unusedSimpArgs false

noncomputable def loadV (n : Nat) (agg : Bool) (v : PV) (h : Hp) : Option PV := match v with
  | .ptr b off => (getBox h b).bnd fun cs => part cs off n agg
  | .ep cs off => part cs off n agg
  | _ => none
noncomputable def storeV (base n : Nat) (v u : PV) (h : Hp) : Option Hp := match v with
  | .ptr b off => (getBox h b).bnd fun cs =>
      if u.cells.length = n ∧ off + n ≤ cs.length ∧ u.cells.all scalar = true ∧ (b < base → belows 0 (strips u.cells) = true)
      then some (setBox h b (setRange cs off (if b < base then strips u.cells else u.cells))) else none
  | _ => none
def allocK {α : Type} (z : List PV) (h : Hp) (K : PV → Hp → Option α) : Option α := K (.ptr (size h) 0) (ext h [.cells z])
def boxV (n : Nat) (v : PV) (h : Hp) : Option (PV × Hp) := if v.cells.length = n ∧ v.cells.all scalar = true then some (.ptr (size h) 0, ext h [.cells v.cells]) else none
noncomputable def buildV (z : List PV) (l : List (Nat × Nat × PV)) : Option PV := (buildAgg l z).bnd fun cs => some (.agg cs)
noncomputable def buildSlV (sz : Nat) (agg : Bool) (z : List PV) (len : Nat) (l : List (Nat × PV)) : Option PV :=
  (fillParts sz l (List.replicate len (if agg then .agg z else z.headD .undef))).bnd fun es => some (.sl .full sz es)
noncomputable def nilckV (v : PV) : Option PV := (isNil v).bnd fun b => if b then none else some v
noncomputable def isnilV (kd : Nat) (neg : Bool) (v : PV) : Option PV := (nilK kd v).bnd fun b => some (.bool (if neg then !b else b))
noncomputable def makeV (T : Nat) (z : List PV) (l c : PV) (h : Hp) : Option (PV × Hp) := (makeN l c).bnd fun n => makeB T z n h
noncomputable def copyV (base : Nat) (v u : PV) (h : Hp) : Option (PV × Hp) := (elems h u).bnd fun xs => match v with
    | .bsl _ b off len sz => (getBox h b).bnd fun cs =>
        if sz = 1 ∧ off + len ≤ cs.length ∧ xs.all scalar = true ∧ (b < base → belows 0 (xs.take len) = true)
        then some (.int .i64 (min xs.length len : Nat), setBox h b (setRange cs off (xs.take len))) else none
    | .nils => some (.int .i64 0, h)
    | _ => none
def bdW (n dflt : Nat) : Option PV → Option Nat
  | none => some dflt
  | some v => bdV n v
noncomputable def sliceV (n : Option Nat) (lo hi mx : Option PV) : PV → Option PV
  | .str s => if mx.isSome ∨ n.isSome then none else
    (bdW s.length s.length hi).bnd fun hh => (bdW hh 0 lo).bnd fun l => some (.str ((s.drop l).take (hh - l)))
  | .nils => if n.isSome then (bdW 0 0 mx).bnd fun m => (bdW 0 0 hi).bnd fun hh => (bdW 0 0 lo).bnd fun l => some .nils else none
  | .sl o sz es => if n = some sz then (bdW es.length es.length mx).bnd fun m => (bdW m es.length hi).bnd fun hh => (bdW hh 0 lo).bnd fun l =>
      some (.sl (if mx.isSome && m == hh then .full else if mx.isNone && isFull o && hh == es.length then .full else .no) sz ((es.drop l).take (hh - l)))
      else none
  | .bsl f b off len sz => if n = some sz then (bdW len len mx).bnd fun m => (bdW m len hi).bnd fun hh => (bdW hh 0 lo).bnd fun l =>
      if hh - l = 0 then some (.sl (if mx.isSome && m == hh then .full else .no) sz []) else some (.bsl (if mx.isSome && m == hh then true else mx.isNone && f && hh == len) b (off + l * sz) (hh - l) sz)
      else none
  | _ => none
noncomputable def idxArrV (sz len : Nat) (v i : PV) : Option PV := match v with
    | .ptr b o => (ix i len).bnd fun i => some (.ptr b (o + i * sz))
    | .ep cs o => (ix i len).bnd fun i => some (.ep cs (o + i * sz))
    | _ => none
noncomputable def idxAggV (sz : Nat) (agg : Bool) (len : Nat) (v i : PV) : Option PV := match v with
    | .agg cs => (ix i len).bnd fun i => part cs (i * sz) sz agg
    | _ => none
noncomputable def minmaxV (mx : Bool) (vs : List PV) : Option PV := match vs with
    | [] => none
    | x :: r => minMax mx x r
noncomputable def appV (sz : Nat) (v u : PV) (h : Hp) : Option PV := (elems h u).bnd fun xs =>
      if xs.all (fun x => x.cells.length == sz) then
      match v with
      | .nils => if xs.length ≤ lim2 then some (if xs.isEmpty then .nils else .sl .no sz (strips xs)) else none
      | .sl .full sz' es => if sz' = sz ∧ es.length + xs.length ≤ lim2 then some (if xs.isEmpty then .sl .full sz es else .sl .no sz (es ++ strips xs)) else none
      | _ => none
      else none
noncomputable def appTV (T sz : Nat) (v u : PV) (h : Hp) : Option (PV × Hp) := (elems h u).bnd fun xs => growT h T sz v xs
noncomputable def appBoxV (sz : Nat) (v u : PV) (h : Hp) : Option (PV × Hp) := (elems h u).bnd fun xs => (fullEs h v).bnd fun es =>
      if xs = [] then some (v, h) else
      if sz = 1 ∧ xs.all (fun x => x.cells.length == sz) = true ∧ es.all (fun x => x.cells.length == sz) = true ∧ es.length + xs.length ≤ lim2 ∧ xs.all scalar = true ∧ es.all scalar = true then
        some (.bsl false (size h) 0 (es.length + xs.length) sz, ext h [.cells (es ++ xs)])
      else none
noncomputable def loadNV (n : Nat) (agg : Bool) (q v : PV) (h : Hp) : Option PV := match q, v with
  | .ptr c _, .ptr b off => if b = c then none else loadV n agg (.ptr b off) h
  | .ptr _ _, .ep cs off => loadV n agg (.ep cs off) h
  | _, _ => none
noncomputable def storeNV (base n : Nat) (q v u : PV) (h : Hp) : Option Hp := match q, v with
  | .ptr c _, .ptr b off => if b = c then storeV base n (.ptr b off) u h else none
  | _, _ => none
def callvV (orc : Orc) (v : PV) (vs : List PV) (h : Hp) : Option (PV × Hp) := match v with
  | .fn f cap => orc f (vs ++ cap) h
  | _ => none
noncomputable def evO (e : Env) : Option Opnd → Option (Option PV)
  | none => some none
  | some x => (ev e x).bnd fun v => some (some v)

noncomputable def stepK {α : Type} (orc : Orc) (base : Nat) (draw : Bool) (op : AOp) (e : Env) (h : Hp) (K : PV → Hp → Option α) : Option α :=
  match op with
  | .mov x => (ev e x).bnd fun v => K v h
  | .pick c a b => (ev e c).bnd fun v => (condB v (ev e a) (ev e b)).bnd fun r => K r h
  | .alloc z => allocK z h K
  | .box n x => (ev e x).bnd fun v => bnd2 (boxV n v h) K
  | .build z ps => (evParts3 e ps).bnd fun l => (buildV z l).bnd fun r => K r h
  | .buildSl sz agg z len ps => (evParts e ps).bnd fun l => (buildSlV sz agg z len l).bnd fun r => K r h
  | .load n agg a => (ev e a).bnd fun v => (loadV n agg v h).bnd fun r => K r h
  | .store n a x => (ev e a).bnd fun v => (ev e x).bnd fun u => (storeV base n v u h).bnd fun h => K .undef h
  | .nilck x => (ev e x).bnd fun v => (nilckV v).bnd fun r => K r h
  | .bin op x y => (ev e x).bnd fun a => (ev e y).bnd fun b => (binOp op a b).bnd fun r => K r h
  | .binB neg x y => (ev e x).bnd fun a => (ev e y).bnd fun b => (boolB neg a b).bnd fun r => K r h
  | .isnil kd neg x => (ev e x).bnd fun v => (isnilV kd neg v).bnd fun r => K r h
  | .un op x => (ev e x).bnd fun a => (unOp op a).bnd fun r => K r h
  | .toInt k x => (ev e x).bnd fun v => (toIntB v k).bnd fun r => K r h
  | .strBytes bx x => (ev e x).bnd fun v => bnd2 (strBytesB bx v h) K
  | .bytesStr x => (ev e x).bnd fun v => (bytesStrB h v).bnd fun r => K r h
  | .mkif t x => (ev e x).bnd fun v => K (.iface t v) h
  | .mkfn f cap => (evs e cap).bnd fun vs => K (.fn f vs) h
  | .makeSl T z agg len cap => (ev e len).bnd fun l => (ev e cap).bnd fun c => bnd2 (makeV T z l c h) K
  | .copyB d x => (ev e d).bnd fun v => (ev e x).bnd fun u => bnd2 (copyV base v u h) K
  | .range x => (ev e x).bnd fun v => bnd2 (rangeB v h) K
  | .next x => (ev e x).bnd fun v => bnd2 (nextB v h) K
  | .eqv neg ks x y => (ev e x).bnd fun a => (ev e y).bnd fun b => (eqvB neg ks a b).bnd fun r => K r h
  | .slice n x lo hi mx => (ev e x).bnd fun v => (evO e lo).bnd fun lo => (evO e hi).bnd fun hi => (evO e mx).bnd fun mx => (sliceV n lo hi mx v).bnd fun r => K r h
  | .fieldA off x => (ev e x).bnd fun v => (fieldAB v off).bnd fun r => K r h
  | .field off n agg x => (ev e x).bnd fun v => (fieldB v off n agg).bnd fun r => K r h
  | .idxA sz x i => (ev e x).bnd fun v => (ev e i).bnd fun i => (idxAB v i sz).bnd fun r => K r h
  | .idxArr sz len x i => (ev e x).bnd fun v => (ev e i).bnd fun i => (idxArrV sz len v i).bnd fun r => K r h
  | .idxStr x i => (ev e x).bnd fun v => (ev e i).bnd fun i => (idxStrB v i).bnd fun r => K r h
  | .idxAgg sz agg len x i => (ev e x).bnd fun v => (ev e i).bnd fun i => (idxAggV sz agg len v i).bnd fun r => K r h
  | .extract x i => (ev e x).bnd fun v => (extractB v i).bnd fun r => K r h
  | .tassert t ok z x => (ev e x).bnd fun v => (tassertB t ok z v).bnd fun r => K r h
  | .len str x => (ev e x).bnd fun v => (lenB str v).bnd fun r => K r h
  | .minmax mx xs => (evs e xs).bnd fun vs => (minmaxV mx vs).bnd fun r => K r h
  | .append sz s x => (ev e s).bnd fun v => (ev e x).bnd fun u => (appV sz v u h).bnd fun r => K r h
  | .appendT T sz s x => (ev e s).bnd fun v => (ev e x).bnd fun u => bnd2 (appTV T sz v u h) K
  | .appendBox sz s x => (ev e s).bnd fun v => (ev e x).bnd fun u => bnd2 (appBoxV sz v u h) K
  | .call f args => (evs e args).bnd fun vs => bnd2 (orc f vs h) fun v h' => if draw then (if h' = h then K v h else none) else K v h'
  | .callv x args => (ev e x).bnd fun v => (evs e args).bnd fun vs => bnd2 (callvV orc v vs h) fun v h' => if draw then (if h' = h then K v h else none) else K v h'
  | .callQ f args => (evs e args).bnd fun vs => bnd2 (orcQ orc f vs h) fun v h' => if h' = h then K v h else none
  | .loadN t n agg a => (look e t).bnd fun q => (ev e a).bnd fun v => (loadNV n agg q v h).bnd fun r => K r h
  | .storeN t n a x => (look e t).bnd fun q => (ev e a).bnd fun v => (ev e x).bnd fun u => (storeNV base n q v u h).bnd fun h => K .undef h
  | .stuck => none

theorem bnd_fun {α β : Type} (x : Option α) {f g : α → Option β} (h : ∀ a, f a = g a) : x.bnd f = x.bnd g := by rw [show f = g from funext h]
theorem bnd_ite {α β : Type} {c : Prop} [Decidable c] (x y : Option α) (f : α → Option β) : (if c then x else y).bnd f = if c then x.bnd f else y.bnd f := by split <;> rfl
theorem bnd2_bnd {α β γ : Type} (x : Option γ) (f : γ → Option (β × Hp)) (k : β → Hp → Option α) : bnd2 (x.bnd f) k = x.bnd fun a => bnd2 (f a) k := by cases x <;> rfl

theorem bd_evO {α : Type} (e : Env) (n d : Nat) (x : Option Opnd) (g : Nat → Option α) : (bd e n d x).bnd g = (evO e x).bnd fun v => (bdW n d v).bnd g := by
  cases x with
  | none => rfl
  | some x => simp only [bd_some, evO, bnd_assoc, Option.bnd_some, bdW]
theorem isSome_evO {e : Env} {x : Option Opnd} {v : Option PV} (h : evO e x = some v) : v.isSome = x.isSome := by
  cases x with
  | none => cases h; rfl
  | some x => simp only [evO, Option.bnd_eq_some_iff] at h; obtain ⟨a, _, h⟩ := h; cases h; rfl
theorem sliceOf_evO (e : Env) (n lo hi mx) (v : PV) : sliceOf e n lo hi mx v = (evO e lo).bnd fun a => (evO e hi).bnd fun b => (evO e mx).bnd fun c => sliceV n a b c v := by
  have key : ∀ {α : Type} (x : Option α) (f : α → Option PV), (∀ a, f a = none) → x.bnd f = none := by intro α x f h; cases x <;> simp [Option.bnd, h]
  cases hl : evO e lo with
  | none =>
    have hz : ∀ {α : Type} (n d : Nat) (g : Nat → Option α), (bd e n d lo).bnd g = none := by intro α n d g; rw [bd_evO, hl]; rfl
    show _ = none
    cases v <;> simp only [sliceOf, hz] <;> first | rfl | (split <;> first | rfl | (apply key; intro a; first | rfl | (apply key; intro a; rfl)))
  | some a =>
    cases hh : evO e hi with
    | none =>
      have hz : ∀ {α : Type} (n d : Nat) (g : Nat → Option α), (bd e n d hi).bnd g = none := by intro α n d g; rw [bd_evO, hh]; rfl
      show _ = none
      cases v <;> simp only [sliceOf, hz] <;> first | rfl | (split <;> first | rfl | (apply key; intro a; rfl))
    | some b =>
      cases hm : evO e mx with
      | none =>
        have hz : ∀ {α : Type} (n d : Nat) (g : Nat → Option α), (bd e n d mx).bnd g = none := by intro α n d g; rw [bd_evO, hm]; rfl
        have hs : mx.isSome = true := by cases mx with | none => cases hm | some x => rfl
        show _ = none
        cases v <;> simp only [sliceOf, hz, hs, true_or, if_true] <;> first | rfl | (split <;> rfl)
      | some c =>
        have e1 := isSome_evO hm
        have e2 : c.isNone = mx.isNone := by cases c <;> cases mx <;> simp_all
        simp only [Option.bnd_some]
        cases v <;> simp only [sliceOf, sliceV, bd_evO, hl, hh, hm, Option.bnd_some, e1, e2]

theorem stepK_eq {α : Type} (orc : Orc) (base : Nat) (draw : Bool) (op : AOp) (e : Env) (h : Hp) (K : PV → Hp → Option α) :
    stepK orc base draw op e h K = (step orc base draw op e h).bnd fun x => K x.1 x.2.2 := by
  cases op with
  | mov x => simp only [stepK, step, bnd_assoc, Option.bnd_some]
  | pick c a b =>
    simp only [stepK, step, bnd_assoc]
    refine bnd_fun _ fun v => ?_
    cases v <;> try rfl
    rename_i b; cases b <;> simp only [condB, bnd_assoc, Option.bnd_some]
  | alloc z => rfl
  | box n x =>
    simp only [stepK, step, bnd_assoc]; refine bnd_fun _ fun v => ?_
    simp only [boxV]; split <;> rfl
  | build z ps => simp only [stepK, step, buildV, bnd_assoc, Option.bnd_some]
  | buildSl sz agg z len ps => simp only [stepK, step, buildSlV, bnd_assoc, Option.bnd_some]
  | load n agg a =>
    simp only [stepK, step, bnd_assoc]; refine bnd_fun _ fun v => ?_
    cases v <;> simp only [loadV, bnd_assoc, Option.bnd_some, Option.bnd_none]
  | store n a x =>
    simp only [stepK, step, bnd_assoc]; refine bnd_fun _ fun v => bnd_fun _ fun u => ?_
    cases v <;> simp only [storeV, bnd_assoc, Option.bnd_some, Option.bnd_none]
    refine bnd_fun _ fun cs => ?_
    split <;> rfl
  | nilck x =>
    simp only [stepK, step_nilck, nilckV, bnd_assoc]; refine bnd_fun _ fun v => bnd_fun _ fun b => ?_
    cases b <;> rfl
  | bin op x y => simp only [stepK, step, bnd_assoc, Option.bnd_some]
  | binB neg x y => simp only [stepK, step_binB, bnd_assoc, Option.bnd_some]
  | isnil kd neg x => simp only [stepK, step, isnilV, bnd_assoc, Option.bnd_some]
  | un op x => simp only [stepK, step, bnd_assoc, Option.bnd_some]
  | toInt k x => simp only [stepK, step_toInt, bnd_assoc, Option.bnd_some]
  | strBytes bx x =>
    simp only [stepK, step, bnd_assoc]; refine bnd_fun _ fun v => ?_
    cases v <;> try rfl
    simp only [strBytesB]; split
    · cases bx <;> rfl
    · rfl
  | bytesStr x =>
    simp only [stepK, step, bnd_assoc]; refine bnd_fun _ fun v => ?_
    cases v <;> first | rfl | simp only [bytesStrB, bnd_assoc, Option.bnd_some]
  | mkif t x => simp only [stepK, step, bnd_assoc, Option.bnd_some]
  | mkfn f cap => simp only [stepK, step, bnd_assoc, Option.bnd_some]
  | makeSl T z agg len cap =>
    simp only [stepK, step, makeV, bnd_assoc, bnd2_bnd]; refine bnd_fun _ fun l => bnd_fun _ fun c => bnd_fun _ fun n => ?_
    simp only [makeB]; split
    · rfl
    · split <;> rfl
  | copyB d x =>
    simp only [stepK, step, copyV, bnd_assoc, bnd2_bnd]; refine bnd_fun _ fun v => bnd_fun _ fun u => bnd_fun _ fun xs => ?_
    cases v <;> simp only [bnd_assoc, bnd2_bnd, Option.bnd_some, Option.bnd_none, bnd2_some, bnd2_none]
    refine bnd_fun _ fun cs => ?_
    split <;> rfl
  | range x =>
    simp only [stepK, step, bnd_assoc]; refine bnd_fun _ fun v => ?_
    cases v <;> rfl
  | next x =>
    simp only [stepK, step, bnd_assoc]; refine bnd_fun _ fun v => ?_
    cases v <;> try rfl
    simp only [nextB, bnd_assoc, bnd2_bnd]; refine bnd_fun _ fun p => ?_
    split <;> rfl
  | eqv neg ks x y =>
    simp only [stepK, step, bnd_assoc]; refine bnd_fun _ fun a => bnd_fun _ fun b => ?_
    cases a <;> try rfl
    cases b <;> try rfl
    simp only [eqvB, bnd_assoc, Option.bnd_some]
  | slice n x lo hi mx =>
    simp only [stepK, step, sliceOf_evO, bnd_assoc, Option.bnd_some]
  | fieldA off x => simp only [stepK, step_fieldA, bnd_assoc, Option.bnd_some]
  | field off n agg x => simp only [stepK, step_field, bnd_assoc, Option.bnd_some]
  | idxA sz x i => simp only [stepK, step_idxA, bnd_assoc, Option.bnd_some]
  | idxArr sz len x i =>
    simp only [stepK, step, bnd_assoc]; refine bnd_fun _ fun v => bnd_fun _ fun i => ?_
    cases v <;> simp only [idxArrV, bnd_assoc, Option.bnd_some, Option.bnd_none]
  | idxStr x i => simp only [stepK, step_idxStr, bnd_assoc, Option.bnd_some]
  | idxAgg sz agg len x i =>
    simp only [stepK, step, bnd_assoc]; refine bnd_fun _ fun v => bnd_fun _ fun i => ?_
    cases v <;> simp only [idxAggV, bnd_assoc, Option.bnd_some, Option.bnd_none]
  | extract x i => simp only [stepK, step_extract, bnd_assoc, Option.bnd_some]
  | tassert t ok z x =>
    simp only [stepK, step, bnd_assoc]; refine bnd_fun _ fun v => ?_
    cases v <;> try rfl
    · cases ok <;> rfl
    · simp only [tassertB]; split
      · cases ok <;> rfl
      · cases ok <;> rfl
  | len str x => simp only [stepK, step_len, bnd_assoc, Option.bnd_some]
  | minmax mx xs =>
    simp only [stepK, step, bnd_assoc]; refine bnd_fun _ fun vs => ?_
    cases vs <;> simp only [minmaxV, bnd_assoc, Option.bnd_some, Option.bnd_none]
  | append sz s x =>
    simp only [stepK, step, appV, bnd_assoc]; refine bnd_fun _ fun v => bnd_fun _ fun u => bnd_fun _ fun xs => ?_
    split
    · cases v with
      | nils => simp only; split <;> rfl
      | sl o z es => cases o <;> first | rfl | (simp only; split <;> rfl)
      | _ => rfl
    · rfl
  | appendT T sz s x =>
    simp only [stepK, step, appTV, bnd_assoc, bnd2_bnd]; refine bnd_fun _ fun v => bnd_fun _ fun u => bnd_fun _ fun xs => ?_
    cases growT h T sz v xs <;> rfl
  | appendBox sz s x =>
    simp only [stepK, step, appBoxV, bnd_assoc, bnd2_bnd]; refine bnd_fun _ fun v => bnd_fun _ fun u => bnd_fun _ fun xs => bnd_fun _ fun es => ?_
    split
    · rfl
    · split <;> rfl
  | call f args =>
    simp only [stepK, step, bnd_assoc]; refine bnd_fun _ fun vs => ?_
    cases orc f vs h with
    | none => rfl
    | some x =>
      obtain ⟨v, h'⟩ := x
      simp only [bnd2_some, Option.bnd_some]
      cases draw
      · rfl
      · simp only [if_true]; split <;> rfl
  | callv x args =>
    simp only [stepK, step, bnd_assoc]; refine bnd_fun _ fun v => ?_
    have key : ∀ (x : Option (List PV)) (f : List PV → Option α), (∀ a, f a = none) → x.bnd f = none := by intro x f h; cases x <;> simp [Option.bnd, h]
    cases v with
    | fn f cap =>
      simp only [bnd_assoc]
      refine bnd_fun _ fun vs => ?_
      simp only [callvV]
      cases orc f (vs ++ cap) h with
      | none => rfl
      | some x =>
        obtain ⟨v, h'⟩ := x
        simp only [bnd2_some, Option.bnd_some]
        cases draw
        · rfl
        · simp only [if_true]; split <;> rfl
    | _ => exact key _ _ fun _ => rfl
  | callQ f args =>
    simp only [stepK, step, bnd_assoc]; refine bnd_fun _ fun vs => ?_
    cases orcQ orc f vs h with
    | none => rfl
    | some x =>
      obtain ⟨v, h'⟩ := x
      simp only [bnd2_some, Option.bnd_some]
      split <;> rfl
  | loadN t n agg a =>
    simp only [stepK, step, bnd_assoc]; refine bnd_fun _ fun q => bnd_fun _ fun v => ?_
    cases q <;> try rfl
    cases v <;> try rfl
    · simp only [loadNV]; split
      · rfl
      · simp only [loadV, bnd_assoc, Option.bnd_some]
    · simp only [loadNV, loadV, bnd_assoc, Option.bnd_some]
  | storeN t n a x =>
    simp only [stepK, step, bnd_assoc]; refine bnd_fun _ fun q => bnd_fun _ fun v => bnd_fun _ fun u => ?_
    cases q <;> try rfl
    cases v <;> try rfl
    simp only [storeNV]; split
    · simp only [storeV, bnd_assoc]; refine bnd_fun _ fun cs => ?_
      split <;> rfl
    · rfl
  | stuck => rfl
end Go.Am
namespace Go.Am
set_option linter.unusedVariables false
set_option linter.unusedSimpArgs false

/-- Operations that leave the heap. -/
def pureOp : AOp → Bool
  | .mov _ | .pick _ _ _ | .bin _ _ _ | .binB _ _ _ | .isnil _ _ _ | .un _ _ | .toInt _ _ | .load _ _ _ | .loadN _ _ _ _ | .fieldA _ _ | .field _ _ _ _ | .idxA _ _ _ | .idxArr _ _ _ _
  | .idxStr _ _ | .idxAgg _ _ _ _ _ | .extract _ _ | .tassert _ _ _ _ | .len _ _ | .minmax _ _ | .slice _ _ _ _ _ | .nilck _ | .mkif _ _ | .build _ _ | .bytesStr _ | .eqv _ _ _ _ => true
  | _ => false
theorem stepK_pure {α : Type} {op : AOp} (hp : pureOp op = true) (orc : Orc) (base : Nat) (draw : Bool) (e : Env) (h : Hp) (K : PV → Hp → Option α) :
    stepK orc base draw op e h K = (stepK orc base draw op e h fun v _ => some v).bnd fun v => K v h := by
  cases op <;> first | (simp only [stepK, bnd_assoc, Option.bnd_some]; done) | cases hp
noncomputable def guardK {α : Type} (g : Option (Nat × Bool)) (p : Bool) (e : Env) (h : Hp) (z : Option PV) (x : Option (PV × Hp)) (y : Option α) (K : PV → Hp → Option α) : Option α :=
  match g with
  | none => y
  | some (t, w) => (look e t).bnd fun v => (wantB v w).bnd fun w => match p with
    | true => (whenB w z (some .undef)).bnd fun v => K v h
    | false => bnd2 (whenB w x (some (.undef, h))) K
noncomputable def opsK {α : Type} (orc : Orc) (base : Nat) (draw : Bool) (l : List AOper) : Env → Hp → (Env → Hp → Option α) → Option α :=
  List.rec (motive := fun _ => Env → Hp → (Env → Hp → Option α) → Option α) (fun e h K => K e h)
    (fun o _ ih e h K => guardK o.guard (pureOp o.op) e h (stepK orc base draw o.op e h fun v _ => some v) (stepK orc base draw o.op e h fun v h => some (v, h)) (stepK orc base draw o.op e h fun v h => ih (putD e o.dst v) h K)
      fun v h => ih (putD e o.dst v) h K) l
theorem opsK_cons {α : Type} (orc : Orc) (base : Nat) (draw : Bool) (o : AOper) (r : List AOper) (e : Env) (h : Hp) (K : Env → Hp → Option α) :
    opsK orc base draw (o :: r) e h K = guardK o.guard (pureOp o.op) e h (stepK orc base draw o.op e h fun v _ => some v) (stepK orc base draw o.op e h fun v h => some (v, h)) (stepK orc base draw o.op e h fun v h => opsK orc base draw r (putD e o.dst v) h K)
      fun v h => opsK orc base draw r (putD e o.dst v) h K := rfl

theorem stepE_env {orc : Orc} {base : Nat} {draw : Bool} {op : AOp} {e : Env} {h : Hp} {x : PV × Env × Hp} (hs : step orc base draw op e h = some x) : x.2.1 = e := by
  have key : ∀ {β : Type} {y : Option β} {f : β → Option (PV × Env × Hp)}, (∀ a, f a = some x → x.2.1 = e) → y.bnd f = some x → x.2.1 = e := by
    intro β y f hf hy
    rw [Option.bnd_eq_some_iff] at hy
    obtain ⟨a, _, ha⟩ := hy
    exact hf a ha
  have one : ∀ {v : PV} {k : Hp}, some (v, e, k) = some x → x.2.1 = e := by intro v k hq; cases hq; rfl
  unfold step at hs
  cases op <;> simp only at hs <;> first | exact one hs | cases hs | skip
  all_goals first
    | (refine key (fun a ha => ?_) hs; exact one ha)
    | (refine key (fun a ha => ?_) hs; refine key (fun b hb => ?_) ha; first | exact one hb | (split at hb <;> first | exact one hb | cases hb))
    | (refine key (fun a ha => ?_) hs; refine key (fun b hb => ?_) ha; refine key (fun c hc => ?_) hb; exact one hc)
    | skip
  case pick c a b =>
    refine key (fun v hv => ?_) hs
    rw [condB_some] at hv
    rcases hv with ⟨_, hv⟩ | ⟨_, hv⟩ <;> exact key (fun a ha => one ha) hv
  case box n y => refine key (fun v hv => ?_) hs; split at hv <;> first | exact one hv | cases hv
  case load n agg a =>
    refine key (fun v hv => ?_) hs
    split at hv
    · exact key (fun _ h1 => key (fun _ h2 => one h2) h1) hv
    · exact key (fun _ h1 => one h1) hv
    · cases hv
  case store n a y =>
    refine key (fun v hv => key (fun u hu => ?_) hv) hs
    split at hu
    · refine key (fun _ h1 => ?_) hu; split at h1 <;> first | exact one h1 | cases h1
    · cases hu
  case nilck y => refine key (fun v hv => ?_) hs; split at hv <;> first | exact one hv | cases hv
  case toInt k y => refine key (fun v hv => ?_) hs; split at hv <;> first | exact one hv | cases hv
  case strBytes bx y =>
    refine key (fun v hv => ?_) hs
    split at hv
    · split at hv
      · split at hv <;> exact one hv
      · cases hv
    · cases hv
  case bytesStr y =>
    refine key (fun v hv => ?_) hs
    split at hv
    · cases hv
    · exact key (fun _ h1 => key (fun _ h2 => one h2) h1) hv
  case makeSl T z agg l c =>
    refine key (fun _ h1 => key (fun _ h2 => key (fun _ h3 => ?_) h2) h1) hs
    split at h3
    · exact one h3
    · split at h3
      · exact one h3
      · cases h3
  case copyB d y =>
    refine key (fun _ h1 => key (fun _ h2 => key (fun _ h3 => ?_) h2) h1) hs
    split at h3
    · refine key (fun _ h1 => ?_) h3; split at h1 <;> first | exact one h1 | cases h1
    · exact one h3
    · cases h3
  case range y => refine key (fun v hv => ?_) hs; split at hv <;> first | exact one hv | cases hv
  case next y =>
    refine key (fun v hv => ?_) hs
    split at hv
    · refine key (fun _ h1 => ?_) hv; split at h1 <;> exact one h1
    · cases hv
  case eqv neg ks y z =>
    refine key (fun _ h1 => key (fun _ h2 => ?_) h1) hs
    split at h2
    · exact key (fun _ h3 => one h3) h2
    · cases h2
  case fieldA off y => refine key (fun v hv => ?_) hs; split at hv <;> first | exact one hv | cases hv
  case field off n agg y => refine key (fun v hv => ?_) hs; split at hv <;> first | exact key (fun _ h1 => one h1) hv | cases hv
  case idxA sz y i =>
    refine key (fun _ h1 => key (fun _ h2 => ?_) h1) hs
    split at h2
    · split at h2
      · exact key (fun _ h3 => key (fun _ h4 => one h4) h3) h2
      · cases h2
    · split at h2
      · exact key (fun _ h3 => one h3) h2
      · cases h2
    · cases h2
  case idxArr sz len y i =>
    refine key (fun _ h1 => key (fun _ h2 => ?_) h1) hs
    split at h2 <;> first | exact key (fun _ h3 => one h3) h2 | cases h2
  case idxStr y i =>
    refine key (fun _ h1 => key (fun _ h2 => ?_) h1) hs
    split at h2 <;> first | exact key (fun _ h3 => key (fun _ h4 => one h4) h3) h2 | cases h2
  case idxAgg sz agg len y i =>
    refine key (fun _ h1 => key (fun _ h2 => ?_) h1) hs
    split at h2 <;> first | exact key (fun _ h3 => key (fun _ h4 => one h4) h3) h2 | cases h2
  case extract y i => refine key (fun v hv => ?_) hs; split at hv <;> first | exact key (fun _ h1 => one h1) hv | cases hv
  case tassert t ok z y =>
    refine key (fun v hv => ?_) hs
    split at hv
    · split at hv
      · split at hv <;> exact one hv
      · split at hv <;> first | exact one hv | cases hv
    · split at hv <;> first | exact one hv | cases hv
    · cases hv
  case len str y => refine key (fun v hv => ?_) hs; split at hv <;> first | exact one hv | cases hv
  case minmax mx xs => refine key (fun v hv => ?_) hs; split at hv <;> first | exact key (fun _ h1 => one h1) hv | cases hv
  case append sz s y =>
    refine key (fun _ h1 => key (fun _ h2 => key (fun _ h3 => ?_) h2) h1) hs
    split at h3
    · split at h3
      · split at h3 <;> first | exact one h3 | cases h3
      · split at h3 <;> first | exact one h3 | cases h3
      · cases h3
    · cases h3
  case appendT T sz s y => exact key (fun _ h1 => key (fun _ h2 => key (fun _ h3 => key (fun _ h4 => one h4) h3) h2) h1) hs
  case appendBox sz s y =>
    refine key (fun _ h1 => key (fun _ h2 => key (fun _ h3 => key (fun _ h4 => ?_) h3) h2) h1) hs
    split at h4
    · exact one h4
    · split at h4
      · exact one h4
      · cases h4
  case call f args =>
    refine key (fun _ h1 => key (fun _ h2 => ?_) h1) hs
    split at h2
    · split at h2 <;> first | exact one h2 | cases h2
    · exact one h2
  case callv y args =>
    refine key (fun _ h1 => ?_) hs
    split at h1
    · refine key (fun _ h2 => key (fun _ h3 => ?_) h2) h1
      split at h3
      · split at h3 <;> first | exact one h3 | cases h3
      · exact one h3
    · cases h1
  case loadN t n agg a =>
    refine key (fun _ h1 => key (fun _ h2 => ?_) h1) hs
    split at h2
    · split at h2
      · cases h2
      · exact key (fun _ h3 => key (fun _ h4 => one h4) h3) h2
    · exact key (fun _ h3 => one h3) h2
    · cases h2
  case storeN t n a y =>
    refine key (fun _ h1 => key (fun _ h2 => key (fun _ h3 => ?_) h2) h1) hs
    split at h3
    · split at h3
      · refine key (fun _ h4 => ?_) h3; split at h4 <;> first | exact one h4 | cases h4
      · cases h3
    · cases h3

theorem opsK_eq {α : Type} (orc : Orc) (base : Nat) (draw : Bool) : ∀ (l : List AOper) (e : Env) (h : Hp) (K : Env → Hp → Option α),
    opsK orc base draw l e h K = (execOps orc base draw l e h).bnd fun x => K x.1 x.2
  | [], e, h, K => rfl
  | o :: r, e, h, K => by
    have ih : ∀ (v : PV) (h : Hp), opsK orc base draw r (putD e o.dst v) h K = (execOps orc base draw r (putD e o.dst v) h).bnd fun x => K x.1 x.2 := fun v h => opsK_eq orc base draw r _ h K
    have main : stepK orc base draw o.op e h (fun v h => opsK orc base draw r (putD e o.dst v) h K) =
        ((step orc base draw o.op e h).bnd fun x => execOps orc base draw r (putD x.2.1 o.dst x.1) x.2.2).bnd fun x => K x.1 x.2 := by
      rw [stepK_eq, bnd_assoc]
      cases hs : step orc base draw o.op e h with
      | none => rfl
      | some x => simp only [Option.bnd_some, ih, stepE_env hs]
    rw [opsK_cons, execOps]
    cases hg : o.guard with
    | none => simp only [guardK, wanted, Option.bnd_some, if_true]; exact main
    | some g =>
      obtain ⟨t, w⟩ := g
      simp only [guardK, wanted_some, bnd_assoc]
      refine bnd_fun _ fun v => ?_
      cases hw : wantB v w with
      | none => rfl
      | some b =>
        cases b with
        | true =>
          simp only [Option.bnd_some, whenB_true, if_true]
          rw [← main]
          cases hp : pureOp o.op with
          | true => simp only; rw [stepK_pure hp orc base draw e h (fun v h => opsK orc base draw r (putD e o.dst v) h K)]; rfl
          | false =>
            simp only
            rw [stepK_eq, stepK_eq]
            cases step orc base draw o.op e h <;> rfl
        | false => cases pureOp o.op <;> (simp only [Option.bnd_some, whenB_false, bnd2_some, Bool.false_eq_true, if_false]; exact ih _ _)

/-- What is still to come, as data. -/
inductive Fr where
  | seq (b : ACode)
  | block (i : Nat)
  | loop (a : ACode)
noncomputable def finV (keep own : Bool) (n0 : Nat) (vs : List PV) (h : Hp) : Option (PV × Hp) :=
  if keep then some (result1 vs, h)
    else if own then (ownEnd n0 h vs).bnd fun r => some (result1 r.1, r.2)
    else (frzs n0 h vs).bnd fun vs => if belows n0 vs = true then some (result1 vs, trunc h n0) else none
noncomputable def resultsK {α : Type} (e : Env) (h : Hp) : List (Nat × Option (Nat × Bool)) → (List PV → Option α) → Option α
  | [], K => K []
  | t :: ts, K => (resultOf e h t).bnd fun v => resultsK e h ts fun vs => K (v :: vs)
theorem resultsK_eq {α : Type} (e : Env) (h : Hp) : ∀ (rs : List (Nat × Option (Nat × Bool))) (K : List PV → Option α), resultsK e h rs K = (resultsOf e h rs).bnd K
  | [], K => rfl
  | t :: ts, K => by
    simp only [resultsK, resultsOf_cons, bnd_assoc, Option.bnd_some]
    exact bnd_fun _ fun v => resultsK_eq e h ts _
noncomputable def endK (fn : AFn) (n0 : Nat) (x : AEx) (e : Env) (h : Hp) : Option (PV × Hp) := match x with
  | .exit _ => none
  | _ => resultsK e h fn.results fun vs => finV fn.keep fn.own n0 vs h
theorem finish_eq (fn : AFn) (n0 : Nat) (e : Env) (h : Hp) : finish fn n0 e h = resultsK e h fn.results fun vs => finV fn.keep fn.own n0 vs h := by
  rw [resultsK_eq]; rfl

/-- What comes when a piece of code has ended so. -/
noncomputable def goF (fn : AFn) (n0 : Nat) (run : ACode → List Fr → Env → Hp → Option (PV × Hp)) (lp : ACode → List Fr → Env → Hp → Option (PV × Hp)) : List Fr → AEx → Env → Hp → Option (PV × Hp)
  | [], x, e, h => endK fn n0 x e h
  | .seq b :: r, x, e, h => match x with
    | .norm => run b r e h
    | x => goF fn n0 run lp r x e h
  | .block i :: r, x, e, h => match x with
    | .exit j => if j = i then goF fn n0 run lp r .norm e h else goF fn n0 run lp r (.exit j) e h
    | x => goF fn n0 run lp r x e h
  | .loop a :: r, x, e, h => match x with
    | .norm => lp a r e h
    | x => goF fn n0 run lp r x e h
noncomputable def kSem (T : Table) (fn : AFn) (base n0 : Nat) : List Fr → AEx → Env → Hp → Option (PV × Hp)
  | [], x, e, h => endK fn n0 x e h
  | .seq b :: r, x, e, h => match x with
    | .norm => bndX (ExecA T b base e h) (kSem T fn base n0 r)
    | x => kSem T fn base n0 r x e h
  | .block i :: r, x, e, h => match x with
    | .exit j => if j = i then kSem T fn base n0 r .norm e h else kSem T fn base n0 r (.exit j) e h
    | x => kSem T fn base n0 r x e h
  | .loop a :: r, x, e, h => match x with
    | .norm => bndX (ExecA T (.loop a) base e h) (kSem T fn base n0 r)
    | x => kSem T fn base n0 r x e h
/-- What the function does from a piece of code on. -/
noncomputable def Run (T : Table) (fn : AFn) (base n0 : Nat) (c : ACode) (fr : List Fr) (e : Env) (h : Hp) : Option (PV × Hp) := bndX (ExecA T c base e h) (kSem T fn base n0 fr)
noncomputable def cpsF (T : Table) (fn : AFn) (base n0 : Nat) : Nat → ACode → List Fr → Env → Hp → Option (PV × Hp)
  | 0, c, fr, e, h => Run T fn base n0 c fr e h
  | n + 1, c, fr, e, h => match c with
    | .skip => goF fn n0 (cpsF T fn base n0 n) (fun a => Run T fn base n0 (.loop a)) fr .norm e h
    | .ops l draw keep => opsK (CallA T base) base draw l e h fun e h => goF fn n0 (cpsF T fn base n0 n) (fun a => Run T fn base n0 (.loop a)) fr .norm (prune keep e) h
    | .seq a b => match a with
      | .ops [] _ k => Run T fn base n0 b fr (prune k e) h
      | a => cpsF T fn base n0 n a (.seq b :: fr) e h
    | .cond c a b => (ev e c).bnd fun v => condB v (cpsF T fn base n0 n a fr e h) (cpsF T fn base n0 n b fr e h)
    | .block i a => cpsF T fn base n0 n a (.block i :: fr) e h
    | .loop a => Run T fn base n0 (.loop a) fr e h
    | .scope a => cpsF T fn base n0 n a fr e h
    | .exit i => goF fn n0 (cpsF T fn base n0 n) (fun a => Run T fn base n0 (.loop a)) fr (.exit i) e h
    | .ret => goF fn n0 (cpsF T fn base n0 n) (fun a => Run T fn base n0 (.loop a)) fr .ret e h

theorem condB_bndX {α : Type} (v : PV) (x y : Option (AEx × Env × Hp)) (K : AEx → Env → Hp → Option α) : condB v (bndX x K) (bndX y K) = bndX (condB v x y) K := by
  cases v <;> try rfl
  rename_i b; cases b <;> rfl
section
variable {T : Table} {fn : AFn} {base n0 : Nat}
theorem goF_eq {run : ACode → List Fr → Env → Hp → Option (PV × Hp)} (hr : ∀ c fr e h, run c fr e h = Run T fn base n0 c fr e h) : ∀ (fr : List Fr) (x : AEx) (e : Env) (h : Hp), goF fn n0 run (fun a => Run T fn base n0 (.loop a)) fr x e h = kSem T fn base n0 fr x e h
  | [], x, e, h => rfl
  | .seq b :: r, x, e, h => by
    cases x with
    | norm => rw [goF, hr]; rfl
    | _ => exact goF_eq hr r _ e h
  | .block i :: r, x, e, h => by
    cases x with
    | exit j => simp only [goF, kSem, goF_eq hr r]
    | _ => exact goF_eq hr r _ e h
  | .loop a :: r, x, e, h => by
    cases x with
    | norm => rfl
    | _ => exact goF_eq hr r _ e h
theorem Run_seq (a b : ACode) (fr : List Fr) (e : Env) (h : Hp) : Run T fn base n0 (.seq a b) fr e h = Run T fn base n0 a (.seq b :: fr) e h := by
  unfold Run
  rw [R_seq]
  cases ExecA T a base e h with
  | none => rfl
  | some x => obtain ⟨x, e', h'⟩ := x; cases x <;> rfl
theorem Run_block (i : Nat) (a : ACode) (fr : List Fr) (e : Env) (h : Hp) : Run T fn base n0 (.block i a) fr e h = Run T fn base n0 a (.block i :: fr) e h := by
  unfold Run
  rw [R_block]
  cases ExecA T a base e h with
  | none => rfl
  | some x =>
    obtain ⟨x, e', h'⟩ := x
    cases x with
    | exit j => simp only [bndX_some, onExit_exit, kSem]; split <;> rfl
    | _ => rfl
theorem Run_loop (a : ACode) (fr : List Fr) (e : Env) (h : Hp) : Run T fn base n0 (.loop a) fr e h = Run T fn base n0 a (.loop a :: fr) e h := by
  unfold Run
  rw [R_loop]
  cases ExecA T a base e h with
  | none => rfl
  | some x => obtain ⟨x, e', h'⟩ := x; cases x <;> rfl
theorem Run_ops (l : List AOper) (d : Bool) (k : List Nat) (fr : List Fr) (e : Env) (h : Hp) : Run T fn base n0 (.ops l d k) fr e h = opsK (CallA T base) base d l e h fun e h => kSem T fn base n0 fr .norm (prune k e) h := by
  unfold Run
  rw [opsK_eq, R_ops]
  cases execOps (CallA T base) base d l e h <;> rfl
theorem cpsF_eq : ∀ (n : Nat) (c : ACode) (fr : List Fr) (e : Env) (h : Hp), cpsF T fn base n0 n c fr e h = Run T fn base n0 c fr e h
  | 0, c, fr, e, h => rfl
  | n + 1, c, fr, e, h => by
    have ih := cpsF_eq n
    cases c with
    | skip => rw [cpsF, goF_eq ih]; unfold Run; rw [ExecA_skip]; rfl
    | exit i => rw [cpsF, goF_eq ih]; unfold Run; rw [ExecA_exit]; rfl
    | ret => rw [cpsF, goF_eq ih]; unfold Run; rw [ExecA_ret]; rfl
    | ops l d k => rw [cpsF, Run_ops]; simp only [goF_eq ih]
    | seq a b =>
      rw [Run_seq]
      cases a with
      | ops l d k =>
        cases l with
        | nil => rw [Run_ops]; rfl
        | cons o l => exact ih _ _ _ _
      | _ => exact ih _ _ _ _
    | cond c a b =>
      rw [cpsF]
      simp only [ih]
      unfold Run
      rw [ExecA_cond]
      cases ev e c with
      | none => rfl
      | some v => simp only [Option.bnd_some, condB_bndX]
    | block i a => rw [cpsF, ih, Run_block]
    | loop a => rfl
    | scope a => rw [cpsF, ih]; unfold Run; rw [ExecA_scope]
end
/-- The code at a place, and what comes behind it. -/
def ctx : List Nat → ACode → List Fr → ACode × List Fr
  | [], c, fr => (c, fr)
  | i :: p, .seq a b, fr => if i = 0 then ctx p a (.seq b :: fr) else ctx p b fr
  | i :: p, .cond _ a b, fr => if i = 0 then ctx p a fr else ctx p b fr
  | _ :: p, .block i a, fr => ctx p a (.block i :: fr)
  | _ :: p, .loop a, fr => ctx p a (.loop a :: fr)
  | _ :: p, .scope a, fr => ctx p a fr
  | _ :: _, c, fr => (c, fr)
/-- What the function does from a place on. -/
noncomputable def Pt (T : Table) (fn : AFn) (p : List Nat) (base n0 : Nat) (e : Env) (h : Hp) : Option (PV × Hp) :=
  Run T fn base n0 (ctx p fn.body []).1 (ctx p fn.body []).2 e h
def unr : ACode × List Fr → ACode × List Fr
  | (.loop a, fr) => (a, .loop a :: fr)
  | x => x
theorem Pt_eq (T : Table) (fn : AFn) (p : List Nat) (base n0 : Nat) (e : Env) (h : Hp) :
    Pt T fn p base n0 e h = cpsF T fn base n0 200 (unr (ctx p fn.body [])).1 (unr (ctx p fn.body [])).2 e h := by
  rw [cpsF_eq]
  unfold Pt
  generalize ctx p fn.body [] = r
  obtain ⟨c, fr⟩ := r
  cases c with
  | loop a => exact Run_loop a fr e h
  | _ => rfl
theorem Pt_entry {T : Table} {f : Nat} {fn : AFn} (hT : T f = some (.code fn)) (base : Nat) (a : List PV) (h : Hp) :
    CallA T base f a h = cpsF T fn (if fn.keep then base else size h) (size h) 200 fn.body [] (params 0 a) h := by
  rw [CallA_code hT, cpsF_eq]
  unfold Run
  cases ExecA T fn.body (if fn.keep then base else size h) (params 0 a) h with
  | none => rfl
  | some x => obtain ⟨x, e', h'⟩ := x; cases x <;> simp only [Option.bnd_some, bndX_some, finish_eq] <;> rfl
theorem Pt_enter {T : Table} {f : Nat} {rs : List (Nat × Option (Nat × Bool))} {body : ACode} {own : Bool} (hT : T f = some (.code ⟨rs, body, false, own⟩)) (base : Nat) (a : List PV) (h : Hp) :
    CallA T base f a h = cpsF T ⟨rs, body, false, own⟩ (size h) (size h) 200 body [] (params 0 a) h := Pt_entry hT base a h
theorem Pt_enterK {T : Table} {f : Nat} {rs : List (Nat × Option (Nat × Bool))} {body : ACode} {own : Bool} (hT : T f = some (.code ⟨rs, body, true, own⟩)) (base : Nat) (a : List PV) (h : Hp) :
    CallA T base f a h = cpsF T ⟨rs, body, true, own⟩ base (size h) 200 body [] (params 0 a) h := Pt_entry hT base a h
def chkK {α : Type} (h h' : Hp) (y : Option α) : Option α := if h' = h then y else none
end Go.Am
namespace Go.Am
set_option linter.unusedVariables false
set_option linter.unusedSimpArgs false

def Sub (e e2 : Env) : Prop := ∀ t v, look e t = some v → look e2 t = some v
theorem Sub.refl (e : Env) : Sub e e := fun _ _ h => h
section
variable {e e2 : Env} (hs : Sub e e2)
include hs
theorem ev_sub {x : Opnd} {v : PV} (h : ev e x = some v) : ev e2 x = some v := by
  cases x with
  | tmp t => exact hs t v h
  | const c => exact h
theorem evs_sub : ∀ {xs : List Opnd} {vs : List PV}, evs e xs = some vs → evs e2 xs = some vs
  | [], vs, h => h
  | x :: xs, vs, h => by
    simp only [evs, Option.bnd_eq_some_iff] at h ⊢
    obtain ⟨v, h1, w, h2, h3⟩ := h
    exact ⟨v, ev_sub hs h1, w, evs_sub h2, h3⟩
theorem evParts_sub : ∀ {xs : List (Nat × Opnd)} {vs : List (Nat × PV)}, evParts e xs = some vs → evParts e2 xs = some vs
  | [], vs, h => h
  | (i, x) :: xs, vs, h => by
    simp only [evParts_cons, Option.bnd_eq_some_iff] at h ⊢
    obtain ⟨v, h1, w, h2, h3⟩ := h
    exact ⟨v, ev_sub hs h1, w, evParts_sub h2, h3⟩
theorem evParts3_sub : ∀ {xs : List (Nat × Nat × Opnd)} {vs : List (Nat × Nat × PV)}, evParts3 e xs = some vs → evParts3 e2 xs = some vs
  | [], vs, h => h
  | (i, n, x) :: xs, vs, h => by
    simp only [evParts3_cons, Option.bnd_eq_some_iff] at h ⊢
    obtain ⟨v, h1, w, h2, h3⟩ := h
    exact ⟨v, ev_sub hs h1, w, evParts3_sub h2, h3⟩
theorem evO_sub {x : Option Opnd} {v : Option PV} (h : evO e x = some v) : evO e2 x = some v := by
  cases x with
  | none => exact h
  | some x =>
    simp only [evO, Option.bnd_eq_some_iff] at h ⊢
    obtain ⟨a, h1, h2⟩ := h
    exact ⟨a, ev_sub hs h1, h2⟩
omit hs in
theorem bnd2_orc {orc orc2 : Orc} (ho : orc.le orc2) {f : Nat} {vs : List PV} {h : Hp} {K : PV → Hp → Option (PV × Hp)} {r : PV × Hp} (hr : bnd2 (orc f vs h) K = some r) : bnd2 (orc2 f vs h) K = some r := by
  cases hq : orc f vs h with
  | none => rw [hq] at hr; cases hr
  | some x => rw [hq] at hr; rw [ho _ _ _ _ hq]; exact hr
omit hs in
theorem orcQ_le {orc orc2 : Orc} (ho : orc.le orc2) : Orc.le (orcQ orc) (orcQ orc2) := by
  intro f a h r hr
  simp only [orcQ, Option.bnd_eq_some_iff] at hr ⊢
  obtain ⟨y, h1, h2⟩ := hr
  exact ⟨y, ho _ _ _ _ h1, h2⟩
theorem stepK_sub {orc orc2 : Orc} (ho : orc.le orc2) {base : Nat} {draw : Bool} {op : AOp} {h : Hp} {K : PV → Hp → Option (PV × Hp)} {r : PV × Hp} (hr : stepK orc base draw op e h K = some r) : stepK orc2 base draw op e2 h K = some r := by
  cases op <;> simp only [stepK, Option.bnd_eq_some_iff] at hr ⊢ <;> first
    | exact hr
    | (obtain ⟨a, h1, h2⟩ := hr; exact ⟨a, ev_sub hs h1, h2⟩)
    | (obtain ⟨a, h1, h2⟩ := hr; exact ⟨a, evs_sub hs h1, h2⟩)
    | (obtain ⟨a, h1, h2⟩ := hr; exact ⟨a, evs_sub hs h1, bnd2_orc ho h2⟩)
    | (obtain ⟨a, h1, h2⟩ := hr; exact ⟨a, evs_sub hs h1, bnd2_orc (orcQ_le ho) h2⟩)
    | (obtain ⟨a, h1, h2⟩ := hr; exact ⟨a, evParts_sub hs h1, h2⟩)
    | (obtain ⟨a, h1, h2⟩ := hr; exact ⟨a, evParts3_sub hs h1, h2⟩)
    | (obtain ⟨a, h1, b, h2, h3⟩ := hr; exact ⟨a, ev_sub hs h1, b, ev_sub hs h2, h3⟩)
    | (obtain ⟨a, h1, b, h2, h3⟩ := hr; exact ⟨a, hs _ _ h1, b, ev_sub hs h2, h3⟩)
    | (obtain ⟨a, h1, b, h2, c, h3, h4⟩ := hr; exact ⟨a, hs _ _ h1, b, ev_sub hs h2, c, ev_sub hs h3, h4⟩)
    | (obtain ⟨a, h1, b, h2, c, h3, d, h4, h5⟩ := hr; exact ⟨a, ev_sub hs h1, b, evO_sub hs h2, c, evO_sub hs h3, d, evO_sub hs h4, h5⟩)
    | skip
  case pick c a b =>
    obtain ⟨v, h1, w, h2, h3⟩ := hr
    rw [condB_some] at h2
    exact ⟨v, ev_sub hs h1, w, condB_some.2 (h2.imp (fun q => ⟨q.1, ev_sub hs q.2⟩) (fun q => ⟨q.1, ev_sub hs q.2⟩)), h3⟩
  case callv x args =>
    obtain ⟨v, h1, vs, h2, h3⟩ := hr
    refine ⟨v, ev_sub hs h1, vs, evs_sub hs h2, ?_⟩
    cases v <;> first | exact h3 | exact bnd2_orc ho h3
theorem step_sub {orc orc2 : Orc} (ho : orc.le orc2) {base : Nat} {draw : Bool} {op : AOp} {h : Hp} {x : PV × Env × Hp} (hx : step orc base draw op e h = some x) : step orc2 base draw op e2 h = some (x.1, e2, x.2.2) := by
  have h1 := stepK_eq orc base draw op e h fun v h => some (v, h)
  rw [hx, Option.bnd_some] at h1
  have h2 := stepK_sub hs ho h1
  rw [stepK_eq, Option.bnd_eq_some_iff] at h2
  obtain ⟨y, h3, h4⟩ := h2
  have h5 := stepE_env h3
  obtain ⟨a, b, c⟩ := y
  cases h4; simp only at h5; subst h5
  exact h3
theorem wanted_sub {g : Option (Nat × Bool)} {b : Bool} (h : wanted e g = some b) : wanted e2 g = some b := by
  cases g with
  | none => exact h
  | some g =>
    obtain ⟨t, w⟩ := g
    rw [wanted_some, Option.bnd_eq_some_iff] at h ⊢
    obtain ⟨v, h1, h2⟩ := h
    exact ⟨v, hs _ _ h1, h2⟩
theorem putD_sub (d : Option Nat) (v : PV) : Sub (putD e d v) (putD e2 d v) := by
  cases d with
  | none => exact hs
  | some d =>
    intro t w hw
    simp only [putD, look] at hw ⊢
    split at hw
    · rename_i hq; rw [if_pos hq]; exact hw
    · rename_i hq; rw [if_neg hq]; exact hs _ _ hw
end
theorem execOps_sub {orc orc2 : Orc} (ho : orc.le orc2) {base : Nat} {draw : Bool} : ∀ {l : List AOper} {e e2 : Env} {h : Hp} {r : Env × Hp}, Sub e e2 → execOps orc base draw l e h = some r → ∃ e3, execOps orc2 base draw l e2 h = some (e3, r.2) ∧ Sub r.1 e3
  | [], e, e2, h, r, hs, hr => by cases hr; exact ⟨e2, rfl, hs⟩
  | o :: l, e, e2, h, r, hs, hr => by
    simp only [execOps, Option.bnd_eq_some_iff] at hr ⊢
    obtain ⟨b, h1, h2⟩ := hr
    cases b with
    | true =>
      simp only [if_true, Option.bnd_eq_some_iff] at h2
      obtain ⟨x, h3, h4⟩ := h2
      rw [stepE_env h3] at h4
      obtain ⟨e3, h5, h6⟩ := execOps_sub ho (putD_sub hs o.dst x.1) h4
      exact ⟨e3, ⟨true, wanted_sub hs h1, by simp only [if_true, Option.bnd_eq_some_iff]; exact ⟨_, step_sub hs ho h3, h5⟩⟩, h6⟩
    | false =>
      simp only [Bool.false_eq_true, if_false] at h2
      obtain ⟨e3, h5, h6⟩ := execOps_sub ho (putD_sub hs o.dst .undef) h2
      exact ⟨e3, ⟨false, wanted_sub hs h1, by simpa using h5⟩, h6⟩
theorem look_prune_mem : ∀ (ts : List Nat) (e : Env) (t : Nat), t ∈ ts → look (prune ts e) t = look e t
  | t' :: ts, e, t, h => by
    rw [prune_cons, look_pruneC]
    by_cases hq : t' = t
    · subst hq
      rw [if_pos rfl]
      cases hl : look e t' with
      | some v => rfl
      | none =>
        rw [orr_none]
        cases hp : look (prune ts e) t' with
        | none => rfl
        | some v => rw [look_prune _ _ _ _ hp] at hl; cases hl
    · rw [if_neg hq]
      rcases List.mem_cons.1 h with h | h
      · exact (hq h.symm).elim
      · exact look_prune_mem ts e t h
theorem look_prune_not : ∀ (ts : List Nat) (e : Env) (t : Nat), t ∉ ts → look (prune ts e) t = none
  | [], e, t, h => rfl
  | t' :: ts, e, t, h => by
    simp only [List.mem_cons, not_or] at h
    rw [prune_cons, look_pruneC, if_neg (fun q => h.1 q.symm)]
    exact look_prune_not ts e t h.2
theorem prune_sub {k k' : List Nat} (hk : ∀ t ∈ k', t ∈ k) {e e2 : Env} (hs : Sub e e2) : Sub (prune k' e) (prune k e2) := by
  intro t v hv
  by_cases hm : t ∈ k'
  · rw [look_prune_mem _ _ _ hm] at hv
    rw [look_prune_mem _ _ _ (hk t hm)]
    exact hs _ _ hv
  · rw [look_prune_not _ _ _ hm] at hv; cases hv
theorem prune_sub1 (k' : List Nat) {e e2 : Env} (hs : Sub e e2) : Sub (prune k' e) e2 := fun t v hv => hs _ _ (look_prune _ _ _ _ hv)

/-- Code that keeps fewer slots than another. -/
inductive Le : ACode → ACode → Prop
  | skip : Le .skip .skip
  | exit (i) : Le (.exit i) (.exit i)
  | ret : Le .ret .ret
  | ops (l d k k') (hk : ∀ t ∈ k', t ∈ k) : Le (.ops l d k') (.ops l d k)
  | seq {a b a' b'} (ha : Le a' a) (hb : Le b' b) : Le (.seq a' b') (.seq a b)
  | cond (c) {a b a' b'} (ha : Le a' a) (hb : Le b' b) : Le (.cond c a' b') (.cond c a b)
  | block (i) {a a'} (ha : Le a' a) : Le (.block i a') (.block i a)
  | loop {a a'} (ha : Le a' a) : Le (.loop a') (.loop a)
  | scope {a a'} (ha : Le a' a) : Le (.scope a') (.scope a)
  | pre (k) {a a'} (ha : Le a' a) : Le (.seq (.ops [] false k) a') a
  | post (k) {a a'} (ha : Le a' a) : Le (.seq a' (.ops [] false k)) a
theorem Le.refl : ∀ c, Le c c
  | .skip => .skip
  | .exit i => .exit i
  | .ret => .ret
  | .ops l d k => .ops l d k k fun _ h => h
  | .seq a b => .seq (Le.refl a) (Le.refl b)
  | .cond c a b => .cond c (Le.refl a) (Le.refl b)
  | .block i a => .block i (Le.refl a)
  | .loop a => .loop (Le.refl a)
  | .scope a => .scope (Le.refl a)

/-- What is to be kept, piece by piece. -/
inductive An where
  | leaf
  | ops (k : List Nat)
  | node (a b : An)
  | pre (k : List Nat) (a : An)
  | loop (k : List Nat) (a : An)
def optC : An → ACode → ACode
  | .ops k', .ops l d k => .ops l d (k'.filter fun t => k.any fun s => Nat.beq t s)
  | .node x y, .seq a b => .seq (optC x a) (optC y b)
  | .node x y, .cond c a b => .cond c (optC x a) (optC y b)
  | .node x _, .block i a => .block i (optC x a)
  | .node x _, .scope a => .scope (optC x a)
  | .pre k x, c => .seq (.ops [] false k) (optC x c)
  | .loop k x, .loop a => .seq (.ops [] false k) (.loop (.seq (optC x a) (.ops [] false k)))
  | _, c => c
theorem optC_le : ∀ (x : An) (c : ACode), Le (optC x c) c
  | .leaf, c => by cases c <;> exact Le.refl _
  | .ops k', c => by
    cases c <;> try exact Le.refl _
    rename_i l d k
    refine .ops l d k _ fun t ht => ?_
    rw [List.mem_filter, List.any_eq_true] at ht
    obtain ⟨_, s, h1, h2⟩ := ht
    rw [Nat.eq_of_beq_eq_true h2]; exact h1
  | .node x y, c => by
    cases c with
    | seq a b => exact .seq (optC_le x a) (optC_le y b)
    | cond c a b => exact .cond c (optC_le x a) (optC_le y b)
    | block i a => exact .block i (optC_le x a)
    | scope a => exact .scope (optC_le x a)
    | _ => exact Le.refl _
  | .pre k x, c => by cases c <;> exact .pre k (optC_le x _)
  | .loop k x, c => by
    cases c with
    | loop a => exact .pre k (.loop (.post k (optC_le x a)))
    | _ => exact Le.refl _

def TLe (T' T : Table) : Prop := ∀ f it', T' f = some it' → match it' with
  | .prim g => T f = some (.prim g)
  | .code F' => ∃ F, T f = some (.code F) ∧ Le F'.body F.body ∧ F'.results = F.results ∧ F'.keep = F.keep ∧ F'.own = F.own
theorem resultsOf_sub {e e2 : Env} (hs : Sub e e2) (h : Hp) : ∀ {rs : List (Nat × Option (Nat × Bool))} {vs : List PV}, resultsOf e h rs = some vs → resultsOf e2 h rs = some vs
  | [], vs, hv => hv
  | (t, o) :: rs, vs, hv => by
    simp only [resultsOf_cons, Option.bnd_eq_some_iff] at hv ⊢
    obtain ⟨v, h1, ws, h2, h3⟩ := hv
    refine ⟨v, ?_, ws, resultsOf_sub hs h h2, h3⟩
    cases o with
    | none => exact hs _ _ h1
    | some o =>
      obtain ⟨n, g⟩ := o
      rw [resultOf_cell, Option.bnd_eq_some_iff] at h1 ⊢
      obtain ⟨a, h4, h5⟩ := h1
      exact ⟨a, hs _ _ h4, h5⟩
theorem finish_sub {F' F : AFn} (h1 : F'.results = F.results) (h2 : F'.keep = F.keep) (h3 : F'.own = F.own) {e e2 : Env} (hs : Sub e e2) {n0 : Nat} {h : Hp} {r : PV × Hp} (hr : finish F' n0 e h = some r) : finish F n0 e2 h = some r := by
  rw [finish, Option.bnd_eq_some_iff] at hr ⊢
  obtain ⟨vs, h4, h5⟩ := hr
  rw [h1] at h4
  rw [h2, h3] at h5
  exact ⟨vs, resultsOf_sub hs h h4, h5⟩

theorem le_sound {T' T : Table} (hT : TLe T' T) : ∀ n, (∀ c' c base e h x e1 h1 e2, Le c' c → exec T' n c' base e h = some (x, e1, h1) → Sub e e2 → ∃ e3, ExecA T c base e2 h = some (x, e3, h1) ∧ Sub e1 e3) ∧
    (∀ base f a h r, call T' n base f a h = some r → CallA T base f a h = some r)
  | 0 => ⟨fun _ _ _ _ _ _ _ _ _ _ hx => by simp [exec] at hx, fun _ _ _ _ _ hx => by simp [call] at hx⟩
  | n + 1 => by
    obtain ⟨ih, ihc⟩ := le_sound hT n
    refine ⟨fun c' c base e h x e1 h1 e2 hle hx hs => ?_, fun base f a h r hr => ?_⟩
    · cases hle with
      | skip => rw [exec] at hx; cases hx; exact ⟨e2, ExecA_skip, hs⟩
      | exit i => rw [exec] at hx; cases hx; exact ⟨e2, ExecA_exit, hs⟩
      | ret => rw [exec] at hx; cases hx; exact ⟨e2, ExecA_ret, hs⟩
      | ops l d k k' hk =>
        rw [exec, Option.bnd_eq_some_iff] at hx
        obtain ⟨y, h2, h3⟩ := hx
        obtain ⟨e3, h4, h5⟩ := execOps_sub (fun f a h r => ihc base f a h r) hs h2
        cases h3
        exact ⟨prune k e3, by rw [ExecA_ops, h4]; rfl, prune_sub hk h5⟩
      | seq ha hb =>
        rw [exec, Option.bnd_eq_some_iff] at hx
        obtain ⟨⟨y, ey, hy⟩, h2, h3⟩ := hx
        obtain ⟨e3, h4, h5⟩ := ih _ _ _ _ _ _ _ _ _ ha h2 hs
        cases y with
        | norm =>
          obtain ⟨e4, h6, h7⟩ := ih _ _ _ _ _ _ _ _ _ hb h3 h5
          exact ⟨e4, by rw [ExecA_seq, h4]; exact h6, h7⟩
        | _ => cases h3; exact ⟨e3, by rw [ExecA_seq, h4]; rfl, h5⟩
      | cond c ha hb =>
        rw [exec, Option.bnd_eq_some_iff] at hx
        obtain ⟨v, h2, h3⟩ := hx
        rw [condB_some] at h3
        rcases h3 with ⟨rfl, h3⟩ | ⟨rfl, h3⟩
        · obtain ⟨e3, h4, h5⟩ := ih _ _ _ _ _ _ _ _ _ ha h3 hs
          exact ⟨e3, by rw [ExecA_cond, ev_sub hs h2]; exact h4, h5⟩
        · obtain ⟨e3, h4, h5⟩ := ih _ _ _ _ _ _ _ _ _ hb h3 hs
          exact ⟨e3, by rw [ExecA_cond, ev_sub hs h2]; exact h4, h5⟩
      | block i ha =>
        rw [exec, Option.bnd_eq_some_iff] at hx
        obtain ⟨⟨y, ey, hy⟩, h2, h3⟩ := hx
        obtain ⟨e3, h4, h5⟩ := ih _ _ _ _ _ _ _ _ _ ha h2 hs
        rw [ExecA_block, h4, Option.bnd_some]
        cases y with
        | exit j =>
          simp only at h3 ⊢
          split at h3
          · rename_i hq; rw [if_pos hq]; cases h3; exact ⟨e3, rfl, h5⟩
          · rename_i hq; rw [if_neg hq]; cases h3; exact ⟨e3, rfl, h5⟩
        | _ => cases h3; exact ⟨e3, rfl, h5⟩
      | loop ha =>
        rw [exec, Option.bnd_eq_some_iff] at hx
        obtain ⟨⟨y, ey, hy⟩, h2, h3⟩ := hx
        obtain ⟨e3, h4, h5⟩ := ih _ _ _ _ _ _ _ _ _ ha h2 hs
        rw [ExecA_loop, h4, Option.bnd_some]
        cases y with
        | norm => exact ih _ _ _ _ _ _ _ _ _ (.loop ha) h3 h5
        | _ => cases h3; exact ⟨e3, rfl, h5⟩
      | scope ha =>
        rw [exec] at hx
        rw [ExecA_scope]
        exact ih _ _ _ _ _ _ _ _ _ ha hx hs
      | pre k ha =>
        rw [exec, Option.bnd_eq_some_iff] at hx
        obtain ⟨⟨y, ey, hy⟩, h2, h3⟩ := hx
        cases n with
        | zero => simp [exec] at h2
        | succ m =>
          rw [exec, execOps, Option.bnd_some] at h2
          cases h2
          exact ih _ _ _ _ _ _ _ _ _ ha h3 (prune_sub1 k hs)
      | post k ha =>
        rw [exec, Option.bnd_eq_some_iff] at hx
        obtain ⟨⟨y, ey, hy⟩, h2, h3⟩ := hx
        obtain ⟨e3, h4, h5⟩ := ih _ _ _ _ _ _ _ _ _ ha h2 hs
        cases y with
        | norm =>
          cases n with
          | zero => simp [exec] at h2
          | succ m =>
            simp only at h3
            rw [exec, execOps, Option.bnd_some] at h3
            cases h3
            exact ⟨e3, h4, prune_sub1 k h5⟩
        | _ => cases h3; exact ⟨e3, h4, h5⟩
    · rw [call] at hr
      cases hf : T' f with
      | none => rw [hf] at hr; cases hr
      | some it =>
        rw [hf] at hr
        cases it with
        | prim g => rw [CallA_prim (hT f _ hf)]; exact hr
        | code F' =>
          obtain ⟨F, h1, h2, h3, h4, h5⟩ := hT f _ hf
          simp only [Option.bnd_eq_some_iff] at hr
          obtain ⟨⟨y, ey, hy⟩, h6, h7⟩ := hr
          obtain ⟨e3, h8, h9⟩ := ih _ _ _ _ _ _ _ _ _ h2 h6 (Sub.refl _)
          rw [h4] at h8
          rw [CallA_code h1, h8, Option.bnd_some]
          cases y with
          | exit i => cases h7
          | norm => exact finish_sub h3 h4 h5 h9 h7
          | ret => exact finish_sub h3 h4 h5 h9 h7

def optF (x : An) (F : AFn) : AFn := { F with body := optC x F.body }
/-- A table whose code is the program's, with fewer slots kept. -/
def TableOk2 (P : Program) (gl : Globs) (I : Nat → World → Prop) (T : Table) : Prop := ∀ f it, T f = some it → match it with
  | .code fn => ∃ x an fn0, P.funcs[f]? = some fn0 ∧ (cFn P gl an fn0).map (optF x) = some fn
  | .prim pg => PrimOk P I f pg
theorem tableOk_of {P : Program} {gl : Globs} {I : Nat → World → Prop} {T' : Table} (hT : TableOk2 P gl I T') : ∃ T, TableOk P gl I T ∧ TLe T' T := by
  have hex : ∀ f, ∃ it : Option AItem, (∀ i, it = some i → match i with | .code fn => ∃ an fn0, P.funcs[f]? = some fn0 ∧ cFn P gl an fn0 = some fn | .prim pg => PrimOk P I f pg) ∧
      (∀ it', T' f = some it' → match it' with | .prim g => it = some (.prim g) | .code F' => ∃ F, it = some (.code F) ∧ Le F'.body F.body ∧ F'.results = F.results ∧ F'.keep = F.keep ∧ F'.own = F.own) := by
    intro f
    cases hf : T' f with
    | none => exact ⟨none, fun _ h => (nomatch h), fun _ h => (nomatch h)⟩
    | some it' =>
      have h1 := hT f it' hf
      cases it' with
      | prim g => exact ⟨some (.prim g), fun i hi => by cases hi; exact h1, fun i hi => by cases hi; rfl⟩
      | code F' =>
        obtain ⟨x, an, fn0, h2, h3⟩ := h1
        rw [Option.map_eq_some_iff] at h3
        obtain ⟨F, h4, rfl⟩ := h3
        exact ⟨some (.code F), fun i hi => by cases hi; exact ⟨an, fn0, h2, h4⟩, fun i hi => by cases hi; exact ⟨F, rfl, optC_le x F.body, rfl, rfl, rfl⟩⟩
  exact ⟨fun f => Classical.choose (hex f), fun f it h => (Classical.choose_spec (hex f)).1 it h, fun f it' h => (Classical.choose_spec (hex f)).2 it' h⟩
open Go.RowKit (Below) in
/-- What the machine answers with fewer slots kept, the program answers. -/
theorem sound2 {P : Program} {gl : Globs} {I : Nat → World → Prop} {T : Table} (hT : TableOk2 P gl I T) {f : Nat} {vs : List PV} {r : PV} {h' : Hp} (hs : CallA T 0 f vs [] = some (r, h')) (w : World) (hgl : GlobOk gl w.heap.size w) (hI : I w.heap.size w) (us : Array Value) (hlen : us.size = vs.length)
    (hrel : ∀ (j : Nat) (x : PV), vs[j]? = some x → RV w.heap.size { ι := id, n := 0, hw := fun _ => none } w x (us.getD j Go.undef)) :
    Calls P f us w fun en w' => ∃ u g', en = .returned u ∧ RV w.heap.size g' w' r u ∧ Below w.heap.size w w' := by
  obtain ⟨T0, h1, h2⟩ := tableOk_of hT
  obtain ⟨n, hn⟩ := CallA_iff.1 hs
  exact sound h1 ((le_sound h2 n).2 0 f vs [] _ hn) w hgl hI us hlen hrel
end Go.Am
namespace Go.Am.YtdnbedldmkagmaaDoor
set_option maxRecDepth 100000
set_option linter.unusedVariables false
/-- outpost/outpostlaw17.LinkBack -/
def A3 : An := (.node (.ops [2, 0, 1]) (.node (.node (.ops [18, 2, 0, 1]) (.node (.node (.ops [6]) .leaf) .leaf)) (.node (.node (.ops [31, 2, 0, 1]) (.node (.node (.ops [6]) .leaf) .leaf)) (.node (.node (.ops [38, 2, 0]) (.node (.node (.ops [6]) .leaf) .leaf)) (.node (.node (.ops [2, 0, 7, 8]) (.node (.ops [45, 2, 0, 7]) (.node (.node (.ops [2, 0, 9, 10]) (.node (.ops [58, 2]) (.node (.node (.ops [6]) .leaf) .leaf))) .leaf))) (.pre [2] (.node (.ops [11, 2, 12]) (.node (.node (.ops [65, 11, 2]) (.node (.node (.ops [6]) .leaf) .leaf)) (.node (.ops [11, 2, 13, 14]) (.node (.ops [11, 15, 2, 13, 16, 14]) (.node (.ops [6]) .leaf)))))))))))
def F3 : AFn := ⟨[(6, none)], (.seq (.ops [⟨(some 6), none, .mov (.const (.bool false))⟩] false [2, 0, 1]) (.seq (.seq (.ops [⟨(some 17), none, .call 5 []⟩, ⟨(some 18), none, .un .not (.tmp 17)⟩] false [18, 2, 0, 1]) (.cond (.tmp 18) (.seq (.ops [⟨(some 6), none, .mov (.const (.bool false))⟩] false [6]) .ret) .skip)) (.seq (.seq (.ops [⟨(some 19), none, .mov (.tmp 0)⟩, ⟨(some 20), none, .call 6 [(.tmp 19)]⟩, ⟨(some 21), none, .un .not (.tmp 20)⟩, ⟨(some 22), none, .mov (.tmp 21)⟩, ⟨(some 23), (some (22, false)), .mov (.tmp 1)⟩, ⟨(some 24), (some (22, false)), .call 6 [(.tmp 23)]⟩, ⟨(some 25), (some (22, false)), .un .not (.tmp 24)⟩, ⟨(some 26), none, .pick (.tmp 22) (.const (.bool true)) (.tmp 25)⟩, ⟨(some 27), none, .mov (.tmp 26)⟩, ⟨(some 28), (some (27, false)), .mov (.tmp 2)⟩, ⟨(some 29), (some (27, false)), .len true (.tmp 28)⟩, ⟨(some 30), (some (27, false)), .bin .gtr (.tmp 29) (.const (.int .i64 4000))⟩, ⟨(some 31), none, .pick (.tmp 27) (.const (.bool true)) (.tmp 30)⟩] false [31, 2, 0, 1]) (.cond (.tmp 31) (.seq (.ops [⟨(some 6), none, .mov (.const (.bool true))⟩] false [6]) .ret) .skip)) (.seq (.seq (.ops [⟨(some 32), none, .mov (.tmp 0)⟩, ⟨(some 33), none, .mov (.tmp 1)⟩, ⟨(some 34), none, .call 7 [(.tmp 32), (.tmp 33)]⟩, ⟨(some 35), none, .mov (.tmp 0)⟩, ⟨(some 36), none, .mov (.tmp 1)⟩, ⟨(some 37), none, .call 8 [(.tmp 35), (.tmp 36)]⟩, ⟨(some 38), none, .binB true (.tmp 34) (.tmp 37)⟩] false [38, 2, 0]) (.cond (.tmp 38) (.seq (.ops [⟨(some 6), none, .mov (.const (.bool false))⟩] false [6]) .ret) .skip)) (.seq (.seq (.ops [⟨(some 40), none, .mov (.tmp 0)⟩, ⟨(some 41), none, .call 9 [(.tmp 40)]⟩, ⟨(some 39), none, .mov (.tmp 41)⟩, ⟨(some 42), none, .extract (.tmp 39) 0⟩, ⟨(some 43), none, .extract (.tmp 39) 1⟩, ⟨(some 7), none, .mov (.tmp 42)⟩, ⟨(some 8), none, .mov (.tmp 43)⟩] false [2, 0, 7, 8]) (.seq (.ops [⟨(some 44), none, .mov (.tmp 8)⟩, ⟨(some 45), none, .bin .eql (.tmp 44) (.const (.int .i64 0))⟩] false [45, 2, 0, 7]) (.cond (.tmp 45) (.seq (.ops [⟨(some 47), none, .mov (.tmp 7)⟩, ⟨(some 48), none, .call 10 [(.tmp 47)]⟩, ⟨(some 46), none, .mov (.tmp 48)⟩, ⟨(some 49), none, .extract (.tmp 46) 0⟩, ⟨(some 50), none, .extract (.tmp 46) 1⟩, ⟨(some 9), none, .mov (.tmp 49)⟩, ⟨(some 10), none, .mov (.tmp 50)⟩] false [2, 0, 9, 10]) (.seq (.ops [⟨(some 51), none, .mov (.tmp 10)⟩, ⟨(some 52), none, .bin .neq (.tmp 51) (.const (.int .i64 0))⟩, ⟨(some 53), none, .mov (.tmp 52)⟩, ⟨(some 54), (some (53, false)), .mov (.tmp 9)⟩, ⟨(some 55), (some (53, false)), .mov (.tmp 0)⟩, ⟨(some 56), (some (53, false)), .call 8 [(.tmp 54), (.tmp 55)]⟩, ⟨(some 57), (some (53, false)), .un .not (.tmp 56)⟩, ⟨(some 58), none, .pick (.tmp 53) (.const (.bool true)) (.tmp 57)⟩] false [58, 2]) (.cond (.tmp 58) (.seq (.ops [⟨(some 6), none, .mov (.const (.bool false))⟩] false [6]) .ret) .skip))) .skip))) (.seq (.ops [] false [2]) (.seq (.ops [⟨(some 60), none, .mov (.tmp 2)⟩, ⟨(some 61), none, .call 10 [(.tmp 60)]⟩, ⟨(some 59), none, .mov (.tmp 61)⟩, ⟨(some 62), none, .extract (.tmp 59) 0⟩, ⟨(some 63), none, .extract (.tmp 59) 1⟩, ⟨(some 11), none, .mov (.tmp 62)⟩, ⟨(some 12), none, .mov (.tmp 63)⟩] false [11, 2, 12]) (.seq (.seq (.ops [⟨(some 64), none, .mov (.tmp 12)⟩, ⟨(some 65), none, .bin .neq (.tmp 64) (.const (.int .i64 0))⟩] false [65, 11, 2]) (.cond (.tmp 65) (.seq (.ops [⟨(some 66), none, .mov (.tmp 11)⟩, ⟨(some 67), none, .len false (.tmp 66)⟩, ⟨(some 68), none, .bin .eql (.tmp 67) (.const (.int .i64 0))⟩, ⟨(some 6), none, .mov (.tmp 68)⟩] false [6]) .ret) .skip)) (.seq (.ops [⟨(some 70), none, .mov (.tmp 11)⟩, ⟨(some 71), none, .call 9 [(.tmp 70)]⟩, ⟨(some 69), none, .mov (.tmp 71)⟩, ⟨(some 72), none, .extract (.tmp 69) 0⟩, ⟨(some 73), none, .extract (.tmp 69) 1⟩, ⟨(some 13), none, .mov (.tmp 72)⟩, ⟨(some 14), none, .mov (.tmp 73)⟩] false [11, 2, 13, 14]) (.seq (.ops [⟨(some 75), none, .mov (.tmp 13)⟩, ⟨(some 76), none, .call 10 [(.tmp 75)]⟩, ⟨(some 74), none, .mov (.tmp 76)⟩, ⟨(some 77), none, .extract (.tmp 74) 0⟩, ⟨(some 78), none, .extract (.tmp 74) 1⟩, ⟨(some 15), none, .mov (.tmp 77)⟩, ⟨(some 16), none, .mov (.tmp 78)⟩] false [11, 15, 2, 13, 16, 14]) (.seq (.ops [⟨(some 79), none, .mov (.tmp 11)⟩, ⟨(some 80), none, .call 11 [(.tmp 79)]⟩, ⟨(some 81), none, .mov (.tmp 80)⟩, ⟨(some 82), (some (81, true)), .mov (.tmp 14)⟩, ⟨(some 83), (some (81, true)), .bin .eql (.tmp 82) (.const (.int .i64 0))⟩, ⟨(some 84), none, .pick (.tmp 81) (.tmp 83) (.const (.bool false))⟩, ⟨(some 85), none, .mov (.tmp 84)⟩, ⟨(some 86), (some (85, true)), .mov (.tmp 16)⟩, ⟨(some 87), (some (85, true)), .bin .eql (.tmp 86) (.const (.int .i64 0))⟩, ⟨(some 88), none, .pick (.tmp 85) (.tmp 87) (.const (.bool false))⟩, ⟨(some 89), none, .mov (.tmp 88)⟩, ⟨(some 90), (some (89, true)), .mov (.tmp 13)⟩, ⟨(some 91), (some (89, true)), .len true (.tmp 90)⟩, ⟨(some 92), (some (89, true)), .mov (.tmp 2)⟩, ⟨(some 93), (some (89, true)), .len true (.tmp 92)⟩, ⟨(some 94), (some (89, true)), .bin .leq (.tmp 91) (.tmp 93)⟩, ⟨(some 95), none, .pick (.tmp 89) (.tmp 94) (.const (.bool false))⟩, ⟨(some 96), none, .mov (.tmp 95)⟩, ⟨(some 97), (some (96, true)), .mov (.tmp 15)⟩, ⟨(some 98), (some (96, true)), .mov (.tmp 11)⟩, ⟨(some 99), (some (96, true)), .call 8 [(.tmp 97), (.tmp 98)]⟩, ⟨(some 100), none, .pick (.tmp 96) (.tmp 99) (.const (.bool false))⟩, ⟨(some 6), none, .mov (.tmp 100)⟩] false [6]) .ret))))))))))), false, false⟩
/-- outpost/outpostlaw17.LinkJoins -/
def A4 : An := (.node (.ops [1, 0]) (.node (.node (.ops [12, 1, 0]) (.node (.node (.ops [4]) .leaf) .leaf)) (.node (.node (.ops [30, 1, 0]) (.node (.node (.ops [4]) .leaf) .leaf)) (.node (.ops [1, 0, 5, 6]) (.node (.ops [1, 0, 7, 5, 8, 6]) (.node (.node (.ops [46, 1, 0, 7, 5]) (.node (.node (.ops [4]) .leaf) .leaf)) (.node (.ops [10, 1, 0, 9]) (.node (.node (.ops [60, 10, 1, 0, 9]) (.node (.node (.ops [4]) .leaf) .leaf)) (.node (.ops [4]) .leaf)))))))))
def F4 : AFn := ⟨[(4, none)], (.seq (.ops [⟨(some 4), none, .mov (.const (.bool false))⟩] false [1, 0]) (.seq (.seq (.ops [⟨(some 11), none, .call 5 []⟩, ⟨(some 12), none, .un .not (.tmp 11)⟩] false [12, 1, 0]) (.cond (.tmp 12) (.seq (.ops [⟨(some 4), none, .mov (.const (.bool false))⟩] false [4]) .ret) .skip)) (.seq (.seq (.ops [⟨(some 13), none, .mov (.tmp 0)⟩, ⟨(some 14), none, .call 6 [(.tmp 13)]⟩, ⟨(some 15), none, .un .not (.tmp 14)⟩, ⟨(some 16), none, .mov (.tmp 15)⟩, ⟨(some 17), (some (16, false)), .mov (.tmp 1)⟩, ⟨(some 18), (some (16, false)), .call 6 [(.tmp 17)]⟩, ⟨(some 19), (some (16, false)), .un .not (.tmp 18)⟩, ⟨(some 20), none, .pick (.tmp 16) (.const (.bool true)) (.tmp 19)⟩, ⟨(some 21), none, .mov (.tmp 20)⟩, ⟨(some 22), (some (21, false)), .mov (.tmp 0)⟩, ⟨(some 23), (some (21, false)), .len false (.tmp 22)⟩, ⟨(some 24), (some (21, false)), .bin .eql (.tmp 23) (.const (.int .i64 0))⟩, ⟨(some 25), none, .pick (.tmp 21) (.const (.bool true)) (.tmp 24)⟩, ⟨(some 26), none, .mov (.tmp 25)⟩, ⟨(some 27), (some (26, false)), .mov (.tmp 1)⟩, ⟨(some 28), (some (26, false)), .len false (.tmp 27)⟩, ⟨(some 29), (some (26, false)), .bin .eql (.tmp 28) (.const (.int .i64 0))⟩, ⟨(some 30), none, .pick (.tmp 26) (.const (.bool true)) (.tmp 29)⟩] false [30, 1, 0]) (.cond (.tmp 30) (.seq (.ops [⟨(some 4), none, .mov (.const (.bool true))⟩] false [4]) .ret) .skip)) (.seq (.ops [⟨(some 32), none, .mov (.tmp 0)⟩, ⟨(some 33), none, .call 9 [(.tmp 32)]⟩, ⟨(some 31), none, .mov (.tmp 33)⟩, ⟨(some 34), none, .extract (.tmp 31) 0⟩, ⟨(some 35), none, .extract (.tmp 31) 1⟩, ⟨(some 5), none, .mov (.tmp 34)⟩, ⟨(some 6), none, .mov (.tmp 35)⟩] false [1, 0, 5, 6]) (.seq (.ops [⟨(some 37), none, .mov (.tmp 1)⟩, ⟨(some 38), none, .call 9 [(.tmp 37)]⟩, ⟨(some 36), none, .mov (.tmp 38)⟩, ⟨(some 39), none, .extract (.tmp 36) 0⟩, ⟨(some 40), none, .extract (.tmp 36) 1⟩, ⟨(some 7), none, .mov (.tmp 39)⟩, ⟨(some 8), none, .mov (.tmp 40)⟩] false [1, 0, 7, 5, 8, 6]) (.seq (.seq (.ops [⟨(some 41), none, .mov (.tmp 6)⟩, ⟨(some 42), none, .bin .neq (.tmp 41) (.const (.int .i64 0))⟩, ⟨(some 43), none, .mov (.tmp 42)⟩, ⟨(some 44), (some (43, false)), .mov (.tmp 8)⟩, ⟨(some 45), (some (43, false)), .bin .neq (.tmp 44) (.const (.int .i64 0))⟩, ⟨(some 46), none, .pick (.tmp 43) (.const (.bool true)) (.tmp 45)⟩] false [46, 1, 0, 7, 5]) (.cond (.tmp 46) (.seq (.ops [⟨(some 4), none, .mov (.const (.bool true))⟩] false [4]) .ret) .skip)) (.seq (.ops [⟨(some 48), none, .mov (.tmp 5)⟩, ⟨(some 49), none, .bin .add (.tmp 48) (.const (.str [44]))⟩, ⟨(some 50), none, .mov (.tmp 7)⟩, ⟨(some 51), none, .bin .add (.tmp 49) (.tmp 50)⟩, ⟨(some 52), none, .call 10 [(.tmp 51)]⟩, ⟨(some 47), none, .mov (.tmp 52)⟩, ⟨(some 53), none, .extract (.tmp 47) 0⟩, ⟨(some 54), none, .extract (.tmp 47) 1⟩, ⟨(some 9), none, .mov (.tmp 53)⟩, ⟨(some 10), none, .mov (.tmp 54)⟩] false [10, 1, 0, 9]) (.seq (.seq (.ops [⟨(some 55), none, .mov (.tmp 0)⟩, ⟨(some 56), none, .len false (.tmp 55)⟩, ⟨(some 57), none, .mov (.tmp 1)⟩, ⟨(some 58), none, .len false (.tmp 57)⟩, ⟨(some 59), none, .bin .add (.tmp 56) (.tmp 58)⟩, ⟨(some 60), none, .bin .gtr (.tmp 59) (.const (.int .i64 64))⟩] false [60, 10, 1, 0, 9]) (.cond (.tmp 60) (.seq (.ops [⟨(some 61), none, .mov (.tmp 10)⟩, ⟨(some 62), none, .bin .eql (.tmp 61) (.const (.int .i64 3))⟩, ⟨(some 4), none, .mov (.tmp 62)⟩] false [4]) .ret) .skip)) (.seq (.ops [⟨(some 63), none, .mov (.tmp 10)⟩, ⟨(some 64), none, .bin .eql (.tmp 63) (.const (.int .i64 0))⟩, ⟨(some 65), none, .mov (.tmp 64)⟩, ⟨(some 66), (some (65, true)), .mov (.tmp 9)⟩, ⟨(some 67), (some (65, true)), .buildSl 2 true [.nils, .nils] 0 []⟩, ⟨(some 68), (some (65, true)), .mov (.tmp 0)⟩, ⟨(some 69), (some (65, true)), .appendT 37 2 (.tmp 67) (.tmp 68)⟩, ⟨(some 70), (some (65, true)), .mov (.tmp 1)⟩, ⟨(some 71), (some (65, true)), .appendT 37 2 (.tmp 69) (.tmp 70)⟩, ⟨(some 72), (some (65, true)), .call 8 [(.tmp 66), (.tmp 71)]⟩, ⟨(some 73), none, .pick (.tmp 65) (.tmp 72) (.const (.bool false))⟩, ⟨(some 4), none, .mov (.tmp 73)⟩] false [4]) .ret))))))))), false, false⟩
/-- outpost/outpostlaw17.alive -/
def A5 : An := (.node (.ops []) (.node (.ops [1]) (.node (.ops [1, 2, 3]) (.node (.ops [1, 4, 5, 2, 3]) (.node (.ops [1, 7, 4, 5, 2, 3]) (.node (.ops [1, 8, 9, 7, 4, 5, 2, 3]) (.node (.ops [0]) .leaf)))))))
def F5 : AFn := ⟨[(0, none)], (.seq (.ops [⟨(some 0), none, .mov (.const (.bool false))⟩] false []) (.seq (.ops [⟨(some 10), none, .buildSl 1 false [(.int .i64 0)] 2 [(0, (.const (.int .i64 5))), (1, (.const (.int .i64 0)))]⟩, ⟨(some 11), none, .build [(.str []), (.str []), (.bool false)] [(0, 1, (.const (.str [118, 101, 114]))), (1, 1, (.const (.str [49, 46, 48])))]⟩, ⟨(some 12), none, .buildSl 3 true [(.str []), (.str []), (.bool false)] 1 [(0, (.tmp 11))]⟩, ⟨(some 13), none, .build [.nils, .nils] [(0, 1, (.tmp 10)), (1, 1, (.tmp 12))]⟩, ⟨(some 14), none, .build [.nils, .nils] []⟩, ⟨(some 15), none, .buildSl 2 true [.nils, .nils] 2 [(0, (.tmp 13)), (1, (.tmp 14))]⟩, ⟨(some 1), none, .mov (.tmp 15)⟩] false [1]) (.seq (.ops [⟨(some 17), none, .mov (.tmp 1)⟩, ⟨(some 18), none, .call 9 [(.tmp 17)]⟩, ⟨(some 16), none, .mov (.tmp 18)⟩, ⟨(some 19), none, .extract (.tmp 16) 0⟩, ⟨(some 20), none, .extract (.tmp 16) 1⟩, ⟨(some 2), none, .mov (.tmp 19)⟩, ⟨(some 3), none, .mov (.tmp 20)⟩] false [1, 2, 3]) (.seq (.ops [⟨(some 22), none, .mov (.tmp 2)⟩, ⟨(some 23), none, .call 10 [(.tmp 22)]⟩, ⟨(some 21), none, .mov (.tmp 23)⟩, ⟨(some 24), none, .extract (.tmp 21) 0⟩, ⟨(some 25), none, .extract (.tmp 21) 1⟩, ⟨(some 4), none, .mov (.tmp 24)⟩, ⟨(some 5), none, .mov (.tmp 25)⟩] false [1, 4, 5, 2, 3]) (.seq (.ops [⟨(some 27), none, .call 10 [(.const (.str [60, 47, 53]))]⟩, ⟨(some 26), none, .mov (.tmp 27)⟩, ⟨(some 28), none, .extract (.tmp 26) 0⟩, ⟨(some 29), none, .extract (.tmp 26) 1⟩, ⟨(some 6), none, .mov (.tmp 28)⟩, ⟨(some 7), none, .mov (.tmp 29)⟩] false [1, 7, 4, 5, 2, 3]) (.seq (.ops [⟨(some 31), none, .build [(.str []), (.str []), (.bool false)] [(0, 1, (.const (.str [114, 116]))), (1, 1, (.const (.str [97, 32, 98])))]⟩, ⟨(some 32), none, .build [(.str []), (.str []), (.bool false)] [(0, 1, (.const (.str [111, 98, 115]))), (2, 1, (.const (.bool true)))]⟩, ⟨(some 33), none, .buildSl 3 true [(.str []), (.str []), (.bool false)] 2 [(0, (.tmp 31)), (1, (.tmp 32))]⟩, ⟨(some 34), none, .build [.nils, .nils] [(1, 1, (.tmp 33))]⟩, ⟨(some 35), none, .buildSl 2 true [.nils, .nils] 1 [(0, (.tmp 34))]⟩, ⟨(some 36), none, .call 9 [(.tmp 35)]⟩, ⟨(some 30), none, .mov (.tmp 36)⟩, ⟨(some 37), none, .extract (.tmp 30) 0⟩, ⟨(some 38), none, .extract (.tmp 30) 1⟩, ⟨(some 8), none, .mov (.tmp 37)⟩, ⟨(some 9), none, .mov (.tmp 38)⟩] false [1, 8, 9, 7, 4, 5, 2, 3]) (.seq (.ops [⟨(some 39), none, .mov (.tmp 3)⟩, ⟨(some 40), none, .bin .eql (.tmp 39) (.const (.int .i64 0))⟩, ⟨(some 41), none, .mov (.tmp 40)⟩, ⟨(some 42), (some (41, true)), .mov (.tmp 2)⟩, ⟨(some 43), (some (41, true)), .bin .eql (.tmp 42) (.const (.str [60, 47, 53, 47, 48, 62, 59, 118, 101, 114, 61, 49, 46, 48, 44, 60, 47, 62]))⟩, ⟨(some 44), none, .pick (.tmp 41) (.tmp 43) (.const (.bool false))⟩, ⟨(some 45), none, .mov (.tmp 44)⟩, ⟨(some 46), (some (45, true)), .mov (.tmp 5)⟩, ⟨(some 47), (some (45, true)), .bin .eql (.tmp 46) (.const (.int .i64 0))⟩, ⟨(some 48), none, .pick (.tmp 45) (.tmp 47) (.const (.bool false))⟩, ⟨(some 49), none, .mov (.tmp 48)⟩, ⟨(some 50), (some (49, true)), .mov (.tmp 4)⟩, ⟨(some 51), (some (49, true)), .mov (.tmp 1)⟩, ⟨(some 52), (some (49, true)), .call 7 [(.tmp 50), (.tmp 51)]⟩, ⟨(some 53), none, .pick (.tmp 49) (.tmp 52) (.const (.bool false))⟩, ⟨(some 54), none, .mov (.tmp 53)⟩, ⟨(some 55), (some (54, true)), .mov (.tmp 7)⟩, ⟨(some 56), (some (54, true)), .bin .eql (.tmp 55) (.const (.int .i64 20))⟩, ⟨(some 57), none, .pick (.tmp 54) (.tmp 56) (.const (.bool false))⟩, ⟨(some 58), none, .mov (.tmp 57)⟩, ⟨(some 59), (some (58, true)), .mov (.tmp 9)⟩, ⟨(some 60), (some (58, true)), .bin .eql (.tmp 59) (.const (.int .i64 0))⟩, ⟨(some 61), none, .pick (.tmp 58) (.tmp 60) (.const (.bool false))⟩, ⟨(some 62), none, .mov (.tmp 61)⟩, ⟨(some 63), (some (62, true)), .mov (.tmp 8)⟩, ⟨(some 64), (some (62, true)), .bin .eql (.tmp 63) (.const (.str [60, 47, 62, 59, 114, 116, 61, 34, 97, 32, 98, 34, 59, 111, 98, 115]))⟩, ⟨(some 65), none, .pick (.tmp 62) (.tmp 64) (.const (.bool false))⟩, ⟨(some 66), none, .mov (.tmp 65)⟩, ⟨(some 67), (some (66, true)), .mov (.tmp 1)⟩, ⟨(some 68), (some (66, true)), .call 11 [(.tmp 67)]⟩, ⟨(some 69), none, .pick (.tmp 66) (.tmp 68) (.const (.bool false))⟩, ⟨(some 70), none, .mov (.tmp 69)⟩, ⟨(some 71), (some (70, true)), .buildSl 1 false [(.int .i64 0)] 1 [(0, (.const (.int .i64 (-1))))]⟩, ⟨(some 72), (some (70, true)), .build [.nils, .nils] [(0, 1, (.tmp 71))]⟩, ⟨(some 73), (some (70, true)), .buildSl 2 true [.nils, .nils] 1 [(0, (.tmp 72))]⟩, ⟨(some 74), (some (70, true)), .call 11 [(.tmp 73)]⟩, ⟨(some 75), (some (70, true)), .un .not (.tmp 74)⟩, ⟨(some 76), none, .pick (.tmp 70) (.tmp 75) (.const (.bool false))⟩, ⟨(some 0), none, .mov (.tmp 76)⟩] false [0]) .ret))))))), false, false⟩
/-- outpost/outpostref17.Few -/
def A6 : An := (.node (.ops [0]) (.node (.node (.ops [7, 0]) (.node (.node (.ops [2]) .leaf) .leaf)) (.node (.node (.ops [3, 0]) (.node (.loop [3, 0] (.node (.node (.ops [11, 3, 0]) (.node .leaf .leaf)) (.node (.node (.node (.node (.ops [29, 3, 0]) (.node (.node (.ops [2]) .leaf) .leaf)) (.node (.ops [4, 3, 0]) (.node (.loop [4, 3, 0] (.node (.node (.ops [37, 3, 0, 4]) (.node .leaf .leaf)) (.node (.node (.node (.ops [63, 3, 0, 4]) (.node (.node (.ops [2]) .leaf) .leaf)) .leaf) (.ops [4, 3, 0])))) .leaf))) .leaf) (.ops [3, 0])))) .leaf)) (.node (.ops [2]) .leaf))))
def F6 : AFn := ⟨[(2, none)], (.seq (.ops [⟨(some 2), none, .mov (.const (.bool false))⟩] false [0]) (.seq (.seq (.ops [⟨(some 5), none, .mov (.tmp 0)⟩, ⟨(some 6), none, .len false (.tmp 5)⟩, ⟨(some 7), none, .bin .gtr (.tmp 6) (.const (.int .i64 80))⟩] false [7, 0]) (.cond (.tmp 7) (.seq (.ops [⟨(some 2), none, .mov (.const (.bool false))⟩] false [2]) .ret) .skip)) (.seq (.seq (.ops [⟨(some 3), none, .mov (.const (.int .i64 0))⟩] false [3, 0]) (.block 0 (.seq (.ops [] false [3, 0]) (.loop (.seq (.seq (.seq (.ops [⟨(some 8), none, .mov (.tmp 3)⟩, ⟨(some 9), none, .mov (.tmp 0)⟩, ⟨(some 10), none, .len false (.tmp 9)⟩, ⟨(some 11), none, .bin .lss (.tmp 8) (.tmp 10)⟩] false [11, 3, 0]) (.cond (.tmp 11) .skip (.exit 0))) (.seq (.block 1 (.seq (.seq (.ops [⟨(some 14), none, .mov (.tmp 0)⟩, ⟨(some 15), none, .mov (.tmp 3)⟩, ⟨(some 16), none, .idxA 2 (.tmp 14) (.tmp 15)⟩, ⟨(some 17), none, .fieldA 1 (.tmp 16)⟩, ⟨(some 18), none, .load 1 false (.tmp 17)⟩, ⟨(some 19), none, .len false (.tmp 18)⟩, ⟨(some 20), none, .bin .gtr (.tmp 19) (.const (.int .i64 20))⟩, ⟨(some 21), none, .mov (.tmp 20)⟩, ⟨(some 22), (some (21, false)), .mov (.tmp 0)⟩, ⟨(some 23), (some (21, false)), .mov (.tmp 3)⟩, ⟨(some 24), (some (21, false)), .idxA 2 (.tmp 22) (.tmp 23)⟩, ⟨(some 25), (some (21, false)), .fieldA 0 (.tmp 24)⟩, ⟨(some 26), (some (21, false)), .load 1 false (.tmp 25)⟩, ⟨(some 27), (some (21, false)), .len false (.tmp 26)⟩, ⟨(some 28), (some (21, false)), .bin .gtr (.tmp 27) (.const (.int .i64 100))⟩, ⟨(some 29), none, .pick (.tmp 21) (.const (.bool true)) (.tmp 28)⟩] false [29, 3, 0]) (.cond (.tmp 29) (.seq (.ops [⟨(some 2), none, .mov (.const (.bool false))⟩] false [2]) .ret) .skip)) (.seq (.ops [⟨(some 4), none, .mov (.const (.int .i64 0))⟩] false [4, 3, 0]) (.block 2 (.seq (.ops [] false [4, 3, 0]) (.loop (.seq (.seq (.seq (.ops [⟨(some 30), none, .mov (.tmp 4)⟩, ⟨(some 31), none, .mov (.tmp 0)⟩, ⟨(some 32), none, .mov (.tmp 3)⟩, ⟨(some 33), none, .idxA 2 (.tmp 31) (.tmp 32)⟩, ⟨(some 34), none, .fieldA 1 (.tmp 33)⟩, ⟨(some 35), none, .load 1 false (.tmp 34)⟩, ⟨(some 36), none, .len false (.tmp 35)⟩, ⟨(some 37), none, .bin .lss (.tmp 30) (.tmp 36)⟩] false [37, 3, 0, 4]) (.cond (.tmp 37) .skip (.exit 2))) (.seq (.block 3 (.seq (.ops [⟨(some 40), none, .mov (.tmp 0)⟩, ⟨(some 41), none, .mov (.tmp 3)⟩, ⟨(some 42), none, .idxA 2 (.tmp 40) (.tmp 41)⟩, ⟨(some 43), none, .fieldA 1 (.tmp 42)⟩, ⟨(some 44), none, .load 1 false (.tmp 43)⟩, ⟨(some 45), none, .mov (.tmp 4)⟩, ⟨(some 46), none, .idxA 3 (.tmp 44) (.tmp 45)⟩, ⟨(some 47), none, .fieldA 0 (.tmp 46)⟩, ⟨(some 48), none, .load 1 false (.tmp 47)⟩, ⟨(some 49), none, .len true (.tmp 48)⟩, ⟨(some 50), none, .bin .gtr (.tmp 49) (.const (.int .i64 100))⟩, ⟨(some 51), none, .mov (.tmp 50)⟩, ⟨(some 52), (some (51, false)), .mov (.tmp 0)⟩, ⟨(some 53), (some (51, false)), .mov (.tmp 3)⟩, ⟨(some 54), (some (51, false)), .idxA 2 (.tmp 52) (.tmp 53)⟩, ⟨(some 55), (some (51, false)), .fieldA 1 (.tmp 54)⟩, ⟨(some 56), (some (51, false)), .load 1 false (.tmp 55)⟩, ⟨(some 57), (some (51, false)), .mov (.tmp 4)⟩, ⟨(some 58), (some (51, false)), .idxA 3 (.tmp 56) (.tmp 57)⟩, ⟨(some 59), (some (51, false)), .fieldA 1 (.tmp 58)⟩, ⟨(some 60), (some (51, false)), .load 1 false (.tmp 59)⟩, ⟨(some 61), (some (51, false)), .len true (.tmp 60)⟩, ⟨(some 62), (some (51, false)), .bin .gtr (.tmp 61) (.const (.int .i64 200))⟩, ⟨(some 63), none, .pick (.tmp 51) (.const (.bool true)) (.tmp 62)⟩] false [63, 3, 0, 4]) (.cond (.tmp 63) (.seq (.ops [⟨(some 2), none, .mov (.const (.bool false))⟩] false [2]) .ret) .skip))) (.ops [⟨(some 38), none, .mov (.tmp 4)⟩, ⟨(some 39), none, .bin .add (.tmp 38) (.const (.int .i64 1))⟩, ⟨(some 4), none, .mov (.tmp 39)⟩] false [4, 3, 0]))) (.ops [] false [4, 3, 0])))))))) (.ops [⟨(some 12), none, .mov (.tmp 3)⟩, ⟨(some 13), none, .bin .add (.tmp 12) (.const (.int .i64 1))⟩, ⟨(some 3), none, .mov (.tmp 13)⟩] false [3, 0]))) (.ops [] false [3, 0])))))) (.seq (.ops [⟨(some 2), none, .mov (.const (.bool true))⟩] false [2]) .ret)))), false, false⟩
/-- outpost/link.Same -/
def A7 : An := (.node (.ops [1, 0]) (.node (.ops [4]) .leaf))
def F7 : AFn := ⟨[(4, none)], (.seq (.ops [⟨(some 4), none, .mov (.const (.bool false))⟩] false [1, 0]) (.seq (.ops [⟨(some 5), none, .mov (.tmp 0)⟩, ⟨(some 6), none, .mov (.tmp 1)⟩, ⟨(some 7), none, .call 12 [(.tmp 5), (.tmp 6), (.const (.fn 13 []))]⟩, ⟨(some 4), none, .mov (.tmp 7)⟩] false [4]) .ret)), false, false⟩
/-- outpost/outpostref17.Same -/
def A8 : An := (.node (.ops [1, 0]) (.node (.node (.ops [10, 1, 0]) (.node (.node (.ops [4]) .leaf) .leaf)) (.node (.node (.ops [5, 1, 0]) (.node (.loop [5, 1, 0] (.node (.node (.ops [14, 1, 0, 5]) (.node .leaf .leaf)) (.node (.node (.node (.ops [42, 1, 0, 5]) (.node (.node (.ops [4]) .leaf) .leaf)) .leaf) (.ops [5, 1, 0])))) .leaf)) (.node (.ops [4]) .leaf))))
def F8 : AFn := ⟨[(4, none)], (.seq (.ops [⟨(some 4), none, .mov (.const (.bool false))⟩] false [1, 0]) (.seq (.seq (.ops [⟨(some 6), none, .mov (.tmp 0)⟩, ⟨(some 7), none, .len false (.tmp 6)⟩, ⟨(some 8), none, .mov (.tmp 1)⟩, ⟨(some 9), none, .len false (.tmp 8)⟩, ⟨(some 10), none, .bin .neq (.tmp 7) (.tmp 9)⟩] false [10, 1, 0]) (.cond (.tmp 10) (.seq (.ops [⟨(some 4), none, .mov (.const (.bool false))⟩] false [4]) .ret) .skip)) (.seq (.seq (.ops [⟨(some 5), none, .mov (.const (.int .i64 0))⟩] false [5, 1, 0]) (.block 0 (.seq (.ops [] false [5, 1, 0]) (.loop (.seq (.seq (.seq (.ops [⟨(some 11), none, .mov (.tmp 5)⟩, ⟨(some 12), none, .mov (.tmp 0)⟩, ⟨(some 13), none, .len false (.tmp 12)⟩, ⟨(some 14), none, .bin .lss (.tmp 11) (.tmp 13)⟩] false [14, 1, 0, 5]) (.cond (.tmp 14) .skip (.exit 0))) (.seq (.block 1 (.seq (.ops [⟨(some 17), none, .mov (.tmp 0)⟩, ⟨(some 18), none, .mov (.tmp 5)⟩, ⟨(some 19), none, .idxA 2 (.tmp 17) (.tmp 18)⟩, ⟨(some 20), none, .fieldA 0 (.tmp 19)⟩, ⟨(some 21), none, .load 1 false (.tmp 20)⟩, ⟨(some 22), none, .mov (.tmp 1)⟩, ⟨(some 23), none, .mov (.tmp 5)⟩, ⟨(some 24), none, .idxA 2 (.tmp 22) (.tmp 23)⟩, ⟨(some 25), none, .fieldA 0 (.tmp 24)⟩, ⟨(some 26), none, .load 1 false (.tmp 25)⟩, ⟨(some 27), none, .call 16 [(.tmp 21), (.tmp 26)]⟩, ⟨(some 28), none, .un .not (.tmp 27)⟩, ⟨(some 29), none, .mov (.tmp 28)⟩, ⟨(some 30), (some (29, false)), .mov (.tmp 0)⟩, ⟨(some 31), (some (29, false)), .mov (.tmp 5)⟩, ⟨(some 32), (some (29, false)), .idxA 2 (.tmp 30) (.tmp 31)⟩, ⟨(some 33), (some (29, false)), .fieldA 1 (.tmp 32)⟩, ⟨(some 34), (some (29, false)), .load 1 false (.tmp 33)⟩, ⟨(some 35), (some (29, false)), .mov (.tmp 1)⟩, ⟨(some 36), (some (29, false)), .mov (.tmp 5)⟩, ⟨(some 37), (some (29, false)), .idxA 2 (.tmp 35) (.tmp 36)⟩, ⟨(some 38), (some (29, false)), .fieldA 1 (.tmp 37)⟩, ⟨(some 39), (some (29, false)), .load 1 false (.tmp 38)⟩, ⟨(some 40), (some (29, false)), .call 17 [(.tmp 34), (.tmp 39)]⟩, ⟨(some 41), (some (29, false)), .un .not (.tmp 40)⟩, ⟨(some 42), none, .pick (.tmp 29) (.const (.bool true)) (.tmp 41)⟩] false [42, 1, 0, 5]) (.cond (.tmp 42) (.seq (.ops [⟨(some 4), none, .mov (.const (.bool false))⟩] false [4]) .ret) .skip))) (.ops [⟨(some 15), none, .mov (.tmp 5)⟩, ⟨(some 16), none, .bin .add (.tmp 15) (.const (.int .i64 1))⟩, ⟨(some 5), none, .mov (.tmp 16)⟩] false [5, 1, 0]))) (.ops [] false [5, 1, 0])))))) (.seq (.ops [⟨(some 4), none, .mov (.const (.bool true))⟩] false [4]) .ret)))), false, false⟩
/-- outpost/link.Write -/
def A9 : An := (.node (.ops [0]) (.node (.node (.ops [9, 0]) (.node (.node (.ops [2, 3]) .leaf) .leaf)) (.node (.ops [4, 0]) (.node (.node (.ops [12, 4, 10, 11]) (.node (.loop [12, 4, 10, 11] (.node (.ops [13, 10, 11, 12, 4]) (.node (.node .leaf .leaf) (.node (.node (.node (.ops [10, 11, 12, 6, 4]) (.ops [4, 10, 11, 12])) .leaf) (.ops [12, 4, 10, 11]))))) .leaf)) (.node (.ops [2, 3]) .leaf)))))
def F9 : AFn := ⟨[(2, none), (3, none)], (.seq (.ops [⟨(some 2), none, .mov (.const (.str []))⟩, ⟨(some 3), none, .mov (.const (.int .i64 0))⟩] false [0]) (.seq (.seq (.ops [⟨(some 7), none, .mov (.tmp 0)⟩, ⟨(some 8), none, .call 11 [(.tmp 7)]⟩, ⟨(some 9), none, .un .not (.tmp 8)⟩] false [9, 0]) (.cond (.tmp 9) (.seq (.ops [⟨(some 2), none, .mov (.const (.str []))⟩, ⟨(some 3), none, .mov (.const (.int .i64 1))⟩] false [2, 3]) .ret) .skip)) (.seq (.ops [⟨(some 4), none, .mov (.const .nils)⟩] false [4, 0]) (.seq (.seq (.ops [⟨(some 10), none, .mov (.tmp 0)⟩, ⟨(some 11), none, .len false (.tmp 10)⟩, ⟨(some 12), none, .mov (.const (.int .i64 0))⟩] false [12, 4, 10, 11]) (.block 0 (.seq (.ops [] false [12, 4, 10, 11]) (.loop (.seq (.seq (.ops [⟨(some 13), none, .bin .lss (.tmp 12) (.tmp 11)⟩] false [13, 10, 11, 12, 4]) (.seq (.cond (.tmp 13) .skip (.exit 0)) (.seq (.block 1 (.seq (.ops [⟨(some 14), none, .idxA 2 (.tmp 10) (.tmp 12)⟩, ⟨(some 15), none, .load 2 true (.tmp 14)⟩, ⟨(some 6), none, .alloc [.nils, .nils]⟩, ⟨none, none, .store 2 (.tmp 6) (.tmp 15)⟩] false [10, 11, 12, 6, 4]) (.ops [⟨(some 16), none, .mov (.tmp 4)⟩, ⟨(some 17), none, .load 2 true (.tmp 6)⟩, ⟨(some 18), none, .call 18 [(.tmp 17)]⟩, ⟨(some 19), none, .buildSl 1 false [(.str [])] 1 [(0, (.tmp 18))]⟩, ⟨(some 20), none, .appendT 9 1 (.tmp 16) (.tmp 19)⟩, ⟨(some 4), none, .mov (.tmp 20)⟩] false [4, 10, 11, 12]))) (.ops [⟨(some 21), none, .bin .add (.tmp 12) (.const (.int .i64 1))⟩, ⟨(some 12), none, .mov (.tmp 21)⟩] false [12, 4, 10, 11])))) (.ops [] false [12, 4, 10, 11])))))) (.seq (.ops [⟨(some 22), none, .mov (.tmp 4)⟩, ⟨(some 23), none, .call 19 [(.tmp 22), (.const (.str [44]))]⟩, ⟨(some 2), none, .mov (.tmp 23)⟩, ⟨(some 3), none, .mov (.const (.int .i64 0))⟩] false [2, 3]) .ret))))), false, false⟩
/-- outpost/link.Read -/
def A10 : An := (.node (.ops [0]) (.node (.node (.ops [9, 0]) (.node (.node (.ops [2, 3]) .leaf) .leaf)) (.node (.ops [4]) (.node (.ops [4, 5]) (.node (.loop [4, 5] (.node (.node (.node (.ops [15, 4, 5]) (.node (.node (.ops [2, 3]) .leaf) .leaf)) (.node (.ops [4, 6, 5, 7]) (.node (.node (.ops [22, 4, 6, 5]) (.node (.node (.ops [2, 3]) .leaf) .leaf)) (.node (.ops [5, 4]) (.node (.node (.ops [31, 5, 4]) (.node (.node (.ops [2, 3]) .leaf) .leaf)) (.node (.ops [35, 4, 5]) (.node (.node (.ops [2, 3]) .leaf) .leaf))))))) .leaf)) .leaf)))))
def F10 : AFn := ⟨[(2, none), (3, none)], (.seq (.ops [⟨(some 2), none, .mov (.const .nils)⟩, ⟨(some 3), none, .mov (.const (.int .i64 0))⟩] false [0]) (.seq (.seq (.ops [⟨(some 8), none, .mov (.tmp 0)⟩, ⟨(some 9), none, .bin .eql (.tmp 8) (.const (.str []))⟩] false [9, 0]) (.cond (.tmp 9) (.seq (.ops [⟨(some 2), none, .mov (.const .nils)⟩, ⟨(some 3), none, .mov (.const (.int .i64 0))⟩] false [2, 3]) .ret) .skip)) (.seq (.ops [⟨(some 10), none, .mov (.tmp 0)⟩, ⟨(some 11), none, .build [(.str [])] [(0, 1, (.tmp 10))]⟩, ⟨(some 12), none, .box 1 (.tmp 11)⟩, ⟨(some 4), none, .mov (.tmp 12)⟩] false [4]) (.seq (.ops [⟨(some 5), none, .mov (.const .nils)⟩] false [4, 5]) (.block 0 (.seq (.ops [] false [4, 5]) (.loop (.seq (.block 1 (.seq (.seq (.ops [⟨(some 13), none, .mov (.tmp 5)⟩, ⟨(some 14), none, .len false (.tmp 13)⟩, ⟨(some 15), none, .bin .eql (.tmp 14) (.const (.int .i64 64))⟩] false [15, 4, 5]) (.cond (.tmp 15) (.seq (.ops [⟨(some 2), none, .mov (.const .nils)⟩, ⟨(some 3), none, .mov (.const (.int .i64 3))⟩] false [2, 3]) .ret) .skip)) (.seq (.ops [⟨(some 17), none, .mov (.tmp 4)⟩, ⟨(some 18), none, .call 20 [(.tmp 17)]⟩, ⟨(some 16), none, .mov (.tmp 18)⟩, ⟨(some 19), none, .extract (.tmp 16) 0⟩, ⟨(some 20), none, .extract (.tmp 16) 1⟩, ⟨(some 6), none, .alloc [.nils, .nils]⟩, ⟨none, none, .store 2 (.tmp 6) (.tmp 19)⟩, ⟨(some 7), none, .mov (.tmp 20)⟩] false [4, 6, 5, 7]) (.seq (.seq (.ops [⟨(some 21), none, .mov (.tmp 7)⟩, ⟨(some 22), none, .un .not (.tmp 21)⟩] false [22, 4, 6, 5]) (.cond (.tmp 22) (.seq (.ops [⟨(some 2), none, .mov (.const .nils)⟩, ⟨(some 3), none, .mov (.const (.int .i64 20))⟩] false [2, 3]) .ret) .skip)) (.seq (.ops [⟨(some 23), none, .mov (.tmp 5)⟩, ⟨(some 24), none, .load 2 true (.tmp 6)⟩, ⟨(some 25), none, .buildSl 2 true [.nils, .nils] 1 [(0, (.tmp 24))]⟩, ⟨(some 26), none, .appendT 37 2 (.tmp 23) (.tmp 25)⟩, ⟨(some 5), none, .mov (.tmp 26)⟩] false [5, 4]) (.seq (.seq (.ops [⟨(some 27), none, .mov (.tmp 4)⟩, ⟨(some 28), none, .nilck (.tmp 27)⟩, ⟨(some 29), none, .fieldA 0 (.tmp 28)⟩, ⟨(some 30), none, .load 1 false (.tmp 29)⟩, ⟨(some 31), none, .bin .eql (.tmp 30) (.const (.str []))⟩] false [31, 5, 4]) (.cond (.tmp 31) (.seq (.ops [⟨(some 32), none, .mov (.tmp 5)⟩, ⟨(some 2), none, .mov (.tmp 32)⟩, ⟨(some 3), none, .mov (.const (.int .i64 0))⟩] false [2, 3]) .ret) .skip)) (.seq (.ops [⟨(some 33), none, .mov (.tmp 4)⟩, ⟨(some 34), none, .call 21 [(.tmp 33), (.const (.str [44]))]⟩, ⟨(some 35), none, .un .not (.tmp 34)⟩] false [35, 4, 5]) (.cond (.tmp 35) (.seq (.ops [⟨(some 2), none, .mov (.const .nils)⟩, ⟨(some 3), none, .mov (.const (.int .i64 20))⟩] false [2, 3]) .ret) .skip)))))))) (.ops [] false [4, 5]))))))))), false, false⟩
/-- outpost/link.Right -/
def A11 : An := (.node (.ops [0]) (.node (.ops [3, 0]) (.node (.ops [2]) .leaf)))
def F11 : AFn := ⟨[(2, none)], (.seq (.ops [⟨(some 2), none, .mov (.const (.bool false))⟩] false [0]) (.seq (.ops [⟨(some 4), none, .mov (.tmp 0)⟩, ⟨(some 5), none, .call 22 [(.tmp 4), (.const (.fn 23 []))]⟩, ⟨(some 3), none, .mov (.tmp 5)⟩] false [3, 0]) (.seq (.ops [⟨(some 6), none, .mov (.tmp 0)⟩, ⟨(some 7), none, .len false (.tmp 6)⟩, ⟨(some 8), none, .bin .leq (.tmp 7) (.const (.int .i64 64))⟩, ⟨(some 9), none, .mov (.tmp 8)⟩, ⟨(some 10), (some (9, true)), .mov (.tmp 3)⟩, ⟨(some 11), (some (9, true)), .un .not (.tmp 10)⟩, ⟨(some 12), none, .pick (.tmp 9) (.tmp 11) (.const (.bool false))⟩, ⟨(some 2), none, .mov (.tmp 12)⟩] false [2]) .ret))), false, false⟩
/-- slices.EqualFunc[[]outpost/api.Link,[]outpost/api.Link,outpost/api.Link,outpost/api.Link] -/
def A12 : An := (.node (.ops [2, 1, 0]) (.node (.node (.ops [14, 2, 1, 0]) (.node (.node (.ops [6]) .leaf) .leaf)) (.node (.node (.ops [17, 2, 1, 15, 16]) (.node (.loop [17, 2, 1, 15, 16] (.node (.ops [18, 2, 1, 15, 16, 17]) (.node (.node .leaf .leaf) (.node (.node (.node (.ops [2, 1, 15, 16, 17, 8, 7]) (.node (.ops [2, 1, 15, 16, 17, 9, 8]) (.node (.ops [30, 2, 1, 15, 16, 17]) (.node (.node (.ops [6]) .leaf) .leaf)))) .leaf) (.ops [17, 2, 1, 15, 16]))))) .leaf)) (.node (.ops [6]) .leaf))))
def F12 : AFn := ⟨[(6, none)], (.seq (.ops [⟨(some 6), none, .mov (.const (.bool false))⟩] false [2, 1, 0]) (.seq (.seq (.ops [⟨(some 10), none, .mov (.tmp 0)⟩, ⟨(some 11), none, .len false (.tmp 10)⟩, ⟨(some 12), none, .mov (.tmp 1)⟩, ⟨(some 13), none, .len false (.tmp 12)⟩, ⟨(some 14), none, .bin .neq (.tmp 11) (.tmp 13)⟩] false [14, 2, 1, 0]) (.cond (.tmp 14) (.seq (.ops [⟨(some 6), none, .mov (.const (.bool false))⟩] false [6]) .ret) .skip)) (.seq (.seq (.ops [⟨(some 15), none, .mov (.tmp 0)⟩, ⟨(some 16), none, .len false (.tmp 15)⟩, ⟨(some 17), none, .mov (.const (.int .i64 0))⟩] false [17, 2, 1, 15, 16]) (.block 0 (.seq (.ops [] false [17, 2, 1, 15, 16]) (.loop (.seq (.seq (.ops [⟨(some 18), none, .bin .lss (.tmp 17) (.tmp 16)⟩] false [18, 2, 1, 15, 16, 17]) (.seq (.cond (.tmp 18) .skip (.exit 0)) (.seq (.block 1 (.seq (.ops [⟨(some 19), none, .mov (.tmp 17)⟩, ⟨(some 20), none, .idxA 2 (.tmp 15) (.tmp 17)⟩, ⟨(some 21), none, .load 2 true (.tmp 20)⟩, ⟨(some 8), none, .alloc [.nils, .nils]⟩, ⟨(some 7), none, .mov (.tmp 19)⟩, ⟨none, none, .store 2 (.tmp 8) (.tmp 21)⟩] false [2, 1, 15, 16, 17, 8, 7]) (.seq (.ops [⟨(some 22), none, .mov (.tmp 1)⟩, ⟨(some 23), none, .mov (.tmp 7)⟩, ⟨(some 24), none, .idxA 2 (.tmp 22) (.tmp 23)⟩, ⟨(some 25), none, .load 2 true (.tmp 24)⟩, ⟨(some 9), none, .alloc [.nils, .nils]⟩, ⟨none, none, .store 2 (.tmp 9) (.tmp 25)⟩] false [2, 1, 15, 16, 17, 9, 8]) (.seq (.ops [⟨(some 26), none, .mov (.tmp 2)⟩, ⟨(some 27), none, .load 2 true (.tmp 8)⟩, ⟨(some 28), none, .load 2 true (.tmp 9)⟩, ⟨(some 29), none, .callv (.tmp 26) [(.tmp 27), (.tmp 28)]⟩, ⟨(some 30), none, .un .not (.tmp 29)⟩] false [30, 2, 1, 15, 16, 17]) (.cond (.tmp 30) (.seq (.ops [⟨(some 6), none, .mov (.const (.bool false))⟩] false [6]) .ret) .skip))))) (.ops [⟨(some 31), none, .bin .add (.tmp 17) (.const (.int .i64 1))⟩, ⟨(some 17), none, .mov (.tmp 31)⟩] false [17, 2, 1, 15, 16])))) (.ops [] false [17, 2, 1, 15, 16])))))) (.seq (.ops [⟨(some 6), none, .mov (.const (.bool true))⟩] false [6]) .ret)))), false, false⟩
/-- outpost/link.Same$1 -/
def A13 : An := (.node (.ops [3, 2]) (.node (.ops [4]) .leaf))
def F13 : AFn := ⟨[(4, none)], (.seq (.ops [⟨(some 2), none, .box 2 (.tmp 0)⟩, ⟨(some 3), none, .box 2 (.tmp 1)⟩, ⟨(some 4), none, .mov (.const (.bool false))⟩] false [3, 2]) (.seq (.ops [⟨(some 5), none, .fieldA 0 (.tmp 2)⟩, ⟨(some 6), none, .load 1 false (.tmp 5)⟩, ⟨(some 7), none, .fieldA 0 (.tmp 3)⟩, ⟨(some 8), none, .load 1 false (.tmp 7)⟩, ⟨(some 9), none, .call 14 [(.tmp 6), (.tmp 8)]⟩, ⟨(some 10), none, .mov (.tmp 9)⟩, ⟨(some 11), (some (10, true)), .fieldA 1 (.tmp 2)⟩, ⟨(some 12), (some (10, true)), .load 1 false (.tmp 11)⟩, ⟨(some 13), (some (10, true)), .fieldA 1 (.tmp 3)⟩, ⟨(some 14), (some (10, true)), .load 1 false (.tmp 13)⟩, ⟨(some 15), (some (10, true)), .call 15 [(.tmp 12), (.tmp 14)]⟩, ⟨(some 16), none, .pick (.tmp 10) (.tmp 15) (.const (.bool false))⟩, ⟨(some 4), none, .mov (.tmp 16)⟩] false [4]) .ret)), false, false⟩
/-- slices.Equal[[]int,int] -/
def A14 : An := (.node (.ops [1, 0]) (.node (.node (.ops [10, 1, 0]) (.node (.node (.ops [4]) .leaf) .leaf)) (.node (.node (.ops [13, 1, 0, 12]) (.node (.loop [13, 1, 0, 12] (.node (.ops [14, 1, 0, 12, 13]) (.node (.node .leaf .leaf) (.node (.node (.node (.ops [1, 0, 12, 13, 5]) (.node (.ops [24, 1, 0, 12, 13]) (.node (.node (.ops [4]) .leaf) .leaf))) .leaf) (.ops [13, 1, 0, 12]))))) .leaf)) (.node (.ops [4]) .leaf))))
def F14 : AFn := ⟨[(4, none)], (.seq (.ops [⟨(some 4), none, .mov (.const (.bool false))⟩] false [1, 0]) (.seq (.seq (.ops [⟨(some 6), none, .mov (.tmp 0)⟩, ⟨(some 7), none, .len false (.tmp 6)⟩, ⟨(some 8), none, .mov (.tmp 1)⟩, ⟨(some 9), none, .len false (.tmp 8)⟩, ⟨(some 10), none, .bin .neq (.tmp 7) (.tmp 9)⟩] false [10, 1, 0]) (.cond (.tmp 10) (.seq (.ops [⟨(some 4), none, .mov (.const (.bool false))⟩] false [4]) .ret) .skip)) (.seq (.seq (.ops [⟨(some 11), none, .mov (.tmp 0)⟩, ⟨(some 12), none, .len false (.tmp 11)⟩, ⟨(some 13), none, .mov (.const (.int .i64 0))⟩] false [13, 1, 0, 12]) (.block 0 (.seq (.ops [] false [13, 1, 0, 12]) (.loop (.seq (.seq (.ops [⟨(some 14), none, .bin .lss (.tmp 13) (.tmp 12)⟩] false [14, 1, 0, 12, 13]) (.seq (.cond (.tmp 14) .skip (.exit 0)) (.seq (.block 1 (.seq (.ops [⟨(some 15), none, .mov (.tmp 13)⟩, ⟨(some 5), none, .mov (.tmp 15)⟩] false [1, 0, 12, 13, 5]) (.seq (.ops [⟨(some 16), none, .mov (.tmp 0)⟩, ⟨(some 17), none, .mov (.tmp 5)⟩, ⟨(some 18), none, .idxA 1 (.tmp 16) (.tmp 17)⟩, ⟨(some 19), none, .load 1 false (.tmp 18)⟩, ⟨(some 20), none, .mov (.tmp 1)⟩, ⟨(some 21), none, .mov (.tmp 5)⟩, ⟨(some 22), none, .idxA 1 (.tmp 20) (.tmp 21)⟩, ⟨(some 23), none, .load 1 false (.tmp 22)⟩, ⟨(some 24), none, .bin .neq (.tmp 19) (.tmp 23)⟩] false [24, 1, 0, 12, 13]) (.cond (.tmp 24) (.seq (.ops [⟨(some 4), none, .mov (.const (.bool false))⟩] false [4]) .ret) .skip)))) (.ops [⟨(some 25), none, .bin .add (.tmp 13) (.const (.int .i64 1))⟩, ⟨(some 13), none, .mov (.tmp 25)⟩] false [13, 1, 0, 12])))) (.ops [] false [13, 1, 0, 12])))))) (.seq (.ops [⟨(some 4), none, .mov (.const (.bool true))⟩] false [4]) .ret)))), false, false⟩
/-- slices.Equal[[]outpost/api.Pair,outpost/api.Pair] -/
def A15 : An := (.node (.ops [1, 0]) (.node (.node (.ops [10, 1, 0]) (.node (.node (.ops [4]) .leaf) .leaf)) (.node (.node (.ops [13, 1, 0, 12]) (.node (.loop [13, 1, 0, 12] (.node (.ops [14, 1, 0, 12, 13]) (.node (.node .leaf .leaf) (.node (.node (.node (.ops [1, 0, 12, 13, 5]) (.node (.ops [24, 1, 0, 12, 13]) (.node (.node (.ops [4]) .leaf) .leaf))) .leaf) (.ops [13, 1, 0, 12]))))) .leaf)) (.node (.ops [4]) .leaf))))
def F15 : AFn := ⟨[(4, none)], (.seq (.ops [⟨(some 4), none, .mov (.const (.bool false))⟩] false [1, 0]) (.seq (.seq (.ops [⟨(some 6), none, .mov (.tmp 0)⟩, ⟨(some 7), none, .len false (.tmp 6)⟩, ⟨(some 8), none, .mov (.tmp 1)⟩, ⟨(some 9), none, .len false (.tmp 8)⟩, ⟨(some 10), none, .bin .neq (.tmp 7) (.tmp 9)⟩] false [10, 1, 0]) (.cond (.tmp 10) (.seq (.ops [⟨(some 4), none, .mov (.const (.bool false))⟩] false [4]) .ret) .skip)) (.seq (.seq (.ops [⟨(some 11), none, .mov (.tmp 0)⟩, ⟨(some 12), none, .len false (.tmp 11)⟩, ⟨(some 13), none, .mov (.const (.int .i64 0))⟩] false [13, 1, 0, 12]) (.block 0 (.seq (.ops [] false [13, 1, 0, 12]) (.loop (.seq (.seq (.ops [⟨(some 14), none, .bin .lss (.tmp 13) (.tmp 12)⟩] false [14, 1, 0, 12, 13]) (.seq (.cond (.tmp 14) .skip (.exit 0)) (.seq (.block 1 (.seq (.ops [⟨(some 15), none, .mov (.tmp 13)⟩, ⟨(some 5), none, .mov (.tmp 15)⟩] false [1, 0, 12, 13, 5]) (.seq (.ops [⟨(some 16), none, .mov (.tmp 0)⟩, ⟨(some 17), none, .mov (.tmp 5)⟩, ⟨(some 18), none, .idxA 3 (.tmp 16) (.tmp 17)⟩, ⟨(some 19), none, .load 3 true (.tmp 18)⟩, ⟨(some 20), none, .mov (.tmp 1)⟩, ⟨(some 21), none, .mov (.tmp 5)⟩, ⟨(some 22), none, .idxA 3 (.tmp 20) (.tmp 21)⟩, ⟨(some 23), none, .load 3 true (.tmp 22)⟩, ⟨(some 24), none, .eqv true [2, 2, 0] (.tmp 19) (.tmp 23)⟩] false [24, 1, 0, 12, 13]) (.cond (.tmp 24) (.seq (.ops [⟨(some 4), none, .mov (.const (.bool false))⟩] false [4]) .ret) .skip)))) (.ops [⟨(some 25), none, .bin .add (.tmp 13) (.const (.int .i64 1))⟩, ⟨(some 13), none, .mov (.tmp 25)⟩] false [13, 1, 0, 12])))) (.ops [] false [13, 1, 0, 12])))))) (.seq (.ops [⟨(some 4), none, .mov (.const (.bool true))⟩] false [4]) .ret)))), false, false⟩
/-- outpost/outpostref01.SameInts -/
def A16 : An := (.node (.ops [1, 0]) (.node (.node (.ops [10, 1, 0]) (.node (.node (.ops [4]) .leaf) .leaf)) (.node (.node (.ops [5, 1, 0]) (.node (.loop [5, 1, 0] (.node (.node (.ops [14, 1, 0, 5]) (.node .leaf .leaf)) (.node (.node (.node (.ops [25, 1, 0, 5]) (.node (.node (.ops [4]) .leaf) .leaf)) .leaf) (.ops [5, 1, 0])))) .leaf)) (.node (.ops [4]) .leaf))))
def F16 : AFn := ⟨[(4, none)], (.seq (.ops [⟨(some 4), none, .mov (.const (.bool false))⟩] false [1, 0]) (.seq (.seq (.ops [⟨(some 6), none, .mov (.tmp 0)⟩, ⟨(some 7), none, .len false (.tmp 6)⟩, ⟨(some 8), none, .mov (.tmp 1)⟩, ⟨(some 9), none, .len false (.tmp 8)⟩, ⟨(some 10), none, .bin .neq (.tmp 7) (.tmp 9)⟩] false [10, 1, 0]) (.cond (.tmp 10) (.seq (.ops [⟨(some 4), none, .mov (.const (.bool false))⟩] false [4]) .ret) .skip)) (.seq (.seq (.ops [⟨(some 5), none, .mov (.const (.int .i64 0))⟩] false [5, 1, 0]) (.block 0 (.seq (.ops [] false [5, 1, 0]) (.loop (.seq (.seq (.seq (.ops [⟨(some 11), none, .mov (.tmp 5)⟩, ⟨(some 12), none, .mov (.tmp 0)⟩, ⟨(some 13), none, .len false (.tmp 12)⟩, ⟨(some 14), none, .bin .lss (.tmp 11) (.tmp 13)⟩] false [14, 1, 0, 5]) (.cond (.tmp 14) .skip (.exit 0))) (.seq (.block 1 (.seq (.ops [⟨(some 17), none, .mov (.tmp 0)⟩, ⟨(some 18), none, .mov (.tmp 5)⟩, ⟨(some 19), none, .idxA 1 (.tmp 17) (.tmp 18)⟩, ⟨(some 20), none, .load 1 false (.tmp 19)⟩, ⟨(some 21), none, .mov (.tmp 1)⟩, ⟨(some 22), none, .mov (.tmp 5)⟩, ⟨(some 23), none, .idxA 1 (.tmp 21) (.tmp 22)⟩, ⟨(some 24), none, .load 1 false (.tmp 23)⟩, ⟨(some 25), none, .bin .neq (.tmp 20) (.tmp 24)⟩] false [25, 1, 0, 5]) (.cond (.tmp 25) (.seq (.ops [⟨(some 4), none, .mov (.const (.bool false))⟩] false [4]) .ret) .skip))) (.ops [⟨(some 15), none, .mov (.tmp 5)⟩, ⟨(some 16), none, .bin .add (.tmp 15) (.const (.int .i64 1))⟩, ⟨(some 5), none, .mov (.tmp 16)⟩] false [5, 1, 0]))) (.ops [] false [5, 1, 0])))))) (.seq (.ops [⟨(some 4), none, .mov (.const (.bool true))⟩] false [4]) .ret)))), false, false⟩
/-- outpost/outpostref16.SamePairs -/
def A17 : An := (.node (.ops [1, 0]) (.node (.node (.ops [10, 1, 0]) (.node (.node (.ops [4]) .leaf) .leaf)) (.node (.node (.ops [5, 1, 0]) (.node (.loop [5, 1, 0] (.node (.node (.ops [14, 1, 0, 5]) (.node .leaf .leaf)) (.node (.node (.node (.ops [53, 1, 0, 5]) (.node (.node (.ops [4]) .leaf) .leaf)) .leaf) (.ops [5, 1, 0])))) .leaf)) (.node (.ops [4]) .leaf))))
def F17 : AFn := ⟨[(4, none)], (.seq (.ops [⟨(some 4), none, .mov (.const (.bool false))⟩] false [1, 0]) (.seq (.seq (.ops [⟨(some 6), none, .mov (.tmp 0)⟩, ⟨(some 7), none, .len false (.tmp 6)⟩, ⟨(some 8), none, .mov (.tmp 1)⟩, ⟨(some 9), none, .len false (.tmp 8)⟩, ⟨(some 10), none, .bin .neq (.tmp 7) (.tmp 9)⟩] false [10, 1, 0]) (.cond (.tmp 10) (.seq (.ops [⟨(some 4), none, .mov (.const (.bool false))⟩] false [4]) .ret) .skip)) (.seq (.seq (.ops [⟨(some 5), none, .mov (.const (.int .i64 0))⟩] false [5, 1, 0]) (.block 0 (.seq (.ops [] false [5, 1, 0]) (.loop (.seq (.seq (.seq (.ops [⟨(some 11), none, .mov (.tmp 5)⟩, ⟨(some 12), none, .mov (.tmp 0)⟩, ⟨(some 13), none, .len false (.tmp 12)⟩, ⟨(some 14), none, .bin .lss (.tmp 11) (.tmp 13)⟩] false [14, 1, 0, 5]) (.cond (.tmp 14) .skip (.exit 0))) (.seq (.block 1 (.seq (.ops [⟨(some 17), none, .mov (.tmp 0)⟩, ⟨(some 18), none, .mov (.tmp 5)⟩, ⟨(some 19), none, .idxA 3 (.tmp 17) (.tmp 18)⟩, ⟨(some 20), none, .fieldA 0 (.tmp 19)⟩, ⟨(some 21), none, .load 1 false (.tmp 20)⟩, ⟨(some 22), none, .mov (.tmp 1)⟩, ⟨(some 23), none, .mov (.tmp 5)⟩, ⟨(some 24), none, .idxA 3 (.tmp 22) (.tmp 23)⟩, ⟨(some 25), none, .fieldA 0 (.tmp 24)⟩, ⟨(some 26), none, .load 1 false (.tmp 25)⟩, ⟨(some 27), none, .bin .neq (.tmp 21) (.tmp 26)⟩, ⟨(some 28), none, .mov (.tmp 27)⟩, ⟨(some 29), (some (28, false)), .mov (.tmp 0)⟩, ⟨(some 30), (some (28, false)), .mov (.tmp 5)⟩, ⟨(some 31), (some (28, false)), .idxA 3 (.tmp 29) (.tmp 30)⟩, ⟨(some 32), (some (28, false)), .fieldA 1 (.tmp 31)⟩, ⟨(some 33), (some (28, false)), .load 1 false (.tmp 32)⟩, ⟨(some 34), (some (28, false)), .mov (.tmp 1)⟩, ⟨(some 35), (some (28, false)), .mov (.tmp 5)⟩, ⟨(some 36), (some (28, false)), .idxA 3 (.tmp 34) (.tmp 35)⟩, ⟨(some 37), (some (28, false)), .fieldA 1 (.tmp 36)⟩, ⟨(some 38), (some (28, false)), .load 1 false (.tmp 37)⟩, ⟨(some 39), (some (28, false)), .bin .neq (.tmp 33) (.tmp 38)⟩, ⟨(some 40), none, .pick (.tmp 28) (.const (.bool true)) (.tmp 39)⟩, ⟨(some 41), none, .mov (.tmp 40)⟩, ⟨(some 42), (some (41, false)), .mov (.tmp 0)⟩, ⟨(some 43), (some (41, false)), .mov (.tmp 5)⟩, ⟨(some 44), (some (41, false)), .idxA 3 (.tmp 42) (.tmp 43)⟩, ⟨(some 45), (some (41, false)), .fieldA 2 (.tmp 44)⟩, ⟨(some 46), (some (41, false)), .load 1 false (.tmp 45)⟩, ⟨(some 47), (some (41, false)), .mov (.tmp 1)⟩, ⟨(some 48), (some (41, false)), .mov (.tmp 5)⟩, ⟨(some 49), (some (41, false)), .idxA 3 (.tmp 47) (.tmp 48)⟩, ⟨(some 50), (some (41, false)), .fieldA 2 (.tmp 49)⟩, ⟨(some 51), (some (41, false)), .load 1 false (.tmp 50)⟩, ⟨(some 52), (some (41, false)), .binB true (.tmp 46) (.tmp 51)⟩, ⟨(some 53), none, .pick (.tmp 41) (.const (.bool true)) (.tmp 52)⟩] false [53, 1, 0, 5]) (.cond (.tmp 53) (.seq (.ops [⟨(some 4), none, .mov (.const (.bool false))⟩] false [4]) .ret) .skip))) (.ops [⟨(some 15), none, .mov (.tmp 5)⟩, ⟨(some 16), none, .bin .add (.tmp 15) (.const (.int .i64 1))⟩, ⟨(some 5), none, .mov (.tmp 16)⟩] false [5, 1, 0]))) (.ops [] false [5, 1, 0])))))) (.seq (.ops [⟨(some 4), none, .mov (.const (.bool true))⟩] false [4]) .ret)))), false, false⟩
/-- outpost/link.text -/
def A18 : An := (.node (.ops [1]) (.node (.ops [3, 1]) (.node (.node (.ops [14, 3, 12, 13]) (.node (.loop [14, 3, 12, 13] (.node (.ops [15, 12, 13, 14, 3]) (.node (.node .leaf .leaf) (.node (.node (.node (.ops [12, 13, 14, 5, 3]) (.node (.ops [12, 13, 14, 5, 3]) (.node (.ops [25, 12, 13, 14, 5, 3]) (.node (.ops [3, 12, 13, 14]) .leaf)))) .leaf) (.ops [14, 3, 12, 13]))))) .leaf)) (.node (.ops [2]) .leaf))))
def F18 : AFn := ⟨[(2, none)], (.seq (.ops [⟨(some 1), none, .box 2 (.tmp 0)⟩, ⟨(some 2), none, .mov (.const (.str []))⟩] false [1]) (.seq (.ops [⟨(some 6), none, .fieldA 0 (.tmp 1)⟩, ⟨(some 7), none, .load 1 false (.tmp 6)⟩, ⟨(some 8), none, .call 25 [(.tmp 7)]⟩, ⟨(some 9), none, .bin .add (.const (.str [60])) (.tmp 8)⟩, ⟨(some 10), none, .bin .add (.tmp 9) (.const (.str [62]))⟩, ⟨(some 3), none, .mov (.tmp 10)⟩] false [3, 1]) (.seq (.seq (.ops [⟨(some 11), none, .fieldA 1 (.tmp 1)⟩, ⟨(some 12), none, .load 1 false (.tmp 11)⟩, ⟨(some 13), none, .len false (.tmp 12)⟩, ⟨(some 14), none, .mov (.const (.int .i64 0))⟩] false [14, 3, 12, 13]) (.block 0 (.seq (.ops [] false [14, 3, 12, 13]) (.loop (.seq (.seq (.ops [⟨(some 15), none, .bin .lss (.tmp 14) (.tmp 13)⟩] false [15, 12, 13, 14, 3]) (.seq (.cond (.tmp 15) .skip (.exit 0)) (.seq (.block 1 (.seq (.ops [⟨(some 16), none, .idxA 3 (.tmp 12) (.tmp 14)⟩, ⟨(some 17), none, .load 3 true (.tmp 16)⟩, ⟨(some 5), none, .alloc [(.str []), (.str []), (.bool false)]⟩, ⟨none, none, .store 3 (.tmp 5) (.tmp 17)⟩] false [12, 13, 14, 5, 3]) (.seq (.ops [⟨(some 18), none, .mov (.tmp 3)⟩, ⟨(some 19), none, .fieldA 0 (.tmp 5)⟩, ⟨(some 20), none, .load 1 false (.tmp 19)⟩, ⟨(some 21), none, .bin .add (.const (.str [59])) (.tmp 20)⟩, ⟨(some 22), none, .bin .add (.tmp 18) (.tmp 21)⟩, ⟨(some 3), none, .mov (.tmp 22)⟩] false [12, 13, 14, 5, 3]) (.seq (.ops [⟨(some 23), none, .fieldA 2 (.tmp 5)⟩, ⟨(some 24), none, .load 1 false (.tmp 23)⟩, ⟨(some 25), none, .un .not (.tmp 24)⟩] false [25, 12, 13, 14, 5, 3]) (.cond (.tmp 25) (.ops [⟨(some 26), none, .mov (.tmp 3)⟩, ⟨(some 27), none, .fieldA 1 (.tmp 5)⟩, ⟨(some 28), none, .load 1 false (.tmp 27)⟩, ⟨(some 29), none, .call 26 [(.tmp 28)]⟩, ⟨(some 30), none, .bin .add (.const (.str [61])) (.tmp 29)⟩, ⟨(some 31), none, .bin .add (.tmp 26) (.tmp 30)⟩, ⟨(some 3), none, .mov (.tmp 31)⟩] false [3, 12, 13, 14]) .skip))))) (.ops [⟨(some 32), none, .bin .add (.tmp 14) (.const (.int .i64 1))⟩, ⟨(some 14), none, .mov (.tmp 32)⟩] false [14, 3, 12, 13])))) (.ops [] false [14, 3, 12, 13])))))) (.seq (.ops [⟨(some 33), none, .mov (.tmp 3)⟩, ⟨(some 2), none, .mov (.tmp 33)⟩] false [2]) .ret)))), false, false⟩
/-- (outpost/link.reader).link -/
def A20 : An := (.node (.ops [2, 0]) (.node (.ops [2, 0, 5, 4]) (.node (.ops [2, 6, 0, 5]) (.node (.node (.loop [2, 6, 0, 5] (.node (.node (.ops [19, 2, 6, 0, 5]) (.node .leaf .leaf)) (.node (.node (.node (.ops [23, 2, 6, 0]) (.node (.node (.ops [2, 3]) .leaf) .leaf)) (.node (.ops [2, 6, 0, 7]) (.node (.ops [2, 6, 0, 5, 7]) (.ops [2, 6, 0, 5])))) .leaf))) .leaf) (.node (.ops [2, 3]) .leaf)))))
def F20 : AFn := ⟨[(2, (some (2, true))), (3, none)], (.seq (.ops [⟨(some 2), none, .alloc [.nils, .nils]⟩, ⟨(some 3), none, .mov (.const (.bool false))⟩] false [2, 0]) (.seq (.ops [⟨(some 9), none, .mov (.tmp 0)⟩, ⟨(some 10), none, .call 30 [(.tmp 9)]⟩, ⟨(some 8), none, .mov (.tmp 10)⟩, ⟨(some 11), none, .extract (.tmp 8) 0⟩, ⟨(some 12), none, .extract (.tmp 8) 1⟩, ⟨(some 4), none, .mov (.tmp 11)⟩, ⟨(some 5), none, .mov (.tmp 12)⟩] false [2, 0, 5, 4]) (.seq (.ops [⟨(some 13), none, .mov (.tmp 4)⟩, ⟨(some 14), none, .build [.nils, .nils] [(0, 1, (.tmp 13))]⟩, ⟨(some 6), none, .alloc [.nils, .nils]⟩, ⟨none, none, .store 2 (.tmp 6) (.tmp 14)⟩] false [2, 6, 0, 5]) (.seq (.block 0 (.seq (.ops [] false [2, 6, 0, 5]) (.loop (.seq (.seq (.seq (.ops [⟨(some 15), none, .mov (.tmp 5)⟩, ⟨(some 16), none, .mov (.tmp 15)⟩, ⟨(some 17), (some (16, true)), .mov (.tmp 0)⟩, ⟨(some 18), (some (16, true)), .call 21 [(.tmp 17), (.const (.str [59]))]⟩, ⟨(some 19), none, .pick (.tmp 16) (.tmp 18) (.const (.bool false))⟩] false [19, 2, 6, 0, 5]) (.cond (.tmp 19) .skip (.exit 0))) (.block 1 (.seq (.seq (.ops [⟨(some 20), none, .fieldA 1 (.tmp 6)⟩, ⟨(some 21), none, .load 1 false (.tmp 20)⟩, ⟨(some 22), none, .len false (.tmp 21)⟩, ⟨(some 23), none, .bin .eql (.tmp 22) (.const (.int .i64 8))⟩] false [23, 2, 6, 0]) (.cond (.tmp 23) (.seq (.ops [⟨(some 24), none, .load 2 true (.tmp 6)⟩, ⟨none, none, .store 2 (.tmp 2) (.tmp 24)⟩, ⟨(some 3), none, .mov (.const (.bool false))⟩] false [2, 3]) .ret) .skip)) (.seq (.ops [⟨(some 7), none, .alloc [(.str []), (.str []), (.bool false)]⟩] false [2, 6, 0, 7]) (.seq (.ops [⟨(some 26), none, .mov (.tmp 0)⟩, ⟨(some 27), none, .call 31 [(.tmp 26)]⟩, ⟨(some 25), none, .mov (.tmp 27)⟩, ⟨(some 28), none, .extract (.tmp 25) 0⟩, ⟨(some 29), none, .extract (.tmp 25) 1⟩, ⟨none, none, .store 3 (.tmp 7) (.tmp 28)⟩, ⟨(some 5), none, .mov (.tmp 29)⟩] false [2, 6, 0, 5, 7]) (.ops [⟨(some 30), none, .fieldA 1 (.tmp 6)⟩, ⟨(some 31), none, .load 1 false (.tmp 30)⟩, ⟨(some 32), none, .load 3 true (.tmp 7)⟩, ⟨(some 33), none, .buildSl 3 true [(.str []), (.str []), (.bool false)] 1 [(0, (.tmp 32))]⟩, ⟨(some 34), none, .appendT 34 3 (.tmp 31) (.tmp 33)⟩, ⟨(some 35), none, .fieldA 1 (.tmp 6)⟩, ⟨none, none, .store 1 (.tmp 35) (.tmp 34)⟩] false [2, 6, 0, 5])))))) (.ops [] false [2, 6, 0, 5]))))) (.seq (.ops [⟨(some 36), none, .load 2 true (.tmp 6)⟩, ⟨(some 37), none, .mov (.tmp 5)⟩, ⟨none, none, .store 2 (.tmp 2) (.tmp 36)⟩, ⟨(some 3), none, .mov (.tmp 37)⟩] false [2, 3]) .ret))))), false, false⟩
/-- (outpost/link.reader).take -/
def A21 : An := (.node (.ops [0, 1]) (.node (.ops [6, 5, 0]) (.node (.node (.ops [16, 6, 5, 0]) (.node (.ops [6]) .leaf)) (.node (.ops [4]) .leaf))))
def F21 : AFn := ⟨[(4, none)], (.seq (.ops [⟨(some 4), none, .mov (.const (.bool false))⟩] false [0, 1]) (.seq (.ops [⟨(some 8), none, .mov (.tmp 0)⟩, ⟨(some 9), none, .nilck (.tmp 8)⟩, ⟨(some 10), none, .fieldA 0 (.tmp 9)⟩, ⟨(some 11), none, .load 1 false (.tmp 10)⟩, ⟨(some 12), none, .mov (.tmp 1)⟩, ⟨(some 13), none, .call 32 [(.tmp 11), (.tmp 12)]⟩, ⟨(some 7), none, .mov (.tmp 13)⟩, ⟨(some 14), none, .extract (.tmp 7) 0⟩, ⟨(some 15), none, .extract (.tmp 7) 1⟩, ⟨(some 5), none, .mov (.tmp 14)⟩, ⟨(some 6), none, .mov (.tmp 15)⟩] false [6, 5, 0]) (.seq (.seq (.ops [⟨(some 16), none, .mov (.tmp 6)⟩] false [16, 6, 5, 0]) (.cond (.tmp 16) (.ops [⟨(some 17), none, .mov (.tmp 0)⟩, ⟨(some 18), none, .mov (.tmp 5)⟩, ⟨(some 19), none, .nilck (.tmp 17)⟩, ⟨(some 20), none, .fieldA 0 (.tmp 19)⟩, ⟨none, none, .store 1 (.tmp 20) (.tmp 18)⟩] false [6]) .skip)) (.seq (.ops [⟨(some 21), none, .mov (.tmp 6)⟩, ⟨(some 4), none, .mov (.tmp 21)⟩] false [4]) .ret)))), false, false⟩
/-- slices.ContainsFunc[[]outpost/api.Link,outpost/api.Link] -/
def A22 : An := (.node (.ops [1, 0]) (.node (.ops [4]) .leaf))
def F22 : AFn := ⟨[(4, none)], (.seq (.ops [⟨(some 4), none, .mov (.const (.bool false))⟩] false [1, 0]) (.seq (.ops [⟨(some 5), none, .mov (.tmp 0)⟩, ⟨(some 6), none, .mov (.tmp 1)⟩, ⟨(some 7), none, .call 33 [(.tmp 5), (.tmp 6)]⟩, ⟨(some 8), none, .bin .geq (.tmp 7) (.const (.int .i64 0))⟩, ⟨(some 4), none, .mov (.tmp 8)⟩] false [4]) .ret)), false, false⟩
/-- outpost/link.Right$1 -/
def A23 : An := (.node (.ops [1]) (.node (.ops [2]) .leaf))
def F23 : AFn := ⟨[(2, none)], (.seq (.ops [⟨(some 1), none, .box 2 (.tmp 0)⟩, ⟨(some 2), none, .mov (.const (.bool false))⟩] false [1]) (.seq (.ops [⟨(some 3), none, .load 2 true (.tmp 1)⟩, ⟨(some 4), none, .call 24 [(.tmp 3)]⟩, ⟨(some 5), none, .un .not (.tmp 4)⟩, ⟨(some 2), none, .mov (.tmp 5)⟩] false [2]) .ret)), false, false⟩
/-- outpost/link.rightLink -/
def A24 : An := (.node (.ops [1]) (.node (.ops [3, 1]) (.node (.ops [2]) .leaf)))
def F24 : AFn := ⟨[(2, none)], (.seq (.ops [⟨(some 1), none, .box 2 (.tmp 0)⟩, ⟨(some 2), none, .mov (.const (.bool false))⟩] false [1]) (.seq (.ops [⟨(some 4), none, .fieldA 1 (.tmp 1)⟩, ⟨(some 5), none, .load 1 false (.tmp 4)⟩, ⟨(some 6), none, .call 34 [(.tmp 5), (.const (.fn 35 []))]⟩, ⟨(some 3), none, .mov (.tmp 6)⟩] false [3, 1]) (.seq (.ops [⟨(some 7), none, .fieldA 0 (.tmp 1)⟩, ⟨(some 8), none, .load 1 false (.tmp 7)⟩, ⟨(some 9), none, .call 37 [(.tmp 8)]⟩, ⟨(some 10), none, .mov (.tmp 9)⟩, ⟨(some 11), (some (10, true)), .fieldA 1 (.tmp 1)⟩, ⟨(some 12), (some (10, true)), .load 1 false (.tmp 11)⟩, ⟨(some 13), (some (10, true)), .len false (.tmp 12)⟩, ⟨(some 14), (some (10, true)), .bin .leq (.tmp 13) (.const (.int .i64 8))⟩, ⟨(some 15), none, .pick (.tmp 10) (.tmp 14) (.const (.bool false))⟩, ⟨(some 16), none, .mov (.tmp 15)⟩, ⟨(some 17), (some (16, true)), .mov (.tmp 3)⟩, ⟨(some 18), (some (16, true)), .un .not (.tmp 17)⟩, ⟨(some 19), none, .pick (.tmp 16) (.tmp 18) (.const (.bool false))⟩, ⟨(some 2), none, .mov (.tmp 19)⟩] false [2]) .ret))), false, false⟩
/-- outpost/path.Text -/
def A25 : An := (.node (.ops [0]) (.node (.node (.node (.ops [6, 0]) (.node (.node (.ops [2]) .leaf) (.node (.ops [10, 0]) (.node (.node (.ops [2]) .leaf) .leaf)))) .leaf) (.node (.ops [3, 0]) (.node (.node (.ops [16, 3, 14, 15]) (.node (.loop [16, 3, 14, 15] (.node (.ops [17, 3, 14, 15, 16]) (.node (.node .leaf .leaf) (.node (.node (.node (.ops [3, 14, 15, 16, 5]) (.node (.ops [3, 14, 15, 16, 5]) (.ops [3, 14, 15, 16]))) .leaf) (.ops [16, 3, 14, 15]))))) .leaf)) (.node (.ops [2]) .leaf)))))
def F25 : AFn := ⟨[(2, none)], (.seq (.ops [⟨(some 2), none, .mov (.const (.str []))⟩] false [0]) (.seq (.block 0 (.seq (.ops [⟨(some 7), none, .mov (.tmp 0)⟩, ⟨(some 8), none, .call 37 [(.tmp 7)]⟩, ⟨(some 9), none, .un .not (.tmp 8)⟩, ⟨(some 6), none, .mov (.tmp 9)⟩] false [6, 0]) (.cond (.tmp 6) (.seq (.ops [⟨(some 2), none, .mov (.const (.str []))⟩] false [2]) .ret) (.seq (.ops [⟨(some 11), none, .mov (.tmp 0)⟩, ⟨(some 12), none, .len false (.tmp 11)⟩, ⟨(some 13), none, .bin .eql (.tmp 12) (.const (.int .i64 0))⟩, ⟨(some 10), none, .mov (.tmp 13)⟩] false [10, 0]) (.cond (.tmp 10) (.seq (.ops [⟨(some 2), none, .mov (.const (.str [47]))⟩] false [2]) .ret) .skip))))) (.seq (.ops [⟨(some 3), none, .alloc [(.bnil 58), .nils]⟩] false [3, 0]) (.seq (.seq (.ops [⟨(some 14), none, .mov (.tmp 0)⟩, ⟨(some 15), none, .len false (.tmp 14)⟩, ⟨(some 16), none, .mov (.const (.int .i64 0))⟩] false [16, 3, 14, 15]) (.block 1 (.seq (.ops [] false [16, 3, 14, 15]) (.loop (.seq (.seq (.ops [⟨(some 17), none, .bin .lss (.tmp 16) (.tmp 15)⟩] false [17, 3, 14, 15, 16]) (.seq (.cond (.tmp 17) .skip (.exit 1)) (.seq (.block 2 (.seq (.ops [⟨(some 18), none, .idxA 1 (.tmp 14) (.tmp 16)⟩, ⟨(some 19), none, .load 1 false (.tmp 18)⟩, ⟨(some 5), none, .mov (.tmp 19)⟩] false [3, 14, 15, 16, 5]) (.seq (.ops [⟨(some 20), none, .call 38 [(.tmp 3), (.const (.int .u8 47))]⟩] false [3, 14, 15, 16, 5]) (.ops [⟨(some 21), none, .mov (.tmp 5)⟩, ⟨(some 22), none, .call 39 [(.tmp 21)]⟩, ⟨(some 23), none, .call 28 [(.tmp 3), (.tmp 22)]⟩] false [3, 14, 15, 16])))) (.ops [⟨(some 24), none, .bin .add (.tmp 16) (.const (.int .i64 1))⟩, ⟨(some 16), none, .mov (.tmp 24)⟩] false [16, 3, 14, 15])))) (.ops [] false [16, 3, 14, 15])))))) (.seq (.ops [⟨(some 25), none, .call 29 [(.tmp 3)]⟩, ⟨(some 2), none, .mov (.tmp 25)⟩] false [2]) .ret))))), false, false⟩
/-- outpost/link.value -/
def A26 : An := (.node (.ops [0]) (.node (.node (.ops [11, 0]) (.node (.node (.ops [2]) .leaf) .leaf)) (.node (.ops [2]) .leaf)))
def F26 : AFn := ⟨[(2, none)], (.seq (.ops [⟨(some 2), none, .mov (.const (.str []))⟩] false [0]) (.seq (.seq (.ops [⟨(some 3), none, .mov (.tmp 0)⟩, ⟨(some 4), none, .bin .neq (.tmp 3) (.const (.str []))⟩, ⟨(some 5), none, .mov (.tmp 4)⟩, ⟨(some 6), (some (5, true)), .mov (.tmp 0)⟩, ⟨(some 7), (some (5, true)), .call 40 [(.tmp 6), (.const (.fn 41 []))]⟩, ⟨(some 8), (some (5, true)), .mov (.tmp 0)⟩, ⟨(some 9), (some (5, true)), .len true (.tmp 8)⟩, ⟨(some 10), (some (5, true)), .bin .eql (.tmp 7) (.tmp 9)⟩, ⟨(some 11), none, .pick (.tmp 5) (.tmp 10) (.const (.bool false))⟩] false [11, 0]) (.cond (.tmp 11) (.seq (.ops [⟨(some 12), none, .mov (.tmp 0)⟩, ⟨(some 2), none, .mov (.tmp 12)⟩] false [2]) .ret) .skip)) (.seq (.ops [⟨(some 13), none, .mov (.tmp 0)⟩, ⟨(some 14), none, .bin .add (.const (.str [34])) (.tmp 13)⟩, ⟨(some 15), none, .bin .add (.tmp 14) (.const (.str [34]))⟩, ⟨(some 2), none, .mov (.tmp 15)⟩] false [2]) .ret))), false, false⟩
/-- (strings.Builder).WriteString -/
def A28 : An := (.node (.ops [1, 0]) (.node (.ops [1, 0]) (.node (.ops [1]) (.node (.ops [4, 5]) .leaf))))
def F28 : AFn := ⟨[(4, none), (5, none)], (.seq (.ops [⟨(some 4), none, .mov (.const (.int .i64 0))⟩, ⟨(some 5), none, .mov (.const .nilif)⟩] false [1, 0]) (.seq (.ops [⟨(some 6), none, .mov (.tmp 0)⟩, ⟨(some 7), none, .call 42 [(.tmp 6)]⟩] false [1, 0]) (.seq (.ops [⟨(some 8), none, .mov (.tmp 0)⟩, ⟨(some 9), none, .mov (.tmp 0)⟩, ⟨(some 10), none, .nilck (.tmp 9)⟩, ⟨(some 11), none, .fieldA 1 (.tmp 10)⟩, ⟨(some 12), none, .load 1 false (.tmp 11)⟩, ⟨(some 13), none, .mov (.tmp 1)⟩, ⟨(some 14), none, .appendT 5 1 (.tmp 12) (.tmp 13)⟩, ⟨(some 15), none, .nilck (.tmp 8)⟩, ⟨(some 16), none, .fieldA 1 (.tmp 15)⟩, ⟨none, none, .store 1 (.tmp 16) (.tmp 14)⟩] false [1]) (.seq (.ops [⟨(some 17), none, .mov (.tmp 1)⟩, ⟨(some 18), none, .len true (.tmp 17)⟩, ⟨(some 4), none, .mov (.tmp 18)⟩, ⟨(some 5), none, .mov (.const .nilif)⟩] false [4, 5]) .ret)))), true, false⟩
/-- (outpost/link.reader).path -/
def A30 : An := (.node (.ops [0]) (.node (.node (.ops [9, 0]) (.node (.node (.ops [2, 3]) .leaf) .leaf)) (.node (.ops [0, 4]) (.node (.ops [0, 6, 5]) (.node (.ops [2, 3]) .leaf)))))
def F30 : AFn := ⟨[(2, none), (3, none)], (.seq (.ops [⟨(some 2), none, .mov (.const .nils)⟩, ⟨(some 3), none, .mov (.const (.bool false))⟩] false [0]) (.seq (.seq (.ops [⟨(some 7), none, .mov (.tmp 0)⟩, ⟨(some 8), none, .call 21 [(.tmp 7), (.const (.str [60]))]⟩, ⟨(some 9), none, .un .not (.tmp 8)⟩] false [9, 0]) (.cond (.tmp 9) (.seq (.ops [⟨(some 2), none, .mov (.const .nils)⟩, ⟨(some 3), none, .mov (.const (.bool false))⟩] false [2, 3]) .ret) .skip)) (.seq (.ops [⟨(some 10), none, .mov (.tmp 0)⟩, ⟨(some 11), none, .call 44 [(.tmp 10), (.const (.fn 45 []))]⟩, ⟨(some 4), none, .mov (.tmp 11)⟩] false [0, 4]) (.seq (.ops [⟨(some 13), none, .mov (.tmp 4)⟩, ⟨(some 14), none, .call 46 [(.tmp 13)]⟩, ⟨(some 12), none, .mov (.tmp 14)⟩, ⟨(some 15), none, .extract (.tmp 12) 0⟩, ⟨(some 16), none, .extract (.tmp 12) 1⟩, ⟨(some 5), none, .mov (.tmp 15)⟩, ⟨(some 6), none, .mov (.tmp 16)⟩] false [0, 6, 5]) (.seq (.ops [⟨(some 17), none, .mov (.tmp 5)⟩, ⟨(some 18), none, .mov (.tmp 6)⟩, ⟨(some 19), none, .bin .eql (.tmp 18) (.const (.int .i64 0))⟩, ⟨(some 20), none, .mov (.tmp 19)⟩, ⟨(some 21), (some (20, true)), .mov (.tmp 0)⟩, ⟨(some 22), (some (20, true)), .call 21 [(.tmp 21), (.const (.str [62]))]⟩, ⟨(some 23), none, .pick (.tmp 20) (.tmp 22) (.const (.bool false))⟩, ⟨(some 2), none, .mov (.tmp 17)⟩, ⟨(some 3), none, .mov (.tmp 23)⟩] false [2, 3]) .ret))))), false, false⟩
/-- (outpost/link.reader).pair -/
def A31 : An := (.node (.ops [2, 0]) (.node (.ops [2, 4, 0]) (.node (.node (.ops [12, 2, 4, 0]) (.node (.node (.ops [2, 3]) .leaf) .leaf)) (.node (.node (.ops [16, 2, 4, 0]) (.node (.node (.ops [2, 4]) (.node (.ops [2, 3]) .leaf)) .leaf)) (.node (.ops [2, 4, 0]) (.node (.ops [2, 5, 4]) (.node (.ops [2, 3]) .leaf)))))))
def F31 : AFn := ⟨[(2, (some (3, true))), (3, none)], (.seq (.ops [⟨(some 2), none, .alloc [(.str []), (.str []), (.bool false)]⟩, ⟨(some 3), none, .mov (.const (.bool false))⟩] false [2, 0]) (.seq (.ops [⟨(some 6), none, .mov (.tmp 0)⟩, ⟨(some 7), none, .call 44 [(.tmp 6), (.const (.fn 47 []))]⟩, ⟨(some 8), none, .build [(.str []), (.str []), (.bool false)] [(0, 1, (.tmp 7))]⟩, ⟨(some 4), none, .alloc [(.str []), (.str []), (.bool false)]⟩, ⟨none, none, .store 3 (.tmp 4) (.tmp 8)⟩] false [2, 4, 0]) (.seq (.seq (.ops [⟨(some 9), none, .fieldA 0 (.tmp 4)⟩, ⟨(some 10), none, .load 1 false (.tmp 9)⟩, ⟨(some 11), none, .call 48 [(.tmp 10)]⟩, ⟨(some 12), none, .un .not (.tmp 11)⟩] false [12, 2, 4, 0]) (.cond (.tmp 12) (.seq (.ops [⟨(some 13), none, .load 3 true (.tmp 4)⟩, ⟨none, none, .store 3 (.tmp 2) (.tmp 13)⟩, ⟨(some 3), none, .mov (.const (.bool false))⟩] false [2, 3]) .ret) .skip)) (.seq (.seq (.ops [⟨(some 14), none, .mov (.tmp 0)⟩, ⟨(some 15), none, .call 21 [(.tmp 14), (.const (.str [61]))]⟩, ⟨(some 16), none, .un .not (.tmp 15)⟩] false [16, 2, 4, 0]) (.cond (.tmp 16) (.seq (.ops [⟨(some 17), none, .fieldA 2 (.tmp 4)⟩, ⟨none, none, .store 1 (.tmp 17) (.const (.bool true))⟩] false [2, 4]) (.seq (.ops [⟨(some 18), none, .load 3 true (.tmp 4)⟩, ⟨none, none, .store 3 (.tmp 2) (.tmp 18)⟩, ⟨(some 3), none, .mov (.const (.bool true))⟩] false [2, 3]) .ret)) .skip)) (.seq (.ops [⟨(some 5), none, .mov (.const (.bool false))⟩] false [2, 4, 0]) (.seq (.ops [⟨(some 20), none, .mov (.tmp 0)⟩, ⟨(some 21), none, .call 49 [(.tmp 20)]⟩, ⟨(some 19), none, .mov (.tmp 21)⟩, ⟨(some 22), none, .extract (.tmp 19) 0⟩, ⟨(some 23), none, .extract (.tmp 19) 1⟩, ⟨(some 24), none, .fieldA 1 (.tmp 4)⟩, ⟨none, none, .store 1 (.tmp 24) (.tmp 22)⟩, ⟨(some 5), none, .mov (.tmp 23)⟩] false [2, 5, 4]) (.seq (.ops [⟨(some 25), none, .load 3 true (.tmp 4)⟩, ⟨(some 26), none, .mov (.tmp 5)⟩, ⟨none, none, .store 3 (.tmp 2) (.tmp 25)⟩, ⟨(some 3), none, .mov (.tmp 26)⟩] false [2, 3]) .ret))))))), false, false⟩
/-- strings.CutPrefix -/
def A32 : An := (.node (.ops [1, 0]) (.node (.ops [4, 5]) .leaf))
def F32 : AFn := ⟨[(4, none), (5, none)], (.seq (.ops [⟨(some 4), none, .mov (.const (.str []))⟩, ⟨(some 5), none, .mov (.const (.bool false))⟩] false [1, 0]) (.seq (.ops [⟨(some 6), none, .mov (.tmp 0)⟩, ⟨(some 7), none, .mov (.tmp 1)⟩, ⟨(some 8), none, .call 50 [(.tmp 6), (.tmp 7)]⟩, ⟨(some 9), none, .extract (.tmp 8) 0⟩, ⟨(some 10), none, .extract (.tmp 8) 1⟩, ⟨(some 4), none, .mov (.tmp 9)⟩, ⟨(some 5), none, .mov (.tmp 10)⟩] false [4, 5]) .ret)), false, false⟩
/-- slices.IndexFunc[[]outpost/api.Link,outpost/api.Link] -/
def A33 : An := (.node (.ops [0, 1]) (.node (.node (.ops [8, 0, 1, 7]) (.node (.loop [8, 0, 1, 7] (.node (.ops [9, 0, 1, 7, 8]) (.node (.node .leaf .leaf) (.node (.node (.node (.ops [5, 0, 1, 7, 8]) (.node (.ops [16, 5, 0, 1, 7, 8]) (.node (.node (.ops [4]) .leaf) .leaf))) .leaf) (.ops [8, 0, 1, 7]))))) .leaf)) (.node (.ops [4]) .leaf)))
def F33 : AFn := ⟨[(4, none)], (.seq (.ops [⟨(some 4), none, .mov (.const (.int .i64 0))⟩] false [0, 1]) (.seq (.seq (.ops [⟨(some 6), none, .mov (.tmp 0)⟩, ⟨(some 7), none, .len false (.tmp 6)⟩, ⟨(some 8), none, .mov (.const (.int .i64 0))⟩] false [8, 0, 1, 7]) (.block 0 (.seq (.ops [] false [8, 0, 1, 7]) (.loop (.seq (.seq (.ops [⟨(some 9), none, .bin .lss (.tmp 8) (.tmp 7)⟩] false [9, 0, 1, 7, 8]) (.seq (.cond (.tmp 9) .skip (.exit 0)) (.seq (.block 1 (.seq (.ops [⟨(some 10), none, .mov (.tmp 8)⟩, ⟨(some 5), none, .mov (.tmp 10)⟩] false [5, 0, 1, 7, 8]) (.seq (.ops [⟨(some 11), none, .mov (.tmp 1)⟩, ⟨(some 12), none, .mov (.tmp 0)⟩, ⟨(some 13), none, .mov (.tmp 5)⟩, ⟨(some 14), none, .idxA 2 (.tmp 12) (.tmp 13)⟩, ⟨(some 15), none, .load 2 true (.tmp 14)⟩, ⟨(some 16), none, .callv (.tmp 11) [(.tmp 15)]⟩] false [16, 5, 0, 1, 7, 8]) (.cond (.tmp 16) (.seq (.ops [⟨(some 17), none, .mov (.tmp 5)⟩, ⟨(some 4), none, .mov (.tmp 17)⟩] false [4]) .ret) .skip)))) (.ops [⟨(some 18), none, .bin .add (.tmp 8) (.const (.int .i64 1))⟩, ⟨(some 8), none, .mov (.tmp 18)⟩] false [8, 0, 1, 7])))) (.ops [] false [8, 0, 1, 7])))))) (.seq (.ops [⟨(some 4), none, .mov (.const (.int .i64 (-1)))⟩] false [4]) .ret))), false, false⟩
/-- slices.ContainsFunc[[]outpost/api.Pair,outpost/api.Pair] -/
def A34 : An := (.node (.ops [1, 0]) (.node (.ops [4]) .leaf))
def F34 : AFn := ⟨[(4, none)], (.seq (.ops [⟨(some 4), none, .mov (.const (.bool false))⟩] false [1, 0]) (.seq (.ops [⟨(some 5), none, .mov (.tmp 0)⟩, ⟨(some 6), none, .mov (.tmp 1)⟩, ⟨(some 7), none, .call 51 [(.tmp 5), (.tmp 6)]⟩, ⟨(some 8), none, .bin .geq (.tmp 7) (.const (.int .i64 0))⟩, ⟨(some 4), none, .mov (.tmp 8)⟩] false [4]) .ret)), false, false⟩
/-- outpost/link.rightLink$1 -/
def A35 : An := (.node (.ops [1]) (.node (.ops [2]) .leaf))
def F35 : AFn := ⟨[(2, none)], (.seq (.ops [⟨(some 1), none, .box 3 (.tmp 0)⟩, ⟨(some 2), none, .mov (.const (.bool false))⟩] false [1]) (.seq (.ops [⟨(some 3), none, .load 3 true (.tmp 1)⟩, ⟨(some 4), none, .call 36 [(.tmp 3)]⟩, ⟨(some 5), none, .un .not (.tmp 4)⟩, ⟨(some 2), none, .mov (.tmp 5)⟩] false [2]) .ret)), false, false⟩
/-- outpost/link.rightPair -/
def A36 : An := (.node (.ops [1]) (.node (.node (.ops [4, 1]) (.node (.node (.ops [2]) .leaf) .leaf)) (.node (.ops [2]) .leaf)))
def F36 : AFn := ⟨[(2, none)], (.seq (.ops [⟨(some 1), none, .box 3 (.tmp 0)⟩, ⟨(some 2), none, .mov (.const (.bool false))⟩] false [1]) (.seq (.seq (.ops [⟨(some 3), none, .fieldA 2 (.tmp 1)⟩, ⟨(some 4), none, .load 1 false (.tmp 3)⟩] false [4, 1]) (.cond (.tmp 4) (.seq (.ops [⟨(some 5), none, .fieldA 0 (.tmp 1)⟩, ⟨(some 6), none, .load 1 false (.tmp 5)⟩, ⟨(some 7), none, .call 48 [(.tmp 6)]⟩, ⟨(some 8), none, .mov (.tmp 7)⟩, ⟨(some 9), (some (8, true)), .fieldA 1 (.tmp 1)⟩, ⟨(some 10), (some (8, true)), .load 1 false (.tmp 9)⟩, ⟨(some 11), (some (8, true)), .bin .eql (.tmp 10) (.const (.str []))⟩, ⟨(some 12), none, .pick (.tmp 8) (.tmp 11) (.const (.bool false))⟩, ⟨(some 2), none, .mov (.tmp 12)⟩] false [2]) .ret) .skip)) (.seq (.ops [⟨(some 13), none, .fieldA 0 (.tmp 1)⟩, ⟨(some 14), none, .load 1 false (.tmp 13)⟩, ⟨(some 15), none, .call 48 [(.tmp 14)]⟩, ⟨(some 16), none, .mov (.tmp 15)⟩, ⟨(some 17), (some (16, true)), .fieldA 1 (.tmp 1)⟩, ⟨(some 18), (some (16, true)), .load 1 false (.tmp 17)⟩, ⟨(some 19), (some (16, true)), .len true (.tmp 18)⟩, ⟨(some 20), (some (16, true)), .bin .leq (.tmp 19) (.const (.int .i64 60))⟩, ⟨(some 21), none, .pick (.tmp 16) (.tmp 20) (.const (.bool false))⟩, ⟨(some 22), none, .mov (.tmp 21)⟩, ⟨(some 23), (some (22, true)), .fieldA 1 (.tmp 1)⟩, ⟨(some 24), (some (22, true)), .load 1 false (.tmp 23)⟩, ⟨(some 25), (some (22, true)), .callQ 40 [(.tmp 24), (.const (.fn 52 []))]⟩, ⟨(some 26), (some (22, true)), .fieldA 1 (.tmp 1)⟩, ⟨(some 27), (some (22, true)), .load 1 false (.tmp 26)⟩, ⟨(some 28), (some (22, true)), .len true (.tmp 27)⟩, ⟨(some 29), (some (22, true)), .bin .eql (.tmp 25) (.tmp 28)⟩, ⟨(some 30), none, .pick (.tmp 22) (.tmp 29) (.const (.bool false))⟩, ⟨(some 2), none, .mov (.tmp 30)⟩] false [2]) .ret))), false, false⟩
/-- outpost/path.Right -/
def A37 : An := (.node (.ops [0]) (.node (.node (.ops [7, 5, 0, 6]) (.node (.loop [7, 5, 0, 6] (.node (.ops [8, 5, 0, 6, 7]) (.node (.node .leaf .leaf) (.node (.node (.node (.ops [5, 0, 6, 7, 4]) (.node (.ops [16, 5, 0, 6, 7]) (.node (.node (.ops [2]) .leaf) .leaf))) .leaf) (.ops [7, 5, 0, 6]))))) .leaf)) (.node (.ops [2]) .leaf)))
def F37 : AFn := ⟨[(2, none)], (.seq (.ops [⟨(some 2), none, .mov (.const (.bool false))⟩] false [0]) (.seq (.seq (.ops [⟨(some 5), none, .mov (.tmp 0)⟩, ⟨(some 6), none, .len false (.tmp 5)⟩, ⟨(some 7), none, .mov (.const (.int .i64 0))⟩] false [7, 5, 0, 6]) (.block 0 (.seq (.ops [] false [7, 5, 0, 6]) (.loop (.seq (.seq (.ops [⟨(some 8), none, .bin .lss (.tmp 7) (.tmp 6)⟩] false [8, 5, 0, 6, 7]) (.seq (.cond (.tmp 8) .skip (.exit 0)) (.seq (.block 1 (.seq (.ops [⟨(some 9), none, .idxA 1 (.tmp 5) (.tmp 7)⟩, ⟨(some 10), none, .load 1 false (.tmp 9)⟩, ⟨(some 4), none, .mov (.tmp 10)⟩] false [5, 0, 6, 7, 4]) (.seq (.ops [⟨(some 11), none, .mov (.tmp 4)⟩, ⟨(some 12), none, .bin .lss (.tmp 11) (.const (.int .i64 0))⟩, ⟨(some 13), none, .mov (.tmp 12)⟩, ⟨(some 14), (some (13, false)), .mov (.tmp 4)⟩, ⟨(some 15), (some (13, false)), .bin .gtr (.tmp 14) (.const (.int .i64 65535))⟩, ⟨(some 16), none, .pick (.tmp 13) (.const (.bool true)) (.tmp 15)⟩] false [16, 5, 0, 6, 7]) (.cond (.tmp 16) (.seq (.ops [⟨(some 2), none, .mov (.const (.bool false))⟩] false [2]) .ret) .skip)))) (.ops [⟨(some 17), none, .bin .add (.tmp 7) (.const (.int .i64 1))⟩, ⟨(some 7), none, .mov (.tmp 17)⟩] false [7, 5, 0, 6])))) (.ops [] false [7, 5, 0, 6])))))) (.seq (.ops [⟨(some 18), none, .mov (.tmp 0)⟩, ⟨(some 19), none, .len false (.tmp 18)⟩, ⟨(some 20), none, .bin .leq (.tmp 19) (.const (.int .i64 3))⟩, ⟨(some 2), none, .mov (.tmp 20)⟩] false [2]) .ret))), false, false⟩
/-- (strings.Builder).WriteByte -/
def A38 : An := (.node (.ops [1, 0]) (.node (.ops [1, 0]) (.node (.ops []) (.node (.ops [4]) .leaf))))
def F38 : AFn := ⟨[(4, none)], (.seq (.ops [⟨(some 4), none, .mov (.const .nilif)⟩] false [1, 0]) (.seq (.ops [⟨(some 5), none, .mov (.tmp 0)⟩, ⟨(some 6), none, .call 42 [(.tmp 5)]⟩] false [1, 0]) (.seq (.ops [⟨(some 7), none, .mov (.tmp 0)⟩, ⟨(some 8), none, .mov (.tmp 0)⟩, ⟨(some 9), none, .nilck (.tmp 8)⟩, ⟨(some 10), none, .fieldA 1 (.tmp 9)⟩, ⟨(some 11), none, .load 1 false (.tmp 10)⟩, ⟨(some 12), none, .mov (.tmp 1)⟩, ⟨(some 13), none, .buildSl 1 false [(.int .u8 0)] 1 [(0, (.tmp 12))]⟩, ⟨(some 14), none, .appendT 5 1 (.tmp 11) (.tmp 13)⟩, ⟨(some 15), none, .nilck (.tmp 7)⟩, ⟨(some 16), none, .fieldA 1 (.tmp 15)⟩, ⟨none, none, .store 1 (.tmp 16) (.tmp 14)⟩] false []) (.seq (.ops [⟨(some 4), none, .mov (.const .nilif)⟩] false [4]) .ret)))), true, false⟩
/-- outpost/link.run -/
def A40 : An := (.node (.ops [0, 1]) (.node (.node (.ops [8, 0, 1, 7]) (.node (.loop [8, 0, 1, 7] (.node (.ops [9, 0, 1, 7, 8]) (.node (.node .leaf .leaf) (.node (.node (.node (.ops [5, 0, 1, 7, 8]) (.node (.ops [16, 5, 0, 1, 7, 8]) (.node (.node (.ops [4]) .leaf) .leaf))) .leaf) (.ops [8, 0, 1, 7]))))) .leaf)) (.node (.ops [4]) .leaf)))
def F40 : AFn := ⟨[(4, none)], (.seq (.ops [⟨(some 4), none, .mov (.const (.int .i64 0))⟩] false [0, 1]) (.seq (.seq (.ops [⟨(some 6), none, .mov (.tmp 0)⟩, ⟨(some 7), none, .len true (.tmp 6)⟩, ⟨(some 8), none, .mov (.const (.int .i64 0))⟩] false [8, 0, 1, 7]) (.block 0 (.seq (.ops [] false [8, 0, 1, 7]) (.loop (.seq (.seq (.ops [⟨(some 9), none, .bin .lss (.tmp 8) (.tmp 7)⟩] false [9, 0, 1, 7, 8]) (.seq (.cond (.tmp 9) .skip (.exit 0)) (.seq (.block 1 (.seq (.ops [⟨(some 10), none, .mov (.tmp 8)⟩, ⟨(some 5), none, .mov (.tmp 10)⟩] false [5, 0, 1, 7, 8]) (.seq (.ops [⟨(some 11), none, .mov (.tmp 1)⟩, ⟨(some 12), none, .mov (.tmp 0)⟩, ⟨(some 13), none, .mov (.tmp 5)⟩, ⟨(some 14), none, .idxStr (.tmp 12) (.tmp 13)⟩, ⟨(some 15), none, .callv (.tmp 11) [(.tmp 14)]⟩, ⟨(some 16), none, .un .not (.tmp 15)⟩] false [16, 5, 0, 1, 7, 8]) (.cond (.tmp 16) (.seq (.ops [⟨(some 17), none, .mov (.tmp 5)⟩, ⟨(some 4), none, .mov (.tmp 17)⟩] false [4]) .ret) .skip)))) (.ops [⟨(some 18), none, .bin .add (.tmp 8) (.const (.int .i64 1))⟩, ⟨(some 8), none, .mov (.tmp 18)⟩] false [8, 0, 1, 7])))) (.ops [] false [8, 0, 1, 7])))))) (.seq (.ops [⟨(some 19), none, .mov (.tmp 0)⟩, ⟨(some 20), none, .len true (.tmp 19)⟩, ⟨(some 4), none, .mov (.tmp 20)⟩] false [4]) .ret))), false, false⟩
/-- outpost/link.simple -/
def A41 : An := (.node (.ops [0]) (.node (.ops [2]) .leaf))
def F41 : AFn := ⟨[(2, none)], (.seq (.ops [⟨(some 2), none, .mov (.const (.bool false))⟩] false [0]) (.seq (.ops [⟨(some 3), none, .mov (.tmp 0)⟩, ⟨(some 4), none, .call 47 [(.tmp 3)]⟩, ⟨(some 5), none, .mov (.tmp 4)⟩, ⟨(some 6), (some (5, false)), .mov (.tmp 0)⟩, ⟨(some 7), (some (5, false)), .bin .eql (.tmp 6) (.const (.int .u8 46))⟩, ⟨(some 8), none, .pick (.tmp 5) (.const (.bool true)) (.tmp 7)⟩, ⟨(some 9), none, .mov (.tmp 8)⟩, ⟨(some 10), (some (9, false)), .mov (.tmp 0)⟩, ⟨(some 11), (some (9, false)), .bin .eql (.tmp 10) (.const (.int .u8 45))⟩, ⟨(some 12), none, .pick (.tmp 9) (.const (.bool true)) (.tmp 11)⟩, ⟨(some 2), none, .mov (.tmp 12)⟩] false [2]) .ret)), false, false⟩
/-- (outpost/link.reader).while -/
def A44 : An := (.node (.ops [0, 1]) (.node (.ops [5, 0]) (.node (.ops [6, 5, 0]) (.node (.ops [6]) (.node (.ops [4]) .leaf)))))
def F44 : AFn := ⟨[(4, none)], (.seq (.ops [⟨(some 4), none, .mov (.const (.str []))⟩] false [0, 1]) (.seq (.ops [⟨(some 7), none, .mov (.tmp 0)⟩, ⟨(some 8), none, .nilck (.tmp 7)⟩, ⟨(some 9), none, .fieldA 0 (.tmp 8)⟩, ⟨(some 10), none, .load 1 false (.tmp 9)⟩, ⟨(some 11), none, .mov (.tmp 1)⟩, ⟨(some 12), none, .call 40 [(.tmp 10), (.tmp 11)]⟩, ⟨(some 5), none, .mov (.tmp 12)⟩] false [5, 0]) (.seq (.ops [⟨(some 13), none, .mov (.tmp 0)⟩, ⟨(some 14), none, .nilck (.tmp 13)⟩, ⟨(some 15), none, .fieldA 0 (.tmp 14)⟩, ⟨(some 16), none, .load 1 false (.tmp 15)⟩, ⟨(some 17), none, .mov (.tmp 5)⟩, ⟨(some 18), none, .slice none (.tmp 16) none (some (.tmp 17)) none⟩, ⟨(some 6), none, .mov (.tmp 18)⟩] false [6, 5, 0]) (.seq (.ops [⟨(some 19), none, .mov (.tmp 0)⟩, ⟨(some 20), none, .mov (.tmp 0)⟩, ⟨(some 21), none, .nilck (.tmp 20)⟩, ⟨(some 22), none, .fieldA 0 (.tmp 21)⟩, ⟨(some 23), none, .load 1 false (.tmp 22)⟩, ⟨(some 24), none, .mov (.tmp 5)⟩, ⟨(some 25), none, .slice none (.tmp 23) (some (.tmp 24)) none none⟩, ⟨(some 26), none, .nilck (.tmp 19)⟩, ⟨(some 27), none, .fieldA 0 (.tmp 26)⟩, ⟨none, none, .store 1 (.tmp 27) (.tmp 25)⟩] false [6]) (.seq (.ops [⟨(some 28), none, .mov (.tmp 6)⟩, ⟨(some 4), none, .mov (.tmp 28)⟩] false [4]) .ret))))), false, false⟩
/-- (outpost/link.reader).path$1 -/
def A45 : An := (.node (.ops [0]) (.node (.ops [2]) .leaf))
def F45 : AFn := ⟨[(2, none)], (.seq (.ops [⟨(some 2), none, .mov (.const (.bool false))⟩] false [0]) (.seq (.ops [⟨(some 3), none, .mov (.tmp 0)⟩, ⟨(some 4), none, .bin .neq (.tmp 3) (.const (.int .u8 62))⟩, ⟨(some 2), none, .mov (.tmp 4)⟩] false [2]) .ret)), false, false⟩
/-- outpost/path.Read -/
def A46 : An := (.node (.ops [0]) (.node (.ops [4, 5]) (.node (.node (.node (.ops [13, 4]) (.node (.node (.ops [2, 3]) .leaf) (.node (.ops [16, 4]) (.node (.node (.ops [2, 3]) .leaf) .leaf)))) .leaf) (.node (.ops [6, 7]) (.node (.node (.ops [26, 6]) (.node (.node (.ops [2, 3]) .leaf) .leaf)) (.node (.ops [2, 3]) .leaf))))))
def F46 : AFn := ⟨[(2, none), (3, none)], (.seq (.ops [⟨(some 2), none, .mov (.const .nils)⟩, ⟨(some 3), none, .mov (.const (.int .i64 0))⟩] false [0]) (.seq (.ops [⟨(some 9), none, .mov (.tmp 0)⟩, ⟨(some 10), none, .call 32 [(.tmp 9), (.const (.str [47]))]⟩, ⟨(some 8), none, .mov (.tmp 10)⟩, ⟨(some 11), none, .extract (.tmp 8) 0⟩, ⟨(some 12), none, .extract (.tmp 8) 1⟩, ⟨(some 4), none, .mov (.tmp 11)⟩, ⟨(some 5), none, .mov (.tmp 12)⟩] false [4, 5]) (.seq (.block 0 (.seq (.ops [⟨(some 14), none, .mov (.tmp 5)⟩, ⟨(some 15), none, .un .not (.tmp 14)⟩, ⟨(some 13), none, .mov (.tmp 15)⟩] false [13, 4]) (.cond (.tmp 13) (.seq (.ops [⟨(some 2), none, .mov (.const .nils)⟩, ⟨(some 3), none, .mov (.const (.int .i64 20))⟩] false [2, 3]) .ret) (.seq (.ops [⟨(some 17), none, .mov (.tmp 4)⟩, ⟨(some 18), none, .bin .eql (.tmp 17) (.const (.str []))⟩, ⟨(some 16), none, .mov (.tmp 18)⟩] false [16, 4]) (.cond (.tmp 16) (.seq (.ops [⟨(some 2), none, .mov (.const .nils)⟩, ⟨(some 3), none, .mov (.const (.int .i64 0))⟩] false [2, 3]) .ret) .skip))))) (.seq (.ops [⟨(some 20), none, .mov (.tmp 4)⟩, ⟨(some 21), none, .call 57 [(.tmp 20), (.const (.str [47]))]⟩, ⟨(some 22), none, .call 56 [(.tmp 21)]⟩, ⟨(some 19), none, .mov (.tmp 22)⟩, ⟨(some 23), none, .extract (.tmp 19) 0⟩, ⟨(some 24), none, .extract (.tmp 19) 1⟩, ⟨(some 6), none, .mov (.tmp 23)⟩, ⟨(some 7), none, .mov (.tmp 24)⟩] false [6, 7]) (.seq (.seq (.ops [⟨(some 25), none, .mov (.tmp 7)⟩, ⟨(some 26), none, .bin .neq (.tmp 25) (.const (.int .i64 0))⟩] false [26, 6]) (.cond (.tmp 26) (.seq (.ops [⟨(some 2), none, .mov (.const .nils)⟩, ⟨(some 3), none, .mov (.const (.int .i64 20))⟩] false [2, 3]) .ret) .skip)) (.seq (.ops [⟨(some 27), none, .mov (.tmp 6)⟩, ⟨(some 2), none, .mov (.tmp 27)⟩, ⟨(some 3), none, .mov (.const (.int .i64 0))⟩] false [2, 3]) .ret)))))), false, false⟩
/-- outpost/link.lower -/
def A47 : An := (.node (.ops [0]) (.node (.ops [2]) .leaf))
def F47 : AFn := ⟨[(2, none)], (.seq (.ops [⟨(some 2), none, .mov (.const (.bool false))⟩] false [0]) (.seq (.ops [⟨(some 3), none, .mov (.tmp 0)⟩, ⟨(some 4), none, .bin .geq (.tmp 3) (.const (.int .u8 97))⟩, ⟨(some 5), none, .mov (.tmp 4)⟩, ⟨(some 6), (some (5, true)), .mov (.tmp 0)⟩, ⟨(some 7), (some (5, true)), .bin .leq (.tmp 6) (.const (.int .u8 122))⟩, ⟨(some 8), none, .pick (.tmp 5) (.tmp 7) (.const (.bool false))⟩, ⟨(some 9), none, .mov (.tmp 8)⟩, ⟨(some 10), (some (9, false)), .mov (.tmp 0)⟩, ⟨(some 11), (some (9, false)), .bin .geq (.tmp 10) (.const (.int .u8 48))⟩, ⟨(some 12), (some (9, false)), .mov (.tmp 11)⟩, ⟨(some 13), (some (12, true)), .mov (.tmp 0)⟩, ⟨(some 14), (some (12, true)), .bin .leq (.tmp 13) (.const (.int .u8 57))⟩, ⟨(some 15), (some (9, false)), .pick (.tmp 12) (.tmp 14) (.const (.bool false))⟩, ⟨(some 16), none, .pick (.tmp 9) (.const (.bool true)) (.tmp 15)⟩, ⟨(some 2), none, .mov (.tmp 16)⟩] false [2]) .ret)), false, false⟩
/-- outpost/link.rightName -/
def A48 : An := (.node (.ops [0]) (.node (.ops [2]) .leaf))
def F48 : AFn := ⟨[(2, none)], (.seq (.ops [⟨(some 2), none, .mov (.const (.bool false))⟩] false [0]) (.seq (.ops [⟨(some 3), none, .mov (.tmp 0)⟩, ⟨(some 4), none, .bin .neq (.tmp 3) (.const (.str []))⟩, ⟨(some 5), none, .mov (.tmp 4)⟩, ⟨(some 6), (some (5, true)), .mov (.tmp 0)⟩, ⟨(some 7), (some (5, true)), .len true (.tmp 6)⟩, ⟨(some 8), (some (5, true)), .bin .leq (.tmp 7) (.const (.int .i64 16))⟩, ⟨(some 9), none, .pick (.tmp 5) (.tmp 8) (.const (.bool false))⟩, ⟨(some 10), none, .mov (.tmp 9)⟩, ⟨(some 11), (some (10, true)), .mov (.tmp 0)⟩, ⟨(some 12), (some (10, true)), .call 40 [(.tmp 11), (.const (.fn 47 []))]⟩, ⟨(some 13), (some (10, true)), .mov (.tmp 0)⟩, ⟨(some 14), (some (10, true)), .len true (.tmp 13)⟩, ⟨(some 15), (some (10, true)), .bin .eql (.tmp 12) (.tmp 14)⟩, ⟨(some 16), none, .pick (.tmp 10) (.tmp 15) (.const (.bool false))⟩, ⟨(some 2), none, .mov (.tmp 16)⟩] false [2]) .ret)), false, false⟩
/-- (outpost/link.reader).value -/
def A49 : An := (.node (.ops [0]) (.node (.node (.ops [8, 0]) (.node (.node (.ops [4]) (.node (.ops [2, 3]) .leaf)) .leaf)) (.node (.ops [0, 5]) (.node (.ops [2, 3]) .leaf))))
def F49 : AFn := ⟨[(2, none), (3, none)], (.seq (.ops [⟨(some 2), none, .mov (.const (.str []))⟩, ⟨(some 3), none, .mov (.const (.bool false))⟩] false [0]) (.seq (.seq (.ops [⟨(some 6), none, .mov (.tmp 0)⟩, ⟨(some 7), none, .call 21 [(.tmp 6), (.const (.str [34]))]⟩, ⟨(some 8), none, .un .not (.tmp 7)⟩] false [8, 0]) (.cond (.tmp 8) (.seq (.ops [⟨(some 9), none, .mov (.tmp 0)⟩, ⟨(some 10), none, .call 44 [(.tmp 9), (.const (.fn 41 []))]⟩, ⟨(some 4), none, .mov (.tmp 10)⟩] false [4]) (.seq (.ops [⟨(some 11), none, .mov (.tmp 4)⟩, ⟨(some 12), none, .mov (.tmp 4)⟩, ⟨(some 13), none, .bin .neq (.tmp 12) (.const (.str []))⟩, ⟨(some 14), none, .mov (.tmp 13)⟩, ⟨(some 15), (some (14, true)), .mov (.tmp 4)⟩, ⟨(some 16), (some (14, true)), .len true (.tmp 15)⟩, ⟨(some 17), (some (14, true)), .bin .leq (.tmp 16) (.const (.int .i64 60))⟩, ⟨(some 18), none, .pick (.tmp 14) (.tmp 17) (.const (.bool false))⟩, ⟨(some 2), none, .mov (.tmp 11)⟩, ⟨(some 3), none, .mov (.tmp 18)⟩] false [2, 3]) .ret)) .skip)) (.seq (.ops [⟨(some 19), none, .mov (.tmp 0)⟩, ⟨(some 20), none, .call 44 [(.tmp 19), (.const (.fn 52 []))]⟩, ⟨(some 5), none, .mov (.tmp 20)⟩] false [0, 5]) (.seq (.ops [⟨(some 21), none, .mov (.tmp 5)⟩, ⟨(some 22), none, .mov (.tmp 5)⟩, ⟨(some 23), none, .len true (.tmp 22)⟩, ⟨(some 24), none, .bin .leq (.tmp 23) (.const (.int .i64 60))⟩, ⟨(some 25), none, .mov (.tmp 24)⟩, ⟨(some 26), (some (25, true)), .mov (.tmp 0)⟩, ⟨(some 27), (some (25, true)), .call 21 [(.tmp 26), (.const (.str [34]))]⟩, ⟨(some 28), none, .pick (.tmp 25) (.tmp 27) (.const (.bool false))⟩, ⟨(some 2), none, .mov (.tmp 21)⟩, ⟨(some 3), none, .mov (.tmp 28)⟩] false [2, 3]) .ret)))), false, false⟩
/-- internal/stringslite.CutPrefix -/
def A50 : An := (.node (.ops [0, 1]) (.node (.node (.ops [9, 0, 1]) (.node (.node (.ops [4, 5]) .leaf) .leaf)) (.node (.ops [4, 5]) .leaf)))
def F50 : AFn := ⟨[(4, none), (5, none)], (.seq (.ops [⟨(some 4), none, .mov (.const (.str []))⟩, ⟨(some 5), none, .mov (.const (.bool false))⟩] false [0, 1]) (.seq (.seq (.ops [⟨(some 6), none, .mov (.tmp 0)⟩, ⟨(some 7), none, .mov (.tmp 1)⟩, ⟨(some 8), none, .call 58 [(.tmp 6), (.tmp 7)]⟩, ⟨(some 9), none, .un .not (.tmp 8)⟩] false [9, 0, 1]) (.cond (.tmp 9) (.seq (.ops [⟨(some 10), none, .mov (.tmp 0)⟩, ⟨(some 4), none, .mov (.tmp 10)⟩, ⟨(some 5), none, .mov (.const (.bool false))⟩] false [4, 5]) .ret) .skip)) (.seq (.ops [⟨(some 11), none, .mov (.tmp 0)⟩, ⟨(some 12), none, .mov (.tmp 1)⟩, ⟨(some 13), none, .len true (.tmp 12)⟩, ⟨(some 14), none, .slice none (.tmp 11) (some (.tmp 13)) none none⟩, ⟨(some 4), none, .mov (.tmp 14)⟩, ⟨(some 5), none, .mov (.const (.bool true))⟩] false [4, 5]) .ret))), false, false⟩
/-- slices.IndexFunc[[]outpost/api.Pair,outpost/api.Pair] -/
def A51 : An := (.node (.ops [0, 1]) (.node (.node (.ops [8, 0, 1, 7]) (.node (.loop [8, 0, 1, 7] (.node (.ops [9, 0, 1, 7, 8]) (.node (.node .leaf .leaf) (.node (.node (.node (.ops [5, 0, 1, 7, 8]) (.node (.ops [16, 5, 0, 1, 7, 8]) (.node (.node (.ops [4]) .leaf) .leaf))) .leaf) (.ops [8, 0, 1, 7]))))) .leaf)) (.node (.ops [4]) .leaf)))
def F51 : AFn := ⟨[(4, none)], (.seq (.ops [⟨(some 4), none, .mov (.const (.int .i64 0))⟩] false [0, 1]) (.seq (.seq (.ops [⟨(some 6), none, .mov (.tmp 0)⟩, ⟨(some 7), none, .len false (.tmp 6)⟩, ⟨(some 8), none, .mov (.const (.int .i64 0))⟩] false [8, 0, 1, 7]) (.block 0 (.seq (.ops [] false [8, 0, 1, 7]) (.loop (.seq (.seq (.ops [⟨(some 9), none, .bin .lss (.tmp 8) (.tmp 7)⟩] false [9, 0, 1, 7, 8]) (.seq (.cond (.tmp 9) .skip (.exit 0)) (.seq (.block 1 (.seq (.ops [⟨(some 10), none, .mov (.tmp 8)⟩, ⟨(some 5), none, .mov (.tmp 10)⟩] false [5, 0, 1, 7, 8]) (.seq (.ops [⟨(some 11), none, .mov (.tmp 1)⟩, ⟨(some 12), none, .mov (.tmp 0)⟩, ⟨(some 13), none, .mov (.tmp 5)⟩, ⟨(some 14), none, .idxA 3 (.tmp 12) (.tmp 13)⟩, ⟨(some 15), none, .load 3 true (.tmp 14)⟩, ⟨(some 16), none, .callv (.tmp 11) [(.tmp 15)]⟩] false [16, 5, 0, 1, 7, 8]) (.cond (.tmp 16) (.seq (.ops [⟨(some 17), none, .mov (.tmp 5)⟩, ⟨(some 4), none, .mov (.tmp 17)⟩] false [4]) .ret) .skip)))) (.ops [⟨(some 18), none, .bin .add (.tmp 8) (.const (.int .i64 1))⟩, ⟨(some 8), none, .mov (.tmp 18)⟩] false [8, 0, 1, 7])))) (.ops [] false [8, 0, 1, 7])))))) (.seq (.ops [⟨(some 4), none, .mov (.const (.int .i64 (-1)))⟩] false [4]) .ret))), false, false⟩
/-- outpost/link.printed -/
def A52 : An := (.node (.ops [0]) (.node (.ops [2]) .leaf))
def F52 : AFn := ⟨[(2, none)], (.seq (.ops [⟨(some 2), none, .mov (.const (.bool false))⟩] false [0]) (.seq (.ops [⟨(some 3), none, .mov (.tmp 0)⟩, ⟨(some 4), none, .bin .geq (.tmp 3) (.const (.int .u8 32))⟩, ⟨(some 5), none, .mov (.tmp 4)⟩, ⟨(some 6), (some (5, true)), .mov (.tmp 0)⟩, ⟨(some 7), (some (5, true)), .bin .leq (.tmp 6) (.const (.int .u8 126))⟩, ⟨(some 8), none, .pick (.tmp 5) (.tmp 7) (.const (.bool false))⟩, ⟨(some 9), none, .mov (.tmp 8)⟩, ⟨(some 10), (some (9, true)), .mov (.tmp 0)⟩, ⟨(some 11), (some (9, true)), .bin .neq (.tmp 10) (.const (.int .u8 34))⟩, ⟨(some 12), none, .pick (.tmp 9) (.tmp 11) (.const (.bool false))⟩, ⟨(some 13), none, .mov (.tmp 12)⟩, ⟨(some 14), (some (13, true)), .mov (.tmp 0)⟩, ⟨(some 15), (some (13, true)), .bin .neq (.tmp 14) (.const (.int .u8 92))⟩, ⟨(some 16), none, .pick (.tmp 13) (.tmp 15) (.const (.bool false))⟩, ⟨(some 2), none, .mov (.tmp 16)⟩] false [2]) .ret)), false, false⟩
/-- outpost/path.numbers -/
def A56 : An := (.node (.ops [0]) (.node (.node (.ops [11, 0]) (.node (.node (.ops [2, 3]) .leaf) .leaf)) (.node (.ops [4, 0]) (.node (.node (.ops [14, 4, 12, 13]) (.node (.loop [14, 4, 12, 13] (.node (.ops [15, 12, 13, 14, 4]) (.node (.node .leaf .leaf) (.node (.node (.node (.ops [12, 13, 14, 4, 6]) (.node (.ops [12, 13, 14, 7, 4, 8]) (.node (.node (.ops [24, 12, 13, 14, 7, 4]) (.node (.node (.ops [2, 3]) .leaf) .leaf)) (.ops [4, 12, 13, 14])))) .leaf) (.ops [14, 4, 12, 13]))))) .leaf)) (.node (.ops [2, 3]) .leaf)))))
def F56 : AFn := ⟨[(2, none), (3, none)], (.seq (.ops [⟨(some 2), none, .mov (.const .nils)⟩, ⟨(some 3), none, .mov (.const (.int .i64 0))⟩] false [0]) (.seq (.seq (.ops [⟨(some 9), none, .mov (.tmp 0)⟩, ⟨(some 10), none, .len false (.tmp 9)⟩, ⟨(some 11), none, .bin .gtr (.tmp 10) (.const (.int .i64 3))⟩] false [11, 0]) (.cond (.tmp 11) (.seq (.ops [⟨(some 2), none, .mov (.const .nils)⟩, ⟨(some 3), none, .mov (.const (.int .i64 3))⟩] false [2, 3]) .ret) .skip)) (.seq (.ops [⟨(some 4), none, .mov (.const .nils)⟩] false [4, 0]) (.seq (.seq (.ops [⟨(some 12), none, .mov (.tmp 0)⟩, ⟨(some 13), none, .len false (.tmp 12)⟩, ⟨(some 14), none, .mov (.const (.int .i64 0))⟩] false [14, 4, 12, 13]) (.block 0 (.seq (.ops [] false [14, 4, 12, 13]) (.loop (.seq (.seq (.ops [⟨(some 15), none, .bin .lss (.tmp 14) (.tmp 13)⟩] false [15, 12, 13, 14, 4]) (.seq (.cond (.tmp 15) .skip (.exit 0)) (.seq (.block 1 (.seq (.ops [⟨(some 16), none, .idxA 1 (.tmp 12) (.tmp 14)⟩, ⟨(some 17), none, .load 1 false (.tmp 16)⟩, ⟨(some 6), none, .mov (.tmp 17)⟩] false [12, 13, 14, 4, 6]) (.seq (.ops [⟨(some 19), none, .mov (.tmp 6)⟩, ⟨(some 20), none, .call 60 [(.tmp 19), (.const (.int .i64 65535))]⟩, ⟨(some 18), none, .mov (.tmp 20)⟩, ⟨(some 21), none, .extract (.tmp 18) 0⟩, ⟨(some 22), none, .extract (.tmp 18) 1⟩, ⟨(some 7), none, .mov (.tmp 21)⟩, ⟨(some 8), none, .mov (.tmp 22)⟩] false [12, 13, 14, 7, 4, 8]) (.seq (.seq (.ops [⟨(some 23), none, .mov (.tmp 8)⟩, ⟨(some 24), none, .un .not (.tmp 23)⟩] false [24, 12, 13, 14, 7, 4]) (.cond (.tmp 24) (.seq (.ops [⟨(some 2), none, .mov (.const .nils)⟩, ⟨(some 3), none, .mov (.const (.int .i64 20))⟩] false [2, 3]) .ret) .skip)) (.ops [⟨(some 25), none, .mov (.tmp 4)⟩, ⟨(some 26), none, .mov (.tmp 7)⟩, ⟨(some 27), none, .buildSl 1 false [(.int .i64 0)] 1 [(0, (.tmp 26))]⟩, ⟨(some 28), none, .appendT 3 1 (.tmp 25) (.tmp 27)⟩, ⟨(some 4), none, .mov (.tmp 28)⟩] false [4, 12, 13, 14]))))) (.ops [⟨(some 29), none, .bin .add (.tmp 14) (.const (.int .i64 1))⟩, ⟨(some 14), none, .mov (.tmp 29)⟩] false [14, 4, 12, 13])))) (.ops [] false [14, 4, 12, 13])))))) (.seq (.ops [⟨(some 30), none, .mov (.tmp 4)⟩, ⟨(some 2), none, .mov (.tmp 30)⟩, ⟨(some 3), none, .mov (.const (.int .i64 0))⟩] false [2, 3]) .ret))))), false, false⟩
/-- strings.Split -/
def A57 : An := (.node (.ops [1, 0]) (.node (.ops [4]) .leaf))
def F57 : AFn := ⟨[(4, none)], (.seq (.ops [⟨(some 4), none, .mov (.const .nils)⟩] false [1, 0]) (.seq (.ops [⟨(some 5), none, .mov (.tmp 0)⟩, ⟨(some 6), none, .mov (.tmp 1)⟩, ⟨(some 7), none, .call 61 [(.tmp 5), (.tmp 6), (.const (.int .i64 0)), (.const (.int .i64 (-1)))]⟩, ⟨(some 4), none, .mov (.tmp 7)⟩] false [4]) .ret)), false, false⟩
/-- internal/stringslite.HasPrefix -/
def A58 : An := (.node (.ops [1, 0]) (.node (.ops [4]) .leaf))
def F58 : AFn := ⟨[(4, none)], (.seq (.ops [⟨(some 4), none, .mov (.const (.bool false))⟩] false [1, 0]) (.seq (.ops [⟨(some 5), none, .mov (.tmp 0)⟩, ⟨(some 6), none, .len true (.tmp 5)⟩, ⟨(some 7), none, .mov (.tmp 1)⟩, ⟨(some 8), none, .len true (.tmp 7)⟩, ⟨(some 9), none, .bin .geq (.tmp 6) (.tmp 8)⟩, ⟨(some 10), none, .mov (.tmp 9)⟩, ⟨(some 11), (some (10, true)), .mov (.tmp 0)⟩, ⟨(some 12), (some (10, true)), .mov (.tmp 1)⟩, ⟨(some 13), (some (10, true)), .len true (.tmp 12)⟩, ⟨(some 14), (some (10, true)), .slice none (.tmp 11) none (some (.tmp 13)) none⟩, ⟨(some 15), (some (10, true)), .mov (.tmp 1)⟩, ⟨(some 16), (some (10, true)), .bin .eql (.tmp 14) (.tmp 15)⟩, ⟨(some 17), none, .pick (.tmp 10) (.tmp 16) (.const (.bool false))⟩, ⟨(some 4), none, .mov (.tmp 17)⟩] false [4]) .ret)), false, false⟩
/-- outpost/path.number -/
def A60 : An := (.node (.ops [0, 1]) (.node (.ops [0, 6, 1, 7]) (.node (.ops [4, 5]) .leaf)))
def F60 : AFn := ⟨[(4, none), (5, none)], (.seq (.ops [⟨(some 4), none, .mov (.const (.int .i64 0))⟩, ⟨(some 5), none, .mov (.const (.bool false))⟩] false [0, 1]) (.seq (.ops [⟨(some 9), none, .mov (.tmp 0)⟩, ⟨(some 10), none, .call 66 [(.tmp 9)]⟩, ⟨(some 8), none, .mov (.tmp 10)⟩, ⟨(some 11), none, .extract (.tmp 8) 0⟩, ⟨(some 12), none, .extract (.tmp 8) 1⟩, ⟨(some 6), none, .mov (.tmp 11)⟩, ⟨(some 7), none, .mov (.tmp 12)⟩] false [0, 6, 1, 7]) (.seq (.ops [⟨(some 13), none, .mov (.tmp 6)⟩, ⟨(some 14), none, .mov (.tmp 7)⟩, ⟨(some 15), none, .isnil 2 false (.tmp 14)⟩, ⟨(some 16), none, .mov (.tmp 15)⟩, ⟨(some 17), (some (16, true)), .mov (.tmp 6)⟩, ⟨(some 18), (some (16, true)), .bin .geq (.tmp 17) (.const (.int .i64 0))⟩, ⟨(some 19), none, .pick (.tmp 16) (.tmp 18) (.const (.bool false))⟩, ⟨(some 20), none, .mov (.tmp 19)⟩, ⟨(some 21), (some (20, true)), .mov (.tmp 6)⟩, ⟨(some 22), (some (20, true)), .mov (.tmp 1)⟩, ⟨(some 23), (some (20, true)), .bin .leq (.tmp 21) (.tmp 22)⟩, ⟨(some 24), none, .pick (.tmp 20) (.tmp 23) (.const (.bool false))⟩, ⟨(some 25), none, .mov (.tmp 24)⟩, ⟨(some 26), (some (25, true)), .mov (.tmp 6)⟩, ⟨(some 27), (some (25, true)), .call 39 [(.tmp 26)]⟩, ⟨(some 28), (some (25, true)), .mov (.tmp 0)⟩, ⟨(some 29), (some (25, true)), .bin .eql (.tmp 27) (.tmp 28)⟩, ⟨(some 30), none, .pick (.tmp 25) (.tmp 29) (.const (.bool false))⟩, ⟨(some 4), none, .mov (.tmp 13)⟩, ⟨(some 5), none, .mov (.tmp 30)⟩] false [4, 5]) .ret))), false, false⟩
/-- strings.genSplit -/
def A61 : An := (.node (.ops [3, 0, 1, 2]) (.node (.node (.ops [13, 3, 0, 1, 2]) (.node (.node (.ops [8]) .leaf) .leaf)) (.node (.node (.ops [15, 3, 0, 1, 2]) (.node (.node (.ops [8]) .leaf) .leaf)) (.node (.node (.ops [20, 0, 1, 2, 3]) (.node (.ops [0, 1, 2, 3]) .leaf)) (.pre [0, 1, 2, 3] (.node (.ops [0, 1, 2, 3]) (.node (.ops [9, 0, 1, 2, 3]) (.node (.ops [9, 0, 1, 2, 3]) (.node (.ops [10, 9, 0, 1, 2, 3]) (.node (.node (.loop [10, 9, 0, 1, 2, 3] (.node (.node (.ops [36, 10, 9, 0, 1, 2, 3]) (.node .leaf .leaf)) (.node (.node (.ops [10, 9, 0, 1, 2, 3, 11]) (.node (.node (.ops [41, 10, 9, 0, 1, 2, 3, 11]) (.node .leaf .leaf)) (.node (.ops [9, 1, 2, 3, 10, 11, 0]) (.node (.ops [9, 0, 1, 2, 3, 10]) (.ops [10, 9, 0, 1, 2, 3]))))) .leaf))) .leaf) (.node (.ops [10, 9]) (.node (.ops [8]) .leaf))))))))))))
def F61 : AFn := ⟨[(8, none)], (.seq (.ops [⟨(some 8), none, .mov (.const .nils)⟩] false [3, 0, 1, 2]) (.seq (.seq (.ops [⟨(some 12), none, .mov (.tmp 3)⟩, ⟨(some 13), none, .bin .eql (.tmp 12) (.const (.int .i64 0))⟩] false [13, 3, 0, 1, 2]) (.cond (.tmp 13) (.seq (.ops [⟨(some 8), none, .mov (.const .nils)⟩] false [8]) .ret) .skip)) (.seq (.seq (.ops [⟨(some 14), none, .mov (.tmp 1)⟩, ⟨(some 15), none, .bin .eql (.tmp 14) (.const (.str []))⟩] false [15, 3, 0, 1, 2]) (.cond (.tmp 15) (.seq (.ops [⟨(some 16), none, .mov (.tmp 0)⟩, ⟨(some 17), none, .mov (.tmp 3)⟩, ⟨(some 18), none, .call 67 [(.tmp 16), (.tmp 17)]⟩, ⟨(some 8), none, .mov (.tmp 18)⟩] false [8]) .ret) .skip)) (.seq (.seq (.ops [⟨(some 19), none, .mov (.tmp 3)⟩, ⟨(some 20), none, .bin .lss (.tmp 19) (.const (.int .i64 0))⟩] false [20, 0, 1, 2, 3]) (.cond (.tmp 20) (.ops [⟨(some 21), none, .mov (.tmp 0)⟩, ⟨(some 22), none, .mov (.tmp 1)⟩, ⟨(some 23), none, .call 68 [(.tmp 21), (.tmp 22)]⟩, ⟨(some 24), none, .bin .add (.tmp 23) (.const (.int .i64 1))⟩, ⟨(some 3), none, .mov (.tmp 24)⟩] false [0, 1, 2, 3]) .skip)) (.seq (.ops [] false [0, 1, 2, 3]) (.seq (.ops [⟨(some 25), none, .mov (.tmp 3)⟩, ⟨(some 26), none, .mov (.tmp 0)⟩, ⟨(some 27), none, .len true (.tmp 26)⟩, ⟨(some 28), none, .bin .add (.tmp 27) (.const (.int .i64 1))⟩, ⟨(some 29), none, .minmax false [(.tmp 25), (.tmp 28)]⟩, ⟨(some 3), none, .mov (.tmp 29)⟩] false [0, 1, 2, 3]) (.seq (.ops [⟨(some 30), none, .mov (.tmp 3)⟩, ⟨(some 31), none, .makeSl 9 [(.str [])] false (.tmp 30) (.tmp 30)⟩, ⟨(some 9), none, .mov (.tmp 31)⟩] false [9, 0, 1, 2, 3]) (.seq (.ops [⟨(some 32), none, .mov (.tmp 3)⟩, ⟨(some 33), none, .bin .sub (.tmp 32) (.const (.int .i64 1))⟩, ⟨(some 3), none, .mov (.tmp 33)⟩] false [9, 0, 1, 2, 3]) (.seq (.ops [⟨(some 10), none, .mov (.const (.int .i64 0))⟩] false [10, 9, 0, 1, 2, 3]) (.seq (.block 0 (.seq (.ops [] false [10, 9, 0, 1, 2, 3]) (.loop (.seq (.seq (.seq (.ops [⟨(some 34), none, .mov (.tmp 10)⟩, ⟨(some 35), none, .mov (.tmp 3)⟩, ⟨(some 36), none, .bin .lss (.tmp 34) (.tmp 35)⟩] false [36, 10, 9, 0, 1, 2, 3]) (.cond (.tmp 36) .skip (.exit 0))) (.block 1 (.seq (.ops [⟨(some 37), none, .mov (.tmp 0)⟩, ⟨(some 38), none, .mov (.tmp 1)⟩, ⟨(some 39), none, .call 69 [(.tmp 37), (.tmp 38)]⟩, ⟨(some 11), none, .mov (.tmp 39)⟩] false [10, 9, 0, 1, 2, 3, 11]) (.seq (.seq (.ops [⟨(some 40), none, .mov (.tmp 11)⟩, ⟨(some 41), none, .bin .lss (.tmp 40) (.const (.int .i64 0))⟩] false [41, 10, 9, 0, 1, 2, 3, 11]) (.cond (.tmp 41) (.exit 0) .skip)) (.seq (.ops [⟨(some 42), none, .mov (.tmp 9)⟩, ⟨(some 43), none, .mov (.tmp 10)⟩, ⟨(some 44), none, .mov (.tmp 0)⟩, ⟨(some 45), none, .mov (.tmp 11)⟩, ⟨(some 46), none, .mov (.tmp 2)⟩, ⟨(some 47), none, .bin .add (.tmp 45) (.tmp 46)⟩, ⟨(some 48), none, .slice none (.tmp 44) none (some (.tmp 47)) none⟩, ⟨(some 49), none, .idxA 1 (.tmp 42) (.tmp 43)⟩, ⟨none, none, .store 1 (.tmp 49) (.tmp 48)⟩] false [9, 1, 2, 3, 10, 11, 0]) (.seq (.ops [⟨(some 50), none, .mov (.tmp 0)⟩, ⟨(some 51), none, .mov (.tmp 11)⟩, ⟨(some 52), none, .mov (.tmp 1)⟩, ⟨(some 53), none, .len true (.tmp 52)⟩, ⟨(some 54), none, .bin .add (.tmp 51) (.tmp 53)⟩, ⟨(some 55), none, .slice none (.tmp 50) (some (.tmp 54)) none none⟩, ⟨(some 0), none, .mov (.tmp 55)⟩] false [9, 0, 1, 2, 3, 10]) (.ops [⟨(some 56), none, .mov (.tmp 10)⟩, ⟨(some 57), none, .bin .add (.tmp 56) (.const (.int .i64 1))⟩, ⟨(some 10), none, .mov (.tmp 57)⟩] false [10, 9, 0, 1, 2, 3]))))))) (.ops [] false [10, 9, 0, 1, 2, 3]))))) (.seq (.ops [⟨(some 58), none, .mov (.tmp 9)⟩, ⟨(some 59), none, .mov (.tmp 10)⟩, ⟨(some 60), none, .mov (.tmp 0)⟩, ⟨(some 61), none, .idxA 1 (.tmp 58) (.tmp 59)⟩, ⟨none, none, .store 1 (.tmp 61) (.tmp 60)⟩] false [10, 9]) (.seq (.ops [⟨(some 62), none, .mov (.tmp 9)⟩, ⟨(some 63), none, .mov (.tmp 10)⟩, ⟨(some 64), none, .bin .add (.tmp 63) (.const (.int .i64 1))⟩, ⟨(some 65), none, .slice (some 1) (.tmp 62) none (some (.tmp 64)) none⟩, ⟨(some 8), none, .mov (.tmp 65)⟩] false [8]) .ret)))))))))))), false, false⟩
/-- strings.explode -/
def A67 : An := (.node (.ops [0, 1]) (.node (.ops [0, 5, 1]) (.node (.node (.ops [18, 0, 5, 1]) (.node (.ops [0, 1]) .leaf)) (.pre [0, 1] (.node (.ops [0, 6, 1]) (.node (.node (.ops [7, 0, 6, 1]) (.node (.loop [7, 0, 6, 1] (.node (.node (.ops [25, 6, 1, 7, 0]) (.node .leaf .leaf)) (.node (.node (.node (.ops [6, 1, 7, 9, 0]) (.node (.ops [6, 1, 7, 9, 0]) (.ops [0, 6, 1, 7]))) .leaf) (.ops [7, 0, 6, 1])))) .leaf)) (.node (.node (.ops [43, 6, 0, 1]) (.node (.ops [6]) .leaf)) (.node (.ops [4]) .leaf))))))))
def F67 : AFn := ⟨[(4, none)], (.seq (.ops [⟨(some 4), none, .mov (.const .nils)⟩] false [0, 1]) (.seq (.ops [⟨(some 10), none, .mov (.tmp 0)⟩, ⟨(some 11), none, .call 77 [(.tmp 10)]⟩, ⟨(some 5), none, .mov (.tmp 11)⟩] false [0, 5, 1]) (.seq (.seq (.ops [⟨(some 12), none, .mov (.tmp 1)⟩, ⟨(some 13), none, .bin .lss (.tmp 12) (.const (.int .i64 0))⟩, ⟨(some 14), none, .mov (.tmp 13)⟩, ⟨(some 15), (some (14, false)), .mov (.tmp 1)⟩, ⟨(some 16), (some (14, false)), .mov (.tmp 5)⟩, ⟨(some 17), (some (14, false)), .bin .gtr (.tmp 15) (.tmp 16)⟩, ⟨(some 18), none, .pick (.tmp 14) (.const (.bool true)) (.tmp 17)⟩] false [18, 0, 5, 1]) (.cond (.tmp 18) (.ops [⟨(some 19), none, .mov (.tmp 5)⟩, ⟨(some 1), none, .mov (.tmp 19)⟩] false [0, 1]) .skip)) (.seq (.ops [] false [0, 1]) (.seq (.ops [⟨(some 20), none, .mov (.tmp 1)⟩, ⟨(some 21), none, .makeSl 9 [(.str [])] false (.tmp 20) (.tmp 20)⟩, ⟨(some 6), none, .mov (.tmp 21)⟩] false [0, 6, 1]) (.seq (.seq (.ops [⟨(some 7), none, .mov (.const (.int .i64 0))⟩] false [7, 0, 6, 1]) (.block 0 (.seq (.ops [] false [7, 0, 6, 1]) (.loop (.seq (.seq (.seq (.ops [⟨(some 22), none, .mov (.tmp 7)⟩, ⟨(some 23), none, .mov (.tmp 1)⟩, ⟨(some 24), none, .bin .sub (.tmp 23) (.const (.int .i64 1))⟩, ⟨(some 25), none, .bin .lss (.tmp 22) (.tmp 24)⟩] false [25, 6, 1, 7, 0]) (.cond (.tmp 25) .skip (.exit 0))) (.seq (.block 1 (.seq (.ops [⟨(some 29), none, .mov (.tmp 0)⟩, ⟨(some 30), none, .call 78 [(.tmp 29)]⟩, ⟨(some 28), none, .mov (.tmp 30)⟩, ⟨(some 31), none, .extract (.tmp 28) 0⟩, ⟨(some 32), none, .extract (.tmp 28) 1⟩, ⟨(some 8), none, .mov (.tmp 31)⟩, ⟨(some 9), none, .mov (.tmp 32)⟩] false [6, 1, 7, 9, 0]) (.seq (.ops [⟨(some 33), none, .mov (.tmp 6)⟩, ⟨(some 34), none, .mov (.tmp 7)⟩, ⟨(some 35), none, .mov (.tmp 0)⟩, ⟨(some 36), none, .mov (.tmp 9)⟩, ⟨(some 37), none, .slice none (.tmp 35) none (some (.tmp 36)) none⟩, ⟨(some 38), none, .idxA 1 (.tmp 33) (.tmp 34)⟩, ⟨none, none, .store 1 (.tmp 38) (.tmp 37)⟩] false [6, 1, 7, 9, 0]) (.ops [⟨(some 39), none, .mov (.tmp 0)⟩, ⟨(some 40), none, .mov (.tmp 9)⟩, ⟨(some 41), none, .slice none (.tmp 39) (some (.tmp 40)) none none⟩, ⟨(some 0), none, .mov (.tmp 41)⟩] false [0, 6, 1, 7])))) (.ops [⟨(some 26), none, .mov (.tmp 7)⟩, ⟨(some 27), none, .bin .add (.tmp 26) (.const (.int .i64 1))⟩, ⟨(some 7), none, .mov (.tmp 27)⟩] false [7, 0, 6, 1]))) (.ops [] false [7, 0, 6, 1])))))) (.seq (.seq (.ops [⟨(some 42), none, .mov (.tmp 1)⟩, ⟨(some 43), none, .bin .gtr (.tmp 42) (.const (.int .i64 0))⟩] false [43, 6, 0, 1]) (.cond (.tmp 43) (.ops [⟨(some 44), none, .mov (.tmp 6)⟩, ⟨(some 45), none, .mov (.tmp 1)⟩, ⟨(some 46), none, .bin .sub (.tmp 45) (.const (.int .i64 1))⟩, ⟨(some 47), none, .mov (.tmp 0)⟩, ⟨(some 48), none, .idxA 1 (.tmp 44) (.tmp 46)⟩, ⟨none, none, .store 1 (.tmp 48) (.tmp 47)⟩] false [6]) .skip)) (.seq (.ops [⟨(some 49), none, .mov (.tmp 6)⟩, ⟨(some 4), none, .mov (.tmp 49)⟩] false [4]) .ret)))))))), false, false⟩
noncomputable def T : Table := fun f => match f with
  | 3 => some (.code F3)
  | 4 => some (.code F4)
  | 5 => some (.code F5)
  | 6 => some (.code F6)
  | 7 => some (.code F7)
  | 8 => some (.code F8)
  | 9 => some (.code F9)
  | 10 => some (.code F10)
  | 11 => some (.code F11)
  | 12 => some (.code F12)
  | 13 => some (.code F13)
  | 14 => some (.code F14)
  | 15 => some (.code F15)
  | 16 => some (.code F16)
  | 17 => some (.code F17)
  | 18 => some (.code F18)
  | 19 => some (.prim (fun vs h => (pJoin vs).map fun r => (r, none)))
  | 20 => some (.code F20)
  | 21 => some (.code F21)
  | 22 => some (.code F22)
  | 23 => some (.code F23)
  | 24 => some (.code F24)
  | 25 => some (.code F25)
  | 26 => some (.code F26)
  | 28 => some (.code F28)
  | 29 => some (.prim (pString 5))
  | 30 => some (.code F30)
  | 31 => some (.code F31)
  | 32 => some (.code F32)
  | 33 => some (.code F33)
  | 34 => some (.code F34)
  | 35 => some (.code F35)
  | 36 => some (.code F36)
  | 37 => some (.code F37)
  | 38 => some (.code F38)
  | 39 => some (.prim (fun vs h => (pItoa vs).map fun r => (r, none)))
  | 40 => some (.code F40)
  | 41 => some (.code F41)
  | 42 => some (.prim (pCopyCheck 58))
  | 44 => some (.code F44)
  | 45 => some (.code F45)
  | 46 => some (.code F46)
  | 47 => some (.code F47)
  | 48 => some (.code F48)
  | 49 => some (.code F49)
  | 50 => some (.code F50)
  | 51 => some (.code F51)
  | 52 => some (.code F52)
  | 56 => some (.code F56)
  | 57 => some (.code F57)
  | 58 => some (.code F58)
  | 60 => some (.code F60)
  | 61 => some (.code F61)
  | 66 => some (.prim (fun vs h => (pAtoi 120 vs).map fun r => (r, none)))
  | 67 => some (.code F67)
  | 68 => some (.prim (fun vs h => (pCount1 vs).map fun r => (r, none)))
  | 69 => some (.prim (fun vs h => (pIndex1 vs).map fun r => (r, none)))
  | _ => none
theorem T_3 : T 3 = some (.code F3) := rfl
theorem T_4 : T 4 = some (.code F4) := rfl
theorem T_5 : T 5 = some (.code F5) := rfl
theorem T_6 : T 6 = some (.code F6) := rfl
theorem T_7 : T 7 = some (.code F7) := rfl
theorem T_8 : T 8 = some (.code F8) := rfl
theorem T_9 : T 9 = some (.code F9) := rfl
theorem T_10 : T 10 = some (.code F10) := rfl
theorem T_11 : T 11 = some (.code F11) := rfl
theorem T_12 : T 12 = some (.code F12) := rfl
theorem T_13 : T 13 = some (.code F13) := rfl
theorem T_14 : T 14 = some (.code F14) := rfl
theorem T_15 : T 15 = some (.code F15) := rfl
theorem T_16 : T 16 = some (.code F16) := rfl
theorem T_17 : T 17 = some (.code F17) := rfl
theorem T_18 : T 18 = some (.code F18) := rfl
theorem T_19 : T 19 = some (.prim (fun vs h => (pJoin vs).map fun r => (r, none))) := rfl
theorem T_20 : T 20 = some (.code F20) := rfl
theorem T_21 : T 21 = some (.code F21) := rfl
theorem T_22 : T 22 = some (.code F22) := rfl
theorem T_23 : T 23 = some (.code F23) := rfl
theorem T_24 : T 24 = some (.code F24) := rfl
theorem T_25 : T 25 = some (.code F25) := rfl
theorem T_26 : T 26 = some (.code F26) := rfl
theorem T_28 : T 28 = some (.code F28) := rfl
theorem T_29 : T 29 = some (.prim (pString 5)) := rfl
theorem T_30 : T 30 = some (.code F30) := rfl
theorem T_31 : T 31 = some (.code F31) := rfl
theorem T_32 : T 32 = some (.code F32) := rfl
theorem T_33 : T 33 = some (.code F33) := rfl
theorem T_34 : T 34 = some (.code F34) := rfl
theorem T_35 : T 35 = some (.code F35) := rfl
theorem T_36 : T 36 = some (.code F36) := rfl
theorem T_37 : T 37 = some (.code F37) := rfl
theorem T_38 : T 38 = some (.code F38) := rfl
theorem T_39 : T 39 = some (.prim (fun vs h => (pItoa vs).map fun r => (r, none))) := rfl
theorem T_40 : T 40 = some (.code F40) := rfl
theorem T_41 : T 41 = some (.code F41) := rfl
theorem T_42 : T 42 = some (.prim (pCopyCheck 58)) := rfl
theorem T_44 : T 44 = some (.code F44) := rfl
theorem T_45 : T 45 = some (.code F45) := rfl
theorem T_46 : T 46 = some (.code F46) := rfl
theorem T_47 : T 47 = some (.code F47) := rfl
theorem T_48 : T 48 = some (.code F48) := rfl
theorem T_49 : T 49 = some (.code F49) := rfl
theorem T_50 : T 50 = some (.code F50) := rfl
theorem T_51 : T 51 = some (.code F51) := rfl
theorem T_52 : T 52 = some (.code F52) := rfl
theorem T_56 : T 56 = some (.code F56) := rfl
theorem T_57 : T 57 = some (.code F57) := rfl
theorem T_58 : T 58 = some (.code F58) := rfl
theorem T_60 : T 60 = some (.code F60) := rfl
theorem T_61 : T 61 = some (.code F61) := rfl
theorem T_66 : T 66 = some (.prim (fun vs h => (pAtoi 120 vs).map fun r => (r, none))) := rfl
theorem T_67 : T 67 = some (.code F67) := rfl
theorem T_68 : T 68 = some (.prim (fun vs h => (pCount1 vs).map fun r => (r, none))) := rfl
theorem T_69 : T 69 = some (.prim (fun vs h => (pIndex1 vs).map fun r => (r, none))) := rfl
end Go.Am.YtdnbedldmkagmaaDoor
namespace Go.Am.YtdnbedldmkagmaaDoor
open Go.Proofs
set_option maxRecDepth 100000
def gl : Globs := []
theorem C_3 : (cFn Tryd.prog gl {} Tryd.f3).map (optF A3) = some F3 := by kernel_rfl
theorem C_4 : (cFn Tryd.prog gl {} Tryd.f4).map (optF A4) = some F4 := by kernel_rfl
theorem C_5 : (cFn Tryd.prog gl {} Tryd.f5).map (optF A5) = some F5 := by kernel_rfl
theorem C_6 : (cFn Tryd.prog gl {} Tryd.f6).map (optF A6) = some F6 := by kernel_rfl
theorem C_7 : (cFn Tryd.prog gl {} Tryd.f7).map (optF A7) = some F7 := by kernel_rfl
theorem C_8 : (cFn Tryd.prog gl {} Tryd.f8).map (optF A8) = some F8 := by kernel_rfl
theorem C_9 : (cFn Tryd.prog gl {} Tryd.f9).map (optF A9) = some F9 := by kernel_rfl
theorem C_10 : (cFn Tryd.prog gl {} Tryd.f10).map (optF A10) = some F10 := by kernel_rfl
theorem C_11 : (cFn Tryd.prog gl {} Tryd.f11).map (optF A11) = some F11 := by kernel_rfl
theorem C_12 : (cFn Tryd.prog gl {} Tryd.f12).map (optF A12) = some F12 := by kernel_rfl
theorem C_13 : (cFn Tryd.prog gl {} Tryd.f13).map (optF A13) = some F13 := by kernel_rfl
theorem C_14 : (cFn Tryd.prog gl {} Tryd.f14).map (optF A14) = some F14 := by kernel_rfl
theorem C_15 : (cFn Tryd.prog gl {} Tryd.f15).map (optF A15) = some F15 := by kernel_rfl
theorem C_16 : (cFn Tryd.prog gl {} Tryd.f16).map (optF A16) = some F16 := by kernel_rfl
theorem C_17 : (cFn Tryd.prog gl {} Tryd.f17).map (optF A17) = some F17 := by kernel_rfl
theorem C_18 : (cFn Tryd.prog gl {} Tryd.f18).map (optF A18) = some F18 := by kernel_rfl
theorem C_20 : (cFn Tryd.prog gl {} Tryd.f20).map (optF A20) = some F20 := by kernel_rfl
theorem C_21 : (cFn Tryd.prog gl {} Tryd.f21).map (optF A21) = some F21 := by kernel_rfl
theorem C_22 : (cFn Tryd.prog gl {} Tryd.f22).map (optF A22) = some F22 := by kernel_rfl
theorem C_23 : (cFn Tryd.prog gl {} Tryd.f23).map (optF A23) = some F23 := by kernel_rfl
theorem C_24 : (cFn Tryd.prog gl {} Tryd.f24).map (optF A24) = some F24 := by kernel_rfl
theorem C_25 : (cFn Tryd.prog gl {} Tryd.f25).map (optF A25) = some F25 := by kernel_rfl
theorem C_26 : (cFn Tryd.prog gl {} Tryd.f26).map (optF A26) = some F26 := by kernel_rfl
theorem C_28 : (cFn Tryd.prog gl { keep := true } Tryd.f28).map (optF A28) = some F28 := by kernel_rfl
theorem C_30 : (cFn Tryd.prog gl {} Tryd.f30).map (optF A30) = some F30 := by kernel_rfl
theorem C_31 : (cFn Tryd.prog gl {} Tryd.f31).map (optF A31) = some F31 := by kernel_rfl
theorem C_32 : (cFn Tryd.prog gl {} Tryd.f32).map (optF A32) = some F32 := by kernel_rfl
theorem C_33 : (cFn Tryd.prog gl {} Tryd.f33).map (optF A33) = some F33 := by kernel_rfl
theorem C_34 : (cFn Tryd.prog gl {} Tryd.f34).map (optF A34) = some F34 := by kernel_rfl
theorem C_35 : (cFn Tryd.prog gl {} Tryd.f35).map (optF A35) = some F35 := by kernel_rfl
theorem C_36 : (cFn Tryd.prog gl {} Tryd.f36).map (optF A36) = some F36 := by kernel_rfl
theorem C_37 : (cFn Tryd.prog gl {} Tryd.f37).map (optF A37) = some F37 := by kernel_rfl
theorem C_38 : (cFn Tryd.prog gl { keep := true } Tryd.f38).map (optF A38) = some F38 := by kernel_rfl
theorem C_40 : (cFn Tryd.prog gl {} Tryd.f40).map (optF A40) = some F40 := by kernel_rfl
theorem C_41 : (cFn Tryd.prog gl {} Tryd.f41).map (optF A41) = some F41 := by kernel_rfl
theorem C_44 : (cFn Tryd.prog gl {} Tryd.f44).map (optF A44) = some F44 := by kernel_rfl
theorem C_45 : (cFn Tryd.prog gl {} Tryd.f45).map (optF A45) = some F45 := by kernel_rfl
theorem C_46 : (cFn Tryd.prog gl {} Tryd.f46).map (optF A46) = some F46 := by kernel_rfl
theorem C_47 : (cFn Tryd.prog gl {} Tryd.f47).map (optF A47) = some F47 := by kernel_rfl
theorem C_48 : (cFn Tryd.prog gl {} Tryd.f48).map (optF A48) = some F48 := by kernel_rfl
theorem C_49 : (cFn Tryd.prog gl {} Tryd.f49).map (optF A49) = some F49 := by kernel_rfl
theorem C_50 : (cFn Tryd.prog gl {} Tryd.f50).map (optF A50) = some F50 := by kernel_rfl
theorem C_51 : (cFn Tryd.prog gl {} Tryd.f51).map (optF A51) = some F51 := by kernel_rfl
theorem C_52 : (cFn Tryd.prog gl {} Tryd.f52).map (optF A52) = some F52 := by kernel_rfl
theorem C_56 : (cFn Tryd.prog gl {} Tryd.f56).map (optF A56) = some F56 := by kernel_rfl
theorem C_57 : (cFn Tryd.prog gl {} Tryd.f57).map (optF A57) = some F57 := by kernel_rfl
theorem C_58 : (cFn Tryd.prog gl {} Tryd.f58).map (optF A58) = some F58 := by kernel_rfl
theorem C_60 : (cFn Tryd.prog gl {} Tryd.f60).map (optF A60) = some F60 := by kernel_rfl
theorem C_61 : (cFn Tryd.prog gl {} Tryd.f61).map (optF A61) = some F61 := by kernel_rfl
theorem C_67 : (cFn Tryd.prog gl {} Tryd.f67).map (optF A67) = some F67 := by kernel_rfl
theorem tableOk : TableOk2 Tryd.prog gl Go.Proofs.YtdnbedldmkagmaaDoor.Facts T := by
  intro f it h
  unfold T at h
  split at h
  · cases h; exact ⟨A3, {}, Tryd.f3, Tryd.func3, C_3⟩
  · cases h; exact ⟨A4, {}, Tryd.f4, Tryd.func4, C_4⟩
  · cases h; exact ⟨A5, {}, Tryd.f5, Tryd.func5, C_5⟩
  · cases h; exact ⟨A6, {}, Tryd.f6, Tryd.func6, C_6⟩
  · cases h; exact ⟨A7, {}, Tryd.f7, Tryd.func7, C_7⟩
  · cases h; exact ⟨A8, {}, Tryd.f8, Tryd.func8, C_8⟩
  · cases h; exact ⟨A9, {}, Tryd.f9, Tryd.func9, C_9⟩
  · cases h; exact ⟨A10, {}, Tryd.f10, Tryd.func10, C_10⟩
  · cases h; exact ⟨A11, {}, Tryd.f11, Tryd.func11, C_11⟩
  · cases h; exact ⟨A12, {}, Tryd.f12, Tryd.func12, C_12⟩
  · cases h; exact ⟨A13, {}, Tryd.f13, Tryd.func13, C_13⟩
  · cases h; exact ⟨A14, {}, Tryd.f14, Tryd.func14, C_14⟩
  · cases h; exact ⟨A15, {}, Tryd.f15, Tryd.func15, C_15⟩
  · cases h; exact ⟨A16, {}, Tryd.f16, Tryd.func16, C_16⟩
  · cases h; exact ⟨A17, {}, Tryd.f17, Tryd.func17, C_17⟩
  · cases h; exact ⟨A18, {}, Tryd.f18, Tryd.func18, C_18⟩
  · cases h; exact Go.Proofs.YtdnbedldmkagmaaDoor.p_join
  · cases h; exact ⟨A20, {}, Tryd.f20, Tryd.func20, C_20⟩
  · cases h; exact ⟨A21, {}, Tryd.f21, Tryd.func21, C_21⟩
  · cases h; exact ⟨A22, {}, Tryd.f22, Tryd.func22, C_22⟩
  · cases h; exact ⟨A23, {}, Tryd.f23, Tryd.func23, C_23⟩
  · cases h; exact ⟨A24, {}, Tryd.f24, Tryd.func24, C_24⟩
  · cases h; exact ⟨A25, {}, Tryd.f25, Tryd.func25, C_25⟩
  · cases h; exact ⟨A26, {}, Tryd.f26, Tryd.func26, C_26⟩
  · cases h; exact ⟨A28, { keep := true }, Tryd.f28, Tryd.func28, C_28⟩
  · cases h; exact Go.Proofs.YtdnbedldmkagmaaDoor.prim_string
  · cases h; exact ⟨A30, {}, Tryd.f30, Tryd.func30, C_30⟩
  · cases h; exact ⟨A31, {}, Tryd.f31, Tryd.func31, C_31⟩
  · cases h; exact ⟨A32, {}, Tryd.f32, Tryd.func32, C_32⟩
  · cases h; exact ⟨A33, {}, Tryd.f33, Tryd.func33, C_33⟩
  · cases h; exact ⟨A34, {}, Tryd.f34, Tryd.func34, C_34⟩
  · cases h; exact ⟨A35, {}, Tryd.f35, Tryd.func35, C_35⟩
  · cases h; exact ⟨A36, {}, Tryd.f36, Tryd.func36, C_36⟩
  · cases h; exact ⟨A37, {}, Tryd.f37, Tryd.func37, C_37⟩
  · cases h; exact ⟨A38, { keep := true }, Tryd.f38, Tryd.func38, C_38⟩
  · cases h; exact Go.Proofs.YtdnbedldmkagmaaDoor.p_itoa
  · cases h; exact ⟨A40, {}, Tryd.f40, Tryd.func40, C_40⟩
  · cases h; exact ⟨A41, {}, Tryd.f41, Tryd.func41, C_41⟩
  · cases h; exact Go.Proofs.YtdnbedldmkagmaaDoor.prim_copyCheck
  · cases h; exact ⟨A44, {}, Tryd.f44, Tryd.func44, C_44⟩
  · cases h; exact ⟨A45, {}, Tryd.f45, Tryd.func45, C_45⟩
  · cases h; exact ⟨A46, {}, Tryd.f46, Tryd.func46, C_46⟩
  · cases h; exact ⟨A47, {}, Tryd.f47, Tryd.func47, C_47⟩
  · cases h; exact ⟨A48, {}, Tryd.f48, Tryd.func48, C_48⟩
  · cases h; exact ⟨A49, {}, Tryd.f49, Tryd.func49, C_49⟩
  · cases h; exact ⟨A50, {}, Tryd.f50, Tryd.func50, C_50⟩
  · cases h; exact ⟨A51, {}, Tryd.f51, Tryd.func51, C_51⟩
  · cases h; exact ⟨A52, {}, Tryd.f52, Tryd.func52, C_52⟩
  · cases h; exact ⟨A56, {}, Tryd.f56, Tryd.func56, C_56⟩
  · cases h; exact ⟨A57, {}, Tryd.f57, Tryd.func57, C_57⟩
  · cases h; exact ⟨A58, {}, Tryd.f58, Tryd.func58, C_58⟩
  · cases h; exact ⟨A60, {}, Tryd.f60, Tryd.func60, C_60⟩
  · cases h; exact ⟨A61, {}, Tryd.f61, Tryd.func61, C_61⟩
  · cases h; exact Go.Proofs.YtdnbedldmkagmaaDoor.p_atoi
  · cases h; exact ⟨A67, {}, Tryd.f67, Tryd.func67, C_67⟩
  · cases h; exact Go.Proofs.YtdnbedldmkagmaaDoor.p_count
  · cases h; exact Go.Proofs.YtdnbedldmkagmaaDoor.p_index
  · cases h
end Go.Am.YtdnbedldmkagmaaDoor
namespace Go.Am.YtdnbedldmkagmaaDoor
set_option maxRecDepth 100000
set_option linter.unusedVariables false
noncomputable def P3_0 (base n0 : Nat) (v2 : PV) (h : Hp) : Option (PV × Hp) := Pt T F3 [1, 1, 1, 1, 1, 1] base n0 [(2, v2)] h
theorem P3_0_eq (base n0 : Nat) (v2 : PV) (h : Hp) : P3_0 base n0 v2 h =
 bnd2 (CallA T base 10 [v2] h) fun x1 h2 =>
 (extractB x1 0).bnd fun x4 =>
 (extractB x1 1).bnd fun x5 =>
 (binOp .neq x5 (.int .i64 0)).bnd fun x9 =>
 condB x9 (
 (lenB false x4).bnd fun x11 =>
 (binOp .eql x11 (.int .i64 0)).bnd fun x12 =>
 finV false false n0 [x12] h2) (
 bnd2 (CallA T base 9 [x4] h2) fun x15 h16 =>
 (extractB x15 0).bnd fun x18 =>
 (extractB x15 1).bnd fun x19 =>
 bnd2 (CallA T base 10 [x18] h16) fun x23 h24 =>
 (extractB x23 0).bnd fun x26 =>
 (extractB x23 1).bnd fun x27 =>
 bnd2 (CallA T base 11 [x4] h24) fun x31 h32 =>
 (wantB x31 true).bnd fun b35 => (whenB b35 (some x19) (some .undef)).bnd fun x34 =>
 (wantB x31 true).bnd fun b39 => (whenB b39 ((binOp .eql x34 (.int .i64 0)).bnd some) (some .undef)).bnd fun x38 =>
 (condB x31 (some x38) (some (.bool false))).bnd fun x42 =>
 (wantB x42 true).bnd fun b45 => (whenB b45 (some x27) (some .undef)).bnd fun x44 =>
 (wantB x42 true).bnd fun b49 => (whenB b49 ((binOp .eql x44 (.int .i64 0)).bnd some) (some .undef)).bnd fun x48 =>
 (condB x42 (some x48) (some (.bool false))).bnd fun x52 =>
 (wantB x52 true).bnd fun b55 => (whenB b55 (some x18) (some .undef)).bnd fun x54 =>
 (wantB x52 true).bnd fun b59 => (whenB b59 ((lenB true x54).bnd some) (some .undef)).bnd fun x58 =>
 (wantB x52 true).bnd fun b63 => (whenB b63 (some v2) (some .undef)).bnd fun x62 =>
 (wantB x52 true).bnd fun b67 => (whenB b67 ((lenB true x62).bnd some) (some .undef)).bnd fun x66 =>
 (wantB x52 true).bnd fun b71 => (whenB b71 ((binOp .leq x58 x66).bnd some) (some .undef)).bnd fun x70 =>
 (condB x52 (some x70) (some (.bool false))).bnd fun x74 =>
 (wantB x74 true).bnd fun b77 => (whenB b77 (some x26) (some .undef)).bnd fun x76 =>
 (wantB x74 true).bnd fun b81 => (whenB b81 (some x4) (some .undef)).bnd fun x80 =>
 (wantB x74 true).bnd fun b85 => bnd2 (whenB b85 (bnd2 (CallA T base 8 [x76, x80] h32) fun x87 h86 => some (x87, h86)) (some (.undef, h32))) fun x84 h86 =>
 (condB x74 (some x84) (some (.bool false))).bnd fun x88 =>
 finV false false n0 [x88] h86) := (Pt_eq T F3 [1, 1, 1, 1, 1, 1] base n0 [(2, v2)] h).trans (by kernel_rfl)
theorem S3 (base : Nat) (a0 a1 a2 : PV) (h : Hp) : CallA T base 3 [a0, a1, a2] h =
 bnd2 (CallA T (size h) 5 [] h) fun x1 h2 =>
 (unOp .not x1).bnd fun x3 =>
 condB x3 (
 finV false false (size h) [(.bool false)] h2) (
 bnd2 (CallA T (size h) 6 [a0] h2) fun x6 h7 =>
 (unOp .not x6).bnd fun x8 =>
 (wantB x8 false).bnd fun b11 => (whenB b11 (some a1) (some .undef)).bnd fun x10 =>
 (wantB x8 false).bnd fun b15 => bnd2 (whenB b15 (bnd2 (CallA T (size h) 6 [x10] h7) fun x17 h16 => some (x17, h16)) (some (.undef, h7))) fun x14 h16 =>
 (wantB x8 false).bnd fun b19 => (whenB b19 ((unOp .not x14).bnd some) (some .undef)).bnd fun x18 =>
 (condB x8 (some (.bool true)) (some x18)).bnd fun x22 =>
 (wantB x22 false).bnd fun b25 => (whenB b25 (some a2) (some .undef)).bnd fun x24 =>
 (wantB x22 false).bnd fun b29 => (whenB b29 ((lenB true x24).bnd some) (some .undef)).bnd fun x28 =>
 (wantB x22 false).bnd fun b33 => (whenB b33 ((binOp .gtr x28 (.int .i64 4000)).bnd some) (some .undef)).bnd fun x32 =>
 (condB x22 (some (.bool true)) (some x32)).bnd fun x36 =>
 condB x36 (
 finV false false (size h) [(.bool true)] h16) (
 bnd2 (CallA T (size h) 7 [a0, a1] h16) fun x40 h41 =>
 bnd2 (CallA T (size h) 8 [a0, a1] h41) fun x44 h45 =>
 (boolB true x40 x44).bnd fun x46 =>
 condB x46 (
 finV false false (size h) [(.bool false)] h45) (
 bnd2 (CallA T (size h) 9 [a0] h45) fun x49 h50 =>
 (extractB x49 0).bnd fun x52 =>
 (extractB x49 1).bnd fun x53 =>
 (binOp .eql x53 (.int .i64 0)).bnd fun x57 =>
 condB x57 (
 bnd2 (CallA T (size h) 10 [x52] h50) fun x59 h60 =>
 (extractB x59 0).bnd fun x62 =>
 (extractB x59 1).bnd fun x63 =>
 (binOp .neq x63 (.int .i64 0)).bnd fun x67 =>
 (wantB x67 false).bnd fun b70 => (whenB b70 (some x62) (some .undef)).bnd fun x69 =>
 (wantB x67 false).bnd fun b74 => (whenB b74 (some a0) (some .undef)).bnd fun x73 =>
 (wantB x67 false).bnd fun b78 => bnd2 (whenB b78 (bnd2 (CallA T (size h) 8 [x69, x73] h60) fun x80 h79 => some (x80, h79)) (some (.undef, h60))) fun x77 h79 =>
 (wantB x67 false).bnd fun b82 => (whenB b82 ((unOp .not x77).bnd some) (some .undef)).bnd fun x81 =>
 (condB x67 (some (.bool true)) (some x81)).bnd fun x85 =>
 condB x85 (
 finV false false (size h) [(.bool false)] h79) (
 P3_0 (size h) (size h) a2 h79)) (
 P3_0 (size h) (size h) a2 h50)))) := (Pt_enter T_3 base _ h).trans (by kernel_rfl)
theorem S4 (base : Nat) (a0 a1 : PV) (h : Hp) : CallA T base 4 [a0, a1] h =
 bnd2 (CallA T (size h) 5 [] h) fun x1 h2 =>
 (unOp .not x1).bnd fun x3 =>
 condB x3 (
 finV false false (size h) [(.bool false)] h2) (
 bnd2 (CallA T (size h) 6 [a0] h2) fun x6 h7 =>
 (unOp .not x6).bnd fun x8 =>
 (wantB x8 false).bnd fun b11 => (whenB b11 (some a1) (some .undef)).bnd fun x10 =>
 (wantB x8 false).bnd fun b15 => bnd2 (whenB b15 (bnd2 (CallA T (size h) 6 [x10] h7) fun x17 h16 => some (x17, h16)) (some (.undef, h7))) fun x14 h16 =>
 (wantB x8 false).bnd fun b19 => (whenB b19 ((unOp .not x14).bnd some) (some .undef)).bnd fun x18 =>
 (condB x8 (some (.bool true)) (some x18)).bnd fun x22 =>
 (wantB x22 false).bnd fun b25 => (whenB b25 (some a0) (some .undef)).bnd fun x24 =>
 (wantB x22 false).bnd fun b29 => (whenB b29 ((lenB false x24).bnd some) (some .undef)).bnd fun x28 =>
 (wantB x22 false).bnd fun b33 => (whenB b33 ((binOp .eql x28 (.int .i64 0)).bnd some) (some .undef)).bnd fun x32 =>
 (condB x22 (some (.bool true)) (some x32)).bnd fun x36 =>
 (wantB x36 false).bnd fun b39 => (whenB b39 (some a1) (some .undef)).bnd fun x38 =>
 (wantB x36 false).bnd fun b43 => (whenB b43 ((lenB false x38).bnd some) (some .undef)).bnd fun x42 =>
 (wantB x36 false).bnd fun b47 => (whenB b47 ((binOp .eql x42 (.int .i64 0)).bnd some) (some .undef)).bnd fun x46 =>
 (condB x36 (some (.bool true)) (some x46)).bnd fun x50 =>
 condB x50 (
 finV false false (size h) [(.bool true)] h16) (
 bnd2 (CallA T (size h) 9 [a0] h16) fun x53 h54 =>
 (extractB x53 0).bnd fun x56 =>
 (extractB x53 1).bnd fun x57 =>
 bnd2 (CallA T (size h) 9 [a1] h54) fun x61 h62 =>
 (extractB x61 0).bnd fun x64 =>
 (extractB x61 1).bnd fun x65 =>
 (binOp .neq x57 (.int .i64 0)).bnd fun x69 =>
 (wantB x69 false).bnd fun b72 => (whenB b72 (some x65) (some .undef)).bnd fun x71 =>
 (wantB x69 false).bnd fun b76 => (whenB b76 ((binOp .neq x71 (.int .i64 0)).bnd some) (some .undef)).bnd fun x75 =>
 (condB x69 (some (.bool true)) (some x75)).bnd fun x79 =>
 condB x79 (
 finV false false (size h) [(.bool true)] h62) (
 (binOp .add x56 (.str [44])).bnd fun x82 =>
 (binOp .add x82 x64).bnd fun x84 =>
 bnd2 (CallA T (size h) 10 [x84] h62) fun x85 h86 =>
 (extractB x85 0).bnd fun x88 =>
 (extractB x85 1).bnd fun x89 =>
 (lenB false a0).bnd fun x93 =>
 (lenB false a1).bnd fun x95 =>
 (binOp .add x93 x95).bnd fun x96 =>
 (binOp .gtr x96 (.int .i64 64)).bnd fun x97 =>
 condB x97 (
 (binOp .eql x89 (.int .i64 3)).bnd fun x99 =>
 finV false false (size h) [x99] h86) (
 (binOp .eql x89 (.int .i64 0)).bnd fun x102 =>
 (wantB x102 true).bnd fun b105 => (whenB b105 (some x88) (some .undef)).bnd fun x104 =>
 (wantB x102 true).bnd fun b109 => bnd2 (whenB b109 ((buildSlV 2 true [.nils, .nils] 0 []).bnd fun x111 => some (x111, h86)) (some (.undef, h86))) fun x108 h110 =>
 (wantB x102 true).bnd fun b113 => (whenB b113 (some a0) (some .undef)).bnd fun x112 =>
 (wantB x102 true).bnd fun b117 => bnd2 (whenB b117 (bnd2 (appTV 37 2 x108 x112 h110) fun x119 h118 => some (x119, h118)) (some (.undef, h110))) fun x116 h118 =>
 (wantB x102 true).bnd fun b121 => (whenB b121 (some a1) (some .undef)).bnd fun x120 =>
 (wantB x102 true).bnd fun b125 => bnd2 (whenB b125 (bnd2 (appTV 37 2 x116 x120 h118) fun x127 h126 => some (x127, h126)) (some (.undef, h118))) fun x124 h126 =>
 (wantB x102 true).bnd fun b129 => bnd2 (whenB b129 (bnd2 (CallA T (size h) 8 [x104, x124] h126) fun x131 h130 => some (x131, h130)) (some (.undef, h126))) fun x128 h130 =>
 (condB x102 (some x128) (some (.bool false))).bnd fun x132 =>
 finV false false (size h) [x132] h130)))) := (Pt_enter T_4 base _ h).trans (by kernel_rfl)
theorem S5 (base : Nat) (h : Hp) : CallA T base 5 [] h =
 (buildSlV 1 false [(.int .i64 0)] 2 [(0, strip (.int .i64 5)), (1, strip (.int .i64 0))]).bnd fun x1 =>
 (buildV [(.str []), (.str []), (.bool false)] [(0, 1, (.str [118, 101, 114])), (1, 1, (.str [49, 46, 48]))]).bnd fun x2 =>
 (buildSlV 3 true [(.str []), (.str []), (.bool false)] 1 [(0, strip x2)]).bnd fun x3 =>
 (buildV [.nils, .nils] [(0, 1, x1), (1, 1, x3)]).bnd fun x4 =>
 (buildV [.nils, .nils] []).bnd fun x5 =>
 (buildSlV 2 true [.nils, .nils] 2 [(0, strip x4), (1, strip x5)]).bnd fun x6 =>
 bnd2 (CallA T (size h) 9 [x6] h) fun x9 h10 =>
 (extractB x9 0).bnd fun x12 =>
 (extractB x9 1).bnd fun x13 =>
 bnd2 (CallA T (size h) 10 [x12] h10) fun x17 h18 =>
 (extractB x17 0).bnd fun x20 =>
 (extractB x17 1).bnd fun x21 =>
 bnd2 (CallA T (size h) 10 [(.str [60, 47, 53])] h18) fun x24 h25 =>
 (extractB x24 0).bnd fun x27 =>
 (extractB x24 1).bnd fun x28 =>
 (buildV [(.str []), (.str []), (.bool false)] [(0, 1, (.str [114, 116])), (1, 1, (.str [97, 32, 98]))]).bnd fun x31 =>
 (buildV [(.str []), (.str []), (.bool false)] [(0, 1, (.str [111, 98, 115])), (2, 1, (.bool true))]).bnd fun x32 =>
 (buildSlV 3 true [(.str []), (.str []), (.bool false)] 2 [(0, strip x31), (1, strip x32)]).bnd fun x33 =>
 (buildV [.nils, .nils] [(1, 1, x33)]).bnd fun x34 =>
 (buildSlV 2 true [.nils, .nils] 1 [(0, strip x34)]).bnd fun x35 =>
 bnd2 (CallA T (size h) 9 [x35] h25) fun x36 h37 =>
 (extractB x36 0).bnd fun x39 =>
 (extractB x36 1).bnd fun x40 =>
 (binOp .eql x13 (.int .i64 0)).bnd fun x44 =>
 (wantB x44 true).bnd fun b47 => (whenB b47 (some x12) (some .undef)).bnd fun x46 =>
 (wantB x44 true).bnd fun b51 => (whenB b51 ((binOp .eql x46 (.str [60, 47, 53, 47, 48, 62, 59, 118, 101, 114, 61, 49, 46, 48, 44, 60, 47, 62])).bnd some) (some .undef)).bnd fun x50 =>
 (condB x44 (some x50) (some (.bool false))).bnd fun x54 =>
 (wantB x54 true).bnd fun b57 => (whenB b57 (some x21) (some .undef)).bnd fun x56 =>
 (wantB x54 true).bnd fun b61 => (whenB b61 ((binOp .eql x56 (.int .i64 0)).bnd some) (some .undef)).bnd fun x60 =>
 (condB x54 (some x60) (some (.bool false))).bnd fun x64 =>
 (wantB x64 true).bnd fun b67 => (whenB b67 (some x20) (some .undef)).bnd fun x66 =>
 (wantB x64 true).bnd fun b71 => (whenB b71 (some x6) (some .undef)).bnd fun x70 =>
 (wantB x64 true).bnd fun b75 => bnd2 (whenB b75 (bnd2 (CallA T (size h) 7 [x66, x70] h37) fun x77 h76 => some (x77, h76)) (some (.undef, h37))) fun x74 h76 =>
 (condB x64 (some x74) (some (.bool false))).bnd fun x78 =>
 (wantB x78 true).bnd fun b81 => (whenB b81 (some x28) (some .undef)).bnd fun x80 =>
 (wantB x78 true).bnd fun b85 => (whenB b85 ((binOp .eql x80 (.int .i64 20)).bnd some) (some .undef)).bnd fun x84 =>
 (condB x78 (some x84) (some (.bool false))).bnd fun x88 =>
 (wantB x88 true).bnd fun b91 => (whenB b91 (some x40) (some .undef)).bnd fun x90 =>
 (wantB x88 true).bnd fun b95 => (whenB b95 ((binOp .eql x90 (.int .i64 0)).bnd some) (some .undef)).bnd fun x94 =>
 (condB x88 (some x94) (some (.bool false))).bnd fun x98 =>
 (wantB x98 true).bnd fun b101 => (whenB b101 (some x39) (some .undef)).bnd fun x100 =>
 (wantB x98 true).bnd fun b105 => (whenB b105 ((binOp .eql x100 (.str [60, 47, 62, 59, 114, 116, 61, 34, 97, 32, 98, 34, 59, 111, 98, 115])).bnd some) (some .undef)).bnd fun x104 =>
 (condB x98 (some x104) (some (.bool false))).bnd fun x108 =>
 (wantB x108 true).bnd fun b111 => (whenB b111 (some x6) (some .undef)).bnd fun x110 =>
 (wantB x108 true).bnd fun b115 => bnd2 (whenB b115 (bnd2 (CallA T (size h) 11 [x110] h76) fun x117 h116 => some (x117, h116)) (some (.undef, h76))) fun x114 h116 =>
 (condB x108 (some x114) (some (.bool false))).bnd fun x118 =>
 (wantB x118 true).bnd fun b121 => bnd2 (whenB b121 ((buildSlV 1 false [(.int .i64 0)] 1 [(0, strip (.int .i64 (-1)))]).bnd fun x123 => some (x123, h116)) (some (.undef, h116))) fun x120 h122 =>
 (wantB x118 true).bnd fun b125 => (whenB b125 ((buildV [.nils, .nils] [(0, 1, x120)]).bnd some) (some .undef)).bnd fun x124 =>
 (wantB x118 true).bnd fun b129 => bnd2 (whenB b129 ((buildSlV 2 true [.nils, .nils] 1 [(0, strip x124)]).bnd fun x131 => some (x131, h122)) (some (.undef, h122))) fun x128 h130 =>
 (wantB x118 true).bnd fun b133 => bnd2 (whenB b133 (bnd2 (CallA T (size h) 11 [x128] h130) fun x135 h134 => some (x135, h134)) (some (.undef, h130))) fun x132 h134 =>
 (wantB x118 true).bnd fun b137 => (whenB b137 ((unOp .not x132).bnd some) (some .undef)).bnd fun x136 =>
 (condB x118 (some x136) (some (.bool false))).bnd fun x140 =>
 finV false false (size h) [x140] h134 := (Pt_enter T_5 base _ h).trans (by kernel_rfl)
noncomputable def P6_0 (base n0 : Nat) (v3 v0 : PV) (h : Hp) : Option (PV × Hp) := Pt T F6 [1, 1, 0, 1, 0, 1] base n0 [(3, v3), (0, v0)] h
noncomputable def P6_1 (base n0 : Nat) (v4 v3 v0 : PV) (h : Hp) : Option (PV × Hp) := Pt T F6 [1, 1, 0, 1, 0, 1, 0, 0, 1, 0, 0, 1, 1, 0, 1] base n0 [(4, v4), (3, v3), (0, v0)] h
theorem P6_0_eq (base n0 : Nat) (v3 v0 : PV) (h : Hp) : P6_0 base n0 v3 v0 h =
 (lenB false v0).bnd fun x2 =>
 (binOp .lss v3 x2).bnd fun x3 =>
 condB x3 (
 (idxAB v0 v3 2).bnd fun x6 =>
 (fieldAB x6 1).bnd fun x7 =>
 (loadV 1 false x7 h).bnd fun x8 =>
 (lenB false x8).bnd fun x9 =>
 (binOp .gtr x9 (.int .i64 20)).bnd fun x10 =>
 (wantB x10 false).bnd fun b13 => (whenB b13 (some v0) (some .undef)).bnd fun x12 =>
 (wantB x10 false).bnd fun b17 => (whenB b17 (some v3) (some .undef)).bnd fun x16 =>
 (wantB x10 false).bnd fun b21 => (whenB b21 ((idxAB x12 x16 2).bnd some) (some .undef)).bnd fun x20 =>
 (wantB x10 false).bnd fun b25 => (whenB b25 ((fieldAB x20 0).bnd some) (some .undef)).bnd fun x24 =>
 (wantB x10 false).bnd fun b29 => (whenB b29 ((loadV 1 false x24 h).bnd some) (some .undef)).bnd fun x28 =>
 (wantB x10 false).bnd fun b33 => (whenB b33 ((lenB false x28).bnd some) (some .undef)).bnd fun x32 =>
 (wantB x10 false).bnd fun b37 => (whenB b37 ((binOp .gtr x32 (.int .i64 100)).bnd some) (some .undef)).bnd fun x36 =>
 (condB x10 (some (.bool true)) (some x36)).bnd fun x40 =>
 condB x40 (
 finV false false n0 [(.bool false)] h) (
 P6_1 base n0 (.int .i64 0) v3 v0 h)) (
 finV false false n0 [(.bool true)] h) := (Pt_eq T F6 [1, 1, 0, 1, 0, 1] base n0 [(3, v3), (0, v0)] h).trans (by kernel_rfl)
theorem P6_1_eq (base n0 : Nat) (v4 v3 v0 : PV) (h : Hp) : P6_1 base n0 v4 v3 v0 h =
 (idxAB v0 v3 2).bnd fun x3 =>
 (fieldAB x3 1).bnd fun x4 =>
 (loadV 1 false x4 h).bnd fun x5 =>
 (lenB false x5).bnd fun x6 =>
 (binOp .lss v4 x6).bnd fun x7 =>
 condB x7 (
 (idxAB v0 v3 2).bnd fun x10 =>
 (fieldAB x10 1).bnd fun x11 =>
 (loadV 1 false x11 h).bnd fun x12 =>
 (idxAB x12 v4 3).bnd fun x14 =>
 (fieldAB x14 0).bnd fun x15 =>
 (loadV 1 false x15 h).bnd fun x16 =>
 (lenB true x16).bnd fun x17 =>
 (binOp .gtr x17 (.int .i64 100)).bnd fun x18 =>
 (wantB x18 false).bnd fun b21 => (whenB b21 (some v0) (some .undef)).bnd fun x20 =>
 (wantB x18 false).bnd fun b25 => (whenB b25 (some v3) (some .undef)).bnd fun x24 =>
 (wantB x18 false).bnd fun b29 => (whenB b29 ((idxAB x20 x24 2).bnd some) (some .undef)).bnd fun x28 =>
 (wantB x18 false).bnd fun b33 => (whenB b33 ((fieldAB x28 1).bnd some) (some .undef)).bnd fun x32 =>
 (wantB x18 false).bnd fun b37 => (whenB b37 ((loadV 1 false x32 h).bnd some) (some .undef)).bnd fun x36 =>
 (wantB x18 false).bnd fun b41 => (whenB b41 (some v4) (some .undef)).bnd fun x40 =>
 (wantB x18 false).bnd fun b45 => (whenB b45 ((idxAB x36 x40 3).bnd some) (some .undef)).bnd fun x44 =>
 (wantB x18 false).bnd fun b49 => (whenB b49 ((fieldAB x44 1).bnd some) (some .undef)).bnd fun x48 =>
 (wantB x18 false).bnd fun b53 => (whenB b53 ((loadV 1 false x48 h).bnd some) (some .undef)).bnd fun x52 =>
 (wantB x18 false).bnd fun b57 => (whenB b57 ((lenB true x52).bnd some) (some .undef)).bnd fun x56 =>
 (wantB x18 false).bnd fun b61 => (whenB b61 ((binOp .gtr x56 (.int .i64 200)).bnd some) (some .undef)).bnd fun x60 =>
 (condB x18 (some (.bool true)) (some x60)).bnd fun x64 =>
 condB x64 (
 finV false false n0 [(.bool false)] h) (
 (binOp .add v4 (.int .i64 1)).bnd fun x67 =>
 P6_1 base n0 x67 v3 v0 h)) (
 (binOp .add v3 (.int .i64 1)).bnd fun x70 =>
 P6_0 base n0 x70 v0 h) := (Pt_eq T F6 [1, 1, 0, 1, 0, 1, 0, 0, 1, 0, 0, 1, 1, 0, 1] base n0 [(4, v4), (3, v3), (0, v0)] h).trans (by kernel_rfl)
theorem S6 (base : Nat) (a0 : PV) (h : Hp) : CallA T base 6 [a0] h =
 (lenB false a0).bnd fun x2 =>
 (binOp .gtr x2 (.int .i64 80)).bnd fun x3 =>
 condB x3 (
 finV false false (size h) [(.bool false)] h) (
 P6_0 (size h) (size h) (.int .i64 0) a0 h) := (Pt_enter T_6 base _ h).trans (by kernel_rfl)
theorem S7 (base : Nat) (a0 a1 : PV) (h : Hp) : CallA T base 7 [a0, a1] h =
 bnd2 (CallA T (size h) 12 [a0, a1, (.fn 13 [])] h) fun x3 h4 =>
 finV false false (size h) [x3] h4 := (Pt_enter T_7 base _ h).trans (by kernel_rfl)
noncomputable def P8_0 (base n0 : Nat) (v5 v1 v0 : PV) (h : Hp) : Option (PV × Hp) := Pt T F8 [1, 1, 0, 1, 0, 1] base n0 [(5, v5), (1, v1), (0, v0)] h
theorem P8_0_eq (base n0 : Nat) (v5 v1 v0 : PV) (h : Hp) : P8_0 base n0 v5 v1 v0 h =
 (lenB false v0).bnd fun x2 =>
 (binOp .lss v5 x2).bnd fun x3 =>
 condB x3 (
 (idxAB v0 v5 2).bnd fun x6 =>
 (fieldAB x6 0).bnd fun x7 =>
 (loadV 1 false x7 h).bnd fun x8 =>
 (idxAB v1 v5 2).bnd fun x11 =>
 (fieldAB x11 0).bnd fun x12 =>
 (loadV 1 false x12 h).bnd fun x13 =>
 bnd2 (CallA T base 16 [x8, x13] h) fun x14 h15 =>
 (unOp .not x14).bnd fun x16 =>
 (wantB x16 false).bnd fun b19 => (whenB b19 (some v0) (some .undef)).bnd fun x18 =>
 (wantB x16 false).bnd fun b23 => (whenB b23 (some v5) (some .undef)).bnd fun x22 =>
 (wantB x16 false).bnd fun b27 => (whenB b27 ((idxAB x18 x22 2).bnd some) (some .undef)).bnd fun x26 =>
 (wantB x16 false).bnd fun b31 => (whenB b31 ((fieldAB x26 1).bnd some) (some .undef)).bnd fun x30 =>
 (wantB x16 false).bnd fun b35 => (whenB b35 ((loadV 1 false x30 h15).bnd some) (some .undef)).bnd fun x34 =>
 (wantB x16 false).bnd fun b39 => (whenB b39 (some v1) (some .undef)).bnd fun x38 =>
 (wantB x16 false).bnd fun b43 => (whenB b43 (some v5) (some .undef)).bnd fun x42 =>
 (wantB x16 false).bnd fun b47 => (whenB b47 ((idxAB x38 x42 2).bnd some) (some .undef)).bnd fun x46 =>
 (wantB x16 false).bnd fun b51 => (whenB b51 ((fieldAB x46 1).bnd some) (some .undef)).bnd fun x50 =>
 (wantB x16 false).bnd fun b55 => (whenB b55 ((loadV 1 false x50 h15).bnd some) (some .undef)).bnd fun x54 =>
 (wantB x16 false).bnd fun b59 => bnd2 (whenB b59 (bnd2 (CallA T base 17 [x34, x54] h15) fun x61 h60 => some (x61, h60)) (some (.undef, h15))) fun x58 h60 =>
 (wantB x16 false).bnd fun b63 => (whenB b63 ((unOp .not x58).bnd some) (some .undef)).bnd fun x62 =>
 (condB x16 (some (.bool true)) (some x62)).bnd fun x66 =>
 condB x66 (
 finV false false n0 [(.bool false)] h60) (
 (binOp .add v5 (.int .i64 1)).bnd fun x69 =>
 P8_0 base n0 x69 v1 v0 h60)) (
 finV false false n0 [(.bool true)] h) := (Pt_eq T F8 [1, 1, 0, 1, 0, 1] base n0 [(5, v5), (1, v1), (0, v0)] h).trans (by kernel_rfl)
theorem S8 (base : Nat) (a0 a1 : PV) (h : Hp) : CallA T base 8 [a0, a1] h =
 (lenB false a0).bnd fun x2 =>
 (lenB false a1).bnd fun x4 =>
 (binOp .neq x2 x4).bnd fun x5 =>
 condB x5 (
 finV false false (size h) [(.bool false)] h) (
 P8_0 (size h) (size h) (.int .i64 0) a1 a0 h) := (Pt_enter T_8 base _ h).trans (by kernel_rfl)
noncomputable def P9_0 (base n0 : Nat) (v12 v4 v10 v11 : PV) (h : Hp) : Option (PV × Hp) := Pt T F9 [1, 1, 1, 0, 1, 0, 1] base n0 [(12, v12), (4, v4), (10, v10), (11, v11)] h
theorem P9_0_eq (base n0 : Nat) (v12 v4 v10 v11 : PV) (h : Hp) : P9_0 base n0 v12 v4 v10 v11 h =
 (binOp .lss v12 v11).bnd fun x0 =>
 condB x0 (
 (idxAB v10 v12 2).bnd fun x1 =>
 (loadV 2 true x1 h).bnd fun x2 =>
 allocK [.nils, .nils] h fun x3 h4 =>
 (storeV base 2 x3 x2 h4).bnd fun h5 =>
 (loadV 2 true x3 h5).bnd fun x7 =>
 bnd2 (CallA T base 18 [x7] h5) fun x8 h9 =>
 (buildSlV 1 false [(.str [])] 1 [(0, strip x8)]).bnd fun x10 =>
 bnd2 (appTV 9 1 v4 x10 h9) fun x11 h12 =>
 (binOp .add v12 (.int .i64 1)).bnd fun x14 =>
 P9_0 base n0 x14 x11 v10 v11 h12) (
 bnd2 (CallA T base 19 [v4, (.str [44])] h) fun x17 h18 =>
 finV false false n0 [x17, (.int .i64 0)] h18) := (Pt_eq T F9 [1, 1, 1, 0, 1, 0, 1] base n0 [(12, v12), (4, v4), (10, v10), (11, v11)] h).trans (by kernel_rfl)
theorem S9 (base : Nat) (a0 : PV) (h : Hp) : CallA T base 9 [a0] h =
 bnd2 (CallA T (size h) 11 [a0] h) fun x3 h4 =>
 (unOp .not x3).bnd fun x5 =>
 condB x5 (
 finV false false (size h) [(.str []), (.int .i64 1)] h4) (
 (lenB false a0).bnd fun x10 =>
 P9_0 (size h) (size h) (.int .i64 0) .nils a0 x10 h4) := (Pt_enter T_9 base _ h).trans (by kernel_rfl)
noncomputable def P10_0 (base n0 : Nat) (v4 v5 : PV) (h : Hp) : Option (PV × Hp) := Pt T F10 [1, 1, 1, 1, 0, 1] base n0 [(4, v4), (5, v5)] h
theorem P10_0_eq (base n0 : Nat) (v4 v5 : PV) (h : Hp) : P10_0 base n0 v4 v5 h =
 (lenB false v5).bnd fun x1 =>
 (binOp .eql x1 (.int .i64 64)).bnd fun x2 =>
 condB x2 (
 finV false false n0 [.nils, (.int .i64 3)] h) (
 bnd2 (CallA T base 20 [v4] h) fun x6 h7 =>
 (extractB x6 0).bnd fun x9 =>
 (extractB x6 1).bnd fun x10 =>
 allocK [.nils, .nils] h7 fun x11 h12 =>
 (storeV base 2 x11 x9 h12).bnd fun h13 =>
 (unOp .not x10).bnd fun x16 =>
 condB x16 (
 finV false false n0 [.nils, (.int .i64 20)] h13) (
 (loadV 2 true x11 h13).bnd fun x20 =>
 (buildSlV 2 true [.nils, .nils] 1 [(0, strip x20)]).bnd fun x21 =>
 bnd2 (appTV 37 2 v5 x21 h13) fun x22 h23 =>
 (nilckV v4).bnd fun x26 =>
 (fieldAB x26 0).bnd fun x27 =>
 (loadV 1 false x27 h23).bnd fun x28 =>
 (binOp .eql x28 (.str [])).bnd fun x29 =>
 condB x29 (
 finV false false n0 [x22, (.int .i64 0)] h23) (
 bnd2 (CallA T base 21 [v4, (.str [44])] h23) fun x34 h35 =>
 (unOp .not x34).bnd fun x36 =>
 condB x36 (
 finV false false n0 [.nils, (.int .i64 20)] h35) (
 P10_0 base n0 v4 x22 h35)))) := (Pt_eq T F10 [1, 1, 1, 1, 0, 1] base n0 [(4, v4), (5, v5)] h).trans (by kernel_rfl)
theorem S10 (base : Nat) (a0 : PV) (h : Hp) : CallA T base 10 [a0] h =
 (binOp .eql a0 (.str [])).bnd fun x3 =>
 condB x3 (
 finV false false (size h) [.nils, (.int .i64 0)] h) (
 (buildV [(.str [])] [(0, 1, a0)]).bnd fun x7 =>
 bnd2 (boxV 1 x7 h) fun x8 h9 =>
 P10_0 (size h) (size h) x8 .nils h9) := (Pt_enter T_10 base _ h).trans (by kernel_rfl)
theorem S11 (base : Nat) (a0 : PV) (h : Hp) : CallA T base 11 [a0] h =
 bnd2 (CallA T (size h) 22 [a0, (.fn 23 [])] h) fun x2 h3 =>
 (lenB false a0).bnd fun x6 =>
 (binOp .leq x6 (.int .i64 64)).bnd fun x7 =>
 (wantB x7 true).bnd fun b10 => (whenB b10 (some x2) (some .undef)).bnd fun x9 =>
 (wantB x7 true).bnd fun b14 => (whenB b14 ((unOp .not x9).bnd some) (some .undef)).bnd fun x13 =>
 (condB x7 (some x13) (some (.bool false))).bnd fun x17 =>
 finV false false (size h) [x17] h3 := (Pt_enter T_11 base _ h).trans (by kernel_rfl)
noncomputable def P12_0 (base n0 : Nat) (v17 v2 v1 v15 v16 : PV) (h : Hp) : Option (PV × Hp) := Pt T F12 [1, 1, 0, 1, 0, 1] base n0 [(17, v17), (2, v2), (1, v1), (15, v15), (16, v16)] h
theorem P12_0_eq (base n0 : Nat) (v17 v2 v1 v15 v16 : PV) (h : Hp) : P12_0 base n0 v17 v2 v1 v15 v16 h =
 (binOp .lss v17 v16).bnd fun x0 =>
 condB x0 (
 (idxAB v15 v17 2).bnd fun x2 =>
 (loadV 2 true x2 h).bnd fun x3 =>
 allocK [.nils, .nils] h fun x4 h5 =>
 (storeV base 2 x4 x3 h5).bnd fun h7 =>
 (idxAB v1 v17 2).bnd fun x10 =>
 (loadV 2 true x10 h7).bnd fun x11 =>
 allocK [.nils, .nils] h7 fun x12 h13 =>
 (storeV base 2 x12 x11 h13).bnd fun h14 =>
 (loadV 2 true x4 h14).bnd fun x16 =>
 (loadV 2 true x12 h14).bnd fun x17 =>
 bnd2 (callvV (CallA T base) v2 [x16, x17] h14) fun x18 h19 =>
 (unOp .not x18).bnd fun x20 =>
 condB x20 (
 finV false false n0 [(.bool false)] h19) (
 (binOp .add v17 (.int .i64 1)).bnd fun x22 =>
 P12_0 base n0 x22 v2 v1 v15 v16 h19)) (
 finV false false n0 [(.bool true)] h) := (Pt_eq T F12 [1, 1, 0, 1, 0, 1] base n0 [(17, v17), (2, v2), (1, v1), (15, v15), (16, v16)] h).trans (by kernel_rfl)
theorem S12 (base : Nat) (a0 a1 a2 : PV) (h : Hp) : CallA T base 12 [a0, a1, a2] h =
 (lenB false a0).bnd fun x2 =>
 (lenB false a1).bnd fun x4 =>
 (binOp .neq x2 x4).bnd fun x5 =>
 condB x5 (
 finV false false (size h) [(.bool false)] h) (
 (lenB false a0).bnd fun x8 =>
 P12_0 (size h) (size h) (.int .i64 0) a2 a1 a0 x8 h) := (Pt_enter T_12 base _ h).trans (by kernel_rfl)
theorem S13 (base : Nat) (a0 a1 : PV) (h : Hp) : CallA T base 13 [a0, a1] h =
 bnd2 (boxV 2 a0 h) fun x0 h1 =>
 bnd2 (boxV 2 a1 h1) fun x2 h3 =>
 (fieldAB x0 0).bnd fun x5 =>
 (loadV 1 false x5 h3).bnd fun x6 =>
 (fieldAB x2 0).bnd fun x7 =>
 (loadV 1 false x7 h3).bnd fun x8 =>
 bnd2 (CallA T (size h) 14 [x6, x8] h3) fun x9 h10 =>
 (wantB x9 true).bnd fun b13 => (whenB b13 ((fieldAB x0 1).bnd some) (some .undef)).bnd fun x12 =>
 (wantB x9 true).bnd fun b17 => (whenB b17 ((loadV 1 false x12 h10).bnd some) (some .undef)).bnd fun x16 =>
 (wantB x9 true).bnd fun b21 => (whenB b21 ((fieldAB x2 1).bnd some) (some .undef)).bnd fun x20 =>
 (wantB x9 true).bnd fun b25 => (whenB b25 ((loadV 1 false x20 h10).bnd some) (some .undef)).bnd fun x24 =>
 (wantB x9 true).bnd fun b29 => bnd2 (whenB b29 (bnd2 (CallA T (size h) 15 [x16, x24] h10) fun x31 h30 => some (x31, h30)) (some (.undef, h10))) fun x28 h30 =>
 (condB x9 (some x28) (some (.bool false))).bnd fun x32 =>
 finV false false (size h) [x32] h30 := (Pt_enter T_13 base _ h).trans (by kernel_rfl)
noncomputable def P14_0 (base n0 : Nat) (v13 v1 v0 v12 : PV) (h : Hp) : Option (PV × Hp) := Pt T F14 [1, 1, 0, 1, 0, 1] base n0 [(13, v13), (1, v1), (0, v0), (12, v12)] h
theorem P14_0_eq (base n0 : Nat) (v13 v1 v0 v12 : PV) (h : Hp) : P14_0 base n0 v13 v1 v0 v12 h =
 (binOp .lss v13 v12).bnd fun x0 =>
 condB x0 (
 (idxAB v0 v13 1).bnd fun x5 =>
 (loadV 1 false x5 h).bnd fun x6 =>
 (idxAB v1 v13 1).bnd fun x9 =>
 (loadV 1 false x9 h).bnd fun x10 =>
 (binOp .neq x6 x10).bnd fun x11 =>
 condB x11 (
 finV false false n0 [(.bool false)] h) (
 (binOp .add v13 (.int .i64 1)).bnd fun x13 =>
 P14_0 base n0 x13 v1 v0 v12 h)) (
 finV false false n0 [(.bool true)] h) := (Pt_eq T F14 [1, 1, 0, 1, 0, 1] base n0 [(13, v13), (1, v1), (0, v0), (12, v12)] h).trans (by kernel_rfl)
theorem S14 (base : Nat) (a0 a1 : PV) (h : Hp) : CallA T base 14 [a0, a1] h =
 (lenB false a0).bnd fun x2 =>
 (lenB false a1).bnd fun x4 =>
 (binOp .neq x2 x4).bnd fun x5 =>
 condB x5 (
 finV false false (size h) [(.bool false)] h) (
 (lenB false a0).bnd fun x8 =>
 P14_0 (size h) (size h) (.int .i64 0) a1 a0 x8 h) := (Pt_enter T_14 base _ h).trans (by kernel_rfl)
noncomputable def P15_0 (base n0 : Nat) (v13 v1 v0 v12 : PV) (h : Hp) : Option (PV × Hp) := Pt T F15 [1, 1, 0, 1, 0, 1] base n0 [(13, v13), (1, v1), (0, v0), (12, v12)] h
theorem P15_0_eq (base n0 : Nat) (v13 v1 v0 v12 : PV) (h : Hp) : P15_0 base n0 v13 v1 v0 v12 h =
 (binOp .lss v13 v12).bnd fun x0 =>
 condB x0 (
 (idxAB v0 v13 3).bnd fun x5 =>
 (loadV 3 true x5 h).bnd fun x6 =>
 (idxAB v1 v13 3).bnd fun x9 =>
 (loadV 3 true x9 h).bnd fun x10 =>
 (eqvB true [2, 2, 0] x6 x10).bnd fun x11 =>
 condB x11 (
 finV false false n0 [(.bool false)] h) (
 (binOp .add v13 (.int .i64 1)).bnd fun x13 =>
 P15_0 base n0 x13 v1 v0 v12 h)) (
 finV false false n0 [(.bool true)] h) := (Pt_eq T F15 [1, 1, 0, 1, 0, 1] base n0 [(13, v13), (1, v1), (0, v0), (12, v12)] h).trans (by kernel_rfl)
theorem S15 (base : Nat) (a0 a1 : PV) (h : Hp) : CallA T base 15 [a0, a1] h =
 (lenB false a0).bnd fun x2 =>
 (lenB false a1).bnd fun x4 =>
 (binOp .neq x2 x4).bnd fun x5 =>
 condB x5 (
 finV false false (size h) [(.bool false)] h) (
 (lenB false a0).bnd fun x8 =>
 P15_0 (size h) (size h) (.int .i64 0) a1 a0 x8 h) := (Pt_enter T_15 base _ h).trans (by kernel_rfl)
noncomputable def P16_0 (base n0 : Nat) (v5 v1 v0 : PV) (h : Hp) : Option (PV × Hp) := Pt T F16 [1, 1, 0, 1, 0, 1] base n0 [(5, v5), (1, v1), (0, v0)] h
theorem P16_0_eq (base n0 : Nat) (v5 v1 v0 : PV) (h : Hp) : P16_0 base n0 v5 v1 v0 h =
 (lenB false v0).bnd fun x2 =>
 (binOp .lss v5 x2).bnd fun x3 =>
 condB x3 (
 (idxAB v0 v5 1).bnd fun x6 =>
 (loadV 1 false x6 h).bnd fun x7 =>
 (idxAB v1 v5 1).bnd fun x10 =>
 (loadV 1 false x10 h).bnd fun x11 =>
 (binOp .neq x7 x11).bnd fun x12 =>
 condB x12 (
 finV false false n0 [(.bool false)] h) (
 (binOp .add v5 (.int .i64 1)).bnd fun x15 =>
 P16_0 base n0 x15 v1 v0 h)) (
 finV false false n0 [(.bool true)] h) := (Pt_eq T F16 [1, 1, 0, 1, 0, 1] base n0 [(5, v5), (1, v1), (0, v0)] h).trans (by kernel_rfl)
theorem S16 (base : Nat) (a0 a1 : PV) (h : Hp) : CallA T base 16 [a0, a1] h =
 (lenB false a0).bnd fun x2 =>
 (lenB false a1).bnd fun x4 =>
 (binOp .neq x2 x4).bnd fun x5 =>
 condB x5 (
 finV false false (size h) [(.bool false)] h) (
 P16_0 (size h) (size h) (.int .i64 0) a1 a0 h) := (Pt_enter T_16 base _ h).trans (by kernel_rfl)
noncomputable def P17_0 (base n0 : Nat) (v5 v1 v0 : PV) (h : Hp) : Option (PV × Hp) := Pt T F17 [1, 1, 0, 1, 0, 1] base n0 [(5, v5), (1, v1), (0, v0)] h
theorem P17_0_eq (base n0 : Nat) (v5 v1 v0 : PV) (h : Hp) : P17_0 base n0 v5 v1 v0 h =
 (lenB false v0).bnd fun x2 =>
 (binOp .lss v5 x2).bnd fun x3 =>
 condB x3 (
 (idxAB v0 v5 3).bnd fun x6 =>
 (fieldAB x6 0).bnd fun x7 =>
 (loadV 1 false x7 h).bnd fun x8 =>
 (idxAB v1 v5 3).bnd fun x11 =>
 (fieldAB x11 0).bnd fun x12 =>
 (loadV 1 false x12 h).bnd fun x13 =>
 (binOp .neq x8 x13).bnd fun x14 =>
 (wantB x14 false).bnd fun b17 => (whenB b17 (some v0) (some .undef)).bnd fun x16 =>
 (wantB x14 false).bnd fun b21 => (whenB b21 (some v5) (some .undef)).bnd fun x20 =>
 (wantB x14 false).bnd fun b25 => (whenB b25 ((idxAB x16 x20 3).bnd some) (some .undef)).bnd fun x24 =>
 (wantB x14 false).bnd fun b29 => (whenB b29 ((fieldAB x24 1).bnd some) (some .undef)).bnd fun x28 =>
 (wantB x14 false).bnd fun b33 => (whenB b33 ((loadV 1 false x28 h).bnd some) (some .undef)).bnd fun x32 =>
 (wantB x14 false).bnd fun b37 => (whenB b37 (some v1) (some .undef)).bnd fun x36 =>
 (wantB x14 false).bnd fun b41 => (whenB b41 (some v5) (some .undef)).bnd fun x40 =>
 (wantB x14 false).bnd fun b45 => (whenB b45 ((idxAB x36 x40 3).bnd some) (some .undef)).bnd fun x44 =>
 (wantB x14 false).bnd fun b49 => (whenB b49 ((fieldAB x44 1).bnd some) (some .undef)).bnd fun x48 =>
 (wantB x14 false).bnd fun b53 => (whenB b53 ((loadV 1 false x48 h).bnd some) (some .undef)).bnd fun x52 =>
 (wantB x14 false).bnd fun b57 => (whenB b57 ((binOp .neq x32 x52).bnd some) (some .undef)).bnd fun x56 =>
 (condB x14 (some (.bool true)) (some x56)).bnd fun x60 =>
 (wantB x60 false).bnd fun b63 => (whenB b63 (some v0) (some .undef)).bnd fun x62 =>
 (wantB x60 false).bnd fun b67 => (whenB b67 (some v5) (some .undef)).bnd fun x66 =>
 (wantB x60 false).bnd fun b71 => (whenB b71 ((idxAB x62 x66 3).bnd some) (some .undef)).bnd fun x70 =>
 (wantB x60 false).bnd fun b75 => (whenB b75 ((fieldAB x70 2).bnd some) (some .undef)).bnd fun x74 =>
 (wantB x60 false).bnd fun b79 => (whenB b79 ((loadV 1 false x74 h).bnd some) (some .undef)).bnd fun x78 =>
 (wantB x60 false).bnd fun b83 => (whenB b83 (some v1) (some .undef)).bnd fun x82 =>
 (wantB x60 false).bnd fun b87 => (whenB b87 (some v5) (some .undef)).bnd fun x86 =>
 (wantB x60 false).bnd fun b91 => (whenB b91 ((idxAB x82 x86 3).bnd some) (some .undef)).bnd fun x90 =>
 (wantB x60 false).bnd fun b95 => (whenB b95 ((fieldAB x90 2).bnd some) (some .undef)).bnd fun x94 =>
 (wantB x60 false).bnd fun b99 => (whenB b99 ((loadV 1 false x94 h).bnd some) (some .undef)).bnd fun x98 =>
 (wantB x60 false).bnd fun b103 => (whenB b103 ((boolB true x78 x98).bnd some) (some .undef)).bnd fun x102 =>
 (condB x60 (some (.bool true)) (some x102)).bnd fun x106 =>
 condB x106 (
 finV false false n0 [(.bool false)] h) (
 (binOp .add v5 (.int .i64 1)).bnd fun x109 =>
 P17_0 base n0 x109 v1 v0 h)) (
 finV false false n0 [(.bool true)] h) := (Pt_eq T F17 [1, 1, 0, 1, 0, 1] base n0 [(5, v5), (1, v1), (0, v0)] h).trans (by kernel_rfl)
theorem S17 (base : Nat) (a0 a1 : PV) (h : Hp) : CallA T base 17 [a0, a1] h =
 (lenB false a0).bnd fun x2 =>
 (lenB false a1).bnd fun x4 =>
 (binOp .neq x2 x4).bnd fun x5 =>
 condB x5 (
 finV false false (size h) [(.bool false)] h) (
 P17_0 (size h) (size h) (.int .i64 0) a1 a0 h) := (Pt_enter T_17 base _ h).trans (by kernel_rfl)
noncomputable def P18_0 (base n0 : Nat) (v14 v3 v12 v13 : PV) (h : Hp) : Option (PV × Hp) := Pt T F18 [1, 1, 0, 1, 0, 1] base n0 [(14, v14), (3, v3), (12, v12), (13, v13)] h
theorem P18_0_eq (base n0 : Nat) (v14 v3 v12 v13 : PV) (h : Hp) : P18_0 base n0 v14 v3 v12 v13 h =
 (binOp .lss v14 v13).bnd fun x0 =>
 condB x0 (
 (idxAB v12 v14 3).bnd fun x1 =>
 (loadV 3 true x1 h).bnd fun x2 =>
 allocK [(.str []), (.str []), (.bool false)] h fun x3 h4 =>
 (storeV base 3 x3 x2 h4).bnd fun h5 =>
 (fieldAB x3 0).bnd fun x7 =>
 (loadV 1 false x7 h5).bnd fun x8 =>
 (binOp .add (.str [59]) x8).bnd fun x9 =>
 (binOp .add v3 x9).bnd fun x10 =>
 (fieldAB x3 2).bnd fun x12 =>
 (loadV 1 false x12 h5).bnd fun x13 =>
 (unOp .not x13).bnd fun x14 =>
 condB x14 (
 (fieldAB x3 1).bnd fun x16 =>
 (loadV 1 false x16 h5).bnd fun x17 =>
 bnd2 (CallA T base 26 [x17] h5) fun x18 h19 =>
 (binOp .add (.str [61]) x18).bnd fun x20 =>
 (binOp .add x10 x20).bnd fun x21 =>
 (binOp .add v14 (.int .i64 1)).bnd fun x23 =>
 P18_0 base n0 x23 x21 v12 v13 h19) (
 (binOp .add v14 (.int .i64 1)).bnd fun x25 =>
 P18_0 base n0 x25 x10 v12 v13 h5)) (
 finV false false n0 [v3] h) := (Pt_eq T F18 [1, 1, 0, 1, 0, 1] base n0 [(14, v14), (3, v3), (12, v12), (13, v13)] h).trans (by kernel_rfl)
theorem S18 (base : Nat) (a0 : PV) (h : Hp) : CallA T base 18 [a0] h =
 bnd2 (boxV 2 a0 h) fun x0 h1 =>
 (fieldAB x0 0).bnd fun x3 =>
 (loadV 1 false x3 h1).bnd fun x4 =>
 bnd2 (CallA T (size h) 25 [x4] h1) fun x5 h6 =>
 (binOp .add (.str [60]) x5).bnd fun x7 =>
 (binOp .add x7 (.str [62])).bnd fun x8 =>
 (fieldAB x0 1).bnd fun x10 =>
 (loadV 1 false x10 h6).bnd fun x11 =>
 (lenB false x11).bnd fun x12 =>
 P18_0 (size h) (size h) (.int .i64 0) x8 x11 x12 h6 := (Pt_enter T_18 base _ h).trans (by kernel_rfl)
noncomputable def P20_0 (base n0 : Nat) (v2 v6 v0 v5 : PV) (h : Hp) : Option (PV × Hp) := Pt T F20 [1, 1, 1, 0, 0, 1] base n0 [(2, v2), (6, v6), (0, v0), (5, v5)] h
theorem P20_0_eq (base n0 : Nat) (v2 v6 v0 v5 : PV) (h : Hp) : P20_0 base n0 v2 v6 v0 v5 h =
 (wantB v5 true).bnd fun b3 => (whenB b3 (some v0) (some .undef)).bnd fun x2 =>
 (wantB v5 true).bnd fun b7 => bnd2 (whenB b7 (bnd2 (CallA T base 21 [x2, (.str [59])] h) fun x9 h8 => some (x9, h8)) (some (.undef, h))) fun x6 h8 =>
 (condB v5 (some x6) (some (.bool false))).bnd fun x10 =>
 condB x10 (
 (fieldAB v6 1).bnd fun x11 =>
 (loadV 1 false x11 h8).bnd fun x12 =>
 (lenB false x12).bnd fun x13 =>
 (binOp .eql x13 (.int .i64 8)).bnd fun x14 =>
 condB x14 (
 (loadV 2 true v6 h8).bnd fun x15 =>
 (storeV base 2 v2 x15 h8).bnd fun h16 =>
 (resB v2 h16 2 true).bnd fun r18 =>
 finV false false n0 [r18, (.bool false)] h16) (
 allocK [(.str []), (.str []), (.bool false)] h8 fun x19 h20 =>
 bnd2 (CallA T base 31 [v0] h20) fun x22 h23 =>
 (extractB x22 0).bnd fun x25 =>
 (extractB x22 1).bnd fun x26 =>
 (storeV base 3 x19 x25 h23).bnd fun h27 =>
 (fieldAB v6 1).bnd fun x29 =>
 (loadV 1 false x29 h27).bnd fun x30 =>
 (loadV 3 true x19 h27).bnd fun x31 =>
 (buildSlV 3 true [(.str []), (.str []), (.bool false)] 1 [(0, strip x31)]).bnd fun x32 =>
 bnd2 (appTV 34 3 x30 x32 h27) fun x33 h34 =>
 (fieldAB v6 1).bnd fun x35 =>
 (storeV base 1 x35 x33 h34).bnd fun h36 =>
 P20_0 base n0 v2 v6 v0 x26 h36)) (
 (loadV 2 true v6 h8).bnd fun x37 =>
 (storeV base 2 v2 x37 h8).bnd fun h39 =>
 (resB v2 h39 2 true).bnd fun r41 =>
 finV false false n0 [r41, v5] h39) := (Pt_eq T F20 [1, 1, 1, 0, 0, 1] base n0 [(2, v2), (6, v6), (0, v0), (5, v5)] h).trans (by kernel_rfl)
theorem S20 (base : Nat) (a0 : PV) (h : Hp) : CallA T base 20 [a0] h =
 allocK [.nils, .nils] h fun x0 h1 =>
 bnd2 (CallA T (size h) 30 [a0] h1) fun x4 h5 =>
 (extractB x4 0).bnd fun x7 =>
 (extractB x4 1).bnd fun x8 =>
 (buildV [.nils, .nils] [(0, 1, x7)]).bnd fun x12 =>
 allocK [.nils, .nils] h5 fun x13 h14 =>
 (storeV (size h) 2 x13 x12 h14).bnd fun h15 =>
 P20_0 (size h) (size h) x0 x13 a0 x8 h15 := (Pt_enter T_20 base _ h).trans (by kernel_rfl)
theorem S21 (base : Nat) (a0 a1 : PV) (h : Hp) : CallA T base 21 [a0, a1] h =
 (nilckV a0).bnd fun x2 =>
 (fieldAB x2 0).bnd fun x3 =>
 (loadV 1 false x3 h).bnd fun x4 =>
 bnd2 (CallA T (size h) 32 [x4, a1] h) fun x6 h7 =>
 (extractB x6 0).bnd fun x9 =>
 (extractB x6 1).bnd fun x10 =>
 condB x10 (
 (nilckV a0).bnd fun x16 =>
 (fieldAB x16 0).bnd fun x17 =>
 (storeV (size h) 1 x17 x9 h7).bnd fun h18 =>
 finV false false (size h) [x10] h18) (
 finV false false (size h) [x10] h7) := (Pt_enter T_21 base _ h).trans (by kernel_rfl)
theorem S22 (base : Nat) (a0 a1 : PV) (h : Hp) : CallA T base 22 [a0, a1] h =
 bnd2 (CallA T (size h) 33 [a0, a1] h) fun x3 h4 =>
 (binOp .geq x3 (.int .i64 0)).bnd fun x5 =>
 finV false false (size h) [x5] h4 := (Pt_enter T_22 base _ h).trans (by kernel_rfl)
theorem S23 (base : Nat) (a0 : PV) (h : Hp) : CallA T base 23 [a0] h =
 bnd2 (boxV 2 a0 h) fun x0 h1 =>
 (loadV 2 true x0 h1).bnd fun x3 =>
 bnd2 (CallA T (size h) 24 [x3] h1) fun x4 h5 =>
 (unOp .not x4).bnd fun x6 =>
 finV false false (size h) [x6] h5 := (Pt_enter T_23 base _ h).trans (by kernel_rfl)
theorem S24 (base : Nat) (a0 : PV) (h : Hp) : CallA T base 24 [a0] h =
 bnd2 (boxV 2 a0 h) fun x0 h1 =>
 (fieldAB x0 1).bnd fun x3 =>
 (loadV 1 false x3 h1).bnd fun x4 =>
 bnd2 (CallA T (size h) 34 [x4, (.fn 35 [])] h1) fun x5 h6 =>
 (fieldAB x0 0).bnd fun x8 =>
 (loadV 1 false x8 h6).bnd fun x9 =>
 bnd2 (CallA T (size h) 37 [x9] h6) fun x10 h11 =>
 (wantB x10 true).bnd fun b14 => (whenB b14 ((fieldAB x0 1).bnd some) (some .undef)).bnd fun x13 =>
 (wantB x10 true).bnd fun b18 => (whenB b18 ((loadV 1 false x13 h11).bnd some) (some .undef)).bnd fun x17 =>
 (wantB x10 true).bnd fun b22 => (whenB b22 ((lenB false x17).bnd some) (some .undef)).bnd fun x21 =>
 (wantB x10 true).bnd fun b26 => (whenB b26 ((binOp .leq x21 (.int .i64 8)).bnd some) (some .undef)).bnd fun x25 =>
 (condB x10 (some x25) (some (.bool false))).bnd fun x29 =>
 (wantB x29 true).bnd fun b32 => (whenB b32 (some x5) (some .undef)).bnd fun x31 =>
 (wantB x29 true).bnd fun b36 => (whenB b36 ((unOp .not x31).bnd some) (some .undef)).bnd fun x35 =>
 (condB x29 (some x35) (some (.bool false))).bnd fun x39 =>
 finV false false (size h) [x39] h11 := (Pt_enter T_24 base _ h).trans (by kernel_rfl)
noncomputable def P25_0 (base n0 : Nat) (v16 v3 v14 v15 : PV) (h : Hp) : Option (PV × Hp) := Pt T F25 [1, 1, 1, 0, 1, 0, 1] base n0 [(16, v16), (3, v3), (14, v14), (15, v15)] h
theorem P25_0_eq (base n0 : Nat) (v16 v3 v14 v15 : PV) (h : Hp) : P25_0 base n0 v16 v3 v14 v15 h =
 (binOp .lss v16 v15).bnd fun x0 =>
 condB x0 (
 (idxAB v14 v16 1).bnd fun x1 =>
 (loadV 1 false x1 h).bnd fun x2 =>
 bnd2 (CallA T base 38 [v3, (.int .u8 47)] h) fun x4 h5 =>
 bnd2 (CallA T base 39 [x2] h5) fun x7 h8 =>
 bnd2 (CallA T base 28 [v3, x7] h8) fun x9 h10 =>
 (binOp .add v16 (.int .i64 1)).bnd fun x11 =>
 P25_0 base n0 x11 v3 v14 v15 h10) (
 bnd2 (CallA T base 29 [v3] h) fun x13 h14 =>
 finV false false n0 [x13] h14) := (Pt_eq T F25 [1, 1, 1, 0, 1, 0, 1] base n0 [(16, v16), (3, v3), (14, v14), (15, v15)] h).trans (by kernel_rfl)
theorem S25 (base : Nat) (a0 : PV) (h : Hp) : CallA T base 25 [a0] h =
 bnd2 (CallA T (size h) 37 [a0] h) fun x2 h3 =>
 (unOp .not x2).bnd fun x4 =>
 condB x4 (
 finV false false (size h) [(.str [])] h3) (
 (lenB false a0).bnd fun x8 =>
 (binOp .eql x8 (.int .i64 0)).bnd fun x9 =>
 condB x9 (
 finV false false (size h) [(.str [47])] h3) (
 allocK [(.bnil 58), .nils] h3 fun x12 h13 =>
 (lenB false a0).bnd fun x15 =>
 P25_0 (size h) (size h) (.int .i64 0) x12 a0 x15 h13)) := (Pt_enter T_25 base _ h).trans (by kernel_rfl)
theorem S26 (base : Nat) (a0 : PV) (h : Hp) : CallA T base 26 [a0] h =
 (binOp .neq a0 (.str [])).bnd fun x2 =>
 (wantB x2 true).bnd fun b5 => (whenB b5 (some a0) (some .undef)).bnd fun x4 =>
 (wantB x2 true).bnd fun b9 => bnd2 (whenB b9 (bnd2 (CallA T (size h) 40 [x4, (.fn 41 [])] h) fun x11 h10 => some (x11, h10)) (some (.undef, h))) fun x8 h10 =>
 (wantB x2 true).bnd fun b13 => (whenB b13 (some a0) (some .undef)).bnd fun x12 =>
 (wantB x2 true).bnd fun b17 => (whenB b17 ((lenB true x12).bnd some) (some .undef)).bnd fun x16 =>
 (wantB x2 true).bnd fun b21 => (whenB b21 ((binOp .eql x8 x16).bnd some) (some .undef)).bnd fun x20 =>
 (condB x2 (some x20) (some (.bool false))).bnd fun x24 =>
 condB x24 (
 finV false false (size h) [a0] h10) (
 (binOp .add (.str [34]) a0).bnd fun x28 =>
 (binOp .add x28 (.str [34])).bnd fun x29 =>
 finV false false (size h) [x29] h10) := (Pt_enter T_26 base _ h).trans (by kernel_rfl)
theorem S28 (base : Nat) (a0 a1 : PV) (h : Hp) : CallA T base 28 [a0, a1] h =
 bnd2 (CallA T base 42 [a0] h) fun x3 h4 =>
 (nilckV a0).bnd fun x7 =>
 (fieldAB x7 1).bnd fun x8 =>
 (loadV 1 false x8 h4).bnd fun x9 =>
 bnd2 (appTV 5 1 x9 a1 h4) fun x11 h12 =>
 (nilckV a0).bnd fun x13 =>
 (fieldAB x13 1).bnd fun x14 =>
 (storeV base 1 x14 x11 h12).bnd fun h15 =>
 (lenB true a1).bnd fun x17 =>
 finV true false (size h) [x17, .nilif] h15 := (Pt_enterK T_28 base _ h).trans (by kernel_rfl)
theorem S30 (base : Nat) (a0 : PV) (h : Hp) : CallA T base 30 [a0] h =
 bnd2 (CallA T (size h) 21 [a0, (.str [60])] h) fun x3 h4 =>
 (unOp .not x3).bnd fun x5 =>
 condB x5 (
 finV false false (size h) [.nils, (.bool false)] h4) (
 bnd2 (CallA T (size h) 44 [a0, (.fn 45 [])] h4) fun x9 h10 =>
 bnd2 (CallA T (size h) 46 [x9] h10) fun x13 h14 =>
 (extractB x13 0).bnd fun x16 =>
 (extractB x13 1).bnd fun x17 =>
 (binOp .eql x17 (.int .i64 0)).bnd fun x22 =>
 (wantB x22 true).bnd fun b25 => (whenB b25 (some a0) (some .undef)).bnd fun x24 =>
 (wantB x22 true).bnd fun b29 => bnd2 (whenB b29 (bnd2 (CallA T (size h) 21 [x24, (.str [62])] h14) fun x31 h30 => some (x31, h30)) (some (.undef, h14))) fun x28 h30 =>
 (condB x22 (some x28) (some (.bool false))).bnd fun x32 =>
 finV false false (size h) [x16, x32] h30) := (Pt_enter T_30 base _ h).trans (by kernel_rfl)
theorem S31 (base : Nat) (a0 : PV) (h : Hp) : CallA T base 31 [a0] h =
 allocK [(.str []), (.str []), (.bool false)] h fun x0 h1 =>
 bnd2 (CallA T (size h) 44 [a0, (.fn 47 [])] h1) fun x4 h5 =>
 (buildV [(.str []), (.str []), (.bool false)] [(0, 1, x4)]).bnd fun x6 =>
 allocK [(.str []), (.str []), (.bool false)] h5 fun x7 h8 =>
 (storeV (size h) 3 x7 x6 h8).bnd fun h9 =>
 (fieldAB x7 0).bnd fun x10 =>
 (loadV 1 false x10 h9).bnd fun x11 =>
 bnd2 (CallA T (size h) 48 [x11] h9) fun x12 h13 =>
 (unOp .not x12).bnd fun x14 =>
 condB x14 (
 (loadV 3 true x7 h13).bnd fun x15 =>
 (storeV (size h) 3 x0 x15 h13).bnd fun h16 =>
 (resB x0 h16 3 true).bnd fun r18 =>
 finV false false (size h) [r18, (.bool false)] h16) (
 bnd2 (CallA T (size h) 21 [a0, (.str [61])] h13) fun x20 h21 =>
 (unOp .not x20).bnd fun x22 =>
 condB x22 (
 (fieldAB x7 2).bnd fun x23 =>
 (storeV (size h) 1 x23 (.bool true) h21).bnd fun h24 =>
 (loadV 3 true x7 h24).bnd fun x25 =>
 (storeV (size h) 3 x0 x25 h24).bnd fun h26 =>
 (resB x0 h26 3 true).bnd fun r28 =>
 finV false false (size h) [r28, (.bool true)] h26) (
 bnd2 (CallA T (size h) 49 [a0] h21) fun x31 h32 =>
 (extractB x31 0).bnd fun x34 =>
 (extractB x31 1).bnd fun x35 =>
 (fieldAB x7 1).bnd fun x36 =>
 (storeV (size h) 1 x36 x34 h32).bnd fun h37 =>
 (loadV 3 true x7 h37).bnd fun x39 =>
 (storeV (size h) 3 x0 x39 h37).bnd fun h41 =>
 (resB x0 h41 3 true).bnd fun r43 =>
 finV false false (size h) [r43, x35] h41)) := (Pt_enter T_31 base _ h).trans (by kernel_rfl)
theorem S32 (base : Nat) (a0 a1 : PV) (h : Hp) : CallA T base 32 [a0, a1] h =
 bnd2 (CallA T (size h) 50 [a0, a1] h) fun x4 h5 =>
 (extractB x4 0).bnd fun x6 =>
 (extractB x4 1).bnd fun x7 =>
 finV false false (size h) [x6, x7] h5 := (Pt_enter T_32 base _ h).trans (by kernel_rfl)
noncomputable def P33_0 (base n0 : Nat) (v8 v0 v1 v7 : PV) (h : Hp) : Option (PV × Hp) := Pt T F33 [1, 0, 1, 0, 1] base n0 [(8, v8), (0, v0), (1, v1), (7, v7)] h
theorem P33_0_eq (base n0 : Nat) (v8 v0 v1 v7 : PV) (h : Hp) : P33_0 base n0 v8 v0 v1 v7 h =
 (binOp .lss v8 v7).bnd fun x0 =>
 condB x0 (
 (idxAB v0 v8 2).bnd fun x6 =>
 (loadV 2 true x6 h).bnd fun x7 =>
 bnd2 (callvV (CallA T base) v1 [x7] h) fun x8 h9 =>
 condB x8 (
 finV false false n0 [v8] h9) (
 (binOp .add v8 (.int .i64 1)).bnd fun x12 =>
 P33_0 base n0 x12 v0 v1 v7 h9)) (
 finV false false n0 [(.int .i64 (-1))] h) := (Pt_eq T F33 [1, 0, 1, 0, 1] base n0 [(8, v8), (0, v0), (1, v1), (7, v7)] h).trans (by kernel_rfl)
theorem S33 (base : Nat) (a0 a1 : PV) (h : Hp) : CallA T base 33 [a0, a1] h =
 (lenB false a0).bnd fun x2 =>
 P33_0 (size h) (size h) (.int .i64 0) a0 a1 x2 h := (Pt_enter T_33 base _ h).trans (by kernel_rfl)
theorem S34 (base : Nat) (a0 a1 : PV) (h : Hp) : CallA T base 34 [a0, a1] h =
 bnd2 (CallA T (size h) 51 [a0, a1] h) fun x3 h4 =>
 (binOp .geq x3 (.int .i64 0)).bnd fun x5 =>
 finV false false (size h) [x5] h4 := (Pt_enter T_34 base _ h).trans (by kernel_rfl)
theorem S35 (base : Nat) (a0 : PV) (h : Hp) : CallA T base 35 [a0] h =
 bnd2 (boxV 3 a0 h) fun x0 h1 =>
 (loadV 3 true x0 h1).bnd fun x3 =>
 bnd2 (CallA T (size h) 36 [x3] h1) fun x4 h5 =>
 (unOp .not x4).bnd fun x6 =>
 finV false false (size h) [x6] h5 := (Pt_enter T_35 base _ h).trans (by kernel_rfl)
theorem S36 (base : Nat) (a0 : PV) (h : Hp) : CallA T base 36 [a0] h =
 bnd2 (boxV 3 a0 h) fun x0 h1 =>
 (fieldAB x0 2).bnd fun x3 =>
 (loadV 1 false x3 h1).bnd fun x4 =>
 condB x4 (
 (fieldAB x0 0).bnd fun x5 =>
 (loadV 1 false x5 h1).bnd fun x6 =>
 bnd2 (CallA T (size h) 48 [x6] h1) fun x7 h8 =>
 (wantB x7 true).bnd fun b11 => (whenB b11 ((fieldAB x0 1).bnd some) (some .undef)).bnd fun x10 =>
 (wantB x7 true).bnd fun b15 => (whenB b15 ((loadV 1 false x10 h8).bnd some) (some .undef)).bnd fun x14 =>
 (wantB x7 true).bnd fun b19 => (whenB b19 ((binOp .eql x14 (.str [])).bnd some) (some .undef)).bnd fun x18 =>
 (condB x7 (some x18) (some (.bool false))).bnd fun x22 =>
 finV false false (size h) [x22] h8) (
 (fieldAB x0 0).bnd fun x24 =>
 (loadV 1 false x24 h1).bnd fun x25 =>
 bnd2 (CallA T (size h) 48 [x25] h1) fun x26 h27 =>
 (wantB x26 true).bnd fun b30 => (whenB b30 ((fieldAB x0 1).bnd some) (some .undef)).bnd fun x29 =>
 (wantB x26 true).bnd fun b34 => (whenB b34 ((loadV 1 false x29 h27).bnd some) (some .undef)).bnd fun x33 =>
 (wantB x26 true).bnd fun b38 => (whenB b38 ((lenB true x33).bnd some) (some .undef)).bnd fun x37 =>
 (wantB x26 true).bnd fun b42 => (whenB b42 ((binOp .leq x37 (.int .i64 60)).bnd some) (some .undef)).bnd fun x41 =>
 (condB x26 (some x41) (some (.bool false))).bnd fun x45 =>
 (wantB x45 true).bnd fun b48 => (whenB b48 ((fieldAB x0 1).bnd some) (some .undef)).bnd fun x47 =>
 (wantB x45 true).bnd fun b52 => (whenB b52 ((loadV 1 false x47 h27).bnd some) (some .undef)).bnd fun x51 =>
 (wantB x45 true).bnd fun b56 => bnd2 (whenB b56 (bnd2 (orcQ (CallA T (size h)) 40 [x51, (.fn 52 [])] h27) fun x58 h57 => (fun y => if h57 = h27 then y else none) <| some (x58, h27)) (some (.undef, h27))) fun x55 h57 =>
 (wantB x45 true).bnd fun b60 => (whenB b60 ((fieldAB x0 1).bnd some) (some .undef)).bnd fun x59 =>
 (wantB x45 true).bnd fun b64 => (whenB b64 ((loadV 1 false x59 h57).bnd some) (some .undef)).bnd fun x63 =>
 (wantB x45 true).bnd fun b68 => (whenB b68 ((lenB true x63).bnd some) (some .undef)).bnd fun x67 =>
 (wantB x45 true).bnd fun b72 => (whenB b72 ((binOp .eql x55 x67).bnd some) (some .undef)).bnd fun x71 =>
 (condB x45 (some x71) (some (.bool false))).bnd fun x75 =>
 finV false false (size h) [x75] h57) := (Pt_enter T_36 base _ h).trans (by kernel_rfl)
noncomputable def P37_0 (base n0 : Nat) (v7 v5 v0 v6 : PV) (h : Hp) : Option (PV × Hp) := Pt T F37 [1, 0, 1, 0, 1] base n0 [(7, v7), (5, v5), (0, v0), (6, v6)] h
theorem P37_0_eq (base n0 : Nat) (v7 v5 v0 v6 : PV) (h : Hp) : P37_0 base n0 v7 v5 v0 v6 h =
 (binOp .lss v7 v6).bnd fun x0 =>
 condB x0 (
 (idxAB v5 v7 1).bnd fun x1 =>
 (loadV 1 false x1 h).bnd fun x2 =>
 (binOp .lss x2 (.int .i64 0)).bnd fun x5 =>
 (wantB x5 false).bnd fun b8 => (whenB b8 (some x2) (some .undef)).bnd fun x7 =>
 (wantB x5 false).bnd fun b12 => (whenB b12 ((binOp .gtr x7 (.int .i64 65535)).bnd some) (some .undef)).bnd fun x11 =>
 (condB x5 (some (.bool true)) (some x11)).bnd fun x15 =>
 condB x15 (
 finV false false n0 [(.bool false)] h) (
 (binOp .add v7 (.int .i64 1)).bnd fun x17 =>
 P37_0 base n0 x17 v5 v0 v6 h)) (
 (lenB false v0).bnd fun x20 =>
 (binOp .leq x20 (.int .i64 3)).bnd fun x21 =>
 finV false false n0 [x21] h) := (Pt_eq T F37 [1, 0, 1, 0, 1] base n0 [(7, v7), (5, v5), (0, v0), (6, v6)] h).trans (by kernel_rfl)
theorem S37 (base : Nat) (a0 : PV) (h : Hp) : CallA T base 37 [a0] h =
 (lenB false a0).bnd fun x2 =>
 P37_0 (size h) (size h) (.int .i64 0) a0 a0 x2 h := (Pt_enter T_37 base _ h).trans (by kernel_rfl)
theorem S38 (base : Nat) (a0 a1 : PV) (h : Hp) : CallA T base 38 [a0, a1] h =
 bnd2 (CallA T base 42 [a0] h) fun x2 h3 =>
 (nilckV a0).bnd fun x6 =>
 (fieldAB x6 1).bnd fun x7 =>
 (loadV 1 false x7 h3).bnd fun x8 =>
 (buildSlV 1 false [(.int .u8 0)] 1 [(0, strip a1)]).bnd fun x10 =>
 bnd2 (appTV 5 1 x8 x10 h3) fun x11 h12 =>
 (nilckV a0).bnd fun x13 =>
 (fieldAB x13 1).bnd fun x14 =>
 (storeV base 1 x14 x11 h12).bnd fun h15 =>
 finV true false (size h) [.nilif] h15 := (Pt_enterK T_38 base _ h).trans (by kernel_rfl)
noncomputable def P40_0 (base n0 : Nat) (v8 v0 v1 v7 : PV) (h : Hp) : Option (PV × Hp) := Pt T F40 [1, 0, 1, 0, 1] base n0 [(8, v8), (0, v0), (1, v1), (7, v7)] h
theorem P40_0_eq (base n0 : Nat) (v8 v0 v1 v7 : PV) (h : Hp) : P40_0 base n0 v8 v0 v1 v7 h =
 (binOp .lss v8 v7).bnd fun x0 =>
 condB x0 (
 (idxStrB v0 v8).bnd fun x6 =>
 bnd2 (callvV (CallA T base) v1 [x6] h) fun x7 h8 =>
 (unOp .not x7).bnd fun x9 =>
 condB x9 (
 finV false false n0 [v8] h8) (
 (binOp .add v8 (.int .i64 1)).bnd fun x12 =>
 P40_0 base n0 x12 v0 v1 v7 h8)) (
 (lenB true v0).bnd fun x15 =>
 finV false false n0 [x15] h) := (Pt_eq T F40 [1, 0, 1, 0, 1] base n0 [(8, v8), (0, v0), (1, v1), (7, v7)] h).trans (by kernel_rfl)
theorem S40 (base : Nat) (a0 a1 : PV) (h : Hp) : CallA T base 40 [a0, a1] h =
 (lenB true a0).bnd fun x2 =>
 P40_0 (size h) (size h) (.int .i64 0) a0 a1 x2 h := (Pt_enter T_40 base _ h).trans (by kernel_rfl)
theorem S41 (base : Nat) (a0 : PV) (h : Hp) : CallA T base 41 [a0] h =
 bnd2 (CallA T (size h) 47 [a0] h) fun x2 h3 =>
 (wantB x2 false).bnd fun b6 => (whenB b6 (some a0) (some .undef)).bnd fun x5 =>
 (wantB x2 false).bnd fun b10 => (whenB b10 ((binOp .eql x5 (.int .u8 46)).bnd some) (some .undef)).bnd fun x9 =>
 (condB x2 (some (.bool true)) (some x9)).bnd fun x13 =>
 (wantB x13 false).bnd fun b16 => (whenB b16 (some a0) (some .undef)).bnd fun x15 =>
 (wantB x13 false).bnd fun b20 => (whenB b20 ((binOp .eql x15 (.int .u8 45)).bnd some) (some .undef)).bnd fun x19 =>
 (condB x13 (some (.bool true)) (some x19)).bnd fun x23 =>
 finV false false (size h) [x23] h3 := (Pt_enter T_41 base _ h).trans (by kernel_rfl)
theorem S44 (base : Nat) (a0 a1 : PV) (h : Hp) : CallA T base 44 [a0, a1] h =
 (nilckV a0).bnd fun x2 =>
 (fieldAB x2 0).bnd fun x3 =>
 (loadV 1 false x3 h).bnd fun x4 =>
 bnd2 (CallA T (size h) 40 [x4, a1] h) fun x6 h7 =>
 (nilckV a0).bnd fun x10 =>
 (fieldAB x10 0).bnd fun x11 =>
 (loadV 1 false x11 h7).bnd fun x12 =>
 (sliceV none none (some x6) none x12).bnd fun x14 =>
 (nilckV a0).bnd fun x18 =>
 (fieldAB x18 0).bnd fun x19 =>
 (loadV 1 false x19 h7).bnd fun x20 =>
 (sliceV none (some x6) none none x20).bnd fun x22 =>
 (nilckV a0).bnd fun x23 =>
 (fieldAB x23 0).bnd fun x24 =>
 (storeV (size h) 1 x24 x22 h7).bnd fun h25 =>
 finV false false (size h) [x14] h25 := (Pt_enter T_44 base _ h).trans (by kernel_rfl)
theorem S45 (base : Nat) (a0 : PV) (h : Hp) : CallA T base 45 [a0] h =
 (binOp .neq a0 (.int .u8 62)).bnd fun x2 =>
 finV false false (size h) [x2] h := (Pt_enter T_45 base _ h).trans (by kernel_rfl)
theorem S46 (base : Nat) (a0 : PV) (h : Hp) : CallA T base 46 [a0] h =
 bnd2 (CallA T (size h) 32 [a0, (.str [47])] h) fun x3 h4 =>
 (extractB x3 0).bnd fun x6 =>
 (extractB x3 1).bnd fun x7 =>
 (unOp .not x7).bnd fun x11 =>
 condB x11 (
 finV false false (size h) [.nils, (.int .i64 20)] h4) (
 (binOp .eql x6 (.str [])).bnd fun x16 =>
 condB x16 (
 finV false false (size h) [.nils, (.int .i64 0)] h4) (
 bnd2 (CallA T (size h) 57 [x6, (.str [47])] h4) fun x21 h22 =>
 bnd2 (CallA T (size h) 56 [x21] h22) fun x23 h24 =>
 (extractB x23 0).bnd fun x26 =>
 (extractB x23 1).bnd fun x27 =>
 (binOp .neq x27 (.int .i64 0)).bnd fun x31 =>
 condB x31 (
 finV false false (size h) [.nils, (.int .i64 20)] h24) (
 finV false false (size h) [x26, (.int .i64 0)] h24))) := (Pt_enter T_46 base _ h).trans (by kernel_rfl)
theorem S47 (base : Nat) (a0 : PV) (h : Hp) : CallA T base 47 [a0] h =
 (binOp .geq a0 (.int .u8 97)).bnd fun x2 =>
 (wantB x2 true).bnd fun b5 => (whenB b5 (some a0) (some .undef)).bnd fun x4 =>
 (wantB x2 true).bnd fun b9 => (whenB b9 ((binOp .leq x4 (.int .u8 122)).bnd some) (some .undef)).bnd fun x8 =>
 (condB x2 (some x8) (some (.bool false))).bnd fun x12 =>
 (wantB x12 false).bnd fun b15 => (whenB b15 (some a0) (some .undef)).bnd fun x14 =>
 (wantB x12 false).bnd fun b19 => (whenB b19 ((binOp .geq x14 (.int .u8 48)).bnd some) (some .undef)).bnd fun x18 =>
 (wantB x12 false).bnd fun b23 => (whenB b23 (some x18) (some .undef)).bnd fun x22 =>
 (wantB x22 true).bnd fun b27 => (whenB b27 (some a0) (some .undef)).bnd fun x26 =>
 (wantB x22 true).bnd fun b31 => (whenB b31 ((binOp .leq x26 (.int .u8 57)).bnd some) (some .undef)).bnd fun x30 =>
 (wantB x12 false).bnd fun b35 => (whenB b35 ((condB x22 (some x30) (some (.bool false))).bnd some) (some .undef)).bnd fun x34 =>
 (condB x12 (some (.bool true)) (some x34)).bnd fun x38 =>
 finV false false (size h) [x38] h := (Pt_enter T_47 base _ h).trans (by kernel_rfl)
theorem S48 (base : Nat) (a0 : PV) (h : Hp) : CallA T base 48 [a0] h =
 (binOp .neq a0 (.str [])).bnd fun x2 =>
 (wantB x2 true).bnd fun b5 => (whenB b5 (some a0) (some .undef)).bnd fun x4 =>
 (wantB x2 true).bnd fun b9 => (whenB b9 ((lenB true x4).bnd some) (some .undef)).bnd fun x8 =>
 (wantB x2 true).bnd fun b13 => (whenB b13 ((binOp .leq x8 (.int .i64 16)).bnd some) (some .undef)).bnd fun x12 =>
 (condB x2 (some x12) (some (.bool false))).bnd fun x16 =>
 (wantB x16 true).bnd fun b19 => (whenB b19 (some a0) (some .undef)).bnd fun x18 =>
 (wantB x16 true).bnd fun b23 => bnd2 (whenB b23 (bnd2 (CallA T (size h) 40 [x18, (.fn 47 [])] h) fun x25 h24 => some (x25, h24)) (some (.undef, h))) fun x22 h24 =>
 (wantB x16 true).bnd fun b27 => (whenB b27 (some a0) (some .undef)).bnd fun x26 =>
 (wantB x16 true).bnd fun b31 => (whenB b31 ((lenB true x26).bnd some) (some .undef)).bnd fun x30 =>
 (wantB x16 true).bnd fun b35 => (whenB b35 ((binOp .eql x22 x30).bnd some) (some .undef)).bnd fun x34 =>
 (condB x16 (some x34) (some (.bool false))).bnd fun x38 =>
 finV false false (size h) [x38] h24 := (Pt_enter T_48 base _ h).trans (by kernel_rfl)
theorem S49 (base : Nat) (a0 : PV) (h : Hp) : CallA T base 49 [a0] h =
 bnd2 (CallA T (size h) 21 [a0, (.str [34])] h) fun x3 h4 =>
 (unOp .not x3).bnd fun x5 =>
 condB x5 (
 bnd2 (CallA T (size h) 44 [a0, (.fn 41 [])] h4) fun x7 h8 =>
 (binOp .neq x7 (.str [])).bnd fun x12 =>
 (wantB x12 true).bnd fun b15 => (whenB b15 (some x7) (some .undef)).bnd fun x14 =>
 (wantB x12 true).bnd fun b19 => (whenB b19 ((lenB true x14).bnd some) (some .undef)).bnd fun x18 =>
 (wantB x12 true).bnd fun b23 => (whenB b23 ((binOp .leq x18 (.int .i64 60)).bnd some) (some .undef)).bnd fun x22 =>
 (condB x12 (some x22) (some (.bool false))).bnd fun x26 =>
 finV false false (size h) [x7, x26] h8) (
 bnd2 (CallA T (size h) 44 [a0, (.fn 52 [])] h4) fun x30 h31 =>
 (lenB true x30).bnd fun x35 =>
 (binOp .leq x35 (.int .i64 60)).bnd fun x36 =>
 (wantB x36 true).bnd fun b39 => (whenB b39 (some a0) (some .undef)).bnd fun x38 =>
 (wantB x36 true).bnd fun b43 => bnd2 (whenB b43 (bnd2 (CallA T (size h) 21 [x38, (.str [34])] h31) fun x45 h44 => some (x45, h44)) (some (.undef, h31))) fun x42 h44 =>
 (condB x36 (some x42) (some (.bool false))).bnd fun x46 =>
 finV false false (size h) [x30, x46] h44) := (Pt_enter T_49 base _ h).trans (by kernel_rfl)
theorem S50 (base : Nat) (a0 a1 : PV) (h : Hp) : CallA T base 50 [a0, a1] h =
 bnd2 (CallA T (size h) 58 [a0, a1] h) fun x4 h5 =>
 (unOp .not x4).bnd fun x6 =>
 condB x6 (
 finV false false (size h) [a0, (.bool false)] h5) (
 (lenB true a1).bnd fun x12 =>
 (sliceV none (some x12) none none a0).bnd fun x13 =>
 finV false false (size h) [x13, (.bool true)] h5) := (Pt_enter T_50 base _ h).trans (by kernel_rfl)
noncomputable def P51_0 (base n0 : Nat) (v8 v0 v1 v7 : PV) (h : Hp) : Option (PV × Hp) := Pt T F51 [1, 0, 1, 0, 1] base n0 [(8, v8), (0, v0), (1, v1), (7, v7)] h
theorem P51_0_eq (base n0 : Nat) (v8 v0 v1 v7 : PV) (h : Hp) : P51_0 base n0 v8 v0 v1 v7 h =
 (binOp .lss v8 v7).bnd fun x0 =>
 condB x0 (
 (idxAB v0 v8 3).bnd fun x6 =>
 (loadV 3 true x6 h).bnd fun x7 =>
 bnd2 (callvV (CallA T base) v1 [x7] h) fun x8 h9 =>
 condB x8 (
 finV false false n0 [v8] h9) (
 (binOp .add v8 (.int .i64 1)).bnd fun x12 =>
 P51_0 base n0 x12 v0 v1 v7 h9)) (
 finV false false n0 [(.int .i64 (-1))] h) := (Pt_eq T F51 [1, 0, 1, 0, 1] base n0 [(8, v8), (0, v0), (1, v1), (7, v7)] h).trans (by kernel_rfl)
theorem S51 (base : Nat) (a0 a1 : PV) (h : Hp) : CallA T base 51 [a0, a1] h =
 (lenB false a0).bnd fun x2 =>
 P51_0 (size h) (size h) (.int .i64 0) a0 a1 x2 h := (Pt_enter T_51 base _ h).trans (by kernel_rfl)
theorem S52 (base : Nat) (a0 : PV) (h : Hp) : CallA T base 52 [a0] h =
 (binOp .geq a0 (.int .u8 32)).bnd fun x2 =>
 (wantB x2 true).bnd fun b5 => (whenB b5 (some a0) (some .undef)).bnd fun x4 =>
 (wantB x2 true).bnd fun b9 => (whenB b9 ((binOp .leq x4 (.int .u8 126)).bnd some) (some .undef)).bnd fun x8 =>
 (condB x2 (some x8) (some (.bool false))).bnd fun x12 =>
 (wantB x12 true).bnd fun b15 => (whenB b15 (some a0) (some .undef)).bnd fun x14 =>
 (wantB x12 true).bnd fun b19 => (whenB b19 ((binOp .neq x14 (.int .u8 34)).bnd some) (some .undef)).bnd fun x18 =>
 (condB x12 (some x18) (some (.bool false))).bnd fun x22 =>
 (wantB x22 true).bnd fun b25 => (whenB b25 (some a0) (some .undef)).bnd fun x24 =>
 (wantB x22 true).bnd fun b29 => (whenB b29 ((binOp .neq x24 (.int .u8 92)).bnd some) (some .undef)).bnd fun x28 =>
 (condB x22 (some x28) (some (.bool false))).bnd fun x32 =>
 finV false false (size h) [x32] h := (Pt_enter T_52 base _ h).trans (by kernel_rfl)
noncomputable def P56_0 (base n0 : Nat) (v14 v4 v12 v13 : PV) (h : Hp) : Option (PV × Hp) := Pt T F56 [1, 1, 1, 0, 1, 0, 1] base n0 [(14, v14), (4, v4), (12, v12), (13, v13)] h
theorem P56_0_eq (base n0 : Nat) (v14 v4 v12 v13 : PV) (h : Hp) : P56_0 base n0 v14 v4 v12 v13 h =
 (binOp .lss v14 v13).bnd fun x0 =>
 condB x0 (
 (idxAB v12 v14 1).bnd fun x1 =>
 (loadV 1 false x1 h).bnd fun x2 =>
 bnd2 (CallA T base 60 [x2, (.int .i64 65535)] h) fun x5 h6 =>
 (extractB x5 0).bnd fun x8 =>
 (extractB x5 1).bnd fun x9 =>
 (unOp .not x9).bnd fun x13 =>
 condB x13 (
 finV false false n0 [.nils, (.int .i64 20)] h6) (
 (buildSlV 1 false [(.int .i64 0)] 1 [(0, strip x8)]).bnd fun x18 =>
 bnd2 (appTV 3 1 v4 x18 h6) fun x19 h20 =>
 (binOp .add v14 (.int .i64 1)).bnd fun x22 =>
 P56_0 base n0 x22 x19 v12 v13 h20)) (
 finV false false n0 [v4, (.int .i64 0)] h) := (Pt_eq T F56 [1, 1, 1, 0, 1, 0, 1] base n0 [(14, v14), (4, v4), (12, v12), (13, v13)] h).trans (by kernel_rfl)
theorem S56 (base : Nat) (a0 : PV) (h : Hp) : CallA T base 56 [a0] h =
 (lenB false a0).bnd fun x3 =>
 (binOp .gtr x3 (.int .i64 3)).bnd fun x4 =>
 condB x4 (
 finV false false (size h) [.nils, (.int .i64 3)] h) (
 (lenB false a0).bnd fun x9 =>
 P56_0 (size h) (size h) (.int .i64 0) .nils a0 x9 h) := (Pt_enter T_56 base _ h).trans (by kernel_rfl)
theorem S57 (base : Nat) (a0 a1 : PV) (h : Hp) : CallA T base 57 [a0, a1] h =
 bnd2 (CallA T (size h) 61 [a0, a1, (.int .i64 0), (.int .i64 (-1))] h) fun x3 h4 =>
 finV false false (size h) [x3] h4 := (Pt_enter T_57 base _ h).trans (by kernel_rfl)
theorem S58 (base : Nat) (a0 a1 : PV) (h : Hp) : CallA T base 58 [a0, a1] h =
 (lenB true a0).bnd fun x2 =>
 (lenB true a1).bnd fun x4 =>
 (binOp .geq x2 x4).bnd fun x5 =>
 (wantB x5 true).bnd fun b8 => (whenB b8 (some a0) (some .undef)).bnd fun x7 =>
 (wantB x5 true).bnd fun b12 => (whenB b12 (some a1) (some .undef)).bnd fun x11 =>
 (wantB x5 true).bnd fun b16 => (whenB b16 ((lenB true x11).bnd some) (some .undef)).bnd fun x15 =>
 (wantB x5 true).bnd fun b20 => (whenB b20 ((sliceV none none (some x15) none x7).bnd some) (some .undef)).bnd fun x19 =>
 (wantB x5 true).bnd fun b24 => (whenB b24 (some a1) (some .undef)).bnd fun x23 =>
 (wantB x5 true).bnd fun b28 => (whenB b28 ((binOp .eql x19 x23).bnd some) (some .undef)).bnd fun x27 =>
 (condB x5 (some x27) (some (.bool false))).bnd fun x31 =>
 finV false false (size h) [x31] h := (Pt_enter T_58 base _ h).trans (by kernel_rfl)
theorem S60 (base : Nat) (a0 a1 : PV) (h : Hp) : CallA T base 60 [a0, a1] h =
 bnd2 (CallA T (size h) 66 [a0] h) fun x3 h4 =>
 (extractB x3 0).bnd fun x6 =>
 (extractB x3 1).bnd fun x7 =>
 (isnilV 2 false x7).bnd fun x12 =>
 (wantB x12 true).bnd fun b15 => (whenB b15 (some x6) (some .undef)).bnd fun x14 =>
 (wantB x12 true).bnd fun b19 => (whenB b19 ((binOp .geq x14 (.int .i64 0)).bnd some) (some .undef)).bnd fun x18 =>
 (condB x12 (some x18) (some (.bool false))).bnd fun x22 =>
 (wantB x22 true).bnd fun b25 => (whenB b25 (some x6) (some .undef)).bnd fun x24 =>
 (wantB x22 true).bnd fun b29 => (whenB b29 (some a1) (some .undef)).bnd fun x28 =>
 (wantB x22 true).bnd fun b33 => (whenB b33 ((binOp .leq x24 x28).bnd some) (some .undef)).bnd fun x32 =>
 (condB x22 (some x32) (some (.bool false))).bnd fun x36 =>
 (wantB x36 true).bnd fun b39 => (whenB b39 (some x6) (some .undef)).bnd fun x38 =>
 (wantB x36 true).bnd fun b43 => bnd2 (whenB b43 (bnd2 (CallA T (size h) 39 [x38] h4) fun x45 h44 => some (x45, h44)) (some (.undef, h4))) fun x42 h44 =>
 (wantB x36 true).bnd fun b47 => (whenB b47 (some a0) (some .undef)).bnd fun x46 =>
 (wantB x36 true).bnd fun b51 => (whenB b51 ((binOp .eql x42 x46).bnd some) (some .undef)).bnd fun x50 =>
 (condB x36 (some x50) (some (.bool false))).bnd fun x54 =>
 finV false false (size h) [x6, x54] h44 := (Pt_enter T_60 base _ h).trans (by kernel_rfl)
noncomputable def P61_0 (base n0 : Nat) (v0 v1 v2 v3 : PV) (h : Hp) : Option (PV × Hp) := Pt T F61 [1, 1, 1, 1, 1] base n0 [(0, v0), (1, v1), (2, v2), (3, v3)] h
noncomputable def P61_1 (base n0 : Nat) (v10 v9 v0 v1 v2 v3 : PV) (h : Hp) : Option (PV × Hp) := Pt T F61 [1, 1, 1, 1, 1, 1, 1, 1, 1, 0, 0, 1] base n0 [(10, v10), (9, v9), (0, v0), (1, v1), (2, v2), (3, v3)] h
theorem P61_0_eq (base n0 : Nat) (v0 v1 v2 v3 : PV) (h : Hp) : P61_0 base n0 v0 v1 v2 v3 h =
 (lenB true v0).bnd fun x2 =>
 (binOp .add x2 (.int .i64 1)).bnd fun x3 =>
 (minmaxV false [v3, x3]).bnd fun x4 =>
 bnd2 (makeV 9 [(.str [])] x4 x4 h) fun x7 h8 =>
 (binOp .sub x4 (.int .i64 1)).bnd fun x11 =>
 P61_1 base n0 (.int .i64 0) x7 v0 v1 v2 x11 h8 := (Pt_eq T F61 [1, 1, 1, 1, 1] base n0 [(0, v0), (1, v1), (2, v2), (3, v3)] h).trans (by kernel_rfl)
theorem P61_1_eq (base n0 : Nat) (v10 v9 v0 v1 v2 v3 : PV) (h : Hp) : P61_1 base n0 v10 v9 v0 v1 v2 v3 h =
 (binOp .lss v10 v3).bnd fun x2 =>
 condB x2 (
 bnd2 (CallA T base 69 [v0, v1] h) fun x5 h6 =>
 (binOp .lss x5 (.int .i64 0)).bnd fun x9 =>
 condB x9 (
 (idxAB v9 v10 1).bnd fun x13 =>
 (storeV base 1 x13 v0 h6).bnd fun h14 =>
 (binOp .add v10 (.int .i64 1)).bnd fun x17 =>
 (sliceV (some 1) none (some x17) none v9).bnd fun x18 =>
 finV false false n0 [x18] h14) (
 (binOp .add x5 v2).bnd fun x25 =>
 (sliceV none none (some x25) none v0).bnd fun x26 =>
 (idxAB v9 v10 1).bnd fun x27 =>
 (storeV base 1 x27 x26 h6).bnd fun h28 =>
 (lenB true v1).bnd fun x32 =>
 (binOp .add x5 x32).bnd fun x33 =>
 (sliceV none (some x33) none none v0).bnd fun x34 =>
 (binOp .add v10 (.int .i64 1)).bnd fun x37 =>
 P61_1 base n0 x37 v9 x34 v1 v2 v3 h28)) (
 (idxAB v9 v10 1).bnd fun x42 =>
 (storeV base 1 x42 v0 h).bnd fun h43 =>
 (binOp .add v10 (.int .i64 1)).bnd fun x46 =>
 (sliceV (some 1) none (some x46) none v9).bnd fun x47 =>
 finV false false n0 [x47] h43) := (Pt_eq T F61 [1, 1, 1, 1, 1, 1, 1, 1, 1, 0, 0, 1] base n0 [(10, v10), (9, v9), (0, v0), (1, v1), (2, v2), (3, v3)] h).trans (by kernel_rfl)
theorem S61 (base : Nat) (a0 a1 a2 a3 : PV) (h : Hp) : CallA T base 61 [a0, a1, a2, a3] h =
 (binOp .eql a3 (.int .i64 0)).bnd fun x2 =>
 condB x2 (
 finV false false (size h) [.nils] h) (
 (binOp .eql a1 (.str [])).bnd fun x5 =>
 condB x5 (
 bnd2 (CallA T (size h) 67 [a0, a3] h) fun x8 h9 =>
 finV false false (size h) [x8] h9) (
 (binOp .lss a3 (.int .i64 0)).bnd fun x12 =>
 condB x12 (
 bnd2 (CallA T (size h) 68 [a0, a1] h) fun x15 h16 =>
 (binOp .add x15 (.int .i64 1)).bnd fun x17 =>
 P61_0 (size h) (size h) a0 a1 a2 x17 h16) (
 P61_0 (size h) (size h) a0 a1 a2 a3 h))) := (Pt_enter T_61 base _ h).trans (by kernel_rfl)
noncomputable def P67_0 (base n0 : Nat) (v0 v1 : PV) (h : Hp) : Option (PV × Hp) := Pt T F67 [1, 1, 1, 1] base n0 [(0, v0), (1, v1)] h
noncomputable def P67_1 (base n0 : Nat) (v7 v0 v6 v1 : PV) (h : Hp) : Option (PV × Hp) := Pt T F67 [1, 1, 1, 1, 1, 0, 1, 0, 1] base n0 [(7, v7), (0, v0), (6, v6), (1, v1)] h
theorem P67_0_eq (base n0 : Nat) (v0 v1 : PV) (h : Hp) : P67_0 base n0 v0 v1 h =
 bnd2 (makeV 9 [(.str [])] v1 v1 h) fun x1 h2 =>
 P67_1 base n0 (.int .i64 0) v0 x1 v1 h2 := (Pt_eq T F67 [1, 1, 1, 1] base n0 [(0, v0), (1, v1)] h).trans (by kernel_rfl)
theorem P67_1_eq (base n0 : Nat) (v7 v0 v6 v1 : PV) (h : Hp) : P67_1 base n0 v7 v0 v6 v1 h =
 (binOp .sub v1 (.int .i64 1)).bnd fun x2 =>
 (binOp .lss v7 x2).bnd fun x3 =>
 condB x3 (
 bnd2 (CallA T base 78 [v0] h) fun x5 h6 =>
 (extractB x5 0).bnd fun x8 =>
 (extractB x5 1).bnd fun x9 =>
 (sliceV none none (some x9) none v0).bnd fun x16 =>
 (idxAB v6 v7 1).bnd fun x17 =>
 (storeV base 1 x17 x16 h6).bnd fun h18 =>
 (sliceV none (some x9) none none v0).bnd fun x21 =>
 (binOp .add v7 (.int .i64 1)).bnd fun x24 =>
 P67_1 base n0 x24 x21 v6 v1 h18) (
 (binOp .gtr v1 (.int .i64 0)).bnd fun x27 =>
 condB x27 (
 (binOp .sub v1 (.int .i64 1)).bnd fun x30 =>
 (idxAB v6 x30 1).bnd fun x32 =>
 (storeV base 1 x32 v0 h).bnd fun h33 =>
 finV false false n0 [v6] h33) (
 finV false false n0 [v6] h)) := (Pt_eq T F67 [1, 1, 1, 1, 1, 0, 1, 0, 1] base n0 [(7, v7), (0, v0), (6, v6), (1, v1)] h).trans (by kernel_rfl)
theorem S67 (base : Nat) (a0 a1 : PV) (h : Hp) : CallA T base 67 [a0, a1] h =
 bnd2 (CallA T (size h) 77 [a0] h) fun x2 h3 =>
 (binOp .lss a1 (.int .i64 0)).bnd fun x6 =>
 (wantB x6 false).bnd fun b9 => (whenB b9 (some a1) (some .undef)).bnd fun x8 =>
 (wantB x6 false).bnd fun b13 => (whenB b13 (some x2) (some .undef)).bnd fun x12 =>
 (wantB x6 false).bnd fun b17 => (whenB b17 ((binOp .gtr x8 x12).bnd some) (some .undef)).bnd fun x16 =>
 (condB x6 (some (.bool true)) (some x16)).bnd fun x20 =>
 condB x20 (
 P67_0 (size h) (size h) a0 x2 h3) (
 P67_0 (size h) (size h) a0 a1 h3) := (Pt_enter T_67 base _ h).trans (by kernel_rfl)
end Go.Am.YtdnbedldmkagmaaDoor
