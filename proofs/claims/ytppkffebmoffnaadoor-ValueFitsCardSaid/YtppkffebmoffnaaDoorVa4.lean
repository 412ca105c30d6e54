/- must: a deferred closure that recovers; that it is the machine's primitive. | must: its two ways, walked; it is the machine's primitive. | The abstract machine's code is what the loaded program compiles to, function by function: by the kernel. Printed by wip/v2/mksh.py. | What the functions do from point to point, as equations. Printed by wip/v2/shcode.sh, mksh.py. | What plain's small functions compute, on the abstract machine, of values of one kind. | What plain's Right, Write and Read compute: of numbers and links; on the abstract machine. | What the reference's Same and Right compute, on the abstract machine. | Base 64, by triples. No program in sight. | A builder of texts, and what plain's encode computes, on the abstract machine. | Bits of small numbers: what the machine's operations give. | What plain's encode computes, on the abstract machine. | What plain's encode and the reference's letter compute, on the abstract machine. | Base 64, as the reference goes: by bits. | What the reference's Base64, six and Unbase64 compute, on the abstract machine. | What the reference's Write, Number and Read compute, on the abstract machine. | What plain's Runes computes, on the abstract machine. | The reference's sign: its loop, on the abstract machine. | What the reference's sign computes, on the abstract machine. | A sign by the reference is a sign by Go: no program in sight. | The reference's Runes computes what plain's does; PlainRunes, on the abstract machine. | PlainWrites and
   By the session's AI agent. -/
import Derived.Test.YtppkffebmoffnaaDoorVa3
import Derived.WalkKit
import Derived.ProofKit
import Derived.KernelRfl
import Derived.Tactics2
import Derived.Defers
import Derived.Recover
import Derived.Lib.ItoaLen
import Init
import Derived.Lib.TrimUEq
namespace Go.Am.YtppkffebmoffnaaDoor
open Go.Proofs
open Go.RowKit (Below)
set_option linter.unusedVariables false
set_option linter.unusedSimpArgs false
set_option maxRecDepth 100000
/-- MustBytes and what it calls. -/
def Tm : Table := fun f => match f with
  | 27 => some (.code F27)
  | 34 => some (.code F34)
  | _ => none
theorem Tm_27 : Tm 27 = some (.code F27) := rfl
theorem Tm_34 : Tm 34 = some (.code F34) := rfl
theorem mC27 : (cFn Tryd.prog [] { boxes := [(3, 2)], own := true } Tryd.f27).map (optF A27) = some F27 := by kernel_rfl
theorem mC34 : (cFn Tryd.prog [] {} Tryd.f34).map (optF A34) = some F34 := by kernel_rfl
theorem tmOk (I : Nat → World → Prop) : TableOk2 Tryd.prog [] I Tm := by
  intro f it h
  unfold Tm at h
  split at h
  · cases h; exact ⟨A27, _, Tryd.f27, Tryd.func27, mC27⟩
  · cases h; exact ⟨A34, _, Tryd.f34, Tryd.func34, mC34⟩
  · cases h
theorem mS27 (base : Nat) (a0 : PV) (h : Hp) : CallA Tm base 27 [a0] h =
 (isnilV 1 false a0).bnd fun x2 =>
 condB x2 (
 finV false true (size h) [.nils] h) (
 (buildSlV 1 false [(.int .u8 0)] 0 []).bnd fun x4 =>
 bnd2 (appBoxV 1 x4 a0 h) fun x6 h7 =>
 finV false true (size h) [x6] h7) := (Pt_enter Tm_27 base _ h).trans (by kernel_rfl)
theorem mS34 (base : Nat) (a0 : PV) (h : Hp) : CallA Tm base 34 [a0] h =
 (tassertB 62 false .nils a0).bnd fun x2 =>
 bnd2 (CallA Tm (size h) 27 [x2] h) fun x3 h4 =>
 finV false false (size h) [x3] h4 := (Pt_enter Tm_34 base _ h).trans (by kernel_rfl)
/-- A copy of bytes that are not none, in a new box. -/
theorem mApp_clone {h : Hp} {v : PV} {l : List UInt8} (hv : elems h v = some (u8s l)) (hl : l.length ≤ lim2) (hne : l ≠ []) :
    appBoxV 1 (.sl .full 1 []) v h = some (.bsl false (size h) 0 l.length 1, ext h [.cells (u8s l)]) := by
  unfold appBoxV
  have h1 : (u8s l).all (fun x => x.cells.length == 1) = true := by
    rw [List.all_eq_true]; intro x hx; simp only [u8s, List.mem_map] at hx; obtain ⟨c, _, rfl⟩ := hx; rfl
  have h2 : u8s l ≠ [] := Bu.ne hne
  rw [hv, Option.bnd_some]
  simp only [fullEs, Option.bnd_some]
  rw [if_neg h2, if_pos ⟨trivial, h1, rfl, by rw [Bu.len]; simpa using hl, Bu.scalar l, rfl⟩, Bu.len]
  simp
theorem mApp_empty {h : Hp} {v : PV} (hv : elems h v = some []) : appBoxV 1 (.sl .full 1 []) v h = some (.sl .full 1 [], h) := by
  unfold appBoxV
  rw [hv, Option.bnd_some]
  simp only [fullEs, Option.bnd_some]
  rw [if_pos trivial]
theorem mFrz_box {h : Hp} {l : List UInt8} {f : Bool} (n : Nat) (hn : size h = n) : frz n (ext h [.cells (u8s l)]) (.bsl f n 0 l.length 1) = some (.sl (if f then .full else .no) 1 (u8s l)) := by
  subst hn
  unfold frz
  rw [if_neg (by omega), getBox_ext_0, cellsOf_cells, Option.bnd_some]
  have h1 : (u8s l).take l.length = u8s l := by rw [← Bu.len l, List.take_length]
  have h2 : (u8s l).length = l.length := Bu.len l
  simp only [elemsOf, List.drop_zero, h1, h2, if_true, Bu.scalar, Bu.strips, Nat.le_refl, and_self, Option.bnd_some]
theorem must_clone {base : Nat} {h : Hp} {v c : PV} (hc : cloneV v = some c) : CallA Tm base 34 [.iface 62 v] h = some (c, h) := by
  rw [mS34]
  have ht : tassertB 62 false .nils (.iface 62 v) = some v := rfl
  rw [ht, Option.bnd_some, mS27]
  have main : ∀ (o : Own) (es : List PV), (∀ t, o ≠ .tok t) → cloneV (.sl o 1 es) = some c → v = .sl o 1 es →
      bnd2 ((isnilV 1 false v).bnd fun x2 => condB x2 (finV false true (size h) [.nils] h) ((buildSlV 1 false [(.int .u8 0)] 0 []).bnd fun x4 => bnd2 (appBoxV 1 x4 v h) fun x6 h7 => finV false true (size h) [x6] h7))
        (fun x3 h4 => finV false false (size h) [x3] h4) = some (c, h) := by
    intro o es ho hcl hv
    subst hv
    obtain ⟨l, hl, hes, hlim⟩ : ∃ l, c = (if l.isEmpty then .sl .full 1 [] else .sl .no 1 (u8s l)) ∧ es = u8s l ∧ l.length ≤ lim2 := by
      cases o with
      | tok t => exact (ho t rfl).elim
      | _ =>
        simp only [cloneV] at hcl
        cases hb : bytesOf es with
        | none => rw [hb] at hcl; cases hcl
        | some l =>
          rw [hb] at hcl
          simp only at hcl
          split at hcl
          · rename_i hq; cases hcl; exact ⟨l, rfl, hq.1, hq.2⟩
          · cases hcl
    subst hes
    have hi : isnilV 1 false (.sl o 1 (u8s l)) = some (.bool false) := rfl
    have hb : buildSlV 1 false [.int .u8 0] 0 [] = some (.sl .full 1 []) := rfl
    rw [hi, Option.bnd_some, condB_false, hb, Option.bnd_some]
    by_cases hne : l = []
    · subst hne
      rw [mApp_empty (h := h) (v := .sl o 1 (u8s [])) rfl, bnd2_some, hl]
      simp only [↓evD, evU, evL, Nat.reduceAdd, Nat.reduceSub, Nat.reduceMul, Nat.reduceLeDiff, Nat.reduceLT, Nat.reduceEqDiff, Nat.reduceBEq, reduceIte, reduceCtorEq, Int.reduceBEq, Int.reduceEq, Int.reduceLT, Int.reduceLE, Int.reduceGT, Int.reduceGE, Int.reduceAdd, Int.reduceSub, Int.reduceNeg, Int.reduceBNe, ite_true, ite_false, if_true, if_false, implies_true, forall_const, List.isEmpty_nil]
    · rw [mApp_clone (h := h) (v := .sl o 1 (u8s l)) (elems_sl ..) hlim hne, bnd2_some, hl]
      have hem : l.isEmpty = false := by cases l <;> simp_all
      have n1 : (size h < size h) = False := by simp
      have hfb := fun f => mFrz_box (h := h) (l := l) (f := f) (size h) rfl
      simp only [↓evD, evU, evL, Nat.reduceAdd, Nat.reduceSub, Nat.reduceMul, Nat.reduceLeDiff, Nat.reduceLT, Nat.reduceEqDiff, Nat.reduceBEq, reduceIte, reduceCtorEq, Int.reduceBEq, Int.reduceEq, Int.reduceLT, Int.reduceLE, Int.reduceGT, Int.reduceGE, Int.reduceAdd, Int.reduceSub, Int.reduceNeg, Int.reduceBNe, ite_true, ite_false, if_true, if_false, implies_true, forall_const, hem, n1, hfb, Bu.below, finV_own, finV_code, ownEnd_bsl]
  cases v <;> simp only [cloneV] at hc <;> (try cases hc)
  case nils => simp only [↓evD, evU, evL, Nat.reduceAdd, Nat.reduceSub, Nat.reduceMul, Nat.reduceLeDiff, Nat.reduceLT, Nat.reduceEqDiff, Nat.reduceBEq, reduceIte, reduceCtorEq, Int.reduceBEq, Int.reduceEq, Int.reduceLT, Int.reduceLE, Int.reduceGT, Int.reduceGE, Int.reduceAdd, Int.reduceSub, Int.reduceNeg, Int.reduceBNe, ite_true, ite_false, if_true, if_false, implies_true, forall_const]
  case sl o sz es =>
    by_cases h1 : sz = 1
    · subst h1
      cases o with
      | tok t => simp only [cloneV] at hc; cases hc
      | no => exact main .no es (by intro t q; cases q) hc rfl
      | full => exact main .full es (by intro t q; cases q) hc rfl
    · exfalso
      split at hc
      · rename_i hq; cases hq
      · rename_i hq; cases hq; exact h1 rfl
      · cases hc
end Go.Am.YtppkffebmoffnaaDoor
namespace Go.Am.YtppkffebmoffnaaDoor
open Go.Proofs Go
open Go.RowKit (Below)
set_option linter.unusedVariables false
set_option linter.unusedSimpArgs false
set_option maxRecDepth 100000
def NotB (x : Value) : Prop := x = .nilIface ∨ ∃ t u, x = .iface t u ∧ t ≠ 62
theorem rt15 : Tryd.prog.rt.typeAssertionError = 15 := by kernel_rfl
theorem un15 : Tryd.prog.underlying 15 = some (.pointer 126) := by kernel_rfl
theorem rp_ta {α : Type} (i c a : Option TypeId) (b : TypeId) (m : String) (w : World) : ∃ u pv w1, (runtimePanic (α := α) (.typeAssertion i c b m)).run Tryd.prog w = .halt (.panic (.iface u pv)) w1 ∧ Below w.heap.size w w1 := by
  have hu := run_underlying (P := Tryd.prog) un15 w
  have hp : (program).run Tryd.prog w = .ok Tryd.prog w := rfl
  have key : ∀ cells : Array Value, ∃ u pv w1, (newRow 126 cells >>= fun r => (goPanic (.iface 15 (.pointer (some r))) : Sem α)).run Tryd.prog w = .halt (.panic (.iface u pv)) w1 ∧ Below w.heap.size w w1 := by
    intro cells
    exact ⟨15, _, w.alloc (.cells cells 126), rfl, (Below.refl _ _).alloc (Nat.le_refl _) _⟩
  simp only [runtimePanic, Sem.run_bind, hp, Result.andThen, rt15, elemOf, newVar, hu, Sem.run_pure]
  have := key (Value.agg #[match i with | some t => typeHandle Tryd.prog t | none => .pointer none, match c with | some t => typeHandle Tryd.prog t | none => .pointer none, typeHandle Tryd.prog b, strVal m]).cells
  simp only [Sem.run_bind] at this
  exact this
theorem ta_fails {x : Value} (hx : NotB x) (w : World) : ∃ u pv w1, (Instr.typeAssert x 28 62 false).run Tryd.prog w = .halt (.panic (.iface u pv)) w1 ∧ Below w.heap.size w w1 := by
  have hu := run_underlying (P := Tryd.prog) Tryd.underlying62 w
  rcases hx with rfl | ⟨t, u, rfl, ht⟩
  · obtain ⟨u, pv, w1, h1, h2⟩ := rp_ta (α := Value) (some 28) none none 62 "" w
    refine ⟨u, pv, w1, ?_, h2⟩
    simp only [Instr.typeAssert, Sem.run_bind, hu, Result.andThen, Bool.false_eq_true, if_false]
    exact h1
  · obtain ⟨u', pv, w1, h1, h2⟩ := rp_ta (α := Value) (some 28) (some t) none 62 "" w
    refine ⟨u', pv, w1, ?_, h2⟩
    simp only [Instr.typeAssert, Sem.run_bind, hu, Result.andThen, Bool.false_eq_true, if_false, ht]
    exact h1
theorem must_panics {x : Value} (hx : NotB x) (w : World) : Calls Tryd.prog 34 #[x] w fun e w' => ∃ u pv, e = .panicked [{ v := .iface u pv, recovered := false }] ∧ Below w.heap.size w w' := by
  obtain ⟨u, pv, w1, h1, h2⟩ := ta_fails hx w
  go_enter Tryd.func34, Tryd.ntmps34
  go_wp2
  exact ⟨rfl, u, pv, rfl, h2⟩
theorem catch_panicking (p q : Addr) (x y : Value) (u : TypeId) (pv : Value) (w : World) (hp : w.cell? p = some x) (hpz : w.frozen? p = false) (hq : (w.setCell p (.slice none 0 0)).cell? q = some y) (hqz : (w.setCell p (.slice none 0 0)).frozen? q = false) :
    CallsD Tryd.prog 33 #[.pointer (some p), .pointer (some q)] (.panicking [{ v := .iface u pv, recovered := false }]) w fun e u' w' =>
      e = .returned (.tuple #[]) ∧ u' = .panicking [{ v := .iface u pv, recovered := true }] ∧ w' = (w.setCell p (.slice none 0 0)).setCell q (.bool true) := by
  refine callsD_of_wpS Tryd.func33 rfl fun c₀ cs hu => ?_
  apply wpS_seq
  apply wpS_region
  simp [wpOpsS, go_sem, recoverD, hu, Tryd.ntmps33, Exit.thenS]
  refine wpS_cond (t := true) (by simp [Act.eval, Array.replicate]) ?_
  simp only [if_true]
  apply wpS_region
  simp [wpOpsS, go_sem, hp, hpz, hq, hqz, bodyPostS, results, Tryd.results33]
theorem catch_idle (p q : Addr) (w : World) : CallsD Tryd.prog 33 #[.pointer (some p), .pointer (some q)] .returning w fun e u' w' => e = .returned (.tuple #[]) ∧ u' = .returning ∧ w' = w := by
  refine callsD_of_wpS Tryd.func33 rfl fun c₀ cs hu => ?_
  apply wpS_seq
  apply wpS_region
  simp [wpOpsS, go_sem, recoverD, hu, Tryd.ntmps33, Exit.thenS]
  refine wpS_cond (t := false) (by simp [Act.eval, Array.replicate]) ?_
  simp only [Bool.false_eq_true, if_false]
  refine wpS_of_wp (wp_skip ?_)
  cases c₀
  simp_all [bodyPostS, results, Tryd.results33]
/-- Two blocks of one cell each, behind a world. -/
structure Two (w w' : World) (x y : Value) : Prop where
  b0 : w'.heap[w.heap.size]? = some (.cells #[x] 22)
  b1 : w'.heap[w.heap.size + 1]? = some (.cells #[y] 4)
  low : Below w.heap.size w w'
section
variable {w w' : World} {x y : Value} (k : Two w w' x y)
include k
theorem Two.c0 : w'.cell? ⟨w.heap.size, 0, none⟩ = some x := by simp [World.cell?, k.b0]
theorem Two.c1 : w'.cell? ⟨w.heap.size + 1, 0, none⟩ = some y := by simp [World.cell?, k.b1]
theorem Two.f0 : w'.frozen? ⟨w.heap.size, 0, none⟩ = false := by simp [World.frozen?, k.b0]
theorem Two.f1 : w'.frozen? ⟨w.heap.size + 1, 0, none⟩ = false := by simp [World.frozen?, k.b1]
theorem Two.set0 (v : Value) : Two w (w'.setCell ⟨w.heap.size, 0, none⟩ v) v y := by
  refine ⟨?_, ?_, k.low.setCell (Nat.le_refl _) v⟩
  · simp [World.setCell, Array.getElem?_modify, k.b0]
  · rw [Below.heap_setCell _ _ _ _ (by simp)]; exact k.b1
theorem Two.set1 (v : Value) : Two w (w'.setCell ⟨w.heap.size + 1, 0, none⟩ v) x v := by
  refine ⟨?_, ?_, k.low.setCell (Nat.le_succ _) v⟩
  · rw [Below.heap_setCell _ _ _ _ (by simp)]; exact k.b0
  · simp [World.setCell, Array.getElem?_modify, k.b1]
theorem Two.later {w2 : World} (hb : Below w'.heap.size w' w2) : Two w w2 x y := by
  have l0 := (Array.getElem?_eq_some_iff.1 k.b0).1
  have l1 := (Array.getElem?_eq_some_iff.1 k.b1).1
  exact ⟨by rw [hb.block _ l0]; exact k.b0, by rw [hb.block _ l1]; exact k.b1, k.low.trans (hb.mono (by omega))⟩
end
theorem two_new (w : World) : Two w ((w.alloc (.cells #[.slice none 0 0] 22)).alloc (.cells #[.bool false] 4)) (.slice none 0 0) (.bool false) := by
  refine ⟨?_, ?_, ((Below.refl _ _).alloc (Nat.le_refl _) _).alloc (by simp) _⟩
  · rw [Below.heap_alloc _ _ _ (by simp)]
    show (w.heap.push _)[w.heap.size]? = _; simp
  · have : (w.alloc (.cells #[.slice none 0 0] 22)).heap.size = w.heap.size + 1 := by simp
    rw [← this]
    show ((w.alloc (.cells #[.slice none 0 0] 22)).heap.push _)[(w.alloc (.cells #[.slice none 0 0] 22)).heap.size]? = _
    rw [Array.getElem?_push_size]
theorem must_bad {x : Value} (hx : NotB x) (w : World) : Calls Tryd.prog 14 #[x] w fun e w' => e = .returned (.tuple #[.slice none 0 0, .bool true]) ∧ Below w.heap.size w w' := by
  have hmf : ∀ (fn : Fn) (first cap : Array Value) (w : World), (Instr.makeFunc fn first cap).run Tryd.prog w = .ok (.func fn first cap) w := fun _ _ _ _ => rfl
  go_enter_defers Tryd.func14, Tryd.ntmps14
  go_wp2_with (go_at_call 34; refine (must_panics hx _).mono ?_; rintro e w' ⟨u, pv, rfl, hb⟩)
  have k := (two_new w).later hb
  have k2 := k.set0 (.slice none 0 0)
  have k3 := k2.set1 (.bool true)
  refine leaves_cons (f := 33) (args := #[.pointer (some ⟨w.heap.size, 0, none⟩), .pointer (some ⟨w.heap.size + 1, 0, none⟩)]) (by simp) (by simp [go_sem]) ?_
  refine (catch_panicking ⟨w.heap.size, 0, none⟩ ⟨w.heap.size + 1, 0, none⟩ _ _ u pv w' k.c0 k.f0 k2.c1 k2.f1).mono ?_
  rintro e u' w'' ⟨rfl, rfl, rfl⟩
  have g0 := k3.c0
  have g1 := k3.c1
  have g2 := k3.low
  simp [Leaves, settle, results, Tryd.results14, go_sem, g0, g1, g2]
theorem cloneV_below {v c : PV} (hc : cloneV v = some c) (n : Nat) : below n c = true := by
  unfold cloneV at hc
  split at hc
  · cases hc; rfl
  · split at hc
    · cases hc
    · split at hc
      · cases hc
      · rename_i l _
        split at hc
        · cases hc
          cases l with
          | nil => rfl
          | cons x l => show (true && belows n (u8s (x :: l))) = true; rw [Bu.below]; rfl
        · cases hc
  · cases hc
theorem cloneV_slice {v c : PV} (hc : cloneV v = some c) {N0 : Nat} {g : G} {w : World} {u : Value} (h : RV N0 g w c u) : ∃ b n cp, u = .slice b n cp := by
  have : c = .nils ∨ ∃ o es, c = .sl o 1 es := by
    unfold cloneV at hc
    split at hc
    · cases hc; exact .inl rfl
    · split at hc
      · cases hc
      · split at hc
        · cases hc
        · split at hc
          · cases hc
            split
            · exact .inr ⟨_, _, rfl⟩
            · exact .inr ⟨_, _, rfl⟩
          · cases hc
    · cases hc
  rcases this with rfl | ⟨o, es, rfl⟩
  · cases h; exact ⟨_, _, _, rfl⟩
  · cases h; exact ⟨_, _, _, rfl⟩
theorem rv_one {N0 : Nat} {g : G} {w : World} {x : PV} {u : Value} (h : RV N0 g w x u) : ∀ (j : Nat) (y : PV), [x][j]? = some y → RV N0 g w y ((#[u] : Array Value).getD j Go.undef) := fun j y hy => match j, hy with
  | 0, hy => by cases hy; exact h
  | j + 1, hy => by simp at hy
theorem must_good {N0 : Nat} {w0 : World} {g : G} {h : Hp} {w : World} (k : OkH N0 w0 g h w) {v c : PV} {u : Value} (hc : cloneV v = some c) (hr : RV N0 g w v u) :
    Calls Tryd.prog 14 #[.iface 62 u] w fun e w' => ∃ cu g', e = .returned (.tuple #[cu, .bool false]) ∧ Ext N0 g w g' w' ∧ OkH N0 w0 g' h w' ∧ RV N0 g' w' c cu := by
  have hmf : ∀ (fn : Fn) (first cap : Array Value) (w : World), (Instr.makeFunc fn first cap).run Tryd.prog w = .ok (.func fn first cap) w := fun _ _ _ _ => rfl
  have hgl : GlobOk [] N0 w0 := fun n cs h => by simp [glob] at h
  obtain ⟨g1, x1, k1, n1, i1⟩ := ok_alloc (a := ⟨#[], []⟩) k #[.slice none 0 0] 22 [.nils] (by simp) (rv_one .nils) (fun T' hT => by cases hT) (w1 := w.alloc (.cells #[.slice none 0 0] 22)) (lo := 0) (hi := 0) (by simp) (.inl rfl)
  obtain ⟨g2, x2, k2, n2, i2⟩ := ok_alloc (a := ⟨#[], []⟩) k1 #[.bool false] 4 [.bool false] (by simp) (rv_one (.bool false)) (fun T' hT => by cases hT) (w1 := (w.alloc (.cells #[.slice none 0 0] 22)).alloc (.cells #[.bool false] 4)) (lo := 0) (hi := 0) (by simp) (.inl rfl)
  have hcall := sound_in (tmOk (fun _ _ => True)) hgl trivial (must_clone (base := 0) (h := ext (ext h [.cells [.nils]]) [.cells [.bool false]]) hc) (Nat.zero_le _) g2 #[.iface 62 u] _ k2 rfl (rv_one (.iface 62 v u (hr.mono (x1.trans x2))))
  have hz : size (ext h [.cells [.nils]]) = size h + 1 := by rw [size_ext]; rfl
  have hi2 : g2.ι (size h + 1) = w.heap.size + 1 := by rw [hz] at i2; simpa using i2
  have hi1 : g2.ι (size h) = w.heap.size := (x2.ι (size h) (by rw [n1]; omega)).trans i1
  have key : ∀ (w3 : World) (cu : Value) (g3 : G), Ext N0 g2 ((w.alloc (.cells #[.slice none 0 0] 22)).alloc (.cells #[.bool false] 4)) g3 w3 → OkH N0 w0 g3 (ext (ext h [.cells [.nils]]) [.cells [.bool false]]) w3 → RV N0 g3 w3 c cu →
      (∃ y, w3.cell? ⟨w.heap.size, 0, none⟩ = some y) ∧ w3.frozen? ⟨w.heap.size, 0, none⟩ = false ∧ (∃ y, (w3.setCell ⟨w.heap.size, 0, none⟩ cu).cell? ⟨w.heap.size + 1, 0, none⟩ = some y) ∧ (w3.setCell ⟨w.heap.size, 0, none⟩ cu).frozen? ⟨w.heap.size + 1, 0, none⟩ = false ∧
      ((w3.setCell ⟨w.heap.size, 0, none⟩ cu).setCell ⟨w.heap.size + 1, 0, none⟩ (.bool false)).cell? ⟨w.heap.size, 0, none⟩ = some cu ∧ ((w3.setCell ⟨w.heap.size, 0, none⟩ cu).setCell ⟨w.heap.size + 1, 0, none⟩ (.bool false)).cell? ⟨w.heap.size + 1, 0, none⟩ = some (.bool false) ∧
      ∃ g', Ext N0 g w g' ((w3.setCell ⟨w.heap.size, 0, none⟩ cu).setCell ⟨w.heap.size + 1, 0, none⟩ (.bool false)) ∧ OkH N0 w0 g' h ((w3.setCell ⟨w.heap.size, 0, none⟩ cu).setCell ⟨w.heap.size + 1, 0, none⟩ (.bool false)) ∧ RV N0 g' ((w3.setCell ⟨w.heap.size, 0, none⟩ cu).setCell ⟨w.heap.size + 1, 0, none⟩ (.bool false)) c cu := by
    intro w3 cu g3 x3 k3 hr3
    have e0 : g3.ι (size h) = w.heap.size := (x3.ι (size h) (by rw [n2, hz]; omega)).trans hi1
    have e1 : g3.ι (size h + 1) = w.heap.size + 1 := (x3.ι (size h + 1) (by rw [n2, hz]; omega)).trans hi2
    have b0 : getBox (ext (ext h [.cells [.nils]]) [.cells [.bool false]]) (size h) = some [.nils] := by
      rw [getBox_ext_lt (by rw [hz]; omega), getBox_ext_0]; rfl
    obtain ⟨y0, c0, f0, x4, k4⟩ := ok_write (a := ⟨#[], []⟩) k3 b0 (off := 0) (by simp) hr3 (by
      intro T' hT; subst hT
      unfold cloneV at hc
      split at hc
      · cases hc
      · split at hc
        · cases hc
        · split at hc
          · cases hc
          · split at hc
            · split at hc <;> cases hc
            · cases hc
      · cases hc)
    rw [e0] at c0 f0 x4 k4
    have b1 : getBox (setBox (ext (ext h [.cells [.nils]]) [.cells [.bool false]]) (size h) ([PV.nils].set 0 c)) (size h + 1) = some [.bool false] := by
      rw [setBox_eq, getBox_set_ne (by omega), show size h + 1 = size (ext h [.cells [.nils]]) + 0 by rw [hz], getBox_ext_n]; rfl
    obtain ⟨y1, c1, f1, x5, k5⟩ := ok_write (a := ⟨#[], []⟩) k4 b1 (off := 0) (by simp) (.bool (g := g3) (w := w3.setCell ⟨w.heap.size, 0, none⟩ cu) (N0 := N0) false) (by intro T' hT; cases hT)
    rw [e1] at c1 f1 x5 k5
    have hs0 : (w3.setCell ⟨w.heap.size, 0, none⟩ cu).cell? ⟨w.heap.size, 0, none⟩ = some cu := World.cell?_setCell_same _ _ _ c0
    have hs1 : ((w3.setCell ⟨w.heap.size, 0, none⟩ cu).setCell ⟨w.heap.size + 1, 0, none⟩ (.bool false)).cell? ⟨w.heap.size + 1, 0, none⟩ = some (.bool false) := World.cell?_setCell_same _ _ _ c1
    refine ⟨⟨_, c0⟩, f0, ⟨_, c1⟩, f1, ?_, hs1, ?_⟩
    · simp only [World.cell?] at hs0 ⊢
      rw [Below.heap_setCell _ _ _ _ (by simp)]; exact hs0
    have hx : Ext N0 g w g3 ((w3.setCell ⟨w.heap.size, 0, none⟩ cu).setCell ⟨w.heap.size + 1, 0, none⟩ (.bool false)) := (((x1.trans x2).trans x3).trans x4).trans x5
    have hsz : size h ≤ size (setBox (setBox (ext (ext h [.cells [.nils]]) [.cells [.bool false]]) (size h) ([PV.nils].set 0 c)) (size h + 1) ([PV.bool false].set 0 (.bool false))) := by
      rw [size_setBox, size_setBox, size_ext, hz]; omega
    have htr : trunc (setBox (setBox (ext (ext h [.cells [.nils]]) [.cells [.bool false]]) (size h) ([PV.nils].set 0 c)) (size h + 1) ([PV.bool false].set 0 (.bool false))) (size h) = h := by
      simp only [trunc, setBox, setBx, ext, size]
      rw [List.take_set_of_le (by omega), List.take_set_of_le (by omega)]
      simp
    have hclo : Clo (size h) (setBox (setBox (ext (ext h [.cells [.nils]]) [.cells [.bool false]]) (size h) ([PV.nils].set 0 c)) (size h + 1) ([PV.bool false].set 0 (.bool false))) := by
      intro b cs hlt hcs
      refine clo_of k b cs hlt ?_
      rw [← htr]
      unfold getBox
      rw [box_trunc hlt]
      exact hcs
    have hend := ok_trunc k5.heap hsz hclo
    rw [htr] at hend
    refine ⟨_, ext_fewer (hx.trans (ext_hwEnd k5.heap (size h) none)) (by rw [k.n]; exact Nat.le_refl _), hend, ?_⟩
    exact rv_fewer ((hr3.mono (x4.trans x5)).mono (ext_hwEnd k5.heap (size h) none)) (cloneV_below hc _)
  go_enter_defers Tryd.func14, Tryd.ntmps14
  go_wp2_with (go_at_call 34; refine hcall.2.mono ?_; rintro e w3 ⟨cu, g3, rfl, x3, k3, hr3⟩; obtain ⟨bb, nn, cp, rfl⟩ := cloneV_slice hc hr3; obtain ⟨⟨y0, c0⟩, f0, ⟨y1, c1⟩, f1, q0, q1, g', x', k', r'⟩ := key w3 _ g3 x3 k3 hr3)
  refine leaves_cons (f := 33) (args := #[.pointer (some ⟨w.heap.size, 0, none⟩), .pointer (some ⟨w.heap.size + 1, 0, none⟩)]) (by simp) (by simp [go_sem]) ?_
  refine (catch_idle ⟨w.heap.size, 0, none⟩ ⟨w.heap.size + 1, 0, none⟩ _).mono ?_
  rintro e u' w'' ⟨rfl, rfl, rfl⟩
  generalize (w3.setCell ⟨w.heap.size, 0, none⟩ (Value.slice bb nn cp)).setCell ⟨w.heap.size + 1, 0, none⟩ (.bool false) = W at *
  simp only [Leaves, settle]
  exact ⟨.tuple #[.slice bb nn cp, .bool false], by simp [results, Tryd.results14, go_sem, q0, q1], _, g', rfl, x', k', r'⟩
end Go.Am.YtppkffebmoffnaaDoor
namespace Go.Proofs.YtppkffebmoffnaaDoor
open Go.Am Go.Am.YtppkffebmoffnaaDoor
theorem p_must : PrimOk Tryd.prog Facts 14 (pMust 62) := by
  intro vs h r hr N0 w0 g us w hI k hlen hrel
  have hent : ∀ us w, (callFunc 14 us).run Tryd.prog w = .ok (.enter 14 us) w := Am.enters_of Tryd.func14 (by kernel_rfl) rfl
  refine ⟨hent us w, ?_⟩
  have bad : ∀ x : Value, NotB x → us = #[x] → r = (.tup [.nils, .bool true], none) → Calls Tryd.prog 14 us w fun en w' => ∃ u g', en = .returned u ∧ Ext N0 g w g' w' ∧ OkH N0 w0 g' (primHeap h r.2) w' ∧ RV N0 g' w' r.1 u := by
    rintro x hx rfl rfl
    refine (must_bad hx w).mono fun e w' ⟨h1, h2⟩ => ?_
    obtain ⟨x1, k1⟩ := ok_below k h2
    exact ⟨_, g, h1, x1, k1, rv_tup2 .nils (.bool true)⟩
  unfold pMust at hr
  split at hr
  · cases hr
    obtain ⟨u, rfl, h1⟩ := args_one hlen hrel
    cases h1
    exact bad _ (.inl rfl) rfl rfl
  · rename_i t v
    obtain ⟨u, rfl, h1⟩ := args_one hlen hrel
    cases h1
    rename_i u h1
    split at hr
    · rename_i ht
      subst ht
      rw [Option.bnd_eq_some_iff] at hr
      obtain ⟨c, hc, hr⟩ := hr
      cases hr
      refine (must_good k hc h1).mono fun e w' ⟨cu, g', q1, q2, q3, q4⟩ => ?_
      exact ⟨_, g', q1, q2, q3, rv_tup2 q4 (.bool false)⟩
    · rename_i ht
      cases hr
      exact bad _ (.inr ⟨t, u, rfl, ht⟩) rfl rfl
  · cases hr
end Go.Proofs.YtppkffebmoffnaaDoor
namespace Go.Am.YtppkffebmoffnaaDoor
open Go.Proofs
set_option maxRecDepth 100000
def gl : Globs := []
theorem C_3 : (cFn Tryd.prog gl {} Tryd.f3).map (optF A3) = some F3 := by kernel_rfl
theorem C_4 : (cFn Tryd.prog gl {} Tryd.f4).map (optF A4) = some F4 := by kernel_rfl
theorem C_5 : (cFn Tryd.prog gl {} Tryd.f5).map (optF A5) = some F5 := by kernel_rfl
theorem C_7 : (cFn Tryd.prog gl {} Tryd.f7).map (optF A7) = some F7 := by kernel_rfl
theorem C_8 : (cFn Tryd.prog gl {} Tryd.f8).map (optF A8) = some F8 := by kernel_rfl
theorem C_9 : (cFn Tryd.prog gl {} Tryd.f9).map (optF A9) = some F9 := by kernel_rfl
theorem C_10 : (cFn Tryd.prog gl {} Tryd.f10).map (optF A10) = some F10 := by kernel_rfl
theorem C_11 : (cFn Tryd.prog gl {} Tryd.f11).map (optF A11) = some F11 := by kernel_rfl
theorem C_12 : (cFn Tryd.prog gl {} Tryd.f12).map (optF A12) = some F12 := by kernel_rfl
theorem C_13 : (cFn Tryd.prog gl {} Tryd.f13).map (optF A13) = some F13 := by kernel_rfl
theorem C_15 : (cFn Tryd.prog gl {} Tryd.f15).map (optF A15) = some F15 := by kernel_rfl
theorem C_16 : (cFn Tryd.prog gl {} Tryd.f16).map (optF A16) = some F16 := by kernel_rfl
theorem C_17 : (cFn Tryd.prog gl {} Tryd.f17).map (optF A17) = some F17 := by kernel_rfl
theorem C_18 : (cFn Tryd.prog gl { boxes := [(10, 1), (16, 6)], own := true } Tryd.f18).map (optF A18) = some F18 := by kernel_rfl
theorem C_19 : (cFn Tryd.prog gl {} Tryd.f19).map (optF A19) = some F19 := by kernel_rfl
theorem C_20 : (cFn Tryd.prog gl {} Tryd.f20).map (optF A20) = some F20 := by kernel_rfl
theorem C_21 : (cFn Tryd.prog gl {} Tryd.f21).map (optF A21) = some F21 := by kernel_rfl
theorem C_22 : (cFn Tryd.prog gl {} Tryd.f22).map (optF A22) = some F22 := by kernel_rfl
theorem C_23 : (cFn Tryd.prog gl {} Tryd.f23).map (optF A23) = some F23 := by kernel_rfl
theorem C_24 : (cFn Tryd.prog gl {} Tryd.f24).map (optF A24) = some F24 := by kernel_rfl
theorem C_25 : (cFn Tryd.prog gl {} Tryd.f25).map (optF A25) = some F25 := by kernel_rfl
theorem C_26 : (cFn Tryd.prog gl {} Tryd.f26).map (optF A26) = some F26 := by kernel_rfl
theorem C_27 : (cFn Tryd.prog gl { boxes := [(3, 2)], own := true } Tryd.f27).map (optF A27) = some F27 := by kernel_rfl
theorem C_28 : (cFn Tryd.prog gl {} Tryd.f28).map (optF A28) = some F28 := by kernel_rfl
theorem C_29 : (cFn Tryd.prog gl {} Tryd.f29).map (optF A29) = some F29 := by kernel_rfl
theorem C_32 : (cFn Tryd.prog gl {} Tryd.f32).map (optF A32) = some F32 := by kernel_rfl
theorem C_34 : (cFn Tryd.prog gl {} Tryd.f34).map (optF A34) = some F34 := by kernel_rfl
theorem C_35 : (cFn Tryd.prog gl { own := true } Tryd.f35).map (optF A35) = some F35 := by kernel_rfl
theorem C_36 : (cFn Tryd.prog gl {} Tryd.f36).map (optF A36) = some F36 := by kernel_rfl
theorem C_37 : (cFn Tryd.prog gl {} Tryd.f37).map (optF A37) = some F37 := by kernel_rfl
theorem C_38 : (cFn Tryd.prog gl { apart := [(23, 6)] } Tryd.f38).map (optF A38) = some F38 := by kernel_rfl
theorem C_39 : (cFn Tryd.prog gl {} Tryd.f39).map (optF A39) = some F39 := by kernel_rfl
theorem C_40 : (cFn Tryd.prog gl {} Tryd.f40).map (optF A40) = some F40 := by kernel_rfl
theorem C_41 : (cFn Tryd.prog gl {} Tryd.f41).map (optF A41) = some F41 := by kernel_rfl
theorem C_42 : (cFn Tryd.prog gl {} Tryd.f42).map (optF A42) = some F42 := by kernel_rfl
theorem C_43 : (cFn Tryd.prog gl {} Tryd.f43).map (optF A43) = some F43 := by kernel_rfl
theorem C_44 : (cFn Tryd.prog gl {} Tryd.f44).map (optF A44) = some F44 := by kernel_rfl
theorem C_45 : (cFn Tryd.prog gl {} Tryd.f45).map (optF A45) = some F45 := by kernel_rfl
theorem C_48 : (cFn Tryd.prog gl {} Tryd.f48).map (optF A48) = some F48 := by kernel_rfl
theorem C_49 : (cFn Tryd.prog gl {} Tryd.f49).map (optF A49) = some F49 := by kernel_rfl
theorem C_50 : (cFn Tryd.prog gl {} Tryd.f50).map (optF A50) = some F50 := by kernel_rfl
theorem C_51 : (cFn Tryd.prog gl {} Tryd.f51).map (optF A51) = some F51 := by kernel_rfl
theorem C_52 : (cFn Tryd.prog gl {} Tryd.f52).map (optF A52) = some F52 := by kernel_rfl
theorem C_53 : (cFn Tryd.prog gl { keep := true } Tryd.f53).map (optF A53) = some F53 := by kernel_rfl
theorem C_59 : (cFn Tryd.prog gl {} Tryd.f59).map (optF A59) = some F59 := by kernel_rfl
theorem C_61 : (cFn Tryd.prog gl { apart := [(12, 3)] } Tryd.f61).map (optF A61) = some F61 := by kernel_rfl
theorem C_68 : (cFn Tryd.prog gl {} Tryd.f68).map (optF A68) = some F68 := by kernel_rfl
theorem tableOk : TableOk2 Tryd.prog gl Go.Proofs.YtppkffebmoffnaaDoor.Facts T := by
  intro f it h
  unfold T at h
  split at h
  · cases h; exact ⟨A3, {}, Tryd.f3, Tryd.func3, C_3⟩
  · cases h; exact ⟨A4, {}, Tryd.f4, Tryd.func4, C_4⟩
  · cases h; exact ⟨A5, {}, Tryd.f5, Tryd.func5, C_5⟩
  · cases h; exact ⟨A7, {}, Tryd.f7, Tryd.func7, C_7⟩
  · cases h; exact ⟨A8, {}, Tryd.f8, Tryd.func8, C_8⟩
  · cases h; exact ⟨A9, {}, Tryd.f9, Tryd.func9, C_9⟩
  · cases h; exact ⟨A10, {}, Tryd.f10, Tryd.func10, C_10⟩
  · cases h; exact ⟨A11, {}, Tryd.f11, Tryd.func11, C_11⟩
  · cases h; exact ⟨A12, {}, Tryd.f12, Tryd.func12, C_12⟩
  · cases h; exact ⟨A13, {}, Tryd.f13, Tryd.func13, C_13⟩
  · cases h; exact Go.Proofs.YtppkffebmoffnaaDoor.p_must
  · cases h; exact ⟨A15, {}, Tryd.f15, Tryd.func15, C_15⟩
  · cases h; exact ⟨A16, {}, Tryd.f16, Tryd.func16, C_16⟩
  · cases h; exact ⟨A17, {}, Tryd.f17, Tryd.func17, C_17⟩
  · cases h; exact ⟨A18, { boxes := [(10, 1), (16, 6)], own := true }, Tryd.f18, Tryd.func18, C_18⟩
  · cases h; exact ⟨A19, {}, Tryd.f19, Tryd.func19, C_19⟩
  · cases h; exact ⟨A20, {}, Tryd.f20, Tryd.func20, C_20⟩
  · cases h; exact ⟨A21, {}, Tryd.f21, Tryd.func21, C_21⟩
  · cases h; exact ⟨A22, {}, Tryd.f22, Tryd.func22, C_22⟩
  · cases h; exact ⟨A23, {}, Tryd.f23, Tryd.func23, C_23⟩
  · cases h; exact ⟨A24, {}, Tryd.f24, Tryd.func24, C_24⟩
  · cases h; exact ⟨A25, {}, Tryd.f25, Tryd.func25, C_25⟩
  · cases h; exact ⟨A26, {}, Tryd.f26, Tryd.func26, C_26⟩
  · cases h; exact ⟨A27, { boxes := [(3, 2)], own := true }, Tryd.f27, Tryd.func27, C_27⟩
  · cases h; exact ⟨A28, {}, Tryd.f28, Tryd.func28, C_28⟩
  · cases h; exact ⟨A29, {}, Tryd.f29, Tryd.func29, C_29⟩
  · cases h; exact Go.Proofs.YtppkffebmoffnaaDoor.p_itoa
  · cases h; exact Go.Proofs.YtppkffebmoffnaaDoor.p_format
  · cases h; exact ⟨A32, {}, Tryd.f32, Tryd.func32, C_32⟩
  · cases h; exact ⟨A34, {}, Tryd.f34, Tryd.func34, C_34⟩
  · cases h; exact ⟨A35, { own := true }, Tryd.f35, Tryd.func35, C_35⟩
  · cases h; exact ⟨A36, {}, Tryd.f36, Tryd.func36, C_36⟩
  · cases h; exact ⟨A37, {}, Tryd.f37, Tryd.func37, C_37⟩
  · cases h; exact ⟨A38, { apart := [(23, 6)] }, Tryd.f38, Tryd.func38, C_38⟩
  · cases h; exact ⟨A39, {}, Tryd.f39, Tryd.func39, C_39⟩
  · cases h; exact ⟨A40, {}, Tryd.f40, Tryd.func40, C_40⟩
  · cases h; exact ⟨A41, {}, Tryd.f41, Tryd.func41, C_41⟩
  · cases h; exact ⟨A42, {}, Tryd.f42, Tryd.func42, C_42⟩
  · cases h; exact ⟨A43, {}, Tryd.f43, Tryd.func43, C_43⟩
  · cases h; exact ⟨A44, {}, Tryd.f44, Tryd.func44, C_44⟩
  · cases h; exact ⟨A45, {}, Tryd.f45, Tryd.func45, C_45⟩
  · cases h; exact ⟨A48, {}, Tryd.f48, Tryd.func48, C_48⟩
  · cases h; exact ⟨A49, {}, Tryd.f49, Tryd.func49, C_49⟩
  · cases h; exact ⟨A50, {}, Tryd.f50, Tryd.func50, C_50⟩
  · cases h; exact ⟨A51, {}, Tryd.f51, Tryd.func51, C_51⟩
  · cases h; exact ⟨A52, {}, Tryd.f52, Tryd.func52, C_52⟩
  · cases h; exact ⟨A53, { keep := true }, Tryd.f53, Tryd.func53, C_53⟩
  · cases h; exact Go.Proofs.YtppkffebmoffnaaDoor.prim_string
  · cases h; exact ⟨A59, {}, Tryd.f59, Tryd.func59, C_59⟩
  · cases h; exact Go.Proofs.YtppkffebmoffnaaDoor.p_decode
  · cases h; exact ⟨A61, { apart := [(12, 3)] }, Tryd.f61, Tryd.func61, C_61⟩
  · cases h; exact Go.Proofs.YtppkffebmoffnaaDoor.prim_copyCheck
  · cases h; exact ⟨A68, {}, Tryd.f68, Tryd.func68, C_68⟩
  · cases h
end Go.Am.YtppkffebmoffnaaDoor
namespace Go.Am.YtppkffebmoffnaaDoor
set_option maxRecDepth 100000
set_option linter.unusedVariables false
theorem S3 (base : Nat) (a0 : PV) (h : Hp) : CallA T base 3 [a0] h =
 bnd2 (boxV 6 a0 h) fun x0 h1 =>
 bnd2 (CallA T (size h) 8 [] h1) fun x3 h4 =>
 (unOp .not x3).bnd fun x5 =>
 condB x5 (
 finV false false (size h) [(.bool false)] h4) (
 (loadV 6 true x0 h4).bnd fun x7 =>
 bnd2 (CallA T (size h) 9 [x7] h4) fun x8 h9 =>
 (unOp .not x8).bnd fun x10 =>
 condB x10 (
 finV false false (size h) [(.bool true)] h9) (
 (loadV 6 true x0 h9).bnd fun x12 =>
 bnd2 (CallA T (size h) 10 [x12] h9) fun x13 h14 =>
 (extractB x13 0).bnd fun x16 =>
 (extractB x13 1).bnd fun x17 =>
 (loadV 6 true x0 h14).bnd fun x20 =>
 bnd2 (CallA T (size h) 11 [x20] h14) fun x21 h22 =>
 (extractB x21 0).bnd fun x24 =>
 (extractB x21 1).bnd fun x25 =>
 (binOp .neq x17 x25).bnd fun x30 =>
 condB x30 (
 finV false false (size h) [(.bool false)] h22) (
 (binOp .neq x17 (.int .i64 0)).bnd fun x33 =>
 condB x33 (
 (isnilV 2 false x16).bnd fun x35 =>
 finV false false (size h) [x35] h22) (
 (isnilV 2 false x16).bnd fun x38 =>
 condB x38 (
 finV false false (size h) [(.bool false)] h22) (
 bnd2 (CallA T (size h) 12 [x16] h22) fun x41 h42 =>
 (extractB x41 0).bnd fun x44 =>
 (extractB x41 1).bnd fun x45 =>
 bnd2 (CallA T (size h) 13 [x16] h42) fun x49 h50 =>
 (extractB x49 0).bnd fun x52 =>
 (extractB x49 1).bnd fun x53 =>
 bnd2 (CallA T (size h) 14 [x16] h50) fun x57 h58 =>
 (extractB x57 0).bnd fun x60 =>
 (extractB x57 1).bnd fun x61 =>
 (fieldAB x0 0).bnd fun x64 =>
 (loadV 1 false x64 h58).bnd fun x65 =>
 (binOp .eql x65 (.int .i64 1)).bnd fun x66 =>
 (wantB x66 false).bnd fun b69 => (whenB b69 ((fieldAB x0 0).bnd some) (some .undef)).bnd fun x68 =>
 (wantB x66 false).bnd fun b73 => (whenB b73 ((loadV 1 false x68 h58).bnd some) (some .undef)).bnd fun x72 =>
 (wantB x66 false).bnd fun b77 => (whenB b77 ((binOp .eql x72 (.int .i64 2)).bnd some) (some .undef)).bnd fun x76 =>
 (condB x66 (some (.bool true)) (some x76)).bnd fun x80 =>
 (wantB x80 false).bnd fun b83 => (whenB b83 ((fieldAB x0 0).bnd some) (some .undef)).bnd fun x82 =>
 (wantB x80 false).bnd fun b87 => (whenB b87 ((loadV 1 false x82 h58).bnd some) (some .undef)).bnd fun x86 =>
 (wantB x80 false).bnd fun b91 => (whenB b91 ((binOp .eql x86 (.int .i64 5)).bnd some) (some .undef)).bnd fun x90 =>
 (condB x80 (some (.bool true)) (some x90)).bnd fun x94 =>
 (boolB true x45 x94).bnd fun x98 =>
 (wantB x98 false).bnd fun b101 => (whenB b101 (some x45) (some .undef)).bnd fun x100 =>
 (wantB x98 false).bnd fun b105 => (whenB b105 (some x100) (some .undef)).bnd fun x104 =>
 (wantB x104 true).bnd fun b109 => (whenB b109 (some x44) (some .undef)).bnd fun x108 =>
 (wantB x104 true).bnd fun b113 => (whenB b113 ((fieldAB x0 1).bnd some) (some .undef)).bnd fun x112 =>
 (wantB x104 true).bnd fun b117 => (whenB b117 ((loadV 1 false x112 h58).bnd some) (some .undef)).bnd fun x116 =>
 (wantB x104 true).bnd fun b121 => (whenB b121 ((binOp .neq x108 x116).bnd some) (some .undef)).bnd fun x120 =>
 (wantB x98 false).bnd fun b125 => (whenB b125 ((condB x104 (some x120) (some (.bool false))).bnd some) (some .undef)).bnd fun x124 =>
 (condB x98 (some (.bool true)) (some x124)).bnd fun x128 =>
 (wantB x128 false).bnd fun b131 => (whenB b131 (some x45) (some .undef)).bnd fun x130 =>
 (wantB x128 false).bnd fun b135 => (whenB b135 ((unOp .not x130).bnd some) (some .undef)).bnd fun x134 =>
 (wantB x128 false).bnd fun b139 => (whenB b139 (some x134) (some .undef)).bnd fun x138 =>
 (wantB x138 true).bnd fun b143 => (whenB b143 (some x44) (some .undef)).bnd fun x142 =>
 (wantB x138 true).bnd fun b147 => (whenB b147 ((binOp .neq x142 (.int .i64 0)).bnd some) (some .undef)).bnd fun x146 =>
 (wantB x128 false).bnd fun b151 => (whenB b151 ((condB x138 (some x146) (some (.bool false))).bnd some) (some .undef)).bnd fun x150 =>
 (condB x128 (some (.bool true)) (some x150)).bnd fun x154 =>
 (wantB x154 false).bnd fun b157 => (whenB b157 (some x53) (some .undef)).bnd fun x156 =>
 (wantB x154 false).bnd fun b161 => (whenB b161 ((fieldAB x0 0).bnd some) (some .undef)).bnd fun x160 =>
 (wantB x154 false).bnd fun b165 => (whenB b165 ((loadV 1 false x160 h58).bnd some) (some .undef)).bnd fun x164 =>
 (wantB x154 false).bnd fun b169 => (whenB b169 ((binOp .eql x164 (.int .i64 3)).bnd some) (some .undef)).bnd fun x168 =>
 (wantB x154 false).bnd fun b173 => (whenB b173 ((boolB true x156 x168).bnd some) (some .undef)).bnd fun x172 =>
 (condB x154 (some (.bool true)) (some x172)).bnd fun x176 =>
 (wantB x176 false).bnd fun b179 => (whenB b179 (some x52) (some .undef)).bnd fun x178 =>
 (wantB x176 false).bnd fun b183 => (whenB b183 ((fieldAB x0 2).bnd some) (some .undef)).bnd fun x182 =>
 (wantB x176 false).bnd fun b187 => (whenB b187 ((loadV 1 false x182 h58).bnd some) (some .undef)).bnd fun x186 =>
 (wantB x176 false).bnd fun b191 => (whenB b191 ((binOp .neq x178 x186).bnd some) (some .undef)).bnd fun x190 =>
 (condB x176 (some (.bool true)) (some x190)).bnd fun x194 =>
 condB x194 (
 finV false false (size h) [(.bool false)] h58) (
 bnd2 (orcQ (CallA T (size h)) 16 [x16] h58) fun x197 h198 => (fun y => if h198 = h58 then y else none) <|
 (loadV 6 true x0 h58).bnd fun x199 =>
 bnd2 (CallA T (size h) 15 [x197, x199] h58) fun x200 h201 =>
 (wantB x200 true).bnd fun b204 => (whenB b204 (some x16) (some .undef)).bnd fun x203 =>
 (wantB x200 true).bnd fun b208 => bnd2 (whenB b208 (bnd2 (orcQ (CallA T (size h)) 18 [x203] h201) fun x210 h209 => (fun y => if h209 = h201 then y else none) <| some (x210, h201)) (some (.undef, h201))) fun x207 h209 =>
 (wantB x200 true).bnd fun b212 => (whenB b212 ((loadV 6 true x0 h209).bnd some) (some .undef)).bnd fun x211 =>
 (wantB x200 true).bnd fun b216 => bnd2 (whenB b216 (bnd2 (CallA T (size h) 19 [x211] h209) fun x218 h217 => some (x218, h217)) (some (.undef, h209))) fun x215 h217 =>
 (wantB x200 true).bnd fun b220 => bnd2 (whenB b220 (bnd2 (CallA T (size h) 17 [x207, x215] h217) fun x222 h221 => some (x222, h221)) (some (.undef, h217))) fun x219 h221 =>
 (condB x200 (some x219) (some (.bool false))).bnd fun x223 =>
 (wantB x223 true).bnd fun b226 => (whenB b226 (some x61) (some .undef)).bnd fun x225 =>
 (wantB x223 true).bnd fun b230 => (whenB b230 ((fieldAB x0 0).bnd some) (some .undef)).bnd fun x229 =>
 (wantB x223 true).bnd fun b234 => (whenB b234 ((loadV 1 false x229 h221).bnd some) (some .undef)).bnd fun x233 =>
 (wantB x223 true).bnd fun b238 => (whenB b238 ((binOp .neq x233 (.int .i64 4)).bnd some) (some .undef)).bnd fun x237 =>
 (wantB x223 true).bnd fun b242 => (whenB b242 ((boolB false x225 x237).bnd some) (some .undef)).bnd fun x241 =>
 (condB x223 (some x241) (some (.bool false))).bnd fun x245 =>
 (wantB x245 true).bnd fun b248 => (whenB b248 (some x60) (some .undef)).bnd fun x247 =>
 (wantB x245 true).bnd fun b252 => (whenB b252 ((fieldAB x0 3).bnd some) (some .undef)).bnd fun x251 =>
 (wantB x245 true).bnd fun b256 => (whenB b256 ((loadV 1 false x251 h221).bnd some) (some .undef)).bnd fun x255 =>
 (wantB x245 true).bnd fun b260 => bnd2 (whenB b260 (bnd2 (orcQ (CallA T (size h)) 17 [x247, x255] h221) fun x262 h261 => (fun y => if h261 = h221 then y else none) <| some (x262, h221)) (some (.undef, h221))) fun x259 h261 =>
 (condB x245 (some x259) (some (.bool false))).bnd fun x263 =>
 finV false false (size h) [x263] h261)))))) := (Pt_enter T_3 base _ h).trans (by kernel_rfl)
noncomputable def P4_0 (base n0 : Nat) (v19 v1 v17 v18 : PV) (h : Hp) : Option (PV × Hp) := Pt T F4 [1, 1, 1, 0, 1, 0, 1] base n0 [(19, v19), (1, v1), (17, v17), (18, v18)] h
theorem P4_0_eq (base n0 : Nat) (v19 v1 v17 v18 : PV) (h : Hp) : P4_0 base n0 v19 v1 v17 v18 h =
 (binOp .lss v19 v18).bnd fun x0 =>
 condB x0 (
 (idxAB v17 v19 1).bnd fun x1 =>
 (loadV 1 false x1 h).bnd fun x2 =>
 bnd2 (CallA T base 20 [x2, v1] h) fun x6 h7 =>
 (extractB x6 0).bnd fun x9 =>
 (extractB x6 1).bnd fun x10 =>
 bnd2 (CallA T base 21 [x2, v1] h7) fun x15 h16 =>
 (extractB x15 0).bnd fun x18 =>
 (extractB x15 1).bnd fun x19 =>
 allocK [(.int .i64 0), (.int .i64 0), (.str []), .nils, (.int .i64 0), (.int .i64 0)] h16 fun x20 h21 =>
 (storeV base 6 x20 x18 h21).bnd fun h22 =>
 (binOp .neq x10 x19).bnd fun x26 =>
 (wantB x26 false).bnd fun b29 => (whenB b29 (some x10) (some .undef)).bnd fun x28 =>
 (wantB x26 false).bnd fun b33 => (whenB b33 ((binOp .neq x28 (.int .i64 0)).bnd some) (some .undef)).bnd fun x32 =>
 (wantB x26 false).bnd fun b37 => (whenB b37 (some x32) (some .undef)).bnd fun x36 =>
 (wantB x36 true).bnd fun b41 => (whenB b41 (some x9) (some .undef)).bnd fun x40 =>
 (wantB x36 true).bnd fun b45 => (whenB b45 ((isnilV 2 true x40).bnd some) (some .undef)).bnd fun x44 =>
 (wantB x26 false).bnd fun b49 => (whenB b49 ((condB x36 (some x44) (some (.bool false))).bnd some) (some .undef)).bnd fun x48 =>
 (condB x26 (some (.bool true)) (some x48)).bnd fun x52 =>
 (wantB x52 false).bnd fun b55 => (whenB b55 (some x10) (some .undef)).bnd fun x54 =>
 (wantB x52 false).bnd fun b59 => (whenB b59 ((binOp .eql x54 (.int .i64 0)).bnd some) (some .undef)).bnd fun x58 =>
 (wantB x52 false).bnd fun b63 => (whenB b63 (some x58) (some .undef)).bnd fun x62 =>
 (wantB x62 true).bnd fun b67 => (whenB b67 (some x9) (some .undef)).bnd fun x66 =>
 (wantB x62 true).bnd fun b71 => (whenB b71 ((isnilV 2 false x66).bnd some) (some .undef)).bnd fun x70 =>
 (wantB x62 true).bnd fun b75 => (whenB b75 (some x70) (some .undef)).bnd fun x74 =>
 (wantB x74 false).bnd fun b79 => (whenB b79 (some x9) (some .undef)).bnd fun x78 =>
 (wantB x74 false).bnd fun b83 => bnd2 (whenB b83 (bnd2 (orcQ (CallA T base) 16 [x78] h22) fun x85 h84 => (fun y => if h84 = h22 then y else none) <| some (x85, h22)) (some (.undef, h22))) fun x82 h84 =>
 (wantB x74 false).bnd fun b87 => (whenB b87 ((loadV 6 true x20 h84).bnd some) (some .undef)).bnd fun x86 =>
 (wantB x74 false).bnd fun b91 => bnd2 (whenB b91 (bnd2 (CallA T base 15 [x82, x86] h84) fun x93 h92 => some (x93, h92)) (some (.undef, h84))) fun x90 h92 =>
 (wantB x74 false).bnd fun b95 => (whenB b95 ((unOp .not x90).bnd some) (some .undef)).bnd fun x94 =>
 (wantB x62 true).bnd fun b99 => (whenB b99 ((condB x74 (some (.bool true)) (some x94)).bnd some) (some .undef)).bnd fun x98 =>
 (wantB x52 false).bnd fun b103 => (whenB b103 ((condB x62 (some x98) (some (.bool false))).bnd some) (some .undef)).bnd fun x102 =>
 (condB x52 (some (.bool true)) (some x102)).bnd fun x106 =>
 condB x106 (
 finV false false n0 [(.bool false)] h92) (
 (binOp .add v19 (.int .i64 1)).bnd fun x108 =>
 P4_0 base n0 x108 v1 v17 v18 h92)) (
 finV false false n0 [(.bool true)] h) := (Pt_eq T F4 [1, 1, 1, 0, 1, 0, 1] base n0 [(19, v19), (1, v1), (17, v17), (18, v18)] h).trans (by kernel_rfl)
theorem S4 (base : Nat) (a0 a1 : PV) (h : Hp) : CallA T base 4 [a0, a1] h =
 bnd2 (CallA T (size h) 8 [] h) fun x1 h2 =>
 (unOp .not x1).bnd fun x3 =>
 condB x3 (
 finV false false (size h) [(.bool false)] h2) (
 (lenB false a1).bnd fun x6 =>
 (binOp .gtr x6 (.int .i64 1000)).bnd fun x7 =>
 condB x7 (
 finV false false (size h) [(.bool true)] h2) (
 (buildSlV 1 false [(.int .i64 0)] 7 [(0, strip a0), (1, strip (.int .i64 1)), (2, strip (.int .i64 2)), (3, strip (.int .i64 3)), (4, strip (.int .i64 4)), (5, strip (.int .i64 5)), (6, strip (.int .i64 6))]).bnd fun x10 =>
 (lenB false x10).bnd fun x11 =>
 P4_0 (size h) (size h) (.int .i64 0) a1 x10 x11 h2)) := (Pt_enter T_4 base _ h).trans (by kernel_rfl)
theorem S5 (base : Nat) (a0 a1 a2 : PV) (h : Hp) : CallA T base 5 [a0, a1, a2] h =
 bnd2 (boxV 8 a0 h) fun x0 h1 =>
 bnd2 (boxV 6 a1 h1) fun x2 h3 =>
 bnd2 (boxV 6 a2 h3) fun x4 h5 =>
 bnd2 (CallA T (size h) 8 [] h5) fun x7 h8 =>
 (unOp .not x7).bnd fun x9 =>
 condB x9 (
 finV false false (size h) [(.bool false)] h8) (
 (loadV 6 true x2 h8).bnd fun x11 =>
 bnd2 (CallA T (size h) 9 [x11] h8) fun x12 h13 =>
 (unOp .not x12).bnd fun x14 =>
 (wantB x14 false).bnd fun b17 => (whenB b17 ((loadV 6 true x4 h13).bnd some) (some .undef)).bnd fun x16 =>
 (wantB x14 false).bnd fun b21 => bnd2 (whenB b21 (bnd2 (CallA T (size h) 9 [x16] h13) fun x23 h22 => some (x23, h22)) (some (.undef, h13))) fun x20 h22 =>
 (wantB x14 false).bnd fun b25 => (whenB b25 ((unOp .not x20).bnd some) (some .undef)).bnd fun x24 =>
 (condB x14 (some (.bool true)) (some x24)).bnd fun x28 =>
 condB x28 (
 finV false false (size h) [(.bool true)] h22) (
 (loadV 6 true x2 h22).bnd fun x30 =>
 bnd2 (CallA T (size h) 10 [x30] h22) fun x31 h32 =>
 (extractB x31 0).bnd fun x34 =>
 (extractB x31 1).bnd fun x35 =>
 (loadV 6 true x4 h32).bnd fun x38 =>
 bnd2 (CallA T (size h) 10 [x38] h32) fun x39 h40 =>
 (extractB x39 0).bnd fun x42 =>
 (extractB x39 1).bnd fun x43 =>
 (binOp .neq x35 (.int .i64 0)).bnd fun x47 =>
 (wantB x47 false).bnd fun b50 => (whenB b50 (some x43) (some .undef)).bnd fun x49 =>
 (wantB x47 false).bnd fun b54 => (whenB b54 ((binOp .neq x49 (.int .i64 0)).bnd some) (some .undef)).bnd fun x53 =>
 (condB x47 (some (.bool true)) (some x53)).bnd fun x57 =>
 (wantB x57 false).bnd fun b60 => (whenB b60 (some x34) (some .undef)).bnd fun x59 =>
 (wantB x57 false).bnd fun b64 => (whenB b64 ((isnilV 2 false x59).bnd some) (some .undef)).bnd fun x63 =>
 (condB x57 (some (.bool true)) (some x63)).bnd fun x67 =>
 (wantB x67 false).bnd fun b70 => (whenB b70 (some x42) (some .undef)).bnd fun x69 =>
 (wantB x67 false).bnd fun b74 => (whenB b74 ((isnilV 2 false x69).bnd some) (some .undef)).bnd fun x73 =>
 (condB x67 (some (.bool true)) (some x73)).bnd fun x77 =>
 condB x77 (
 (binOp .neq x35 (.int .i64 0)).bnd fun x79 =>
 (wantB x79 false).bnd fun b82 => (whenB b82 (some x43) (some .undef)).bnd fun x81 =>
 (wantB x79 false).bnd fun b86 => (whenB b86 ((binOp .neq x81 (.int .i64 0)).bnd some) (some .undef)).bnd fun x85 =>
 (condB x79 (some (.bool true)) (some x85)).bnd fun x89 =>
 finV false false (size h) [x89] h40) (
 (loadV 8 true x0 h40).bnd fun x91 =>
 bnd2 (orcQ (CallA T (size h)) 22 [x91, x34] h40) fun x93 h94 => (fun y => if h94 = h40 then y else none) <|
 (loadV 8 true x0 h40).bnd fun x95 =>
 (loadV 6 true x2 h40).bnd fun x96 =>
 bnd2 (orcQ (CallA T (size h)) 23 [x95, x96] h40) fun x97 h98 => (fun y => if h98 = h40 then y else none) <|
 (binOp .eql x93 x97).bnd fun x99 =>
 (wantB x99 true).bnd fun b102 => (whenB b102 ((loadV 8 true x0 h40).bnd some) (some .undef)).bnd fun x101 =>
 (wantB x99 true).bnd fun b106 => bnd2 (whenB b106 (bnd2 (orcQ (CallA T (size h)) 22 [x101, .nilif] h40) fun x108 h107 => (fun y => if h107 = h40 then y else none) <| some (x108, h40)) (some (.undef, h40))) fun x105 h107 =>
 (wantB x99 true).bnd fun b110 => (whenB b110 ((binOp .eql x105 (.int .i64 70)).bnd some) (some .undef)).bnd fun x109 =>
 (condB x99 (some x109) (some (.bool false))).bnd fun x113 =>
 (wantB x113 true).bnd fun b116 => (whenB b116 (some x34) (some .undef)).bnd fun x115 =>
 (wantB x113 true).bnd fun b120 => (whenB b120 (some x42) (some .undef)).bnd fun x119 =>
 (wantB x113 true).bnd fun b124 => bnd2 (whenB b124 (bnd2 (orcQ (CallA T (size h)) 24 [x115, x119] h107) fun x126 h125 => (fun y => if h125 = h107 then y else none) <| some (x126, h107)) (some (.undef, h107))) fun x123 h125 =>
 (wantB x113 true).bnd fun b128 => (whenB b128 ((loadV 6 true x2 h125).bnd some) (some .undef)).bnd fun x127 =>
 (wantB x113 true).bnd fun b132 => (whenB b132 ((loadV 6 true x4 h125).bnd some) (some .undef)).bnd fun x131 =>
 (wantB x113 true).bnd fun b136 => bnd2 (whenB b136 (bnd2 (orcQ (CallA T (size h)) 15 [x127, x131] h125) fun x138 h137 => (fun y => if h137 = h125 then y else none) <| some (x138, h125)) (some (.undef, h125))) fun x135 h137 =>
 (wantB x113 true).bnd fun b140 => (whenB b140 ((boolB false x123 x135).bnd some) (some .undef)).bnd fun x139 =>
 (condB x113 (some x139) (some (.bool false))).bnd fun x143 =>
 (wantB x143 true).bnd fun b146 => (whenB b146 (some x34) (some .undef)).bnd fun x145 =>
 (wantB x143 true).bnd fun b150 => bnd2 (whenB b150 (bnd2 (orcQ (CallA T (size h)) 24 [.nilif, x145] h137) fun x152 h151 => (fun y => if h151 = h137 then y else none) <| some (x152, h137)) (some (.undef, h137))) fun x149 h151 =>
 (wantB x143 true).bnd fun b154 => (whenB b154 ((unOp .not x149).bnd some) (some .undef)).bnd fun x153 =>
 (condB x143 (some x153) (some (.bool false))).bnd fun x157 =>
 (wantB x157 true).bnd fun b160 => bnd2 (whenB b160 (bnd2 (orcQ (CallA T (size h)) 24 [.nilif, .nilif] h151) fun x162 h161 => (fun y => if h161 = h151 then y else none) <| some (x162, h151)) (some (.undef, h151))) fun x159 h161 =>
 (condB x157 (some x159) (some (.bool false))).bnd fun x163 =>
 (wantB x163 true).bnd fun b166 => bnd2 (whenB b166 (bnd2 (orcQ (CallA T (size h)) 16 [.nilif] h161) fun x168 h167 => (fun y => if h167 = h161 then y else none) <| some (x168, h161)) (some (.undef, h161))) fun x165 h167 =>
 (wantB x163 true).bnd fun b170 => (whenB b170 ((fieldB x165 0 1 false).bnd some) (some .undef)).bnd fun x169 =>
 (wantB x163 true).bnd fun b174 => (whenB b174 ((binOp .eql x169 (.int .i64 0)).bnd some) (some .undef)).bnd fun x173 =>
 (condB x163 (some x173) (some (.bool false))).bnd fun x177 =>
 (wantB x177 true).bnd fun b180 => bnd2 (whenB b180 (bnd2 (orcQ (CallA T (size h)) 18 [.nilif] h167) fun x182 h181 => (fun y => if h181 = h167 then y else none) <| some (x182, h167)) (some (.undef, h167))) fun x179 h181 =>
 (wantB x177 true).bnd fun b184 => (whenB b184 ((lenB false x179).bnd some) (some .undef)).bnd fun x183 =>
 (wantB x177 true).bnd fun b188 => (whenB b188 ((binOp .eql x183 (.int .i64 0)).bnd some) (some .undef)).bnd fun x187 =>
 (condB x177 (some x187) (some (.bool false))).bnd fun x191 =>
 finV false false (size h) [x191] h181))) := (Pt_enter T_5 base _ h).trans (by kernel_rfl)
theorem S7 (base : Nat) (a0 : PV) (h : Hp) : CallA T base 7 [a0] h =
 bnd2 (CallA T (size h) 8 [] h) fun x1 h2 =>
 (unOp .not x1).bnd fun x3 =>
 condB x3 (
 finV false false (size h) [(.bool false)] h2) (
 (buildV [(.int .i64 0), (.int .i64 0), (.str []), .nils, (.int .i64 0), (.int .i64 0)] [(0, 1, (.int .i64 1)), (1, 1, a0)]).bnd fun x6 =>
 bnd2 (CallA T (size h) 10 [x6] h2) fun x7 h8 =>
 (extractB x7 0).bnd fun x10 =>
 (extractB x7 1).bnd fun x11 =>
 (binOp .neq x11 (.int .i64 0)).bnd fun x15 =>
 (wantB x15 false).bnd fun b18 => (whenB b18 (some x10) (some .undef)).bnd fun x17 =>
 (wantB x15 false).bnd fun b22 => (whenB b22 ((isnilV 2 false x17).bnd some) (some .undef)).bnd fun x21 =>
 (condB x15 (some (.bool true)) (some x21)).bnd fun x25 =>
 condB x25 (
 finV false false (size h) [(.bool false)] h8) (
 bnd2 (CallA T (size h) 18 [x10] h8) fun x28 h29 =>
 bnd2 (CallA T (size h) 20 [(.int .i64 1), x28] h29) fun x32 h33 =>
 (extractB x32 0).bnd fun x35 =>
 (extractB x32 1).bnd fun x36 =>
 (binOp .neq x36 (.int .i64 0)).bnd fun x40 =>
 (wantB x40 false).bnd fun b43 => (whenB b43 (some x35) (some .undef)).bnd fun x42 =>
 (wantB x40 false).bnd fun b47 => (whenB b47 ((isnilV 2 false x42).bnd some) (some .undef)).bnd fun x46 =>
 (condB x40 (some (.bool true)) (some x46)).bnd fun x50 =>
 condB x50 (
 finV false false (size h) [(.bool false)] h33) (
 bnd2 (CallA T (size h) 12 [x35] h33) fun x53 h54 =>
 (extractB x53 0).bnd fun x56 =>
 (extractB x53 1).bnd fun x57 =>
 (lenB false x28).bnd fun x61 =>
 (binOp .mul (.int .i64 8) x61).bnd fun x62 =>
 (binOp .quo x62 (.int .i64 2)).bnd fun x63 =>
 (binOp .geq x63 (.int .i64 8)).bnd fun x66 =>
 (wantB x66 true).bnd fun b69 => (whenB b69 (some a0) (some .undef)).bnd fun x68 =>
 (wantB x66 true).bnd fun b73 => (whenB b73 (some x63) (some .undef)).bnd fun x72 =>
 (wantB x66 true).bnd fun b77 => (whenB b77 ((binOp .sub x72 (.int .i64 1)).bnd some) (some .undef)).bnd fun x76 =>
 (wantB x66 true).bnd fun b81 => (whenB b81 ((binOp .shl (.int .i64 (-1)) x76).bnd some) (some .undef)).bnd fun x80 =>
 (wantB x66 true).bnd fun b85 => (whenB b85 ((binOp .geq x68 x80).bnd some) (some .undef)).bnd fun x84 =>
 (condB x66 (some x84) (some (.bool false))).bnd fun x88 =>
 (wantB x88 true).bnd fun b91 => (whenB b91 (some a0) (some .undef)).bnd fun x90 =>
 (wantB x88 true).bnd fun b95 => (whenB b95 (some x63) (some .undef)).bnd fun x94 =>
 (wantB x88 true).bnd fun b99 => (whenB b99 ((binOp .sub x94 (.int .i64 1)).bnd some) (some .undef)).bnd fun x98 =>
 (wantB x88 true).bnd fun b103 => (whenB b103 ((binOp .shl (.int .i64 1) x98).bnd some) (some .undef)).bnd fun x102 =>
 (wantB x88 true).bnd fun b107 => (whenB b107 ((binOp .lss x90 x102).bnd some) (some .undef)).bnd fun x106 =>
 (condB x88 (some x106) (some (.bool false))).bnd fun x110 =>
 (wantB x57 true).bnd fun b115 => (whenB b115 (some x56) (some .undef)).bnd fun x114 =>
 (wantB x57 true).bnd fun b119 => (whenB b119 (some a0) (some .undef)).bnd fun x118 =>
 (wantB x57 true).bnd fun b123 => (whenB b123 ((binOp .eql x114 x118).bnd some) (some .undef)).bnd fun x122 =>
 (condB x57 (some x122) (some (.bool false))).bnd fun x126 =>
 (wantB x126 true).bnd fun b129 => (whenB b129 (some x28) (some .undef)).bnd fun x128 =>
 (wantB x126 true).bnd fun b133 => (whenB b133 ((lenB false x128).bnd some) (some .undef)).bnd fun x132 =>
 (wantB x126 true).bnd fun b137 => (whenB b137 ((binOp .eql x132 (.int .i64 1)).bnd some) (some .undef)).bnd fun x136 =>
 (wantB x126 true).bnd fun b141 => (whenB b141 (some x136) (some .undef)).bnd fun x140 =>
 (wantB x140 false).bnd fun b145 => (whenB b145 (some x28) (some .undef)).bnd fun x144 =>
 (wantB x140 false).bnd fun b149 => (whenB b149 ((lenB false x144).bnd some) (some .undef)).bnd fun x148 =>
 (wantB x140 false).bnd fun b153 => (whenB b153 ((binOp .eql x148 (.int .i64 2)).bnd some) (some .undef)).bnd fun x152 =>
 (wantB x126 true).bnd fun b157 => (whenB b157 ((condB x140 (some (.bool true)) (some x152)).bnd some) (some .undef)).bnd fun x156 =>
 (wantB x126 true).bnd fun b161 => (whenB b161 (some x156) (some .undef)).bnd fun x160 =>
 (wantB x160 false).bnd fun b165 => (whenB b165 (some x28) (some .undef)).bnd fun x164 =>
 (wantB x160 false).bnd fun b169 => (whenB b169 ((lenB false x164).bnd some) (some .undef)).bnd fun x168 =>
 (wantB x160 false).bnd fun b173 => (whenB b173 ((binOp .eql x168 (.int .i64 4)).bnd some) (some .undef)).bnd fun x172 =>
 (wantB x126 true).bnd fun b177 => (whenB b177 ((condB x160 (some (.bool true)) (some x172)).bnd some) (some .undef)).bnd fun x176 =>
 (wantB x126 true).bnd fun b181 => (whenB b181 (some x176) (some .undef)).bnd fun x180 =>
 (wantB x180 false).bnd fun b185 => (whenB b185 (some x28) (some .undef)).bnd fun x184 =>
 (wantB x180 false).bnd fun b189 => (whenB b189 ((lenB false x184).bnd some) (some .undef)).bnd fun x188 =>
 (wantB x180 false).bnd fun b193 => (whenB b193 ((binOp .eql x188 (.int .i64 8)).bnd some) (some .undef)).bnd fun x192 =>
 (wantB x126 true).bnd fun b197 => (whenB b197 ((condB x180 (some (.bool true)) (some x192)).bnd some) (some .undef)).bnd fun x196 =>
 (condB x126 (some x196) (some (.bool false))).bnd fun x200 =>
 (wantB x200 true).bnd fun b203 => (whenB b203 (some x110) (some .undef)).bnd fun x202 =>
 (wantB x200 true).bnd fun b207 => (whenB b207 ((unOp .not x202).bnd some) (some .undef)).bnd fun x206 =>
 (condB x200 (some x206) (some (.bool false))).bnd fun x210 =>
 finV false false (size h) [x210] h54))) := (Pt_enter T_7 base _ h).trans (by kernel_rfl)
theorem S8 (base : Nat) (h : Hp) : CallA T base 8 [] h =
 (buildV [(.int .i64 0), (.int .i64 0), (.str []), .nils, (.int .i64 0), (.int .i64 0)] [(0, 1, (.int .i64 1)), (1, 1, (.int .i64 128))]).bnd fun x1 =>
 bnd2 (CallA T (size h) 10 [x1] h) fun x2 h3 =>
 (extractB x2 0).bnd fun x5 =>
 (extractB x2 1).bnd fun x6 =>
 (buildV [(.int .i64 0), (.int .i64 0), (.str []), .nils, (.int .i64 0), (.int .i64 0)] [(0, 1, (.int .i64 3)), (2, 1, (.str [120]))]).bnd fun x9 =>
 bnd2 (CallA T (size h) 10 [x9] h3) fun x10 h11 =>
 (extractB x10 0).bnd fun x13 =>
 (extractB x10 1).bnd fun x14 =>
 (buildV [(.int .i64 0), (.int .i64 0), (.str []), .nils, (.int .i64 0), (.int .i64 0)] [(0, 1, (.int .i64 9))]).bnd fun x17 =>
 bnd2 (CallA T (size h) 10 [x17] h11) fun x18 h19 =>
 (extractB x18 0).bnd fun x21 =>
 (extractB x18 1).bnd fun x22 =>
 (binOp .neq x6 (.int .i64 0)).bnd fun x26 =>
 (wantB x26 false).bnd fun b29 => (whenB b29 (some x14) (some .undef)).bnd fun x28 =>
 (wantB x26 false).bnd fun b33 => (whenB b33 ((binOp .neq x28 (.int .i64 0)).bnd some) (some .undef)).bnd fun x32 =>
 (condB x26 (some (.bool true)) (some x32)).bnd fun x36 =>
 (wantB x36 false).bnd fun b39 => (whenB b39 (some x22) (some .undef)).bnd fun x38 =>
 (wantB x36 false).bnd fun b43 => (whenB b43 ((binOp .neq x38 (.int .i64 70)).bnd some) (some .undef)).bnd fun x42 =>
 (condB x36 (some (.bool true)) (some x42)).bnd fun x46 =>
 (wantB x46 false).bnd fun b49 => (whenB b49 (some x5) (some .undef)).bnd fun x48 =>
 (wantB x46 false).bnd fun b53 => (whenB b53 ((isnilV 2 false x48).bnd some) (some .undef)).bnd fun x52 =>
 (condB x46 (some (.bool true)) (some x52)).bnd fun x56 =>
 (wantB x56 false).bnd fun b59 => (whenB b59 (some x13) (some .undef)).bnd fun x58 =>
 (wantB x56 false).bnd fun b63 => (whenB b63 ((isnilV 2 false x58).bnd some) (some .undef)).bnd fun x62 =>
 (condB x56 (some (.bool true)) (some x62)).bnd fun x66 =>
 condB x66 (
 finV false false (size h) [(.bool false)] h19) (
 bnd2 (CallA T (size h) 12 [x5] h19) fun x69 h70 =>
 (extractB x69 0).bnd fun x72 =>
 (extractB x69 1).bnd fun x73 =>
 bnd2 (CallA T (size h) 13 [x13] h70) fun x77 h78 =>
 (extractB x77 0).bnd fun x80 =>
 (extractB x77 1).bnd fun x81 =>
 bnd2 (CallA T (size h) 12 [x13] h78) fun x85 h86 =>
 (extractB x85 0).bnd fun x88 =>
 (extractB x85 1).bnd fun x89 =>
 bnd2 (CallA T (size h) 14 [x13] h86) fun x93 h94 =>
 (extractB x93 0).bnd fun x96 =>
 (extractB x93 1).bnd fun x97 =>
 (buildSlV 1 false [(.int .u8 0)] 2 [(0, strip (.int .u8 255)), (1, strip (.int .u8 127))]).bnd fun x100 =>
 bnd2 (CallA T (size h) 20 [(.int .i64 1), x100] h94) fun x101 h102 =>
 (extractB x101 0).bnd fun x104 =>
 (extractB x101 1).bnd fun x105 =>
 (binOp .neq x105 (.int .i64 0)).bnd fun x109 =>
 (wantB x109 false).bnd fun b112 => (whenB b112 (some x104) (some .undef)).bnd fun x111 =>
 (wantB x109 false).bnd fun b116 => (whenB b116 ((isnilV 2 false x111).bnd some) (some .undef)).bnd fun x115 =>
 (condB x109 (some (.bool true)) (some x115)).bnd fun x119 =>
 condB x119 (
 finV false false (size h) [(.bool false)] h102) (
 (binOp .eql x72 (.int .i64 128)).bnd fun x122 =>
 (wantB x122 true).bnd fun b125 => (whenB b125 (some x73) (some .undef)).bnd fun x124 =>
 (condB x122 (some x124) (some (.bool false))).bnd fun x128 =>
 (wantB x128 true).bnd fun b131 => (whenB b131 (some x80) (some .undef)).bnd fun x130 =>
 (wantB x128 true).bnd fun b135 => (whenB b135 ((binOp .eql x130 (.str [120])).bnd some) (some .undef)).bnd fun x134 =>
 (condB x128 (some x134) (some (.bool false))).bnd fun x138 =>
 (wantB x138 true).bnd fun b141 => (whenB b141 (some x81) (some .undef)).bnd fun x140 =>
 (condB x138 (some x140) (some (.bool false))).bnd fun x144 =>
 (wantB x144 true).bnd fun b147 => (whenB b147 (some x89) (some .undef)).bnd fun x146 =>
 (wantB x144 true).bnd fun b151 => (whenB b151 ((unOp .not x146).bnd some) (some .undef)).bnd fun x150 =>
 (condB x144 (some x150) (some (.bool false))).bnd fun x154 =>
 (wantB x154 true).bnd fun b157 => (whenB b157 (some x97) (some .undef)).bnd fun x156 =>
 (condB x154 (some x156) (some (.bool false))).bnd fun x160 =>
 (wantB x160 true).bnd fun b163 => (whenB b163 (some x5) (some .undef)).bnd fun x162 =>
 (wantB x160 true).bnd fun b167 => bnd2 (whenB b167 (bnd2 (CallA T (size h) 18 [x162] h102) fun x169 h168 => some (x169, h168)) (some (.undef, h102))) fun x166 h168 =>
 (wantB x160 true).bnd fun b171 => (whenB b171 ((bytesStrB h168 x166).bnd some) (some .undef)).bnd fun x170 =>
 (wantB x160 true).bnd fun b175 => (whenB b175 ((binOp .eql x170 (.str [0, 128])).bnd some) (some .undef)).bnd fun x174 =>
 (condB x160 (some x174) (some (.bool false))).bnd fun x178 =>
 (wantB x178 true).bnd fun b181 => (whenB b181 (some x104) (some .undef)).bnd fun x180 =>
 (wantB x178 true).bnd fun b185 => bnd2 (whenB b185 (bnd2 (CallA T (size h) 16 [x180] h168) fun x187 h186 => some (x187, h186)) (some (.undef, h168))) fun x184 h186 =>
 (wantB x178 true).bnd fun b189 => (whenB b189 ((fieldB x184 1 1 false).bnd some) (some .undef)).bnd fun x188 =>
 (wantB x178 true).bnd fun b193 => (whenB b193 ((binOp .eql x188 (.int .i64 (-129))).bnd some) (some .undef)).bnd fun x192 =>
 (condB x178 (some x192) (some (.bool false))).bnd fun x196 =>
 (wantB x196 true).bnd fun b199 => (whenB b199 (some x5) (some .undef)).bnd fun x198 =>
 (wantB x196 true).bnd fun b203 => (whenB b203 (some x5) (some .undef)).bnd fun x202 =>
 (wantB x196 true).bnd fun b207 => bnd2 (whenB b207 (bnd2 (CallA T (size h) 24 [x198, x202] h186) fun x209 h208 => some (x209, h208)) (some (.undef, h186))) fun x206 h208 =>
 (condB x196 (some x206) (some (.bool false))).bnd fun x210 =>
 (wantB x210 true).bnd fun b213 => (whenB b213 (some x5) (some .undef)).bnd fun x212 =>
 (wantB x210 true).bnd fun b217 => (whenB b217 (some x13) (some .undef)).bnd fun x216 =>
 (wantB x210 true).bnd fun b221 => bnd2 (whenB b221 (bnd2 (CallA T (size h) 24 [x212, x216] h208) fun x223 h222 => some (x223, h222)) (some (.undef, h208))) fun x220 h222 =>
 (wantB x210 true).bnd fun b225 => (whenB b225 ((unOp .not x220).bnd some) (some .undef)).bnd fun x224 =>
 (condB x210 (some x224) (some (.bool false))).bnd fun x228 =>
 (wantB x228 true).bnd fun b231 => (whenB b231 (some x5) (some .undef)).bnd fun x230 =>
 (wantB x228 true).bnd fun b235 => bnd2 (whenB b235 (bnd2 (CallA T (size h) 24 [.nilif, x230] h222) fun x237 h236 => some (x237, h236)) (some (.undef, h222))) fun x234 h236 =>
 (wantB x228 true).bnd fun b239 => (whenB b239 ((unOp .not x234).bnd some) (some .undef)).bnd fun x238 =>
 (condB x228 (some x238) (some (.bool false))).bnd fun x242 =>
 (wantB x242 true).bnd fun b245 => (whenB b245 ((buildV [(.int .i64 0), (.int .i64 0), (.bool false), (.bool false), (.bool false), (.int .i64 0), (.int .i64 0), (.bool false)] [(1, 1, (.int .i64 1)), (6, 1, (.int .i64 200))]).bnd some) (some .undef)).bnd fun x244 =>
 (wantB x242 true).bnd fun b249 => (whenB b249 (some x5) (some .undef)).bnd fun x248 =>
 (wantB x242 true).bnd fun b253 => bnd2 (whenB b253 (bnd2 (CallA T (size h) 22 [x244, x248] h236) fun x255 h254 => some (x255, h254)) (some (.undef, h236))) fun x252 h254 =>
 (wantB x242 true).bnd fun b257 => (whenB b257 ((binOp .eql x252 (.int .i64 0)).bnd some) (some .undef)).bnd fun x256 =>
 (condB x242 (some x256) (some (.bool false))).bnd fun x260 =>
 (wantB x260 true).bnd fun b263 => (whenB b263 ((buildV [(.int .i64 0), (.int .i64 0), (.bool false), (.bool false), (.bool false), (.int .i64 0), (.int .i64 0), (.bool false)] [(1, 1, (.int .i64 1)), (6, 1, (.int .i64 100))]).bnd some) (some .undef)).bnd fun x262 =>
 (wantB x260 true).bnd fun b267 => (whenB b267 (some x5) (some .undef)).bnd fun x266 =>
 (wantB x260 true).bnd fun b271 => bnd2 (whenB b271 (bnd2 (CallA T (size h) 22 [x262, x266] h254) fun x273 h272 => some (x273, h272)) (some (.undef, h254))) fun x270 h272 =>
 (wantB x260 true).bnd fun b275 => (whenB b275 ((binOp .eql x270 (.int .i64 1)).bnd some) (some .undef)).bnd fun x274 =>
 (condB x260 (some x274) (some (.bool false))).bnd fun x278 =>
 (wantB x278 true).bnd fun b281 => (whenB b281 ((buildV [(.int .i64 0), (.int .i64 0), (.bool false), (.bool false), (.bool false), (.int .i64 0), (.int .i64 0), (.bool false)] [(1, 1, (.int .i64 2))]).bnd some) (some .undef)).bnd fun x280 =>
 (wantB x278 true).bnd fun b285 => (whenB b285 (some x5) (some .undef)).bnd fun x284 =>
 (wantB x278 true).bnd fun b289 => bnd2 (whenB b289 (bnd2 (CallA T (size h) 22 [x280, x284] h272) fun x291 h290 => some (x291, h290)) (some (.undef, h272))) fun x288 h290 =>
 (wantB x278 true).bnd fun b293 => (whenB b293 ((binOp .eql x288 (.int .i64 70)).bnd some) (some .undef)).bnd fun x292 =>
 (condB x278 (some x292) (some (.bool false))).bnd fun x296 =>
 finV false false (size h) [x296] h290)) := (Pt_enter T_8 base _ h).trans (by kernel_rfl)
theorem S9 (base : Nat) (a0 : PV) (h : Hp) : CallA T base 9 [a0] h =
 bnd2 (boxV 6 a0 h) fun x0 h1 =>
 (fieldAB x0 2).bnd fun x3 =>
 (loadV 1 false x3 h1).bnd fun x4 =>
 (lenB true x4).bnd fun x5 =>
 (binOp .leq x5 (.int .i64 1000)).bnd fun x6 =>
 (wantB x6 true).bnd fun b9 => (whenB b9 ((fieldAB x0 3).bnd some) (some .undef)).bnd fun x8 =>
 (wantB x6 true).bnd fun b13 => (whenB b13 ((loadV 1 false x8 h1).bnd some) (some .undef)).bnd fun x12 =>
 (wantB x6 true).bnd fun b17 => (whenB b17 ((lenB false x12).bnd some) (some .undef)).bnd fun x16 =>
 (wantB x6 true).bnd fun b21 => (whenB b21 ((binOp .leq x16 (.int .i64 1000)).bnd some) (some .undef)).bnd fun x20 =>
 (condB x6 (some x20) (some (.bool false))).bnd fun x24 =>
 finV false false (size h) [x24] h1 := (Pt_enter T_9 base _ h).trans (by kernel_rfl)
theorem S10 (base : Nat) (a0 : PV) (h : Hp) : CallA T base 10 [a0] h =
 bnd2 (boxV 6 a0 h) fun x0 h1 =>
 (loadV 6 true x0 h1).bnd fun x4 =>
 bnd2 (CallA T (size h) 26 [x4] h1) fun x5 h6 =>
 (extractB x5 0).bnd fun x8 =>
 (extractB x5 1).bnd fun x9 =>
 (binOp .neq x9 (.int .i64 0)).bnd fun x13 =>
 condB x13 (
 finV false false (size h) [.nilif, x9] h6) (
 (fieldAB x0 0).bnd fun x17 =>
 (loadV 1 false x17 h6).bnd fun x18 =>
 (binOp .eql x18 (.int .i64 2)).bnd fun x19 =>
 condB x19 (
 (fieldAB x0 1).bnd fun x21 =>
 (loadV 1 false x21 h6).bnd fun x22 =>
 (binOp .eql x22 (.int .i64 1)).bnd fun x23 =>
 finV false false (size h) [(.iface 60 x23), (.int .i64 0)] h6) (
 (binOp .eql x18 (.int .i64 3)).bnd fun x27 =>
 condB x27 (
 (fieldAB x0 2).bnd fun x29 =>
 (loadV 1 false x29 h6).bnd fun x30 =>
 finV false false (size h) [(.iface 61 x30), (.int .i64 0)] h6) (
 (binOp .eql x18 (.int .i64 4)).bnd fun x34 =>
 condB x34 (
 (fieldAB x0 3).bnd fun x36 =>
 (loadV 1 false x36 h6).bnd fun x37 =>
 bnd2 (CallA T (size h) 27 [x37] h6) fun x38 h39 =>
 finV false false (size h) [(.iface 62 x38), (.int .i64 0)] h39) (
 (binOp .eql x18 (.int .i64 5)).bnd fun x43 =>
 condB x43 (
 (fieldAB x0 1).bnd fun x45 =>
 (loadV 1 false x45 h6).bnd fun x46 =>
 finV false false (size h) [(.iface 63 x46), (.int .i64 0)] h6) (
 (binOp .eql x18 (.int .i64 6)).bnd fun x50 =>
 condB x50 (
 (fieldAB x0 4).bnd fun x52 =>
 (loadV 1 false x52 h6).bnd fun x53 =>
 (fieldAB x0 5).bnd fun x54 =>
 (loadV 1 false x54 h6).bnd fun x55 =>
 (buildV [(.int .i64 0), (.int .i64 0)] [(0, 1, x53), (1, 1, x55)]).bnd fun x56 =>
 finV false false (size h) [(.iface 65 x56), (.int .i64 0)] h6) (
 (fieldAB x0 1).bnd fun x60 =>
 (loadV 1 false x60 h6).bnd fun x61 =>
 finV false false (size h) [(.iface 66 x61), (.int .i64 0)] h6)))))) := (Pt_enter T_10 base _ h).trans (by kernel_rfl)
theorem S11 (base : Nat) (a0 : PV) (h : Hp) : CallA T base 11 [a0] h =
 bnd2 (boxV 6 a0 h) fun x0 h1 =>
 (fieldAB x0 0).bnd fun x4 =>
 (loadV 1 false x4 h1).bnd fun x5 =>
 (binOp .lss x5 (.int .i64 1)).bnd fun x6 =>
 (wantB x6 false).bnd fun b9 => (whenB b9 ((fieldAB x0 0).bnd some) (some .undef)).bnd fun x8 =>
 (wantB x6 false).bnd fun b13 => (whenB b13 ((loadV 1 false x8 h1).bnd some) (some .undef)).bnd fun x12 =>
 (wantB x6 false).bnd fun b17 => (whenB b17 ((binOp .gtr x12 (.int .i64 6)).bnd some) (some .undef)).bnd fun x16 =>
 (condB x6 (some (.bool true)) (some x16)).bnd fun x20 =>
 condB x20 (
 finV false false (size h) [(.str []), (.int .i64 70)] h1) (
 (loadV 6 true x0 h1).bnd fun x23 =>
 bnd2 (CallA T (size h) 28 [x23] h1) fun x24 h25 =>
 (unOp .not x24).bnd fun x26 =>
 condB x26 (
 finV false false (size h) [(.str []), (.int .i64 1)] h25) (
 (fieldAB x0 0).bnd fun x29 =>
 (loadV 1 false x29 h25).bnd fun x30 =>
 (binOp .eql x30 (.int .i64 3)).bnd fun x31 =>
 condB x31 (
 (fieldAB x0 2).bnd fun x33 =>
 (loadV 1 false x33 h25).bnd fun x34 =>
 finV false false (size h) [x34, (.int .i64 0)] h25) (
 (binOp .eql x30 (.int .i64 4)).bnd fun x37 =>
 condB x37 (
 (fieldAB x0 3).bnd fun x39 =>
 (loadV 1 false x39 h25).bnd fun x40 =>
 bnd2 (CallA T (size h) 29 [x40] h25) fun x41 h42 =>
 finV false false (size h) [x41, (.int .i64 0)] h42) (
 (binOp .eql x30 (.int .i64 6)).bnd fun x45 =>
 condB x45 (
 (fieldAB x0 4).bnd fun x47 =>
 (loadV 1 false x47 h25).bnd fun x48 =>
 bnd2 (orcQ (CallA T (size h)) 30 [x48] h25) fun x49 h50 => (fun y => if h50 = h25 then y else none) <|
 (binOp .add x49 (.str [58])).bnd fun x51 =>
 (fieldAB x0 5).bnd fun x52 =>
 (loadV 1 false x52 h25).bnd fun x53 =>
 bnd2 (CallA T (size h) 30 [x53] h25) fun x54 h55 =>
 (binOp .add x51 x54).bnd fun x56 =>
 finV false false (size h) [x56, (.int .i64 0)] h55) (
 (fieldAB x0 1).bnd fun x59 =>
 (loadV 1 false x59 h25).bnd fun x60 =>
 bnd2 (CallA T (size h) 31 [x60, (.int .i64 10)] h25) fun x61 h62 =>
 finV false false (size h) [x61, (.int .i64 0)] h62))))) := (Pt_enter T_11 base _ h).trans (by kernel_rfl)
theorem S12 (base : Nat) (a0 : PV) (h : Hp) : CallA T base 12 [a0] h =
 (tassertB 66 true (.int .i64 0) a0).bnd fun x3 =>
 (extractB x3 0).bnd fun x5 =>
 (extractB x3 1).bnd fun x6 =>
 condB x6 (
 finV false false (size h) [x5, (.bool true)] h) (
 (tassertB 63 true (.int .i64 0) a0).bnd fun x14 =>
 (extractB x14 0).bnd fun x16 =>
 (extractB x14 1).bnd fun x17 =>
 condB x17 (
 finV false false (size h) [x16, (.bool true)] h) (
 (tassertB 60 true (.bool false) a0).bnd fun x25 =>
 (extractB x25 0).bnd fun x27 =>
 (extractB x25 1).bnd fun x28 =>
 condB x28 (
 bnd2 (CallA T (size h) 32 [x27] h) fun x33 h34 =>
 finV false false (size h) [x33, (.bool true)] h34) (
 finV false false (size h) [(.int .i64 0), (.bool false)] h))) := (Pt_enter T_12 base _ h).trans (by kernel_rfl)
theorem S13 (base : Nat) (a0 : PV) (h : Hp) : CallA T base 13 [a0] h =
 (tassertB 61 true (.str []) a0).bnd fun x3 =>
 (extractB x3 0).bnd fun x5 =>
 (extractB x3 1).bnd fun x6 =>
 finV false false (size h) [x5, x6] h := (Pt_enter T_13 base _ h).trans (by kernel_rfl)
theorem S15 (base : Nat) (a0 a1 : PV) (h : Hp) : CallA T base 15 [a0, a1] h =
 bnd2 (boxV 6 a0 h) fun x0 h1 =>
 bnd2 (boxV 6 a1 h1) fun x2 h3 =>
 (fieldAB x0 0).bnd fun x5 =>
 (loadV 1 false x5 h3).bnd fun x6 =>
 (fieldAB x2 0).bnd fun x7 =>
 (loadV 1 false x7 h3).bnd fun x8 =>
 (binOp .eql x6 x8).bnd fun x9 =>
 (wantB x9 true).bnd fun b12 => (whenB b12 ((fieldAB x0 1).bnd some) (some .undef)).bnd fun x11 =>
 (wantB x9 true).bnd fun b16 => (whenB b16 ((loadV 1 false x11 h3).bnd some) (some .undef)).bnd fun x15 =>
 (wantB x9 true).bnd fun b20 => (whenB b20 ((fieldAB x2 1).bnd some) (some .undef)).bnd fun x19 =>
 (wantB x9 true).bnd fun b24 => (whenB b24 ((loadV 1 false x19 h3).bnd some) (some .undef)).bnd fun x23 =>
 (wantB x9 true).bnd fun b28 => (whenB b28 ((binOp .eql x15 x23).bnd some) (some .undef)).bnd fun x27 =>
 (condB x9 (some x27) (some (.bool false))).bnd fun x31 =>
 (wantB x31 true).bnd fun b34 => (whenB b34 ((fieldAB x0 2).bnd some) (some .undef)).bnd fun x33 =>
 (wantB x31 true).bnd fun b38 => (whenB b38 ((loadV 1 false x33 h3).bnd some) (some .undef)).bnd fun x37 =>
 (wantB x31 true).bnd fun b42 => (whenB b42 ((fieldAB x2 2).bnd some) (some .undef)).bnd fun x41 =>
 (wantB x31 true).bnd fun b46 => (whenB b46 ((loadV 1 false x41 h3).bnd some) (some .undef)).bnd fun x45 =>
 (wantB x31 true).bnd fun b50 => (whenB b50 ((binOp .eql x37 x45).bnd some) (some .undef)).bnd fun x49 =>
 (condB x31 (some x49) (some (.bool false))).bnd fun x53 =>
 (wantB x53 true).bnd fun b56 => (whenB b56 ((fieldAB x0 3).bnd some) (some .undef)).bnd fun x55 =>
 (wantB x53 true).bnd fun b60 => (whenB b60 ((loadV 1 false x55 h3).bnd some) (some .undef)).bnd fun x59 =>
 (wantB x53 true).bnd fun b64 => (whenB b64 ((fieldAB x2 3).bnd some) (some .undef)).bnd fun x63 =>
 (wantB x53 true).bnd fun b68 => (whenB b68 ((loadV 1 false x63 h3).bnd some) (some .undef)).bnd fun x67 =>
 (wantB x53 true).bnd fun b72 => bnd2 (whenB b72 (bnd2 (CallA T (size h) 17 [x59, x67] h3) fun x74 h73 => some (x74, h73)) (some (.undef, h3))) fun x71 h73 =>
 (condB x53 (some x71) (some (.bool false))).bnd fun x75 =>
 (wantB x75 true).bnd fun b78 => (whenB b78 ((fieldAB x0 4).bnd some) (some .undef)).bnd fun x77 =>
 (wantB x75 true).bnd fun b82 => (whenB b82 ((loadV 1 false x77 h73).bnd some) (some .undef)).bnd fun x81 =>
 (wantB x75 true).bnd fun b86 => (whenB b86 ((fieldAB x2 4).bnd some) (some .undef)).bnd fun x85 =>
 (wantB x75 true).bnd fun b90 => (whenB b90 ((loadV 1 false x85 h73).bnd some) (some .undef)).bnd fun x89 =>
 (wantB x75 true).bnd fun b94 => (whenB b94 ((binOp .eql x81 x89).bnd some) (some .undef)).bnd fun x93 =>
 (condB x75 (some x93) (some (.bool false))).bnd fun x97 =>
 (wantB x97 true).bnd fun b100 => (whenB b100 ((fieldAB x0 5).bnd some) (some .undef)).bnd fun x99 =>
 (wantB x97 true).bnd fun b104 => (whenB b104 ((loadV 1 false x99 h73).bnd some) (some .undef)).bnd fun x103 =>
 (wantB x97 true).bnd fun b108 => (whenB b108 ((fieldAB x2 5).bnd some) (some .undef)).bnd fun x107 =>
 (wantB x97 true).bnd fun b112 => (whenB b112 ((loadV 1 false x107 h73).bnd some) (some .undef)).bnd fun x111 =>
 (wantB x97 true).bnd fun b116 => (whenB b116 ((binOp .eql x103 x111).bnd some) (some .undef)).bnd fun x115 =>
 (condB x97 (some x115) (some (.bool false))).bnd fun x119 =>
 finV false false (size h) [x119] h73 := (Pt_enter T_15 base _ h).trans (by kernel_rfl)
theorem S16 (base : Nat) (a0 : PV) (h : Hp) : CallA T base 16 [a0] h =
 allocK [(.int .i64 0), (.int .i64 0), (.str []), .nils, (.int .i64 0), (.int .i64 0)] h fun x0 h1 =>
 (tassertB 66 true (.int .i64 0) a0).bnd fun x3 =>
 (extractB x3 1).bnd fun x4 =>
 (extractB x3 0).bnd fun x5 =>
 condB x4 (
 (buildV [(.int .i64 0), (.int .i64 0), (.str []), .nils, (.int .i64 0), (.int .i64 0)] [(0, 1, (.int .i64 1)), (1, 1, x5)]).bnd fun x8 =>
 (storeV (size h) 6 x0 x8 h1).bnd fun h9 =>
 (resB x0 h9 6 true).bnd fun r10 =>
 finV false false (size h) [r10] h9) (
 (tassertB 60 true (.bool false) a0).bnd fun x11 =>
 (extractB x11 1).bnd fun x12 =>
 (extractB x11 0).bnd fun x13 =>
 condB x12 (
 bnd2 (CallA T (size h) 32 [x13] h1) fun x16 h17 =>
 (buildV [(.int .i64 0), (.int .i64 0), (.str []), .nils, (.int .i64 0), (.int .i64 0)] [(0, 1, (.int .i64 2)), (1, 1, x16)]).bnd fun x18 =>
 (storeV (size h) 6 x0 x18 h17).bnd fun h19 =>
 (resB x0 h19 6 true).bnd fun r20 =>
 finV false false (size h) [r20] h19) (
 (tassertB 61 true (.str []) a0).bnd fun x21 =>
 (extractB x21 1).bnd fun x22 =>
 (extractB x21 0).bnd fun x23 =>
 condB x22 (
 (buildV [(.int .i64 0), (.int .i64 0), (.str []), .nils, (.int .i64 0), (.int .i64 0)] [(0, 1, (.int .i64 3)), (2, 1, x23)]).bnd fun x26 =>
 (storeV (size h) 6 x0 x26 h1).bnd fun h27 =>
 (resB x0 h27 6 true).bnd fun r28 =>
 finV false false (size h) [r28] h27) (
 (tassertB 62 true .nils a0).bnd fun x29 =>
 (extractB x29 1).bnd fun x30 =>
 (extractB x29 0).bnd fun x31 =>
 condB x30 (
 bnd2 (CallA T (size h) 27 [x31] h1) fun x34 h35 =>
 (buildV [(.int .i64 0), (.int .i64 0), (.str []), .nils, (.int .i64 0), (.int .i64 0)] [(0, 1, (.int .i64 4)), (3, 1, x34)]).bnd fun x36 =>
 (storeV (size h) 6 x0 x36 h35).bnd fun h37 =>
 (resB x0 h37 6 true).bnd fun r38 =>
 finV false false (size h) [r38] h37) (
 (tassertB 63 true (.int .i64 0) a0).bnd fun x39 =>
 (extractB x39 1).bnd fun x40 =>
 (extractB x39 0).bnd fun x41 =>
 condB x40 (
 (buildV [(.int .i64 0), (.int .i64 0), (.str []), .nils, (.int .i64 0), (.int .i64 0)] [(0, 1, (.int .i64 5)), (1, 1, x41)]).bnd fun x44 =>
 (storeV (size h) 6 x0 x44 h1).bnd fun h45 =>
 (resB x0 h45 6 true).bnd fun r46 =>
 finV false false (size h) [r46] h45) (
 (tassertB 65 true (.agg [(.int .i64 0), (.int .i64 0)]) a0).bnd fun x47 =>
 (extractB x47 1).bnd fun x48 =>
 (extractB x47 0).bnd fun x49 =>
 condB x48 (
 allocK [(.int .i64 0), (.int .i64 0)] h1 fun x50 h51 =>
 (storeV (size h) 2 x50 x49 h51).bnd fun h52 =>
 (fieldAB x50 0).bnd fun x53 =>
 (loadV 1 false x53 h52).bnd fun x54 =>
 (fieldAB x50 1).bnd fun x55 =>
 (loadV 1 false x55 h52).bnd fun x56 =>
 (buildV [(.int .i64 0), (.int .i64 0), (.str []), .nils, (.int .i64 0), (.int .i64 0)] [(0, 1, (.int .i64 6)), (4, 1, x54), (5, 1, x56)]).bnd fun x57 =>
 (storeV (size h) 6 x0 x57 h52).bnd fun h58 =>
 (resB x0 h58 6 true).bnd fun r59 =>
 finV false false (size h) [r59] h58) (
 (buildV [(.int .i64 0), (.int .i64 0), (.str []), .nils, (.int .i64 0), (.int .i64 0)] []).bnd fun x60 =>
 (storeV (size h) 6 x0 x60 h1).bnd fun h61 =>
 (resB x0 h61 6 true).bnd fun r62 =>
 finV false false (size h) [r62] h61)))))) := (Pt_enter T_16 base _ h).trans (by kernel_rfl)
noncomputable def P17_0 (base n0 : Nat) (v5 v1 v0 : PV) (h : Hp) : Option (PV × Hp) := Pt T F17 [1, 1, 0, 1, 0, 1] base n0 [(5, v5), (1, v1), (0, v0)] h
theorem P17_0_eq (base n0 : Nat) (v5 v1 v0 : PV) (h : Hp) : P17_0 base n0 v5 v1 v0 h =
 (lenB false v0).bnd fun x2 =>
 (binOp .lss v5 x2).bnd fun x3 =>
 condB x3 (
 (idxAB v0 v5 1).bnd fun x6 =>
 (loadV 1 false x6 h).bnd fun x7 =>
 (idxAB v1 v5 1).bnd fun x10 =>
 (loadV 1 false x10 h).bnd fun x11 =>
 (binOp .neq x7 x11).bnd fun x12 =>
 condB x12 (
 finV false false n0 [(.bool false)] h) (
 (binOp .add v5 (.int .i64 1)).bnd fun x15 =>
 P17_0 base n0 x15 v1 v0 h)) (
 finV false false n0 [(.bool true)] h) := (Pt_eq T F17 [1, 1, 0, 1, 0, 1] base n0 [(5, v5), (1, v1), (0, v0)] h).trans (by kernel_rfl)
theorem S17 (base : Nat) (a0 a1 : PV) (h : Hp) : CallA T base 17 [a0, a1] h =
 (lenB false a0).bnd fun x2 =>
 (lenB false a1).bnd fun x4 =>
 (binOp .neq x2 x4).bnd fun x5 =>
 condB x5 (
 finV false false (size h) [(.bool false)] h) (
 P17_0 (size h) (size h) (.int .i64 0) a1 a0 h) := (Pt_enter T_17 base _ h).trans (by kernel_rfl)
theorem S18 (base : Nat) (a0 : PV) (h : Hp) : CallA T base 18 [a0] h =
 (tassertB 60 true (.bool false) a0).bnd fun x2 =>
 (extractB x2 0).bnd fun x4 =>
 (extractB x2 1).bnd fun x5 =>
 condB x5 (
 bnd2 (CallA T (size h) 32 [x4] h) fun x10 h11 =>
 bnd2 (CallA T (size h) 35 [x10, (.int .i64 1)] h11) fun x12 h13 =>
 finV false true (size h) [x12] h13) (
 bnd2 (CallA T (size h) 12 [a0] h) fun x16 h17 =>
 (extractB x16 0).bnd fun x19 =>
 (extractB x16 1).bnd fun x20 =>
 condB x20 (
 bnd2 (CallA T (size h) 36 [x19] h17) fun x26 h27 =>
 bnd2 (CallA T (size h) 35 [x19, x26] h27) fun x28 h29 =>
 finV false true (size h) [x28] h29) (
 (tassertB 61 true (.str []) a0).bnd fun x32 =>
 (extractB x32 1).bnd fun x33 =>
 (extractB x32 0).bnd fun x34 =>
 condB x33 (
 bnd2 (strBytesB true x34 h17) fun x37 h38 =>
 finV false true (size h) [x37] h38) (
 (tassertB 62 true .nils a0).bnd fun x40 =>
 (extractB x40 1).bnd fun x41 =>
 (extractB x40 0).bnd fun x42 =>
 condB x41 (
 bnd2 (CallA T (size h) 27 [x42] h17) fun x45 h46 =>
 finV false true (size h) [x45] h46) (
 (tassertB 65 true (.agg [(.int .i64 0), (.int .i64 0)]) a0).bnd fun x48 =>
 (extractB x48 1).bnd fun x49 =>
 (extractB x48 0).bnd fun x50 =>
 condB x49 (
 allocK [(.int .i64 0), (.int .i64 0)] h17 fun x51 h52 =>
 (storeV (size h) 2 x51 x50 h52).bnd fun h53 =>
 (fieldAB x51 0).bnd fun x54 =>
 (loadV 1 false x54 h53).bnd fun x55 =>
 bnd2 (orcQ (CallA T (size h)) 35 [x55, (.int .i64 2)] h53) fun x56 h57 => (fun y => if h57 = h53 then y else none) <|
 (fieldAB x51 1).bnd fun x58 =>
 (loadV 1 false x58 h53).bnd fun x59 =>
 bnd2 (CallA T (size h) 35 [x59, (.int .i64 2)] h53) fun x60 h61 =>
 bnd2 (appBoxV 1 x56 x60 h61) fun x62 h63 =>
 finV false true (size h) [x62] h63) (
 finV false true (size h) [.nils] h17))))) := (Pt_enter T_18 base _ h).trans (by kernel_rfl)
noncomputable def P19_0 (base n0 : Nat) (v9 v1 v8 : PV) (h : Hp) : Option (PV × Hp) := Pt T F19 [1, 0, 1, 0, 1, 1] base n0 [(9, v9), (1, v1), (8, v8)] h
noncomputable def P19_1 (base n0 : Nat) (v3 v1 : PV) (h : Hp) : Option (PV × Hp) := Pt T F19 [1, 0, 1, 0, 1, 1, 0, 1, 0, 0, 1] base n0 [(3, v3), (1, v1)] h
noncomputable def P19_2 (base n0 : Nat) (v6 v5 v4 : PV) (h : Hp) : Option (PV × Hp) := Pt T F19 [1, 0, 1, 0, 1, 1, 0, 1, 1, 1, 1, 0, 1, 0, 1] base n0 [(6, v6), (5, v5), (4, v4)] h
theorem P19_0_eq (base n0 : Nat) (v9 v1 v8 : PV) (h : Hp) : P19_0 base n0 v9 v1 v8 h =
 condB v9 (
 P19_1 base n0 (.int .i64 1) v1 h) (
 (binOp .eql v8 (.int .i64 2)).bnd fun x1 =>
 condB x1 (
 (fieldAB v1 1).bnd fun x3 =>
 (loadV 1 false x3 h).bnd fun x4 =>
 (toIntB x4 .u8).bnd fun x5 =>
 (buildSlV 1 false [(.int .u8 0)] 1 [(0, strip x5)]).bnd fun x6 =>
 finV false false n0 [x6] h) (
 (binOp .eql v8 (.int .i64 3)).bnd fun x8 =>
 condB x8 (
 (fieldAB v1 2).bnd fun x10 =>
 (loadV 1 false x10 h).bnd fun x11 =>
 bnd2 (strBytesB false x11 h) fun x12 h13 =>
 finV false false n0 [x12] h13) (
 (binOp .eql v8 (.int .i64 4)).bnd fun x15 =>
 condB x15 (
 (fieldAB v1 3).bnd fun x17 =>
 (loadV 1 false x17 h).bnd fun x18 =>
 bnd2 (CallA T base 25 [x18] h) fun x19 h20 =>
 finV false false n0 [x19] h20) (
 (binOp .eql v8 (.int .i64 6)).bnd fun x22 =>
 condB x22 (
 (fieldAB v1 4).bnd fun x24 =>
 (loadV 1 false x24 h).bnd fun x25 =>
 (binOp .quo x25 (.int .i64 256)).bnd fun x26 =>
 (toIntB x26 .u8).bnd fun x27 =>
 (fieldAB v1 4).bnd fun x28 =>
 (loadV 1 false x28 h).bnd fun x29 =>
 (binOp .rem x29 (.int .i64 256)).bnd fun x30 =>
 (toIntB x30 .u8).bnd fun x31 =>
 (fieldAB v1 5).bnd fun x32 =>
 (loadV 1 false x32 h).bnd fun x33 =>
 (binOp .quo x33 (.int .i64 256)).bnd fun x34 =>
 (toIntB x34 .u8).bnd fun x35 =>
 (fieldAB v1 5).bnd fun x36 =>
 (loadV 1 false x36 h).bnd fun x37 =>
 (binOp .rem x37 (.int .i64 256)).bnd fun x38 =>
 (toIntB x38 .u8).bnd fun x39 =>
 (buildSlV 1 false [(.int .u8 0)] 4 [(0, strip x27), (1, strip x31), (2, strip x35), (3, strip x39)]).bnd fun x40 =>
 finV false false n0 [x40] h) (
 (buildSlV 1 false [(.int .u8 0)] 0 []).bnd fun x42 =>
 finV false false n0 [x42] h))))) := (Pt_eq T F19 [1, 0, 1, 0, 1, 1] base n0 [(9, v9), (1, v1), (8, v8)] h).trans (by kernel_rfl)
theorem P19_1_eq (base n0 : Nat) (v3 v1 : PV) (h : Hp) : P19_1 base n0 v3 v1 h =
 (binOp .lss v3 (.int .i64 8)).bnd fun x1 =>
 (wantB x1 true).bnd fun b4 => (whenB b4 ((fieldAB v1 1).bnd some) (some .undef)).bnd fun x3 =>
 (wantB x1 true).bnd fun b8 => (whenB b8 ((loadV 1 false x3 h).bnd some) (some .undef)).bnd fun x7 =>
 (wantB x1 true).bnd fun b12 => (whenB b12 (some v3) (some .undef)).bnd fun x11 =>
 (wantB x1 true).bnd fun b16 => bnd2 (whenB b16 (bnd2 (CallA T base 37 [x7, x11] h) fun x18 h17 => some (x18, h17)) (some (.undef, h))) fun x15 h17 =>
 (wantB x1 true).bnd fun b20 => (whenB b20 ((unOp .not x15).bnd some) (some .undef)).bnd fun x19 =>
 (condB x1 (some x19) (some (.bool false))).bnd fun x23 =>
 condB x23 (
 (binOp .mul v3 (.int .i64 2)).bnd fun x25 =>
 P19_1 base n0 x25 v1 h17) (
 bnd2 (makeV 5 [(.int .u8 0)] v3 v3 h17) fun x28 h29 =>
 (fieldAB v1 1).bnd fun x31 =>
 (loadV 1 false x31 h29).bnd fun x32 =>
 (toIntB x32 .u64).bnd fun x33 =>
 (binOp .sub v3 (.int .i64 1)).bnd fun x36 =>
 P19_2 base n0 x36 x33 x28 h29) := (Pt_eq T F19 [1, 0, 1, 0, 1, 1, 0, 1, 0, 0, 1] base n0 [(3, v3), (1, v1)] h).trans (by kernel_rfl)
theorem P19_2_eq (base n0 : Nat) (v6 v5 v4 : PV) (h : Hp) : P19_2 base n0 v6 v5 v4 h =
 (binOp .geq v6 (.int .i64 0)).bnd fun x1 =>
 condB x1 (
 (binOp .rem v5 (.int .u64 256)).bnd fun x5 =>
 (toIntB x5 .u8).bnd fun x6 =>
 (idxAB v4 v6 1).bnd fun x7 =>
 (storeV base 1 x7 x6 h).bnd fun h8 =>
 (binOp .quo v5 (.int .u64 256)).bnd fun x10 =>
 (binOp .sub v6 (.int .i64 1)).bnd fun x13 =>
 P19_2 base n0 x13 x10 v4 h8) (
 finV false false n0 [v4] h) := (Pt_eq T F19 [1, 0, 1, 0, 1, 1, 0, 1, 1, 1, 1, 0, 1, 0, 1] base n0 [(6, v6), (5, v5), (4, v4)] h).trans (by kernel_rfl)
theorem S19 (base : Nat) (a0 : PV) (h : Hp) : CallA T base 19 [a0] h =
 bnd2 (boxV 6 a0 h) fun x0 h1 =>
 (fieldAB x0 0).bnd fun x3 =>
 (loadV 1 false x3 h1).bnd fun x4 =>
 (binOp .eql x4 (.int .i64 1)).bnd fun x5 =>
 condB x5 (
 P19_0 (size h) (size h) x5 x0 x4 h1) (
 (binOp .eql x4 (.int .i64 5)).bnd fun x7 =>
 P19_0 (size h) (size h) x7 x0 x4 h1) := (Pt_enter T_19 base _ h).trans (by kernel_rfl)
theorem S20 (base : Nat) (a0 a1 : PV) (h : Hp) : CallA T base 20 [a0, a1] h =
 bnd2 (CallA T (size h) 38 [a0, a1] h) fun x4 h5 =>
 (extractB x4 0).bnd fun x7 =>
 (extractB x4 1).bnd fun x8 =>
 allocK [(.int .i64 0), (.int .i64 0), (.str []), .nils, (.int .i64 0), (.int .i64 0)] h5 fun x9 h10 =>
 (storeV (size h) 6 x9 x7 h10).bnd fun h11 =>
 (binOp .neq x8 (.int .i64 0)).bnd fun x14 =>
 condB x14 (
 finV false false (size h) [.nilif, x8] h11) (
 (loadV 6 true x9 h11).bnd fun x18 =>
 bnd2 (CallA T (size h) 10 [x18] h11) fun x19 h20 =>
 (extractB x19 0).bnd fun x21 =>
 (extractB x19 1).bnd fun x22 =>
 finV false false (size h) [x21, x22] h20) := (Pt_enter T_20 base _ h).trans (by kernel_rfl)
noncomputable def P21_0 (base n0 : Nat) (v15 v4 v1 v6 v0 v13 : PV) (h : Hp) : Option (PV × Hp) := Pt T F21 [1, 1, 0, 1, 0, 1, 1] base n0 [(15, v15), (4, v4), (1, v1), (6, v6), (0, v0), (13, v13)] h
noncomputable def P21_1 (base n0 : Nat) (v1 v7 v4 v6 : PV) (h : Hp) : Option (PV × Hp) := Pt T F21 [1, 1, 0, 1, 0, 1, 1, 0, 1, 1, 1, 1] base n0 [(1, v1), (7, v7), (4, v4), (6, v6)] h
noncomputable def P21_2 (base n0 : Nat) (v4 v6 : PV) (h : Hp) : Option (PV × Hp) := Pt T F21 [1, 1, 1, 1] base n0 [(4, v4), (6, v6)] h
noncomputable def P21_3 (base n0 : Nat) (v75 v4 v6 v1 v0 v13 : PV) (h : Hp) : Option (PV × Hp) := Pt T F21 [1, 1, 0, 1, 0, 1, 1, 1, 1, 1, 1, 1] base n0 [(75, v75), (4, v4), (6, v6), (1, v1), (0, v0), (13, v13)] h
noncomputable def P21_4 (base n0 : Nat) (v8 v1 v7 v4 v6 : PV) (h : Hp) : Option (PV × Hp) := Pt T F21 [1, 1, 0, 1, 0, 1, 1, 0, 1, 1, 1, 1, 0, 1, 0, 1] base n0 [(8, v8), (1, v1), (7, v7), (4, v4), (6, v6)] h
theorem P21_0_eq (base n0 : Nat) (v15 v4 v1 v6 v0 v13 : PV) (h : Hp) : P21_0 base n0 v15 v4 v1 v6 v0 v13 h =
 condB v15 (
 (lenB false v1).bnd fun x1 =>
 (binOp .neq x1 (.int .i64 1)).bnd fun x2 =>
 (wantB x2 true).bnd fun b5 => (whenB b5 (some v1) (some .undef)).bnd fun x4 =>
 (wantB x2 true).bnd fun b9 => (whenB b9 ((lenB false x4).bnd some) (some .undef)).bnd fun x8 =>
 (wantB x2 true).bnd fun b13 => (whenB b13 ((binOp .neq x8 (.int .i64 2)).bnd some) (some .undef)).bnd fun x12 =>
 (condB x2 (some x12) (some (.bool false))).bnd fun x16 =>
 (wantB x16 true).bnd fun b19 => (whenB b19 (some v1) (some .undef)).bnd fun x18 =>
 (wantB x16 true).bnd fun b23 => (whenB b23 ((lenB false x18).bnd some) (some .undef)).bnd fun x22 =>
 (wantB x16 true).bnd fun b27 => (whenB b27 ((binOp .neq x22 (.int .i64 4)).bnd some) (some .undef)).bnd fun x26 =>
 (condB x16 (some x26) (some (.bool false))).bnd fun x30 =>
 (wantB x30 true).bnd fun b33 => (whenB b33 (some v1) (some .undef)).bnd fun x32 =>
 (wantB x30 true).bnd fun b37 => (whenB b37 ((lenB false x32).bnd some) (some .undef)).bnd fun x36 =>
 (wantB x30 true).bnd fun b41 => (whenB b41 ((binOp .neq x36 (.int .i64 8)).bnd some) (some .undef)).bnd fun x40 =>
 (condB x30 (some x40) (some (.bool false))).bnd fun x44 =>
 condB x44 (
 (buildV [(.int .i64 0), (.int .i64 0), (.str []), .nils, (.int .i64 0), (.int .i64 0)] []).bnd fun x45 =>
 (storeV base 6 v4 x45 h).bnd fun h46 =>
 (resB v4 h46 6 true).bnd fun r48 =>
 finV false false n0 [r48, (.int .i64 20)] h46) (
 (idxAB v1 (.int .i64 0) 1).bnd fun x51 =>
 (loadV 1 false x51 h).bnd fun x52 =>
 (binOp .geq x52 (.int .u8 128)).bnd fun x53 =>
 condB x53 (
 P21_1 base n0 v1 (.int .u64 18446744073709551615) v4 v6 h) (
 P21_1 base n0 v1 (.int .u64 0) v4 v6 h))) (
 (binOp .eql v13 (.int .i64 2)).bnd fun x55 =>
 condB x55 (
 (lenB false v1).bnd fun x58 =>
 (binOp .neq x58 (.int .i64 1)).bnd fun x59 =>
 (wantB x59 false).bnd fun b62 => (whenB b62 (some v1) (some .undef)).bnd fun x61 =>
 (wantB x59 false).bnd fun b66 => (whenB b66 ((idxAB x61 (.int .i64 0) 1).bnd some) (some .undef)).bnd fun x65 =>
 (wantB x59 false).bnd fun b70 => (whenB b70 ((loadV 1 false x65 h).bnd some) (some .undef)).bnd fun x69 =>
 (wantB x59 false).bnd fun b74 => (whenB b74 ((binOp .gtr x69 (.int .u8 1)).bnd some) (some .undef)).bnd fun x73 =>
 (condB x59 (some (.bool true)) (some x73)).bnd fun x77 =>
 condB x77 (
 (buildV [(.int .i64 0), (.int .i64 0), (.str []), .nils, (.int .i64 0), (.int .i64 0)] []).bnd fun x78 =>
 (storeV base 6 v4 x78 h).bnd fun h79 =>
 (resB v4 h79 6 true).bnd fun r81 =>
 finV false false n0 [r81, (.int .i64 20)] h79) (
 (idxAB v1 (.int .i64 0) 1).bnd fun x83 =>
 (loadV 1 false x83 h).bnd fun x84 =>
 (toIntB x84 .i64).bnd fun x85 =>
 (fieldAB v6 1).bnd fun x86 =>
 (storeV base 1 x86 x85 h).bnd fun h87 =>
 P21_2 base n0 v4 v6 h87)) (
 (binOp .eql v13 (.int .i64 3)).bnd fun x88 =>
 condB x88 (
 P21_3 base n0 x88 v4 v6 v1 v0 v13 h) (
 (binOp .eql v13 (.int .i64 4)).bnd fun x90 =>
 P21_3 base n0 x90 v4 v6 v1 v0 v13 h))) := (Pt_eq T F21 [1, 1, 0, 1, 0, 1, 1] base n0 [(15, v15), (4, v4), (1, v1), (6, v6), (0, v0), (13, v13)] h).trans (by kernel_rfl)
theorem P21_1_eq (base n0 : Nat) (v1 v7 v4 v6 : PV) (h : Hp) : P21_1 base n0 v1 v7 v4 v6 h =
 P21_4 base n0 (.int .i64 0) v1 v7 v4 v6 h := (Pt_eq T F21 [1, 1, 0, 1, 0, 1, 1, 0, 1, 1, 1, 1] base n0 [(1, v1), (7, v7), (4, v4), (6, v6)] h).trans (by kernel_rfl)
theorem P21_2_eq (base n0 : Nat) (v4 v6 : PV) (h : Hp) : P21_2 base n0 v4 v6 h =
 (loadV 6 true v6 h).bnd fun x0 =>
 (storeV base 6 v4 x0 h).bnd fun h1 =>
 (resB v4 h1 6 true).bnd fun r3 =>
 finV false false n0 [r3, (.int .i64 0)] h1 := (Pt_eq T F21 [1, 1, 1, 1] base n0 [(4, v4), (6, v6)] h).trans (by kernel_rfl)
theorem P21_3_eq (base n0 : Nat) (v75 v4 v6 v1 v0 v13 : PV) (h : Hp) : P21_3 base n0 v75 v4 v6 v1 v0 v13 h =
 condB v75 (
 (lenB false v1).bnd fun x1 =>
 (binOp .gtr x1 (.int .i64 200)).bnd fun x2 =>
 condB x2 (
 (buildV [(.int .i64 0), (.int .i64 0), (.str []), .nils, (.int .i64 0), (.int .i64 0)] []).bnd fun x3 =>
 (storeV base 6 v4 x3 h).bnd fun h4 =>
 (resB v4 h4 6 true).bnd fun r6 =>
 finV false false n0 [r6, (.int .i64 2)] h4) (
 (binOp .eql v0 (.int .i64 4)).bnd fun x8 =>
 condB x8 (
 (fieldAB v6 3).bnd fun x10 =>
 (storeV base 1 x10 v1 h).bnd fun h11 =>
 (loadV 6 true v6 h11).bnd fun x12 =>
 (storeV base 6 v4 x12 h11).bnd fun h13 =>
 (resB v4 h13 6 true).bnd fun r15 =>
 finV false false n0 [r15, (.int .i64 0)] h13) (
 (bytesStrB h v1).bnd fun x17 =>
 bnd2 (CallA T base 39 [x17] h) fun x18 h19 =>
 (extractB x18 0).bnd fun x21 =>
 (extractB x18 1).bnd fun x22 =>
 (unOp .not x22).bnd fun x26 =>
 condB x26 (
 (buildV [(.int .i64 0), (.int .i64 0), (.str []), .nils, (.int .i64 0), (.int .i64 0)] []).bnd fun x27 =>
 (storeV base 6 v4 x27 h19).bnd fun h28 =>
 (resB v4 h28 6 true).bnd fun r30 =>
 finV false false n0 [r30, (.int .i64 20)] h28) (
 (bytesStrB h19 v1).bnd fun x32 =>
 (fieldAB v6 2).bnd fun x33 =>
 (storeV base 1 x33 x32 h19).bnd fun h34 =>
 P21_2 base n0 v4 v6 h34)))) (
 (binOp .eql v13 (.int .i64 6)).bnd fun x35 =>
 condB x35 (
 (lenB false v1).bnd fun x38 =>
 (binOp .neq x38 (.int .i64 4)).bnd fun x39 =>
 condB x39 (
 (buildV [(.int .i64 0), (.int .i64 0), (.str []), .nils, (.int .i64 0), (.int .i64 0)] []).bnd fun x40 =>
 (storeV base 6 v4 x40 h).bnd fun h41 =>
 (resB v4 h41 6 true).bnd fun r43 =>
 finV false false n0 [r43, (.int .i64 20)] h41) (
 (idxAB v1 (.int .i64 0) 1).bnd fun x45 =>
 (loadV 1 false x45 h).bnd fun x46 =>
 (toIntB x46 .i64).bnd fun x47 =>
 (binOp .mul x47 (.int .i64 256)).bnd fun x48 =>
 (idxAB v1 (.int .i64 1) 1).bnd fun x50 =>
 (loadV 1 false x50 h).bnd fun x51 =>
 (toIntB x51 .i64).bnd fun x52 =>
 (binOp .add x48 x52).bnd fun x53 =>
 (fieldAB v6 4).bnd fun x54 =>
 (storeV base 1 x54 x53 h).bnd fun h55 =>
 (idxAB v1 (.int .i64 2) 1).bnd fun x57 =>
 (loadV 1 false x57 h55).bnd fun x58 =>
 (toIntB x58 .i64).bnd fun x59 =>
 (binOp .mul x59 (.int .i64 256)).bnd fun x60 =>
 (idxAB v1 (.int .i64 3) 1).bnd fun x62 =>
 (loadV 1 false x62 h55).bnd fun x63 =>
 (toIntB x63 .i64).bnd fun x64 =>
 (binOp .add x60 x64).bnd fun x65 =>
 (fieldAB v6 5).bnd fun x66 =>
 (storeV base 1 x66 x65 h55).bnd fun h67 =>
 P21_2 base n0 v4 v6 h67)) (
 (buildV [(.int .i64 0), (.int .i64 0), (.str []), .nils, (.int .i64 0), (.int .i64 0)] []).bnd fun x68 =>
 (storeV base 6 v4 x68 h).bnd fun h69 =>
 (resB v4 h69 6 true).bnd fun r71 =>
 finV false false n0 [r71, (.int .i64 70)] h69)) := (Pt_eq T F21 [1, 1, 0, 1, 0, 1, 1, 1, 1, 1, 1, 1] base n0 [(75, v75), (4, v4), (6, v6), (1, v1), (0, v0), (13, v13)] h).trans (by kernel_rfl)
theorem P21_4_eq (base n0 : Nat) (v8 v1 v7 v4 v6 : PV) (h : Hp) : P21_4 base n0 v8 v1 v7 v4 v6 h =
 (lenB false v1).bnd fun x2 =>
 (binOp .lss v8 x2).bnd fun x3 =>
 condB x3 (
 (binOp .mul v7 (.int .u64 256)).bnd fun x5 =>
 (idxAB v1 v8 1).bnd fun x8 =>
 (loadV 1 false x8 h).bnd fun x9 =>
 (toIntB x9 .u64).bnd fun x10 =>
 (binOp .add x5 x10).bnd fun x11 =>
 (binOp .add v8 (.int .i64 1)).bnd fun x14 =>
 P21_4 base n0 x14 v1 x11 v4 v6 h) (
 (toIntB v7 .i64).bnd fun x17 =>
 (fieldAB v6 1).bnd fun x18 =>
 (storeV base 1 x18 x17 h).bnd fun h19 =>
 P21_2 base n0 v4 v6 h19) := (Pt_eq T F21 [1, 1, 0, 1, 0, 1, 1, 0, 1, 1, 1, 1, 0, 1, 0, 1] base n0 [(8, v8), (1, v1), (7, v7), (4, v4), (6, v6)] h).trans (by kernel_rfl)
theorem S21 (base : Nat) (a0 a1 : PV) (h : Hp) : CallA T base 21 [a0, a1] h =
 allocK [(.int .i64 0), (.int .i64 0), (.str []), .nils, (.int .i64 0), (.int .i64 0)] h fun x0 h1 =>
 (buildV [(.int .i64 0), (.int .i64 0), (.str []), .nils, (.int .i64 0), (.int .i64 0)] [(0, 1, a0)]).bnd fun x4 =>
 allocK [(.int .i64 0), (.int .i64 0), (.str []), .nils, (.int .i64 0), (.int .i64 0)] h1 fun x5 h6 =>
 (storeV (size h) 6 x5 x4 h6).bnd fun h7 =>
 (binOp .eql a0 (.int .i64 1)).bnd fun x9 =>
 condB x9 (
 P21_0 (size h) (size h) x9 x0 a1 x5 a0 a0 h7) (
 (binOp .eql a0 (.int .i64 5)).bnd fun x11 =>
 P21_0 (size h) (size h) x11 x0 a1 x5 a0 a0 h7) := (Pt_enter T_21 base _ h).trans (by kernel_rfl)
theorem S22 (base : Nat) (a0 a1 : PV) (h : Hp) : CallA T base 22 [a0, a1] h =
 bnd2 (boxV 8 a0 h) fun x0 h1 =>
 bnd2 (orcQ (CallA T (size h)) 16 [a1] h1) fun x4 h5 => (fun y => if h5 = h1 then y else none) <|
 (fieldB x4 0 1 false).bnd fun x6 =>
 (fieldAB x0 1).bnd fun x7 =>
 (loadV 1 false x7 h1).bnd fun x8 =>
 (binOp .neq x6 x8).bnd fun x9 =>
 (wantB x9 false).bnd fun b12 => (whenB b12 (some a1) (some .undef)).bnd fun x11 =>
 (wantB x9 false).bnd fun b16 => (whenB b16 ((isnilV 2 false x11).bnd some) (some .undef)).bnd fun x15 =>
 (condB x9 (some (.bool true)) (some x15)).bnd fun x19 =>
 condB x19 (
 finV false false (size h) [(.int .i64 70)] h1) (
 bnd2 (CallA T (size h) 40 [a1] h1) fun x22 h23 =>
 (extractB x22 0).bnd fun x25 =>
 (extractB x22 1).bnd fun x26 =>
 (wantB x26 true).bnd fun b32 => (whenB b32 (some x25) (some .undef)).bnd fun x31 =>
 (wantB x26 true).bnd fun b36 => (whenB b36 ((fieldAB x0 5).bnd some) (some .undef)).bnd fun x35 =>
 (wantB x26 true).bnd fun b40 => (whenB b40 ((loadV 1 false x35 h23).bnd some) (some .undef)).bnd fun x39 =>
 (wantB x26 true).bnd fun b44 => (whenB b44 ((binOp .lss x31 x39).bnd some) (some .undef)).bnd fun x43 =>
 (wantB x26 true).bnd fun b48 => (whenB b48 (some x43) (some .undef)).bnd fun x47 =>
 (wantB x47 false).bnd fun b52 => (whenB b52 (some x25) (some .undef)).bnd fun x51 =>
 (wantB x47 false).bnd fun b56 => (whenB b56 ((fieldAB x0 6).bnd some) (some .undef)).bnd fun x55 =>
 (wantB x47 false).bnd fun b60 => (whenB b60 ((loadV 1 false x55 h23).bnd some) (some .undef)).bnd fun x59 =>
 (wantB x47 false).bnd fun b64 => (whenB b64 ((binOp .gtr x51 x59).bnd some) (some .undef)).bnd fun x63 =>
 (wantB x26 true).bnd fun b68 => (whenB b68 ((condB x47 (some (.bool true)) (some x63)).bnd some) (some .undef)).bnd fun x67 =>
 (condB x26 (some x67) (some (.bool false))).bnd fun x71 =>
 condB x71 (
 finV false false (size h) [(.int .i64 1)] h23) (
 finV false false (size h) [(.int .i64 0)] h23)) := (Pt_enter T_22 base _ h).trans (by kernel_rfl)
noncomputable def P23_0 (base n0 : Nat) (v2 v5 : PV) (h : Hp) : Option (PV × Hp) := Pt T F23 [1, 1, 1, 1, 1] base n0 [(2, v2), (5, v5)] h
theorem P23_0_eq (base n0 : Nat) (v2 v5 : PV) (h : Hp) : P23_0 base n0 v2 v5 h =
 (fieldAB v2 5).bnd fun x1 =>
 (loadV 1 false x1 h).bnd fun x2 =>
 (binOp .lss v5 x2).bnd fun x3 =>
 (wantB x3 false).bnd fun b6 => (whenB b6 (some v5) (some .undef)).bnd fun x5 =>
 (wantB x3 false).bnd fun b10 => (whenB b10 ((fieldAB v2 6).bnd some) (some .undef)).bnd fun x9 =>
 (wantB x3 false).bnd fun b14 => (whenB b14 ((loadV 1 false x9 h).bnd some) (some .undef)).bnd fun x13 =>
 (wantB x3 false).bnd fun b18 => (whenB b18 ((binOp .gtr x5 x13).bnd some) (some .undef)).bnd fun x17 =>
 (condB x3 (some (.bool true)) (some x17)).bnd fun x21 =>
 condB x21 (
 finV false false n0 [(.int .i64 1)] h) (
 finV false false n0 [(.int .i64 0)] h) := (Pt_eq T F23 [1, 1, 1, 1, 1] base n0 [(2, v2), (5, v5)] h).trans (by kernel_rfl)
theorem S23 (base : Nat) (a0 a1 : PV) (h : Hp) : CallA T base 23 [a0, a1] h =
 bnd2 (boxV 8 a0 h) fun x0 h1 =>
 bnd2 (boxV 6 a1 h1) fun x2 h3 =>
 (fieldAB x2 0).bnd fun x5 =>
 (loadV 1 false x5 h3).bnd fun x6 =>
 (fieldAB x0 1).bnd fun x7 =>
 (loadV 1 false x7 h3).bnd fun x8 =>
 (binOp .neq x6 x8).bnd fun x9 =>
 condB x9 (
 finV false false (size h) [(.int .i64 70)] h3) (
 (fieldAB x2 1).bnd fun x11 =>
 (loadV 1 false x11 h3).bnd fun x12 =>
 (fieldAB x2 0).bnd fun x14 =>
 (loadV 1 false x14 h3).bnd fun x15 =>
 (binOp .eql x15 (.int .i64 2)).bnd fun x16 =>
 condB x16 (
 condB x16 (
 finV false false (size h) [(.int .i64 0)] h3) (
 (binOp .eql x15 (.int .i64 3)).bnd fun x19 =>
 condB x19 (
 (fieldAB x2 2).bnd fun x21 =>
 (loadV 1 false x21 h3).bnd fun x22 =>
 (lenB true x22).bnd fun x23 =>
 P23_0 (size h) (size h) x0 x23 h3) (
 (binOp .eql x15 (.int .i64 4)).bnd fun x25 =>
 condB x25 (
 (fieldAB x2 3).bnd fun x27 =>
 (loadV 1 false x27 h3).bnd fun x28 =>
 (lenB false x28).bnd fun x29 =>
 P23_0 (size h) (size h) x0 x29 h3) (
 P23_0 (size h) (size h) x0 x12 h3)))) (
 (binOp .eql x15 (.int .i64 6)).bnd fun x31 =>
 condB x31 (
 finV false false (size h) [(.int .i64 0)] h3) (
 (binOp .eql x15 (.int .i64 3)).bnd fun x34 =>
 condB x34 (
 (fieldAB x2 2).bnd fun x36 =>
 (loadV 1 false x36 h3).bnd fun x37 =>
 (lenB true x37).bnd fun x38 =>
 P23_0 (size h) (size h) x0 x38 h3) (
 (binOp .eql x15 (.int .i64 4)).bnd fun x40 =>
 condB x40 (
 (fieldAB x2 3).bnd fun x42 =>
 (loadV 1 false x42 h3).bnd fun x43 =>
 (lenB false x43).bnd fun x44 =>
 P23_0 (size h) (size h) x0 x44 h3) (
 P23_0 (size h) (size h) x0 x12 h3))))) := (Pt_enter T_23 base _ h).trans (by kernel_rfl)
theorem S24 (base : Nat) (a0 a1 : PV) (h : Hp) : CallA T base 24 [a0, a1] h =
 bnd2 (CallA T (size h) 16 [a0] h) fun x2 h3 =>
 bnd2 (CallA T (size h) 16 [a1] h3) fun x5 h6 =>
 allocK [(.int .i64 0), (.int .i64 0), (.str []), .nils, (.int .i64 0), (.int .i64 0)] h6 fun x7 h8 =>
 allocK [(.int .i64 0), (.int .i64 0), (.str []), .nils, (.int .i64 0), (.int .i64 0)] h8 fun x9 h10 =>
 (storeV (size h) 6 x7 x2 h10).bnd fun h11 =>
 (storeV (size h) 6 x9 x5 h11).bnd fun h12 =>
 (fieldAB x7 0).bnd fun x13 =>
 (loadV 1 false x13 h12).bnd fun x14 =>
 (fieldAB x9 0).bnd fun x15 =>
 (loadV 1 false x15 h12).bnd fun x16 =>
 (binOp .eql x14 x16).bnd fun x17 =>
 (wantB x17 true).bnd fun b20 => (whenB b20 ((fieldAB x7 1).bnd some) (some .undef)).bnd fun x19 =>
 (wantB x17 true).bnd fun b24 => (whenB b24 ((loadV 1 false x19 h12).bnd some) (some .undef)).bnd fun x23 =>
 (wantB x17 true).bnd fun b28 => (whenB b28 ((fieldAB x9 1).bnd some) (some .undef)).bnd fun x27 =>
 (wantB x17 true).bnd fun b32 => (whenB b32 ((loadV 1 false x27 h12).bnd some) (some .undef)).bnd fun x31 =>
 (wantB x17 true).bnd fun b36 => (whenB b36 ((binOp .eql x23 x31).bnd some) (some .undef)).bnd fun x35 =>
 (condB x17 (some x35) (some (.bool false))).bnd fun x39 =>
 (wantB x39 true).bnd fun b42 => (whenB b42 ((fieldAB x7 2).bnd some) (some .undef)).bnd fun x41 =>
 (wantB x39 true).bnd fun b46 => (whenB b46 ((loadV 1 false x41 h12).bnd some) (some .undef)).bnd fun x45 =>
 (wantB x39 true).bnd fun b50 => (whenB b50 ((fieldAB x9 2).bnd some) (some .undef)).bnd fun x49 =>
 (wantB x39 true).bnd fun b54 => (whenB b54 ((loadV 1 false x49 h12).bnd some) (some .undef)).bnd fun x53 =>
 (wantB x39 true).bnd fun b58 => (whenB b58 ((binOp .eql x45 x53).bnd some) (some .undef)).bnd fun x57 =>
 (condB x39 (some x57) (some (.bool false))).bnd fun x61 =>
 (wantB x61 true).bnd fun b64 => (whenB b64 ((fieldAB x7 3).bnd some) (some .undef)).bnd fun x63 =>
 (wantB x61 true).bnd fun b68 => (whenB b68 ((loadV 1 false x63 h12).bnd some) (some .undef)).bnd fun x67 =>
 (wantB x61 true).bnd fun b72 => (whenB b72 ((fieldAB x9 3).bnd some) (some .undef)).bnd fun x71 =>
 (wantB x61 true).bnd fun b76 => (whenB b76 ((loadV 1 false x71 h12).bnd some) (some .undef)).bnd fun x75 =>
 (wantB x61 true).bnd fun b80 => bnd2 (whenB b80 (bnd2 (CallA T (size h) 41 [x67, x75] h12) fun x82 h81 => some (x82, h81)) (some (.undef, h12))) fun x79 h81 =>
 (condB x61 (some x79) (some (.bool false))).bnd fun x83 =>
 (wantB x83 true).bnd fun b86 => (whenB b86 ((fieldAB x7 4).bnd some) (some .undef)).bnd fun x85 =>
 (wantB x83 true).bnd fun b90 => (whenB b90 ((loadV 1 false x85 h81).bnd some) (some .undef)).bnd fun x89 =>
 (wantB x83 true).bnd fun b94 => (whenB b94 ((fieldAB x9 4).bnd some) (some .undef)).bnd fun x93 =>
 (wantB x83 true).bnd fun b98 => (whenB b98 ((loadV 1 false x93 h81).bnd some) (some .undef)).bnd fun x97 =>
 (wantB x83 true).bnd fun b102 => (whenB b102 ((binOp .eql x89 x97).bnd some) (some .undef)).bnd fun x101 =>
 (condB x83 (some x101) (some (.bool false))).bnd fun x105 =>
 (wantB x105 true).bnd fun b108 => (whenB b108 ((fieldAB x7 5).bnd some) (some .undef)).bnd fun x107 =>
 (wantB x105 true).bnd fun b112 => (whenB b112 ((loadV 1 false x107 h81).bnd some) (some .undef)).bnd fun x111 =>
 (wantB x105 true).bnd fun b116 => (whenB b116 ((fieldAB x9 5).bnd some) (some .undef)).bnd fun x115 =>
 (wantB x105 true).bnd fun b120 => (whenB b120 ((loadV 1 false x115 h81).bnd some) (some .undef)).bnd fun x119 =>
 (wantB x105 true).bnd fun b124 => (whenB b124 ((binOp .eql x111 x119).bnd some) (some .undef)).bnd fun x123 =>
 (condB x105 (some x123) (some (.bool false))).bnd fun x127 =>
 finV false false (size h) [x127] h81 := (Pt_enter T_24 base _ h).trans (by kernel_rfl)
noncomputable def P25_0 (base n0 : Nat) (v4 v0 v3 : PV) (h : Hp) : Option (PV × Hp) := Pt T F25 [1, 1, 0, 1, 0, 1] base n0 [(4, v4), (0, v0), (3, v3)] h
theorem P25_0_eq (base n0 : Nat) (v4 v0 v3 : PV) (h : Hp) : P25_0 base n0 v4 v0 v3 h =
 (lenB false v0).bnd fun x2 =>
 (binOp .lss v4 x2).bnd fun x3 =>
 condB x3 (
 (idxAB v0 v4 1).bnd fun x7 =>
 (loadV 1 false x7 h).bnd fun x8 =>
 (buildSlV 1 false [(.int .u8 0)] 1 [(0, strip x8)]).bnd fun x9 =>
 bnd2 (appTV 5 1 v3 x9 h) fun x10 h11 =>
 (binOp .add v4 (.int .i64 1)).bnd fun x14 =>
 P25_0 base n0 x14 v0 x10 h11) (
 finV false false n0 [v3] h) := (Pt_eq T F25 [1, 1, 0, 1, 0, 1] base n0 [(4, v4), (0, v0), (3, v3)] h).trans (by kernel_rfl)
theorem S25 (base : Nat) (a0 : PV) (h : Hp) : CallA T base 25 [a0] h =
 (buildSlV 1 false [(.int .u8 0)] 0 []).bnd fun x1 =>
 P25_0 (size h) (size h) (.int .i64 0) a0 x1 h := (Pt_enter T_25 base _ h).trans (by kernel_rfl)
theorem S26 (base : Nat) (a0 : PV) (h : Hp) : CallA T base 26 [a0] h =
 bnd2 (boxV 6 a0 h) fun x0 h1 =>
 (fieldAB x0 0).bnd fun x4 =>
 (loadV 1 false x4 h1).bnd fun x5 =>
 bnd2 (CallA T (size h) 42 [x5] h1) fun x6 h7 =>
 (unOp .not x6).bnd fun x8 =>
 condB x8 (
 finV false false (size h) [(.str []), (.int .i64 70)] h7) (
 (loadV 6 true x0 h7).bnd fun x12 =>
 bnd2 (CallA T (size h) 43 [x12] h7) fun x13 h14 =>
 (unOp .not x13).bnd fun x15 =>
 condB x15 (
 finV false false (size h) [(.str []), (.int .i64 1)] h14) (
 (fieldAB x0 0).bnd fun x19 =>
 (loadV 1 false x19 h14).bnd fun x20 =>
 (binOp .eql x20 (.int .i64 3)).bnd fun x21 =>
 condB x21 (
 (fieldAB x0 2).bnd fun x23 =>
 (loadV 1 false x23 h14).bnd fun x24 =>
 finV false false (size h) [x24, (.int .i64 0)] h14) (
 (binOp .eql x20 (.int .i64 4)).bnd fun x27 =>
 condB x27 (
 (fieldAB x0 3).bnd fun x29 =>
 (loadV 1 false x29 h14).bnd fun x30 =>
 bnd2 (CallA T (size h) 44 [x30] h14) fun x31 h32 =>
 finV false false (size h) [x31, (.int .i64 0)] h32) (
 (binOp .eql x20 (.int .i64 6)).bnd fun x35 =>
 condB x35 (
 (fieldAB x0 4).bnd fun x37 =>
 (loadV 1 false x37 h14).bnd fun x38 =>
 bnd2 (orcQ (CallA T (size h)) 30 [x38] h14) fun x39 h40 => (fun y => if h40 = h14 then y else none) <|
 (binOp .add x39 (.str [58])).bnd fun x41 =>
 (fieldAB x0 5).bnd fun x42 =>
 (loadV 1 false x42 h14).bnd fun x43 =>
 bnd2 (CallA T (size h) 30 [x43] h14) fun x44 h45 =>
 (binOp .add x41 x44).bnd fun x46 =>
 finV false false (size h) [x46, (.int .i64 0)] h45) (
 (fieldAB x0 1).bnd fun x49 =>
 (loadV 1 false x49 h14).bnd fun x50 =>
 bnd2 (CallA T (size h) 31 [x50, (.int .i64 10)] h14) fun x51 h52 =>
 finV false false (size h) [x51, (.int .i64 0)] h52))))) := (Pt_enter T_26 base _ h).trans (by kernel_rfl)
theorem S27 (base : Nat) (a0 : PV) (h : Hp) : CallA T base 27 [a0] h =
 (isnilV 1 false a0).bnd fun x2 =>
 condB x2 (
 finV false true (size h) [.nils] h) (
 (buildSlV 1 false [(.int .u8 0)] 0 []).bnd fun x4 =>
 bnd2 (appBoxV 1 x4 a0 h) fun x6 h7 =>
 finV false true (size h) [x6] h7) := (Pt_enter T_27 base _ h).trans (by kernel_rfl)
noncomputable def P28_0 (base n0 : Nat) (v57 v1 v56 : PV) (h : Hp) : Option (PV × Hp) := Pt T F28 [1, 1, 1, 0, 1, 0, 1, 1] base n0 [(57, v57), (1, v1), (56, v56)] h
theorem P28_0_eq (base n0 : Nat) (v57 v1 v56 : PV) (h : Hp) : P28_0 base n0 v57 v1 v56 h =
 condB v57 (
 finV false false n0 [(.bool true)] h) (
 (binOp .eql v56 (.int .i64 2)).bnd fun x1 =>
 condB x1 (
 (fieldAB v1 1).bnd fun x3 =>
 (loadV 1 false x3 h).bnd fun x4 =>
 (binOp .eql x4 (.int .i64 0)).bnd fun x5 =>
 (wantB x5 false).bnd fun b8 => (whenB b8 ((fieldAB v1 1).bnd some) (some .undef)).bnd fun x7 =>
 (wantB x5 false).bnd fun b12 => (whenB b12 ((loadV 1 false x7 h).bnd some) (some .undef)).bnd fun x11 =>
 (wantB x5 false).bnd fun b16 => (whenB b16 ((binOp .eql x11 (.int .i64 1)).bnd some) (some .undef)).bnd fun x15 =>
 (condB x5 (some (.bool true)) (some x15)).bnd fun x19 =>
 finV false false n0 [x19] h) (
 (binOp .eql v56 (.int .i64 3)).bnd fun x21 =>
 condB x21 (
 (fieldAB v1 2).bnd fun x23 =>
 (loadV 1 false x23 h).bnd fun x24 =>
 bnd2 (CallA T base 39 [x24] h) fun x25 h26 =>
 (extractB x25 0).bnd fun x28 =>
 (extractB x25 1).bnd fun x29 =>
 (wantB x29 true).bnd fun b35 => (whenB b35 ((fieldAB v1 2).bnd some) (some .undef)).bnd fun x34 =>
 (wantB x29 true).bnd fun b39 => (whenB b39 ((loadV 1 false x34 h26).bnd some) (some .undef)).bnd fun x38 =>
 (wantB x29 true).bnd fun b43 => (whenB b43 ((lenB true x38).bnd some) (some .undef)).bnd fun x42 =>
 (wantB x29 true).bnd fun b47 => (whenB b47 ((binOp .leq x42 (.int .i64 200)).bnd some) (some .undef)).bnd fun x46 =>
 (condB x29 (some x46) (some (.bool false))).bnd fun x50 =>
 finV false false n0 [x50] h26) (
 (binOp .eql v56 (.int .i64 4)).bnd fun x52 =>
 condB x52 (
 (fieldAB v1 3).bnd fun x54 =>
 (loadV 1 false x54 h).bnd fun x55 =>
 (lenB false x55).bnd fun x56 =>
 (binOp .leq x56 (.int .i64 200)).bnd fun x57 =>
 finV false false n0 [x57] h) (
 (binOp .eql v56 (.int .i64 6)).bnd fun x59 =>
 condB x59 (
 (fieldAB v1 4).bnd fun x61 =>
 (loadV 1 false x61 h).bnd fun x62 =>
 (binOp .geq x62 (.int .i64 0)).bnd fun x63 =>
 (wantB x63 true).bnd fun b66 => (whenB b66 ((fieldAB v1 4).bnd some) (some .undef)).bnd fun x65 =>
 (wantB x63 true).bnd fun b70 => (whenB b70 ((loadV 1 false x65 h).bnd some) (some .undef)).bnd fun x69 =>
 (wantB x63 true).bnd fun b74 => (whenB b74 ((binOp .leq x69 (.int .i64 65535)).bnd some) (some .undef)).bnd fun x73 =>
 (condB x63 (some x73) (some (.bool false))).bnd fun x77 =>
 (wantB x77 true).bnd fun b80 => (whenB b80 ((fieldAB v1 5).bnd some) (some .undef)).bnd fun x79 =>
 (wantB x77 true).bnd fun b84 => (whenB b84 ((loadV 1 false x79 h).bnd some) (some .undef)).bnd fun x83 =>
 (wantB x77 true).bnd fun b88 => (whenB b88 ((binOp .geq x83 (.int .i64 0)).bnd some) (some .undef)).bnd fun x87 =>
 (condB x77 (some x87) (some (.bool false))).bnd fun x91 =>
 (wantB x91 true).bnd fun b94 => (whenB b94 ((fieldAB v1 5).bnd some) (some .undef)).bnd fun x93 =>
 (wantB x91 true).bnd fun b98 => (whenB b98 ((loadV 1 false x93 h).bnd some) (some .undef)).bnd fun x97 =>
 (wantB x91 true).bnd fun b102 => (whenB b102 ((binOp .leq x97 (.int .i64 65535)).bnd some) (some .undef)).bnd fun x101 =>
 (condB x91 (some x101) (some (.bool false))).bnd fun x105 =>
 finV false false n0 [x105] h) (
 finV false false n0 [(.bool false)] h))))) := (Pt_eq T F28 [1, 1, 1, 0, 1, 0, 1, 1] base n0 [(57, v57), (1, v1), (56, v56)] h).trans (by kernel_rfl)
theorem S28 (base : Nat) (a0 : PV) (h : Hp) : CallA T base 28 [a0] h =
 bnd2 (boxV 6 a0 h) fun x0 h1 =>
 (fieldAB x0 0).bnd fun x3 =>
 (loadV 1 false x3 h1).bnd fun x4 =>
 (binOp .neq x4 (.int .i64 1)).bnd fun x7 =>
 (wantB x7 true).bnd fun b10 => (whenB b10 (some x4) (some .undef)).bnd fun x9 =>
 (wantB x7 true).bnd fun b14 => (whenB b14 ((binOp .neq x9 (.int .i64 2)).bnd some) (some .undef)).bnd fun x13 =>
 (condB x7 (some x13) (some (.bool false))).bnd fun x17 =>
 (wantB x17 true).bnd fun b20 => (whenB b20 (some x4) (some .undef)).bnd fun x19 =>
 (wantB x17 true).bnd fun b24 => (whenB b24 ((binOp .neq x19 (.int .i64 5)).bnd some) (some .undef)).bnd fun x23 =>
 (condB x17 (some x23) (some (.bool false))).bnd fun x27 =>
 (wantB x27 true).bnd fun b30 => (whenB b30 ((fieldAB x0 1).bnd some) (some .undef)).bnd fun x29 =>
 (wantB x27 true).bnd fun b34 => (whenB b34 ((loadV 1 false x29 h1).bnd some) (some .undef)).bnd fun x33 =>
 (wantB x27 true).bnd fun b38 => (whenB b38 ((binOp .neq x33 (.int .i64 0)).bnd some) (some .undef)).bnd fun x37 =>
 (condB x27 (some x37) (some (.bool false))).bnd fun x41 =>
 (wantB x41 false).bnd fun b44 => (whenB b44 (some x4) (some .undef)).bnd fun x43 =>
 (wantB x41 false).bnd fun b48 => (whenB b48 ((binOp .neq x43 (.int .i64 3)).bnd some) (some .undef)).bnd fun x47 =>
 (wantB x41 false).bnd fun b52 => (whenB b52 (some x47) (some .undef)).bnd fun x51 =>
 (wantB x51 true).bnd fun b56 => (whenB b56 ((fieldAB x0 2).bnd some) (some .undef)).bnd fun x55 =>
 (wantB x51 true).bnd fun b60 => (whenB b60 ((loadV 1 false x55 h1).bnd some) (some .undef)).bnd fun x59 =>
 (wantB x51 true).bnd fun b64 => (whenB b64 ((binOp .neq x59 (.str [])).bnd some) (some .undef)).bnd fun x63 =>
 (wantB x41 false).bnd fun b68 => (whenB b68 ((condB x51 (some x63) (some (.bool false))).bnd some) (some .undef)).bnd fun x67 =>
 (condB x41 (some (.bool true)) (some x67)).bnd fun x71 =>
 (wantB x71 false).bnd fun b74 => (whenB b74 (some x4) (some .undef)).bnd fun x73 =>
 (wantB x71 false).bnd fun b78 => (whenB b78 ((binOp .neq x73 (.int .i64 4)).bnd some) (some .undef)).bnd fun x77 =>
 (wantB x71 false).bnd fun b82 => (whenB b82 (some x77) (some .undef)).bnd fun x81 =>
 (wantB x81 true).bnd fun b86 => (whenB b86 ((fieldAB x0 3).bnd some) (some .undef)).bnd fun x85 =>
 (wantB x81 true).bnd fun b90 => (whenB b90 ((loadV 1 false x85 h1).bnd some) (some .undef)).bnd fun x89 =>
 (wantB x81 true).bnd fun b94 => (whenB b94 ((lenB false x89).bnd some) (some .undef)).bnd fun x93 =>
 (wantB x81 true).bnd fun b98 => (whenB b98 ((binOp .gtr x93 (.int .i64 0)).bnd some) (some .undef)).bnd fun x97 =>
 (wantB x71 false).bnd fun b102 => (whenB b102 ((condB x81 (some x97) (some (.bool false))).bnd some) (some .undef)).bnd fun x101 =>
 (condB x71 (some (.bool true)) (some x101)).bnd fun x105 =>
 (wantB x105 false).bnd fun b108 => (whenB b108 (some x4) (some .undef)).bnd fun x107 =>
 (wantB x105 false).bnd fun b112 => (whenB b112 ((binOp .neq x107 (.int .i64 6)).bnd some) (some .undef)).bnd fun x111 =>
 (wantB x105 false).bnd fun b116 => (whenB b116 (some x111) (some .undef)).bnd fun x115 =>
 (wantB x115 true).bnd fun b120 => (whenB b120 ((fieldAB x0 4).bnd some) (some .undef)).bnd fun x119 =>
 (wantB x115 true).bnd fun b124 => (whenB b124 ((loadV 1 false x119 h1).bnd some) (some .undef)).bnd fun x123 =>
 (wantB x115 true).bnd fun b128 => (whenB b128 ((binOp .neq x123 (.int .i64 0)).bnd some) (some .undef)).bnd fun x127 =>
 (wantB x115 true).bnd fun b132 => (whenB b132 (some x127) (some .undef)).bnd fun x131 =>
 (wantB x131 false).bnd fun b136 => (whenB b136 ((fieldAB x0 5).bnd some) (some .undef)).bnd fun x135 =>
 (wantB x131 false).bnd fun b140 => (whenB b140 ((loadV 1 false x135 h1).bnd some) (some .undef)).bnd fun x139 =>
 (wantB x131 false).bnd fun b144 => (whenB b144 ((binOp .neq x139 (.int .i64 0)).bnd some) (some .undef)).bnd fun x143 =>
 (wantB x115 true).bnd fun b148 => (whenB b148 ((condB x131 (some (.bool true)) (some x143)).bnd some) (some .undef)).bnd fun x147 =>
 (wantB x105 false).bnd fun b152 => (whenB b152 ((condB x115 (some x147) (some (.bool false))).bnd some) (some .undef)).bnd fun x151 =>
 (condB x105 (some (.bool true)) (some x151)).bnd fun x155 =>
 condB x155 (
 finV false false (size h) [(.bool false)] h1) (
 (binOp .eql x4 (.int .i64 1)).bnd fun x158 =>
 condB x158 (
 P28_0 (size h) (size h) x158 x0 x4 h1) (
 (binOp .eql x4 (.int .i64 5)).bnd fun x160 =>
 P28_0 (size h) (size h) x160 x0 x4 h1)) := (Pt_enter T_28 base _ h).trans (by kernel_rfl)
noncomputable def P29_0 (base n0 : Nat) (v3 v6 v5 v0 v4 : PV) (h : Hp) : Option (PV × Hp) := Pt T F29 [1, 1, 1, 0, 1, 0, 1] base n0 [(3, v3), (6, v6), (5, v5), (0, v0), (4, v4)] h
noncomputable def P29_1 (base n0 : Nat) (v4 v3 v5 v0 v6 : PV) (h : Hp) : Option (PV × Hp) := Pt T F29 [1, 1, 1, 0, 1, 0, 1, 0, 0, 1, 0, 0, 1, 1, 0, 0, 1] base n0 [(4, v4), (3, v3), (5, v5), (0, v0), (6, v6)] h
noncomputable def P29_2 (base n0 : Nat) (v3 : PV) (h : Hp) : Option (PV × Hp) := Pt T F29 [1, 1, 1, 1, 1, 1] base n0 [(3, v3)] h
noncomputable def P29_3 (base n0 : Nat) (v3 : PV) (h : Hp) : Option (PV × Hp) := Pt T F29 [1, 1, 1, 1, 1, 1, 0, 0, 1] base n0 [(3, v3)] h
theorem P29_0_eq (base n0 : Nat) (v3 v6 v5 v0 v4 : PV) (h : Hp) : P29_0 base n0 v3 v6 v5 v0 v4 h =
 (lenB false v0).bnd fun x2 =>
 (binOp .lss v6 x2).bnd fun x3 =>
 condB x3 (
 (binOp .mul v4 (.int .i64 256)).bnd fun x5 =>
 (idxAB v0 v6 1).bnd fun x8 =>
 (loadV 1 false x8 h).bnd fun x9 =>
 (toIntB x9 .i64).bnd fun x10 =>
 (binOp .add x5 x10).bnd fun x11 =>
 (binOp .add v5 (.int .i64 8)).bnd fun x14 =>
 P29_1 base n0 x11 v3 x14 v0 v6 h) (
 (binOp .gtr v5 (.int .i64 0)).bnd fun x17 =>
 condB x17 (
 (binOp .sub (.int .i64 6) v5).bnd fun x21 =>
 (binOp .shl v4 x21).bnd fun x22 =>
 (binOp .and x22 (.int .i64 63)).bnd fun x23 =>
 bnd2 (CallA T base 45 [x23] h) fun x24 h25 =>
 (buildSlV 1 false [(.int .u8 0)] 1 [(0, strip x24)]).bnd fun x26 =>
 bnd2 (appTV 5 1 v3 x26 h25) fun x27 h28 =>
 P29_2 base n0 x27 h28) (
 P29_2 base n0 v3 h)) := (Pt_eq T F29 [1, 1, 1, 0, 1, 0, 1] base n0 [(3, v3), (6, v6), (5, v5), (0, v0), (4, v4)] h).trans (by kernel_rfl)
theorem P29_1_eq (base n0 : Nat) (v4 v3 v5 v0 v6 : PV) (h : Hp) : P29_1 base n0 v4 v3 v5 v0 v6 h =
 (binOp .geq v5 (.int .i64 6)).bnd fun x1 =>
 condB x1 (
 (binOp .sub v5 (.int .i64 6)).bnd fun x3 =>
 (binOp .shr v4 x3).bnd fun x8 =>
 (binOp .and x8 (.int .i64 63)).bnd fun x9 =>
 bnd2 (CallA T base 45 [x9] h) fun x10 h11 =>
 (buildSlV 1 false [(.int .u8 0)] 1 [(0, strip x10)]).bnd fun x12 =>
 bnd2 (appTV 5 1 v3 x12 h11) fun x13 h14 =>
 P29_1 base n0 v4 x13 x3 v0 v6 h14) (
 (binOp .and v4 (.int .i64 63)).bnd fun x17 =>
 (binOp .add v6 (.int .i64 1)).bnd fun x20 =>
 P29_0 base n0 v3 x20 v5 v0 x17 h) := (Pt_eq T F29 [1, 1, 1, 0, 1, 0, 1, 0, 0, 1, 0, 0, 1, 1, 0, 0, 1] base n0 [(4, v4), (3, v3), (5, v5), (0, v0), (6, v6)] h).trans (by kernel_rfl)
theorem P29_2_eq (base n0 : Nat) (v3 : PV) (h : Hp) : P29_2 base n0 v3 h =
 P29_3 base n0 v3 h := (Pt_eq T F29 [1, 1, 1, 1, 1, 1] base n0 [(3, v3)] h).trans (by kernel_rfl)
theorem P29_3_eq (base n0 : Nat) (v3 : PV) (h : Hp) : P29_3 base n0 v3 h =
 (lenB false v3).bnd fun x1 =>
 (binOp .rem x1 (.int .i64 4)).bnd fun x2 =>
 (binOp .neq x2 (.int .i64 0)).bnd fun x3 =>
 condB x3 (
 (buildSlV 1 false [(.int .u8 0)] 1 [(0, strip (.int .u8 61))]).bnd fun x5 =>
 bnd2 (appTV 5 1 v3 x5 h) fun x6 h7 =>
 P29_3 base n0 x6 h7) (
 (bytesStrB h v3).bnd fun x10 =>
 finV false false n0 [x10] h) := (Pt_eq T F29 [1, 1, 1, 1, 1, 1, 0, 0, 1] base n0 [(3, v3)] h).trans (by kernel_rfl)
theorem S29 (base : Nat) (a0 : PV) (h : Hp) : CallA T base 29 [a0] h =
 (buildSlV 1 false [(.int .u8 0)] 0 []).bnd fun x1 =>
 P29_0 (size h) (size h) x1 (.int .i64 0) (.int .i64 0) a0 (.int .i64 0) h := (Pt_enter T_29 base _ h).trans (by kernel_rfl)
theorem S32 (base : Nat) (a0 : PV) (h : Hp) : CallA T base 32 [a0] h =
 condB a0 (
 finV false false (size h) [(.int .i64 1)] h) (
 finV false false (size h) [(.int .i64 0)] h) := (Pt_enter T_32 base _ h).trans (by kernel_rfl)
theorem S34 (base : Nat) (a0 : PV) (h : Hp) : CallA T base 34 [a0] h =
 (tassertB 62 false .nils a0).bnd fun x2 =>
 bnd2 (CallA T (size h) 27 [x2] h) fun x3 h4 =>
 finV false false (size h) [x3] h4 := (Pt_enter T_34 base _ h).trans (by kernel_rfl)
noncomputable def P35_0 (base n0 : Nat) (v10 v0 v1 v5 v9 : PV) (h : Hp) : Option (PV × Hp) := Pt T F35 [1, 1, 0, 1, 0, 1] base n0 [(10, v10), (0, v0), (1, v1), (5, v5), (9, v9)] h
theorem P35_0_eq (base n0 : Nat) (v10 v0 v1 v5 v9 : PV) (h : Hp) : P35_0 base n0 v10 v0 v1 v5 v9 h =
 (binOp .lss v10 v9).bnd fun x0 =>
 condB x0 (
 (binOp .sub v1 (.int .i64 1)).bnd fun x5 =>
 (binOp .sub x5 v10).bnd fun x7 =>
 (binOp .mul (.int .i64 8) v10).bnd fun x10 =>
 (binOp .shr v0 x10).bnd fun x11 =>
 (toIntB x11 .u8).bnd fun x12 =>
 (idxAB v5 x7 1).bnd fun x13 =>
 (storeV base 1 x13 x12 h).bnd fun h14 =>
 (binOp .add v10 (.int .i64 1)).bnd fun x15 =>
 P35_0 base n0 x15 v0 v1 v5 v9 h14) (
 finV false true n0 [v5] h) := (Pt_eq T F35 [1, 1, 0, 1, 0, 1] base n0 [(10, v10), (0, v0), (1, v1), (5, v5), (9, v9)] h).trans (by kernel_rfl)
theorem S35 (base : Nat) (a0 a1 : PV) (h : Hp) : CallA T base 35 [a0, a1] h =
 bnd2 (makeV 5 [(.int .u8 0)] a1 a1 h) fun x2 h3 =>
 P35_0 (size h) (size h) (.int .i64 0) a0 a1 x2 a1 h3 := (Pt_enter T_35 base _ h).trans (by kernel_rfl)
theorem S36 (base : Nat) (a0 : PV) (h : Hp) : CallA T base 36 [a0] h =
 (toIntB a0 .i8).bnd fun x3 =>
 (toIntB x3 .i64).bnd fun x4 =>
 (binOp .eql a0 x4).bnd fun x5 =>
 condB x5 (
 finV false false (size h) [(.int .i64 1)] h) (
 (toIntB a0 .i16).bnd fun x10 =>
 (toIntB x10 .i64).bnd fun x11 =>
 (binOp .eql a0 x11).bnd fun x12 =>
 condB x12 (
 finV false false (size h) [(.int .i64 2)] h) (
 (toIntB a0 .i32).bnd fun x17 =>
 (toIntB x17 .i64).bnd fun x18 =>
 (binOp .eql a0 x18).bnd fun x19 =>
 condB x19 (
 finV false false (size h) [(.int .i64 4)] h) (
 finV false false (size h) [(.int .i64 8)] h))) := (Pt_enter T_36 base _ h).trans (by kernel_rfl)
theorem S37 (base : Nat) (a0 a1 : PV) (h : Hp) : CallA T base 37 [a0, a1] h =
 (binOp .eql a1 (.int .i64 2)).bnd fun x3 =>
 condB x3 (
 (binOp .eql a1 (.int .i64 4)).bnd fun x6 =>
 condB x6 (
 (binOp .leq a0 (.int .i64 2147483647)).bnd fun x10 =>
 (wantB x10 true).bnd fun b13 => (whenB b13 (some a0) (some .undef)).bnd fun x12 =>
 (wantB x10 true).bnd fun b17 => (whenB b17 (some (.int .i64 2147483647)) (some .undef)).bnd fun x16 =>
 (wantB x10 true).bnd fun b21 => (whenB b21 ((unOp .neg x16).bnd some) (some .undef)).bnd fun x20 =>
 (wantB x10 true).bnd fun b25 => (whenB b25 ((binOp .sub x20 (.int .i64 1)).bnd some) (some .undef)).bnd fun x24 =>
 (wantB x10 true).bnd fun b29 => (whenB b29 ((binOp .geq x12 x24).bnd some) (some .undef)).bnd fun x28 =>
 (condB x10 (some x28) (some (.bool false))).bnd fun x32 =>
 finV false false (size h) [x32] h) (
 (binOp .leq a0 (.int .i64 32767)).bnd fun x36 =>
 (wantB x36 true).bnd fun b39 => (whenB b39 (some a0) (some .undef)).bnd fun x38 =>
 (wantB x36 true).bnd fun b43 => (whenB b43 (some (.int .i64 32767)) (some .undef)).bnd fun x42 =>
 (wantB x36 true).bnd fun b47 => (whenB b47 ((unOp .neg x42).bnd some) (some .undef)).bnd fun x46 =>
 (wantB x36 true).bnd fun b51 => (whenB b51 ((binOp .sub x46 (.int .i64 1)).bnd some) (some .undef)).bnd fun x50 =>
 (wantB x36 true).bnd fun b55 => (whenB b55 ((binOp .geq x38 x50).bnd some) (some .undef)).bnd fun x54 =>
 (condB x36 (some x54) (some (.bool false))).bnd fun x58 =>
 finV false false (size h) [x58] h)) (
 (binOp .eql a1 (.int .i64 4)).bnd fun x61 =>
 condB x61 (
 (binOp .leq a0 (.int .i64 2147483647)).bnd fun x65 =>
 (wantB x65 true).bnd fun b68 => (whenB b68 (some a0) (some .undef)).bnd fun x67 =>
 (wantB x65 true).bnd fun b72 => (whenB b72 (some (.int .i64 2147483647)) (some .undef)).bnd fun x71 =>
 (wantB x65 true).bnd fun b76 => (whenB b76 ((unOp .neg x71).bnd some) (some .undef)).bnd fun x75 =>
 (wantB x65 true).bnd fun b80 => (whenB b80 ((binOp .sub x75 (.int .i64 1)).bnd some) (some .undef)).bnd fun x79 =>
 (wantB x65 true).bnd fun b84 => (whenB b84 ((binOp .geq x67 x79).bnd some) (some .undef)).bnd fun x83 =>
 (condB x65 (some x83) (some (.bool false))).bnd fun x87 =>
 finV false false (size h) [x87] h) (
 (binOp .leq a0 (.int .i64 127)).bnd fun x91 =>
 (wantB x91 true).bnd fun b94 => (whenB b94 (some a0) (some .undef)).bnd fun x93 =>
 (wantB x91 true).bnd fun b98 => (whenB b98 (some (.int .i64 127)) (some .undef)).bnd fun x97 =>
 (wantB x91 true).bnd fun b102 => (whenB b102 ((unOp .neg x97).bnd some) (some .undef)).bnd fun x101 =>
 (wantB x91 true).bnd fun b106 => (whenB b106 ((binOp .sub x101 (.int .i64 1)).bnd some) (some .undef)).bnd fun x105 =>
 (wantB x91 true).bnd fun b110 => (whenB b110 ((binOp .geq x93 x105).bnd some) (some .undef)).bnd fun x109 =>
 (condB x91 (some x109) (some (.bool false))).bnd fun x113 =>
 finV false false (size h) [x113] h)) := (Pt_enter T_37 base _ h).trans (by kernel_rfl)
noncomputable def P38_0 (base n0 : Nat) (v12 v4 v6 v1 v7 v0 v10 : PV) (h : Hp) : Option (PV × Hp) := Pt T F38 [1, 1, 1, 0, 1, 0, 1, 1] base n0 [(12, v12), (4, v4), (6, v6), (1, v1), (7, v7), (0, v0), (10, v10)] h
noncomputable def P38_1 (base n0 : Nat) (v4 v6 v7 : PV) (h : Hp) : Option (PV × Hp) := Pt T F38 [1, 1, 1, 1, 1] base n0 [(4, v4), (6, v6), (7, v7)] h
noncomputable def P38_2 (base n0 : Nat) (v38 v4 v6 v7 v1 v0 v10 : PV) (h : Hp) : Option (PV × Hp) := Pt T F38 [1, 1, 1, 0, 1, 0, 1, 1, 1, 1, 1, 1, 1] base n0 [(38, v38), (4, v4), (6, v6), (7, v7), (1, v1), (0, v0), (10, v10)] h
theorem P38_0_eq (base n0 : Nat) (v12 v4 v6 v1 v7 v0 v10 : PV) (h : Hp) : P38_0 base n0 v12 v4 v6 v1 v7 v0 v10 h =
 condB v12 (
 bnd2 (CallA T base 48 [v1] h) fun x1 h2 =>
 (extractB x1 0).bnd fun x4 =>
 (extractB x1 1).bnd fun x5 =>
 (fieldAB v6 1).bnd fun x6 =>
 (storeV base 1 x6 x4 h2).bnd fun h7 =>
 P38_1 base n0 v4 v6 x5 h7) (
 (binOp .eql v10 (.int .i64 2)).bnd fun x9 =>
 condB x9 (
 (lenB false v1).bnd fun x12 =>
 (binOp .eql x12 (.int .i64 1)).bnd fun x13 =>
 (wantB x13 true).bnd fun b16 => (whenB b16 (some v1) (some .undef)).bnd fun x15 =>
 (wantB x13 true).bnd fun b20 => (whenB b20 ((idxAB x15 (.int .i64 0) 1).bnd some) (some .undef)).bnd fun x19 =>
 (wantB x13 true).bnd fun b24 => (whenB b24 ((loadV 1 false x19 h).bnd some) (some .undef)).bnd fun x23 =>
 (wantB x13 true).bnd fun b28 => (whenB b28 ((binOp .leq x23 (.int .u8 1)).bnd some) (some .undef)).bnd fun x27 =>
 (condB x13 (some x27) (some (.bool false))).bnd fun x31 =>
 condB x31 (
 (idxAB v1 (.int .i64 0) 1).bnd fun x35 =>
 (loadV 1 false x35 h).bnd fun x36 =>
 (toIntB x36 .i64).bnd fun x37 =>
 (fieldAB v6 1).bnd fun x38 =>
 (storeV base 1 x38 x37 h).bnd fun h39 =>
 P38_1 base n0 v4 v6 x31 h39) (
 P38_1 base n0 v4 v6 x31 h)) (
 (binOp .eql v10 (.int .i64 3)).bnd fun x40 =>
 condB x40 (
 P38_2 base n0 x40 v4 v6 v7 v1 v0 v10 h) (
 (binOp .eql v10 (.int .i64 4)).bnd fun x42 =>
 P38_2 base n0 x42 v4 v6 v7 v1 v0 v10 h))) := (Pt_eq T F38 [1, 1, 1, 0, 1, 0, 1, 1] base n0 [(12, v12), (4, v4), (6, v6), (1, v1), (7, v7), (0, v0), (10, v10)] h).trans (by kernel_rfl)
theorem P38_1_eq (base n0 : Nat) (v4 v6 v7 : PV) (h : Hp) : P38_1 base n0 v4 v6 v7 h =
 (unOp .not v7).bnd fun x1 =>
 condB x1 (
 (loadV 6 true v6 h).bnd fun x2 =>
 (storeV base 6 v4 x2 h).bnd fun h3 =>
 (resB v4 h3 6 true).bnd fun r5 =>
 finV false false n0 [r5, (.int .i64 20)] h3) (
 (loadV 6 true v6 h).bnd fun x6 =>
 (storeV base 6 v4 x6 h).bnd fun h7 =>
 (resB v4 h7 6 true).bnd fun r9 =>
 finV false false n0 [r9, (.int .i64 0)] h7) := (Pt_eq T F38 [1, 1, 1, 1, 1] base n0 [(4, v4), (6, v6), (7, v7)] h).trans (by kernel_rfl)
theorem P38_2_eq (base n0 : Nat) (v38 v4 v6 v7 v1 v0 v10 : PV) (h : Hp) : P38_2 base n0 v38 v4 v6 v7 v1 v0 v10 h =
 condB v38 (
 (lenB false v1).bnd fun x1 =>
 (binOp .gtr x1 (.int .i64 200)).bnd fun x2 =>
 condB x2 (
 (loadV 6 true v6 h).bnd fun x3 =>
 (storeV base 6 v4 x3 h).bnd fun h4 =>
 (resB v4 h4 6 true).bnd fun r6 =>
 finV false false n0 [r6, (.int .i64 2)] h4) (
 (binOp .eql v0 (.int .i64 4)).bnd fun x8 =>
 condB x8 (
 (fieldAB v6 3).bnd fun x10 =>
 (storeV base 1 x10 v1 h).bnd fun h11 =>
 P38_1 base n0 v4 v6 v7 h11) (
 (bytesStrB h v1).bnd fun x13 =>
 bnd2 (CallA T base 49 [x13] h) fun x14 h15 =>
 (extractB x14 0).bnd fun x17 =>
 (extractB x14 1).bnd fun x18 =>
 (bytesStrB h15 v1).bnd fun x21 =>
 (fieldAB v6 2).bnd fun x22 =>
 (storeV base 1 x22 x21 h15).bnd fun h23 =>
 P38_1 base n0 v4 v6 x18 h23))) (
 (binOp .eql v10 (.int .i64 6)).bnd fun x24 =>
 condB x24 (
 (lenB false v1).bnd fun x27 =>
 (binOp .eql x27 (.int .i64 4)).bnd fun x28 =>
 condB x28 (
 (idxAB v1 (.int .i64 0) 1).bnd fun x32 =>
 (loadNV 1 false v6 x32 h).bnd fun x33 =>
 (toIntB x33 .i64).bnd fun x34 =>
 (binOp .shl x34 (.int .u64 8)).bnd fun x35 =>
 (idxAB v1 (.int .i64 1) 1).bnd fun x37 =>
 (loadNV 1 false v6 x37 h).bnd fun x38 =>
 (toIntB x38 .i64).bnd fun x39 =>
 (binOp .or x35 x39).bnd fun x40 =>
 (idxAB v1 (.int .i64 2) 1).bnd fun x42 =>
 (loadNV 1 false v6 x42 h).bnd fun x43 =>
 (toIntB x43 .i64).bnd fun x44 =>
 (binOp .shl x44 (.int .u64 8)).bnd fun x45 =>
 (idxAB v1 (.int .i64 3) 1).bnd fun x47 =>
 (loadNV 1 false v6 x47 h).bnd fun x48 =>
 (toIntB x48 .i64).bnd fun x49 =>
 (binOp .or x45 x49).bnd fun x50 =>
 (fieldAB v6 4).bnd fun x51 =>
 (storeNV base 1 v6 x51 x40 h).bnd fun h52 =>
 (fieldAB v6 5).bnd fun x53 =>
 (storeNV base 1 v6 x53 x50 h52).bnd fun h54 =>
 P38_1 base n0 v4 v6 x28 h54) (
 P38_1 base n0 v4 v6 x28 h)) (
 (loadV 6 true v6 h).bnd fun x55 =>
 (storeV base 6 v4 x55 h).bnd fun h56 =>
 (resB v4 h56 6 true).bnd fun r58 =>
 finV false false n0 [r58, (.int .i64 70)] h56)) := (Pt_eq T F38 [1, 1, 1, 0, 1, 0, 1, 1, 1, 1, 1, 1, 1] base n0 [(38, v38), (4, v4), (6, v6), (7, v7), (1, v1), (0, v0), (10, v10)] h).trans (by kernel_rfl)
theorem S38 (base : Nat) (a0 a1 : PV) (h : Hp) : CallA T base 38 [a0, a1] h =
 allocK [(.int .i64 0), (.int .i64 0), (.str []), .nils, (.int .i64 0), (.int .i64 0)] h fun x0 h1 =>
 (buildV [(.int .i64 0), (.int .i64 0), (.str []), .nils, (.int .i64 0), (.int .i64 0)] [(0, 1, a0)]).bnd fun x4 =>
 allocK [(.int .i64 0), (.int .i64 0), (.str []), .nils, (.int .i64 0), (.int .i64 0)] h1 fun x5 h6 =>
 (storeV (size h) 6 x5 x4 h6).bnd fun h7 =>
 (binOp .eql a0 (.int .i64 1)).bnd fun x10 =>
 condB x10 (
 P38_0 (size h) (size h) x10 x0 x5 a1 (.bool true) a0 a0 h7) (
 (binOp .eql a0 (.int .i64 5)).bnd fun x12 =>
 P38_0 (size h) (size h) x12 x0 x5 a1 (.bool true) a0 a0 h7) := (Pt_enter T_38 base _ h).trans (by kernel_rfl)
noncomputable def P39_0 (base n0 : Nat) (v4 v0 : PV) (h : Hp) : Option (PV × Hp) := Pt T F39 [1, 1, 0, 0, 1] base n0 [(4, v4), (0, v0)] h
theorem P39_0_eq (base n0 : Nat) (v4 v0 : PV) (h : Hp) : P39_0 base n0 v4 v0 h =
 (lenB true v0).bnd fun x1 =>
 (binOp .gtr x1 (.int .i64 0)).bnd fun x2 =>
 condB x2 (
 bnd2 (CallA T base 50 [v0] h) fun x4 h5 =>
 (extractB x4 0).bnd fun x7 =>
 (extractB x4 1).bnd fun x8 =>
 (binOp .eql x7 (.int .i64 0)).bnd fun x12 =>
 (wantB x12 false).bnd fun b15 => (whenB b15 (some x8) (some .undef)).bnd fun x14 =>
 (wantB x12 false).bnd fun b19 => (whenB b19 ((binOp .lss x14 (.int .i64 32)).bnd some) (some .undef)).bnd fun x18 =>
 (condB x12 (some (.bool true)) (some x18)).bnd fun x22 =>
 (wantB x22 false).bnd fun b25 => (whenB b25 (some x8) (some .undef)).bnd fun x24 =>
 (wantB x22 false).bnd fun b29 => (whenB b29 ((binOp .eql x24 (.int .i64 127)).bnd some) (some .undef)).bnd fun x28 =>
 (condB x22 (some (.bool true)) (some x28)).bnd fun x32 =>
 condB x32 (
 finV false false n0 [(.int .i64 0), (.bool false)] h5) (
 (sliceV none (some x7) none none v0).bnd fun x37 =>
 (binOp .add v4 (.int .i64 1)).bnd fun x40 =>
 P39_0 base n0 x40 x37 h5)) (
 finV false false n0 [v4, (.bool true)] h) := (Pt_eq T F39 [1, 1, 0, 0, 1] base n0 [(4, v4), (0, v0)] h).trans (by kernel_rfl)
theorem S39 (base : Nat) (a0 : PV) (h : Hp) : CallA T base 39 [a0] h =
 P39_0 (size h) (size h) (.int .i64 0) a0 h := (Pt_enter T_39 base _ h).trans (by kernel_rfl)
theorem S40 (base : Nat) (a0 : PV) (h : Hp) : CallA T base 40 [a0] h =
 (tassertB 61 true (.str []) a0).bnd fun x3 =>
 (extractB x3 0).bnd fun x5 =>
 (extractB x3 1).bnd fun x6 =>
 condB x6 (
 (lenB true x5).bnd fun x11 =>
 finV false false (size h) [x11, (.bool true)] h) (
 (tassertB 62 true .nils a0).bnd fun x15 =>
 (extractB x15 0).bnd fun x17 =>
 (extractB x15 1).bnd fun x18 =>
 condB x18 (
 (lenB false x17).bnd fun x23 =>
 finV false false (size h) [x23, (.bool true)] h) (
 (tassertB 60 true (.bool false) a0).bnd fun x27 =>
 (extractB x27 0).bnd fun x29 =>
 (extractB x27 1).bnd fun x30 =>
 condB x30 (
 finV false false (size h) [(.int .i64 0), (.bool false)] h) (
 bnd2 (CallA T (size h) 12 [a0] h) fun x37 h38 =>
 (extractB x37 0).bnd fun x39 =>
 (extractB x37 1).bnd fun x40 =>
 finV false false (size h) [x39, x40] h38))) := (Pt_enter T_40 base _ h).trans (by kernel_rfl)
theorem S41 (base : Nat) (a0 a1 : PV) (h : Hp) : CallA T base 41 [a0, a1] h =
 (bytesStrB h a0).bnd fun x2 =>
 (bytesStrB h a1).bnd fun x4 =>
 (binOp .eql x2 x4).bnd fun x5 =>
 finV false false (size h) [x5] h := (Pt_enter T_41 base _ h).trans (by kernel_rfl)
theorem S42 (base : Nat) (a0 : PV) (h : Hp) : CallA T base 42 [a0] h =
 (binOp .geq a0 (.int .i64 1)).bnd fun x2 =>
 (wantB x2 true).bnd fun b5 => (whenB b5 (some a0) (some .undef)).bnd fun x4 =>
 (wantB x2 true).bnd fun b9 => (whenB b9 ((binOp .leq x4 (.int .i64 6)).bnd some) (some .undef)).bnd fun x8 =>
 (condB x2 (some x8) (some (.bool false))).bnd fun x12 =>
 finV false false (size h) [x12] h := (Pt_enter T_42 base _ h).trans (by kernel_rfl)
noncomputable def P43_0 (base n0 : Nat) (v9 v1 v8 : PV) (h : Hp) : Option (PV × Hp) := Pt T F43 [1, 1, 0, 1, 0, 1, 1] base n0 [(9, v9), (1, v1), (8, v8)] h
theorem P43_0_eq (base n0 : Nat) (v9 v1 v8 : PV) (h : Hp) : P43_0 base n0 v9 v1 v8 h =
 condB v9 (
 finV false false n0 [(.bool true)] h) (
 (binOp .eql v8 (.int .i64 2)).bnd fun x1 =>
 condB x1 (
 (fieldAB v1 1).bnd fun x3 =>
 (loadV 1 false x3 h).bnd fun x4 =>
 (binOp .eql x4 (.int .i64 0)).bnd fun x5 =>
 (wantB x5 false).bnd fun b8 => (whenB b8 ((fieldAB v1 1).bnd some) (some .undef)).bnd fun x7 =>
 (wantB x5 false).bnd fun b12 => (whenB b12 ((loadV 1 false x7 h).bnd some) (some .undef)).bnd fun x11 =>
 (wantB x5 false).bnd fun b16 => (whenB b16 ((binOp .eql x11 (.int .i64 1)).bnd some) (some .undef)).bnd fun x15 =>
 (condB x5 (some (.bool true)) (some x15)).bnd fun x19 =>
 finV false false n0 [x19] h) (
 (binOp .eql v8 (.int .i64 3)).bnd fun x21 =>
 condB x21 (
 (fieldAB v1 2).bnd fun x23 =>
 (loadV 1 false x23 h).bnd fun x24 =>
 bnd2 (CallA T base 49 [x24] h) fun x25 h26 =>
 (extractB x25 0).bnd fun x28 =>
 (extractB x25 1).bnd fun x29 =>
 (wantB x29 true).bnd fun b35 => (whenB b35 ((fieldAB v1 2).bnd some) (some .undef)).bnd fun x34 =>
 (wantB x29 true).bnd fun b39 => (whenB b39 ((loadV 1 false x34 h26).bnd some) (some .undef)).bnd fun x38 =>
 (wantB x29 true).bnd fun b43 => (whenB b43 ((lenB true x38).bnd some) (some .undef)).bnd fun x42 =>
 (wantB x29 true).bnd fun b47 => (whenB b47 ((binOp .leq x42 (.int .i64 200)).bnd some) (some .undef)).bnd fun x46 =>
 (condB x29 (some x46) (some (.bool false))).bnd fun x50 =>
 finV false false n0 [x50] h26) (
 (binOp .eql v8 (.int .i64 4)).bnd fun x52 =>
 condB x52 (
 (fieldAB v1 3).bnd fun x54 =>
 (loadV 1 false x54 h).bnd fun x55 =>
 (lenB false x55).bnd fun x56 =>
 (binOp .leq x56 (.int .i64 200)).bnd fun x57 =>
 finV false false n0 [x57] h) (
 (binOp .eql v8 (.int .i64 6)).bnd fun x59 =>
 condB x59 (
 (fieldAB v1 4).bnd fun x61 =>
 (loadV 1 false x61 h).bnd fun x62 =>
 bnd2 (CallA T base 52 [x62] h) fun x63 h64 =>
 (wantB x63 true).bnd fun b67 => (whenB b67 ((fieldAB v1 5).bnd some) (some .undef)).bnd fun x66 =>
 (wantB x63 true).bnd fun b71 => (whenB b71 ((loadV 1 false x66 h64).bnd some) (some .undef)).bnd fun x70 =>
 (wantB x63 true).bnd fun b75 => bnd2 (whenB b75 (bnd2 (CallA T base 52 [x70] h64) fun x77 h76 => some (x77, h76)) (some (.undef, h64))) fun x74 h76 =>
 (condB x63 (some x74) (some (.bool false))).bnd fun x78 =>
 finV false false n0 [x78] h76) (
 finV false false n0 [(.bool false)] h))))) := (Pt_eq T F43 [1, 1, 0, 1, 0, 1, 1] base n0 [(9, v9), (1, v1), (8, v8)] h).trans (by kernel_rfl)
theorem S43 (base : Nat) (a0 : PV) (h : Hp) : CallA T base 43 [a0] h =
 bnd2 (boxV 6 a0 h) fun x0 h1 =>
 (loadV 6 true x0 h1).bnd fun x3 =>
 bnd2 (CallA T (size h) 51 [x3] h1) fun x4 h5 =>
 condB x4 (
 finV false false (size h) [(.bool false)] h5) (
 (fieldAB x0 0).bnd fun x7 =>
 (loadV 1 false x7 h5).bnd fun x8 =>
 (binOp .eql x8 (.int .i64 1)).bnd fun x9 =>
 condB x9 (
 P43_0 (size h) (size h) x9 x0 x8 h5) (
 (binOp .eql x8 (.int .i64 5)).bnd fun x11 =>
 P43_0 (size h) (size h) x11 x0 x8 h5)) := (Pt_enter T_43 base _ h).trans (by kernel_rfl)
noncomputable def P44_0 (base n0 : Nat) (v0 v3 : PV) (h : Hp) : Option (PV × Hp) := Pt T F44 [1, 1, 0, 0, 1] base n0 [(0, v0), (3, v3)] h
noncomputable def P44_1 (base n0 : Nat) (v14 v0 v4 v5 v3 : PV) (h : Hp) : Option (PV × Hp) := Pt T F44 [1, 1, 0, 0, 1, 0, 0, 1, 0, 1, 1, 0, 1, 0, 1] base n0 [(14, v14), (0, v0), (4, v4), (5, v5), (3, v3)] h
noncomputable def P44_2 (base n0 : Nat) (v30 v3 v5 v4 v0 : PV) (h : Hp) : Option (PV × Hp) := Pt T F44 [1, 1, 0, 0, 1, 0, 0, 1, 0, 1, 1, 1, 0, 1, 0, 1] base n0 [(30, v30), (3, v3), (5, v5), (4, v4), (0, v0)] h
theorem P44_0_eq (base n0 : Nat) (v0 v3 : PV) (h : Hp) : P44_0 base n0 v0 v3 h =
 (lenB false v0).bnd fun x1 =>
 (binOp .gtr x1 (.int .i64 0)).bnd fun x2 =>
 condB x2 (
 (lenB false v0).bnd fun x4 =>
 (minmaxV false [x4, (.int .i64 3)]).bnd fun x5 =>
 P44_1 base n0 (.int .i64 0) v0 x5 (.int .u32 0) v3 h) (
 bnd2 (CallA T base 54 [v3] h) fun x9 h10 =>
 finV false false n0 [x9] h10) := (Pt_eq T F44 [1, 1, 0, 0, 1] base n0 [(0, v0), (3, v3)] h).trans (by kernel_rfl)
theorem P44_1_eq (base n0 : Nat) (v14 v0 v4 v5 v3 : PV) (h : Hp) : P44_1 base n0 v14 v0 v4 v5 v3 h =
 (binOp .lss v14 (.int .i64 3)).bnd fun x0 =>
 condB x0 (
 (binOp .shl v5 (.int .u64 8)).bnd fun x4 =>
 (binOp .lss v14 v4).bnd fun x8 =>
 condB x8 (
 (idxAB v0 v14 1).bnd fun x12 =>
 (loadV 1 false x12 h).bnd fun x13 =>
 (toIntB x13 .u32).bnd fun x14 =>
 (binOp .or x4 x14).bnd fun x15 =>
 (binOp .add v14 (.int .i64 1)).bnd fun x17 =>
 P44_1 base n0 x17 v0 v4 x15 v3 h) (
 (binOp .add v14 (.int .i64 1)).bnd fun x19 =>
 P44_1 base n0 x19 v0 v4 x4 v3 h)) (
 P44_2 base n0 (.int .i64 0) v3 v5 v4 v0 h) := (Pt_eq T F44 [1, 1, 0, 0, 1, 0, 0, 1, 0, 1, 1, 0, 1, 0, 1] base n0 [(14, v14), (0, v0), (4, v4), (5, v5), (3, v3)] h).trans (by kernel_rfl)
theorem P44_2_eq (base n0 : Nat) (v30 v3 v5 v4 v0 : PV) (h : Hp) : P44_2 base n0 v30 v3 v5 v4 v0 h =
 (binOp .lss v30 (.int .i64 4)).bnd fun x0 =>
 condB x0 (
 (binOp .gtr v30 v4).bnd fun x5 =>
 condB x5 (
 bnd2 (CallA T base 53 [v3, (.int .u8 61)] h) fun x6 h7 =>
 (binOp .add v30 (.int .i64 1)).bnd fun x8 =>
 P44_2 base n0 x8 v3 v5 v4 v0 h7) (
 (binOp .mul (.int .i64 6) v30).bnd fun x12 =>
 (binOp .sub (.int .i64 18) x12).bnd fun x13 =>
 (binOp .shr v5 x13).bnd fun x14 =>
 (binOp .and x14 (.int .u32 63)).bnd fun x15 =>
 (idxStrB (.str [65, 66, 67, 68, 69, 70, 71, 72, 73, 74, 75, 76, 77, 78, 79, 80, 81, 82, 83, 84, 85, 86, 87, 88, 89, 90, 97, 98, 99, 100, 101, 102, 103, 104, 105, 106, 107, 108, 109, 110, 111, 112, 113, 114, 115, 116, 117, 118, 119, 120, 121, 122, 48, 49, 50, 51, 52, 53, 54, 55, 56, 57, 43, 47]) x15).bnd fun x16 =>
 bnd2 (CallA T base 53 [v3, x16] h) fun x17 h18 =>
 (binOp .add v30 (.int .i64 1)).bnd fun x19 =>
 P44_2 base n0 x19 v3 v5 v4 v0 h18)) (
 (sliceV (some 1) (some v4) none none v0).bnd fun x23 =>
 P44_0 base n0 x23 v3 h) := (Pt_eq T F44 [1, 1, 0, 0, 1, 0, 0, 1, 0, 1, 1, 1, 0, 1, 0, 1] base n0 [(30, v30), (3, v3), (5, v5), (4, v4), (0, v0)] h).trans (by kernel_rfl)
theorem S44 (base : Nat) (a0 : PV) (h : Hp) : CallA T base 44 [a0] h =
 allocK [(.bnil 94), .nils] h fun x1 h2 =>
 P44_0 (size h) (size h) a0 x1 h2 := (Pt_enter T_44 base _ h).trans (by kernel_rfl)
theorem S45 (base : Nat) (a0 : PV) (h : Hp) : CallA T base 45 [a0] h =
 (binOp .lss a0 (.int .i64 26)).bnd fun x2 =>
 condB x2 (
 (binOp .add (.int .i64 65) a0).bnd fun x5 =>
 (toIntB x5 .u8).bnd fun x6 =>
 finV false false (size h) [x6] h) (
 (binOp .lss a0 (.int .i64 52)).bnd fun x9 =>
 condB x9 (
 (binOp .add (.int .i64 97) a0).bnd fun x12 =>
 (binOp .sub x12 (.int .i64 26)).bnd fun x13 =>
 (toIntB x13 .u8).bnd fun x14 =>
 finV false false (size h) [x14] h) (
 (binOp .lss a0 (.int .i64 62)).bnd fun x17 =>
 condB x17 (
 (binOp .add (.int .i64 48) a0).bnd fun x20 =>
 (binOp .sub x20 (.int .i64 52)).bnd fun x21 =>
 (toIntB x21 .u8).bnd fun x22 =>
 finV false false (size h) [x22] h) (
 (binOp .eql a0 (.int .i64 62)).bnd fun x25 =>
 condB x25 (
 finV false false (size h) [(.int .u8 43)] h) (
 finV false false (size h) [(.int .u8 47)] h)))) := (Pt_enter T_45 base _ h).trans (by kernel_rfl)
noncomputable def P48_0 (base n0 : Nat) (v20 v4 v18 v19 : PV) (h : Hp) : Option (PV × Hp) := Pt T F48 [1, 1, 1, 0, 1, 0, 1] base n0 [(20, v20), (4, v4), (18, v18), (19, v19)] h
theorem P48_0_eq (base n0 : Nat) (v20 v4 v18 v19 : PV) (h : Hp) : P48_0 base n0 v20 v4 v18 v19 h =
 (binOp .lss v20 v19).bnd fun x0 =>
 condB x0 (
 (idxAB v18 v20 1).bnd fun x1 =>
 (loadV 1 false x1 h).bnd fun x2 =>
 (binOp .shl v4 (.int .u64 8)).bnd fun x5 =>
 (toIntB x2 .i64).bnd fun x7 =>
 (binOp .or x5 x7).bnd fun x8 =>
 (binOp .add v20 (.int .i64 1)).bnd fun x10 =>
 P48_0 base n0 x10 x8 v18 v19 h) (
 finV false false n0 [v4, (.bool true)] h) := (Pt_eq T F48 [1, 1, 1, 0, 1, 0, 1] base n0 [(20, v20), (4, v4), (18, v18), (19, v19)] h).trans (by kernel_rfl)
theorem S48 (base : Nat) (a0 : PV) (h : Hp) : CallA T base 48 [a0] h =
 (buildSlV 1 false [(.int .i64 0)] 4 [(0, strip (.int .i64 1)), (1, strip (.int .i64 2)), (2, strip (.int .i64 4)), (3, strip (.int .i64 8))]).bnd fun x2 =>
 (lenB false a0).bnd fun x4 =>
 bnd2 (CallA T (size h) 59 [x2, x4] h) fun x5 h6 =>
 (unOp .not x5).bnd fun x7 =>
 condB x7 (
 finV false false (size h) [(.int .i64 0), (.bool false)] h6) (
 (idxAB a0 (.int .i64 0) 1).bnd fun x11 =>
 (loadV 1 false x11 h6).bnd fun x12 =>
 (toIntB x12 .i8).bnd fun x13 =>
 (toIntB x13 .i64).bnd fun x14 =>
 (sliceV (some 1) (some (.int .i64 1)) none none a0).bnd fun x17 =>
 (lenB false x17).bnd fun x18 =>
 P48_0 (size h) (size h) (.int .i64 0) x14 x17 x18 h6) := (Pt_enter T_48 base _ h).trans (by kernel_rfl)
noncomputable def P49_0 (base n0 : Nat) (v4 v0 v10 : PV) (h : Hp) : Option (PV × Hp) := Pt T F49 [1, 1, 0, 1, 0, 1] base n0 [(4, v4), (0, v0), (10, v10)] h
theorem P49_0_eq (base n0 : Nat) (v4 v0 v10 : PV) (h : Hp) : P49_0 base n0 v4 v0 v10 h =
 bnd2 (nextB v10 h) fun x0 h1 =>
 (extractB x0 0).bnd fun x2 =>
 condB x2 (
 (extractB x0 1).bnd fun x3 =>
 (extractB x0 2).bnd fun x4 =>
 (sliceV none (some x3) none none v0).bnd fun x9 =>
 bnd2 (CallA T base 60 [x9] h1) fun x10 h11 =>
 (extractB x10 0).bnd fun x13 =>
 (extractB x10 1).bnd fun x14 =>
 (binOp .eql x4 (.int .i32 65533)).bnd fun x18 =>
 (wantB x18 true).bnd fun b21 => (whenB b21 (some x14) (some .undef)).bnd fun x20 =>
 (wantB x18 true).bnd fun b25 => (whenB b25 ((binOp .eql x20 (.int .i64 1)).bnd some) (some .undef)).bnd fun x24 =>
 (condB x18 (some x24) (some (.bool false))).bnd fun x28 =>
 (wantB x28 false).bnd fun b31 => (whenB b31 (some x4) (some .undef)).bnd fun x30 =>
 (wantB x28 false).bnd fun b35 => (whenB b35 ((binOp .lss x30 (.int .i32 32)).bnd some) (some .undef)).bnd fun x34 =>
 (condB x28 (some (.bool true)) (some x34)).bnd fun x38 =>
 (wantB x38 false).bnd fun b41 => (whenB b41 (some x4) (some .undef)).bnd fun x40 =>
 (wantB x38 false).bnd fun b45 => (whenB b45 ((binOp .eql x40 (.int .i32 127)).bnd some) (some .undef)).bnd fun x44 =>
 (condB x38 (some (.bool true)) (some x44)).bnd fun x48 =>
 condB x48 (
 finV false false n0 [(.int .i64 0), (.bool false)] h11) (
 (binOp .add v4 (.int .i64 1)).bnd fun x52 =>
 P49_0 base n0 x52 v0 v10 h11)) (
 finV false false n0 [v4, (.bool true)] h1) := (Pt_eq T F49 [1, 1, 0, 1, 0, 1] base n0 [(4, v4), (0, v0), (10, v10)] h).trans (by kernel_rfl)
theorem S49 (base : Nat) (a0 : PV) (h : Hp) : CallA T base 49 [a0] h =
 bnd2 (rangeB a0 h) fun x4 h5 =>
 P49_0 (size h) (size h) (.int .i64 0) a0 x4 h5 := (Pt_enter T_49 base _ h).trans (by kernel_rfl)
noncomputable def P50_0 (base n0 : Nat) (v0 v4 v5 v6 : PV) (h : Hp) : Option (PV × Hp) := Pt T F50 [1, 1, 1, 1, 1] base n0 [(0, v0), (4, v4), (5, v5), (6, v6)] h
noncomputable def P50_1 (base n0 : Nat) (v7 v0 v4 v5 v6 : PV) (h : Hp) : Option (PV × Hp) := Pt T F50 [1, 1, 1, 1, 1, 1, 0, 1, 0, 1] base n0 [(7, v7), (0, v0), (4, v4), (5, v5), (6, v6)] h
theorem P50_0_eq (base n0 : Nat) (v0 v4 v5 v6 : PV) (h : Hp) : P50_0 base n0 v0 v4 v5 v6 h =
 (lenB true v0).bnd fun x1 =>
 (binOp .lss x1 v5).bnd fun x3 =>
 condB x3 (
 finV false false n0 [(.int .i64 0), (.int .i64 0)] h) (
 P50_1 base n0 (.int .i64 1) v0 v4 v5 v6 h) := (Pt_eq T F50 [1, 1, 1, 1, 1] base n0 [(0, v0), (4, v4), (5, v5), (6, v6)] h).trans (by kernel_rfl)
theorem P50_1_eq (base n0 : Nat) (v7 v0 v4 v5 v6 : PV) (h : Hp) : P50_1 base n0 v7 v0 v4 v5 v6 h =
 (binOp .lss v7 v5).bnd fun x2 =>
 condB x2 (
 (idxStrB v0 v7).bnd fun x5 =>
 (binOp .lss x5 (.int .u8 128)).bnd fun x6 =>
 (wantB x6 false).bnd fun b9 => (whenB b9 (some v0) (some .undef)).bnd fun x8 =>
 (wantB x6 false).bnd fun b13 => (whenB b13 (some v7) (some .undef)).bnd fun x12 =>
 (wantB x6 false).bnd fun b17 => (whenB b17 ((idxStrB x8 x12).bnd some) (some .undef)).bnd fun x16 =>
 (wantB x6 false).bnd fun b21 => (whenB b21 ((binOp .gtr x16 (.int .u8 191)).bnd some) (some .undef)).bnd fun x20 =>
 (condB x6 (some (.bool true)) (some x20)).bnd fun x24 =>
 condB x24 (
 finV false false n0 [(.int .i64 0), (.int .i64 0)] h) (
 (binOp .mul v4 (.int .i64 64)).bnd fun x28 =>
 (idxStrB v0 v7).bnd fun x31 =>
 (toIntB x31 .i64).bnd fun x32 =>
 (binOp .add x28 x32).bnd fun x33 =>
 (binOp .sub x33 (.int .i64 128)).bnd fun x34 =>
 (binOp .add v7 (.int .i64 1)).bnd fun x37 =>
 P50_1 base n0 x37 v0 x34 v5 v6 h)) (
 (binOp .lss v4 v6).bnd fun x41 =>
 (wantB x41 false).bnd fun b44 => (whenB b44 (some v4) (some .undef)).bnd fun x43 =>
 (wantB x41 false).bnd fun b48 => (whenB b48 ((binOp .gtr x43 (.int .i64 1114111)).bnd some) (some .undef)).bnd fun x47 =>
 (condB x41 (some (.bool true)) (some x47)).bnd fun x51 =>
 (wantB x51 false).bnd fun b54 => (whenB b54 (some v4) (some .undef)).bnd fun x53 =>
 (wantB x51 false).bnd fun b58 => (whenB b58 ((binOp .geq x53 (.int .i64 55296)).bnd some) (some .undef)).bnd fun x57 =>
 (wantB x51 false).bnd fun b62 => (whenB b62 (some x57) (some .undef)).bnd fun x61 =>
 (wantB x61 true).bnd fun b66 => (whenB b66 (some v4) (some .undef)).bnd fun x65 =>
 (wantB x61 true).bnd fun b70 => (whenB b70 ((binOp .lss x65 (.int .i64 57344)).bnd some) (some .undef)).bnd fun x69 =>
 (wantB x51 false).bnd fun b74 => (whenB b74 ((condB x61 (some x69) (some (.bool false))).bnd some) (some .undef)).bnd fun x73 =>
 (condB x51 (some (.bool true)) (some x73)).bnd fun x77 =>
 condB x77 (
 finV false false n0 [(.int .i64 0), (.int .i64 0)] h) (
 finV false false n0 [v5, v4] h)) := (Pt_eq T F50 [1, 1, 1, 1, 1, 1, 0, 1, 0, 1] base n0 [(7, v7), (0, v0), (4, v4), (5, v5), (6, v6)] h).trans (by kernel_rfl)
theorem S50 (base : Nat) (a0 : PV) (h : Hp) : CallA T base 50 [a0] h =
 (idxStrB a0 (.int .i64 0)).bnd fun x3 =>
 (toIntB x3 .i64).bnd fun x4 =>
 (binOp .lss x4 (.int .i64 128)).bnd fun x9 =>
 condB x9 (
 finV false false (size h) [(.int .i64 1), x4] h) (
 (binOp .geq x4 (.int .i64 194)).bnd fun x15 =>
 (wantB x15 true).bnd fun b18 => (whenB b18 (some x4) (some .undef)).bnd fun x17 =>
 (wantB x15 true).bnd fun b22 => (whenB b22 ((binOp .lss x17 (.int .i64 224)).bnd some) (some .undef)).bnd fun x21 =>
 (condB x15 (some x21) (some (.bool false))).bnd fun x25 =>
 condB x25 (
 (binOp .sub x4 (.int .i64 192)).bnd fun x28 =>
 P50_0 (size h) (size h) a0 x28 (.int .i64 2) (.int .i64 128) h) (
 (binOp .geq x4 (.int .i64 224)).bnd fun x33 =>
 (wantB x33 true).bnd fun b36 => (whenB b36 (some x4) (some .undef)).bnd fun x35 =>
 (wantB x33 true).bnd fun b40 => (whenB b40 ((binOp .lss x35 (.int .i64 240)).bnd some) (some .undef)).bnd fun x39 =>
 (condB x33 (some x39) (some (.bool false))).bnd fun x43 =>
 condB x43 (
 (binOp .sub x4 (.int .i64 224)).bnd fun x46 =>
 P50_0 (size h) (size h) a0 x46 (.int .i64 3) (.int .i64 2048) h) (
 (binOp .geq x4 (.int .i64 240)).bnd fun x51 =>
 (wantB x51 true).bnd fun b54 => (whenB b54 (some x4) (some .undef)).bnd fun x53 =>
 (wantB x51 true).bnd fun b58 => (whenB b58 ((binOp .lss x53 (.int .i64 245)).bnd some) (some .undef)).bnd fun x57 =>
 (condB x51 (some x57) (some (.bool false))).bnd fun x61 =>
 condB x61 (
 (binOp .sub x4 (.int .i64 240)).bnd fun x64 =>
 P50_0 (size h) (size h) a0 x64 (.int .i64 4) (.int .i64 65536) h) (
 finV false false (size h) [(.int .i64 0), (.int .i64 0)] h)))) := (Pt_enter T_50 base _ h).trans (by kernel_rfl)
theorem S51 (base : Nat) (a0 : PV) (h : Hp) : CallA T base 51 [a0] h =
 bnd2 (boxV 6 a0 h) fun x0 h1 =>
 (loadV 6 true x0 h1).bnd fun x3 =>
 bnd2 (CallA T (size h) 61 [x3] h1) fun x4 h5 =>
 allocK [(.int .i64 0), (.int .i64 0), (.str []), .nils, (.int .i64 0), (.int .i64 0)] h5 fun x6 h7 =>
 (storeV (size h) 6 x6 x4 h7).bnd fun h8 =>
 (fieldAB x6 1).bnd fun x9 =>
 (loadV 1 false x9 h8).bnd fun x10 =>
 (fieldAB x0 1).bnd fun x11 =>
 (loadV 1 false x11 h8).bnd fun x12 =>
 (binOp .neq x10 x12).bnd fun x13 =>
 (wantB x13 false).bnd fun b16 => (whenB b16 ((fieldAB x6 2).bnd some) (some .undef)).bnd fun x15 =>
 (wantB x13 false).bnd fun b20 => (whenB b20 ((loadV 1 false x15 h8).bnd some) (some .undef)).bnd fun x19 =>
 (wantB x13 false).bnd fun b24 => (whenB b24 ((fieldAB x0 2).bnd some) (some .undef)).bnd fun x23 =>
 (wantB x13 false).bnd fun b28 => (whenB b28 ((loadV 1 false x23 h8).bnd some) (some .undef)).bnd fun x27 =>
 (wantB x13 false).bnd fun b32 => (whenB b32 ((binOp .neq x19 x27).bnd some) (some .undef)).bnd fun x31 =>
 (condB x13 (some (.bool true)) (some x31)).bnd fun x35 =>
 (wantB x35 false).bnd fun b38 => (whenB b38 ((fieldAB x6 3).bnd some) (some .undef)).bnd fun x37 =>
 (wantB x35 false).bnd fun b42 => (whenB b42 ((loadV 1 false x37 h8).bnd some) (some .undef)).bnd fun x41 =>
 (wantB x35 false).bnd fun b46 => (whenB b46 ((lenB false x41).bnd some) (some .undef)).bnd fun x45 =>
 (wantB x35 false).bnd fun b50 => (whenB b50 ((fieldAB x0 3).bnd some) (some .undef)).bnd fun x49 =>
 (wantB x35 false).bnd fun b54 => (whenB b54 ((loadV 1 false x49 h8).bnd some) (some .undef)).bnd fun x53 =>
 (wantB x35 false).bnd fun b58 => (whenB b58 ((lenB false x53).bnd some) (some .undef)).bnd fun x57 =>
 (wantB x35 false).bnd fun b62 => (whenB b62 ((binOp .neq x45 x57).bnd some) (some .undef)).bnd fun x61 =>
 (condB x35 (some (.bool true)) (some x61)).bnd fun x65 =>
 (wantB x65 false).bnd fun b68 => (whenB b68 ((fieldAB x6 4).bnd some) (some .undef)).bnd fun x67 =>
 (wantB x65 false).bnd fun b72 => (whenB b72 ((loadV 1 false x67 h8).bnd some) (some .undef)).bnd fun x71 =>
 (wantB x65 false).bnd fun b76 => (whenB b76 ((fieldAB x0 4).bnd some) (some .undef)).bnd fun x75 =>
 (wantB x65 false).bnd fun b80 => (whenB b80 ((loadV 1 false x75 h8).bnd some) (some .undef)).bnd fun x79 =>
 (wantB x65 false).bnd fun b84 => (whenB b84 ((binOp .neq x71 x79).bnd some) (some .undef)).bnd fun x83 =>
 (condB x65 (some (.bool true)) (some x83)).bnd fun x87 =>
 (wantB x87 false).bnd fun b90 => (whenB b90 ((fieldAB x6 5).bnd some) (some .undef)).bnd fun x89 =>
 (wantB x87 false).bnd fun b94 => (whenB b94 ((loadV 1 false x89 h8).bnd some) (some .undef)).bnd fun x93 =>
 (wantB x87 false).bnd fun b98 => (whenB b98 ((fieldAB x0 5).bnd some) (some .undef)).bnd fun x97 =>
 (wantB x87 false).bnd fun b102 => (whenB b102 ((loadV 1 false x97 h8).bnd some) (some .undef)).bnd fun x101 =>
 (wantB x87 false).bnd fun b106 => (whenB b106 ((binOp .neq x93 x101).bnd some) (some .undef)).bnd fun x105 =>
 (condB x87 (some (.bool true)) (some x105)).bnd fun x109 =>
 finV false false (size h) [x109] h8 := (Pt_enter T_51 base _ h).trans (by kernel_rfl)
theorem S52 (base : Nat) (a0 : PV) (h : Hp) : CallA T base 52 [a0] h =
 (binOp .geq a0 (.int .i64 0)).bnd fun x2 =>
 (wantB x2 true).bnd fun b5 => (whenB b5 (some a0) (some .undef)).bnd fun x4 =>
 (wantB x2 true).bnd fun b9 => (whenB b9 ((binOp .leq x4 (.int .i64 65535)).bnd some) (some .undef)).bnd fun x8 =>
 (condB x2 (some x8) (some (.bool false))).bnd fun x12 =>
 finV false false (size h) [x12] h := (Pt_enter T_52 base _ h).trans (by kernel_rfl)
theorem S53 (base : Nat) (a0 a1 : PV) (h : Hp) : CallA T base 53 [a0, a1] h =
 bnd2 (CallA T base 62 [a0] h) fun x2 h3 =>
 (nilckV a0).bnd fun x6 =>
 (fieldAB x6 1).bnd fun x7 =>
 (loadV 1 false x7 h3).bnd fun x8 =>
 (buildSlV 1 false [(.int .u8 0)] 1 [(0, strip a1)]).bnd fun x10 =>
 bnd2 (appTV 5 1 x8 x10 h3) fun x11 h12 =>
 (nilckV a0).bnd fun x13 =>
 (fieldAB x13 1).bnd fun x14 =>
 (storeV base 1 x14 x11 h12).bnd fun h15 =>
 finV true false (size h) [.nilif] h15 := (Pt_enterK T_53 base _ h).trans (by kernel_rfl)
theorem S59 (base : Nat) (a0 a1 : PV) (h : Hp) : CallA T base 59 [a0, a1] h =
 bnd2 (CallA T (size h) 68 [a0, a1] h) fun x3 h4 =>
 (binOp .geq x3 (.int .i64 0)).bnd fun x5 =>
 finV false false (size h) [x5] h4 := (Pt_enter T_59 base _ h).trans (by kernel_rfl)
noncomputable def P61_0 (base n0 : Nat) (v9 v2 v3 v1 v8 : PV) (h : Hp) : Option (PV × Hp) := Pt T F61 [1, 1, 0, 1, 0, 1, 1] base n0 [(9, v9), (2, v2), (3, v3), (1, v1), (8, v8)] h
noncomputable def P61_1 (base n0 : Nat) (v2 v3 : PV) (h : Hp) : Option (PV × Hp) := Pt T F61 [1, 1, 1, 1] base n0 [(2, v2), (3, v3)] h
theorem P61_0_eq (base n0 : Nat) (v9 v2 v3 v1 v8 : PV) (h : Hp) : P61_0 base n0 v9 v2 v3 v1 v8 h =
 condB v9 (
 (fieldAB v1 1).bnd fun x0 =>
 (loadV 1 false x0 h).bnd fun x1 =>
 (fieldAB v3 1).bnd fun x2 =>
 (storeV base 1 x2 x1 h).bnd fun h3 =>
 P61_1 base n0 v2 v3 h3) (
 (binOp .eql v8 (.int .i64 3)).bnd fun x4 =>
 condB x4 (
 (fieldAB v1 2).bnd fun x6 =>
 (loadV 1 false x6 h).bnd fun x7 =>
 (fieldAB v3 2).bnd fun x8 =>
 (storeV base 1 x8 x7 h).bnd fun h9 =>
 P61_1 base n0 v2 v3 h9) (
 (binOp .eql v8 (.int .i64 4)).bnd fun x10 =>
 condB x10 (
 (fieldAB v1 3).bnd fun x12 =>
 (loadV 1 false x12 h).bnd fun x13 =>
 (fieldAB v3 3).bnd fun x14 =>
 (storeV base 1 x14 x13 h).bnd fun h15 =>
 P61_1 base n0 v2 v3 h15) (
 (binOp .eql v8 (.int .i64 6)).bnd fun x16 =>
 condB x16 (
 (fieldAB v1 4).bnd fun x18 =>
 (loadNV 1 false v3 x18 h).bnd fun x19 =>
 (fieldAB v1 5).bnd fun x20 =>
 (loadNV 1 false v3 x20 h).bnd fun x21 =>
 (fieldAB v3 4).bnd fun x22 =>
 (storeNV base 1 v3 x22 x19 h).bnd fun h23 =>
 (fieldAB v3 5).bnd fun x24 =>
 (storeNV base 1 v3 x24 x21 h23).bnd fun h25 =>
 P61_1 base n0 v2 v3 h25) (
 P61_1 base n0 v2 v3 h)))) := (Pt_eq T F61 [1, 1, 0, 1, 0, 1, 1] base n0 [(9, v9), (2, v2), (3, v3), (1, v1), (8, v8)] h).trans (by kernel_rfl)
theorem P61_1_eq (base n0 : Nat) (v2 v3 : PV) (h : Hp) : P61_1 base n0 v2 v3 h =
 (loadV 6 true v3 h).bnd fun x0 =>
 (storeV base 6 v2 x0 h).bnd fun h1 =>
 (resB v2 h1 6 true).bnd fun r2 =>
 finV false false n0 [r2] h1 := (Pt_eq T F61 [1, 1, 1, 1] base n0 [(2, v2), (3, v3)] h).trans (by kernel_rfl)
theorem S61 (base : Nat) (a0 : PV) (h : Hp) : CallA T base 61 [a0] h =
 bnd2 (boxV 6 a0 h) fun x0 h1 =>
 allocK [(.int .i64 0), (.int .i64 0), (.str []), .nils, (.int .i64 0), (.int .i64 0)] h1 fun x2 h3 =>
 (fieldAB x0 0).bnd fun x4 =>
 (loadV 1 false x4 h3).bnd fun x5 =>
 (buildV [(.int .i64 0), (.int .i64 0), (.str []), .nils, (.int .i64 0), (.int .i64 0)] [(0, 1, x5)]).bnd fun x6 =>
 allocK [(.int .i64 0), (.int .i64 0), (.str []), .nils, (.int .i64 0), (.int .i64 0)] h3 fun x7 h8 =>
 (storeV (size h) 6 x7 x6 h8).bnd fun h9 =>
 (fieldAB x0 0).bnd fun x10 =>
 (loadV 1 false x10 h9).bnd fun x11 =>
 (binOp .eql x11 (.int .i64 1)).bnd fun x12 =>
 condB x12 (
 P61_0 (size h) (size h) x12 x2 x7 x0 x11 h9) (
 (binOp .eql x11 (.int .i64 2)).bnd fun x14 =>
 condB x14 (
 P61_0 (size h) (size h) x14 x2 x7 x0 x11 h9) (
 (binOp .eql x11 (.int .i64 5)).bnd fun x16 =>
 P61_0 (size h) (size h) x16 x2 x7 x0 x11 h9)) := (Pt_enter T_61 base _ h).trans (by kernel_rfl)
noncomputable def P68_0 (base n0 : Nat) (v8 v0 v1 v7 : PV) (h : Hp) : Option (PV × Hp) := Pt T F68 [1, 0, 1, 0, 1] base n0 [(8, v8), (0, v0), (1, v1), (7, v7)] h
theorem P68_0_eq (base n0 : Nat) (v8 v0 v1 v7 : PV) (h : Hp) : P68_0 base n0 v8 v0 v1 v7 h =
 (binOp .lss v8 v7).bnd fun x0 =>
 condB x0 (
 (idxAB v0 v8 1).bnd fun x6 =>
 (loadV 1 false x6 h).bnd fun x7 =>
 (binOp .eql v1 x7).bnd fun x8 =>
 condB x8 (
 finV false false n0 [v8] h) (
 (binOp .add v8 (.int .i64 1)).bnd fun x11 =>
 P68_0 base n0 x11 v0 v1 v7 h)) (
 finV false false n0 [(.int .i64 (-1))] h) := (Pt_eq T F68 [1, 0, 1, 0, 1] base n0 [(8, v8), (0, v0), (1, v1), (7, v7)] h).trans (by kernel_rfl)
theorem S68 (base : Nat) (a0 a1 : PV) (h : Hp) : CallA T base 68 [a0, a1] h =
 (lenB false a0).bnd fun x2 =>
 P68_0 (size h) (size h) (.int .i64 0) a0 a1 x2 h := (Pt_enter T_68 base _ h).trans (by kernel_rfl)
end Go.Am.YtppkffebmoffnaaDoor
namespace Go.Am.YtppkffebmoffnaaDoor
set_option maxRecDepth 100000
set_option linter.unusedSimpArgs false
set_option linter.unusedVariables false
abbrev i64 (n : Int) : PV := .int .i64 n
abbrev val (k n : Int) (s : List UInt8) (b : PV) (o i : Int) : PV := .agg [i64 k, i64 n, .str s, b, i64 o, i64 i]
def in64 (n : Int) : Prop := -9223372036854775808 ≤ n ∧ n ≤ 9223372036854775807
instance (n : Int) : Decidable (in64 n) := inferInstanceAs (Decidable (_ ∧ _))
section
variable {h : Hp} {base : Nat}
theorem itoa_spec (n : Int) (hn : in64 n) : CallA T base 30 [i64 n] h = some (.str (Lib.itoa n), h) := by
  rw [CallA_prim T_30]
  unfold in64 at hn
  simp [pItoa, hn, primEnd, Option.bnd]
theorem format_spec (n : Int) (hn : in64 n) : CallA T base 31 [i64 n, i64 10] h = some (.str (Lib.itoa n), h) := by
  rw [CallA_prim T_31]
  unfold in64 at hn
  simp [pFormat, hn, primEnd, Option.bnd]
theorem kind_spec (k : Int) : CallA T base 42 [i64 k] h = some (.bool (decide (1 ≤ k ∧ k ≤ 6)), h) := by
  rw [S42]
  by_cases h1 : 1 ≤ k <;> by_cases h2 : k ≤ 6 <;> simp only [h1, h2, ↓evD, evU, evL, Nat.reduceAdd, Nat.reduceSub, Nat.reduceMul, Nat.reduceLeDiff, Nat.reduceLT, Nat.reduceEqDiff, Nat.reduceBEq, reduceIte, reduceCtorEq, Int.reduceBEq, Int.reduceEq, Int.reduceLT, Int.reduceLE, Int.reduceGT, Int.reduceGE, Int.reduceAdd, Int.reduceSub, Int.reduceNeg, Int.reduceBNe, ite_true, ite_false, if_true, if_false, implies_true, forall_const]
/-- Bytes that hold no box. -/
structure Bs (b : PV) : Prop where
  sc : scalar b = true
  fr : ∀ n h, frz n h b = some b
  st : strip b = b
  be : ∀ n, below n b = true
  ce : b.cells = [b]
theorem bs_nils : Bs .nils := ⟨rfl, fun _ _ => rfl, rfl, fun _ => rfl, rfl⟩
theorem below_u8s (n : Nat) : ∀ l : List UInt8, belows n (l.map fun c => PV.int .u8 (c.toNat : Int)) = true
  | [] => rfl
  | c :: l => by simp [belows, below, below_u8s n l]
theorem bs_no (l : List UInt8) : Bs (.sl .no 1 (u8s l)) := ⟨rfl, fun _ _ => rfl, rfl, fun n => by simp only [below, Own.below, Bool.true_and]; exact below_u8s n l, rfl⟩
theorem bs_full (l : List UInt8) : Bs (.sl .full 1 (u8s l)) := ⟨rfl, fun _ _ => rfl, rfl, fun n => by simp only [below, Own.below, Bool.true_and]; exact below_u8s n l, rfl⟩

def onlyN (k n : Int) : Int := if k = 1 ∨ k = 2 ∨ k = 5 then n else 0
theorem bne_true_of {a b : Int} (h : a ≠ b) : (a != b) = true := by simpa using h
theorem beq_false_of {a b : Int} (h : a ≠ b) : (a == b) = false := by simpa using h
theorem only_spec (k n : Int) (s : List UInt8) (b : PV) (o i : Int) (hb : Bs b) :
    CallA T base 61 [val k n s b o i] h = some (val k (onlyN k n) (if k = 3 then s else []) (if k = 4 then b else .nils) (if k = 6 then o else 0) (if k = 6 then i else 0), h) := by
  rw [S61]
  by_cases h1 : k = 1
  · subst h1; simp only [hb.sc, hb.fr, hb.be, hb.ce, hb.st, onlyN, P61_0_eq, P61_1_eq, ↓evD, evU, evL, Nat.reduceAdd, Nat.reduceSub, Nat.reduceMul, Nat.reduceLeDiff, Nat.reduceLT, Nat.reduceEqDiff, Nat.reduceBEq, reduceIte, reduceCtorEq, Int.reduceBEq, Int.reduceEq, Int.reduceLT, Int.reduceLE, Int.reduceGT, Int.reduceGE, Int.reduceAdd, Int.reduceSub, Int.reduceNeg, Int.reduceBNe, ite_true, ite_false, if_true, if_false, implies_true, forall_const]
  by_cases h2 : k = 2
  · subst h2; simp only [hb.sc, hb.fr, hb.be, hb.ce, hb.st, onlyN, P61_0_eq, P61_1_eq, ↓evD, evU, evL, Nat.reduceAdd, Nat.reduceSub, Nat.reduceMul, Nat.reduceLeDiff, Nat.reduceLT, Nat.reduceEqDiff, Nat.reduceBEq, reduceIte, reduceCtorEq, Int.reduceBEq, Int.reduceEq, Int.reduceLT, Int.reduceLE, Int.reduceGT, Int.reduceGE, Int.reduceAdd, Int.reduceSub, Int.reduceNeg, Int.reduceBNe, ite_true, ite_false, if_true, if_false, implies_true, forall_const]
  by_cases h5 : k = 5
  · subst h5; simp only [hb.sc, hb.fr, hb.be, hb.ce, hb.st, onlyN, P61_0_eq, P61_1_eq, ↓evD, evU, evL, Nat.reduceAdd, Nat.reduceSub, Nat.reduceMul, Nat.reduceLeDiff, Nat.reduceLT, Nat.reduceEqDiff, Nat.reduceBEq, reduceIte, reduceCtorEq, Int.reduceBEq, Int.reduceEq, Int.reduceLT, Int.reduceLE, Int.reduceGT, Int.reduceGE, Int.reduceAdd, Int.reduceSub, Int.reduceNeg, Int.reduceBNe, ite_true, ite_false, if_true, if_false, implies_true, forall_const]
  by_cases h3 : k = 3
  · subst h3; simp only [hb.sc, hb.fr, hb.be, hb.ce, hb.st, onlyN, P61_0_eq, P61_1_eq, ↓evD, evU, evL, Nat.reduceAdd, Nat.reduceSub, Nat.reduceMul, Nat.reduceLeDiff, Nat.reduceLT, Nat.reduceEqDiff, Nat.reduceBEq, reduceIte, reduceCtorEq, Int.reduceBEq, Int.reduceEq, Int.reduceLT, Int.reduceLE, Int.reduceGT, Int.reduceGE, Int.reduceAdd, Int.reduceSub, Int.reduceNeg, Int.reduceBNe, ite_true, ite_false, if_true, if_false, implies_true, forall_const]
  by_cases h4 : k = 4
  · subst h4; simp only [hb.sc, hb.fr, hb.be, hb.ce, hb.st, onlyN, P61_0_eq, P61_1_eq, ↓evD, evU, evL, Nat.reduceAdd, Nat.reduceSub, Nat.reduceMul, Nat.reduceLeDiff, Nat.reduceLT, Nat.reduceEqDiff, Nat.reduceBEq, reduceIte, reduceCtorEq, Int.reduceBEq, Int.reduceEq, Int.reduceLT, Int.reduceLE, Int.reduceGT, Int.reduceGE, Int.reduceAdd, Int.reduceSub, Int.reduceNeg, Int.reduceBNe, ite_true, ite_false, if_true, if_false, implies_true, forall_const]
  by_cases h6 : k = 6
  · subst h6; simp only [hb.sc, hb.fr, hb.be, hb.ce, hb.st, onlyN, P61_0_eq, P61_1_eq, ↓evD, evU, evL, Nat.reduceAdd, Nat.reduceSub, Nat.reduceMul, Nat.reduceLeDiff, Nat.reduceLT, Nat.reduceEqDiff, Nat.reduceBEq, reduceIte, reduceCtorEq, Int.reduceBEq, Int.reduceEq, Int.reduceLT, Int.reduceLE, Int.reduceGT, Int.reduceGE, Int.reduceAdd, Int.reduceSub, Int.reduceNeg, Int.reduceBNe, ite_true, ite_false, if_true, if_false, implies_true, forall_const]
  simp only [hb.sc, hb.fr, hb.be, hb.ce, hb.st, h1, h2, h3, h4, h5, h6, beq_false_of h1, beq_false_of h2, beq_false_of h3, beq_false_of h4, beq_false_of h5, beq_false_of h6, onlyN, or_self, P61_0_eq, P61_1_eq, ↓evD, evU, evL, Nat.reduceAdd, Nat.reduceSub, Nat.reduceMul, Nat.reduceLeDiff, Nat.reduceLT, Nat.reduceEqDiff, Nat.reduceBEq, reduceIte, reduceCtorEq, Int.reduceBEq, Int.reduceEq, Int.reduceLT, Int.reduceLE, Int.reduceGT, Int.reduceGE, Int.reduceAdd, Int.reduceSub, Int.reduceNeg, Int.reduceBNe, ite_true, ite_false, if_true, if_false, implies_true, forall_const]

theorem numbered_spec (n : Int) : CallA T base 52 [i64 n] h = some (.bool (decide (0 ≤ n ∧ n ≤ 65535)), h) := by
  rw [S52]
  by_cases h1 : 0 ≤ n <;> by_cases h2 : n ≤ 65535 <;> simp only [h1, h2, ge_iff_le, ↓evD, evU, evL, Nat.reduceAdd, Nat.reduceSub, Nat.reduceMul, Nat.reduceLeDiff, Nat.reduceLT, Nat.reduceEqDiff, Nat.reduceBEq, reduceIte, reduceCtorEq, Int.reduceBEq, Int.reduceEq, Int.reduceLT, Int.reduceLE, Int.reduceGT, Int.reduceGE, Int.reduceAdd, Int.reduceSub, Int.reduceNeg, Int.reduceBNe, ite_true, ite_false, if_true, if_false, implies_true, forall_const]
end
end Go.Am.YtppkffebmoffnaaDoor
namespace Go.Am.YtppkffebmoffnaaDoor
set_option maxRecDepth 100000
set_option linter.unusedSimpArgs false
set_option linter.unusedVariables false
section
variable {h : Hp} {base : Nat}
theorem extra_of {k n n' o o' i i' : Int} {s s' : List UInt8} {b b' : PV} {L L' : Nat} (hb : Bs b) (hb' : Bs b') (hL : lenB false b = some (i64 L)) (hL' : lenB false b' = some (i64 L'))
    (ho : ∀ base h, CallA T base 61 [val k n s b o i] h = some (val k n' s' b' o' i', h)) :
    CallA T base 51 [val k n s b o i] h = some (.bool (n' != n || (s' != s || ((L' : Int) != (L : Int) || (o' != o || i' != i)))), h) := by
  rw [S51]
  cases h1 : (n' != n)
  · cases h2 : (s' != s)
    · cases h3 : ((L' : Int) != (L : Int))
      · cases h4 : (o' != o)
        · cases h5 : (i' != i) <;> simp only [ho, hL, hL', hb.sc, hb.fr, hb.be, hb.ce, hb.st, hb'.sc, hb'.fr, hb'.be, hb'.ce, hb'.st, h1, h2, h3, h4, h5, P43_0_eq, ↓evD, evU, evL, Nat.reduceAdd, Nat.reduceSub, Nat.reduceMul, Nat.reduceLeDiff, Nat.reduceLT, Nat.reduceEqDiff, Nat.reduceBEq, reduceIte, reduceCtorEq, Int.reduceBEq, Int.reduceEq, Int.reduceLT, Int.reduceLE, Int.reduceGT, Int.reduceGE, Int.reduceAdd, Int.reduceSub, Int.reduceNeg, Int.reduceBNe, ite_true, ite_false, if_true, if_false, implies_true, forall_const]
        · simp only [ho, hL, hL', hb.sc, hb.fr, hb.be, hb.ce, hb.st, hb'.sc, hb'.fr, hb'.be, hb'.ce, hb'.st, h1, h2, h3, h4, P43_0_eq, ↓evD, evU, evL, Nat.reduceAdd, Nat.reduceSub, Nat.reduceMul, Nat.reduceLeDiff, Nat.reduceLT, Nat.reduceEqDiff, Nat.reduceBEq, reduceIte, reduceCtorEq, Int.reduceBEq, Int.reduceEq, Int.reduceLT, Int.reduceLE, Int.reduceGT, Int.reduceGE, Int.reduceAdd, Int.reduceSub, Int.reduceNeg, Int.reduceBNe, ite_true, ite_false, if_true, if_false, implies_true, forall_const]
      · simp only [ho, hL, hL', hb.sc, hb.fr, hb.be, hb.ce, hb.st, hb'.sc, hb'.fr, hb'.be, hb'.ce, hb'.st, h1, h2, h3, P43_0_eq, ↓evD, evU, evL, Nat.reduceAdd, Nat.reduceSub, Nat.reduceMul, Nat.reduceLeDiff, Nat.reduceLT, Nat.reduceEqDiff, Nat.reduceBEq, reduceIte, reduceCtorEq, Int.reduceBEq, Int.reduceEq, Int.reduceLT, Int.reduceLE, Int.reduceGT, Int.reduceGE, Int.reduceAdd, Int.reduceSub, Int.reduceNeg, Int.reduceBNe, ite_true, ite_false, if_true, if_false, implies_true, forall_const]
    · simp only [ho, hL, hL', hb.sc, hb.fr, hb.be, hb.ce, hb.st, hb'.sc, hb'.fr, hb'.be, hb'.ce, hb'.st, h1, h2, P43_0_eq, ↓evD, evU, evL, Nat.reduceAdd, Nat.reduceSub, Nat.reduceMul, Nat.reduceLeDiff, Nat.reduceLT, Nat.reduceEqDiff, Nat.reduceBEq, reduceIte, reduceCtorEq, Int.reduceBEq, Int.reduceEq, Int.reduceLT, Int.reduceLE, Int.reduceGT, Int.reduceGE, Int.reduceAdd, Int.reduceSub, Int.reduceNeg, Int.reduceBNe, ite_true, ite_false, if_true, if_false, implies_true, forall_const]
  · simp only [ho, hL, hL', hb.sc, hb.fr, hb.be, hb.ce, hb.st, hb'.sc, hb'.fr, hb'.be, hb'.ce, hb'.st, h1, P43_0_eq, ↓evD, evU, evL, Nat.reduceAdd, Nat.reduceSub, Nat.reduceMul, Nat.reduceLeDiff, Nat.reduceLT, Nat.reduceEqDiff, Nat.reduceBEq, reduceIte, reduceCtorEq, Int.reduceBEq, Int.reduceEq, Int.reduceLT, Int.reduceLE, Int.reduceGT, Int.reduceGE, Int.reduceAdd, Int.reduceSub, Int.reduceNeg, Int.reduceBNe, ite_true, ite_false, if_true, if_false, implies_true, forall_const]

def extraG (k n : Int) (s : List UInt8) (L : Nat) (o i : Int) : Bool :=
  onlyN k n != n || ((if k = 3 then s else []) != s || (((if k = 4 then L else 0 : Nat) : Int) != (L : Int) || ((if k = 6 then o else 0) != o || (if k = 6 then i else 0) != i)))
theorem extra_spec (k n : Int) (s : List UInt8) (b : PV) (o i : Int) {L : Nat} (hb : Bs b) (hL : lenB false b = some (i64 L)) :
    CallA T base 51 [val k n s b o i] h = some (.bool (extraG k n s L o i), h) := by
  unfold extraG
  by_cases h4 : k = 4
  · have := extra_of (h := h) (base := base) (L := L) (L' := L) hb hb hL hL (fun base h => by have := only_spec (h := h) (base := base) k n s b o i hb; rw [if_pos h4] at this; exact this)
    rw [this, if_pos h4]
  · have := extra_of (h := h) (base := base) (L := L) (L' := 0) hb bs_nils hL rfl (fun base h => by have := only_spec (h := h) (base := base) k n s b o i hb; rw [if_neg h4] at this; exact this)
    rw [this, if_neg h4]

/-- What Right answers; r: are the runes right? -/
def rightG (k n : Int) (s : List UInt8) (L : Nat) (o i : Int) (r : Bool) : Bool :=
  !(extraG k n s L o i) && (if k = 1 ∨ k = 5 then true else if k = 2 then (n == 0 || n == 1) else if k = 3 then (r && decide (s.length ≤ 200)) else if k = 4 then decide (L ≤ 200)
    else if k = 6 then (decide (0 ≤ o ∧ o ≤ 65535) && decide (0 ≤ i ∧ i ≤ 65535)) else false)
theorem decide_len (n : Nat) : decide ((n : Int) ≤ 200) = decide (n ≤ 200) := by
  by_cases h : n ≤ 200
  · rw [decide_eq_true h, decide_eq_true (by omega)]
  · rw [decide_eq_false h, decide_eq_false (by omega)]
set_option maxHeartbeats 1000000 in
theorem right_spec (k n : Int) (s : List UInt8) (b : PV) (o i : Int) {L : Nat} (hb : Bs b) (hL : lenB false b = some (i64 L)) {c : Int} {r : Bool} (hr : ∀ base h, CallA T base 49 [.str s] h = some (.tup [i64 c, .bool r], h)) :
    CallA T base 43 [val k n s b o i] h = some (.bool (rightG k n s L o i r), h) := by
  have he : ∀ base h, _ := fun base h => extra_spec (base := base) (h := h) k n s b o i hb hL
  have hn : ∀ base h n, _ := fun base h n => numbered_spec (base := base) (h := h) n
  rw [S43]
  unfold rightG
  generalize extraG k n s L o i = x at *
  cases x
  · by_cases h1 : k = 1
    · subst h1; simp only [he, hr, hn, hL, hb.sc, hb.fr, hb.be, hb.ce, hb.st, P43_0_eq, ↓evD, evU, evL, Nat.reduceAdd, Nat.reduceSub, Nat.reduceMul, Nat.reduceLeDiff, Nat.reduceLT, Nat.reduceEqDiff, Nat.reduceBEq, reduceIte, reduceCtorEq, Int.reduceBEq, Int.reduceEq, Int.reduceLT, Int.reduceLE, Int.reduceGT, Int.reduceGE, Int.reduceAdd, Int.reduceSub, Int.reduceNeg, Int.reduceBNe, ite_true, ite_false, if_true, if_false, implies_true, forall_const]
    by_cases h5 : k = 5
    · subst h5; simp only [he, hr, hn, hL, hb.sc, hb.fr, hb.be, hb.ce, hb.st, P43_0_eq, ↓evD, evU, evL, Nat.reduceAdd, Nat.reduceSub, Nat.reduceMul, Nat.reduceLeDiff, Nat.reduceLT, Nat.reduceEqDiff, Nat.reduceBEq, reduceIte, reduceCtorEq, Int.reduceBEq, Int.reduceEq, Int.reduceLT, Int.reduceLE, Int.reduceGT, Int.reduceGE, Int.reduceAdd, Int.reduceSub, Int.reduceNeg, Int.reduceBNe, ite_true, ite_false, if_true, if_false, implies_true, forall_const]
    by_cases h2 : k = 2
    · subst h2; cases hn0 : (n == 0) <;> simp only [he, hr, hn, hL, hn0, hb.sc, hb.fr, hb.be, hb.ce, hb.st, P43_0_eq, ↓evD, evU, evL, Nat.reduceAdd, Nat.reduceSub, Nat.reduceMul, Nat.reduceLeDiff, Nat.reduceLT, Nat.reduceEqDiff, Nat.reduceBEq, reduceIte, reduceCtorEq, Int.reduceBEq, Int.reduceEq, Int.reduceLT, Int.reduceLE, Int.reduceGT, Int.reduceGE, Int.reduceAdd, Int.reduceSub, Int.reduceNeg, Int.reduceBNe, ite_true, ite_false, if_true, if_false, implies_true, forall_const]
    by_cases h3 : k = 3
    · subst h3; cases r <;> simp only [he, hr, hn, hL, hb.sc, hb.fr, hb.be, hb.ce, hb.st, decide_len, P43_0_eq, ↓evD, evU, evL, Nat.reduceAdd, Nat.reduceSub, Nat.reduceMul, Nat.reduceLeDiff, Nat.reduceLT, Nat.reduceEqDiff, Nat.reduceBEq, reduceIte, reduceCtorEq, Int.reduceBEq, Int.reduceEq, Int.reduceLT, Int.reduceLE, Int.reduceGT, Int.reduceGE, Int.reduceAdd, Int.reduceSub, Int.reduceNeg, Int.reduceBNe, ite_true, ite_false, if_true, if_false, implies_true, forall_const]
    by_cases h4 : k = 4
    · subst h4; simp only [he, hr, hn, hL, hb.sc, hb.fr, hb.be, hb.ce, hb.st, decide_len, P43_0_eq, ↓evD, evU, evL, Nat.reduceAdd, Nat.reduceSub, Nat.reduceMul, Nat.reduceLeDiff, Nat.reduceLT, Nat.reduceEqDiff, Nat.reduceBEq, reduceIte, reduceCtorEq, Int.reduceBEq, Int.reduceEq, Int.reduceLT, Int.reduceLE, Int.reduceGT, Int.reduceGE, Int.reduceAdd, Int.reduceSub, Int.reduceNeg, Int.reduceBNe, ite_true, ite_false, if_true, if_false, implies_true, forall_const]
    by_cases h6 : k = 6
    · subst h6; cases ho : decide (0 ≤ o ∧ o ≤ 65535) <;> simp only [he, hr, hn, ho, hL, hb.sc, hb.fr, hb.be, hb.ce, hb.st, P43_0_eq, ↓evD, evU, evL, Nat.reduceAdd, Nat.reduceSub, Nat.reduceMul, Nat.reduceLeDiff, Nat.reduceLT, Nat.reduceEqDiff, Nat.reduceBEq, reduceIte, reduceCtorEq, Int.reduceBEq, Int.reduceEq, Int.reduceLT, Int.reduceLE, Int.reduceGT, Int.reduceGE, Int.reduceAdd, Int.reduceSub, Int.reduceNeg, Int.reduceBNe, ite_true, ite_false, if_true, if_false, implies_true, forall_const]
    simp only [he, hr, hn, hL, hb.sc, hb.fr, hb.be, hb.ce, hb.st, h1, h2, h3, h4, h5, h6, beq_false_of h1, beq_false_of h2, beq_false_of h3, beq_false_of h4, beq_false_of h5, beq_false_of h6, P43_0_eq, ↓evD, evU, evL, Nat.reduceAdd, Nat.reduceSub, Nat.reduceMul, Nat.reduceLeDiff, Nat.reduceLT, Nat.reduceEqDiff, Nat.reduceBEq, reduceIte, reduceCtorEq, Int.reduceBEq, Int.reduceEq, Int.reduceLT, Int.reduceLE, Int.reduceGT, Int.reduceGE, Int.reduceAdd, Int.reduceSub, Int.reduceNeg, Int.reduceBNe, ite_true, ite_false, if_true, if_false, implies_true, forall_const]
  · simp only [he, hr, hn, hL, hb.sc, hb.fr, hb.be, hb.ce, hb.st, P43_0_eq, ↓evD, evU, evL, Nat.reduceAdd, Nat.reduceSub, Nat.reduceMul, Nat.reduceLeDiff, Nat.reduceLT, Nat.reduceEqDiff, Nat.reduceBEq, reduceIte, reduceCtorEq, Int.reduceBEq, Int.reduceEq, Int.reduceLT, Int.reduceLE, Int.reduceGT, Int.reduceGE, Int.reduceAdd, Int.reduceSub, Int.reduceNeg, Int.reduceBNe, ite_true, ite_false, if_true, if_false, implies_true, forall_const]

/-- What Write answers; e: the bytes as signs. -/
def writeG (k n : Int) (s : List UInt8) (L : Nat) (o i : Int) (r : Bool) (e : List UInt8) : List UInt8 × Int :=
  if ¬ (1 ≤ k ∧ k ≤ 6) then ([], 70) else if rightG k n s L o i r = false then ([], 1) else if k = 3 then (s, 0) else if k = 4 then (e, 0) else if k = 6 then (Lib.itoa o ++ [58] ++ Lib.itoa i, 0) else (Lib.itoa n, 0)
theorem itoa_len {n : Int} (h : in64 n) : (Lib.itoa n).length ≤ 21 := Lib.itoa_length_le n h.1 h.2
set_option maxHeartbeats 1000000 in
theorem write_spec (k n : Int) (s : List UInt8) (b : PV) (o i : Int) {L : Nat} (hb : Bs b) (hL : lenB false b = some (i64 L)) {c : Int} {r : Bool} (hr : ∀ base h, CallA T base 49 [.str s] h = some (.tup [i64 c, .bool r], h))
    (hn : in64 n) (ho : in64 o) (hi : in64 i) {e : List UInt8} (he : k = 4 → ∀ base h, CallA T base 44 [b] h = some (.str e, h)) :
    CallA T base 26 [val k n s b o i] h = some (.tup [.str (writeG k n s L o i r e).1, i64 (writeG k n s L o i r e).2], h) := by
  have hR : ∀ base h, _ := fun base h => right_spec (base := base) (h := h) k n s b o i hb hL hr
  have hk : ∀ base h, _ := fun base h => kind_spec (base := base) (h := h) k
  have hf : ∀ base h, _ := fun base h => format_spec (base := base) (h := h) n hn
  have hio : ∀ base h, _ := fun base h => itoa_spec (base := base) (h := h) o ho
  have hii : ∀ base h, _ := fun base h => itoa_spec (base := base) (h := h) i hi
  have l1 := itoa_len ho
  have l2 := itoa_len hi
  have l3 : (Lib.itoa o).length + 1 ≤ limS := by unfold limS; omega
  have l4 : (Lib.itoa o).length + 1 + (Lib.itoa i).length ≤ limS := by unfold limS; omega
  rw [S26]
  unfold writeG
  by_cases hk6 : 1 ≤ k ∧ k ≤ 6
  · cases hq : rightG k n s L o i r
    · simp only [hR, hk, hk6, hq, hb.sc, hb.fr, hb.be, hb.ce, hb.st, P43_0_eq, ↓evD, evU, evL, Nat.reduceAdd, Nat.reduceSub, Nat.reduceMul, Nat.reduceLeDiff, Nat.reduceLT, Nat.reduceEqDiff, Nat.reduceBEq, reduceIte, reduceCtorEq, Int.reduceBEq, Int.reduceEq, Int.reduceLT, Int.reduceLE, Int.reduceGT, Int.reduceGE, Int.reduceAdd, Int.reduceSub, Int.reduceNeg, Int.reduceBNe, ite_true, ite_false, if_true, if_false, implies_true, forall_const]
    · by_cases h3 : k = 3
      · subst h3; simp only [hR, hk, hk6, hq, hb.sc, hb.fr, hb.be, hb.ce, hb.st, P43_0_eq, ↓evD, evU, evL, Nat.reduceAdd, Nat.reduceSub, Nat.reduceMul, Nat.reduceLeDiff, Nat.reduceLT, Nat.reduceEqDiff, Nat.reduceBEq, reduceIte, reduceCtorEq, Int.reduceBEq, Int.reduceEq, Int.reduceLT, Int.reduceLE, Int.reduceGT, Int.reduceGE, Int.reduceAdd, Int.reduceSub, Int.reduceNeg, Int.reduceBNe, ite_true, ite_false, if_true, if_false, implies_true, forall_const]
      by_cases h4 : k = 4
      · subst h4
        have he' := he rfl
        simp only [hR, hk, hk6, hq, he', hb.sc, hb.fr, hb.be, hb.ce, hb.st, P43_0_eq, ↓evD, evU, evL, Nat.reduceAdd, Nat.reduceSub, Nat.reduceMul, Nat.reduceLeDiff, Nat.reduceLT, Nat.reduceEqDiff, Nat.reduceBEq, reduceIte, reduceCtorEq, Int.reduceBEq, Int.reduceEq, Int.reduceLT, Int.reduceLE, Int.reduceGT, Int.reduceGE, Int.reduceAdd, Int.reduceSub, Int.reduceNeg, Int.reduceBNe, ite_true, ite_false, if_true, if_false, implies_true, forall_const]
      by_cases h6 : k = 6
      · subst h6; simp only [hR, hk, hk6, hq, hio, hii, l3, l4, List.length_append, hb.sc, hb.fr, hb.be, hb.ce, hb.st, P43_0_eq, ↓evD, evU, evL, Nat.reduceAdd, Nat.reduceSub, Nat.reduceMul, Nat.reduceLeDiff, Nat.reduceLT, Nat.reduceEqDiff, Nat.reduceBEq, reduceIte, reduceCtorEq, Int.reduceBEq, Int.reduceEq, Int.reduceLT, Int.reduceLE, Int.reduceGT, Int.reduceGE, Int.reduceAdd, Int.reduceSub, Int.reduceNeg, Int.reduceBNe, ite_true, ite_false, if_true, if_false, implies_true, forall_const]
      simp only [hR, hk, hk6, hq, hf, h3, h4, h6, beq_false_of h3, beq_false_of h4, beq_false_of h6, hb.sc, hb.fr, hb.be, hb.ce, hb.st, P43_0_eq, ↓evD, evU, evL, Nat.reduceAdd, Nat.reduceSub, Nat.reduceMul, Nat.reduceLeDiff, Nat.reduceLT, Nat.reduceEqDiff, Nat.reduceBEq, reduceIte, reduceCtorEq, Int.reduceBEq, Int.reduceEq, Int.reduceLT, Int.reduceLE, Int.reduceGT, Int.reduceGE, Int.reduceAdd, Int.reduceSub, Int.reduceNeg, Int.reduceBNe, ite_true, ite_false, if_true, if_false, implies_true, forall_const]
  · simp only [hR, hk, hk6, hb.sc, hb.fr, hb.be, hb.ce, hb.st, P43_0_eq, ↓evD, evU, evL, Nat.reduceAdd, Nat.reduceSub, Nat.reduceMul, Nat.reduceLeDiff, Nat.reduceLT, Nat.reduceEqDiff, Nat.reduceBEq, reduceIte, reduceCtorEq, Int.reduceBEq, Int.reduceEq, Int.reduceLT, Int.reduceLE, Int.reduceGT, Int.reduceGE, Int.reduceAdd, Int.reduceSub, Int.reduceNeg, Int.reduceBNe, ite_true, ite_false, if_true, if_false, implies_true, forall_const]
end
end Go.Am.YtppkffebmoffnaaDoor
namespace Go.Am.YtppkffebmoffnaaDoor
set_option maxRecDepth 100000
set_option linter.unusedSimpArgs false
set_option linter.unusedVariables false
theorem bv_bs {b : PV} {l : List UInt8} (hb : Bv b l) : Bs b := ⟨hb.scalar, hb.frz, hb.strip, hb.below, hb.cells⟩
theorem u8_ne {x y : UInt8} : ((x.toNat : Int) != (y.toNat : Int)) = (x != y) := by
  by_cases h : x = y
  · subst h; simp
  · have h1 : (x != y) = true := by simpa using h
    rw [h1, bne_iff_ne]
    intro q
    exact h (UInt8.toNat_inj.1 (by omega))
theorem same_loop {h : Hp} {a b : PV} {l m : List UInt8} (ha : Rd a l) (hb : Rd b m) (hlm : l.length = m.length) (hl : l.length ≤ 4611686018427387904) : ∀ (k i : Nat), i + k = l.length →
    P17_0 (size h) (size h) (.int .i64 i) b a h = some (.bool (l.drop i == m.drop i), h)
  | 0, i, hk => by
    rw [P17_0_eq]
    have h1 : ((i : Int) < (l.length : Int)) = False := by simp; omega
    have e1 : l.drop i = [] := List.drop_eq_nil_of_le (by omega)
    have e2 : m.drop i = [] := List.drop_eq_nil_of_le (by omega)
    simp only [ha.len, h1, e1, e2, ↓evD, evU, evL, Nat.reduceAdd, Nat.reduceSub, Nat.reduceMul, Nat.reduceLeDiff, Nat.reduceLT, Nat.reduceEqDiff, Nat.reduceBEq, reduceIte, reduceCtorEq, Int.reduceBEq, Int.reduceEq, Int.reduceLT, Int.reduceLE, Int.reduceGT, Int.reduceGE, Int.reduceAdd, Int.reduceSub, Int.reduceNeg, Int.reduceBNe, ite_true, ite_false, if_true, if_false, implies_true, forall_const]
  | k + 1, i, hk => by
    rw [P17_0_eq]
    have h1 : ((i : Int) < (l.length : Int)) = True := by simp; omega
    obtain ⟨x, hx⟩ : ∃ x, l[i]? = some x := ⟨_, List.getElem?_eq_getElem (by omega)⟩
    obtain ⟨y, hy⟩ : ∃ y, m[i]? = some y := ⟨_, List.getElem?_eq_getElem (by omega)⟩
    have e1 : l.drop i = x :: l.drop (i + 1) := by
      obtain ⟨hi, rfl⟩ := List.getElem?_eq_some_iff.1 hx
      exact List.drop_eq_getElem_cons hi
    have e2 : m.drop i = y :: m.drop (i + 1) := by
      obtain ⟨hi, rfl⟩ := List.getElem?_eq_some_iff.1 hy
      exact List.drop_eq_getElem_cons hi
    have w1 : IntKind.i64.wrap ((i : Int) + 1) = ((i + 1 : Nat) : Int) := by rw [wrap_small] <;> omega
    have ih := same_loop (h := h) ha hb hlm hl k (i + 1) (by omega)
    cases hq : (x == y)
    · have hq' : (x != y) = true := by simp [bne, hq]
      have e3 : (x :: l.drop (i + 1) == y :: m.drop (i + 1)) = false := by rw [List.cons_beq_cons, hq]; rfl
      simp only [ha.len, ha.idx hx, hb.idx hy, h1, u8_ne, hq', e1, e2, e3, ↓evD, evU, evL, Nat.reduceAdd, Nat.reduceSub, Nat.reduceMul, Nat.reduceLeDiff, Nat.reduceLT, Nat.reduceEqDiff, Nat.reduceBEq, reduceIte, reduceCtorEq, Int.reduceBEq, Int.reduceEq, Int.reduceLT, Int.reduceLE, Int.reduceGT, Int.reduceGE, Int.reduceAdd, Int.reduceSub, Int.reduceNeg, Int.reduceBNe, ite_true, ite_false, if_true, if_false, implies_true, forall_const]
    · have hq' : (x != y) = false := by simp [bne, hq]
      have e3 : (x :: l.drop (i + 1) == y :: m.drop (i + 1)) = (l.drop (i + 1) == m.drop (i + 1)) := by rw [List.cons_beq_cons, hq]; rfl
      simp only [ha.len, ha.idx hx, hb.idx hy, h1, u8_ne, hq', e1, e2, e3, w1, ih, ↓evD, evU, evL, Nat.reduceAdd, Nat.reduceSub, Nat.reduceMul, Nat.reduceLeDiff, Nat.reduceLT, Nat.reduceEqDiff, Nat.reduceBEq, reduceIte, reduceCtorEq, Int.reduceBEq, Int.reduceEq, Int.reduceLT, Int.reduceLE, Int.reduceGT, Int.reduceGE, Int.reduceAdd, Int.reduceSub, Int.reduceNeg, Int.reduceBNe, ite_true, ite_false, if_true, if_false, implies_true, forall_const]
theorem same_spec {base : Nat} {h : Hp} {a b : PV} {l m : List UInt8} (ha : Rd a l) (hb : Rd b m) (hl : l.length ≤ 4611686018427387904) : CallA T base 17 [a, b] h = some (.bool (l == m), h) := by
  rw [S17]
  by_cases hlm : l.length = m.length
  · have e1 : ((l.length : Int) != (m.length : Int)) = false := by rw [hlm]; simp
    have := same_loop (h := h) ha hb hlm hl l.length 0 (by omega)
    rw [List.drop_zero, List.drop_zero] at this
    simp only [ha.len, hb.len, e1, ↓evD, evU, evL, Nat.reduceAdd, Nat.reduceSub, Nat.reduceMul, Nat.reduceLeDiff, Nat.reduceLT, Nat.reduceEqDiff, Nat.reduceBEq, reduceIte, reduceCtorEq, Int.reduceBEq, Int.reduceEq, Int.reduceLT, Int.reduceLE, Int.reduceGT, Int.reduceGE, Int.reduceAdd, Int.reduceSub, Int.reduceNeg, Int.reduceBNe, ite_true, ite_false, if_true, if_false, implies_true, forall_const]
    exact this
  · have e1 : ((l.length : Int) != (m.length : Int)) = true := by rw [bne_iff_ne]; omega
    have e2 : (l == m) = false := by rw [beq_eq_false_iff_ne]; rintro rfl; exact hlm rfl
    simp only [ha.len, hb.len, e1, e2, ↓evD, evU, evL, Nat.reduceAdd, Nat.reduceSub, Nat.reduceMul, Nat.reduceLeDiff, Nat.reduceLT, Nat.reduceEqDiff, Nat.reduceBEq, reduceIte, reduceCtorEq, Int.reduceBEq, Int.reduceEq, Int.reduceLT, Int.reduceLE, Int.reduceGT, Int.reduceGE, Int.reduceAdd, Int.reduceSub, Int.reduceNeg, Int.reduceBNe, ite_true, ite_false, if_true, if_false, implies_true, forall_const]
theorem sameVal_spec {base : Nat} {h : Hp} (k n : Int) (s : List UInt8) {b : PV} {l : List UInt8} (o i k' n' : Int) (s' : List UInt8) {b' : PV} {l' : List UInt8} (o' i' : Int) (hb : Bv b l) (hb' : Bv b' l') (hl : l.length ≤ 4611686018427387904) :
    CallA T base 15 [val k n s b o i, val k' n' s' b' o' i'] h = some (.bool (k == k' && (n == n' && (s == s' && (l == l' && (o == o' && i == i'))))), h) := by
  rw [S15]
  have hS : ∀ base h, _ := fun base h => same_spec (base := base) (h := h) hb.rd hb'.rd hl
  cases h1 : (k == k')
  · simp only [hb.scalar, hb.cells, hb'.scalar, hb'.cells, h1, ↓evD, evU, evL, Nat.reduceAdd, Nat.reduceSub, Nat.reduceMul, Nat.reduceLeDiff, Nat.reduceLT, Nat.reduceEqDiff, Nat.reduceBEq, reduceIte, reduceCtorEq, Int.reduceBEq, Int.reduceEq, Int.reduceLT, Int.reduceLE, Int.reduceGT, Int.reduceGE, Int.reduceAdd, Int.reduceSub, Int.reduceNeg, Int.reduceBNe, ite_true, ite_false, if_true, if_false, implies_true, forall_const]
  cases h2 : (n == n')
  · simp only [hb.scalar, hb.cells, hb'.scalar, hb'.cells, h1, h2, ↓evD, evU, evL, Nat.reduceAdd, Nat.reduceSub, Nat.reduceMul, Nat.reduceLeDiff, Nat.reduceLT, Nat.reduceEqDiff, Nat.reduceBEq, reduceIte, reduceCtorEq, Int.reduceBEq, Int.reduceEq, Int.reduceLT, Int.reduceLE, Int.reduceGT, Int.reduceGE, Int.reduceAdd, Int.reduceSub, Int.reduceNeg, Int.reduceBNe, ite_true, ite_false, if_true, if_false, implies_true, forall_const]
  cases h3 : (s == s')
  · simp only [hb.scalar, hb.cells, hb'.scalar, hb'.cells, h1, h2, h3, ↓evD, evU, evL, Nat.reduceAdd, Nat.reduceSub, Nat.reduceMul, Nat.reduceLeDiff, Nat.reduceLT, Nat.reduceEqDiff, Nat.reduceBEq, reduceIte, reduceCtorEq, Int.reduceBEq, Int.reduceEq, Int.reduceLT, Int.reduceLE, Int.reduceGT, Int.reduceGE, Int.reduceAdd, Int.reduceSub, Int.reduceNeg, Int.reduceBNe, ite_true, ite_false, if_true, if_false, implies_true, forall_const]
  cases h4 : (l == l')
  · simp only [hb.scalar, hb.cells, hb'.scalar, hb'.cells, h1, h2, h3, hS, h4, ↓evD, evU, evL, Nat.reduceAdd, Nat.reduceSub, Nat.reduceMul, Nat.reduceLeDiff, Nat.reduceLT, Nat.reduceEqDiff, Nat.reduceBEq, reduceIte, reduceCtorEq, Int.reduceBEq, Int.reduceEq, Int.reduceLT, Int.reduceLE, Int.reduceGT, Int.reduceGE, Int.reduceAdd, Int.reduceSub, Int.reduceNeg, Int.reduceBNe, ite_true, ite_false, if_true, if_false, implies_true, forall_const]
  cases h5 : (o == o')
  · simp only [hb.scalar, hb.cells, hb'.scalar, hb'.cells, h1, h2, h3, hS, h4, h5, ↓evD, evU, evL, Nat.reduceAdd, Nat.reduceSub, Nat.reduceMul, Nat.reduceLeDiff, Nat.reduceLT, Nat.reduceEqDiff, Nat.reduceBEq, reduceIte, reduceCtorEq, Int.reduceBEq, Int.reduceEq, Int.reduceLT, Int.reduceLE, Int.reduceGT, Int.reduceGE, Int.reduceAdd, Int.reduceSub, Int.reduceNeg, Int.reduceBNe, ite_true, ite_false, if_true, if_false, implies_true, forall_const]
  cases h6 : (i == i') <;> simp only [hb.scalar, hb.cells, hb'.scalar, hb'.cells, h1, h2, h3, hS, h4, h5, h6, ↓evD, evU, evL, Nat.reduceAdd, Nat.reduceSub, Nat.reduceMul, Nat.reduceLeDiff, Nat.reduceLT, Nat.reduceEqDiff, Nat.reduceBEq, reduceIte, reduceCtorEq, Int.reduceBEq, Int.reduceEq, Int.reduceLT, Int.reduceLE, Int.reduceGT, Int.reduceGE, Int.reduceAdd, Int.reduceSub, Int.reduceNeg, Int.reduceBNe, ite_true, ite_false, if_true, if_false, implies_true, forall_const]
theorem bneI (n : Int) : ∃ b, (n != 0) = b ∧ (0 != n) = b := ⟨_, rfl, by rw [bne_comm]⟩
theorem bneS (s : List UInt8) : ∃ b, (s != []) = b ∧ ([] != s) = b := ⟨_, rfl, by rw [bne_comm]⟩
theorem bneL (n : Nat) : ∃ b, decide ((n : Int) > 0) = b ∧ ((0 : Int) != (n : Int)) = b := by
  refine ⟨_, rfl, ?_⟩
  cases n with
  | zero => rfl
  | succ n => rw [decide_eq_true (by omega), bne_iff_ne]; omega
set_option maxHeartbeats 4000000 in
theorem rightR_spec {base : Nat} {h : Hp} (k n : Int) (s : List UInt8) {b : PV} {l : List UInt8} (o i : Int) (hb : Bv b l) {c : Int} {r : Bool} (hr : ∀ base h, CallA T base 39 [.str s] h = some (.tup [i64 c, .bool r], h)) :
    CallA T base 28 [val k n s b o i] h = some (.bool (rightG k n s l.length o i r), h) := by
  rw [S28]
  unfold rightG extraG onlyN
  obtain ⟨b1, n1, n2⟩ := bneI n
  obtain ⟨b2, s1, s2⟩ := bneS s
  obtain ⟨b3, l1, l2⟩ := bneL l.length
  obtain ⟨b4, o1, o2⟩ := bneI o
  obtain ⟨b5, i1, i2⟩ := bneI i
  have z0 : ((0 : Nat) : Int) = 0 := rfl
  have dl := decide_len l.length
  by_cases h1 : k = 1
  · subst h1; cases b2 <;> cases b3 <;> cases b4 <;> cases b5 <;> simp only [hr, hb.scalar, hb.cells, hb.len, n1, n2, s1, s2, l1, l2, o1, o2, i1, i2, z0, P28_0_eq, ↓evD, evU, evL, Nat.reduceAdd, Nat.reduceSub, Nat.reduceMul, Nat.reduceLeDiff, Nat.reduceLT, Nat.reduceEqDiff, Nat.reduceBEq, reduceIte, reduceCtorEq, Int.reduceBEq, Int.reduceEq, Int.reduceLT, Int.reduceLE, Int.reduceGT, Int.reduceGE, Int.reduceAdd, Int.reduceSub, Int.reduceNeg, Int.reduceBNe, ite_true, ite_false, if_true, if_false, implies_true, forall_const]
  by_cases h5 : k = 5
  · subst h5; cases b2 <;> cases b3 <;> cases b4 <;> cases b5 <;> simp only [hr, hb.scalar, hb.cells, hb.len, n1, n2, s1, s2, l1, l2, o1, o2, i1, i2, z0, P28_0_eq, ↓evD, evU, evL, Nat.reduceAdd, Nat.reduceSub, Nat.reduceMul, Nat.reduceLeDiff, Nat.reduceLT, Nat.reduceEqDiff, Nat.reduceBEq, reduceIte, reduceCtorEq, Int.reduceBEq, Int.reduceEq, Int.reduceLT, Int.reduceLE, Int.reduceGT, Int.reduceGE, Int.reduceAdd, Int.reduceSub, Int.reduceNeg, Int.reduceBNe, ite_true, ite_false, if_true, if_false, implies_true, forall_const]
  by_cases h2 : k = 2
  · subst h2; cases q : (n == 0) <;> cases b2 <;> cases b3 <;> cases b4 <;> cases b5 <;> simp only [hr, hb.scalar, hb.cells, hb.len, n1, n2, s1, s2, l1, l2, o1, o2, i1, i2, z0, q, P28_0_eq, ↓evD, evU, evL, Nat.reduceAdd, Nat.reduceSub, Nat.reduceMul, Nat.reduceLeDiff, Nat.reduceLT, Nat.reduceEqDiff, Nat.reduceBEq, reduceIte, reduceCtorEq, Int.reduceBEq, Int.reduceEq, Int.reduceLT, Int.reduceLE, Int.reduceGT, Int.reduceGE, Int.reduceAdd, Int.reduceSub, Int.reduceNeg, Int.reduceBNe, ite_true, ite_false, if_true, if_false, implies_true, forall_const]
  by_cases h3 : k = 3
  · subst h3; cases r <;> cases b1 <;> cases b3 <;> cases b4 <;> cases b5 <;> simp only [hr, hb.scalar, hb.cells, hb.len, n1, n2, s1, s2, l1, l2, o1, o2, i1, i2, z0, decide_len, P28_0_eq, ↓evD, evU, evL, Nat.reduceAdd, Nat.reduceSub, Nat.reduceMul, Nat.reduceLeDiff, Nat.reduceLT, Nat.reduceEqDiff, Nat.reduceBEq, reduceIte, reduceCtorEq, Int.reduceBEq, Int.reduceEq, Int.reduceLT, Int.reduceLE, Int.reduceGT, Int.reduceGE, Int.reduceAdd, Int.reduceSub, Int.reduceNeg, Int.reduceBNe, ite_true, ite_false, if_true, if_false, implies_true, forall_const]
  by_cases h4 : k = 4
  · subst h4; cases b1 <;> cases b2 <;> cases b4 <;> cases b5 <;> simp only [hr, hb.scalar, hb.cells, hb.len, n1, n2, s1, s2, l1, l2, o1, o2, i1, i2, z0, decide_len, P28_0_eq, ↓evD, evU, evL, Nat.reduceAdd, Nat.reduceSub, Nat.reduceMul, Nat.reduceLeDiff, Nat.reduceLT, Nat.reduceEqDiff, Nat.reduceBEq, reduceIte, reduceCtorEq, Int.reduceBEq, Int.reduceEq, Int.reduceLT, Int.reduceLE, Int.reduceGT, Int.reduceGE, Int.reduceAdd, Int.reduceSub, Int.reduceNeg, Int.reduceBNe, ite_true, ite_false, if_true, if_false, implies_true, forall_const]
  by_cases h6 : k = 6
  · subst h6
    by_cases q1 : 0 ≤ o <;> by_cases q2 : o ≤ 65535 <;> by_cases q3 : 0 ≤ i <;> by_cases q4 : i ≤ 65535 <;>
      cases b1 <;> cases b2 <;> cases b3 <;> simp only [ge_iff_le, hr, hb.scalar, hb.cells, hb.len, n1, n2, s1, s2, l1, l2, o1, o2, i1, i2, z0, q1, q2, q3, q4, P28_0_eq, ↓evD, evU, evL, Nat.reduceAdd, Nat.reduceSub, Nat.reduceMul, Nat.reduceLeDiff, Nat.reduceLT, Nat.reduceEqDiff, Nat.reduceBEq, reduceIte, reduceCtorEq, Int.reduceBEq, Int.reduceEq, Int.reduceLT, Int.reduceLE, Int.reduceGT, Int.reduceGE, Int.reduceAdd, Int.reduceSub, Int.reduceNeg, Int.reduceBNe, ite_true, ite_false, if_true, if_false, implies_true, forall_const]
  have k1 := bne_true_of h1
  have k2 := bne_true_of h2
  have k3 := bne_true_of h3
  have k4 := bne_true_of h4
  have k5 := bne_true_of h5
  have k6 := bne_true_of h6
  cases b1 <;> cases b2 <;> cases b3 <;> cases b4 <;> cases b5 <;> simp only [hr, hb.scalar, hb.cells, hb.len, n1, n2, s1, s2, l1, l2, o1, o2, i1, i2, z0, k1, k2, k3, k4, k5, k6, h1, h2, h3, h4, h5, h6,
    beq_false_of h1, beq_false_of h2, beq_false_of h3, beq_false_of h4, beq_false_of h5, beq_false_of h6, P28_0_eq, ↓evD, evU, evL, Nat.reduceAdd, Nat.reduceSub, Nat.reduceMul, Nat.reduceLeDiff, Nat.reduceLT, Nat.reduceEqDiff, Nat.reduceBEq, reduceIte, reduceCtorEq, Int.reduceBEq, Int.reduceEq, Int.reduceLT, Int.reduceLE, Int.reduceGT, Int.reduceGE, Int.reduceAdd, Int.reduceSub, Int.reduceNeg, Int.reduceBNe, ite_true, ite_false, if_true, if_false, implies_true, forall_const]
end Go.Am.YtppkffebmoffnaaDoor
namespace Go.Am.YtppkffebmoffnaaDoor
def sgn : List UInt8 := [65, 66, 67, 68, 69, 70, 71, 72, 73, 74, 75, 76, 77, 78, 79, 80, 81, 82, 83, 84, 85, 86, 87, 88, 89, 90, 97, 98, 99, 100, 101, 102, 103, 104, 105, 106, 107, 108, 109, 110, 111, 112, 113, 114, 115, 116, 117, 118, 119, 120, 121, 122, 48, 49, 50, 51, 52, 53, 54, 55, 56, 57, 43, 47]
def letG (n : Nat) : UInt8 := sgn.getD n 0
def encL : List UInt8 → List UInt8
  | a :: b :: c :: r => letG (a.toNat / 4) :: letG (a.toNat % 4 * 16 + b.toNat / 16) :: letG (b.toNat % 16 * 4 + c.toNat / 64) :: letG (c.toNat % 64) :: encL r
  | [a, b] => [letG (a.toNat / 4), letG (a.toNat % 4 * 16 + b.toNat / 16), letG (b.toNat % 16 * 4), 61]
  | [a] => [letG (a.toNat / 4), letG (a.toNat % 4 * 16), 61, 61]
  | [] => []
theorem sgn_get {n : Nat} (h : n < 64) : sgn[n]? = some (letG n) := by
  unfold letG
  have : n < sgn.length := h
  simp [List.getD_eq_getElem?_getD, this]
theorem encL_len : ∀ l : List UInt8, (encL l).length = (l.length + 2) / 3 * 4
  | a :: b :: c :: r => by simp only [encL, List.length_cons, encL_len r]; omega
  | [a, b] => by simp [encL]
  | [a] => by simp [encL]
  | [] => by simp [encL]
end Go.Am.YtppkffebmoffnaaDoor
namespace Go.Am.YtppkffebmoffnaaDoor
set_option maxRecDepth 100000
set_option linter.unusedSimpArgs false
set_option linter.unusedVariables false
/-- A heap with a builder on top that holds a text. -/
def bld (h : Hp) (out : List UInt8) : Hp := if out = [] then ext h [.cells [.bnil 94, .nils]] else ext h [.cells [.ptr (size h) 0, .sl (.tok (size h + 1)) 1 (u8s out)], .tok out.length 5]
theorem strips_u8s : ∀ l : List UInt8, strips (u8s l) = u8s l
  | [] => rfl
  | c :: l => by show strip _ :: strips (u8s l) = _; rw [strips_u8s l]; rfl
theorem u8s_len (l : List UInt8) : (u8s l).length = l.length := by simp [u8s]
theorem u8s_append (a b : List UInt8) : u8s a ++ u8s b = u8s (a ++ b) := by simp [u8s]
theorem bytesOf_u8s (l : List UInt8) : bytesOf (u8s l) = some l := bytesOf_bytes l
theorem u8s_ne {l : List UInt8} (h : l ≠ []) : u8s l ≠ [] := by cases l <;> simp_all [u8s]
theorem growT_one_tok {h : Hp} {T' sz t : Nat} {es : List PV} {x : PV} (ht : getTok h t = some (es.length, T')) (hx : fits sz x = true) (hl : es.length + 1 ≤ lim2) :
    growT h T' sz (.sl (.tok t) sz es) [x] = some (.sl (.tok t) sz (es ++ [strip x]), setBx h t (.tok (es.length + 1) T')) := by
  simp [growT, hx, ht, hl, strips, Option.bnd_some]
theorem write_byte {h : Hp} {base : Nat} (hb : base ≤ size h) (out : List UInt8) (c : UInt8) (hl : out.length + 1 ≤ lim2) :
    CallA T base 53 [.ptr (size h) 0, .int .u8 c.toNat] (bld h out) = some (.nilif, bld h (out ++ [c])) := by
  have hlt : ¬ size h < base := by omega
  unfold bld
  rw [if_neg (by simp : out ++ [c] ≠ [])]
  by_cases ho : out = []
  · subst ho
    have hcc : CallA T base 62 [.ptr (size h) 0] (ext h [.cells [.bnil 94, .nils]]) = some (.tup [], ext h [.cells [.ptr (size h) 0, .nils]]) := by
      rw [CallA_prim T_62]
      simp only [pCopyCheck, primEnd, hlt, Option.isSome_some, ↓evD, evU, evL, Nat.reduceAdd, Nat.reduceSub, Nat.reduceMul, Nat.reduceLeDiff, Nat.reduceLT, Nat.reduceEqDiff, Nat.reduceBEq, reduceIte, reduceCtorEq, Int.reduceBEq, Int.reduceEq, Int.reduceLT, Int.reduceLE, Int.reduceGT, Int.reduceGE, Int.reduceAdd, Int.reduceSub, Int.reduceNeg, Int.reduceBNe, ite_true, ite_false, if_true, if_false, implies_true, forall_const]
    rw [if_pos rfl, S53]
    simp only [hcc, hlt, growT_one_nils, fits_def, ↓evD, evU, evL, Nat.reduceAdd, Nat.reduceSub, Nat.reduceMul, Nat.reduceLeDiff, Nat.reduceLT, Nat.reduceEqDiff, Nat.reduceBEq, reduceIte, reduceCtorEq, Int.reduceBEq, Int.reduceEq, Int.reduceLT, Int.reduceLE, Int.reduceGT, Int.reduceGE, Int.reduceAdd, Int.reduceSub, Int.reduceNeg, Int.reduceBNe, ite_true, ite_false, if_true, if_false, implies_true, forall_const]
    rfl
  · have hcc : CallA T base 62 [.ptr (size h) 0] (ext h [.cells [.ptr (size h) 0, .sl (.tok (size h + 1)) 1 (u8s out)], .tok out.length 5]) = some (.tup [], ext h [.cells [.ptr (size h) 0, .sl (.tok (size h + 1)) 1 (u8s out)], .tok out.length 5]) := by
      rw [CallA_prim T_62]
      simp only [pCopyCheck, primEnd, ↓evD, evU, evL, Nat.reduceAdd, Nat.reduceSub, Nat.reduceMul, Nat.reduceLeDiff, Nat.reduceLT, Nat.reduceEqDiff, Nat.reduceBEq, reduceIte, reduceCtorEq, Int.reduceBEq, Int.reduceEq, Int.reduceLT, Int.reduceLE, Int.reduceGT, Int.reduceGE, Int.reduceAdd, Int.reduceSub, Int.reduceNeg, Int.reduceBNe, ite_true, ite_false, if_true, if_false, implies_true, forall_const]
    have hg : getTok (ext h [.cells [.ptr (size h) 0, .sl (.tok (size h + 1)) 1 (u8s out)], .tok out.length 5]) (size h + 1) = some ((u8s out).length, 5) := by
      simp only [u8s_len, ↓evD, evU, evL, Nat.reduceAdd, Nat.reduceSub, Nat.reduceMul, Nat.reduceLeDiff, Nat.reduceLT, Nat.reduceEqDiff, Nat.reduceBEq, reduceIte, reduceCtorEq, Int.reduceBEq, Int.reduceEq, Int.reduceLT, Int.reduceLE, Int.reduceGT, Int.reduceGE, Int.reduceAdd, Int.reduceSub, Int.reduceNeg, Int.reduceBNe, ite_true, ite_false, if_true, if_false, implies_true, forall_const]
    have hgr := growT_one_tok (x := .int .u8 c.toNat) (sz := 1) hg rfl (by rw [u8s_len]; exact hl)
    rw [if_neg ho, S53]
    simp only [hcc, hlt, hgr, u8s_len, ↓evD, evU, evL, Nat.reduceAdd, Nat.reduceSub, Nat.reduceMul, Nat.reduceLeDiff, Nat.reduceLT, Nat.reduceEqDiff, Nat.reduceBEq, reduceIte, reduceCtorEq, Int.reduceBEq, Int.reduceEq, Int.reduceLT, Int.reduceLE, Int.reduceGT, Int.reduceGE, Int.reduceAdd, Int.reduceSub, Int.reduceNeg, Int.reduceBNe, ite_true, ite_false, if_true, if_false, implies_true, forall_const]
    rw [← u8s_append]
    simp [u8s]
theorem string_of {h : Hp} {base : Nat} (out : List UInt8) (hl : out.length ≤ lim2) : CallA T base 54 [.ptr (size h) 0] (bld h out) = some (.str out, bld h out) := by
  unfold bld
  rw [CallA_prim T_54]
  by_cases ho : out = []
  · subst ho
    rw [if_pos rfl]
    simp only [pString, primEnd, ↓evD, evU, evL, Nat.reduceAdd, Nat.reduceSub, Nat.reduceMul, Nat.reduceLeDiff, Nat.reduceLT, Nat.reduceEqDiff, Nat.reduceBEq, reduceIte, reduceCtorEq, Int.reduceBEq, Int.reduceEq, Int.reduceLT, Int.reduceLE, Int.reduceGT, Int.reduceGE, Int.reduceAdd, Int.reduceSub, Int.reduceNeg, Int.reduceBNe, ite_true, ite_false, if_true, if_false, implies_true, forall_const]
  · rw [if_neg ho]
    have h1 := u8s_ne ho
    have h2 := bytesOf_u8s out
    simp only [pString, primEnd, u8s_len, h1, h2, hl, ne_eq, ↓evD, evU, evL, Nat.reduceAdd, Nat.reduceSub, Nat.reduceMul, Nat.reduceLeDiff, Nat.reduceLT, Nat.reduceEqDiff, Nat.reduceBEq, reduceIte, reduceCtorEq, Int.reduceBEq, Int.reduceEq, Int.reduceLT, Int.reduceLE, Int.reduceGT, Int.reduceGE, Int.reduceAdd, Int.reduceSub, Int.reduceNeg, Int.reduceBNe, ite_true, ite_false, if_true, if_false, implies_true, forall_const]
end Go.Am.YtppkffebmoffnaaDoor
namespace Go.Am.YtppkffebmoffnaaDoor
set_option linter.unusedSimpArgs false
theorem ofInt_nat (w x : Nat) (h : x < 2 ^ w) : (BitVec.ofInt w (x : Int)).toNat = x := by
  rw [BitVec.ofInt_natCast, BitVec.toNat_ofNat, Nat.mod_eq_of_lt h]
theorem wrap_u32 (x : Nat) (h : x < 4294967296) : IntKind.u32.wrap (x : Int) = x := by
  have : IntKind.u32.wrap (x : Int) = (x : Int) % 4294967296 := rfl
  rw [this]; omega
theorem wrap_u8 (x : Nat) : IntKind.u8.wrap (x : Int) = ((x % 256 : Nat) : Int) := by
  have : IntKind.u8.wrap (x : Int) = (x : Int) % 256 := rfl
  rw [this]; omega
theorem wrap_i64n (x : Nat) (h : x < 9223372036854775808) : IntKind.i64.wrap (x : Int) = x := by rw [wrap_small] <;> omega
theorem or_u32 {i x c : Nat} (hx : 2 ^ i * x + c < 4294967296) (hc : c < 2 ^ i) : intBits .or .u32 ((2 ^ i * x : Nat) : Int) (c : Int) = some (.int .u32 ((2 ^ i * x + c : Nat) : Int)) := by
  have h1 : 2 ^ i * x < 2 ^ 32 := by omega
  have h2 : c < 2 ^ 32 := by omega
  show some (PV.int _ (IntKind.u32.wrap ((BitVec.ofInt 32 ((2 ^ i * x : Nat) : Int) ||| BitVec.ofInt 32 (c : Int)).toNat))) = _
  rw [BitVec.toNat_or, ofInt_nat 32 _ h1, ofInt_nat 32 _ h2, ← Nat.two_pow_add_eq_or_of_lt hc, wrap_u32 _ hx]
theorem and_u32 {x : Nat} (i : Nat) (hx : x < 4294967296) (hi : 2 ^ i ≤ 4294967296) : intBits .and .u32 (x : Int) ((2 ^ i - 1 : Nat) : Int) = some (.int .u32 ((x % 2 ^ i : Nat) : Int)) := by
  have hp : 0 < 2 ^ i := Nat.two_pow_pos i
  have h2 : 2 ^ i - 1 < 2 ^ 32 := by omega
  show some (PV.int _ (IntKind.u32.wrap ((BitVec.ofInt 32 (x : Int) &&& BitVec.ofInt 32 ((2 ^ i - 1 : Nat) : Int)).toNat))) = _
  rw [BitVec.toNat_and, ofInt_nat 32 _ hx, ofInt_nat 32 _ h2, Nat.and_two_pow_sub_one_eq_mod, wrap_u32 _ (by have := Nat.mod_lt x hp; omega)]
theorem and_i64 {x : Nat} (i : Nat) (hx : x < 9223372036854775808) (hi : 2 ^ i ≤ 9223372036854775808) : intBits .and .i64 (x : Int) ((2 ^ i - 1 : Nat) : Int) = some (.int .i64 ((x % 2 ^ i : Nat) : Int)) := by
  have hp : 0 < 2 ^ i := Nat.two_pow_pos i
  have h2 : 2 ^ i - 1 < 2 ^ 64 := by omega
  show some (PV.int _ (IntKind.i64.wrap ((BitVec.ofInt 64 (x : Int) &&& BitVec.ofInt 64 ((2 ^ i - 1 : Nat) : Int)).toNat))) = _
  rw [BitVec.toNat_and, ofInt_nat 64 _ (by omega), ofInt_nat 64 _ h2, Nat.and_two_pow_sub_one_eq_mod, wrap_i64n _ (by have := Nat.mod_lt x hp; omega)]
theorem shl_u32 {x i : Nat} (h : x * 2 ^ i < 4294967296) (hi : i < 32) : shiftOp .shl .u32 (x : Int) (i : Int) = some (.int .u32 ((2 ^ i * x : Nat) : Int)) := by
  have e : min (i : Int).toNat IntKind.u32.bits = i := by
    have : IntKind.u32.bits = 32 := rfl
    rw [this, Int.toNat_natCast]; omega
  simp only [shiftOp, e]
  rw [if_neg (by omega)]
  have e2 : (x : Int) * 2 ^ i = ((2 ^ i * x : Nat) : Int) := by rw [Int.natCast_mul, Int.natCast_pow, Int.mul_comm]; rfl
  rw [e2, wrap_u32 _ (by rw [Nat.mul_comm]; exact h)]
theorem shl_i64 {x i : Nat} (h : x * 2 ^ i < 9223372036854775808) (hi : i < 64) : shiftOp .shl .i64 (x : Int) (i : Int) = some (.int .i64 ((2 ^ i * x : Nat) : Int)) := by
  have e : min (i : Int).toNat IntKind.i64.bits = i := by
    have : IntKind.i64.bits = 64 := rfl
    rw [this, Int.toNat_natCast]; omega
  simp only [shiftOp, e]
  rw [if_neg (by omega)]
  have e2 : (x : Int) * 2 ^ i = ((2 ^ i * x : Nat) : Int) := by rw [Int.natCast_mul, Int.natCast_pow, Int.mul_comm]; rfl
  rw [e2, wrap_i64n _ (by rw [Nat.mul_comm]; exact h)]
theorem shr_kind {k : IntKind} {x i : Nat} (hi : i ≤ k.bits) : shiftOp .shr k (x : Int) (i : Int) = some (.int k ((x / 2 ^ i : Nat) : Int)) := by
  have e : min (i : Int).toNat k.bits = i := by rw [Int.toNat_natCast]; omega
  simp only [shiftOp, e]
  rw [if_neg (by omega)]
  have : (x : Int).fdiv (2 ^ i) = ((x / 2 ^ i : Nat) : Int) := by
    rw [Int.fdiv_eq_ediv_of_nonneg _ (Int.le_of_lt (Int.pow_pos (by decide)))]
    simp
  rw [this]
end Go.Am.YtppkffebmoffnaaDoor
namespace Go.Am.YtppkffebmoffnaaDoor
set_option maxRecDepth 100000
set_option linter.unusedSimpArgs false
set_option linter.unusedVariables false
theorem intOp_or (k a b) : intOp .or k a b = intBits .or k a b := rfl
theorem intOp_and (k a b) : intOp .and k a b = intBits .and k a b := rfl
theorem sgn_length : sgn.length = 64 := rfl
theorem u8s_cons (a : UInt8) (l : List UInt8) : u8s (a :: l) = .int .u8 a.toNat :: u8s l := rfl
theorem u8s_nil : u8s [] = [] := rfl
theorem toInt_u8 (a : UInt8) : IntKind.u32.wrap (a.toNat : Int) = a.toNat := wrap_u32 _ (by have := a.toNat_lt; omega)
theorem wl0 : IntKind.i64.wrap 0 = 0 := rfl
theorem wl1 : IntKind.i64.wrap 1 = 1 := rfl
theorem wl2 : IntKind.i64.wrap 2 = 2 := rfl
theorem wl3 : IntKind.i64.wrap 3 = 3 := rfl
theorem wl4 : IntKind.i64.wrap 4 = 4 := rfl
theorem wl6 : IntKind.i64.wrap 6 = 6 := rfl
theorem wl12 : IntKind.i64.wrap 12 = 12 := rfl
theorem wl18 : IntKind.i64.wrap 18 = 18 := rfl
theorem sh0 : shiftOp .shl .u32 0 8 = some (.int .u32 0) := rfl
theorem or0 (a : UInt8) : intBits .or .u32 0 (a.toNat : Int) = some (.int .u32 (a.toNat : Int)) := by
  have := or_u32 (i := 8) (x := 0) (c := a.toNat) (by have := a.toNat_lt; omega) (by have := a.toNat_lt; omega)
  simpa using this
/-- The signs of a group: by the places of its bits. -/
theorem sign_at (g i : Nat) (hg : g < 16777216) (hi : i ≤ 32) : shiftOp .shr .u32 (g : Int) (i : Int) = some (.int .u32 ((g / 2 ^ i : Nat) : Int)) ∧
    intBits .and .u32 ((g / 2 ^ i : Nat) : Int) 63 = some (.int .u32 ((g / 2 ^ i % 64 : Nat) : Int)) := by
  refine ⟨shr_kind hi, ?_⟩
  have h1 : g / 2 ^ i ≤ g := Nat.div_le_self _ _
  exact and_u32 6 (by omega) (by decide)
theorem idx_sgn (j : Nat) : ix (.int .u32 ((j % 64 : Nat) : Int)) 64 = some (j % 64) ∧ sgn[j % 64]? = some (letG (j % 64)) := by
  have : j % 64 < 64 := Nat.mod_lt _ (by decide)
  exact ⟨ix_nat .u32 _ _ this, sgn_get this⟩
theorem len1 (out : List UInt8) (a : UInt8) : (out ++ [a]).length = out.length + 1 := by simp
theorem len2 (out : List UInt8) (a b : UInt8) : (out ++ [a] ++ [b]).length = out.length + 2 := by simp
theorem len3 (out : List UInt8) (a b c : UInt8) : (out ++ [a] ++ [b] ++ [c]).length = out.length + 3 := by simp
theorem len4 (out : List UInt8) (a b c d : UInt8) : (out ++ [a] ++ [b] ++ [c] ++ [d]).length = out.length + 4 := by simp
theorem wb {h : Hp} (out : List UInt8) (c : UInt8) (hl : out.length + 1 ≤ lim2) : CallA T (size h) 53 [.ptr (size h) 0, .int .u8 c.toNat] (bld h out) = some (.nilif, bld h (out ++ [c])) := write_byte (Nat.le_refl _) out c hl
/-- One round of the signs' loop: a sign of the group. -/
theorem enc_sign {h : Hp} (i g : Nat) (v0 : PV) (n : Int) (out : List UInt8) (hi : i < 4) (hn : (i : Int) ≤ n) (hg : g < 16777216) (hl : out.length + 1 ≤ lim2) :
    P44_2 (size h) (size h) (.int .i64 i) (.ptr (size h) 0) (.int .u32 g) (.int .i64 n) v0 (bld h out) =
    P44_2 (size h) (size h) (.int .i64 ((i + 1 : Nat) : Int)) (.ptr (size h) 0) (.int .u32 g) (.int .i64 n) v0 (bld h (out ++ [letG (g / 2 ^ (18 - 6 * i) % 64)])) := by
  rw [P44_2_eq]
  have h1 : ((i : Int) < 4) = True := by simp; omega
  have h2 : ((i : Int) > n) = False := by simp; omega
  have w1 : IntKind.i64.wrap (6 * (i : Int)) = ((6 * i : Nat) : Int) := by rw [wrap_small] <;> omega
  have w2 : IntKind.i64.wrap (18 - ((6 * i : Nat) : Int)) = ((18 - 6 * i : Nat) : Int) := by rw [wrap_small] <;> omega
  have w3 : IntKind.i64.wrap ((i : Int) + 1) = ((i + 1 : Nat) : Int) := by rw [wrap_small] <;> omega
  obtain ⟨s0, t0⟩ := sign_at g (18 - 6 * i) hg (by omega)
  obtain ⟨i0, k0⟩ := idx_sgn (g / 2 ^ (18 - 6 * i))
  have w0 := wb (h := h) out (letG (g / 2 ^ (18 - 6 * i) % 64)) hl
  have hs : [65, 66, 67, 68, 69, 70, 71, 72, 73, 74, 75, 76, 77, 78, 79, 80, 81, 82, 83, 84, 85, 86, 87, 88, 89, 90, 97, 98, 99, 100, 101, 102, 103, 104, 105, 106, 107, 108, 109, 110, 111, 112, 113, 114, 115, 116, 117, 118, 119, 120, 121, 122, 48, 49, 50, 51, 52, 53, 54, 55, 56, 57, 43, 47] = sgn := rfl
  simp only [h1, h2, w1, w2, w3, s0, t0, i0, k0, w0, hs, sgn_length, intOp_and, ↓evD, evU, evL, Nat.reduceAdd, Nat.reduceSub, Nat.reduceMul, Nat.reduceLeDiff, Nat.reduceLT, Nat.reduceEqDiff, Nat.reduceBEq, reduceIte, reduceCtorEq, Int.reduceBEq, Int.reduceEq, Int.reduceLT, Int.reduceLE, Int.reduceGT, Int.reduceGE, Int.reduceAdd, Int.reduceSub, Int.reduceNeg, Int.reduceBNe, ite_true, ite_false, if_true, if_false, implies_true, forall_const]
theorem enc_pad {h : Hp} (i : Nat) (g : PV) (v0 : PV) (n : Int) (out : List UInt8) (hi : i < 4) (hn : n < i) (hl : out.length + 1 ≤ lim2) :
    P44_2 (size h) (size h) (.int .i64 i) (.ptr (size h) 0) g (.int .i64 n) v0 (bld h out) =
    P44_2 (size h) (size h) (.int .i64 ((i + 1 : Nat) : Int)) (.ptr (size h) 0) g (.int .i64 n) v0 (bld h (out ++ [61])) := by
  rw [P44_2_eq]
  have h1 : ((i : Int) < 4) = True := by simp; omega
  have h2 : ((i : Int) > n) = True := by simp; omega
  have w3 : IntKind.i64.wrap ((i : Int) + 1) = ((i + 1 : Nat) : Int) := by rw [wrap_small] <;> omega
  have w0 := wb (h := h) out 61 hl
  have z61 : (((61 : UInt8).toNat : Nat) : Int) = 61 := rfl
  rw [z61] at w0
  simp only [h1, h2, w3, w0, ↓evD, evU, evL, Nat.reduceAdd, Nat.reduceSub, Nat.reduceMul, Nat.reduceLeDiff, Nat.reduceLT, Nat.reduceEqDiff, Nat.reduceBEq, reduceIte, reduceCtorEq, Int.reduceBEq, Int.reduceEq, Int.reduceLT, Int.reduceLE, Int.reduceGT, Int.reduceGE, Int.reduceAdd, Int.reduceSub, Int.reduceNeg, Int.reduceBNe, ite_true, ite_false, if_true, if_false, implies_true, forall_const]
theorem enc_over {h : Hp} (g : PV) (o : Own) (l : List UInt8) (n : Nat) (hn : n ≤ l.length) (out : List UInt8) :
    ∃ o', P44_2 (size h) (size h) (.int .i64 4) (.ptr (size h) 0) g (.int .i64 n) (.sl o 1 (u8s l)) (bld h out) = P44_0 (size h) (size h) (.sl o' 1 (u8s (l.drop n))) (.ptr (size h) 0) (bld h out) := by
  refine ⟨if (isFull o && (u8s l).length == (u8s l).length) = true then .full else .no, ?_⟩
  rw [P44_2_eq]
  have hb := bdV_nat (u8s l).length .i64 n (by rw [u8s_len]; exact hn)
  have hd : ((u8s l).drop n).take ((u8s l).length - n) = u8s (l.drop n) := by
    rw [List.take_of_length_le (by rw [List.length_drop]; exact Nat.le_refl _)]; simp [u8s]
  have h4 : ((4 : Int) < 4) = False := by simp
  simp only [h4, hb, hd, ↓evD, evU, evL, Nat.reduceAdd, Nat.reduceSub, Nat.reduceMul, Nat.reduceLeDiff, Nat.reduceLT, Nat.reduceEqDiff, Nat.reduceBEq, reduceIte, reduceCtorEq, Int.reduceBEq, Int.reduceEq, Int.reduceLT, Int.reduceLE, Int.reduceGT, Int.reduceGE, Int.reduceAdd, Int.reduceSub, Int.reduceNeg, Int.reduceBNe, ite_true, ite_false, if_true, if_false, implies_true, forall_const]
theorem enc_done {h : Hp} (o : Own) (out : List UInt8) (hl : out.length ≤ lim2) : P44_0 (size h) (size h) (.sl o 1 (u8s [])) (.ptr (size h) 0) (bld h out) = some (.str out, h) := by
  rw [P44_0_eq]
  have hz : ((0 : Int) > 0) = False := by simp
  have hs : ∀ base, _ := fun base => string_of (base := base) (h := h) out hl
  have ht : trunc (bld h out) (size h) = h := by unfold bld; split <;> exact trunc_ext
  simp only [hz, u8s_nil, hs, ht, Int.ofNat_zero, Int.natCast_zero, ↓evD, evU, evL, Nat.reduceAdd, Nat.reduceSub, Nat.reduceMul, Nat.reduceLeDiff, Nat.reduceLT, Nat.reduceEqDiff, Nat.reduceBEq, reduceIte, reduceCtorEq, Int.reduceBEq, Int.reduceEq, Int.reduceLT, Int.reduceLE, Int.reduceGT, Int.reduceGE, Int.reduceAdd, Int.reduceSub, Int.reduceNeg, Int.reduceBNe, ite_true, ite_false, if_true, if_false, implies_true, forall_const]
end Go.Am.YtppkffebmoffnaaDoor
namespace Go.Am.YtppkffebmoffnaaDoor
set_option maxRecDepth 100000
set_option linter.unusedSimpArgs false
set_option linter.unusedVariables false
theorem P44_2_of {h : Hp} {v0 : PV} {g g' : Nat} (hg : g = g') {n : Int} {k : Hp} : P44_2 (size h) (size h) (.int .i64 0) (.ptr (size h) 0) (.int .u32 g) (.int .i64 n) v0 k = P44_2 (size h) (size h) (.int .i64 ((0 : Nat) : Int)) (.ptr (size h) 0) (.int .u32 g') (.int .i64 n) v0 k := by rw [hg]; rfl
theorem ix_u8s {l : List UInt8} {i : Nat} (h : i < l.length) : ix (.int .i64 i) (u8s l).length = some i := ix_nat .i64 i _ (by rw [u8s_len]; exact h)
theorem get_u8s {l : List UInt8} {i : Nat} {c : UInt8} (h : l[i]? = some c) : (u8s l)[i]? = some (.int .u8 c.toNat) := by simp [u8s, h]
/-- One round of the group's loop. -/
theorem grp_in {h k : Hp} {o : Own} {l : List UInt8} {c : UInt8} (i x : Nat) (n : Nat) (hi : i < 3) (hn : i < n) (hc : l[i]? = some c) (hx : x < 65536) :
    P44_1 (size h) (size h) (.int .i64 i) (.sl o 1 (u8s l)) (.int .i64 n) (.int .u32 x) (.ptr (size h) 0) k =
    P44_1 (size h) (size h) (.int .i64 ((i + 1 : Nat) : Int)) (.sl o 1 (u8s l)) (.int .i64 n) (.int .u32 ((x * 256 + c.toNat : Nat) : Int)) (.ptr (size h) 0) k := by
  have hcl := c.toNat_lt
  rw [P44_1_eq]
  have h1 : ((i : Int) < 3) = True := by simp; omega
  have h2 : ((i : Int) < (n : Int)) = True := by simp; omega
  have o3 : shiftOp .shl .u32 (x : Int) 8 = _ := shl_u32 (x := x) (i := 8) (by omega) (by omega)
  have o4 := or_u32 (i := 8) (x := x) (c := c.toNat) (by omega) (by omega)
  have hi' : i < l.length := (List.getElem?_eq_some_iff.1 hc).1
  have w3 : IntKind.i64.wrap ((i : Int) + 1) = ((i + 1 : Nat) : Int) := by rw [wrap_small] <;> omega
  have e1 : (2 ^ 8 * x + c.toNat : Nat) = x * 256 + c.toNat := by omega
  rw [e1] at o4
  simp only [h1, h2, o3, o4, w3, ix_u8s hi', get_u8s hc, toInt_u8, intOp_or, ↓evD, evU, evL, Nat.reduceAdd, Nat.reduceSub, Nat.reduceMul, Nat.reduceLeDiff, Nat.reduceLT, Nat.reduceEqDiff, Nat.reduceBEq, reduceIte, reduceCtorEq, Int.reduceBEq, Int.reduceEq, Int.reduceLT, Int.reduceLE, Int.reduceGT, Int.reduceGE, Int.reduceAdd, Int.reduceSub, Int.reduceNeg, Int.reduceBNe, ite_true, ite_false, if_true, if_false, implies_true, forall_const]
theorem grp_out {h k : Hp} {v : PV} (i x : Nat) (n : Nat) (hi : i < 3) (hn : n ≤ i) (hx : x < 65536) :
    P44_1 (size h) (size h) (.int .i64 i) v (.int .i64 n) (.int .u32 x) (.ptr (size h) 0) k =
    P44_1 (size h) (size h) (.int .i64 ((i + 1 : Nat) : Int)) v (.int .i64 n) (.int .u32 ((x * 256 : Nat) : Int)) (.ptr (size h) 0) k := by
  rw [P44_1_eq]
  have h1 : ((i : Int) < 3) = True := by simp; omega
  have h2 : ((i : Int) < (n : Int)) = False := by simp; omega
  have o3 : shiftOp .shl .u32 (x : Int) 8 = _ := shl_u32 (x := x) (i := 8) (by omega) (by omega)
  have w3 : IntKind.i64.wrap ((i : Int) + 1) = ((i + 1 : Nat) : Int) := by rw [wrap_small] <;> omega
  have e1 : (2 ^ 8 * x : Nat) = x * 256 := by omega
  rw [e1] at o3
  simp only [h1, h2, o3, w3, ↓evD, evU, evL, Nat.reduceAdd, Nat.reduceSub, Nat.reduceMul, Nat.reduceLeDiff, Nat.reduceLT, Nat.reduceEqDiff, Nat.reduceBEq, reduceIte, reduceCtorEq, Int.reduceBEq, Int.reduceEq, Int.reduceLT, Int.reduceLE, Int.reduceGT, Int.reduceGE, Int.reduceAdd, Int.reduceSub, Int.reduceNeg, Int.reduceBNe, ite_true, ite_false, if_true, if_false, implies_true, forall_const]
theorem grp_over {h k : Hp} {v g n : PV} : P44_1 (size h) (size h) (.int .i64 ((3 : Nat) : Int)) v n g (.ptr (size h) 0) k = P44_2 (size h) (size h) (.int .i64 ((0 : Nat) : Int)) (.ptr (size h) 0) g n v k := by
  rw [P44_1_eq]
  have h1 : (((3 : Nat) : Int) < 3) = False := by simp
  simp only [h1, ↓evD, evU, evL, Nat.reduceAdd, Nat.reduceSub, Nat.reduceMul, Nat.reduceLeDiff, Nat.reduceLT, Nat.reduceEqDiff, Nat.reduceBEq, reduceIte, reduceCtorEq, Int.reduceBEq, Int.reduceEq, Int.reduceLT, Int.reduceLE, Int.reduceGT, Int.reduceGE, Int.reduceAdd, Int.reduceSub, Int.reduceNeg, Int.reduceBNe, ite_true, ite_false, if_true, if_false, implies_true, forall_const]
  rfl
theorem enc_head {h k : Hp} {o : Own} {l : List UInt8} (hl : l ≠ []) : P44_0 (size h) (size h) (.sl o 1 (u8s l)) (.ptr (size h) 0) k =
    P44_1 (size h) (size h) (.int .i64 ((0 : Nat) : Int)) (.sl o 1 (u8s l)) (.int .i64 ((min l.length 3 : Nat) : Int)) (.int .u32 ((0 : Nat) : Int)) (.ptr (size h) 0) k := by
  rw [P44_0_eq]
  have hp : 0 < l.length := List.length_pos_iff.2 hl
  have h1 : ((l.length : Int) > 0) = True := by simp; omega
  have hm : (if (3 : Int) < (l.length : Int) then (3 : Int) else (l.length : Int)) = ((min l.length 3 : Nat) : Int) := by split <;> omega
  simp only [u8s_len, h1, hm, ↓evD, evU, evL, Nat.reduceAdd, Nat.reduceSub, Nat.reduceMul, Nat.reduceLeDiff, Nat.reduceLT, Nat.reduceEqDiff, Nat.reduceBEq, reduceIte, reduceCtorEq, Int.reduceBEq, Int.reduceEq, Int.reduceLT, Int.reduceLE, Int.reduceGT, Int.reduceGE, Int.reduceAdd, Int.reduceSub, Int.reduceNeg, Int.reduceBNe, ite_true, ite_false, if_true, if_false, implies_true, forall_const]
  rfl
theorem enc_loop {h : Hp} : ∀ (l out : List UInt8) (o : Own), out.length + 4 * l.length + 8 ≤ lim2 → P44_0 (size h) (size h) (.sl o 1 (u8s l)) (.ptr (size h) 0) (bld h out) = some (.str (out ++ encL l), h)
  | [], out, o, hl => by rw [enc_done o out (by omega)]; simp [encL]
  | [a], out, o, hl => by
    have ha := a.toNat_lt
    simp only [List.length_cons, List.length_nil] at hl
    rw [enc_head (by simp)]
    show P44_1 _ _ _ _ (.int .i64 ((1 : Nat) : Int)) _ _ _ = _
    rw [grp_in 0 0 1 (by omega) (by omega) rfl (by omega), grp_out 1 _ 1 (by omega) (by omega) (by omega), grp_out 2 _ 1 (by omega) (by omega) (by omega), grp_over,
      enc_sign 0 _ _ _ _ (by omega) (by omega) (by omega) (by omega), enc_sign 1 _ _ _ _ (by omega) (by omega) (by omega) (by simp; omega),
      enc_pad 2 _ _ _ _ (by omega) (by omega) (by simp; omega), enc_pad 3 _ _ _ _ (by omega) (by omega) (by simp; omega)]
    obtain ⟨o', ho⟩ := enc_over (h := h) (.int .u32 (((0 * 256 + a.toNat) * 256 * 256 : Nat) : Int)) o [a] 1 (by simp) (out ++ [letG ((0 * 256 + a.toNat) * 256 * 256 / 2 ^ (18 - 6 * 0) % 64)] ++ [letG ((0 * 256 + a.toNat) * 256 * 256 / 2 ^ (18 - 6 * 1) % 64)] ++ [61] ++ [61])
    refine ho.trans ?_
    show P44_0 _ _ (.sl o' 1 (u8s [])) _ _ = _
    rw [enc_done _ _ (by simp; omega)]
    have e0 : (0 * 256 + a.toNat) * 256 * 256 / 2 ^ (18 - 6 * 0) % 64 = a.toNat / 4 := by omega
    have e1 : (0 * 256 + a.toNat) * 256 * 256 / 2 ^ (18 - 6 * 1) % 64 = a.toNat % 4 * 16 := by omega
    rw [e0, e1]
    simp [encL]
  | [a, b], out, o, hl => by
    have ha := a.toNat_lt
    have hb := b.toNat_lt
    simp only [List.length_cons, List.length_nil] at hl
    rw [enc_head (by simp)]
    show P44_1 _ _ _ _ (.int .i64 ((2 : Nat) : Int)) _ _ _ = _
    rw [grp_in 0 0 2 (by omega) (by omega) rfl (by omega), grp_in 1 _ 2 (by omega) (by omega) rfl (by omega), grp_out 2 _ 2 (by omega) (by omega) (by omega), grp_over,
      enc_sign 0 _ _ _ _ (by omega) (by omega) (by omega) (by omega), enc_sign 1 _ _ _ _ (by omega) (by omega) (by omega) (by simp; omega),
      enc_sign 2 _ _ _ _ (by omega) (by omega) (by omega) (by simp; omega), enc_pad 3 _ _ _ _ (by omega) (by omega) (by simp; omega)]
    obtain ⟨o', ho⟩ := enc_over (h := h) (.int .u32 ((((0 * 256 + a.toNat) * 256 + b.toNat) * 256 : Nat) : Int)) o [a, b] 2 (by simp)
      (out ++ [letG (((0 * 256 + a.toNat) * 256 + b.toNat) * 256 / 2 ^ (18 - 6 * 0) % 64)] ++ [letG (((0 * 256 + a.toNat) * 256 + b.toNat) * 256 / 2 ^ (18 - 6 * 1) % 64)] ++ [letG (((0 * 256 + a.toNat) * 256 + b.toNat) * 256 / 2 ^ (18 - 6 * 2) % 64)] ++ [61])
    refine ho.trans ?_
    show P44_0 _ _ (.sl o' 1 (u8s [])) _ _ = _
    rw [enc_done _ _ (by simp; omega)]
    have e0 : ((0 * 256 + a.toNat) * 256 + b.toNat) * 256 / 2 ^ (18 - 6 * 0) % 64 = a.toNat / 4 := by omega
    have e1 : ((0 * 256 + a.toNat) * 256 + b.toNat) * 256 / 2 ^ (18 - 6 * 1) % 64 = a.toNat % 4 * 16 + b.toNat / 16 := by omega
    have e2 : ((0 * 256 + a.toNat) * 256 + b.toNat) * 256 / 2 ^ (18 - 6 * 2) % 64 = b.toNat % 16 * 4 := by omega
    rw [e0, e1, e2]
    simp [encL]
  | a :: b :: c :: r, out, o, hl => by
    have ha := a.toNat_lt
    have hb := b.toNat_lt
    have hc := c.toNat_lt
    simp only [List.length_cons] at hl
    have hm : min (a :: b :: c :: r).length 3 = 3 := by simp
    rw [enc_head (by simp), hm, grp_in 0 0 3 (by omega) (by omega) rfl (by omega), grp_in 1 _ 3 (by omega) (by omega) rfl (by omega), grp_in 2 _ 3 (by omega) (by omega) rfl (by omega), grp_over,
      enc_sign 0 _ _ _ _ (by omega) (by omega) (by omega) (by omega), enc_sign 1 _ _ _ _ (by omega) (by omega) (by omega) (by simp; omega),
      enc_sign 2 _ _ _ _ (by omega) (by omega) (by omega) (by simp; omega), enc_sign 3 _ _ _ _ (by omega) (by omega) (by omega) (by simp; omega)]
    have e0 : (((0 * 256 + a.toNat) * 256 + b.toNat) * 256 + c.toNat) / 2 ^ (18 - 6 * 0) % 64 = a.toNat / 4 := by omega
    have e1 : (((0 * 256 + a.toNat) * 256 + b.toNat) * 256 + c.toNat) / 2 ^ (18 - 6 * 1) % 64 = a.toNat % 4 * 16 + b.toNat / 16 := by omega
    have e2 : (((0 * 256 + a.toNat) * 256 + b.toNat) * 256 + c.toNat) / 2 ^ (18 - 6 * 2) % 64 = b.toNat % 16 * 4 + c.toNat / 64 := by omega
    have e3 : (((0 * 256 + a.toNat) * 256 + b.toNat) * 256 + c.toNat) / 2 ^ (18 - 6 * 3) % 64 = c.toNat % 64 := by omega
    rw [e0, e1, e2, e3]
    obtain ⟨o', ho⟩ := enc_over (h := h) (.int .u32 (((((0 * 256 + a.toNat) * 256 + b.toNat) * 256 + c.toNat : Nat)) : Int)) o (a :: b :: c :: r) 3 (by simp)
      (out ++ [letG (a.toNat / 4)] ++ [letG (a.toNat % 4 * 16 + b.toNat / 16)] ++ [letG (b.toNat % 16 * 4 + c.toNat / 64)] ++ [letG (c.toNat % 64)])
    refine ho.trans ?_
    show P44_0 _ _ (.sl o' 1 (u8s r)) _ _ = _
    rw [enc_loop r _ o' (by simp; omega)]
    simp [encL]
theorem encode_spec {base : Nat} {h : Hp} (o : Own) (l : List UInt8) (hl : l.length ≤ 1000000) : CallA T base 44 [.sl o 1 (u8s l)] h = some (.str (encL l), h) := by
  rw [S44, allocK_eq]
  exact enc_loop (h := h) l [] o (by unfold lim2; simp; omega)
theorem encode_nil {base : Nat} {h : Hp} : CallA T base 44 [.nils] h = some (.str [], h) := by
  have hs : ∀ base, _ := fun base => string_of (base := base) (h := h) [] (by simp)
  have hb0 : ext h [.cells [.bnil 94, .nils]] = bld h [] := rfl
  have ht : trunc (bld h []) (size h) = h := by unfold bld; rw [if_pos rfl]; exact trunc_ext
  rw [S44, allocK_eq, P44_0_eq]
  have hz : ((0 : Int) > 0) = False := by simp
  simp only [hb0, hz, hs, ht, ↓evD, evU, evL, Nat.reduceAdd, Nat.reduceSub, Nat.reduceMul, Nat.reduceLeDiff, Nat.reduceLT, Nat.reduceEqDiff, Nat.reduceBEq, reduceIte, reduceCtorEq, Int.reduceBEq, Int.reduceEq, Int.reduceLT, Int.reduceLE, Int.reduceGT, Int.reduceGE, Int.reduceAdd, Int.reduceSub, Int.reduceNeg, Int.reduceBNe, ite_true, ite_false, if_true, if_false, implies_true, forall_const]
theorem let_val : ∀ n : Fin 64, ((letG n.val).toNat : Nat) = if n.val < 26 then 65 + n.val else if n.val < 52 then 71 + n.val else if n.val < 62 then n.val - 4 else if n.val = 62 then 43 else 47 := by decide +kernel
theorem letter_spec {base : Nat} {h : Hp} (n : Nat) (hn : n < 64) : CallA T base 45 [.int .i64 n] h = some (.int .u8 (letG n).toNat, h) := by
  have hv := let_val ⟨n, hn⟩
  simp only at hv
  rw [hv, S45]
  by_cases h1 : n < 26
  · have c1 : ((n : Int) < 26) = True := by simp; omega
    have w1 : IntKind.i64.wrap (65 + (n : Int)) = ((65 + n : Nat) : Int) := by rw [wrap_small] <;> omega
    have w2 : IntKind.u8.wrap ((65 + n : Nat) : Int) = ((65 + n : Nat) : Int) := by rw [wrap_u8]; omega
    rw [if_pos h1]
    simp only [c1, w1, w2, ↓evD, evU, evL, Nat.reduceAdd, Nat.reduceSub, Nat.reduceMul, Nat.reduceLeDiff, Nat.reduceLT, Nat.reduceEqDiff, Nat.reduceBEq, reduceIte, reduceCtorEq, Int.reduceBEq, Int.reduceEq, Int.reduceLT, Int.reduceLE, Int.reduceGT, Int.reduceGE, Int.reduceAdd, Int.reduceSub, Int.reduceNeg, Int.reduceBNe, ite_true, ite_false, if_true, if_false, implies_true, forall_const]
  have c1 : ((n : Int) < 26) = False := by simp; omega
  rw [if_neg h1]
  by_cases h2 : n < 52
  · have c2 : ((n : Int) < 52) = True := by simp; omega
    have w1 : IntKind.i64.wrap (97 + (n : Int)) = ((97 + n : Nat) : Int) := by rw [wrap_small] <;> omega
    have w2 : IntKind.i64.wrap (((97 + n : Nat) : Int) - 26) = ((71 + n : Nat) : Int) := by rw [wrap_small] <;> omega
    have w3 : IntKind.u8.wrap ((71 + n : Nat) : Int) = ((71 + n : Nat) : Int) := by rw [wrap_u8]; omega
    rw [if_pos h2]
    simp only [c1, c2, w1, w2, w3, ↓evD, evU, evL, Nat.reduceAdd, Nat.reduceSub, Nat.reduceMul, Nat.reduceLeDiff, Nat.reduceLT, Nat.reduceEqDiff, Nat.reduceBEq, reduceIte, reduceCtorEq, Int.reduceBEq, Int.reduceEq, Int.reduceLT, Int.reduceLE, Int.reduceGT, Int.reduceGE, Int.reduceAdd, Int.reduceSub, Int.reduceNeg, Int.reduceBNe, ite_true, ite_false, if_true, if_false, implies_true, forall_const]
  have c2 : ((n : Int) < 52) = False := by simp; omega
  rw [if_neg h2]
  by_cases h3 : n < 62
  · have c3 : ((n : Int) < 62) = True := by simp; omega
    have w1 : IntKind.i64.wrap (48 + (n : Int)) = ((48 + n : Nat) : Int) := by rw [wrap_small] <;> omega
    have w2 : IntKind.i64.wrap (((48 + n : Nat) : Int) - 52) = ((n - 4 : Nat) : Int) := by rw [wrap_small] <;> omega
    have w3 : IntKind.u8.wrap ((n - 4 : Nat) : Int) = ((n - 4 : Nat) : Int) := by rw [wrap_u8]; omega
    rw [if_pos h3]
    simp only [c1, c2, c3, w1, w2, w3, ↓evD, evU, evL, Nat.reduceAdd, Nat.reduceSub, Nat.reduceMul, Nat.reduceLeDiff, Nat.reduceLT, Nat.reduceEqDiff, Nat.reduceBEq, reduceIte, reduceCtorEq, Int.reduceBEq, Int.reduceEq, Int.reduceLT, Int.reduceLE, Int.reduceGT, Int.reduceGE, Int.reduceAdd, Int.reduceSub, Int.reduceNeg, Int.reduceBNe, ite_true, ite_false, if_true, if_false, implies_true, forall_const]
  have c3 : ((n : Int) < 62) = False := by simp; omega
  rw [if_neg h3]
  by_cases h4 : n = 62
  · have c4 : ((n : Int) == 62) = true := by simp; omega
    rw [if_pos h4]
    simp only [c1, c2, c3, c4, ↓evD, evU, evL, Nat.reduceAdd, Nat.reduceSub, Nat.reduceMul, Nat.reduceLeDiff, Nat.reduceLT, Nat.reduceEqDiff, Nat.reduceBEq, reduceIte, reduceCtorEq, Int.reduceBEq, Int.reduceEq, Int.reduceLT, Int.reduceLE, Int.reduceGT, Int.reduceGE, Int.reduceAdd, Int.reduceSub, Int.reduceNeg, Int.reduceBNe, ite_true, ite_false, if_true, if_false, implies_true, forall_const]
    rfl
  · have c4 : ((n : Int) == 62) = false := by simp; omega
    rw [if_neg h4]
    simp only [c1, c2, c3, c4, ↓evD, evU, evL, Nat.reduceAdd, Nat.reduceSub, Nat.reduceMul, Nat.reduceLeDiff, Nat.reduceLT, Nat.reduceEqDiff, Nat.reduceBEq, reduceIte, reduceCtorEq, Int.reduceBEq, Int.reduceEq, Int.reduceLT, Int.reduceLE, Int.reduceGT, Int.reduceGE, Int.reduceAdd, Int.reduceSub, Int.reduceNeg, Int.reduceBNe, ite_true, ite_false, if_true, if_false, implies_true, forall_const]
    rfl
end Go.Am.YtppkffebmoffnaaDoor
namespace Go.Am.YtppkffebmoffnaaDoor
set_option linter.unusedSimpArgs false
set_option linter.unusedVariables false
set_option maxRecDepth 100000
/-- Base 64 as the reference writes it: byte by byte, so many bits left over. -/
def encF : Nat → Nat → List UInt8 → List UInt8
  | 0, _, [] => []
  | 2, B, [] => [letG (B % 4 * 16), 61, 61]
  | _, B, [] => [letG (B % 16 * 4), 61]
  | 0, _, x :: r => letG (x.toNat / 4) :: encF 2 (x.toNat % 64) r
  | 2, B, x :: r => letG (B % 4 * 16 + x.toNat / 16) :: encF 4 (x.toNat % 64) r
  | _, B, x :: r => letG (B % 16 * 4 + x.toNat / 64) :: letG (x.toNat % 64) :: encF 0 (x.toNat % 64) r
theorem encF_eq : ∀ (l : List UInt8) (B : Nat), encF 0 B l = encL l
  | [], B => rfl
  | [a], B => by simp only [encF, encL]; rw [show a.toNat % 64 % 4 * 16 = a.toNat % 4 * 16 by omega]
  | [a, b], B => by simp only [encF, encL]; rw [show a.toNat % 64 % 4 * 16 = a.toNat % 4 * 16 by omega, show b.toNat % 64 % 16 * 4 = b.toNat % 16 * 4 by omega]
  | a :: b :: c :: r, B => by
    simp only [encF, encL, encF_eq r]
    rw [show a.toNat % 64 % 4 * 16 = a.toNat % 4 * 16 by omega, show b.toNat % 64 % 16 * 4 = b.toNat % 16 * 4 by omega]
end Go.Am.YtppkffebmoffnaaDoor
namespace Go.Am.YtppkffebmoffnaaDoor
set_option maxRecDepth 100000
set_option linter.unusedSimpArgs false
set_option linter.unusedVariables false
abbrev zF : PV := .sl .full 1 []
theorem gzF : gZ 1 zF := gZ_full 1
theorem b64_in {h : Hp} (V n i : Nat) (b : PV) (o : List UInt8) (hn : 6 ≤ n) (hn2 : n ≤ 12) (hV : V < 16384) (ho : o.length + 1 ≤ lim2) :
    P29_1 (size h) (size h) (.int .i64 V) (gV h zF 1 (u8s o)) (.int .i64 n) b (.int .i64 i) (gH h 5 (u8s o)) =
    P29_1 (size h) (size h) (.int .i64 V) (gV h zF 1 (u8s (o ++ [letG (V / 2 ^ (n - 6) % 64)]))) (.int .i64 ((n - 6 : Nat) : Int)) b (.int .i64 i) (gH h 5 (u8s (o ++ [letG (V / 2 ^ (n - 6) % 64)]))) := by
  rw [P29_1_eq]
  have h1 : ((n : Int) ≥ 6) = True := by simp; omega
  have w1 : IntKind.i64.wrap ((n : Int) - 6) = ((n - 6 : Nat) : Int) := by rw [wrap_small] <;> omega
  have s1 := shr_kind (k := .i64) (x := V) (i := n - 6) (by have : IntKind.i64.bits = 64 := rfl; omega)
  have hd : V / 2 ^ (n - 6) ≤ V := Nat.div_le_self _ _
  have a1 : intBits .and .i64 ((V / 2 ^ (n - 6) : Nat) : Int) 63 = _ := and_i64 6 (x := V / 2 ^ (n - 6)) (by omega) (by decide)
  have e1 : 2 ^ 6 = 64 := rfl
  rw [e1] at a1
  have hl : ∀ base h, _ := fun base h => letter_spec (base := base) (h := h) (V / 2 ^ (n - 6) % 64) (Nat.mod_lt _ (by decide))
  have g1 := gOne (h := h) (T := 5) gzF o (letG (V / 2 ^ (n - 6) % 64)) ho
  simp only [h1, w1, s1, a1, hl, g1, intOp_and, ↓evD, evU, evL, Nat.reduceAdd, Nat.reduceSub, Nat.reduceMul, Nat.reduceLeDiff, Nat.reduceLT, Nat.reduceEqDiff, Nat.reduceBEq, reduceIte, reduceCtorEq, Int.reduceBEq, Int.reduceEq, Int.reduceLT, Int.reduceLE, Int.reduceGT, Int.reduceGE, Int.reduceAdd, Int.reduceSub, Int.reduceNeg, Int.reduceBNe, ite_true, ite_false, if_true, if_false, implies_true, forall_const]
theorem b64_out {h : Hp} (V n i : Nat) (b v k) (hn : n < 6) (hV : V < 16384) (hi : i < 4611686018427387904) :
    P29_1 (size h) (size h) (.int .i64 V) v (.int .i64 n) b (.int .i64 i) k = P29_0 (size h) (size h) v (.int .i64 ((i + 1 : Nat) : Int)) (.int .i64 n) b (.int .i64 ((V % 64 : Nat) : Int)) k := by
  rw [P29_1_eq]
  have h1 : ((n : Int) ≥ 6) = False := by simp; omega
  have w1 : IntKind.i64.wrap ((i : Int) + 1) = ((i + 1 : Nat) : Int) := by rw [wrap_small] <;> omega
  have a1 : intBits .and .i64 (V : Int) 63 = _ := and_i64 6 (x := V) (by omega) (by decide)
  have e1 : 2 ^ 6 = 64 := rfl
  rw [e1] at a1
  simp only [h1, w1, a1, intOp_and, ↓evD, evU, evL, Nat.reduceAdd, Nat.reduceSub, Nat.reduceMul, Nat.reduceLeDiff, Nat.reduceLT, Nat.reduceEqDiff, Nat.reduceBEq, reduceIte, reduceCtorEq, Int.reduceBEq, Int.reduceEq, Int.reduceLT, Int.reduceLE, Int.reduceGT, Int.reduceGE, Int.reduceAdd, Int.reduceSub, Int.reduceNeg, Int.reduceBNe, ite_true, ite_false, if_true, if_false, implies_true, forall_const]
theorem b64_head {h k : Hp} {b v : PV} {l : List UInt8} (hb : Rd b l) (B n i : Nat) {x : UInt8} (hx : l[i]? = some x) (hB : B < 64) (hn : n ≤ 4) (hl : l.length ≤ 1000000) :
    P29_0 (size h) (size h) v (.int .i64 i) (.int .i64 n) b (.int .i64 B) k = P29_1 (size h) (size h) (.int .i64 ((B * 256 + x.toNat : Nat) : Int)) v (.int .i64 ((n + 8 : Nat) : Int)) b (.int .i64 i) k := by
  have hx256 := x.toNat_lt
  rw [P29_0_eq]
  have hi := (List.getElem?_eq_some_iff.1 hx).1
  have h1 : ((i : Int) < (l.length : Int)) = True := by simp; omega
  have w1 : IntKind.i64.wrap ((B : Int) * 256) = ((B * 256 : Nat) : Int) := by rw [wrap_small] <;> omega
  have w2 : IntKind.i64.wrap (x.toNat : Int) = x.toNat := by rw [wrap_small] <;> omega
  have w3 : IntKind.i64.wrap (((B * 256 : Nat) : Int) + (x.toNat : Int)) = ((B * 256 + x.toNat : Nat) : Int) := by rw [wrap_small] <;> omega
  have w4 : IntKind.i64.wrap ((n : Int) + 8) = ((n + 8 : Nat) : Int) := by rw [wrap_small] <;> omega
  simp only [hb.len, hb.idx hx, h1, w1, w2, w3, w4, ↓evD, evU, evL, Nat.reduceAdd, Nat.reduceSub, Nat.reduceMul, Nat.reduceLeDiff, Nat.reduceLT, Nat.reduceEqDiff, Nat.reduceBEq, reduceIte, reduceCtorEq, Int.reduceBEq, Int.reduceEq, Int.reduceLT, Int.reduceLE, Int.reduceGT, Int.reduceGE, Int.reduceAdd, Int.reduceSub, Int.reduceNeg, Int.reduceBNe, ite_true, ite_false, if_true, if_false, implies_true, forall_const]
theorem tmod_nat (a b : Nat) : (a : Int).tmod (b : Int) = ((a % b : Nat) : Int) := (Int.ofNat_tmod a b).symm
theorem b64_pad {h : Hp} : ∀ (k : Nat) (o : List UInt8), k < 4 → (o.length + k) % 4 = 0 → o.length + k ≤ 4000000 →
    P29_3 (size h) (size h) (gV h zF 1 (u8s o)) (gH h 5 (u8s o)) = some (.str (o ++ List.replicate k 61), h)
  | 0, o, hk, hm, hl => by
    rw [P29_3_eq]
    have e : (o.length : Int).tmod 4 = 0 := by rw [show (4 : Int) = ((4 : Nat) : Int) from rfl, tmod_nat]; omega
    have hz : ((4 : Int) = 0) = False := by simp
    simp only [len_gV gzF, Bu.len, e, hz, bytes_gV gzF, trunc_gH, ↓evD, evU, evL, Nat.reduceAdd, Nat.reduceSub, Nat.reduceMul, Nat.reduceLeDiff, Nat.reduceLT, Nat.reduceEqDiff, Nat.reduceBEq, reduceIte, reduceCtorEq, Int.reduceBEq, Int.reduceEq, Int.reduceLT, Int.reduceLE, Int.reduceGT, Int.reduceGE, Int.reduceAdd, Int.reduceSub, Int.reduceNeg, Int.reduceBNe, ite_true, ite_false, if_true, if_false, implies_true, forall_const]
    simp
  | k + 1, o, hk, hm, hl => by
    rw [P29_3_eq]
    have e : ((o.length : Int).tmod 4 != 0) = true := by
      rw [bne_iff_ne, show (4 : Int) = ((4 : Nat) : Int) from rfl, tmod_nat]
      omega
    have hz : ((4 : Int) = 0) = False := by simp
    have g1 := gOne (h := h) (T := 5) gzF o 61 (by unfold lim2; omega)
    have z61 : (((61 : UInt8).toNat : Nat) : Int) = 61 := rfl
    rw [z61] at g1
    have ih := b64_pad (h := h) k (o ++ [61]) (by omega) (by simp; omega) (by simp; omega)
    simp only [len_gV gzF, Bu.len, e, hz, g1, ih, ↓evD, evU, evL, Nat.reduceAdd, Nat.reduceSub, Nat.reduceMul, Nat.reduceLeDiff, Nat.reduceLT, Nat.reduceEqDiff, Nat.reduceBEq, reduceIte, reduceCtorEq, Int.reduceBEq, Int.reduceEq, Int.reduceLT, Int.reduceLE, Int.reduceGT, Int.reduceGE, Int.reduceAdd, Int.reduceSub, Int.reduceNeg, Int.reduceBNe, ite_true, ite_false, if_true, if_false, implies_true, forall_const]
    simp [List.replicate_succ]
theorem b64_end {h : Hp} {b : PV} {l : List UInt8} (hb : Rd b l) (B n : Nat) (o : List UInt8) (hB : B < 64) (hn : n = 0 ∨ n = 2 ∨ n = 4) (hm : 2 * (o.length % 4) = n) (hl : l.length ≤ 1000000) (ho : o.length ≤ 3000000) :
    P29_0 (size h) (size h) (gV h zF 1 (u8s o)) (.int .i64 l.length) (.int .i64 n) b (.int .i64 B) (gH h 5 (u8s o)) = some (.str (o ++ encF n B []), h) := by
  rw [P29_0_eq]
  have h1 : ((l.length : Int) < (l.length : Int)) = False := by simp
  rcases hn with rfl | rfl | rfl
  · have h2 : (((0 : Nat) : Int) > 0) = False := by simp
    have hp := b64_pad (h := h) 0 o (by omega) (by omega) (by omega)
    simp only [hb.len, h1, h2, P29_2_eq, hp, ↓evD, evU, evL, Nat.reduceAdd, Nat.reduceSub, Nat.reduceMul, Nat.reduceLeDiff, Nat.reduceLT, Nat.reduceEqDiff, Nat.reduceBEq, reduceIte, reduceCtorEq, Int.reduceBEq, Int.reduceEq, Int.reduceLT, Int.reduceLE, Int.reduceGT, Int.reduceGE, Int.reduceAdd, Int.reduceSub, Int.reduceNeg, Int.reduceBNe, ite_true, ite_false, if_true, if_false, implies_true, forall_const]
    simp [encF]
  · have h2 : (((2 : Nat) : Int) > 0) = True := by simp
    have w1 : IntKind.i64.wrap (6 - ((2 : Nat) : Int)) = ((4 : Nat) : Int) := rfl
    have s1 := shl_i64 (x := B) (i := 4) (by omega) (by omega)
    have a1 : intBits .and .i64 ((2 ^ 4 * B : Nat) : Int) 63 = _ := and_i64 6 (x := 2 ^ 4 * B) (by omega) (by decide)
    have e1 : 2 ^ 4 * B % 2 ^ 6 = B % 4 * 16 := by omega
    rw [e1] at a1
    have hL : ∀ base h, _ := fun base h => letter_spec (base := base) (h := h) (B % 4 * 16) (by omega)
    have g1 := gOne (h := h) (T := 5) gzF o (letG (B % 4 * 16)) (by unfold lim2; omega)
    have hp := b64_pad (h := h) 2 (o ++ [letG (B % 4 * 16)]) (by omega) (by simp; omega) (by simp; omega)
    simp only [hb.len, h1, h2, w1, s1, a1, hL, g1, intOp_and, P29_2_eq, hp, ↓evD, evU, evL, Nat.reduceAdd, Nat.reduceSub, Nat.reduceMul, Nat.reduceLeDiff, Nat.reduceLT, Nat.reduceEqDiff, Nat.reduceBEq, reduceIte, reduceCtorEq, Int.reduceBEq, Int.reduceEq, Int.reduceLT, Int.reduceLE, Int.reduceGT, Int.reduceGE, Int.reduceAdd, Int.reduceSub, Int.reduceNeg, Int.reduceBNe, ite_true, ite_false, if_true, if_false, implies_true, forall_const]
    simp [encF, List.replicate_succ]
  · have h2 : (((4 : Nat) : Int) > 0) = True := by simp
    have w1 : IntKind.i64.wrap (6 - ((4 : Nat) : Int)) = ((2 : Nat) : Int) := rfl
    have s1 := shl_i64 (x := B) (i := 2) (by omega) (by omega)
    have a1 : intBits .and .i64 ((2 ^ 2 * B : Nat) : Int) 63 = _ := and_i64 6 (x := 2 ^ 2 * B) (by omega) (by decide)
    have e1 : 2 ^ 2 * B % 2 ^ 6 = B % 16 * 4 := by omega
    rw [e1] at a1
    have hL : ∀ base h, _ := fun base h => letter_spec (base := base) (h := h) (B % 16 * 4) (by omega)
    have g1 := gOne (h := h) (T := 5) gzF o (letG (B % 16 * 4)) (by unfold lim2; omega)
    have hp := b64_pad (h := h) 1 (o ++ [letG (B % 16 * 4)]) (by omega) (by simp; omega) (by simp; omega)
    simp only [hb.len, h1, h2, w1, s1, a1, hL, g1, intOp_and, P29_2_eq, hp, ↓evD, evU, evL, Nat.reduceAdd, Nat.reduceSub, Nat.reduceMul, Nat.reduceLeDiff, Nat.reduceLT, Nat.reduceEqDiff, Nat.reduceBEq, reduceIte, reduceCtorEq, Int.reduceBEq, Int.reduceEq, Int.reduceLT, Int.reduceLE, Int.reduceGT, Int.reduceGE, Int.reduceAdd, Int.reduceSub, Int.reduceNeg, Int.reduceBNe, ite_true, ite_false, if_true, if_false, implies_true, forall_const]
    simp [encF, List.replicate_succ]
theorem b64_loop {h : Hp} {b : PV} {l : List UInt8} (hb : Rd b l) (hl : l.length ≤ 1000000) : ∀ (r p o : List UInt8) (n B : Nat), l = p ++ r → B < 64 → (n = 0 ∨ n = 2 ∨ n = 4) → 2 * (o.length % 4) = n → o.length ≤ 2 * p.length →
    P29_0 (size h) (size h) (gV h zF 1 (u8s o)) (.int .i64 p.length) (.int .i64 n) b (.int .i64 B) (gH h 5 (u8s o)) = some (.str (o ++ encF n B r), h)
  | [], p, o, n, B, hpr, hB, hn, hm, ho => by
    have e : p.length = l.length := by rw [hpr]; simp
    rw [e]
    exact b64_end hb B n o hB hn hm hl (by omega)
  | x :: r, p, o, n, B, hpr, hB, hn, hm, ho => by
    have hx : l[p.length]? = some x := by rw [hpr]; simp
    have hx256 := x.toNat_lt
    have hpl : p.length + 1 ≤ 1000000 := by have : l.length = p.length + (r.length + 1) := by rw [hpr]; simp
                                            omega
    have hpr' : l = (p ++ [x]) ++ r := by rw [hpr]; simp
    have el : (p ++ [x]).length = p.length + 1 := by simp
    rw [b64_head hb B n p.length hx hB (by omega) hl]
    have hV : B * 256 + x.toNat < 16384 := by omega
    have eB : (B * 256 + x.toNat) % 64 = x.toNat % 64 := by omega
    rcases hn with rfl | rfl | rfl
    · rw [b64_in _ _ _ _ _ (by omega) (by omega) hV (by unfold lim2; omega)]
      rw [b64_out _ _ _ _ _ _ (by omega) hV (by omega), eB]
      have e1 : (B * 256 + x.toNat) / 2 ^ (0 + 8 - 6) % 64 = x.toNat / 4 := by show _ / 2 ^ 2 % 64 = _; omega
      rw [e1, ← el]
      have := b64_loop (h := h) hb hl r (p ++ [x]) (o ++ [letG (x.toNat / 4)]) 2 (x.toNat % 64) hpr' (by omega) (by omega) (by simp; omega) (by simp; omega)
      refine this.trans ?_
      simp [encF]
    · rw [b64_in _ _ _ _ _ (by omega) (by omega) hV (by unfold lim2; omega)]
      rw [b64_out _ _ _ _ _ _ (by omega) hV (by omega), eB]
      have e1 : (B * 256 + x.toNat) / 2 ^ (2 + 8 - 6) % 64 = B % 4 * 16 + x.toNat / 16 := by show _ / 2 ^ 4 % 64 = _; omega
      rw [e1, ← el]
      have := b64_loop (h := h) hb hl r (p ++ [x]) (o ++ [letG (B % 4 * 16 + x.toNat / 16)]) 4 (x.toNat % 64) hpr' (by omega) (by omega) (by simp; omega) (by simp; omega)
      refine this.trans ?_
      simp [encF]
    · rw [b64_in _ _ _ _ _ (by omega) (by omega) hV (by unfold lim2; omega)]
      rw [b64_in _ _ _ _ _ (by omega) (by omega) hV (by unfold lim2; simp; omega)]
      rw [b64_out _ _ _ _ _ _ (by omega) hV (by omega), eB]
      have e1 : (B * 256 + x.toNat) / 2 ^ (4 + 8 - 6) % 64 = B % 16 * 4 + x.toNat / 64 := by show _ / 2 ^ 6 % 64 = _; omega
      have e2 : (B * 256 + x.toNat) / 2 ^ (4 + 8 - 6 - 6) % 64 = x.toNat % 64 := by show _ / 2 ^ 0 % 64 = _; omega
      rw [e1, e2, ← el]
      have := b64_loop (h := h) hb hl r (p ++ [x]) (o ++ [letG (B % 16 * 4 + x.toNat / 64)] ++ [letG (x.toNat % 64)]) 0 (x.toNat % 64) hpr' (by omega) (by omega) (by simp; omega) (by simp; omega)
      refine this.trans ?_
      simp [encF]
theorem base64_spec {base : Nat} {h : Hp} {b : PV} {l : List UInt8} (hb : Rd b l) (hl : l.length ≤ 1000000) : CallA T base 29 [b] h = some (.str (encL l), h) := by
  rw [S29, ← encF_eq l 0]
  have := b64_loop (h := h) hb hl l [] [] 0 0 rfl (by omega) (by omega) rfl (by simp)
  simp only [↓evD, evU, evL, Nat.reduceAdd, Nat.reduceSub, Nat.reduceMul, Nat.reduceLeDiff, Nat.reduceLT, Nat.reduceEqDiff, Nat.reduceBEq, reduceIte, reduceCtorEq, Int.reduceBEq, Int.reduceEq, Int.reduceLT, Int.reduceLE, Int.reduceGT, Int.reduceGE, Int.reduceAdd, Int.reduceSub, Int.reduceNeg, Int.reduceBNe, ite_true, ite_false, if_true, if_false, implies_true, forall_const]
  exact this
end Go.Am.YtppkffebmoffnaaDoor
namespace Go.Am.YtppkffebmoffnaaDoor
set_option maxRecDepth 100000
set_option linter.unusedSimpArgs false
set_option linter.unusedVariables false
set_option maxHeartbeats 1000000 in
theorem writeR_spec {base : Nat} {h : Hp} (k n : Int) (s : List UInt8) {b : PV} {l : List UInt8} (o i : Int) (hb : Bv b l) (hl : l.length ≤ 1000000) {c : Int} {r : Bool} (hr : ∀ base h, CallA T base 39 [.str s] h = some (.tup [i64 c, .bool r], h))
    (hn : in64 n) (ho : in64 o) (hi : in64 i) :
    CallA T base 11 [val k n s b o i] h = some (.tup [.str (writeG k n s l.length o i r (encL l)).1, i64 (writeG k n s l.length o i r (encL l)).2], h) := by
  have hR : ∀ base h, _ := fun base h => rightR_spec (base := base) (h := h) k n s o i hb hr
  have hf : ∀ base h, _ := fun base h => format_spec (base := base) (h := h) n hn
  have hio : ∀ base h, _ := fun base h => itoa_spec (base := base) (h := h) o ho
  have hii : ∀ base h, _ := fun base h => itoa_spec (base := base) (h := h) i hi
  have h64 : ∀ base h, _ := fun base h => base64_spec (base := base) (h := h) hb.rd hl
  have l1 := itoa_len ho
  have l2 := itoa_len hi
  have l3 : (Lib.itoa o).length + 1 ≤ limS := by unfold limS; omega
  have l4 : (Lib.itoa o).length + 1 + (Lib.itoa i).length ≤ limS := by unfold limS; omega
  rw [S11]
  unfold writeG
  by_cases k1 : k < 1
  · have hk : ¬ (1 ≤ k ∧ k ≤ 6) := by omega
    simp only [hb.scalar, hb.cells, k1, hk, ↓evD, evU, evL, Nat.reduceAdd, Nat.reduceSub, Nat.reduceMul, Nat.reduceLeDiff, Nat.reduceLT, Nat.reduceEqDiff, Nat.reduceBEq, reduceIte, reduceCtorEq, Int.reduceBEq, Int.reduceEq, Int.reduceLT, Int.reduceLE, Int.reduceGT, Int.reduceGE, Int.reduceAdd, Int.reduceSub, Int.reduceNeg, Int.reduceBNe, ite_true, ite_false, if_true, if_false, implies_true, forall_const]
  by_cases k6 : k > 6
  · have hk : ¬ (1 ≤ k ∧ k ≤ 6) := by omega
    simp only [hb.scalar, hb.cells, k1, k6, hk, ↓evD, evU, evL, Nat.reduceAdd, Nat.reduceSub, Nat.reduceMul, Nat.reduceLeDiff, Nat.reduceLT, Nat.reduceEqDiff, Nat.reduceBEq, reduceIte, reduceCtorEq, Int.reduceBEq, Int.reduceEq, Int.reduceLT, Int.reduceLE, Int.reduceGT, Int.reduceGE, Int.reduceAdd, Int.reduceSub, Int.reduceNeg, Int.reduceBNe, ite_true, ite_false, if_true, if_false, implies_true, forall_const]
  have hk : 1 ≤ k ∧ k ≤ 6 := by omega
  cases hq : rightG k n s l.length o i r
  · simp only [hb.scalar, hb.cells, k1, k6, hk, hR, hq, ↓evD, evU, evL, Nat.reduceAdd, Nat.reduceSub, Nat.reduceMul, Nat.reduceLeDiff, Nat.reduceLT, Nat.reduceEqDiff, Nat.reduceBEq, reduceIte, reduceCtorEq, Int.reduceBEq, Int.reduceEq, Int.reduceLT, Int.reduceLE, Int.reduceGT, Int.reduceGE, Int.reduceAdd, Int.reduceSub, Int.reduceNeg, Int.reduceBNe, ite_true, ite_false, if_true, if_false, implies_true, forall_const]
  · by_cases h3 : k = 3
    · subst h3; simp only [hb.scalar, hb.cells, k1, k6, hk, hR, hq, ↓evD, evU, evL, Nat.reduceAdd, Nat.reduceSub, Nat.reduceMul, Nat.reduceLeDiff, Nat.reduceLT, Nat.reduceEqDiff, Nat.reduceBEq, reduceIte, reduceCtorEq, Int.reduceBEq, Int.reduceEq, Int.reduceLT, Int.reduceLE, Int.reduceGT, Int.reduceGE, Int.reduceAdd, Int.reduceSub, Int.reduceNeg, Int.reduceBNe, ite_true, ite_false, if_true, if_false, implies_true, forall_const]
    by_cases h4 : k = 4
    · subst h4; simp only [hb.scalar, hb.cells, k1, k6, hk, hR, hq, h64, ↓evD, evU, evL, Nat.reduceAdd, Nat.reduceSub, Nat.reduceMul, Nat.reduceLeDiff, Nat.reduceLT, Nat.reduceEqDiff, Nat.reduceBEq, reduceIte, reduceCtorEq, Int.reduceBEq, Int.reduceEq, Int.reduceLT, Int.reduceLE, Int.reduceGT, Int.reduceGE, Int.reduceAdd, Int.reduceSub, Int.reduceNeg, Int.reduceBNe, ite_true, ite_false, if_true, if_false, implies_true, forall_const]
    by_cases h6 : k = 6
    · subst h6; simp only [hb.scalar, hb.cells, k1, k6, hk, hR, hq, hio, hii, l3, l4, List.length_append, ↓evD, evU, evL, Nat.reduceAdd, Nat.reduceSub, Nat.reduceMul, Nat.reduceLeDiff, Nat.reduceLT, Nat.reduceEqDiff, Nat.reduceBEq, reduceIte, reduceCtorEq, Int.reduceBEq, Int.reduceEq, Int.reduceLT, Int.reduceLE, Int.reduceGT, Int.reduceGE, Int.reduceAdd, Int.reduceSub, Int.reduceNeg, Int.reduceBNe, ite_true, ite_false, if_true, if_false, implies_true, forall_const]
    simp only [hb.scalar, hb.cells, k1, k6, hk, hR, hq, hf, h3, h4, h6, beq_false_of h3, beq_false_of h4, beq_false_of h6, ↓evD, evU, evL, Nat.reduceAdd, Nat.reduceSub, Nat.reduceMul, Nat.reduceLeDiff, Nat.reduceLT, Nat.reduceEqDiff, Nat.reduceBEq, reduceIte, reduceCtorEq, Int.reduceBEq, Int.reduceEq, Int.reduceLT, Int.reduceLE, Int.reduceGT, Int.reduceGE, Int.reduceAdd, Int.reduceSub, Int.reduceNeg, Int.reduceBNe, ite_true, ite_false, if_true, if_false, implies_true, forall_const]
end Go.Am.YtppkffebmoffnaaDoor
namespace Go.Am.YtppkffebmoffnaaDoor
set_option maxRecDepth 100000
set_option linter.unusedSimpArgs false
set_option linter.unusedVariables false
abbrev i64' (n : Int) : PV := .int .i64 n
/-- Is a sign none that may be? -/
def badR (d : Nat × Nat) : Bool := ((d.1 : Int) == 65533 && (d.2 : Int) == 1) || (decide ((d.1 : Int) < 32) || (d.1 : Int) == 127)
/-- How many signs; are all such that may be? -/
def runesL : Nat → List UInt8 → Int → Int × Bool
  | 0, _, n => (n, true)
  | f + 1, l, n => if l = [] then (n, true) else if badR (Lib.decodeL l) then (0, false) else runesL f (l.drop (Lib.decodeL l).2) (n + 1)
def runesG (s : List UInt8) : Int × Bool := runesL s.length s 0
theorem runeAt_eq (s : List UInt8) (p : Nat) : runeAt s p = Lib.decodeL (s.drop p) := (Lib.decodeL_drop ⟨s.toArray⟩ p).symm
theorem decodeGo_eq {l : List UInt8} (h : l ≠ []) : Lib.decodeGo ⟨l.toArray⟩ = Lib.decodeL l := by
  unfold Lib.decodeGo
  rw [if_neg]
  · rfl
  · cases l with
    | nil => exact (h rfl).elim
    | cons x l => simp [ByteArray.size]
theorem decode_spec {h : Hp} {base : Nat} (s : List UInt8) : CallA T base 60 [.str s] h = some (.tup [.int .i32 (Lib.decodeGo ⟨s.toArray⟩).1, i64' (Lib.decodeGo ⟨s.toArray⟩).2], h) := by
  rw [CallA_prim T_60]; rfl
theorem decodeL_pos (l : List UInt8) : 1 ≤ (Lib.decodeL l).2 := Lib.width_pos _ 0

theorem trunc_ext1 (h : Hp) (l : Hp) : trunc (ext h l) (size h) = h := trunc_ext
theorem runes_loop {h : Hp} (s : List UInt8) (hs : s.length ≤ 4611686018427387904) : ∀ (f pos : Nat) (n : Int), s.length ≤ pos + f → 0 ≤ n → n ≤ pos →
    P49_0 (size h) (size h) (i64' n) (.str s) (.it (size h)) (ext h [.iter s pos]) = some (.tup [i64' (runesL f (s.drop pos) n).1, .bool (runesL f (s.drop pos) n).2], h)
  | f, pos, n, hf, hn0, hn1 => by
    rw [P49_0_eq]
    by_cases hp : pos < s.length
    · obtain ⟨f, rfl⟩ : ∃ k, f = k + 1 := ⟨f - 1, by omega⟩
      have hne : s.drop pos ≠ [] := by intro hq; have := congrArg List.length hq; simp at this; omega
      have hsl : (s.drop pos).take (s.length - pos) = s.drop pos := List.take_of_length_le (by simp)
      have hbd := bdV_nat s.length .i64 pos (Nat.le_of_lt hp)
      have hd : ∀ base h, _ := fun base h => decode_spec (base := base) (h := h) (s.drop pos)
      have hg := decodeGo_eq hne
      have hw := decodeL_pos (s.drop pos)
      have hwr : IntKind.i64.wrap (n + 1) = n + 1 := by rw [wrap_small] <;> omega
      rw [hg] at hd
      have hbad : runesL (f + 1) (s.drop pos) n = if badR (Lib.decodeL (s.drop pos)) then (0, false) else runesL f (s.drop (pos + (Lib.decodeL (s.drop pos)).2)) (n + 1) := by
        rw [runesL, if_neg hne, List.drop_drop]
      have hra := runeAt_eq s pos
      rw [hbad]
      have ih := fun w (hw : 1 ≤ w) => runes_loop (h := h) s hs f (pos + w) (n + 1) (by omega) (by omega) (by omega)
      generalize Lib.decodeL (s.drop pos) = d at *
      obtain ⟨c, w⟩ := d
      have ih' := ih w hw
      cases b1 : ((c : Int) == 65533) <;> cases b2 : ((w : Int) == 1) <;> cases b3 : decide ((c : Int) < 32) <;> cases b4 : ((c : Int) == 127) <;>
        simp only [hp, hra, hd, hbd, hsl, b1, b2, b3, b4, hwr, badR, ih', nextB_it, ↓evD, evU, evL, Nat.reduceAdd, Nat.reduceSub, Nat.reduceMul, Nat.reduceLeDiff, Nat.reduceLT, Nat.reduceEqDiff, Nat.reduceBEq, reduceIte, reduceCtorEq, Int.reduceBEq, Int.reduceEq, Int.reduceLT, Int.reduceLE, Int.reduceGT, Int.reduceGE, Int.reduceAdd, Int.reduceSub, Int.reduceNeg, Int.reduceBNe, ite_true, ite_false, if_true, if_false, implies_true, forall_const]
    · have hnil : s.drop pos = [] := List.drop_eq_nil_of_le (by omega)
      have hr : runesL f (s.drop pos) n = (n, true) := by
        rw [hnil]
        cases f <;> simp [runesL]
      rw [hr]
      simp only [hp, nextB_it, ↓evD, evU, evL, Nat.reduceAdd, Nat.reduceSub, Nat.reduceMul, Nat.reduceLeDiff, Nat.reduceLT, Nat.reduceEqDiff, Nat.reduceBEq, reduceIte, reduceCtorEq, Int.reduceBEq, Int.reduceEq, Int.reduceLT, Int.reduceLE, Int.reduceGT, Int.reduceGE, Int.reduceAdd, Int.reduceSub, Int.reduceNeg, Int.reduceBNe, ite_true, ite_false, if_true, if_false, implies_true, forall_const]
theorem runes_spec {base : Nat} {h : Hp} {s : List UInt8} (hs : s.length ≤ 4611686018427387904) : CallA T base 49 [.str s] h = some (.tup [i64' (runesG s).1, .bool (runesG s).2], h) := by
  rw [S49]
  have := runes_loop (h := h) s hs s.length 0 0 (by omega) (by omega) (by omega)
  rw [List.drop_zero] at this
  simp only [rangeB_str, ↓evD, evU, evL, Nat.reduceAdd, Nat.reduceSub, Nat.reduceMul, Nat.reduceLeDiff, Nat.reduceLT, Nat.reduceEqDiff, Nat.reduceBEq, reduceIte, reduceCtorEq, Int.reduceBEq, Int.reduceEq, Int.reduceLT, Int.reduceLE, Int.reduceGT, Int.reduceGE, Int.reduceAdd, Int.reduceSub, Int.reduceNeg, Int.reduceBNe, ite_true, ite_false, if_true, if_false, implies_true, forall_const]
  exact this
end Go.Am.YtppkffebmoffnaaDoor
namespace Go.Am.YtppkffebmoffnaaDoor
set_option maxRecDepth 100000
set_option linter.unusedSimpArgs false
set_option linter.unusedVariables false
/-- The bytes behind the first one, so many from a place on. -/
def contL (l : List UInt8) : Nat → Nat → Int → Option Int
  | 0, _, c => some c
  | k + 1, i, c => match l[i]? with
    | none => none
    | some x => if (x.toNat : Int) < 128 ∨ (191 : Int) < x.toNat then none else contL l k (i + 1) (c * 64 + x.toNat - 128)
def signE (c least n : Int) : Int × Int := if c < least ∨ 1114111 < c ∨ (55296 ≤ c ∧ c < 57344) then (0, 0) else (n, c)
theorem sign_loop {h : Hp} (l : List UInt8) (least : Int) : ∀ (k i : Nat) (c : Int), i + k ≤ l.length → i + k ≤ 4 → 0 ≤ c → (c + 3) * 64 ^ k ≤ 1099511627776 →
    P50_1 (size h) (size h) (i64' (i : Int)) (.str l) (i64' c) (i64' ((i + k : Nat) : Int)) (i64' least) h =
      some (.tup [i64' (match contL l k i c with | none => (0, 0) | some c' => signE c' least ((i + k : Nat) : Int)).1, i64' (match contL l k i c with | none => (0, 0) | some c' => signE c' least ((i + k : Nat) : Int)).2], h)
  | 0, i, c, hl, h4l, hc0, hc1 => by
    rw [P50_1_eq]
    have h1 : ((i : Int) < (i : Int)) = False := by simp
    simp only [contL, signE]
    cases b1 : decide (c < least) <;> cases b2 : decide ((1114111 : Int) < c) <;> cases b3 : decide ((55296 : Int) ≤ c) <;> cases b4 : decide (c < 57344) <;>
      (have b1' := b1; have b2' := b2; have b3' := b3; have b4' := b4; simp only [decide_eq_true_eq, decide_eq_false_iff_not] at b1' b2' b3' b4'; simp only [gt_iff_lt, ge_iff_le, h1, b1, b2, b3, b4, b1', b2', b3', b4', ↓evD, evU, evL, Nat.reduceAdd, Nat.reduceSub, Nat.reduceMul, Nat.reduceLeDiff, Nat.reduceLT, Nat.reduceEqDiff, Nat.reduceBEq, reduceIte, reduceCtorEq, Int.reduceBEq, Int.reduceEq, Int.reduceLT, Int.reduceLE, Int.reduceGT, Int.reduceGE, Int.reduceAdd, Int.reduceSub, Int.reduceNeg, Int.reduceBNe, ite_true, ite_false, if_true, if_false, implies_true, forall_const])
  | k + 1, i, c, hl, h4l, hc0, hc1 => by
    rw [P50_1_eq]
    have hlt : ((i : Int) < ((i + (k + 1) : Nat) : Int)) = True := by simp; omega
    have hi : i < l.length := by omega
    obtain ⟨x, hx⟩ : ∃ x, l[i]? = some x := ⟨_, List.getElem?_eq_getElem hi⟩
    have hix := ix_nat .i64 i l.length hi
    have hx256 := x.toNat_lt
    have hP : (1 : Int) ≤ 64 ^ k := Int.pow_pos (by decide)
    rw [Int.pow_succ] at hc1
    generalize hPk : (64 : Int) ^ k = P at *
    have hcb : c + 3 ≤ 1099511627776 := by
      have h1 : (c + 3) * 1 ≤ (c + 3) * (P * 64) := Int.mul_le_mul_of_nonneg_left (by omega) (by omega)
      omega
    have hw1 : IntKind.i64.wrap (c * 64) = c * 64 := by rw [wrap_small] <;> omega
    have hw2 : IntKind.i64.wrap (x.toNat : Int) = x.toNat := by rw [wrap_small] <;> omega
    have hw3 : IntKind.i64.wrap (c * 64 + x.toNat) = c * 64 + x.toNat := by rw [wrap_small] <;> omega
    have hw4 : IntKind.i64.wrap (c * 64 + x.toNat - 128) = c * 64 + x.toNat - 128 := by rw [wrap_small] <;> omega
    have hw5 : IntKind.i64.wrap ((i : Int) + 1) = ((i + 1 : Nat) : Int) := by rw [wrap_small] <;> omega
    have e1 : i + (k + 1) = i + 1 + k := by omega
    simp only [contL, hx]
    by_cases b1 : (x.toNat : Int) < 128
    · simp only [gt_iff_lt, hlt, hix, hx, b1, ↓evD, evU, evL, Nat.reduceAdd, Nat.reduceSub, Nat.reduceMul, Nat.reduceLeDiff, Nat.reduceLT, Nat.reduceEqDiff, Nat.reduceBEq, reduceIte, reduceCtorEq, Int.reduceBEq, Int.reduceEq, Int.reduceLT, Int.reduceLE, Int.reduceGT, Int.reduceGE, Int.reduceAdd, Int.reduceSub, Int.reduceNeg, Int.reduceBNe, ite_true, ite_false, if_true, if_false, implies_true, forall_const]
    by_cases b2 : (191 : Int) < x.toNat
    · simp only [gt_iff_lt, hlt, hix, hx, b1, b2, ↓evD, evU, evL, Nat.reduceAdd, Nat.reduceSub, Nat.reduceMul, Nat.reduceLeDiff, Nat.reduceLT, Nat.reduceEqDiff, Nat.reduceBEq, reduceIte, reduceCtorEq, Int.reduceBEq, Int.reduceEq, Int.reduceLT, Int.reduceLE, Int.reduceGT, Int.reduceGE, Int.reduceAdd, Int.reduceSub, Int.reduceNeg, Int.reduceBNe, ite_true, ite_false, if_true, if_false, implies_true, forall_const]
    have ih := sign_loop (h := h) l least k (i + 1) (c * 64 + x.toNat - 128) (by omega) (by omega) (by omega) (by
      have h1 : (c * 64 + x.toNat - 128 + 3) * P ≤ ((c + 3) * 64) * P := Int.mul_le_mul_of_nonneg_right (by omega) (by omega)
      have h2 : (c + 3) * (P * 64) = ((c + 3) * 64) * P := by rw [Int.mul_comm P 64, Int.mul_assoc]
      rw [h2] at hc1
      rw [hPk]
      exact Int.le_trans h1 hc1)
    rw [← e1] at ih
    simp only [gt_iff_lt, hlt, hix, hx, b1, b2, hw1, hw2, hw3, hw4, hw5, ih, ↓evD, evU, evL, Nat.reduceAdd, Nat.reduceSub, Nat.reduceMul, Nat.reduceLeDiff, Nat.reduceLT, Nat.reduceEqDiff, Nat.reduceBEq, reduceIte, reduceCtorEq, Int.reduceBEq, Int.reduceEq, Int.reduceLT, Int.reduceLE, Int.reduceGT, Int.reduceGE, Int.reduceAdd, Int.reduceSub, Int.reduceNeg, Int.reduceBNe, ite_true, ite_false, if_true, if_false, implies_true, forall_const]
/-- The first sign: how many bytes it has, its number; 0 bytes: none that may be. -/
def signGo (l : List UInt8) (k : Nat) (least c : Int) : Int × Int :=
  if l.length < k + 1 then (0, 0) else match contL l k 1 c with
    | none => (0, 0)
    | some c' => if c' < least ∨ 1114111 < c' ∨ (55296 ≤ c' ∧ c' < 57344) then (0, 0) else ((k : Int) + 1, c')
def signR (l : List UInt8) : Int × Int :=
  match l with
  | [] => (0, 0)
  | b :: _ => if (b.toNat : Int) < 128 then (1, b.toNat) else if 194 ≤ (b.toNat : Int) ∧ (b.toNat : Int) < 224 then signGo l 1 128 (b.toNat - 192)
    else if 224 ≤ (b.toNat : Int) ∧ (b.toNat : Int) < 240 then signGo l 2 2048 (b.toNat - 224)
    else if 240 ≤ (b.toNat : Int) ∧ (b.toNat : Int) < 245 then signGo l 3 65536 (b.toNat - 240) else (0, 0)
end Go.Am.YtppkffebmoffnaaDoor
namespace Go.Am.YtppkffebmoffnaaDoor
set_option maxRecDepth 100000
set_option linter.unusedSimpArgs false
set_option linter.unusedVariables false
theorem sign_from {h : Hp} (l : List UInt8) (k : Nat) (least c : Int) (hk : k + 1 ≤ 4) (hc0 : 0 ≤ c) (hc : c ≤ 1000) :
    P50_0 (size h) (size h) (.str l) (i64' c) (i64' ((k + 1 : Nat) : Int)) (i64' least) h = some (.tup [i64' (signGo l k least c).1, i64' (signGo l k least c).2], h) := by
  rw [P50_0_eq]
  by_cases hl : l.length < k + 1
  · have h1 : ((l.length : Int) < ((k + 1 : Nat) : Int)) = True := by simp; omega
    simp only [signGo, hl, h1, ↓evD, evU, evL, Nat.reduceAdd, Nat.reduceSub, Nat.reduceMul, Nat.reduceLeDiff, Nat.reduceLT, Nat.reduceEqDiff, Nat.reduceBEq, reduceIte, reduceCtorEq, Int.reduceBEq, Int.reduceEq, Int.reduceLT, Int.reduceLE, Int.reduceGT, Int.reduceGE, Int.reduceAdd, Int.reduceSub, Int.reduceNeg, Int.reduceBNe, ite_true, ite_false, if_true, if_false, implies_true, forall_const]
  · have h1 : ((l.length : Int) < ((k + 1 : Nat) : Int)) = False := by simp; omega
    have hp : (64 : Int) ^ k ≤ 64 ^ 3 := by
      match k, hk with
      | 0, _ => decide
      | 1, _ => decide
      | 2, _ => decide
      | 3, _ => decide
    have hp0 : (0 : Int) ≤ 64 ^ k := Int.le_of_lt (Int.pow_pos (by decide))
    have hm : (c + 3) * 64 ^ k ≤ 1099511627776 := by
      have := Int.mul_le_mul (show c + 3 ≤ 1003 by omega) hp hp0 (by decide)
      have e : (1003 : Int) * 64 ^ 3 = 262930432 := by decide
      omega
    have := sign_loop (h := h) l least k 1 c (by omega) (by omega) hc0 hm
    have e1 : 1 + k = k + 1 := by omega
    rw [e1] at this
    simp only [signGo, hl, h1, ↓evD, evU, evL, Nat.reduceAdd, Nat.reduceSub, Nat.reduceMul, Nat.reduceLeDiff, Nat.reduceLT, Nat.reduceEqDiff, Nat.reduceBEq, reduceIte, reduceCtorEq, Int.reduceBEq, Int.reduceEq, Int.reduceLT, Int.reduceLE, Int.reduceGT, Int.reduceGE, Int.reduceAdd, Int.reduceSub, Int.reduceNeg, Int.reduceBNe, ite_true, ite_false, if_true, if_false, implies_true, forall_const]
    refine Eq.trans ?_ (this.trans ?_)
    · rfl
    · cases contL l k 1 c with
      | none => rfl
      | some c' => simp only [signE]; rw [show ((k + 1 : Nat) : Int) = (k : Int) + 1 from rfl]
theorem sign_spec {base : Nat} {h : Hp} {l : List UInt8} (hl : l ≠ []) : CallA T base 50 [.str l] h = some (.tup [i64' (signR l).1, i64' (signR l).2], h) := by
  obtain ⟨b, r, hbr⟩ : ∃ b r, l = b :: r := by cases l with | nil => exact (hl rfl).elim | cons b r => exact ⟨b, r, rfl⟩
  have hix : ix (.int .i64 0) l.length = some 0 := by rw [hbr]; simp [ix]
  have hget : l[0]? = some b := by rw [hbr]; rfl
  have hb := b.toNat_lt
  have hw0 : IntKind.i64.wrap (b.toNat : Int) = b.toNat := by rw [wrap_small] <;> omega
  have hS : signR l = (if (b.toNat : Int) < 128 then (1, (b.toNat : Int)) else if 194 ≤ (b.toNat : Int) ∧ (b.toNat : Int) < 224 then signGo l 1 128 (b.toNat - 192)
    else if 224 ≤ (b.toNat : Int) ∧ (b.toNat : Int) < 240 then signGo l 2 2048 (b.toNat - 224)
    else if 240 ≤ (b.toNat : Int) ∧ (b.toNat : Int) < 245 then signGo l 3 65536 (b.toNat - 240) else (0, 0)) := by rw [hbr]; rfl
  rw [hS, S50]
  clear hS hbr hl
  by_cases b1 : (b.toNat : Int) < 128
  · rw [if_pos b1]
    simp only [hix, hget, hw0, b1, ↓evD, evU, evL, Nat.reduceAdd, Nat.reduceSub, Nat.reduceMul, Nat.reduceLeDiff, Nat.reduceLT, Nat.reduceEqDiff, Nat.reduceBEq, reduceIte, reduceCtorEq, Int.reduceBEq, Int.reduceEq, Int.reduceLT, Int.reduceLE, Int.reduceGT, Int.reduceGE, Int.reduceAdd, Int.reduceSub, Int.reduceNeg, Int.reduceBNe, ite_true, ite_false, if_true, if_false, implies_true, forall_const]
  have f1 := fun (x : 194 ≤ b.toNat) => sign_from (h := h) l 1 128 ((b.toNat : Int) - 192) (by omega) (by omega) (by omega)
  have f2 := fun (x : 224 ≤ b.toNat) => sign_from (h := h) l 2 2048 ((b.toNat : Int) - 224) (by omega) (by omega) (by omega)
  have f3 := fun (x : 240 ≤ b.toNat) => sign_from (h := h) l 3 65536 ((b.toNat : Int) - 240) (by omega) (by omega) (by omega)
  have c2 : (((1 + 1 : Nat) : Int)) = 2 := rfl
  have c3 : (((2 + 1 : Nat) : Int)) = 3 := rfl
  have c4 : (((3 + 1 : Nat) : Int)) = 4 := rfl
  rw [c2] at f1
  rw [c3] at f2
  rw [c4] at f3
  by_cases b2 : 194 ≤ (b.toNat : Int)
  · have hwS : IntKind.i64.wrap ((b.toNat : Int) - 192) = (b.toNat : Int) - 192 := by rw [wrap_small] <;> omega
    by_cases b3 : (b.toNat : Int) < 224
    · simp only [ge_iff_le, hix, hget, hw0, b1, b2, b3, hwS, f1 (by omega), ↓evD, evU, evL, Nat.reduceAdd, Nat.reduceSub, Nat.reduceMul, Nat.reduceLeDiff, Nat.reduceLT, Nat.reduceEqDiff, Nat.reduceBEq, reduceIte, reduceCtorEq, Int.reduceBEq, Int.reduceEq, Int.reduceLT, Int.reduceLE, Int.reduceGT, Int.reduceGE, Int.reduceAdd, Int.reduceSub, Int.reduceNeg, Int.reduceBNe, ite_true, ite_false, if_true, if_false, implies_true, forall_const]
    · have hwS2 : IntKind.i64.wrap ((b.toNat : Int) - 224) = (b.toNat : Int) - 224 := by rw [wrap_small] <;> omega
      have b4 : 224 ≤ (b.toNat : Int) := by omega
      by_cases b5 : (b.toNat : Int) < 240
      · simp only [ge_iff_le, hix, hget, hw0, b1, b2, b3, b4, b5, hwS2, f2 (by omega), ↓evD, evU, evL, Nat.reduceAdd, Nat.reduceSub, Nat.reduceMul, Nat.reduceLeDiff, Nat.reduceLT, Nat.reduceEqDiff, Nat.reduceBEq, reduceIte, reduceCtorEq, Int.reduceBEq, Int.reduceEq, Int.reduceLT, Int.reduceLE, Int.reduceGT, Int.reduceGE, Int.reduceAdd, Int.reduceSub, Int.reduceNeg, Int.reduceBNe, ite_true, ite_false, if_true, if_false, implies_true, forall_const]
      · have hwS3 : IntKind.i64.wrap ((b.toNat : Int) - 240) = (b.toNat : Int) - 240 := by rw [wrap_small] <;> omega
        have b6 : 240 ≤ (b.toNat : Int) := by omega
        by_cases b7 : (b.toNat : Int) < 245
        · simp only [ge_iff_le, hix, hget, hw0, b1, b2, b3, b4, b5, b6, b7, hwS3, f3 (by omega), ↓evD, evU, evL, Nat.reduceAdd, Nat.reduceSub, Nat.reduceMul, Nat.reduceLeDiff, Nat.reduceLT, Nat.reduceEqDiff, Nat.reduceBEq, reduceIte, reduceCtorEq, Int.reduceBEq, Int.reduceEq, Int.reduceLT, Int.reduceLE, Int.reduceGT, Int.reduceGE, Int.reduceAdd, Int.reduceSub, Int.reduceNeg, Int.reduceBNe, ite_true, ite_false, if_true, if_false, implies_true, forall_const]
        · simp only [ge_iff_le, hix, hget, hw0, b1, b2, b3, b4, b5, b6, b7, ↓evD, evU, evL, Nat.reduceAdd, Nat.reduceSub, Nat.reduceMul, Nat.reduceLeDiff, Nat.reduceLT, Nat.reduceEqDiff, Nat.reduceBEq, reduceIte, reduceCtorEq, Int.reduceBEq, Int.reduceEq, Int.reduceLT, Int.reduceLE, Int.reduceGT, Int.reduceGE, Int.reduceAdd, Int.reduceSub, Int.reduceNeg, Int.reduceBNe, ite_true, ite_false, if_true, if_false, implies_true, forall_const]
  · have b4 : ¬ 224 ≤ (b.toNat : Int) := by omega
    have b6 : ¬ 240 ≤ (b.toNat : Int) := by omega
    simp only [ge_iff_le, hix, hget, hw0, b1, b2, b4, b6, ↓evD, evU, evL, Nat.reduceAdd, Nat.reduceSub, Nat.reduceMul, Nat.reduceLeDiff, Nat.reduceLT, Nat.reduceEqDiff, Nat.reduceBEq, reduceIte, reduceCtorEq, Int.reduceBEq, Int.reduceEq, Int.reduceLT, Int.reduceLE, Int.reduceGT, Int.reduceGE, Int.reduceAdd, Int.reduceSub, Int.reduceNeg, Int.reduceBNe, ite_true, ite_false, if_true, if_false, implies_true, forall_const]
end Go.Am.YtppkffebmoffnaaDoor
namespace Go.Am.YtppkffebmoffnaaDoor
set_option linter.unusedSimpArgs false
set_option linter.unusedVariables false
open Go.Lib
theorem dec1 {n B b1 b2 b3 : Nat} (h : B < 128) : decodeN n B b1 b2 b3 = (B, 1) := by unfold decodeN; rw [if_pos h]
theorem dec_no {n B b1 b2 b3 : Nat} (h : 128 ≤ B ∧ B < 194) (h1 : b1 < 256) : decodeN n B b1 b2 b3 = (65533, 1) := by
  unfold decodeN
  rw [if_neg (by omega)]
  by_cases hc : B / 32 = 6 ∧ (1 < n ∧ b1 / 64 = 2)
  · rw [if_pos hc, if_neg (by omega)]
  · rw [if_neg hc, if_neg (by omega), if_neg (by omega)]
theorem dec2 {n B b1 b2 b3 : Nat} (h : 194 ≤ B ∧ B < 224) (h1 : b1 < 256) : decodeN n B b1 b2 b3 = if 1 < n ∧ 128 ≤ b1 ∧ b1 < 192 then ((B - 192) * 64 + (b1 - 128), 2) else (65533, 1) := by
  unfold decodeN
  rw [if_neg (by omega)]
  by_cases hc : 1 < n ∧ 128 ≤ b1 ∧ b1 < 192
  · rw [if_pos hc, if_pos (by omega), if_pos (by omega), Prod.mk.injEq]
    exact ⟨by omega, rfl⟩
  · rw [if_neg hc, if_neg (by omega), if_neg (by omega), if_neg (by omega)]
theorem dec3 {n B b1 b2 b3 : Nat} (h : 224 ≤ B ∧ B < 240) (h1 : b1 < 256) (h2 : b2 < 256) : decodeN n B b1 b2 b3 =
    if (1 < n ∧ 128 ≤ b1 ∧ b1 < 192) ∧ (2 < n ∧ 128 ≤ b2 ∧ b2 < 192) ∧ 2048 ≤ (B - 224) * 4096 + (b1 - 128) * 64 + (b2 - 128) ∧ ((B - 224) * 4096 + (b1 - 128) * 64 + (b2 - 128) < 55296 ∨ 57344 ≤ (B - 224) * 4096 + (b1 - 128) * 64 + (b2 - 128))
    then ((B - 224) * 4096 + (b1 - 128) * 64 + (b2 - 128), 3) else (65533, 1) := by
  unfold decodeN
  rw [if_neg (by omega), if_neg (by omega)]
  by_cases hc : (1 < n ∧ 128 ≤ b1 ∧ b1 < 192) ∧ (2 < n ∧ 128 ≤ b2 ∧ b2 < 192)
  · rw [if_pos (by omega)]
    have e : B % 16 * 4096 + b1 % 64 * 64 + b2 % 64 = (B - 224) * 4096 + (b1 - 128) * 64 + (b2 - 128) := by omega
    rw [e]
    by_cases hv : 2048 ≤ (B - 224) * 4096 + (b1 - 128) * 64 + (b2 - 128) ∧ ((B - 224) * 4096 + (b1 - 128) * 64 + (b2 - 128) < 55296 ∨ 57344 ≤ (B - 224) * 4096 + (b1 - 128) * 64 + (b2 - 128))
    · rw [if_pos (by omega), if_pos ⟨hc.1, hc.2, hv⟩]
    · rw [if_neg (by omega), if_neg (fun hq => hv hq.2.2)]
  · rw [if_neg (by omega), if_neg (by omega), if_neg (fun hq => hc ⟨hq.1, hq.2.1⟩)]
theorem dec4 {n B b1 b2 b3 : Nat} (h : 240 ≤ B) (hB : B < 256) (h1 : b1 < 256) (h2 : b2 < 256) (h3 : b3 < 256) : decodeN n B b1 b2 b3 =
    if B < 245 ∧ (1 < n ∧ 128 ≤ b1 ∧ b1 < 192) ∧ (2 < n ∧ 128 ≤ b2 ∧ b2 < 192) ∧ (3 < n ∧ 128 ≤ b3 ∧ b3 < 192) ∧ 65536 ≤ (B - 240) * 262144 + (b1 - 128) * 4096 + (b2 - 128) * 64 + (b3 - 128) ∧ (B - 240) * 262144 + (b1 - 128) * 4096 + (b2 - 128) * 64 + (b3 - 128) ≤ 1114111
    then ((B - 240) * 262144 + (b1 - 128) * 4096 + (b2 - 128) * 64 + (b3 - 128), 4) else (65533, 1) := by
  unfold decodeN
  rw [if_neg (by omega), if_neg (by omega), if_neg (by omega)]
  by_cases hc : B < 248 ∧ (1 < n ∧ 128 ≤ b1 ∧ b1 < 192) ∧ (2 < n ∧ 128 ≤ b2 ∧ b2 < 192) ∧ (3 < n ∧ 128 ≤ b3 ∧ b3 < 192)
  · rw [if_pos (by omega)]
    have e : B % 8 * 262144 + b1 % 64 * 4096 + b2 % 64 * 64 + b3 % 64 = (B - 240) * 262144 + (b1 - 128) * 4096 + (b2 - 128) * 64 + (b3 - 128) := by omega
    rw [e]
    by_cases hv : 65536 ≤ (B - 240) * 262144 + (b1 - 128) * 4096 + (b2 - 128) * 64 + (b3 - 128) ∧ (B - 240) * 262144 + (b1 - 128) * 4096 + (b2 - 128) * 64 + (b3 - 128) ≤ 1114111
    · rw [if_pos (by omega), if_pos ⟨by omega, hc.2.1, hc.2.2.1, hc.2.2.2, hv⟩]
    · rw [if_neg (by omega), if_neg (fun hq => hv hq.2.2.2.2)]
  · rw [if_neg (by omega), if_neg (by omega)]

theorem cont2 (b x y : UInt8) (r : List UInt8) (c : Int) : contL (b :: x :: y :: r) 2 1 c = if (x.toNat : Int) < 128 ∨ (191 : Int) < x.toNat then none else if (y.toNat : Int) < 128 ∨ (191 : Int) < y.toNat then none
    else some ((c * 64 + x.toNat - 128) * 64 + y.toNat - 128) := rfl
theorem cont3 (b x y z : UInt8) (r : List UInt8) (c : Int) : contL (b :: x :: y :: z :: r) 3 1 c = if (x.toNat : Int) < 128 ∨ (191 : Int) < x.toNat then none else if (y.toNat : Int) < 128 ∨ (191 : Int) < y.toNat then none
    else if (z.toNat : Int) < 128 ∨ (191 : Int) < z.toNat then none else some (((c * 64 + x.toNat - 128) * 64 + y.toNat - 128) * 64 + z.toNat - 128) := rfl
def badS (s : Int × Int) : Bool := (s.1 == 0) || (decide (s.2 < 32) || s.2 == 127)
/-- What the sign is worth: what Go's decoder says. -/
def Agree2 (s : Int × Int) (d : Nat × Nat) (n : Nat) : Prop := badS s = badR d ∧ (badR d = false → s.1 = (d.2 : Int) ∧ d.2 ≤ n)
theorem agree_bad {n : Nat} : Agree2 (0, 0) (65533, 1) n := ⟨rfl, fun h => by cases h⟩
theorem agree_good {c w n : Nat} (h : (w = 1 → c < 128)) (hw : 1 ≤ w) (hn : w ≤ n) : Agree2 ((w : Int), (c : Int)) (c, w) n := by
  refine ⟨?_, fun _ => ⟨rfl, hn⟩⟩
  unfold badS badR
  have e1 : (((w : Int), (c : Int)).1 == 0) = false := by rw [beq_eq_false_iff_ne]; simp; omega
  have e2 : ((((c, w) : Nat × Nat).1 : Int) == 65533 && (((c, w) : Nat × Nat).2 : Int) == 1) = false := by
    cases hq : ((((c, w) : Nat × Nat).2 : Int) == 1)
    · simp
    · have hq' : (w : Int) = 1 := by simpa using hq
      have := h (by omega)
      have e3 : ((((c, w) : Nat × Nat).1 : Int) == 65533) = false := by rw [beq_eq_false_iff_ne]; simp; omega
      rw [e3]; rfl
  rw [e1, e2]
theorem sign_law {l : List UInt8} (hl : l ≠ []) : Agree2 (signR l) (decodeL l) l.length := by
  obtain ⟨b, r, rfl⟩ : ∃ b r, l = b :: r := by cases l with | nil => exact (hl rfl).elim | cons b r => exact ⟨b, r, rfl⟩
  have hb := b.toNat_lt
  rw [decodeL_N]
  have g0 : (b :: r).getD 0 0 = b := rfl
  rw [g0]
  have h1 := ((b :: r).getD 1 0).toNat_lt
  have h2 := ((b :: r).getD 2 0).toNat_lt
  have h3 := ((b :: r).getD 3 0).toNat_lt
  unfold signR
  simp only
  by_cases c1 : (b.toNat : Int) < 128
  · rw [if_pos c1, dec1 (by omega)]
    exact agree_good (w := 1) (fun _ => by omega) (by omega) (by simp)
  rw [if_neg c1]
  by_cases c2 : 194 ≤ (b.toNat : Int)
  · by_cases c3 : (b.toNat : Int) < 224
    · rw [if_pos ⟨c2, c3⟩, dec2 (by omega) h1]
      cases r with
      | nil => simp [signGo]; exact agree_bad
      | cons x r =>
        have hx := x.toNat_lt
        have g1 : (b :: x :: r).getD 1 0 = x := rfl
        rw [g1, signGo, if_neg (by simp)]
        simp only [contL, List.getElem?_cons_succ, List.getElem?_cons_zero]
        by_cases d1 : (x.toNat : Int) < 128 ∨ (191 : Int) < x.toNat
        · rw [if_pos d1, if_neg (by omega)]; exact agree_bad
        · rw [if_neg d1, if_pos (by simp; omega)]
          simp only
          rw [if_neg (by omega)]
          have e : ((1 : Nat) : Int) + 1 = ((2 : Nat) : Int) := rfl
          have e' : ((b.toNat : Int) - 192) * 64 + x.toNat - 128 = (((b.toNat - 192) * 64 + (x.toNat - 128) : Nat) : Int) := by omega
          rw [e, e']
          exact agree_good (by omega) (by omega) (by simp)
    · rw [if_neg (fun hq => c3 hq.2)]
      by_cases c5 : (b.toNat : Int) < 240
      · rw [if_pos ⟨by omega, c5⟩, dec3 (by omega) h1 h2]
        match r with
        | [] => simp [signGo]; exact agree_bad
        | [x] => simp [signGo]; exact agree_bad
        | x :: y :: r =>
          have hx := x.toNat_lt
          have hy := y.toNat_lt
          have g1 : (b :: x :: y :: r).getD 1 0 = x := rfl
          have g2 : (b :: x :: y :: r).getD 2 0 = y := rfl
          rw [g1, g2, signGo, if_neg (by simp)]
          rw [cont2]
          by_cases d1 : (x.toNat : Int) < 128 ∨ (191 : Int) < x.toNat
          · rw [if_pos d1, if_neg (by omega)]; exact agree_bad
          rw [if_neg d1]
          by_cases d2 : (y.toNat : Int) < 128 ∨ (191 : Int) < y.toNat
          · rw [if_pos d2, if_neg (by omega)]; exact agree_bad
          rw [if_neg d2]
          simp only
          have e' : (((b.toNat : Int) - 224) * 64 + x.toNat - 128) * 64 + y.toNat - 128 = (((b.toNat - 224) * 4096 + (x.toNat - 128) * 64 + (y.toNat - 128) : Nat) : Int) := by omega
          rw [e']
          generalize hv : (b.toNat - 224) * 4096 + (x.toNat - 128) * 64 + (y.toNat - 128) = v
          have hvb : v < 65536 := by omega
          have e : ((2 : Nat) : Int) + 1 = ((3 : Nat) : Int) := rfl
          by_cases d3 : (v : Int) < 2048 ∨ (1114111 : Int) < v ∨ ((55296 : Int) ≤ v ∧ (v : Int) < 57344)
          · rw [if_pos d3, if_neg (by omega)]; exact agree_bad
          · rw [if_neg d3, if_pos (by simp; omega), e]
            exact agree_good (by omega) (by omega) (by simp)
      · rw [if_neg (fun hq => c5 hq.2), dec4 (by omega) hb h1 h2 h3]
        by_cases c7 : (b.toNat : Int) < 245
        · rw [if_pos ⟨by omega, c7⟩]
          match r with
          | [] => simp [signGo]; exact agree_bad
          | [x] => simp [signGo]; exact agree_bad
          | [x, y] => simp [signGo]; exact agree_bad
          | x :: y :: z :: r =>
            have hx := x.toNat_lt
            have hy := y.toNat_lt
            have hz := z.toNat_lt
            have g1 : (b :: x :: y :: z :: r).getD 1 0 = x := rfl
            have g2 : (b :: x :: y :: z :: r).getD 2 0 = y := rfl
            have g3 : (b :: x :: y :: z :: r).getD 3 0 = z := rfl
            rw [g1, g2, g3, signGo, if_neg (by simp)]
            rw [cont3]
            by_cases d1 : (x.toNat : Int) < 128 ∨ (191 : Int) < x.toNat
            · rw [if_pos d1, if_neg (by omega)]; exact agree_bad
            rw [if_neg d1]
            by_cases d2 : (y.toNat : Int) < 128 ∨ (191 : Int) < y.toNat
            · rw [if_pos d2, if_neg (by omega)]; exact agree_bad
            rw [if_neg d2]
            by_cases d3 : (z.toNat : Int) < 128 ∨ (191 : Int) < z.toNat
            · rw [if_pos d3, if_neg (by omega)]; exact agree_bad
            rw [if_neg d3]
            simp only
            have e' : ((((b.toNat : Int) - 240) * 64 + x.toNat - 128) * 64 + y.toNat - 128) * 64 + z.toNat - 128 = (((b.toNat - 240) * 262144 + (x.toNat - 128) * 4096 + (y.toNat - 128) * 64 + (z.toNat - 128) : Nat) : Int) := by omega
            rw [e']
            generalize hv : (b.toNat - 240) * 262144 + (x.toNat - 128) * 4096 + (y.toNat - 128) * 64 + (z.toNat - 128) = v
            have e : ((3 : Nat) : Int) + 1 = ((4 : Nat) : Int) := rfl
            by_cases d4 : (v : Int) < 65536 ∨ (1114111 : Int) < v ∨ ((55296 : Int) ≤ v ∧ (v : Int) < 57344)
            · rw [if_pos d4, if_neg (by omega)]; exact agree_bad
            · rw [if_neg d4, if_pos (by simp; omega), e]
              exact agree_good (by omega) (by omega) (by simp)
        · rw [if_neg (fun hq => c7 hq.2), if_neg (by omega)]
          exact agree_bad
  · rw [if_neg (fun hq => c2 hq.1), if_neg (by omega), if_neg (by omega), dec_no (by omega) h1]
    exact agree_bad
end Go.Am.YtppkffebmoffnaaDoor
namespace Go.Am.YtppkffebmoffnaaDoor
set_option maxRecDepth 100000
set_option linter.unusedSimpArgs false
set_option linter.unusedVariables false
theorem runes2_loop {h : Hp} : ∀ (f : Nat) (l : List UInt8) (n : Int), l.length ≤ f → 0 ≤ n → n + f ≤ 4611686018427387904 →
    P39_0 (size h) (size h) (i64' n) (.str l) h = some (.tup [i64' (runesL f l n).1, .bool (runesL f l n).2], h)
  | f, l, n, hf, hn0, hn1 => by
    rw [P39_0_eq]
    by_cases hne : l = []
    · subst hne
      have hr : runesL f [] n = (n, true) := by cases f <;> simp [runesL]
      have hz : ((0 : Int) > 0) = False := by simp
      rw [hr]
      simp only [hz, Int.ofNat_zero, Int.natCast_zero, ↓evD, evU, evL, Nat.reduceAdd, Nat.reduceSub, Nat.reduceMul, Nat.reduceLeDiff, Nat.reduceLT, Nat.reduceEqDiff, Nat.reduceBEq, reduceIte, reduceCtorEq, Int.reduceBEq, Int.reduceEq, Int.reduceLT, Int.reduceLE, Int.reduceGT, Int.reduceGE, Int.reduceAdd, Int.reduceSub, Int.reduceNeg, Int.reduceBNe, ite_true, ite_false, if_true, if_false, implies_true, forall_const]
    · obtain ⟨f, rfl⟩ : ∃ k, f = k + 1 := by
        cases l with
        | nil => exact (hne rfl).elim
        | cons x r => exact ⟨f - 1, by simp at hf; omega⟩
      have hlen : 0 < l.length := by cases l with | nil => exact (hne rfl).elim | cons x r => simp
      have hpos : ((l.length : Int) > 0) = True := by simp; omega
      have hs : ∀ base h, _ := fun base h => sign_spec (base := base) (h := h) hne
      obtain ⟨hb, hg⟩ := sign_law hne
      have hw1 := decodeL_pos l
      have hbad : runesL (f + 1) l n = if badR (Lib.decodeL l) then (0, false) else runesL f (l.drop (Lib.decodeL l).2) (n + 1) := by
        rw [runesL, if_neg hne]
      rw [hbad]
      generalize Lib.decodeL l = d at *
      generalize signR l = s at *
      obtain ⟨a, c⟩ := s
      obtain ⟨q, w⟩ := d
      have hwr : IntKind.i64.wrap (n + 1) = n + 1 := by rw [wrap_small] <;> omega
      cases hbr : badR (q, w)
      · obtain ⟨g1, g2⟩ := hg hbr
        simp only at g1 g2 hw1
        subst g1
        rw [hbr] at hb
        simp only [badS, Bool.or_eq_false_iff] at hb
        obtain ⟨b1, b2, b3⟩ := hb
        have hbd := bdV_nat l.length .i64 w g2
        have hsl : (l.drop w).take (l.length - w) = l.drop w := List.take_of_length_le (by simp)
        have ih := runes2_loop (h := h) f (l.drop w) (n + 1) (by simp; omega) (by omega) (by omega)
        simp only [hpos, hs, b1, b2, b3, hbd, hsl, hwr, ih, ↓evD, evU, evL, Nat.reduceAdd, Nat.reduceSub, Nat.reduceMul, Nat.reduceLeDiff, Nat.reduceLT, Nat.reduceEqDiff, Nat.reduceBEq, reduceIte, reduceCtorEq, Int.reduceBEq, Int.reduceEq, Int.reduceLT, Int.reduceLE, Int.reduceGT, Int.reduceGE, Int.reduceAdd, Int.reduceSub, Int.reduceNeg, Int.reduceBNe, ite_true, ite_false, if_true, if_false, implies_true, forall_const]
      · rw [hbr] at hb
        cases b1 : (a == 0) <;> cases b2 : decide (c < 32) <;> cases b3 : (c == 127) <;> first
          | (simp only [hpos, hs, b1, b2, b3, ↓evD, evU, evL, Nat.reduceAdd, Nat.reduceSub, Nat.reduceMul, Nat.reduceLeDiff, Nat.reduceLT, Nat.reduceEqDiff, Nat.reduceBEq, reduceIte, reduceCtorEq, Int.reduceBEq, Int.reduceEq, Int.reduceLT, Int.reduceLE, Int.reduceGT, Int.reduceGE, Int.reduceAdd, Int.reduceSub, Int.reduceNeg, Int.reduceBNe, ite_true, ite_false, if_true, if_false, implies_true, forall_const]; done)
          | (simp [badS, b1, b2, b3] at hb)
theorem runes2_spec {base : Nat} {h : Hp} {s : List UInt8} (hs : s.length ≤ 1000000) : CallA T base 39 [.str s] h = some (.tup [i64' (runesG s).1, .bool (runesG s).2], h) := by
  rw [S39]
  exact runes2_loop (h := h) s.length s 0 (Nat.le_refl _) (by omega) (by omega)
end Go.Am.YtppkffebmoffnaaDoor
namespace Go.Am.YtppkffebmoffnaaDoor
set_option maxRecDepth 100000
set_option linter.unusedSimpArgs false
set_option linter.unusedVariables false
theorem runesE {s : List UInt8} (hs : s.length ≤ 1000000) : ∀ base h, CallA T base 49 [.str s] h = some (.tup [i64 (runesG s).1, .bool (runesG s).2], h) := fun base h => runes_spec (by omega)
theorem runesE2 {s : List UInt8} (hs : s.length ≤ 1000000) : ∀ base h, CallA T base 39 [.str s] h = some (.tup [i64 (runesG s).1, .bool (runesG s).2], h) := fun base h => runes2_spec hs
/-- encode of any bytes. -/
theorem encode_bv {b : PV} {l : List UInt8} (hb : Bv b l) (hl : l.length ≤ 1000000) : ∀ base h, CallA T base 44 [b] h = some (.str (encL l), h) := by
  intro base h
  rcases hb with ⟨rfl, rfl⟩ | rfl | rfl
  · exact encode_nil
  · exact encode_spec _ l hl
  · exact encode_spec _ l hl
theorem writeP_spec {base : Nat} {h : Hp} (k n : Int) (s : List UInt8) {b : PV} {l : List UInt8} (o i : Int) (hb : Bv b l) (hl : l.length ≤ 1000000) (hs : s.length ≤ 1000000) (hn : in64 n) (ho : in64 o) (hi : in64 i) :
    CallA T base 26 [val k n s b o i] h = some (.tup [.str (writeG k n s l.length o i (runesG s).2 (encL l)).1, i64 (writeG k n s l.length o i (runesG s).2 (encL l)).2], h) :=
  write_spec (base := base) (h := h) k n s b o i (bv_bs hb) hb.len (runesE hs) hn ho hi (fun _ => encode_bv hb hl)
theorem rightP_spec {base : Nat} {h : Hp} (k n : Int) (s : List UInt8) {b : PV} {l : List UInt8} (o i : Int) (hb : Bv b l) (hs : s.length ≤ 1000000) :
    CallA T base 43 [val k n s b o i] h = some (.bool (rightG k n s l.length o i (runesG s).2), h) :=
  right_spec (base := base) (h := h) k n s b o i (bv_bs hb) hb.len (runesE hs)
end Go.Am.YtppkffebmoffnaaDoor
