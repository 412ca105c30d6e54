/- 'Am': each operation of the program does what the machine's does.
   By the session's AI agent. -/
import Derived.Test.YtlmfmjmpfcaliaaAm5
namespace Go.Am
open Go.RowKit (Below)
set_option linter.unusedVariables false
set_option linter.unusedSimpArgs false

section
variable {N0 : Nat} {P : Program} {w0 : World} {g : G} {e : Env} {a : Act} {h : Hp} {w : World}

/-! ### Operands -/
mutual
theorem rv_const : ∀ (v : Value) (x : PV), ofValue v = some x → RV N0 g w x v
  | .bool b, x, hx => by simp [ofValue] at hx; subst hx; exact .bool b
  | .int k n, x, hx => by simp [ofValue] at hx; subst hx; exact .int k n
  | .string s, x, hx => by simp [ofValue] at hx; subst hx; exact .str _ s (by simp)
  | .pointer none, x, hx => by simp [ofValue] at hx; subst hx; exact .nilp
  | .slice none 0 0, x, hx => by simp [ofValue] at hx; subst hx; exact .nils
  | .nilIface, x, hx => by simp [ofValue] at hx; subst hx; exact .nilif
  | .nilFunc, x, hx => by simp [ofValue] at hx; subst hx; exact .nilf
  | .agg cs, x, hx => by
    simp only [ofValue, Option.map_eq_some_iff] at hx
    obtain ⟨l, hl, rfl⟩ := hx
    obtain ⟨h1, h2⟩ := rv_cells_const cs.toList l hl
    refine .agg l cs (by simpa using h1) fun j y hy => ?_
    have := h2 j y hy
    simpa [Array.getD_eq_getD_getElem?, List.getD_eq_getElem?_getD] using this
  | .pointer (some _), x, hx => by simp [ofValue] at hx
  | .slice (some _) _ _, x, hx => by simp [ofValue] at hx
  | .slice none 0 (_ + 1), x, hx => by simp [ofValue] at hx
  | .slice none (_ + 1) _, x, hx => by simp [ofValue] at hx
  | .float _ _, x, hx => by simp [ofValue] at hx
  | .complex _ _ _, x, hx => by simp [ofValue] at hx
  | .map _, x, hx => by simp [ofValue] at hx
  | .chan _, x, hx => by simp [ofValue] at hx
  | .func _ _ _, x, hx => by simp [ofValue] at hx
  | .iface _ _, x, hx => by simp [ofValue] at hx
  | .tuple _, x, hx => by simp [ofValue] at hx
theorem rv_cells_const : ∀ (vs : List Value) (l : List PV), ofCells vs = some l → vs.length = l.length ∧ ∀ (j : Nat) (y : PV), l[j]? = some y → RV N0 g w y (vs.getD j Go.undef)
  | [], l, hl => by simp [ofCells] at hl; subst hl; exact ⟨rfl, fun j y hy => by simp at hy⟩
  | v :: vs, l, hl => by
    have key : ∀ (x : PV), RV N0 g w x v → (∃ l', ofCells vs = some l' ∧ l = x :: l') → (v :: vs).length = l.length ∧ ∀ (j : Nat) (y : PV), l[j]? = some y → RV N0 g w y ((v :: vs).getD j Go.undef) := by
      rintro x hx ⟨l', h1, rfl⟩
      obtain ⟨h2, h3⟩ := rv_cells_const vs l' h1
      refine ⟨by simp [h2], fun j y hy => ?_⟩
      cases j with
      | zero => simp at hy; subst hy; simpa using hx
      | succ j => simpa using h3 j y (by simpa using hy)
    unfold ofCells at hl
    split at hl
    · cases ‹_ :: _ = _›
    · rename_i b r heq; cases heq; simp only [Option.map_eq_some_iff] at hl; obtain ⟨l', h1, rfl⟩ := hl; exact key _ (.bool b) ⟨l', h1, rfl⟩
    · rename_i k n r heq; cases heq; simp only [Option.map_eq_some_iff] at hl; obtain ⟨l', h1, rfl⟩ := hl; exact key _ (.int k n) ⟨l', h1, rfl⟩
    · rename_i s r heq; cases heq; simp only [Option.map_eq_some_iff] at hl; obtain ⟨l', h1, rfl⟩ := hl; exact key _ (.str _ s rfl) ⟨l', h1, rfl⟩
    · rename_i r heq; cases heq; simp only [Option.map_eq_some_iff] at hl; obtain ⟨l', h1, rfl⟩ := hl; exact key _ .nilp ⟨l', h1, rfl⟩
    · rename_i r heq; cases heq; simp only [Option.map_eq_some_iff] at hl; obtain ⟨l', h1, rfl⟩ := hl; exact key _ .nils ⟨l', h1, rfl⟩
    · rename_i r heq; cases heq; simp only [Option.map_eq_some_iff] at hl; obtain ⟨l', h1, rfl⟩ := hl; exact key _ .nilif ⟨l', h1, rfl⟩
    · rename_i r heq; cases heq; simp only [Option.map_eq_some_iff] at hl; obtain ⟨l', h1, rfl⟩ := hl; exact key _ .nilf ⟨l', h1, rfl⟩
    · cases hl
end

theorem rv_ev (k : Ok (N0 := N0) w0 g e a.tmps h w) {o : Operand} {x : Opnd} {v : PV} (ho : cOpnd o = some x) (hv : ev e x = some v) : RV N0 g w v (a.eval o) := by
  cases o with
  | tmp t => simp [cOpnd] at ho; subst ho; exact k.env t v hv
  | const c =>
    simp only [cOpnd, Option.map_eq_some_iff] at ho
    obtain ⟨y, hy, rfl⟩ := ho
    simp [ev] at hv; subst hv
    exact rv_const c y hy
  | func f =>
    simp [cOpnd] at ho; subst ho
    simp [ev] at hv; subst hv
    exact .fn f [] #[] rfl (fun j x hx => by simp at hx)
  | global n => simp [cOpnd] at ho

/-! ### What an operation leaves -/
/-- The operation's code runs to a value (or to none) that stands for v; the state behind it is e', h'. -/
def Gives (N0 : Nat) (P : Program) (w0 : World) (g : G) (a : Act) (w : World) (s : Sem Next) (v : PV) (e' : Env) (h' : Hp) : Prop :=
  ∃ nx u w' g', s.run P w = .ok nx w' ∧ (nx = .value u ∨ (nx = .skip ∧ u = Go.undef)) ∧ Ext N0 g w g' w' ∧ Ok (N0 := N0) w0 g' e' a.tmps h' w' ∧ RV N0 g' w' v u

theorem gives_pure (k : Ok (N0 := N0) w0 g e a.tmps h w) {v : PV} {u : Value} {s : Sem Next} (hs : s.run P w = .ok (.value u) w) (hr : RV N0 g w v u) :
    Gives N0 P w0 g a w s v e h := ⟨_, u, w, g, hs, .inl rfl, Ext.refl _ _ _, k, hr⟩

/-- A new block of cells. -/
theorem ok_alloc (k : Ok (N0 := N0) w0 g e a.tmps h w) (us : Array Value) (T : TypeId) (cs : List PV) (hl : cs.length ≤ us.size)
    (hr : ∀ (j : Nat) (x : PV), cs[j]? = some x → RV N0 g w x (us.getD j Go.undef)) :
    ∃ g', Ext N0 g w g' (w.alloc (.cells us T)) ∧ Ok (N0 := N0) w0 g' e a.tmps (ext h [cs]) (w.alloc (.cells us T)) ∧ g'.n = size h + 1 ∧ g'.ι (size h) = w.heap.size := by
  have hN := (ok_size k)
  have hlt : ∀ b, b < g.n → g.ι b < w.heap.size := by
    intro b hb
    have hb' : b < size h := by rw [← k.n]; exact hb
    obtain ⟨cs', hcs⟩ : ∃ cs, getBox h b = some cs := ⟨h[b], List.getElem?_eq_getElem hb'⟩
    obtain ⟨_, _, arr, T, h3, _⟩ := k.box b cs' hcs
    rcases Nat.lt_or_ge (g.ι b) w.heap.size with h' | h'
    · exact h'
    · rw [Array.getElem?_eq_none h'] at h3; cases h3
  let g' : G := { ι := fun b => if b = size h then w.heap.size else g.ι b, n := size h + 1, hw := g.hw }
  have hx : Ext N0 g w g' (w.alloc (.cells us T)) := by
    refine ⟨by show g.n ≤ size h + 1; rw [k.n]; omega, fun b hb => ?_, fun c m hm => ⟨m, hm, Nat.le_refl _⟩, fun c m o hm ho => ?_, fun c o hc => ?_⟩
    · show (if b = size h then _ else _) = _
      rw [if_neg (by rw [k.n] at hb; omega)]
    · exact World.cell?_alloc_lt _ _ _ (k.arr c m hm).2
    · exact World.cell?_alloc_lt _ _ _ (by show c < _; omega)
  refine ⟨g', hx, ?_, rfl, by show (if size h = size h then _ else _) = _; rw [if_pos rfl]⟩
  have hblk : ∀ b, b < g.n → (w.alloc (.cells us T)).heap[g.ι b]? = w.heap[g.ι b]? := fun b hb => Below.heap_alloc _ _ _ (hlt b hb)
  refine { n := by show size h + 1 = size (ext h [cs]); rw [size_ext]; rfl, hN := k.hN, below := k.below.alloc hN _, inj := ?_, box := ?_, arr := ?_, env := ?_ }
  · intro b c hb hc he
    have hb' : b < size h + 1 := hb
    have hc' : c < size h + 1 := hc
    have he' : (if b = size h then w.heap.size else g.ι b) = (if c = size h then w.heap.size else g.ι c) := he
    have hn := k.n
    by_cases h1 : b = size h <;> by_cases h2 : c = size h
    · rw [h1, h2]
    · rw [if_pos h1, if_neg h2] at he'; have := hlt c (by omega); omega
    · rw [if_neg h1, if_pos h2] at he'; have := hlt b (by omega); omega
    · rw [if_neg h1, if_neg h2] at he'; exact k.inj b c (by omega) (by omega) he'
  · intro b cs' hcs
    have hb : b < size h + 1 := by have := lt_of_getBox hcs; rw [size_ext] at this; simpa using this
    by_cases h1 : b = size h
    · subst h1
      rw [getBox_ext_0] at hcs
      simp only [Option.some.injEq] at hcs
      subst hcs
      have hι : g'.ι (size h) = w.heap.size := by show (if size h = size h then _ else _) = _; rw [if_pos rfl]
      rw [hι]
      refine ⟨hN, ?_, us, T, ?_, hl, fun j x hx' => (hr j x hx').mono hx⟩
      · show g.hw w.heap.size = none
        cases hq : g.hw w.heap.size with
        | none => rfl
        | some m => have := (k.arr _ _ hq).2; omega
      · show (w.heap.push _)[w.heap.size]? = _
        simp
    · have hb2 : b < size h := by omega
      rw [getBox_ext_lt hb2] at hcs
      obtain ⟨q1, q2, arr, T', q3, q4, q5⟩ := k.box b cs' hcs
      have hι : g'.ι b = g.ι b := by show (if b = size h then _ else _) = _; rw [if_neg h1]
      rw [hι]
      exact ⟨q1, q2, arr, T', by rw [hblk b (by rw [k.n]; exact hb2)]; exact q3, q4, fun j x hx' => (q5 j x hx').mono hx⟩
  · intro c m hm
    have := k.arr c m hm
    exact ⟨this.1, by simp; omega⟩
  · intro t v hv
    exact (k.env t v hv).mono hx

/-- A new block that is fixed at once: an array of the call's own. -/
theorem ok_fixed (k : Ok (N0 := N0) w0 g e a.tmps h w) (us : Array Value) (T : TypeId) (m : Nat) (w1 : World) (hw1 : w1 = w.alloc (.cells us T) ∨ w1 = w.drew.alloc (.cells us T)) :
    ∃ g', Ext N0 g w g' w1 ∧ Ok (N0 := N0) w0 g' e a.tmps h w1 ∧ g'.hw w.heap.size = some m := by
  have hN := (ok_size k)
  have hlt : ∀ b, b < g.n → g.ι b < w.heap.size := by
    intro b hb
    have hb' : b < size h := by rw [← k.n]; exact hb
    obtain ⟨cs', hcs⟩ : ∃ cs, getBox h b = some cs := ⟨h[b], List.getElem?_eq_getElem hb'⟩
    obtain ⟨_, _, arr, T, h3, _⟩ := k.box b cs' hcs
    rcases Nat.lt_or_ge (g.ι b) w.heap.size with h' | h'
    · exact h'
    · rw [Array.getElem?_eq_none h'] at h3; cases h3
  have hsz : w1.heap.size = w.heap.size + 1 := by rcases hw1 with rfl | rfl <;> simp
  have hcell : ∀ c o, c < w.heap.size → w1.cell? ⟨c, o, none⟩ = w.cell? ⟨c, o, none⟩ := by
    intro c o hc
    rcases hw1 with rfl | rfl
    · exact World.cell?_alloc_lt _ _ _ hc
    · exact World.cell?_alloc_lt w.drew _ _ hc
  have hblk : ∀ c, c < w.heap.size → w1.heap[c]? = w.heap[c]? := by
    intro c hc
    rcases hw1 with rfl | rfl
    · exact Below.heap_alloc _ _ _ hc
    · exact Below.heap_alloc w.drew _ _ hc
  have hbel : Below N0 w w1 := by
    rcases hw1 with rfl | rfl
    · exact (Below.refl _ _).alloc hN _
    · exact ((Below.refl _ _).drew).alloc hN _
  let g' : G := { ι := g.ι, n := g.n, hw := fun c => if c = w.heap.size then some m else g.hw c }
  have hnew : g.hw w.heap.size = none := by
    cases hq : g.hw w.heap.size with
    | none => rfl
    | some m => have := (k.arr _ _ hq).2; omega
  have hx : Ext N0 g w g' w1 := by
    refine ⟨Nat.le_refl _, fun b hb => rfl, fun c m' hm => ⟨m', ?_, Nat.le_refl _⟩, fun c m' o hm ho => ?_, fun c o hc => hcell c o (by omega)⟩
    · show (if c = w.heap.size then some m else g.hw c) = some m'
      rw [if_neg]; exact hm
      intro hc; rw [hc, hnew] at hm; cases hm
    · exact hcell c o (k.arr c m' hm).2
  refine ⟨g', hx, k.world hx rfl hbel (fun b hb => hblk _ (hlt b hb)) ?_ ?_, by show (if _ = _ then _ else _) = _; rw [if_pos rfl]⟩
  · intro b hb
    show (if g.ι b = w.heap.size then some m else g.hw (g.ι b)) = none
    rw [if_neg (by have := hlt b hb; omega)]
    have hb' : b < size h := by rw [← k.n]; exact hb
    obtain ⟨cs', hcs⟩ : ∃ cs, getBox h b = some cs := ⟨h[b], List.getElem?_eq_getElem hb'⟩
    exact (k.box b cs' hcs).2.1
  · intro c m' hm
    have hm' : (if c = w.heap.size then some m else g.hw c) = some m' := hm
    split at hm'
    · rename_i hc; subst hc; exact ⟨hN, by omega⟩
    · have := k.arr c m' hm'; exact ⟨this.1, by omega⟩

/-- A cell of a box is written. -/
theorem ok_write (k : Ok (N0 := N0) w0 g e a.tmps h w) {b : Nat} {cs : Box} (hb : getBox h b = some cs) {off : Nat} (ho : off < cs.length) {v : PV} {u : Value} (hv : RV N0 g w v u) :
    ∃ x, w.cell? ⟨g.ι b, off, none⟩ = some x ∧ w.frozen? ⟨g.ι b, off, none⟩ = false ∧
      Ext N0 g w g (w.setCell ⟨g.ι b, off, none⟩ u) ∧ Ok (N0 := N0) w0 g e a.tmps (setBox h b (cs.set off v)) (w.setCell ⟨g.ι b, off, none⟩ u) := by
  have hlt : b < size h := lt_of_getBox hb
  have hn := k.n
  obtain ⟨q1, q2, arr, T, q3, q4, q5⟩ := k.box b cs hb
  have hoff : off < arr.size := by omega
  have hother : ∀ c o, c ≠ g.ι b → (w.setCell ⟨g.ι b, off, none⟩ u).cell? ⟨c, o, none⟩ = w.cell? ⟨c, o, none⟩ :=
    fun c o hc => World.cell?_setCell_other _ _ _ _ (by intro hq; cases hq; exact hc rfl)
  have hx : Ext N0 g w g (w.setCell ⟨g.ι b, off, none⟩ u) := by
    refine ⟨Nat.le_refl _, fun _ _ => rfl, fun c m hm => ⟨m, hm, Nat.le_refl _⟩, fun c m o hm _ => hother c o ?_, fun c o hc => hother c o (by omega)⟩
    intro hc; rw [hc, q2] at hm; cases hm
  refine ⟨arr[off], ?_, ?_, hx, ?_⟩
  · simp [World.cell?, q3, hoff]
  · simp only [World.frozen?, q3, decide_eq_false_iff_not, Bool.and_eq_false_iff]; right; omega
  refine { n := by rw [size_setBox]; exact hn, hN := k.hN, below := k.below.setCell q1 _, inj := k.inj, box := ?_, arr := ?_, env := fun t x hx' => (k.env t x hx').mono hx }
  · intro c cs' hcs
    by_cases hbc : c = b
    · subst hbc
      rw [getBox_set_eq hb] at hcs
      simp only [Option.some.injEq] at hcs
      subst hcs
      refine ⟨q1, q2, arr.setIfInBounds off u, T, ?_, by simpa using q4, fun j x hj => ?_⟩
      · simp only [World.setCell, Array.getElem?_modify, if_true, q3, Option.map_some, Option.isSome_none, Bool.false_eq_true, if_false]
      · by_cases hjo : off = j
        · subst hjo
          rw [List.getElem?_set_self ho] at hj
          simp only [Option.some.injEq] at hj
          subst hj
          simpa [Array.getD_eq_getD_getElem?, hoff] using hv.mono hx
        · rw [List.getElem?_set_ne hjo] at hj
          simpa [Array.getD_eq_getD_getElem?, Array.getElem?_setIfInBounds, hjo] using (q5 j x hj).mono hx
    · rw [getBox_set_ne (fun hq => hbc hq.symm)] at hcs
      obtain ⟨r1, r2, arr', T', r3, r4, r5⟩ := k.box c cs' hcs
      have hne : g.ι c ≠ g.ι b := fun hq => hbc (k.inj c b (by rw [hn]; exact lt_of_getBox hcs) (by rw [hn]; exact hlt) hq)
      exact ⟨r1, r2, arr', T', by rw [Below.heap_setCell _ _ _ _ hne]; exact r3, r4, fun j x hj => (r5 j x hj).mono hx⟩
  · intro c m hm
    have := k.arr c m hm
    exact ⟨this.1, by simp; exact this.2⟩

end
end Go.Am
