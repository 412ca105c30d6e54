/- 'Am': the operations, one by one.
   By the session's AI agent. -/
import Derived.Test.YthhceeaconflnaaDoorAm6
namespace Go.Am
open Go.RowKit (Below)
set_option linter.unusedVariables false
set_option linter.unusedSectionVars false
set_option linter.unusedSimpArgs false

section
variable {N0 : Nat} {P : Program} {w0 : World} {g : G} {e : Env} {a : Act} {h : Hp} {w : World}

theorem run_isAgg' {t : TypeId} {b : Bool} (hb : aggOf P t = some b) (w : World) : (isAgg t).run P w = .ok b w := by
  unfold aggOf at hb
  cases hu : P.underlying t with
  | none => simp [hu] at hb
  | some d =>
    simp only [hu] at hb
    unfold isAgg
    simp only [Sem.run_bind, run_underlying hu, Result.andThen]
    cases d <;> simp_all

theorem run_sizeOf' {t : TypeId} {n : Nat} (hn : sizeOf P t = some n) (w : World) : (Go.sizeOf t).run P w = .ok n w := by
  simp only [sizeOf, Option.map_eq_some_iff] at hn
  obtain ⟨i, hi, rfl⟩ := hn
  simp [Go.sizeOf, typeInfo, hi]

theorem add_addr (c o j : Nat) : (⟨c, o, none⟩ : Addr).add j = ⟨c, o + j, none⟩ := by
  unfold Addr.add
  split
  · rename_i hj; subst hj; rfl
  · rfl

theorem box_cell (k : Ok (N0 := N0) w0 g e a.tmps h w) {b : Nat} {cs : List PV} (hb : getBox h b = some cs) : ∃ u : Nat → Value,
    (∀ j, j < cs.length → w.cell? ⟨g.ι b, j, none⟩ = some (u j)) ∧ (∀ (j : Nat) (x : PV), cs[j]? = some x → RV N0 g w x (u j)) := by
  obtain ⟨q1, q2, arr, T, lo, hi, q3, q6, q4, q8, q5⟩ := k.cells hb
  refine ⟨fun j => arr.getD j Go.undef, fun j hj => ?_, q5⟩
  have : j < arr.size := by omega
  simp [World.cell?, q3, Array.getD_eq_getD_getElem?, this]

/-- Cells that lie in a row, read as a variable. -/
theorem load_row {t : TypeId} {n : Nat} {gg : Bool} (hn : sizeOf P t = some n) (hg : aggOf P t = some gg) {c o : Nat} {cs : List PV} {off : Nat} {u : Nat → Value}
    (hc : ∀ j, j < cs.length → w.cell? ⟨c, o + j, none⟩ = some (u j)) (hr : ∀ (j : Nat) (x : PV), cs[j]? = some x → RV N0 g w x (u j)) {r : PV}
    (hp : part cs off (if gg then n else 1) gg = some r) : ∃ v, (loadVar t ⟨c, o + off, none⟩).run P w = .ok v w ∧ RV N0 g w r v := by
  unfold loadVar
  simp only [Sem.run_bind, run_isAgg' hg, Result.andThen]
  cases gg with
  | true =>
    simp only [if_true, part] at hp ⊢
    split at hp
    · rename_i hle
      simp only [Option.some.injEq] at hp
      subst hp
      have hl := run_loadCells (P := P) w ⟨c, o + off, none⟩ n (fun j => u (off + j)) (fun j hj => by
        rw [add_addr, show o + off + j = o + (off + j) by omega]; exact hc _ (by omega))
      simp only [Sem.run_bind, run_sizeOf' hn, Result.andThen, hl]
      refine ⟨.agg ((List.range n).map fun j => u (off + j)).toArray, by simp, .agg _ _ (by simp; omega) fun j x hx => ?_⟩
      have hy := hx
      have hj : j < n := by
        rcases Nat.lt_or_ge j n with h' | h'
        · exact h'
        · rw [List.getElem?_eq_none (by simp; omega)] at hy; cases hy
      rw [List.getElem?_take, if_pos hj, List.getElem?_drop] at hy
      have := hr _ _ hy
      simpa [Array.getD_eq_getD_getElem?, hj] using this
    · cases hp
  | false =>
    simp only [Bool.false_eq_true, if_false, part] at hp ⊢
    have hy := hp
    have hlt : off < cs.length := by
      rcases Nat.lt_or_ge off cs.length with h' | h'
      · exact h'
      · rw [List.getElem?_eq_none h'] at hy; cases hy
    exact ⟨u off, by simp [run_load, hc off hlt], hr _ _ hy⟩

theorem load_row1 {t : TypeId} {n m : Nat} {gg : Bool} (hn : sizeOf P t = some n) (hg : aggOf P t = some gg) {c o : Nat} {cs : List PV} {off : Nat} {u : Nat → Value}
    (hc : ∀ j, j < cs.length → w.cell? ⟨c, o + j, none⟩ = some (u j)) (hr : ∀ (j : Nat) (x : PV), cs[j]? = some x → RV N0 g w x (u j)) {r : PV} (hm : gg = true → m = n)
    (hp : part cs off m gg = some r) : ∃ v, (loadVar t ⟨c, o + off, none⟩).run P w = .ok v w ∧ RV N0 g w r v := by
  refine load_row hn hg hc hr ?_
  cases gg with
  | true => rw [hm rfl] at hp; simpa using hp
  | false => simpa [part] using hp

/-- A row of cells is written into a box. -/
theorem store_row {b : Nat} {off : Nat} : ∀ (us : List Value) (xs : List PV) (i : Nat) (h : Hp) (w : World) (cs : List PV), Ok (N0 := N0) w0 g e a.tmps h w → getBox h b = some cs →
    us.length = xs.length → off + i + xs.length ≤ cs.length → xs.all scalar = true → (∀ (j : Nat) (x : PV), xs[j]? = some x → RV N0 g w x (us.getD j Go.undef)) →
    ∃ w', (storeCells ⟨g.ι b, off, none⟩ us i).run P w = .ok () w' ∧ Ext N0 g w g w' ∧ Ok (N0 := N0) w0 g e a.tmps (setBox h b (setRange cs (off + i) xs)) w'
  | [], xs, i, h, w, cs, k, hb, hl, _, _, _ => by
    have : xs = [] := by cases xs; rfl; simp at hl
    subst this
    refine ⟨w, by simp [storeCells], Ext.refl _ _ _, ?_⟩
    simpa [setRange, setBox_self hb] using k
  | u :: us, [], i, h, w, cs, k, hb, hl, _, _, _ => by simp at hl
  | u :: us, x :: xs, i, h, w, cs, k, hb, hl, hle, hsc, hr => by
    simp only [List.length_cons] at hl hle
    have hx := hr 0 x rfl
    simp only [List.getD_cons_zero] at hx
    obtain ⟨old, ho, hfz, hext, hok⟩ := ok_write k hb (off := off + i) (by omega) hx (fun T hq => by subst hq; simp [scalar] at hsc)
    simp only [List.all_cons, Bool.and_eq_true] at hsc
    obtain ⟨w', hrun, hext', hok'⟩ := store_row (b := b) (off := off) us xs (i + 1) _ _ (cs.set (off + i) x) hok (getBox_set_eq hb) (by omega) (by rw [List.length_set]; omega) hsc.2
      (fun j y hy => (hr (j + 1) y (by simpa using hy)).mono hext)
    refine ⟨w', ?_, hext.trans hext', ?_⟩
    · have hst : ∀ (v : Value), (∀ c, v ≠ .agg c) → (∀ c, v ≠ .tuple c) → v = u → (store (⟨g.ι b, off + i, none⟩ : Addr) v).run P w = .ok () (w.setCell ⟨g.ι b, off + i, none⟩ v) := by
        intro v h1 h2 hv
        cases v with
        | agg c => exact (h1 c rfl).elim
        | tuple c => exact (h2 c rfl).elim
        | _ => simp [store, Sem.run, ho, hfz]
      have hna : (∀ c, u ≠ .agg c) ∧ (∀ c, u ≠ .tuple c) := by
        cases hx <;> simp_all [scalar]
      simp only [storeCells, add_addr, Sem.run_bind, hst u hna.1 hna.2 rfl, Result.andThen]
      exact hrun
    · rw [setBox_setBox] at hok'
      simpa [setRange, Nat.add_assoc] using hok'

theorem rv_scalar_not {v : PV} {u : Value} (hv : RV N0 g w v u) (hs : scalar v = true) : v ≠ .undef := by rintro rfl; simp [scalar] at hs

section ops
variable {o : Oper} {md : Nat} {orc : Orc} {base : Nat} {draw : Bool} {aop : AOp} {v : PV} {e' : Env} {h' : Hp} {gl : Globs} (hgl : GlobOk gl N0 w0)
include hgl

theorem g_mov (k : Ok (N0 := N0) w0 g e a.tmps h w) {x : Operand} (ho : o.op = .move x ∨ o.op = .assign x) (hc : cOp P gl md o = some aop)
    (hs : step orc base draw aop e h = some (v, e', h')) : Gives N0 P w0 g a w (execOp a.eval o) v e' h' := by
  have hc' : (cOpnd gl x).map .mov = some aop := by rcases ho with ho | ho <;> simpa [cOp, ho] using hc
  simp only [Option.map_eq_some_iff] at hc'
  obtain ⟨x', hx, rfl⟩ := hc'
  simp only [step, Option.bnd_eq_some_iff, Option.some.injEq, Prod.mk.injEq] at hs
  obtain ⟨y, hy, rfl, rfl, rfl⟩ := hs
  refine gives_pure k ?_ ((rv_ev hgl k hx hy))
  rcases ho with ho | ho <;> simp [execOp, ho]

omit hgl in
theorem rv_bool {v : Bool} {u : Value} (hv : RV N0 g w (.bool v) u) : u = .bool v := by cases hv; rfl
omit hgl in
theorem rv_int {j : IntKind} {v : Int} {u : Value} (hv : RV N0 g w (.int j v) u) : u = .int j v := by cases hv; rfl

theorem g_pick (k : Ok (N0 := N0) w0 g e a.tmps h w) {c x y : Operand} (ho : o.op = .pick c x y) (hc : cOp P gl md o = some aop)
    (hs : step orc base draw aop e h = some (v, e', h')) : Gives N0 P w0 g a w (execOp a.eval o) v e' h' := by
  simp only [cOp, ho, Option.bind_eq_some_iff, Option.map_eq_some_iff] at hc
  obtain ⟨c', hc, x', hx, y', hy, rfl⟩ := hc
  simp only [step, Option.bnd_eq_some_iff] at hs
  obtain ⟨z, hz, hs⟩ := hs
  rw [condB_some] at hs
  rcases hs with ⟨rfl, hs⟩ | ⟨rfl, hs⟩
  · simp only [Option.bnd_eq_some_iff, Option.some.injEq, Prod.mk.injEq] at hs
    obtain ⟨r, hr, rfl, rfl, rfl⟩ := hs
    refine gives_pure k ?_ ((rv_ev hgl k hx hr))
    simp [execOp, ho, rv_bool (rv_ev hgl k hc hz), asBool]
  · simp only [Option.bnd_eq_some_iff, Option.some.injEq, Prod.mk.injEq] at hs
    obtain ⟨r, hr, rfl, rfl, rfl⟩ := hs
    refine gives_pure k ?_ ((rv_ev hgl k hy hr))
    simp [execOp, ho, rv_bool (rv_ev hgl k hc hz), asBool]

omit hgl in
theorem ofValue_ne (v : Value) (h : ofValue v = some .undef) : False := by
  unfold ofValue at h
  split at h <;> simp_all
omit hgl in
theorem rv_zero {t : TypeId} {z : List PV} (hz : zeroOf P t = some z) : ∃ i u, P.info? t = some i ∧ i.zero = some u ∧ u.cells.size = z.length ∧ ∀ (g : G) (w : World) (j : Nat) (x : PV), z[j]? = some x → RV N0 g w x (u.cells.getD j Go.undef) := by
  unfold zeroOf at hz
  simp only [Option.bind_eq_some_iff, Option.map_eq_some_iff] at hz
  obtain ⟨u, ⟨i, hi, hu⟩, x, hx, rfl⟩ := hz
  refine ⟨i, u, hi, hu, ?_⟩
  have hne : x ≠ .undef := by rintro rfl; exact ofValue_ne u hx
  refine ⟨(rv_cells (rv_const (N0 := N0) (g := { ι := id, n := 0, hw := fun _ => none }) (w := default) u x hx) hne).1, fun g w => (rv_cells (rv_const u x hx) hne).2⟩

omit hgl in
theorem zero_nb {t : TypeId} {z : List PV} (hz : zeroOf P t = some z) (j T : Nat) : z[j]? ≠ some (.bnil T) := by
  unfold zeroOf at hz
  simp only [Option.bind_eq_some_iff, Option.map_eq_some_iff] at hz
  obtain ⟨u, _, x, hx, rfl⟩ := hz
  exact ofValue_nb hx j T

omit hgl in
theorem run_zero {t : TypeId} {i : TypeInfo} {u : Value} (hi : P.info? t = some i) (hu : i.zero = some u) (w : World) : (zeroValue t).run P w = .ok u w := by
  simp [zeroValue, typeInfo, hi, hu]

theorem g_alloc (k : Ok (N0 := N0) w0 g e a.tmps h w) {t : TypeId} (ho : o.op = .alloc t) (hc : cOp P gl md o = some aop)
    (hs : step orc base draw aop e h = some (v, e', h')) : Gives N0 P w0 g a w (execOp a.eval o) v e' h' := by
  simp only [cOp, ho, Option.map_eq_some_iff] at hc
  obtain ⟨z, hz, rfl⟩ := hc
  simp only [step, Option.some.injEq, Prod.mk.injEq] at hs
  obtain ⟨rfl, rfl, rfl⟩ := hs
  obtain ⟨i, u, hi, hu, hsz, hrv⟩ := rv_zero (N0 := N0) hz
  have hnb := zero_nb hz
  have hbz : (if isBld P t = true then bldZ t z else z).length = z.length ∧ (∀ (j : Nat) (x : PV), (if isBld P t = true then bldZ t z else z)[j]? = some x → RV N0 g w x (u.cells.getD j Go.undef)) ∧
      ∀ T', (if isBld P t = true then bldZ t z else z)[0]? = some (.bnil T') → T' = t ∧ u.cells.size = (if isBld P t = true then bldZ t z else z).length := by
    have old : z.length = z.length ∧ (∀ (j : Nat) (x : PV), z[j]? = some x → RV N0 g w x (u.cells.getD j Go.undef)) ∧ ∀ T', z[0]? = some (.bnil T') → T' = t ∧ u.cells.size = z.length :=
      ⟨rfl, hrv g w, fun T' hT => (hnb 0 T' hT).elim⟩
    split
    · unfold bldZ
      split
      · refine ⟨rfl, fun j x hx => ?_, fun T' hT => ?_⟩
        · have h0 := hrv g w
          match j, hx with
          | 0, hx =>
            have := h0 0 .nilp rfl
            simp only [List.getElem?_cons_zero, Option.some.injEq] at hx
            subst hx
            generalize u.cells.getD 0 Go.undef = U at this ⊢
            cases this
            exact .bnil _
          | j + 1, hx => exact h0 (j + 1) x (by simpa using hx)
        · simp at hT
          exact ⟨hT.symm, hsz⟩
      · exact old
    · exact old
  generalize (if isBld P t = true then bldZ t z else z) = zz at *
  obtain ⟨g', hx, hok, hn, hι⟩ := ok_alloc k u.cells t zz (by omega) hbz.2.1 hbz.2.2 (lo := 0) (hi := 0) (by simp) (.inl rfl)
  refine ⟨_, .pointer (some ⟨w.heap.size, 0, none⟩), _, g', ?_, .inl rfl, hx, hok, ?_⟩
  · simp [execOp, ho, Instr.alloc, run_zero hi hu, newVar, newRow]
  · rw [← hι]; exact .ptr _ _ (by omega)

theorem g_box (k : Ok (N0 := N0) w0 g e a.tmps h w) {t : TypeId} {x : Operand} (ho : o.op = .box t x) (hc : cOp P gl md o = some aop)
    (hs : step orc base draw aop e h = some (v, e', h')) : Gives N0 P w0 g a w (execOp a.eval o) v e' h' := by
  simp only [cOp, ho, Option.bind_eq_some_iff, Option.map_eq_some_iff] at hc
  obtain ⟨n, hn, x', hx, rfl⟩ := hc
  simp only [step, Option.bnd_eq_some_iff] at hs
  obtain ⟨y, hy, hs⟩ := hs
  split at hs
  · rename_i hlen
    obtain ⟨hlen, hscal⟩ := hlen
    simp only [Option.some.injEq, Prod.mk.injEq] at hs
    obtain ⟨rfl, rfl, rfl⟩ := hs
    have hr := rv_ev hgl k hx hy
    have hcells : y.cells.length ≤ (a.eval x).cells.size ∧ ∀ (j : Nat) (z : PV), y.cells[j]? = some z → RV N0 g w z ((a.eval x).cells.getD j Go.undef) := by
      have hu : y ≠ .undef := by rintro rfl; simp [PV.cells, scalar] at hscal
      obtain ⟨h1, h2⟩ := rv_cells hr hu
      exact ⟨by omega, h2⟩
    obtain ⟨g', hx', hok, hn', hι⟩ := ok_alloc k (a.eval x).cells t _ hcells.1 hcells.2 (fun T' hT => (nb_scalar hscal 0 T' hT).elim) (lo := 0) (hi := 0) (by simp) (.inl rfl)
    refine ⟨_, .pointer (some ⟨w.heap.size, 0, none⟩), _, g', ?_, .inl rfl, hx', hok, ?_⟩
    · simp [execOp, ho, Instr.box, newVar, newRow]
    · rw [← hι]; exact .ptr _ _ (by omega)
  · cases hs
end ops
end
end Go.Am
