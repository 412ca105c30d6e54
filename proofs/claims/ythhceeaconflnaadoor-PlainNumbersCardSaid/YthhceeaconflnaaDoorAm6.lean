/- 'Am': each operation of the program does what the machine's does.
   By the session's AI agent. -/
import Derived.Test.YthhceeaconflnaaDoorAm5
namespace Go.Am
open Go.RowKit (Below)
set_option linter.unusedVariables false
set_option linter.unusedSimpArgs false

section
variable {N0 : Nat} {P : Program} {w0 : World} {g : G} {e : Env} {a : Act} {h : Hp} {w : World}

/-! ### Operands -/
mutual
theorem rv_const : ∀ (v : Value) (x : PV), ofValue v = some x → RV N0 g w x v
  | .bool b, x, hx => by simp [ofValue] at hx; subst hx; exact .bool b
  | .int k n, x, hx => by simp [ofValue] at hx; subst hx; exact .int k n
  | .string s, x, hx => by simp [ofValue] at hx; subst hx; exact .str _ s (by simp)
  | .pointer none, x, hx => by simp [ofValue] at hx; subst hx; exact .nilp
  | .slice none 0 0, x, hx => by simp [ofValue] at hx; subst hx; exact .nils
  | .nilIface, x, hx => by simp [ofValue] at hx; subst hx; exact .nilif
  | .nilFunc, x, hx => by simp [ofValue] at hx; subst hx; exact .nilf
  | .agg cs, x, hx => by
    simp only [ofValue, Option.map_eq_some_iff] at hx
    obtain ⟨l, hl, rfl⟩ := hx
    obtain ⟨h1, h2⟩ := rv_cells_const cs.toList l hl
    refine .agg l cs (by simpa using h1) fun j y hy => ?_
    have := h2 j y hy
    simpa [Array.getD_eq_getD_getElem?, List.getD_eq_getElem?_getD] using this
  | .pointer (some _), x, hx => by simp [ofValue] at hx
  | .slice (some _) _ _, x, hx => by simp [ofValue] at hx
  | .slice none 0 (_ + 1), x, hx => by simp [ofValue] at hx
  | .slice none (_ + 1) _, x, hx => by simp [ofValue] at hx
  | .float _ _, x, hx => by simp [ofValue] at hx
  | .complex _ _ _, x, hx => by simp [ofValue] at hx
  | .map _, x, hx => by simp [ofValue] at hx
  | .chan _, x, hx => by simp [ofValue] at hx
  | .func _ _ _, x, hx => by simp [ofValue] at hx
  | .iface _ _, x, hx => by simp [ofValue] at hx
  | .tuple _, x, hx => by simp [ofValue] at hx
theorem rv_cells_const : ∀ (vs : List Value) (l : List PV), ofCells vs = some l → vs.length = l.length ∧ ∀ (j : Nat) (y : PV), l[j]? = some y → RV N0 g w y (vs.getD j Go.undef)
  | [], l, hl => by simp [ofCells] at hl; subst hl; exact ⟨rfl, fun j y hy => by simp at hy⟩
  | v :: vs, l, hl => by
    have key : ∀ (x : PV), RV N0 g w x v → (∃ l', ofCells vs = some l' ∧ l = x :: l') → (v :: vs).length = l.length ∧ ∀ (j : Nat) (y : PV), l[j]? = some y → RV N0 g w y ((v :: vs).getD j Go.undef) := by
      rintro x hx ⟨l', h1, rfl⟩
      obtain ⟨h2, h3⟩ := rv_cells_const vs l' h1
      refine ⟨by simp [h2], fun j y hy => ?_⟩
      cases j with
      | zero => simp at hy; subst hy; simpa using hx
      | succ j => simpa using h3 j y (by simpa using hy)
    unfold ofCells at hl
    split at hl
    · cases ‹_ :: _ = _›
    · rename_i b r heq; cases heq; simp only [Option.map_eq_some_iff] at hl; obtain ⟨l', h1, rfl⟩ := hl; exact key _ (.bool b) ⟨l', h1, rfl⟩
    · rename_i k n r heq; cases heq; simp only [Option.map_eq_some_iff] at hl; obtain ⟨l', h1, rfl⟩ := hl; exact key _ (.int k n) ⟨l', h1, rfl⟩
    · rename_i s r heq; cases heq; simp only [Option.map_eq_some_iff] at hl; obtain ⟨l', h1, rfl⟩ := hl; exact key _ (.str _ s rfl) ⟨l', h1, rfl⟩
    · rename_i r heq; cases heq; simp only [Option.map_eq_some_iff] at hl; obtain ⟨l', h1, rfl⟩ := hl; exact key _ .nilp ⟨l', h1, rfl⟩
    · rename_i r heq; cases heq; simp only [Option.map_eq_some_iff] at hl; obtain ⟨l', h1, rfl⟩ := hl; exact key _ .nils ⟨l', h1, rfl⟩
    · rename_i r heq; cases heq; simp only [Option.map_eq_some_iff] at hl; obtain ⟨l', h1, rfl⟩ := hl; exact key _ .nilif ⟨l', h1, rfl⟩
    · rename_i r heq; cases heq; simp only [Option.map_eq_some_iff] at hl; obtain ⟨l', h1, rfl⟩ := hl; exact key _ .nilf ⟨l', h1, rfl⟩
    · cases hl
end

theorem ofCells_nb : ∀ (vs : List Value) (l : List PV), ofCells vs = some l → ∀ (j : Nat) (T : Nat), l[j]? ≠ some (.bnil T)
  | [], l, hl, j, T => by simp [ofCells] at hl; subst hl; simp
  | v :: vs, l, hl, j, T => by
    have key : ∀ (x : PV), (∀ T, x ≠ .bnil T) → (∃ l', ofCells vs = some l' ∧ l = x :: l') → l[j]? ≠ some (.bnil T) := by
      rintro x hx ⟨l', h1, rfl⟩
      cases j with
      | zero => simpa using hx T
      | succ j => simpa using ofCells_nb vs l' h1 j T
    unfold ofCells at hl
    split at hl
    · cases ‹_ :: _ = _›
    all_goals first
      | (rename_i heq; cases heq; simp only [Option.map_eq_some_iff] at hl; obtain ⟨l', h1, rfl⟩ := hl; exact key _ (by simp) ⟨l', h1, rfl⟩)
      | cases hl
theorem ofValue_nb {v : Value} {x : PV} (h : ofValue v = some x) (j T : Nat) : x.cells[j]? ≠ some (.bnil T) := by
  have one : ∀ y : PV, (∀ T, y ≠ .bnil T) → ([y] : List PV)[j]? ≠ some (.bnil T) := by
    intro y hy
    cases j with
    | zero => simpa using hy T
    | succ j => simp
  unfold ofValue at h
  split at h
  all_goals first
    | (simp only [Option.some.injEq] at h; subst h; exact one _ (by simp))
    | (simp only [Option.map_eq_some_iff] at h; obtain ⟨l, hl, rfl⟩ := h; exact ofCells_nb _ l hl j T)
    | cases h
theorem nb_scalar {xs : List PV} (h : xs.all scalar = true) (j T : Nat) : xs[j]? ≠ some (.bnil T) := by
  intro hq
  have := List.all_eq_true.1 h _ (List.mem_of_getElem? hq)
  simp [scalar] at this

/-- Package-level variables of which the cells are known. -/
def GlobOk (gl : Globs) (N0 : Nat) (w0 : World) : Prop := ∀ n cs, glob gl n = some cs → n < N0 ∧ ∃ u : Nat → Value, (∀ j, j < cs.length → w0.cell? ⟨n, j, none⟩ = some (u j)) ∧
  ∀ (j : Nat) (x : PV), cs[j]? = some x → ∀ g w, RV N0 g w x (u j)

theorem below_cell {w w' : World} (hb : Below N0 w w') {c : Nat} (hc : c < N0) (o : Nat) : w'.cell? ⟨c, o, none⟩ = w.cell? ⟨c, o, none⟩ := by
  simp only [World.cell?, hb.block c hc]

theorem rv_ev {gl : Globs} (hgl : GlobOk gl N0 w0) (k : Ok (N0 := N0) w0 g e a.tmps h w) {o : Operand} {x : Opnd} {v : PV} (ho : cOpnd gl o = some x) (hv : ev e x = some v) : RV N0 g w v (a.eval o) := by
  cases o with
  | tmp t => simp [cOpnd] at ho; subst ho; exact k.env t v hv
  | const c =>
    simp only [cOpnd, Option.map_eq_some_iff] at ho
    obtain ⟨y, hy, rfl⟩ := ho
    simp [ev] at hv; subst hv
    exact rv_const c y hy
  | func f =>
    simp [cOpnd] at ho; subst ho
    simp [ev] at hv; subst hv
    exact .fn f [] #[] rfl (fun j x hx => by simp at hx)
  | global n =>
    simp only [cOpnd, Option.map_eq_some_iff] at ho
    obtain ⟨cs, hcs, rfl⟩ := ho
    simp [ev] at hv; subst hv
    obtain ⟨h1, u, h2, h3⟩ := hgl n cs hcs
    exact .ep cs 0 n 0 u (fun j hj => by rw [below_cell k.below h1, Nat.zero_add]; exact h2 j hj) (fun j x hx => h3 j x hx g w) (.inl h1)

/-! ### What an operation leaves -/
/-- The operation's code runs to a value (or to none) that stands for v; the state behind it is e', h'. -/
def Gives (N0 : Nat) (P : Program) (w0 : World) (g : G) (a : Act) (w : World) (s : Sem Next) (v : PV) (e' : Env) (h' : Hp) : Prop :=
  ∃ nx u w' g', s.run P w = .ok nx w' ∧ (nx = .value u ∨ (nx = .skip ∧ u = Go.undef)) ∧ Ext N0 g w g' w' ∧ Ok (N0 := N0) w0 g' e' a.tmps h' w' ∧ RV N0 g' w' v u

theorem gives_pure (k : Ok (N0 := N0) w0 g e a.tmps h w) {v : PV} {u : Value} {s : Sem Next} (hs : s.run P w = .ok (.value u) w) (hr : RV N0 g w v u) :
    Gives N0 P w0 g a w s v e h := ⟨_, u, w, g, hs, .inl rfl, Ext.refl _ _ _, k, hr⟩

theorem blk_lt (k : Ok (N0 := N0) w0 g e a.tmps h w) {b : Nat} {x : Box} (hb : box? h b = some x) : N0 ≤ blk g b x ∧ blk g b x < w.heap.size := (k.box b x hb).blk

theorem hw_new (k : Ok (N0 := N0) w0 g e a.tmps h w) {c : Nat} (hc : w.heap.size ≤ c) : g.hw c = none := by
  cases hq : g.hw c with
  | none => rfl
  | some m => have := (k.arr _ _ hq).2; omega

/-- The world with one more block: allocated at once, or behind a draw. -/
def MadeBy (w w1 : World) (ob : Obj) : Prop := w1 = w.alloc ob ∨ w1 = w.drew.alloc ob
theorem MadeBy.size {w w1 : World} {ob : Obj} (m : MadeBy w w1 ob) : w1.heap.size = w.heap.size + 1 := by rcases m with rfl | rfl <;> simp
theorem MadeBy.at {w w1 : World} {ob : Obj} (m : MadeBy w w1 ob) : w1.heap[w.heap.size]? = some ob := by
  rcases m with rfl | rfl
  · show (w.heap.push _)[w.heap.size]? = _; simp
  · show (w.heap.push _)[w.heap.size]? = _; simp
theorem MadeBy.lt {w w1 : World} {ob : Obj} (m : MadeBy w w1 ob) {c : Nat} (hc : c < w.heap.size) : w1.heap[c]? = w.heap[c]? := by
  rcases m with rfl | rfl
  · exact Below.heap_alloc _ _ _ hc
  · exact Below.heap_alloc w.drew _ _ hc
theorem MadeBy.cell {w w1 : World} {ob : Obj} (m : MadeBy w w1 ob) {c : Nat} (hc : c < w.heap.size) (o : Nat) : w1.cell? ⟨c, o, none⟩ = w.cell? ⟨c, o, none⟩ := by
  simp only [World.cell?, m.lt hc]
theorem MadeBy.below {w w1 : World} {ob : Obj} (m : MadeBy w w1 ob) (hN : N0 ≤ w.heap.size) : Below N0 w w1 := by
  rcases m with rfl | rfl
  · exact (Below.refl _ _).alloc hN _
  · exact ((Below.refl _ _).drew).alloc hN _

/-- A new box in a new block. -/
theorem ok_newbox (k : Ok (N0 := N0) w0 g e a.tmps h w) {w1 : World} {ob : Obj} (hw1 : MadeBy w w1 ob) (bx : Box) (hwm : Option Nat) (tkv : Tk)
    (htk : ∀ n T, bx = .tok n T → tkv.c = w.heap.size ∧ hwm.isSome = true)
    (hbx : ∀ g' : G, Ext N0 g w g' w1 → g'.ι (size h) = w.heap.size → g'.hw w.heap.size = hwm → g'.tk (size h) = tkv → BoxOk N0 g' w1 (size h) bx) :
    ∃ g', Ext N0 g w g' w1 ∧ Ok (N0 := N0) w0 g' e a.tmps (ext h [bx]) w1 ∧ g'.n = size h + 1 ∧ g'.ι (size h) = w.heap.size ∧ g'.hw w.heap.size = hwm ∧ g'.tk (size h) = tkv := by
  have hN := (ok_size k)
  let g' : G := { ι := fun b => if b = size h then w.heap.size else g.ι b, n := size h + 1, hw := fun c => if c = w.heap.size then hwm else g.hw c, tk := fun b => if b = size h then tkv else g.tk b }
  have hι0 : g'.ι (size h) = w.heap.size := by show (if size h = size h then _ else _) = _; rw [if_pos rfl]
  have hhw0 : g'.hw w.heap.size = hwm := by show (if _ = _ then _ else _) = _; rw [if_pos rfl]
  have htk0 : g'.tk (size h) = tkv := by show (if size h = size h then _ else _) = _; rw [if_pos rfl]
  have hιo : ∀ b, b ≠ size h → g'.ι b = g.ι b := fun b hb => by show (if b = size h then _ else _) = _; rw [if_neg hb]
  have htko : ∀ b, b ≠ size h → g'.tk b = g.tk b := fun b hb => by show (if b = size h then _ else _) = _; rw [if_neg hb]
  have hhwo : ∀ c, c ≠ w.heap.size → g'.hw c = g.hw c := fun c hc => by show (if c = w.heap.size then _ else _) = _; rw [if_neg hc]
  have hx : Ext N0 g w g' w1 := by
    refine ⟨by show g.n ≤ size h + 1; rw [k.n]; omega, fun b hb => hιo b (by rw [k.n] at hb; omega), fun c m hm => ⟨m, ?_, Nat.le_refl _⟩, fun c m o hm ho => hw1.cell (k.arr c m hm).2 o, fun c o hc => hw1.cell (by omega) o, fun t ht => ?_⟩
    · rw [hhwo c (by have := (k.arr c m hm).2; omega)]; exact hm
    · rw [htko t (by rw [k.n] at ht; omega)]; exact ⟨Nat.le_refl _, fun _ => rfl⟩
  have hblk : ∀ b y, b ≠ size h → blk g' b y = blk g b y := by
    intro b y hb
    cases y <;> simp only [blk, hιo b hb, htko b hb]
  have hnew : blk g' (size h) bx = w.heap.size := by
    cases bx with
    | tok n T => simp only [blk, htk0]; exact (htk n T rfl).1
    | cells cs => exact hι0
    | iter s p => exact hι0
  refine ⟨g', hx, ?_, rfl, hι0, hhw0, htk0⟩
  have hbx' := hbx g' hx hι0 hhw0 htk0
  have hold : ∀ b y, box? (ext h [bx]) b = some y → b ≠ size h → box? h b = some y := by
    intro b y hy hb
    have hlt := lt_of_box hy
    rw [size_ext] at hlt
    rw [box_ext_lt (by simp at hlt; omega)] at hy
    exact hy
  refine { n := by show size h + 1 = size (ext h [bx]); rw [size_ext]; rfl, hN := k.hN, below := k.below.trans (hw1.below hN), inj := ?_, box := ?_, arr := ?_, env := ?_ }
  · intro b c y z hy hz he
    by_cases h1 : b = size h
    · subst h1
      rw [box_ext_at rfl] at hy
      cases hy
      by_cases h2 : c = size h
      · rw [h2]
      · have hz' := hold c z hz h2
        rw [hnew, hblk c z h2] at he
        have := (blk_lt k hz').2
        omega
    · have hy' := hold b y hy h1
      by_cases h2 : c = size h
      · subst h2
        rw [box_ext_at rfl] at hz
        cases hz
        rw [hnew, hblk b y h1] at he
        have := (blk_lt k hy').2
        omega
      · have hz' := hold c z hz h2
        rw [hblk b y h1, hblk c z h2] at he
        exact k.inj b c y z hy' hz' he
  · intro b y hy
    by_cases h1 : b = size h
    · subst h1
      rw [box_ext_at rfl] at hy
      cases hy
      exact hbx'
    · have hy' := hold b y hy h1
      have hlt := (blk_lt k hy').2
      exact (k.box b y hy').mono hx (by rw [k.n]; exact lt_of_box hy') (hw1.lt hlt) (hhwo _ (by omega)) (htko b h1)
  · intro c m hm
    by_cases hc : c = w.heap.size
    · subst hc; exact ⟨hN, by rw [hw1.size]; omega⟩
    · rw [hhwo c hc] at hm
      have := k.arr c m hm
      exact ⟨this.1, by rw [hw1.size]; omega⟩
  · intro t v hv
    exact (k.env t v hv).mono hx

/-- A new block of cells. -/
theorem ok_alloc (k : Ok (N0 := N0) w0 g e a.tmps h w) (us : Array Value) (T : TypeId) (cs : List PV) (hl : cs.length ≤ us.size)
    (hr : ∀ (j : Nat) (x : PV), cs[j]? = some x → RV N0 g w x (us.getD j Go.undef)) (hbn : ∀ T', cs[0]? = some (.bnil T') → T' = T ∧ us.size = cs.length) {w1 : World} {lo hi : Nat} (hfr : lo < hi → us.size ≤ lo) (hw1 : MadeBy w w1 (.cells us T (lo, hi))) :
    ∃ g', Ext N0 g w g' w1 ∧ Ok (N0 := N0) w0 g' e a.tmps (ext h [.cells cs]) w1 ∧ g'.n = size h + 1 ∧ g'.ι (size h) = w.heap.size := by
  obtain ⟨g', h1, h2, h3, h4, _, _⟩ := ok_newbox k hw1 (.cells cs) none default (fun n T hn => by cases hn) (fun g' hx hι hhw htk => by
    refine ⟨by rw [hι]; exact ok_size k, by rw [hι]; exact hhw, us, T, lo, hi, by rw [hι]; exact hw1.at, hfr, hl, hbn, fun j x hx' => (hr j x hx').mono hx⟩)
  exact ⟨g', h1, h2, h3, h4⟩

/-- A new block that is fixed at once: an array of the call's own. -/
theorem ok_fixed (k : Ok (N0 := N0) w0 g e a.tmps h w) (us : Array Value) (T : TypeId) (m : Nat) (w1 : World) {lo hi : Nat} (hw1 : w1 = w.alloc (.cells us T (lo, hi)) ∨ w1 = w.drew.alloc (.cells us T (lo, hi))) :
    ∃ g', Ext N0 g w g' w1 ∧ Ok (N0 := N0) w0 g' e a.tmps h w1 ∧ g'.hw w.heap.size = some m := by
  have hN := (ok_size k)
  have hm : MadeBy w w1 (.cells us T (lo, hi)) := hw1
  let g' : G := { ι := g.ι, n := g.n, hw := fun c => if c = w.heap.size then some m else g.hw c, tk := g.tk }
  have hhwo : ∀ c, c ≠ w.heap.size → g'.hw c = g.hw c := fun c hc => by show (if c = w.heap.size then _ else _) = _; rw [if_neg hc]
  have hx : Ext N0 g w g' w1 := by
    refine ⟨Nat.le_refl _, fun b hb => rfl, fun c m' hm' => ⟨m', ?_, Nat.le_refl _⟩, fun c m' o hm' ho => hm.cell (k.arr c m' hm').2 o, fun c o hc => hm.cell (by omega) o, fun t ht => ⟨Nat.le_refl _, fun _ => rfl⟩⟩
    rw [hhwo c (by have := (k.arr c m' hm').2; omega)]; exact hm'
  refine ⟨g', hx, k.world hx rfl (hm.below hN) (fun b bx hb => ?_) (fun b hb => rfl) ?_, by show (if _ = _ then _ else _) = _; rw [if_pos rfl]⟩
  · have := (blk_lt k hb).2
    exact ⟨hm.lt this, hhwo _ (by omega)⟩
  · intro c m' hm'
    by_cases hc : c = w.heap.size
    · subst hc; exact ⟨hN, by rw [hm.size]; omega⟩
    · rw [hhwo c hc] at hm'
      have := k.arr c m' hm'; exact ⟨this.1, by rw [hm.size]; omega⟩

/-- A box is put into its block: the block alone is turned. -/
theorem ok_setbox (k : Ok (N0 := N0) w0 g e a.tmps h w) {b : Nat} {x y : Box} (hb : box? h b = some x) {g' : G} {w' : World} (hx : Ext N0 g w g' w') (hn : g'.n = g.n) (hbl : Below N0 w w')
    (hblk : blk g' b y = blk g b x ∨ w.heap.size ≤ blk g' b y) (hother : ∀ c, c < w.heap.size → c ≠ blk g b x → w'.heap[c]? = w.heap[c]? ∧ g'.hw c = g.hw c) (htk : ∀ t, t ≠ b → g'.tk t = g.tk t) (hy : BoxOk N0 g' w' b y)
    (harr : ∀ c m, g'.hw c = some m → N0 ≤ c ∧ c < w'.heap.size) : Ok (N0 := N0) w0 g' e a.tmps (setBx h b y) w' := by
  have hlt : b < size h := lt_of_box hb
  have hbo : ∀ c z, c ≠ b → c < g.n → blk g' c z = blk g c z := by
    intro c z hc hcn
    cases z <;> simp only [blk, hx.ι c hcn, htk c hc]
  have hget : ∀ c z, box? (setBx h b y) c = some z → c ≠ b → box? h c = some z := by
    intro c z hz hc
    rwa [box_set_ne (fun hq => hc hq.symm)] at hz
  have hne : ∀ c z, box? h c = some z → c ≠ b → blk g' c z ≠ blk g' b y := by
    intro c z hz hc hq
    have hcn : c < g.n := by rw [k.n]; exact lt_of_box hz
    rw [hbo c z hc hcn] at hq
    rcases hblk with hblk | hblk
    · rw [hblk] at hq; exact hc (k.inj c b z x hz hb hq)
    · have := (blk_lt k hz).2; omega
  refine { n := by rw [size_setBx, hn]; exact k.n, hN := k.hN, below := k.below.trans hbl, inj := ?_, box := ?_, arr := harr, env := fun t v hv => (k.env t v hv).mono hx }
  · intro c d z1 z2 hz1 hz2 he
    by_cases h1 : c = b
    · by_cases h2 : d = b
      · rw [h1, h2]
      · subst h1
        rw [box_set_eq hlt] at hz1
        cases hz1
        exact (hne d z2 (hget d z2 hz2 h2) h2 he.symm).elim
    · by_cases h2 : d = b
      · subst h2
        rw [box_set_eq hlt] at hz2
        cases hz2
        exact (hne c z1 (hget c z1 hz1 h1) h1 he).elim
      · have q1 := hget c z1 hz1 h1
        have q2 := hget d z2 hz2 h2
        rw [hbo c z1 h1 (by rw [k.n]; exact lt_of_box q1), hbo d z2 h2 (by rw [k.n]; exact lt_of_box q2)] at he
        exact k.inj c d z1 z2 q1 q2 he
  · intro c z hz
    by_cases h1 : c = b
    · subst h1
      rw [box_set_eq hlt] at hz
      cases hz
      exact hy
    · have q := hget c z hz h1
      have hcn : c < g.n := by rw [k.n]; exact lt_of_box q
      have hc2 : blk g c z ≠ blk g b x := fun hq => h1 (k.inj c b z x q hb hq)
      obtain ⟨o1, o2⟩ := hother _ (blk_lt k q).2 hc2
      exact (k.box c z q).mono hx hcn o1 o2 (htk c h1)

/-- A cell of a box is written. -/
theorem ok_write (k : Ok (N0 := N0) w0 g e a.tmps h w) {b : Nat} {cs : List PV} (hb : getBox h b = some cs) {off : Nat} (ho : off < cs.length) {v : PV} {u : Value} (hv : RV N0 g w v u) (hnb : ∀ T, v ≠ .bnil T) :
    ∃ x, w.cell? ⟨g.ι b, off, none⟩ = some x ∧ w.frozen? ⟨g.ι b, off, none⟩ = false ∧
      Ext N0 g w g (w.setCell ⟨g.ι b, off, none⟩ u) ∧ Ok (N0 := N0) w0 g e a.tmps (setBox h b (cs.set off v)) (w.setCell ⟨g.ι b, off, none⟩ u) := by
  obtain ⟨q1, q2, arr, T, lo, hi, q3, q6, q4, q8, q5⟩ := k.cells hb
  have hoff : off < arr.size := by omega
  have hheap : ∀ c, c ≠ g.ι b → (w.setCell ⟨g.ι b, off, none⟩ u).heap[c]? = w.heap[c]? := fun c hc => Below.heap_setCell _ _ _ _ hc
  have hother : ∀ c o, c ≠ g.ι b → (w.setCell ⟨g.ι b, off, none⟩ u).cell? ⟨c, o, none⟩ = w.cell? ⟨c, o, none⟩ := fun c o hc => by simp only [World.cell?, hheap c hc]
  have hx : Ext N0 g w g (w.setCell ⟨g.ι b, off, none⟩ u) := by
    refine ⟨Nat.le_refl _, fun _ _ => rfl, fun c m hm => ⟨m, hm, Nat.le_refl _⟩, fun c m o hm _ => hother c o ?_, fun c o hc => hother c o (by omega), fun t ht => ⟨Nat.le_refl _, fun _ => rfl⟩⟩
    intro hc; rw [hc, q2] at hm; cases hm
  have hset : (w.setCell ⟨g.ι b, off, none⟩ u).heap[g.ι b]? = some (.cells (arr.setIfInBounds off u) T (lo, hi)) := by
    simp only [World.setCell, Array.getElem?_modify, if_true, q3, Option.map_some, Option.isSome_none, Bool.false_eq_true, if_false]
  refine ⟨arr[off], ?_, ?_, hx, ?_⟩
  · simp [World.cell?, q3, hoff]
  · simp only [World.frozen?, q3, Bool.and_eq_false_iff, decide_eq_false_iff_not]
    by_cases hlh : lo < hi
    · have := q6 hlh; left; omega
    · by_cases h1 : lo ≤ off
      · right; omega
      · left; exact h1
  refine ok_setbox k (box_of_get hb) hx rfl ((Below.refl N0 w).setCell q1 _) (.inl rfl) (fun c _ hc => ⟨hheap c hc, rfl⟩) (fun _ _ => rfl) ?_ (fun c m hm => ?_)
  · refine ⟨q1, q2, arr.setIfInBounds off u, T, lo, hi, hset, by simpa using q6, by simpa using q4, fun T' hT => ?_, fun j x hj => ?_⟩
    · by_cases h0 : off = 0
      · subst h0
        rw [List.getElem?_set_self ho] at hT
        simp only [Option.some.injEq] at hT
        exact (hnb T' hT).elim
      · rw [List.getElem?_set_ne h0] at hT
        simpa using q8 T' hT
    by_cases hjo : off = j
    · subst hjo
      rw [List.getElem?_set_self ho] at hj
      simp only [Option.some.injEq] at hj
      subst hj
      simpa [Array.getD_eq_getD_getElem?, hoff] using hv.mono hx
    · rw [List.getElem?_set_ne hjo] at hj
      simpa [Array.getD_eq_getD_getElem?, Array.getElem?_setIfInBounds, hjo] using (q5 j x hj).mono hx
  · have := k.arr c m hm
    exact ⟨this.1, by simp; exact this.2⟩

end
end Go.Am
