/- 'Am': how the abstract machine's values and boxes stand for the program's memory.
   By the session's AI agent. -/
import Derived.Test.YthhceeaconflnaaDoorAm4
import Derived.Test.YthhceeaconflnaaDoorAm2
import Derived.Below
import Derived.Laws.Append
import Derived.Laws.CopyRow
import Derived.WalkKit
import Derived.ChangeKeysEq
namespace Go.Am
open Go.RowKit (Below)
set_option linter.unusedVariables false
set_option linter.unusedSimpArgs false

/-- Where a token's slice lies, and how many of its elements stand: block, first cell, room, cells of an element. -/
structure Tk where
  e : Nat
  c : Nat
  o : Nat
  cap : Nat
  sz : Nat
  deriving Inhabited

/-- The ghost: where each box lies; how many there are; of each array of the call's own, how many of its cells are fixed; where each token's slice lies. -/
structure G where
  ι : Nat → Nat
  n : Nat
  hw : Nat → Option Nat
  tk : Nat → Tk := fun _ => default

section
variable (N0 : Nat)

def Fixed (g : G) (c e : Nat) : Prop := c < N0 ∨ ∃ m, g.hw c = some m ∧ e ≤ m

inductive RV (g : G) (w : World) : PV → Value → Prop
  | undef (u) (hu : ∀ b, u ≠ .bool b) : RV g w .undef u
  | bool (b) : RV g w (.bool b) (.bool b)
  | int (k n) : RV g w (.int k n) (.int k n)
  | str (l s) (h : s.data.toList = l) : RV g w (.str l) (.string s)
  | nilp : RV g w .nilp (.pointer none)
  | bnil (T) : RV g w (.bnil T) (.pointer none)
  | ptr (b off) (h : b < g.n) : RV g w (.ptr b off) (.pointer (some ⟨g.ι b, off, none⟩))
  | ep (cs off c o) (u : Nat → Value) (hc : ∀ j, j < cs.length → w.cell? ⟨c, o + j, none⟩ = some (u j))
      (hr : ∀ j x, cs[j]? = some x → RV g w x (u j)) (hf : Fixed N0 g c (o + cs.length)) : RV g w (.ep cs off) (.pointer (some ⟨c, o + off, none⟩))
  | nils : RV g w .nils (.slice none 0 0)
  | sl (ow sz es c o cap) (u : Nat → Nat → Value) (hl : es.length ≤ cap) (hfull : ow = .full → cap = es.length)
      (hsz : ∀ (i : Nat) (e : PV), es[i]? = some e → e.cells.length = sz)
      (hc : ∀ i j, i < es.length → j < sz → w.cell? ⟨c, o + (i * sz + j), none⟩ = some (u i j))
      (hr : ∀ (i j : Nat) (e x : PV), es[i]? = some e → e.cells[j]? = some x → RV g w x (u i j))
      (hf : es ≠ [] → Fixed N0 g c (o + es.length * sz)) (sp : Option Nat) (hsp : es ≠ [] → sp = none)
      (htk : ∀ t, ow = .tok t → t < g.n ∧ es.length ≤ (g.tk t).e ∧ ((g.tk t).e = es.length → g.tk t = ⟨es.length, c, o, cap, sz⟩ ∧ sp = none)) : RV g w (.sl ow sz es) (.slice (some ⟨c, o, sp⟩) es.length cap)
  | bsl (f b off len sz cap) (h : b < g.n) (hl : len ≤ cap) (hfull : f = true → cap = len) : RV g w (.bsl f b off len sz) (.slice (some ⟨g.ι b, off, none⟩) len cap)
  | nilif : RV g w .nilif .nilIface
  | iface (t v u) (h : RV g w v u) : RV g w (.iface t v) (.iface t u)
  | nilf : RV g w .nilf .nilFunc
  | fn (f cap) (us : Array Value) (hs : us.size = cap.length) (hr : ∀ (j : Nat) (x : PV), cap[j]? = some x → RV g w x (us.getD j undef)) : RV g w (.fn f cap) (.func (.func f) #[] us)
  | agg (cs) (us : Array Value) (hs : us.size = cs.length) (hr : ∀ (j : Nat) (x : PV), cs[j]? = some x → RV g w x (us.getD j undef)) : RV g w (.agg cs) (.agg us)
  | tup (cs) (us : Array Value) (hs : us.size = cs.length) (hr : ∀ (j : Nat) (x : PV), cs[j]? = some x → RV g w x (us.getD j undef)) : RV g w (.tup cs) (.tuple us)
  | it (b) (h : b < g.n) : RV g w (.it b) (.pointer (some ⟨g.ι b, 0, none⟩))

/-- The world has gone on: boxes stand where they stood; what was fixed is as it was. -/
structure Ext (g : G) (w : World) (g' : G) (w' : World) : Prop where
  n : g.n ≤ g'.n
  ι : ∀ b, b < g.n → g'.ι b = g.ι b
  hw : ∀ c m, g.hw c = some m → ∃ m', g'.hw c = some m' ∧ m ≤ m'
  cell : ∀ c m o, g.hw c = some m → o < m → w'.cell? ⟨c, o, none⟩ = w.cell? ⟨c, o, none⟩
  old : ∀ c o, c < N0 → w'.cell? ⟨c, o, none⟩ = w.cell? ⟨c, o, none⟩
  tk : ∀ t, t < g.n → (g.tk t).e ≤ (g'.tk t).e ∧ ((g'.tk t).e = (g.tk t).e → g'.tk t = g.tk t)

theorem Ext.refl (g : G) (w : World) : Ext N0 g w g w := ⟨Nat.le_refl _, fun _ _ => rfl, fun c m h => ⟨m, h, Nat.le_refl _⟩, fun _ _ _ _ _ => rfl, fun _ _ _ => rfl, fun _ _ => ⟨Nat.le_refl _, fun _ => rfl⟩⟩

variable {N0}
theorem Ext.trans {g g' g'' : G} {w w' w'' : World} (a : Ext N0 g w g' w') (b : Ext N0 g' w' g'' w'') : Ext N0 g w g'' w'' where
  n := Nat.le_trans a.n b.n
  ι := fun x hx => (b.ι x (Nat.lt_of_lt_of_le hx a.n)).trans (a.ι x hx)
  hw := fun c m h => let ⟨m', h', l⟩ := a.hw c m h; let ⟨m'', h'', l'⟩ := b.hw c m' h'; ⟨m'', h'', Nat.le_trans l l'⟩
  cell := fun c m o h ho => let ⟨m', h', l⟩ := a.hw c m h; (b.cell c m' o h' (Nat.lt_of_lt_of_le ho l)).trans (a.cell c m o h ho)
  old := fun c o h => (b.old c o h).trans (a.old c o h)
  tk := fun t h => by
    obtain ⟨a1, a2⟩ := a.tk t h
    obtain ⟨b1, b2⟩ := b.tk t (Nat.lt_of_lt_of_le h a.n)
    refine ⟨Nat.le_trans a1 b1, fun he => ?_⟩
    have e1 : (g''.tk t).e = (g'.tk t).e := by omega
    have e2 : (g'.tk t).e = (g.tk t).e := by omega
    exact (b2 e1).trans (a2 e2)

theorem Fixed.mono {g g' : G} {w w' : World} (x : Ext N0 g w g' w') {c e : Nat} (h : Fixed N0 g c e) : Fixed N0 g' c e := by
  rcases h with h | ⟨m, h, l⟩
  · exact .inl h
  · obtain ⟨m', h', l'⟩ := x.hw c m h
    exact .inr ⟨m', h', Nat.le_trans l l'⟩

theorem Fixed.cell {g g' : G} {w w' : World} (x : Ext N0 g w g' w') {c e o : Nat} (h : Fixed N0 g c e) (ho : o < e) : w'.cell? ⟨c, o, none⟩ = w.cell? ⟨c, o, none⟩ := by
  rcases h with h | ⟨m, h, l⟩
  · exact x.old c o h
  · exact x.cell c m o h (Nat.lt_of_lt_of_le ho l)

theorem mul_lt_of {i j n sz : Nat} (hi : i < n) (hj : j < sz) : i * sz + j < n * sz := by
  have : (i + 1) * sz ≤ n * sz := Nat.mul_le_mul_right _ hi
  rw [Nat.succ_mul] at this
  omega

theorem RV.mono {g g' : G} {w w' : World} (x : Ext N0 g w g' w') {v : PV} {u : Value} (h : RV N0 g w v u) : RV N0 g' w' v u := by
  induction h with
  | undef u hu => exact .undef u hu
  | bool b => exact .bool b
  | int k n => exact .int k n
  | str l s h => exact .str l s h
  | nilp => exact .nilp
  | bnil T => exact .bnil T
  | ptr b off h => rw [← x.ι b h]; exact .ptr b off (Nat.lt_of_lt_of_le h x.n)
  | ep cs off c o u hc hr hf ih =>
    exact .ep cs off c o u (fun j hj => (hf.cell x (by omega)).trans (hc j hj)) ih (hf.mono x)
  | nils => exact .nils
  | sl ow sz es c o cap u hl hfull hsz hc hr hf sp hsp htk ih =>
    refine .sl ow sz es c o cap u hl hfull hsz (fun i j hi hj => ((hf ?_).cell x ?_).trans (hc i j hi hj)) ih (fun hne => (hf hne).mono x) sp hsp fun t ht => ?_
    · rintro rfl; simp at hi
    · have := mul_lt_of hi hj
      omega
    · obtain ⟨t1, t2, t3⟩ := htk t ht
      obtain ⟨x1, x2⟩ := x.tk t t1
      refine ⟨Nat.lt_of_lt_of_le t1 x.n, Nat.le_trans t2 x1, fun he => ?_⟩
      have e1 : (g.tk t).e = es.length := by omega
      rw [x2 (by omega)]
      exact t3 e1
  | bsl f b off len sz cap h hl hfull => rw [← x.ι b h]; exact .bsl f b off len sz cap (Nat.lt_of_lt_of_le h x.n) hl hfull
  | nilif => exact .nilif
  | iface t v u _ ih => exact .iface t v u ih
  | nilf => exact .nilf
  | fn f cap us hs _ ih => exact .fn f cap us hs ih
  | agg cs us hs _ ih => exact .agg cs us hs ih
  | tup cs us hs _ ih => exact .tup cs us hs ih
  | it b h => rw [← x.ι b h]; exact .it b (Nat.lt_of_lt_of_le h x.n)

theorem belows_mem {n : Nat} : ∀ {cs : List PV}, belows n cs = true → ∀ (j : Nat) (x : PV), cs[j]? = some x → below n x = true
  | [], _, j, x, h => by simp at h
  | c :: cs, hb, 0, x, h => by simp [belows] at hb h; exact h ▸ hb.1
  | c :: cs, hb, j + 1, x, h => by
    simp only [belows, Bool.and_eq_true] at hb
    exact belows_mem hb.2 j x (by simpa using h)

theorem below_cells {n : Nat} {v : PV} (h : below n v = true) (j : Nat) (x : PV) (hx : v.cells[j]? = some x) : below n x = true := by
  cases v with
  | agg cs => simp only [below] at h; exact belows_mem h j x hx
  | _ =>
    cases j with
    | zero => simp only [PV.cells, List.getElem?_cons_zero, Option.some.injEq] at hx; exact hx ▸ h
    | succ j => simp [PV.cells] at hx

/-- Fewer boxes: what points at none of those that go is as it was. -/
theorem rv_fewer {g : G} {w : World} {m : Nat} {v : PV} {u : Value} (h : RV N0 g w v u) (hb : below m v = true) : RV N0 { g with n := m } w v u := by
  induction h with
  | undef u hu => exact .undef u hu
  | bool b => exact .bool b
  | int k n => exact .int k n
  | str l s h => exact .str l s h
  | nilp => exact .nilp
  | bnil T => exact .bnil T
  | ptr b off h => exact .ptr (g := { g with n := m }) b off (by simpa [below] using hb)
  | ep cs off c o u hc hr hf ih =>
    simp only [below] at hb
    exact .ep cs off c o u hc (fun j x hx => ih j x hx (belows_mem hb j x hx)) hf
  | nils => exact .nils
  | sl ow sz es c o cap u hl hfull hsz hc hr hf sp hsp htk ih =>
    simp only [below, Bool.and_eq_true] at hb
    refine .sl ow sz es c o cap u hl hfull hsz hc (fun i j e x he hx => ih i j e x he hx (below_cells (belows_mem hb.2 i e he) j x hx)) hf sp hsp fun t ht => ?_
    have hb1 := hb.1
    rw [ht] at hb1
    exact ⟨by simpa [Own.below] using hb1, (htk t ht).2⟩
  | bsl f b off len sz cap h hl hfull => exact .bsl (g := { g with n := m }) f b off len sz cap (by simpa [below] using hb) hl hfull
  | nilif => exact .nilif
  | iface t v u _ ih => simp only [below] at hb; exact .iface t v u (ih hb)
  | nilf => exact .nilf
  | fn f cap us hs _ ih => simp only [below] at hb; exact .fn f cap us hs fun j x hx => ih j x hx (belows_mem hb j x hx)
  | agg cs us hs _ ih => simp only [below] at hb; exact .agg cs us hs fun j x hx => ih j x hx (belows_mem hb j x hx)
  | tup cs us hs _ ih => simp only [below] at hb; exact .tup cs us hs fun j x hx => ih j x hx (belows_mem hb j x hx)
  | it b h => exact .it (g := { g with n := m }) b (by simpa [below] using hb)

theorem strips_get : ∀ (cs : List PV) (j : Nat), (strips cs)[j]? = (cs[j]?).map strip
  | [], j => by simp [strips]
  | c :: cs, 0 => by simp [strips]
  | c :: cs, j + 1 => by simpa [strips] using strips_get cs j
theorem strips_length (cs : List PV) : (strips cs).length = cs.length := by induction cs <;> simp_all [strips]
theorem strip_cells (v : PV) : (strip v).cells.length = v.cells.length := by
  cases v <;> first | rfl | exact strips_length _
theorem strips_of {cs : List PV} {R : PV → Nat → Prop} (hr : ∀ (j : Nat) (x : PV), cs[j]? = some x → R (strip x) j) : ∀ (j : Nat) (x : PV), (strips cs)[j]? = some x → R x j := by
  intro j x hx
  rw [strips_get, Option.map_eq_some_iff] at hx
  obtain ⟨y, hy, rfl⟩ := hx
  exact hr j y hy

/-- What stands for a value stands for it without its tokens. -/
theorem rv_strip {g : G} {w : World} {v : PV} {u : Value} (h : RV N0 g w v u) : RV N0 g w (strip v) u := by
  induction h with
  | sl ow sz es c o cap k hl hfull hsz hc hr hf sp hsp htk ih =>
    cases ow with
    | tok t => exact .sl .no sz es c o cap k hl (by simp) hsz hc hr hf sp hsp (by simp)
    | no => exact .sl .no sz es c o cap k hl hfull hsz hc hr hf sp hsp htk
    | full => exact .sl .full sz es c o cap k hl hfull hsz hc hr hf sp hsp htk
  | undef u hu => exact .undef u hu
  | bool b => exact .bool b
  | int k n => exact .int k n
  | str l s h => exact .str l s h
  | nilp => exact .nilp
  | bnil T => exact .bnil T
  | ptr b off h => exact .ptr b off h
  | ep cs off c o u hc hr hf => exact .ep cs off c o u hc hr hf
  | nils => exact .nils
  | bsl f b off len sz cap h hl hfull => exact .bsl f b off len sz cap h hl hfull
  | nilif => exact .nilif
  | iface t v u h ih => exact .iface t _ u ih
  | nilf => exact .nilf
  | fn f cap us hs hr ih => exact .fn f _ us (by rw [hs, strips_length]) (strips_of (R := fun x j => RV N0 g w x (us.getD j undef)) ih)
  | agg cs us hs hr ih => exact .agg _ us (by rw [hs, strips_length]) (strips_of (R := fun x j => RV N0 g w x (us.getD j undef)) ih)
  | tup cs us hs hr ih => exact .tup _ us (by rw [hs, strips_length]) (strips_of (R := fun x j => RV N0 g w x (us.getD j undef)) ih)
  | it b h => exact .it b h

/-- A value's cells, one by one. -/
theorem rv_cells {g : G} {w : World} {v : PV} {u : Value} (h : RV N0 g w v u) (hv : v ≠ .undef) : u.cells.size = v.cells.length ∧ ∀ (j : Nat) (x : PV), v.cells[j]? = some x → RV N0 g w x (u.cells.getD j undef) := by
  have one : ∀ (v : PV) (u : Value), RV N0 g w v u → v.cells = [v] → u.cells = #[u] → u.cells.size = v.cells.length ∧ ∀ (j : Nat) (x : PV), v.cells[j]? = some x → RV N0 g w x (u.cells.getD j undef) := by
    intro v u h hv hu
    rw [hv, hu]
    refine ⟨rfl, fun j x hx => ?_⟩
    cases j with
    | zero => simp at hx; subst hx; simpa using h
    | succ j => simp at hx
  cases h with
  | undef u hu => exact (hv rfl).elim
  | agg cs us hs hr => exact ⟨hs, hr⟩
  | bool b => exact one _ _ (.bool b) rfl rfl
  | int k n => exact one _ _ (.int k n) rfl rfl
  | str l s h => exact one _ _ (.str l s h) rfl rfl
  | nilp => exact one _ _ .nilp rfl rfl
  | bnil T => exact one _ _ (.bnil T) rfl rfl
  | ptr b off h => exact one _ _ (.ptr b off h) rfl rfl
  | ep cs off c o u hc hr hf => exact one _ _ (.ep cs off c o u hc hr hf) rfl rfl
  | nils => exact one _ _ .nils rfl rfl
  | sl ow sz es c o cap k hl hfull hsz hc hr hf sp hsp htk => exact one _ _ (.sl ow sz es c o cap k hl hfull hsz hc hr hf sp hsp htk) rfl rfl
  | bsl f b off len sz cap h hl hfull => exact one _ _ (.bsl f b off len sz cap h hl hfull) rfl rfl
  | nilif => exact one _ _ .nilif rfl rfl
  | iface t v u h => exact one _ _ (.iface t v u h) rfl rfl
  | nilf => exact one _ _ .nilf rfl rfl
  | fn f cap us hs hr => exact one _ _ (.fn f cap us hs hr) rfl rfl
  | tup cs us hs hr => exact one _ _ (.tup cs us hs hr) rfl rfl
  | it b h => exact one _ _ (.it b h) rfl rfl

/-! ### The whole state -/

/-- The block that a box lies in. -/
def blk (g : G) (b : Nat) : Box → Nat
  | .tok _ _ => (g.tk b).c
  | _ => g.ι b

/-- What memory holds for a box. -/
def BoxOk (N0 : Nat) (g : G) (w : World) (b : Nat) : Box → Prop
  | .cells cs => N0 ≤ g.ι b ∧ g.hw (g.ι b) = none ∧ ∃ arr T lo hi, w.heap[g.ι b]? = some (.cells arr T (lo, hi)) ∧ (lo < hi → arr.size ≤ lo) ∧ cs.length ≤ arr.size ∧ (∀ T', cs[0]? = some (.bnil T') → T' = T ∧ arr.size = cs.length) ∧ ∀ (k : Nat) (x : PV), cs[k]? = some x → RV N0 g w x (arr.getD k undef)
  | .tok n T => (g.tk b).e = n ∧ n ≤ (g.tk b).cap ∧ N0 ≤ (g.tk b).c ∧ g.hw (g.tk b).c = some ((g.tk b).o + n * (g.tk b).sz) ∧ (g.tk b).o = 0 ∧
      ∃ arr lo hi, w.heap[(g.tk b).c]? = some (.cells arr T (lo, hi)) ∧ (g.tk b).o + (g.tk b).cap * (g.tk b).sz ≤ arr.size ∧ hi ≤ (g.tk b).o + n * (g.tk b).sz
  | .iter s p => N0 ≤ g.ι b ∧ g.hw (g.ι b) = none ∧ ∃ s', s'.data.toList = s ∧ w.heap[g.ι b]? = some (.stringIter s' p)

structure Ok (w0 : World) (g : G) (e : Env) (tm : Array Value) (h : Hp) (w : World) : Prop where
  n : g.n = size h
  hN : w0.heap.size = N0
  below : Below N0 w0 w
  inj : ∀ b c x y, box? h b = some x → box? h c = some y → blk g b x = blk g c y → b = c
  box : ∀ b x, box? h b = some x → BoxOk N0 g w b x
  arr : ∀ c m, g.hw c = some m → N0 ≤ c ∧ c < w.heap.size
  env : ∀ t v, look e t = some v → RV N0 g w v (tm.getD t undef)

theorem box_at {h : Hp} {b : Nat} (hb : b < size h) : ∃ x, box? h b = some x := ⟨h[b], List.getElem?_eq_getElem hb⟩

/-- A box's block is one of the call's own; of cells and rounds nothing is fixed. -/
theorem BoxOk.blk {g : G} {w : World} {b : Nat} {x : Box} (k : BoxOk N0 g w b x) : N0 ≤ blk g b x ∧ Go.Am.blk g b x < w.heap.size := by
  have lt : ∀ {i : Nat} {o : Obj}, w.heap[i]? = some o → i < w.heap.size := fun h => (Array.getElem?_eq_some_iff.1 h).1
  cases x with
  | cells cs => obtain ⟨h1, h2, arr, T, lo, hi, h3, _⟩ := k; exact ⟨h1, lt h3⟩
  | tok n T => obtain ⟨_, _, h1, h2, _, arr, lo, hi, h3, _⟩ := k; exact ⟨h1, lt h3⟩
  | iter s p => obtain ⟨h1, h2, s', _, h3⟩ := k; exact ⟨h1, lt h3⟩

/-- A box whose block is left as it was. -/
theorem BoxOk.mono {g g' : G} {w w' : World} (x : Ext N0 g w g' w') {b : Nat} {bx : Box} (hb : b < g.n) (k : BoxOk N0 g w b bx) (hw : w'.heap[Go.Am.blk g b bx]? = w.heap[Go.Am.blk g b bx]?)
    (hhw : g'.hw (Go.Am.blk g b bx) = g.hw (Go.Am.blk g b bx)) (htk : g'.tk b = g.tk b) : BoxOk N0 g' w' b bx := by
  have hι := x.ι b hb
  cases bx with
  | cells cs =>
    obtain ⟨h1, h2, arr, T, lo, hi, h3, h6, h4, h7, h5⟩ := k
    simp only [Go.Am.blk] at hw hhw
    exact ⟨by rw [hι]; exact h1, by rw [hι, hhw]; exact h2, arr, T, lo, hi, by rw [hι, hw]; exact h3, h6, h4, h7, fun i y hy => (h5 i y hy).mono x⟩
  | tok n T =>
    simp only [Go.Am.blk] at hw hhw
    simp only [BoxOk] at k ⊢
    rw [htk, hw, hhw]
    exact k
  | iter s p =>
    obtain ⟨h1, h2, s', h3, h4⟩ := k
    simp only [Go.Am.blk] at hw hhw
    exact ⟨by rw [hι]; exact h1, by rw [hι, hhw]; exact h2, s', h3, by rw [hι, hw]; exact h4⟩

theorem Ok.cells {w0 : World} {g : G} {e : Env} {tm : Array Value} {h : Hp} {w : World} (k : Ok (N0 := N0) w0 g e tm h w) {b : Nat} {cs : List PV} (hb : getBox h b = some cs) :
    N0 ≤ g.ι b ∧ g.hw (g.ι b) = none ∧ ∃ arr T lo hi, w.heap[g.ι b]? = some (.cells arr T (lo, hi)) ∧ (lo < hi → arr.size ≤ lo) ∧ cs.length ≤ arr.size ∧ (∀ T', cs[0]? = some (.bnil T') → T' = T ∧ arr.size = cs.length) ∧ ∀ (k : Nat) (x : PV), cs[k]? = some x → RV N0 g w x (arr.getD k undef) :=
  k.box b _ (box_of_get hb)

theorem ok_size {w0 : World} {g : G} {e : Env} {tm : Array Value} {h : Hp} {w : World} (k : Ok (N0 := N0) w0 g e tm h w) : N0 ≤ w.heap.size := by
  rw [← k.hN]; exact k.below.size

/-- A slot is written. -/
theorem Ok.put {w0 : World} {g : G} {e : Env} {tm : Array Value} {h : Hp} {w : World} (k : Ok (N0 := N0) w0 g e tm h w) {d : Nat} (hd : d < tm.size) {v : PV} {u : Value}
    (hv : RV N0 g w v u) : Ok (N0 := N0) w0 g ((d, v) :: e) (tm.setIfInBounds d u) h w where
  n := k.n
  hN := k.hN
  below := k.below
  inj := k.inj
  box := k.box
  arr := k.arr
  env := fun t x hx => by
    simp only [look] at hx
    split at hx
    · rename_i ht
      simp only [Option.some.injEq] at hx
      subst ht; subst hx
      simpa [Array.getD_eq_getD_getElem?, hd] using hv
    · rename_i ht
      have := k.env t x hx
      simpa [Array.getD_eq_getD_getElem?, Array.getElem?_setIfInBounds, ht] using this

theorem Ok.sub {w0 : World} {g : G} {e e' : Env} {tm : Array Value} {h : Hp} {w : World} (k : Ok (N0 := N0) w0 g e tm h w) (hs : ∀ t v, look e' t = some v → look e t = some v) :
    Ok (N0 := N0) w0 g e' tm h w := ⟨k.n, k.hN, k.below, k.inj, k.box, k.arr, fun t v hv => k.env t v (hs t v hv)⟩

theorem look_prune : ∀ (ts : List Nat) (e : Env) (t : Nat) (v : PV), look (prune ts e) t = some v → look e t = some v
  | [], e, t, v, h => by simp [prune, look] at h
  | s :: ts, e, t, v, h => by
    simp only [prune] at h
    split at h
    · rename_i x hx
      simp only [look] at h
      split at h
      · rename_i hst
        subst hst
        rw [hx]; exact h
      · exact look_prune ts e t v h
    · exact look_prune ts e t v h

/-- The world goes on beside the boxes. -/
theorem Ok.world {w0 : World} {g g' : G} {e : Env} {tm : Array Value} {h : Hp} {w w' : World} (k : Ok (N0 := N0) w0 g e tm h w) (x : Ext N0 g w g' w') (hn : g'.n = g.n)
    (hb : Below N0 w w') (hbox : ∀ b bx, box? h b = some bx → w'.heap[blk g b bx]? = w.heap[blk g b bx]? ∧ g'.hw (blk g b bx) = g.hw (blk g b bx)) (htk : ∀ b, b < g.n → g'.tk b = g.tk b)
    (harr : ∀ c m, g'.hw c = some m → N0 ≤ c ∧ c < w'.heap.size) : Ok (N0 := N0) w0 g' e tm h w' where
  n := hn.trans k.n
  hN := k.hN
  below := k.below.trans hb
  inj := fun b c y z hy hz he => by
    have hb : b < g.n := by rw [k.n]; exact lt_of_box hy
    have hc : c < g.n := by rw [k.n]; exact lt_of_box hz
    have e1 : ∀ (b : Nat) (y : Box), b < g.n → blk g' b y = blk g b y := by
      intro b y hb
      cases y <;> simp only [blk, x.ι b hb, htk b hb]
    rw [e1 b y hb, e1 c z hc] at he
    exact k.inj b c y z hy hz he
  box := fun b bx hbx => by
    have hb : b < g.n := by rw [k.n]; exact lt_of_box hbx
    exact (k.box b bx hbx).mono x hb (hbox b bx hbx).1 (hbox b bx hbx).2 (htk b hb)
  arr := harr
  env := fun t v hv => (k.env t v hv).mono x

end
end Go.Am
