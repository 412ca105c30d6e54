/- 'Am': what an argument that is read as data is to the machine.
   By the session's AI agent. -/
import Derived.Test.YthhceeaconflnaaDoorAm20
import GoSem.ClaimChange
import Derived.ChangeArms
import Derived.ChangeOld
import Derived.DataReads
import Derived.SizedLaws
namespace Go.Am
set_option linter.unusedVariables false

def rowV (P : Program) (e : TypeId) (r : List PV) : PV :=
  match P.underlying e with
  | some (.struct _) => .agg r
  | _ => r.headD .undef

/-- The cells of a value of a type made of bools, whole numbers, texts, structs and slices of such. -/
inductive Sh (P : Program) : TypeId → List PV → Prop where
  | bool {t} (b : Bool) (ht : P.underlying t = some .bool) : Sh P t [.bool b]
  | int {t} (k : IntKind) (n : Int) (ht : P.underlying t = some (.int k)) (hn : (Lit.int k n).wf = true) : Sh P t [.int k n]
  | str {t} (l : List UInt8) (ht : P.underlying t = some .string) (hl : l.length ≤ reachBytes) : Sh P t [.str l]
  | nils {t e} (ht : P.underlying t = some (.slice e)) : Sh P t [.nils]
  | sl {t e} (rows : List (List PV)) (ht : P.underlying t = some (.slice e)) (hr : ∀ r ∈ rows, Sh P e r) (hl : ∀ r ∈ rows, r.length = P.cellsOf e) (hn : rows.length ≤ maxLen) (hb : rows.length * P.bytesOf e ≤ reachBytes) : Sh P t [.sl .no (P.cellsOf e) (rows.map (rowV P e))]
  | struct {t} (fs : Array Field) (cs : List PV) (ht : P.underlying t = some (.struct fs)) (hn : cs.length = P.cellsOf t)
      (hf : ∀ (i : Nat) (f : Field), fs[i]? = some f → Sh P f.type ((cs.drop f.offset).take (P.cellsOf f.type))) : Sh P t cs

theorem Sh.row {P : Program} {e : TypeId} {r : List PV} (h : Sh P e r) : (rowV P e r).cells = r := by
  cases h with
  | bool b ht => simp [rowV, ht, PV.cells]
  | int k n ht => simp [rowV, ht, PV.cells]
  | str l ht => simp [rowV, ht, PV.cells]
  | nils ht => simp [rowV, ht, PV.cells]
  | sl rows ht => simp [rowV, ht, PV.cells]
  | struct fs cs ht => simp [rowV, ht, PV.cells]

/-- Do a struct's fields lie one behind the other? -/
def tiles (P : Program) : Nat → List Field → Nat → Bool
  | off, [], tot => off == tot
  | off, f :: r, tot => f.offset == off && tiles P (off + P.cellsOf f.type) r tot
theorem tiles_le {P : Program} : ∀ (fl : List Field) (off tot : Nat), tiles P off fl tot = true → off ≤ tot
  | [], off, tot, h => by simp [tiles] at h; omega
  | f :: r, off, tot, h => by
    simp only [tiles, Bool.and_eq_true] at h
    have := tiles_le r _ _ h.2
    omega
/-- Is a type made of these alone? -/
def plainT (P : Program) : Nat → TypeId → Bool
  | 0, _ => false
  | n + 1, t => match P.underlying t with
    | some .bool | some (.int _) | some .string => true
    | some (.slice e) => decide (0 < P.cellsOf e) && plainT P n e
    | some (.struct fs) => tiles P 0 fs.toList (P.cellsOf t) && fs.toList.all fun f => plainT P n f.type
    | _ => false

theorem exists_rows {α : Type} (Q : Nat → α → Prop) : ∀ n, (∀ i, i < n → ∃ r, Q i r) → ∃ rows : List α, rows.length = n ∧ ∀ (i : Nat) r, rows[i]? = some r → Q i r
  | 0, _ => ⟨[], rfl, fun i r h => by simp at h⟩
  | n + 1, h => by
    obtain ⟨rows, h1, h2⟩ := exists_rows Q n (fun i hi => h i (by omega))
    obtain ⟨r, hr⟩ := h n (by omega)
    refine ⟨rows ++ [r], by simp [h1], fun i r' hi => ?_⟩
    by_cases hin : i < n
    · rw [List.getElem?_append_left (by omega)] at hi; exact h2 i r' hi
    · have hlt := (List.getElem?_eq_some_iff.1 hi).1
      simp at hlt
      have : i = n := by omega
      subst this
      rw [List.getElem?_append_right (by omega), h1] at hi
      simp at hi
      subst hi
      exact hr

theorem cell_spot {w : World} {b o : Nat} {sp : Option Nat} {u : Value} (h : w.cell? ⟨b, o, sp⟩ = some u) : sp = none := by
  unfold World.cell? at h
  split at h
  · rename_i c _ _ hq
    cases sp with
    | none => rfl
    | some s => simp at h
  · cases h

theorem weights_all {H : Type} {P : Program} {e : TypeId} : ∀ {l : List (DataW H)} {d : DataW H}, d ∈ l → ∀ n ∈ d.weights P e, n ∈ DataW.weightsAll P e l
  | d0 :: l, d, hd, n, hn => by
    simp only [DataW.weightsAll, List.mem_append]
    simp only [List.mem_cons] at hd
    rcases hd with rfl | hd
    · exact .inl hn
    · exact .inr (weights_all hd n hn)
theorem open_fields {P : Program} {cs : List Value} {R : PV → Value → Prop} : ∀ (fl : List Field) (off : Nat), tiles P off fl cs.length = true →
    (∀ f ∈ fl, ∃ v : List PV, v.length = ((cs.drop f.offset).take (P.cellsOf f.type)).length ∧ (∀ (j : Nat) x, v[j]? = some x → ∃ u, ((cs.drop f.offset).take (P.cellsOf f.type))[j]? = some u ∧ R x u) ∧ Sh P f.type v) →
    ∃ vs : List PV, off + vs.length = cs.length ∧ (∀ (j : Nat) x, vs[j]? = some x → ∃ u, cs[off + j]? = some u ∧ R x u) ∧ ∀ f ∈ fl, off ≤ f.offset ∧ Sh P f.type ((vs.drop (f.offset - off)).take (P.cellsOf f.type))
  | [], off, ht, h => by
    simp [tiles] at ht
    exact ⟨[], by simp [ht], fun j x hx => by simp at hx, fun f hf => by simp at hf⟩
  | f :: fl, off, ht, h => by
    simp only [tiles, Bool.and_eq_true, beq_iff_eq] at ht
    obtain ⟨rfl, ht⟩ := ht
    have hle := tiles_le _ _ _ ht
    obtain ⟨v, h1, h2, h3⟩ := h f (by simp)
    have hv : v.length = P.cellsOf f.type := by rw [h1]; simp; omega
    obtain ⟨vs, q1, q2, q3⟩ := open_fields fl _ ht (fun f' hf' => h f' (by simp [hf']))
    refine ⟨v ++ vs, by simp; omega, fun j x hx => ?_, fun f' hf' => ?_⟩
    · by_cases hj : j < v.length
      · rw [List.getElem?_append_left hj] at hx
        obtain ⟨u, hu, hr⟩ := h2 j x hx
        refine ⟨u, ?_, hr⟩
        rw [List.getElem?_take, if_pos (by omega), List.getElem?_drop] at hu
        exact hu
      · rw [List.getElem?_append_right (by omega)] at hx
        obtain ⟨u, hu, hr⟩ := q2 _ x hx
        refine ⟨u, ?_, hr⟩
        rw [← hu]; congr 1; omega
    · simp only [List.mem_cons] at hf'
      rcases hf' with rfl | hf'
      · refine ⟨Nat.le_refl _, ?_⟩
        rw [Nat.sub_self, List.drop_zero, List.take_append_of_le_length (by omega), ← hv, List.take_length]
        exact h3
      · obtain ⟨r1, r2⟩ := q3 f' hf'
        refine ⟨by omega, ?_⟩
        rw [List.drop_append, List.drop_eq_nil_of_le (by omega), List.nil_append, show f'.offset - f.offset - v.length = f'.offset - (f.offset + P.cellsOf f.type) by omega]
        exact r2

theorem open_cells {H : Type} {enc : TypeId × Value → H} {P : Program} {w : World} {spare : Nat → Bool} {held : Bool} {g : G} : ∀ (n m : Nat) (t : TypeId) (cs : List Value) (x : DataW H × List MemPlace),
    DataW.trod enc P w 0 spare held n t cs = some x → plainT P m t = true → (∀ k ∈ x.1.weights P t, k ≤ reachBytes) →
    ∃ vs : List PV, vs.length = cs.length ∧ (∀ (j : Nat) v, vs[j]? = some v → ∃ u, cs[j]? = some u ∧ RV w.heap.size g w v u) ∧ Sh P t vs
  | 0, m, t, cs, x, h, hp, hwt => by simp [DataW.trod] at h
  | n + 1, 0, t, cs, x, h, hp, hwt => by simp [plainT] at hp
  | n + 1, m + 1, t, cs, x, h, hp, hwt => by
    rw [plainT] at hp
    split at hp
    · rename_i ht
      obtain ⟨b, rfl, _⟩ := DataW.trod_bool ht h
      refine ⟨[.bool b], rfl, fun j v hv => ?_, .bool b ht⟩
      cases j with
      | zero => simp at hv; subst hv; exact ⟨_, rfl, .bool b⟩
      | succ j => simp at hv
    · rename_i k ht
      obtain ⟨z, rfl, _, hwf⟩ := DataW.trod_int ht h
      refine ⟨[.int k z], rfl, fun j v hv => ?_, .int k z ht hwf⟩
      cases j with
      | zero => simp at hv; subst hv; exact ⟨_, rfl, .int k z⟩
      | succ j => simp at hv
    · rename_i ht
      obtain ⟨s, rfl, rfl, hs⟩ := DataW.trod_string ht h
      refine ⟨[.str s.data.toList], rfl, fun j v hv => ?_, .str _ ht (hwt _ (by simp [DataW.weights]))⟩
      cases j with
      | zero => simp at hv; subst hv; exact ⟨_, rfl, .str _ s rfl⟩
      | succ j => simp at hv
    · rename_i e ht
      simp only [Bool.and_eq_true, decide_eq_true_eq] at hp
      rcases DataW.trod_slice ht h with ⟨rfl, _⟩ | ⟨a, len, cap, elems, rest, n', hn', rfl, rfl, _, hlc, hcm, hel, helems, _, _⟩
      · refine ⟨[.nils], rfl, fun j v hv => ?_, .nils ht⟩
        cases j with
        | zero => simp at hv; subst hv; exact ⟨_, rfl, .nils⟩
        | succ j => simp at hv
      · obtain rfl : n' = n := by omega
        have hq : ∀ i, i < len → ∃ r : List PV, r.length = P.cellsOf e ∧ Sh P e r ∧ ∀ (j : Nat) v, r[j]? = some v → ∃ u, w.cell? ((a.add (i * P.cellsOf e)).add j) = some u ∧ RV w.heap.size g w v u := by
          intro i hi
          have hlt : i < elems.length := by omega
          have hei := helems i hi
          rw [List.getElem?_eq_getElem hlt, Option.bind_eq_some_iff] at hei
          obtain ⟨ci, hci, hti⟩ := hei
          obtain ⟨_, hlen, hcell⟩ := World.cells?_some hci
          obtain ⟨r, h1, h2, h3⟩ := open_cells n' m e ci _ hti hp.2 (fun k hk => hwt k (by
            simp only [DataW.weights, ht, List.mem_cons, List.mem_append]
            exact .inr (.inl (weights_all (List.mem_map.2 ⟨_, List.getElem_mem hlt, rfl⟩) k hk))))
          refine ⟨r, by rw [h1, hlen], h3, fun j v hv => ?_⟩
          obtain ⟨u, hu, hr⟩ := h2 j v hv
          have hj : j < P.cellsOf e := by rw [← hlen, ← h1]; exact (List.getElem?_eq_some_iff.1 hv).1
          exact ⟨u, by rw [hcell j hj]; exact hu, hr⟩
        obtain ⟨rows, hrl, hrq⟩ := exists_rows _ len hq
        have hmem : ∀ r ∈ rows, ∃ i, rows[i]? = some r := fun r hr => List.mem_iff_getElem?.1 hr
        have hcl : ∀ (i j : Nat) (r : List PV) (v : PV), rows[i]? = some r → r[j]? = some v → ∃ u, w.cell? ⟨a.block, a.off + (i * P.cellsOf e + j), none⟩ = some u ∧ RV w.heap.size g w v u := by
          intro i j r v hi hj
          obtain ⟨u, hu, hr⟩ := (hrq i r hi).2.2 j v hj
          refine ⟨u, ?_, hr⟩
          have hsp : (a.add (i * P.cellsOf e)).add j = ⟨a.block, a.off + (i * P.cellsOf e + j), ((a.add (i * P.cellsOf e)).add j).spot⟩ := by
            unfold Addr.add
            split <;> split <;> simp_all <;> omega
          rw [hsp] at hu
          have := cell_spot hu
          rw [this] at hu
          exact hu
        have hspot : rows ≠ [] → a.spot = none := by
          intro hne
          obtain ⟨r, hr0⟩ : ∃ r, rows[0]? = some r := by
            cases rows with
            | nil => exact (hne rfl).elim
            | cons r _ => exact ⟨r, rfl⟩
          obtain ⟨q1, _, q3⟩ := hrq 0 r hr0
          obtain ⟨v, hv⟩ : ∃ v, r[0]? = some v := ⟨_, List.getElem?_eq_getElem (by omega)⟩
          obtain ⟨u, hu, _⟩ := q3 0 v hv
          simp only [Nat.zero_mul, Addr.add, if_true] at hu
          exact cell_spot (b := a.block) (o := a.off) hu
        refine ⟨[.sl .no (P.cellsOf e) (rows.map (rowV P e))], rfl, fun j v hv => ?_, .sl rows ht (fun r hr => ?_) (fun r hr => ?_) (by omega) ?_⟩
        · cases j with
          | succ j => simp at hv
          | zero =>
            simp at hv
            subst hv
            refine ⟨_, rfl, ?_⟩
            have hrow : ∀ (i : Nat) (z : PV), (rows.map (rowV P e))[i]? = some z → ∃ r, rows[i]? = some r ∧ z.cells = r := by
              intro i z hz
              rw [List.getElem?_map, Option.map_eq_some_iff] at hz
              obtain ⟨r, hr, rfl⟩ := hz
              exact ⟨r, hr, (hrq i r hr).2.1.row⟩
            have := RV.sl (N0 := w.heap.size) (g := g) (w := w) .no (P.cellsOf e) (rows.map (rowV P e)) a.block a.off cap (fun i j => (w.cell? ⟨a.block, a.off + (i * P.cellsOf e + j), none⟩).getD Go.undef)
              (by simp; omega) (by simp) ?_ ?_ ?_ ?_ a.spot (fun hne => hspot (by simpa using hne)) (by simp)
            · simpa [hrl] using this
            · intro i z hz
              obtain ⟨r, hr, hc⟩ := hrow i z hz
              rw [hc]; exact (hrq i r hr).1
            · intro i j hi hj
              simp at hi
              obtain ⟨r, hr⟩ : ∃ r, rows[i]? = some r := ⟨_, List.getElem?_eq_getElem hi⟩
              obtain ⟨v, hv⟩ : ∃ v, r[j]? = some v := ⟨_, List.getElem?_eq_getElem (by rw [(hrq i r hr).1]; exact hj)⟩
              obtain ⟨u, hu, _⟩ := hcl i j r v hr hv
              rw [hu]; rfl
            · intro i j z y hz hy
              obtain ⟨r, hr, hc⟩ := hrow i z hz
              rw [hc] at hy
              obtain ⟨u, hu, hru⟩ := hcl i j r y hr hy
              rw [hu]; exact hru
            · intro hne
              refine .inl ?_
              obtain ⟨r, hr0⟩ : ∃ r, rows[0]? = some r := by
                cases rows with
                | nil => exact (hne rfl).elim
                | cons r _ => exact ⟨r, rfl⟩
              obtain ⟨v, hv⟩ : ∃ v, r[0]? = some v := ⟨_, List.getElem?_eq_getElem (by rw [(hrq 0 r hr0).1]; exact hp.1)⟩
              obtain ⟨u, hu, _⟩ := hcl 0 0 r v hr0 hv
              exact World.block_lt_of_cell? w ⟨a.block, _, none⟩ hu
        · obtain ⟨i, hi⟩ := hmem r hr; exact (hrq i r hi).2.1
        · obtain ⟨i, hi⟩ := hmem r hr; exact (hrq i r hi).1
        · have := hwt _ (by simp only [DataW.weights, ht]; exact List.mem_cons_self)
          simp only [List.length_map] at this
          refine Nat.le_trans (Nat.mul_le_mul_right _ ?_) this
          omega
    · rename_i fs ht
      simp only [Bool.and_eq_true, List.all_eq_true] at hp
      obtain ⟨xs, n', hn', rfl, hlen, hxl, hx⟩ := DataW.trod_struct ht h
      obtain rfl : n' = n := by omega
      obtain ⟨vs, q1, q2, q3⟩ := open_fields (P := P) (cs := cs) (R := fun v u => RV w.heap.size g w v u) fs.toList 0 (by rw [hlen]; exact hp.1) (fun f hf => by
        obtain ⟨i, hi⟩ := List.mem_iff_getElem?.1 hf
        have hi' : fs[i]? = some f := by simpa using hi
        have hlt : i < xs.length := by rw [hxl]; exact (Array.getElem?_eq_some_iff.1 hi').1
        have := hx i f hi'
        rw [List.getElem?_eq_getElem hlt] at this
        exact open_cells n' m f.type _ _ this (hp.2 f hf) fun k hk => hwt k (by
          simp only [DataW.weights, ht]
          exact DataW.weights_mem_each (j := i) (t := f.type) (d := xs[i].1) (by rw [List.getElem?_map, hi]; rfl) (by rw [List.getElem?_map, List.getElem?_eq_getElem hlt]; rfl) k hk))
      refine ⟨vs, by omega, fun j v hv => by simpa using q2 j v hv, .struct fs vs ht (by omega) fun i f hf => ?_⟩
      have := (q3 f (List.mem_iff_getElem?.2 ⟨i, by simpa using hf⟩)).2
      simpa using this
    · cases hp

/-- An argument of one cell. -/
theorem open_arg {H : Type} {enc : TypeId × Value → H} {P : Program} {w : World} {spare : Nat → Bool} {held : Bool} {g : G} {t : TypeId} {v : Value} {d : DataW H} {ps : List MemPlace}
    (h : DataW.Trod enc P w 0 spare held t v d ps) (hv : v.cells.toList = [v]) (m : Nat) (hp : plainT P m t = true) (hwt : ∀ k ∈ d.weights P t, k ≤ reachBytes) : ∃ x, RV w.heap.size g w x v ∧ Sh P t [x] := by
  obtain ⟨fuel, h⟩ := h
  obtain ⟨vs, h1, h2, h3⟩ := open_cells (g := g) fuel m t _ _ h hp hwt
  rw [hv] at h1 h2
  cases vs with
  | nil => simp at h1
  | cons x r =>
    cases r with
    | cons y r => simp at h1
    | nil =>
      obtain ⟨u, hu, hr⟩ := h2 0 x rfl
      simp at hu
      subst hu
      exact ⟨x, hr, h3⟩

section
variable {P : Program} {t : TypeId} {cs : List PV}
theorem Sh.inv_bool (ht : P.underlying t = some .bool) (h : Sh P t cs) : ∃ b, cs = [.bool b] := by
  cases h with
  | bool b => exact ⟨b, rfl⟩
  | int k n h => rw [ht] at h; cases h
  | str l h => rw [ht] at h; cases h
  | nils h => rw [ht] at h; cases h
  | sl rows h => rw [ht] at h; cases h
  | struct fs cs h => rw [ht] at h; cases h
theorem Sh.inv_int {k : IntKind} (ht : P.underlying t = some (.int k)) (h : Sh P t cs) : ∃ n, cs = [.int k n] ∧ (Lit.int k n).wf = true := by
  cases h with
  | bool b h => rw [ht] at h; cases h
  | int k' n h hn => rw [ht] at h; cases h; exact ⟨n, rfl, hn⟩
  | str l h => rw [ht] at h; cases h
  | nils h => rw [ht] at h; cases h
  | sl rows h => rw [ht] at h; cases h
  | struct fs cs h => rw [ht] at h; cases h
theorem Sh.inv_str (ht : P.underlying t = some .string) (h : Sh P t cs) : ∃ l, cs = [.str l] ∧ l.length ≤ reachBytes := by
  cases h with
  | bool b h => rw [ht] at h; cases h
  | int k n h => rw [ht] at h; cases h
  | str l h hl => exact ⟨l, rfl, hl⟩
  | nils h => rw [ht] at h; cases h
  | sl rows h => rw [ht] at h; cases h
  | struct fs cs h => rw [ht] at h; cases h
theorem Sh.inv_slice {e : TypeId} (ht : P.underlying t = some (.slice e)) (h : Sh P t cs) :
    cs = [.nils] ∨ ∃ rows : List (List PV), cs = [.sl .no (P.cellsOf e) (rows.map (rowV P e))] ∧ (∀ r ∈ rows, Sh P e r ∧ r.length = P.cellsOf e) ∧ rows.length ≤ maxLen ∧ rows.length * P.bytesOf e ≤ reachBytes := by
  cases h with
  | bool b h => rw [ht] at h; cases h
  | int k n h => rw [ht] at h; cases h
  | str l h => rw [ht] at h; cases h
  | nils h => exact .inl rfl
  | sl rows h hr hl hn hb => rw [ht] at h; cases h; exact .inr ⟨rows, rfl, fun r hm => ⟨hr r hm, hl r hm⟩, hn, hb⟩
  | struct fs cs h => rw [ht] at h; cases h
theorem Sh.inv_struct {fs : Array Field} (ht : P.underlying t = some (.struct fs)) (h : Sh P t cs) :
    cs.length = P.cellsOf t ∧ ∀ (i : Nat) (f : Field), fs[i]? = some f → Sh P f.type ((cs.drop f.offset).take (P.cellsOf f.type)) := by
  cases h with
  | bool b h => rw [ht] at h; cases h
  | int k n h => rw [ht] at h; cases h
  | str l h => rw [ht] at h; cases h
  | nils h => rw [ht] at h; cases h
  | sl rows h => rw [ht] at h; cases h
  | struct fs' cs h hn hf => rw [ht] at h; cases h; exact ⟨hn, hf⟩
theorem rowV_struct {fs : Array Field} (ht : P.underlying t = some (.struct fs)) (r : List PV) : rowV P t r = .agg r := by simp [rowV, ht]
theorem rowV_str (ht : P.underlying t = some .string) (r : List PV) : rowV P t r = r.headD .undef := by simp [rowV, ht]
theorem rowV_int {k : IntKind} (ht : P.underlying t = some (.int k)) (r : List PV) : rowV P t r = r.headD .undef := by simp [rowV, ht]
/-- All of a list come of values: the values. -/
theorem exists_map {α β : Type} (f : α → β) (Q : α → Prop) : ∀ l : List β, (∀ x ∈ l, ∃ a, x = f a ∧ Q a) → ∃ as : List α, l = as.map f ∧ ∀ a ∈ as, Q a
  | [], _ => ⟨[], rfl, fun a h => by simp at h⟩
  | x :: l, h => by
    obtain ⟨as, rfl, h2⟩ := exists_map f Q l (fun y hy => h y (by simp [hy]))
    obtain ⟨a, rfl, ha⟩ := h x (by simp)
    exact ⟨a :: as, rfl, fun b hb => by
      simp at hb
      rcases hb with rfl | hb
      · exact ha
      · exact h2 b hb⟩
end
end Go.Am
