/- 'Am': the operations, one by one (fifth part): what is built, and append.
   By the session's AI agent. -/
import Derived.Test.YthhceeaconflnaaDoorAm10
namespace Go.Am
open Go.RowKit (Below)
set_option linter.unusedVariables false
set_option linter.unusedSimpArgs false
set_option linter.unusedSectionVars false

theorem foldl_set (off : Nat) : ∀ (vs : List Value) (j0 : Nat) (arr : Array Value), ((vs.zipIdx j0).foldl (fun cs (x : Value × Nat) => cs.setIfInBounds (off + x.2) x.1) arr).size = arr.size ∧
    ∀ q, ((vs.zipIdx j0).foldl (fun cs (x : Value × Nat) => cs.setIfInBounds (off + x.2) x.1) arr)[q]? =
      if off + j0 ≤ q ∧ q < off + j0 + vs.length ∧ q < arr.size then vs[q - (off + j0)]? else arr[q]?
  | [], j0, arr => ⟨rfl, fun q => by simp; omega⟩
  | v :: vs, j0, arr => by
    simp only [List.zipIdx_cons, List.foldl_cons]
    obtain ⟨h1, h2⟩ := foldl_set off vs (j0 + 1) (arr.setIfInBounds (off + j0) v)
    refine ⟨by rw [h1]; simp, fun q => ?_⟩
    rw [h2, Array.size_setIfInBounds, List.length_cons]
    by_cases hq : q = off + j0
    · subst hq
      rw [if_neg (by omega)]
      by_cases hlt : off + j0 < arr.size
      · rw [if_pos (by omega)]
        simp [hlt]
      · rw [if_neg (by omega)]
        simp [hlt]
    · rw [Array.getElem?_setIfInBounds_ne (by omega)]
      by_cases hc : off + j0 ≤ q ∧ q < off + j0 + (vs.length + 1) ∧ q < arr.size
      · rw [if_pos (by omega), if_pos hc, show q - (off + j0) = (q - (off + (j0 + 1))) + 1 by omega, List.getElem?_cons_succ]
      · rw [if_neg (by omega), if_neg hc]

theorem put_cells (off : Nat) (vs arr : Array Value) : (vs.zipIdx.foldl (fun cs (x : Value × Nat) => cs.setIfInBounds (off + x.2) x.1) arr).size = arr.size ∧
    ∀ q, (vs.zipIdx.foldl (fun cs (x : Value × Nat) => cs.setIfInBounds (off + x.2) x.1) arr)[q]? = if off ≤ q ∧ q < off + vs.size ∧ q < arr.size then vs[q - off]? else arr[q]? := by
  have := foldl_set off vs.toList 0 arr
  rw [← Array.foldl_toList, Array.toList_zipIdx]
  simpa using this

section
variable {N0 : Nat} {P : Program} {w0 : World} {g : G} {e : Env} {a : Act} {h : Hp} {w : World}
variable {o : Oper} {md : Nat} {orc : Orc} {base : Nat} {draw : Bool} {aop : AOp} {v : PV} {e' : Env} {h' : Hp} {gl : Globs} (hgl : GlobOk gl N0 w0)
include hgl

/-- An array of cells holds elements in a row. -/
def Holds (N0 : Nat) (g : G) (w : World) (sz : Nat) (es : List PV) (arr : Array Value) : Prop :=
  arr.size = es.length * sz ∧ (∀ (i : Nat) (x : PV), es[i]? = some x → x.cells.length = sz) ∧
  ∀ (i j : Nat) (x y : PV), es[i]? = some x → x.cells[j]? = some y → RV N0 g w y (arr.getD (i * sz + j) Go.undef)

omit hgl in
theorem div_of {i j q sz : Nat} (hj : j < sz) (h1 : i * sz ≤ q) (h2 : q < i * sz + sz) {i' : Nat} (hq : q = i' * sz + j) : i' = i := by
  rcases Nat.lt_trichotomy i i' with h | h | h
  · have := Nat.mul_le_mul_right sz h
    rw [Nat.succ_mul] at this
    omega
  · exact h.symm
  · have := Nat.mul_le_mul_right sz h
    rw [Nat.succ_mul] at this
    omega

theorem fill_rv (k : Ok (N0 := N0) w0 g e a.tmps h w) {sz : Nat} (hpos : sz ≠ 0) : ∀ (ps : List (Nat × Operand)) (ps' : List (Nat × Opnd)) (l : List (Nat × PV)) (es es' : List PV) (arr : Array Value),
    cPartsS gl ps = some ps' → evParts e ps' = some l → fillParts sz l es = some es' → Holds N0 g w sz es arr →
    ∃ arr', Instr.fill (fun i => some (i * sz, sz)) arr (ps.map fun x => (x.1, a.eval x.2)) = some arr' ∧ Holds N0 g w sz es' arr' ∧ es'.length = es.length
  | [], ps', l, es, es', arr, h1, h2, h3, h4 => by
    simp [cPartsS] at h1; subst h1
    simp [evParts] at h2; subst h2
    simp [fillParts] at h3; subst h3
    exact ⟨arr, by simp [Instr.fill], h4, rfl⟩
  | (i, x) :: ps, ps', l, es, es', arr, h1, h2, h3, h4 => by
    simp only [cPartsS, Option.bind_eq_some_iff, Option.map_eq_some_iff] at h1
    obtain ⟨x', hx, ps1, hps, rfl⟩ := h1
    simp only [evParts, Option.bnd_eq_some_iff, Option.map_eq_some_iff] at h2
    obtain ⟨p, hp, l1, hl, rfl⟩ := h2
    simp only [fillParts] at h3
    split at h3
    · rename_i hcond
      obtain ⟨hlen, hil, hscal⟩ := hcond
      have hr := rv_strip (rv_ev hgl k hx hp)
      have hu : strip p ≠ .undef := by intro hq; rw [hq] at hscal; simp [PV.cells, scalar] at hscal
      · have hsz : (a.eval x).cells.size = sz := by rw [(rv_cells hr hu).1, hlen]
        obtain ⟨g1, g2, g3⟩ := h4
        have hle : i * sz + sz ≤ arr.size := by
          rw [g1]
          have := Nat.mul_le_mul_right sz hil
          rwa [Nat.succ_mul] at this
        obtain ⟨c1, c2⟩ := put_cells (i * sz) (a.eval x).cells arr
        have hold : Holds N0 g w sz (es.set i (strip p)) ((a.eval x).cells.zipIdx.foldl (fun cs (x : Value × Nat) => cs.setIfInBounds (i * sz + x.2) x.1) arr) := by
          refine ⟨by rw [c1, List.length_set]; exact g1, ?_, ?_⟩
          · intro i' y hy
            by_cases hii : i = i'
            · subst hii; rw [List.getElem?_set_self hil] at hy; cases hy; exact hlen
            · rw [List.getElem?_set_ne hii] at hy; exact g2 i' y hy
          · intro i' j y z hy hz
            rw [Array.getD_eq_getD_getElem?, c2]
            by_cases hii : i = i'
            · subst hii
              rw [List.getElem?_set_self hil] at hy
              cases hy
              have hj : j < sz := by rw [← hlen]; exact (List.getElem?_eq_some_iff.1 hz).1
              rw [if_pos (by omega), show i * sz + j - i * sz = j by omega, ← Array.getD_eq_getD_getElem?]
              exact (rv_cells hr hu).2 j z hz
            · rw [List.getElem?_set_ne hii] at hy
              have hj : j < sz := by rw [← g2 i' y hy]; exact (List.getElem?_eq_some_iff.1 hz).1
              rw [if_neg, ← Array.getD_eq_getD_getElem?]
              · exact g3 i' j y z hy hz
              · rintro ⟨q1, q2, q3⟩
                rw [hsz] at q2
                exact hii (div_of hj q1 q2 rfl).symm
        obtain ⟨arr', f1, f2, f3⟩ := fill_rv k hpos ps ps1 l1 _ es' _ hps hl h3 hold
        refine ⟨arr', ?_, f2, by rw [f3, List.length_set]⟩
        simp only [List.map_cons, Instr.fill]
        rw [if_neg]
        · exact f1
        · simp only [hsz, ne_eq, not_true_eq_false, Bool.or_eq_true, decide_eq_true_eq, false_or]
          simp
          omega
    · cases h3

theorem g_buildSl (k : Ok (N0 := N0) w0 g e a.tmps h w) {t : TypeId} {len : Nat} {ps : Array (Nat × Operand)} (ho : o.op = .buildSlice t len ps) (hc : cOp P gl md o = some aop)
    (hs : step orc base draw aop e h = some (v, e', h')) : Gives N0 P w0 g a w (execOp a.eval o) v e' h' := by
  simp only [cOp, ho] at hc
  split at hc
  · rename_i el hu
    simp only [Option.bind_eq_some_iff] at hc
    obtain ⟨n, hn, gg, hg, z, hz, hc⟩ := hc
    split at hc
    · rename_i hcond
      simp only [Bool.and_eq_true, decide_eq_true_eq, bne_iff_ne, ne_eq, beq_iff_eq, Bool.or_eq_true] at hcond
      obtain ⟨⟨⟨⟨hsmall, hn0⟩, hzl⟩, hzs⟩, hg1⟩ := hcond
      simp only [Option.map_eq_some_iff] at hc
      obtain ⟨ps', hps, rfl⟩ := hc
      simp only [step, Option.bnd_eq_some_iff, Option.some.injEq, Prod.mk.injEq] at hs
      obtain ⟨l, hl, es, hes, rfl, rfl, rfl⟩ := hs
      obtain ⟨i, u, hi, hiu, husz, hzr⟩ := rv_zero (N0 := N0) hz
      have hisz : i.size = n := by simp only [sizeOf, Option.map_eq_some_iff] at hn; obtain ⟨i', h1, h2⟩ := hn; rw [hi] at h1; cases h1; exact h2
      -- what it begins with
      have hcells0 : (if gg then PV.agg z else z.headD .undef).cells = z := by
        cases gg with
        | true => rfl
        | false =>
          have h1 : n = 1 := by simpa using hg1
          rw [h1] at hzl
          match z, hzl, hzs with
          | [x], _, hx =>
            simp only [List.all_cons, List.all_nil, Bool.and_true] at hx
            cases x <;> simp_all [PV.cells, scalar]
      let cells0 : Array Value := (Array.range (len * n)).map (u.cells[· % u.cells.size]!)
      have hH : Holds N0 g w n (List.replicate len (if gg then PV.agg z else z.headD .undef)) cells0 := by
        refine ⟨by simp [cells0], ?_, ?_⟩
        · intro q x hx
          rw [List.getElem?_replicate] at hx
          split at hx
          · cases hx; rw [hcells0, hzl]
          · cases hx
        · intro q j x y hx hy
          rw [List.getElem?_replicate] at hx
          split at hx
          · rename_i hq
            cases hx
            rw [hcells0] at hy
            have hj : j < n := by rw [← hzl]; exact (List.getElem?_eq_some_iff.1 hy).1
            have hlt : q * n + j < len * n := mul_lt_of hq hj
            have husz' : u.cells.size = n := by omega
            have hmod : (q * n + j) % u.cells.size = j := by
              rw [husz', Nat.mul_comm, Nat.mul_add_mod, Nat.mod_eq_of_lt hj]
            have := hzr g w j y hy
            have hval : cells0.getD (q * n + j) Go.undef = u.cells.getD j Go.undef := by
              simp only [cells0, Array.getD_eq_getD_getElem?, Array.getElem?_map]
              rw [show (Array.range (len * n))[q * n + j]? = some (q * n + j) by simp [hlt]]
              simp only [Option.map_some, Option.getD_some]
              rw [hmod]
              have hj' : j < u.cells.size := by omega
              simp [hj']
            rw [hval]; exact this
          · cases hx
      obtain ⟨arr, f1, ⟨f2, f3, f4⟩, f5⟩ := fill_rv hgl k hn0 ps.toList ps' l _ es cells0 hps hl hes hH
      have hlen : es.length = len := by simpa using f5
      obtain ⟨g', hx', hok, hhw⟩ := ok_fixed k arr el (len * n) (w.alloc (.cells arr el)) (lo := 0) (hi := 0) (.inl rfl)
      refine ⟨_, .slice (some ⟨w.heap.size, 0, none⟩) len len, _, g', ?_, .inl rfl, hx', hok, ?_⟩
      · have hsm : ¬ (len * n > 2 ^ 24) := by simp; omega
        have hparts : (ps.map fun (x : Nat × Operand) => (x.1, a.eval x.2)).toList = ps.toList.map fun x => (x.1, a.eval x.2) := by simp
        simp only [execOp, ho, Instr.buildSlice, Sem.run_bind, run_underlying hu, Result.andThen, run_sizeOf' hn, if_neg hsm, Sem.run_pure]
        by_cases h0 : len * n = 0
        · have hl0 : len = 0 := by
            rcases Nat.mul_eq_zero.1 h0 with h' | h'
            · exact h'
            · exact (hn0 h').elim
          subst hl0
          have f1' : Instr.fill (fun i => some (i * n, n)) ((Array.range (0 * n)).map ((#[] : Array Value)[· % (#[] : Array Value).size]!)) (ps.toList.map fun x => (x.1, a.eval x.2)) = some arr := by
            rw [← f1]; congr 1; simp [cells0]
          simp only [if_pos h0, Sem.run_pure, Sem.run_bind, Result.andThen, hparts]
          simp only [f1', newRow, Sem.run_bind]
          simp
        · simp only [if_neg h0, Sem.run_pure, Sem.run_bind, Result.andThen, run_zero hi hiu, hparts]
          have f1' : Instr.fill (fun i => some (i * n, n)) ((Array.range (len * n)).map (u.cells[· % u.cells.size]!)) (ps.toList.map fun x => (x.1, a.eval x.2)) = some arr := f1
          simp only [f1', newRow]
          simp
      · have := RV.sl (N0 := N0) (g := g') (w := w.alloc (.cells arr el)) .full n es w.heap.size 0 len (fun i j => arr.getD (i * n + j) Go.undef) (by omega) (fun _ => hlen.symm) f3 ?_ ?_ ?_ none (fun _ => rfl) (by intro t ht; cases ht)
        · rw [hlen] at this; exact this
        · intro i j hi' hj
          have hlt : i * n + j < arr.size := by rw [f2]; exact mul_lt_of hi' hj
          rw [Nat.zero_add, World.cell?_alloc_new]
          simp [Array.getD_eq_getD_getElem?, hlt]
        · intro i j x y hx hy
          exact (f4 i j x y hx hy).mono hx'
        · intro _
          exact .inr ⟨len * n, hhw, by rw [hlen]; omega⟩
    · cases hc
  · cases hc

omit hgl in
theorem setRange_get : ∀ (vs : List PV) (cs : List PV) (off : Nat), (setRange cs off vs).length = cs.length ∧ ∀ q, (setRange cs off vs)[q]? = if off ≤ q ∧ q < off + vs.length ∧ q < cs.length then vs[q - off]? else cs[q]?
  | [], cs, off => ⟨rfl, fun q => by simp [setRange]; omega⟩
  | v :: vs, cs, off => by
    obtain ⟨h1, h2⟩ := setRange_get vs (cs.set off v) (off + 1)
    refine ⟨by simp only [setRange]; rw [h1, List.length_set], fun q => ?_⟩
    simp only [setRange]
    rw [h2, List.length_set, List.length_cons]
    by_cases hq : off = q
    · subst hq
      rw [if_neg (by omega)]
      by_cases hlt : off < cs.length
      · rw [if_pos (by omega), List.getElem?_set_self hlt]; simp
      · rw [if_neg (by omega), List.getElem?_eq_none (by rw [List.length_set]; omega), List.getElem?_eq_none (by omega)]
    · rw [List.getElem?_set_ne hq]
      by_cases hc : off ≤ q ∧ q < off + (vs.length + 1) ∧ q < cs.length
      · rw [if_pos (by omega), if_pos hc, show q - off = (q - (off + 1)) + 1 by omega, List.getElem?_cons_succ]
      · rw [if_neg (by omega), if_neg hc]

theorem fill_agg (k : Ok (N0 := N0) w0 g e a.tmps h w) {place : Nat → Option (Nat × Nat)} : ∀ (ps : List (Nat × Operand)) (ps' : List (Nat × Nat × Opnd)) (l : List (Nat × Nat × PV)) (cs cs' : List PV) (arr : Array Value),
    (List.map Prod.fst ps).length = ps'.length → (∀ (j : Nat) (p : Nat × Operand) (p' : Nat × Nat × Opnd), ps[j]? = some p → ps'[j]? = some p' → place p.1 = some (p'.1, p'.2.1) ∧ cOpnd gl p.2 = some p'.2.2) →
    evParts3 e ps' = some l → buildAgg l cs = some cs' → arr.size = cs.length → (∀ (q : Nat) (y : PV), cs[q]? = some y → RV N0 g w y (arr.getD q Go.undef)) →
    ∃ arr', Instr.fill place arr (ps.map fun x => (x.1, a.eval x.2)) = some arr' ∧ arr'.size = cs'.length ∧ cs'.length = cs.length ∧ ∀ (q : Nat) (y : PV), cs'[q]? = some y → RV N0 g w y (arr'.getD q Go.undef)
  | [], ps', l, cs, cs', arr, h0, h1, h2, h3, h4, h5 => by
    have : ps' = [] := by cases ps'; rfl; simp at h0
    subst this
    simp [evParts3] at h2; subst h2
    simp [buildAgg] at h3; subst h3
    exact ⟨arr, by simp [Instr.fill], h4, rfl, h5⟩
  | (i, x) :: ps, [], l, cs, cs', arr, h0, h1, h2, h3, h4, h5 => by simp at h0
  | (i, x) :: ps, (off, n, x') :: ps', l, cs, cs', arr, h0, h1, h2, h3, h4, h5 => by
    obtain ⟨hpl, hx⟩ := h1 0 _ _ rfl rfl
    simp only [evParts3, Option.bnd_eq_some_iff, Option.map_eq_some_iff] at h2
    obtain ⟨p, hp, l1, hl, rfl⟩ := h2
    simp only [buildAgg] at h3
    split at h3
    · rename_i hcond
      obtain ⟨hlen, hle, hscal⟩ := hcond
      have hr := (rv_ev hgl k hx hp)
      have hu : p ≠ .undef := by intro hq; rw [hq] at hscal; simp [PV.cells, scalar] at hscal
      obtain ⟨q1, q2⟩ := rv_cells hr hu
      obtain ⟨c1, c2⟩ := put_cells off (a.eval x).cells arr
      obtain ⟨s1, s2⟩ := setRange_get p.cells cs off
      have hsz : (a.eval x).cells.size = n := by rw [q1, hlen]
      have hnew : ∀ (q : Nat) (y : PV), (setRange cs off p.cells)[q]? = some y → RV N0 g w y (((a.eval x).cells.zipIdx.foldl (fun cs (x : Value × Nat) => cs.setIfInBounds (off + x.2) x.1) arr).getD q Go.undef) := by
        intro q y hy
        rw [s2] at hy
        rw [Array.getD_eq_getD_getElem?, c2]
        by_cases hc : off ≤ q ∧ q < off + p.cells.length ∧ q < cs.length
        · rw [if_pos hc] at hy
          rw [if_pos (by omega), ← Array.getD_eq_getD_getElem?]
          exact q2 _ y hy
        · rw [if_neg hc] at hy
          rw [if_neg (by omega), ← Array.getD_eq_getD_getElem?]
          exact h5 q y hy
      obtain ⟨arr', f1, f2, f3, f4⟩ := fill_agg k ps ps' l1 _ cs' ((a.eval x).cells.zipIdx.foldl (fun cs (x : Value × Nat) => cs.setIfInBounds (off + x.2) x.1) arr) (by simpa using h0)
        (fun j p p' hj hj' => h1 (j + 1) p p' (by simpa using hj) (by simpa using hj')) hl h3 (by rw [c1, s1, h4]) hnew
      refine ⟨arr', ?_, f2, by rw [f3, s1], f4⟩
      simp only [List.map_cons, Instr.fill, hpl]
      rw [if_neg]
      · exact f1
      · simp only [hsz, ne_eq, not_true_eq_false, Bool.or_eq_true, decide_eq_true_eq, false_or]
        simp
        omega
    · cases h3

omit hgl in
theorem mapM_get {α β : Type} (f : α → Option β) : ∀ (l : List α) (r : List β), l.mapM f = some r → ∀ (i : Nat) (x : α), l[i]? = some x → f x = r[i]?
  | [], r, h, i, x, hx => by simp at hx
  | y :: l, r, h, i, x, hx => by
    simp only [List.mapM_cons, Option.bind_eq_bind, Option.pure_def, Option.bind_eq_some_iff] at h
    obtain ⟨b, hb, bs, hbs, hr⟩ := h
    simp only [Option.some.injEq] at hr
    subst hr
    cases i with
    | zero => simp at hx; subst hx; simp [hb]
    | succ i => simpa using mapM_get f l bs hbs i x (by simpa using hx)

omit hgl in
theorem cParts_get {fs : Array Field} : ∀ (ps : List (Nat × Operand)) (ps' : List (Nat × Nat × Opnd)), cParts P gl fs ps = some ps' → ps.length = ps'.length ∧
    ∀ (j : Nat) (p : Nat × Operand) (p' : Nat × Nat × Opnd), ps[j]? = some p → ps'[j]? = some p' → (∃ f n, fs[p.1]? = some f ∧ sizeOf P f.type = some n ∧ p'.1 = f.offset ∧ p'.2.1 = n) ∧ cOpnd gl p.2 = some p'.2.2
  | [], ps', h => by simp [cParts] at h; subst h; exact ⟨rfl, fun j p p' hj => by simp at hj⟩
  | (i, x) :: ps, ps', h => by
    simp only [cParts, Option.bind_eq_some_iff, Option.map_eq_some_iff] at h
    obtain ⟨f, hf, n, hn, y, hy, r, hr, rfl⟩ := h
    obtain ⟨h1, h2⟩ := cParts_get ps r hr
    refine ⟨by simp [h1], fun j p p' hj hj' => ?_⟩
    cases j with
    | zero => simp at hj hj'; subst hj; subst hj'; exact ⟨⟨f, n, hf, hn, rfl, rfl⟩, hy⟩
    | succ j => exact h2 j p p' (by simpa using hj) (by simpa using hj')

omit hgl in
theorem cPartsA_get {n : Nat} : ∀ (ps : List (Nat × Operand)) (ps' : List (Nat × Nat × Opnd)), cPartsA P gl n ps = some ps' → ps.length = ps'.length ∧
    ∀ (j : Nat) (p : Nat × Operand) (p' : Nat × Nat × Opnd), ps[j]? = some p → ps'[j]? = some p' → (p'.1 = p.1 * n ∧ p'.2.1 = n) ∧ cOpnd gl p.2 = some p'.2.2
  | [], ps', h => by simp [cPartsA] at h; subst h; exact ⟨rfl, fun j p p' hj => by simp at hj⟩
  | (i, x) :: ps, ps', h => by
    simp only [cPartsA, Option.bind_eq_some_iff, Option.map_eq_some_iff] at h
    obtain ⟨y, hy, r, hr, rfl⟩ := h
    obtain ⟨h1, h2⟩ := cPartsA_get ps r hr
    refine ⟨by simp [h1], fun j p p' hj hj' => ?_⟩
    cases j with
    | zero => simp at hj hj'; subst hj; subst hj'; exact ⟨⟨rfl, rfl⟩, hy⟩
    | succ j => exact h2 j p p' (by simpa using hj) (by simpa using hj')

theorem g_build (k : Ok (N0 := N0) w0 g e a.tmps h w) {t : TypeId} {ps : Array (Nat × Operand)} (ho : o.op = .build t ps) (hc : cOp P gl md o = some aop)
    (hs : step orc base draw aop e h = some (v, e', h')) : Gives N0 P w0 g a w (execOp a.eval o) v e' h' := by
  simp only [cOp, ho, Option.bind_eq_some_iff] at hc
  obtain ⟨z, hz, hc⟩ := hc
  obtain ⟨i, u, hi, hiu, husz, hzr⟩ := rv_zero (N0 := N0) hz
  have fin : ∀ (cells : Array Value) (cs : List PV), P.built t (ps.map fun (x : Nat × Operand) => (x.1, a.eval x.2)).toList = some cells → cells.size = cs.length →
      (∀ (q : Nat) (y : PV), cs[q]? = some y → RV N0 g w y (cells.getD q Go.undef)) → Gives N0 P w0 g a w (execOp a.eval o) (.agg cs) e h := by
    intro cells cs hb h1 h2
    refine gives_pure k ?_ (.agg cs cells h1 h2)
    simp only [execOp, ho, Sem.run_bind]
    rw [show (ps.map fun (x : Nat × Operand) => match x with | (i, x) => (i, a.eval x)) = ps.map fun (x : Nat × Operand) => (x.1, a.eval x.2) from rfl, run_build w t _ cells hb]
    rfl
  have hparts : (ps.map fun (x : Nat × Operand) => (x.1, a.eval x.2)).toList = ps.toList.map fun x => (x.1, a.eval x.2) := by simp
  split at hc
  · rename_i fs hu
    split at hc
    · rename_i hpl
      simp only [Option.map_eq_some_iff] at hc
      obtain ⟨ps', hps, rfl⟩ := hc
      simp only [step, Option.bnd_eq_some_iff, Option.some.injEq, Prod.mk.injEq] at hs
      obtain ⟨l, hl, cs, hcs, rfl, rfl, rfl⟩ := hs
      obtain ⟨places, hplaces⟩ := Option.isSome_iff_exists.1 hpl
      obtain ⟨hlen, hget⟩ := cParts_get ps.toList ps' hps
      obtain ⟨arr, f1, f2, f3, f4⟩ := fill_agg (place := fun i => places.toArray[i]?) hgl k ps.toList ps' l z cs u.cells (by simpa using hlen)
        (fun j p p' hj hj' => by
          obtain ⟨⟨f, n, hf, hn, e1, e2⟩, hx⟩ := hget j p p' hj hj'
          refine ⟨?_, hx⟩
          have := mapM_get _ _ _ hplaces p.1 f (by simpa using hf)
          simp only [sizeOf, Option.map_eq_some_iff] at hn
          obtain ⟨i', hi', rfl⟩ := hn
          rw [hi'] at this
          simp only [Option.map_some] at this
          simp only [List.getElem?_toArray, ← this, e1, e2]) hl hcs husz (hzr g w)
      refine fin arr cs ?_ f2 f4
      rw [hparts]
      simp only [Program.built, hi, hu, hiu, hplaces, f1]
    · cases hc
  · rename_i len el hu
    simp only [Option.bind_eq_some_iff, Option.map_eq_some_iff] at hc
    obtain ⟨n, hn, ps', hps, rfl⟩ := hc
    simp only [step, Option.bnd_eq_some_iff, Option.some.injEq, Prod.mk.injEq] at hs
    obtain ⟨l, hl, cs, hcs, rfl, rfl, rfl⟩ := hs
    obtain ⟨hlen, hget⟩ := cPartsA_get (P := P) ps.toList ps' hps
    simp only [sizeOf, Option.map_eq_some_iff] at hn
    obtain ⟨ie, hie, rfl⟩ := hn
    obtain ⟨arr, f1, f2, f3, f4⟩ := fill_agg (place := fun i => some (i * ie.size, ie.size)) hgl k ps.toList ps' l z cs u.cells (by simpa using hlen)
      (fun j p p' hj hj' => by
        obtain ⟨⟨e1, e2⟩, hx⟩ := hget j p p' hj hj'
        exact ⟨by rw [e1, e2], hx⟩) hl hcs husz (hzr g w)
    refine fin arr cs ?_ f2 f4
    rw [hparts]
    simp only [Program.built, hi, hu, hiu, hie, f1]
  · cases hc
end
end Go.Am
