/- 'Am': the operations, one by one (second part).
   By the session's AI agent. -/
import Derived.Test.YthhceeaconflnaaDoorAm7
namespace Go.Am
open Go.RowKit (Below)
set_option linter.unusedVariables false
set_option linter.unusedSimpArgs false
set_option linter.unusedSectionVars false

section
variable {N0 : Nat} {P : Program} {w0 : World} {g : G} {e : Env} {a : Act} {h : Hp} {w : World}
variable {o : Oper} {md : Nat} {orc : Orc} {base : Nat} {draw : Bool} {aop : AOp} {v : PV} {e' : Env} {h' : Hp} {gl : Globs} (hgl : GlobOk gl N0 w0)

theorem scalar_strip (v : PV) : scalar (strip v) = scalar v := by cases v <;> rfl
theorem strips_scalar : ∀ (cs : List PV), (strips cs).all scalar = cs.all scalar
  | [] => rfl
  | c :: cs => by simp only [strips, List.all_cons, scalar_strip, strips_scalar cs]

include hgl
theorem g_load (k : Ok (N0 := N0) w0 g e a.tmps h w) {t : TypeId} {x : Operand} (ho : o.op = .load t x) (hc : cOp P gl md o = some aop)
    (hs : step orc base draw aop e h = some (v, e', h')) : Gives N0 P w0 g a w (execOp a.eval o) v e' h' := by
  simp only [cOp, ho, Option.bind_eq_some_iff] at hc
  obtain ⟨n, hn, gg, hg, x', hx, hc⟩ := hc
  obtain ⟨m, hm, rfl⟩ : ∃ m, (gg = true → m = n) ∧ aop = .load m gg x' := by
    cases gg with
    | true => simp only [if_true, Option.some.injEq] at hc; exact ⟨n, fun _ => rfl, hc.symm⟩
    | false => simp only [Bool.false_eq_true, if_false, Option.some.injEq] at hc; exact ⟨1, fun hq => (Bool.false_ne_true hq).elim, hc.symm⟩
  simp only [step, Option.bnd_eq_some_iff] at hs
  obtain ⟨y, hy, hs⟩ := hs
  have hr := rv_ev hgl k hx hy
  generalize hA0 : a.eval x = A0 at hr
  have fin : ∀ (A : Addr) (r : PV), A0 = .pointer (some A) → (∃ v, (loadVar t A).run P w = .ok v w ∧ RV N0 g w r v) → Gives N0 P w0 g a w (execOp a.eval o) r e h := by
    rintro A r hA ⟨u, h1, h2⟩
    refine gives_pure k ?_ h2
    rw [← hA0] at hA
    simp [execOp, ho, Instr.loadAt, Instr.sureAddr, hA, h1]
  cases hr <;> simp only at hs
  case ptr b off hb =>
    simp only [Option.bnd_eq_some_iff, Option.some.injEq, Prod.mk.injEq] at hs
    obtain ⟨cs, hcs, r, hp, rfl, rfl, rfl⟩ := hs
    obtain ⟨u, h1, h2⟩ := box_cell k hcs
    refine fin _ _ rfl ?_
    have := load_row1 (o := 0) hn hg (c := g.ι b) (off := off) (cs := cs) (u := u) (fun j hj => by rw [Nat.zero_add]; exact h1 j hj) h2 hm hp
    rwa [Nat.zero_add] at this
  case ep cs off c o' u h1 h2 h3 =>
    simp only [Option.bnd_eq_some_iff, Option.some.injEq, Prod.mk.injEq] at hs
    obtain ⟨r, hp, rfl, rfl, rfl⟩ := hs
    exact fin _ _ rfl (load_row1 hn hg h1 h2 hm hp)
  all_goals simp at hs

theorem g_store (k : Ok (N0 := N0) w0 g e a.tmps h w) {t : TypeId} {x y : Operand} (ho : o.op = .store t x y) (hc : cOp P gl md o = some aop)
    (hs : step orc base draw aop e h = some (v, e', h')) : Gives N0 P w0 g a w (execOp a.eval o) v e' h' := by
  simp only [cOp, ho, Option.bind_eq_some_iff, Option.map_eq_some_iff] at hc
  obtain ⟨n, hn, x', hx, y', hy, rfl⟩ := hc
  simp only [step, Option.bnd_eq_some_iff] at hs
  obtain ⟨p, hp, q, hq, hs⟩ := hs
  have hr := rv_ev hgl k hx hp
  have hv := rv_ev hgl k hy hq
  generalize hA : a.eval x = A at hr
  cases hr <;> simp only at hs
  case ptr b off hb =>
    simp only [Option.bnd_eq_some_iff] at hs
    obtain ⟨cs, hcs, hs⟩ := hs
    split at hs
    · rename_i hcond
      obtain ⟨hlen, hle, hscal, _⟩ := hcond
      simp only [Option.some.injEq, Prod.mk.injEq] at hs
      obtain ⟨rfl, rfl, rfl⟩ := hs
      have hne : q ≠ .undef := by rintro rfl; simp [PV.cells, scalar] at hscal
      obtain ⟨h1, h2⟩ := rv_cells hv hne
      have h3 : ∀ (c : Prop) [Decidable c], (if c then strips q.cells else q.cells).length = q.cells.length ∧ (if c then strips q.cells else q.cells).all scalar = true ∧
          ∀ (j : Nat) (z : PV), (if c then strips q.cells else q.cells)[j]? = some z → RV N0 g w z ((a.eval y).cells.getD j Go.undef) := by
        intro c _
        split
        · exact ⟨strips_length _, by rw [strips_scalar]; exact hscal, strips_of (R := fun x j => RV N0 g w x ((a.eval y).cells.getD j Go.undef)) (fun j x hx => rv_strip (h2 j x hx))⟩
        · exact ⟨rfl, hscal, h2⟩
      obtain ⟨l1, l2, l3⟩ := h3 (b < base)
      obtain ⟨w', hrun, hext, hok⟩ := store_row (P := P) (b := b) (off := off) (a.eval y).cells.toList _ 0 h w cs k hcs (by rw [l1]; simpa using h1) (by rw [l1]; omega) l2
        (fun j z hz => by have := l3 j z hz; simpa [Array.getD_eq_getD_getElem?, List.getD_eq_getElem?_getD] using this)
      refine ⟨.skip, Go.undef, w', g, ?_, .inr ⟨rfl, rfl⟩, hext, by simpa using hok, .undef _ (by intro b; simp [Go.undef])⟩
      have hsz : ¬ ((a.eval y).cells.size ≠ n) := by omega
      simp only [execOp, ho, Instr.storeAt, Instr.sureAddr, hA, Sem.run_bind, Sem.run_pure, Result.andThen, storeVar, run_sizeOf' hn, ne_eq, h1, hlen, not_true_eq_false, if_false, hrun]
    · cases hs
  all_goals simp at hs

theorem g_nilck (k : Ok (N0 := N0) w0 g e a.tmps h w) {x : Operand} (ho : o.op = .nilCheck x) (hc : cOp P gl md o = some aop)
    (hs : step orc base draw aop e h = some (v, e', h')) : Gives N0 P w0 g a w (execOp a.eval o) v e' h' := by
  simp only [cOp, ho, Option.map_eq_some_iff] at hc
  obtain ⟨x', hx, rfl⟩ := hc
  simp only [step, Option.bnd_eq_some_iff] at hs
  obtain ⟨p, hp, hs⟩ := hs
  have hr := rv_ev hgl k hx hp
  have hs' : isNil p = some false ∧ v = p ∧ e = e' ∧ h = h' := by
    split at hs
    · rename_i hq
      simp only [Option.some.injEq, Prod.mk.injEq] at hs
      exact ⟨hq, hs.1.symm, hs.2.1, hs.2.2⟩
    · cases hs
  obtain ⟨hnil, rfl, rfl, rfl⟩ := hs'
  have hr' := hr
  generalize hA : a.eval x = A at hr hr'
  cases hr <;> simp [isNil] at hnil
  all_goals (refine gives_pure k ?_ hr'; simp [execOp, ho, hA])

omit hgl in
theorem str_eq_iff {s t : ByteArray} : (s.toList == t.toList) = (s.data.toList == t.data.toList) := by
  rw [ByteArray.toList_eq, ByteArray.toList_eq]

omit hgl in
theorem bytesLess_eq : ∀ (x y : List UInt8), Op.bytesLess x y = bytesLess x y
  | _, [] => by cases ‹List UInt8› <;> rfl
  | [], _ :: _ => rfl
  | a :: x, b :: y => by simp only [Op.bytesLess, bytesLess, bytesLess_eq x y]

omit hgl in
theorem run_int_bin {op : BinOp} {t : TypeId} {x y : Operand} {i j : IntKind} {m n : Int} {r : PV} (hr : binOp op (.int i m) (.int j n) = some r) :
    ∃ u, (do eqGuard op t x y (.int i m) (.int j n); Go.binOp op t (.int i m) (.int j n) : Sem Value).run P w = .ok u w ∧ RV N0 g w r u := by
  have hg : eqGuard op t x y (.int i m) (.int j n) = pure () := by cases op <;> rfl
  rw [hg]
  simp only [binOp] at hr
  by_cases hsh : isShift op = true
  · rw [if_pos hsh] at hr
    unfold shiftOp at hr
    by_cases hn : n < 0
    · rw [if_pos hn] at hr; cases hr
    · rw [if_neg hn] at hr
      cases op <;> simp [isShift] at hsh
      · simp only [Option.some.injEq] at hr; subst hr
        refine ⟨_, ?_, .int _ _⟩
        simp only [Sem.run_bind, Sem.run_pure, Result.andThen, Go.binOp, Op.shift, if_neg hn]
      · simp only [Option.some.injEq] at hr; subst hr
        refine ⟨_, ?_, .int _ _⟩
        simp only [Sem.run_bind, Sem.run_pure, Result.andThen, Go.binOp, Op.shift, if_neg hn]
  · rw [if_neg hsh] at hr
    split at hr
    · rename_i hij
      subst hij
      cases op <;> simp [isShift] at hsh <;> simp only [intOp, intBits, Option.some.injEq] at hr
      all_goals first
        | (subst hr
           refine ⟨_, ?_, .int _ _⟩
           simp only [Sem.run_bind, Sem.run_pure, Result.andThen, Go.binOp, ne_eq, not_true_eq_false, if_false, Op.intArith, Op.intBits]
           done)
        | (subst hr
           refine ⟨_, ?_, .bool _⟩
           simp only [Sem.run_bind, Sem.run_pure, Result.andThen, Go.binOp, ne_eq, not_true_eq_false, if_false, Op.intCmp]
           done)
        | (split at hr
           · cases hr
           · rename_i hz
             simp only [Option.some.injEq] at hr
             subst hr
             refine ⟨_, ?_, .int _ _⟩
             simp only [Sem.run_bind, Sem.run_pure, Result.andThen, Go.binOp, ne_eq, not_true_eq_false, if_false, Op.intDiv, if_neg hz])
        | cases hr
    · cases hr

omit hgl in
theorem run_str_bin {op : BinOp} {t : TypeId} {x y : Operand} {s u : ByteArray} {r : PV} (hr : strOp op s.data.toList u.data.toList = some r) :
    ∃ v, (do eqGuard op t x y (.string s) (.string u); Go.binOp op t (.string s) (.string u) : Sem Value).run P w = .ok v w ∧ RV N0 g w r v := by
  have hg : eqGuard op t x y (.string s) (.string u) = pure () := by cases op <;> rfl
  have h1 : ∀ s : ByteArray, s.toList = s.data.toList := fun s => ByteArray.toList_eq s
  have h2 : ∀ s : ByteArray, s.data.toList.length = s.size := fun s => Array.length_toList
  rw [hg]
  cases op <;> simp only [strOp, Option.some.injEq] at hr
  case add =>
    split at hr
    · rename_i hle
      simp only [Option.some.injEq] at hr
      subst hr
      rw [h2, h2] at hle
      unfold limS at hle
      have hle' : ¬ (((s.size + u.size : Nat) : Int) > IntKind.i64.max) := by
        have : IntKind.i64.max = 9223372036854775807 := by rfl
        omega
      refine ⟨.string (s ++ u), ?_, .str _ _ (by simp [ByteArray.data_append])⟩
      simp only [Sem.run_bind, Sem.run_pure, Result.andThen, Go.binOp, Op.stringOp, if_neg hle']
    · cases hr
  all_goals first
    | (subst hr
       refine ⟨_, ?_, .bool _⟩
       simp only [Sem.run_bind, Sem.run_pure, Result.andThen, Go.binOp, Op.stringOp, ByteArray.toList_eq, bytesLess_eq, bne])
    | cases hr

theorem g_bin (k : Ok (N0 := N0) w0 g e a.tmps h w) {op : BinOp} {t t' : TypeId} {x y : Operand} (ho : o.op = .binOp op t x y t')
    (hc : ∃ x' y', cOpnd gl x = some x' ∧ cOpnd gl y = some y' ∧ aop = .bin op x' y')
    (hs : step orc base draw aop e h = some (v, e', h')) : Gives N0 P w0 g a w (execOp a.eval o) v e' h' := by
  obtain ⟨x', y', hx, hy, rfl⟩ := hc
  simp only [step, Option.bnd_eq_some_iff, Option.some.injEq, Prod.mk.injEq] at hs
  obtain ⟨p, hp, q, hq, r, hr, rfl, rfl, rfl⟩ := hs
  have h1 := rv_ev hgl k hx hp
  have h2 := rv_ev hgl k hy hq
  have fin : (∃ u, (do eqGuard op t x y (a.eval x) (a.eval y); Go.binOp op t (a.eval x) (a.eval y) : Sem Value).run P w = .ok u w ∧ RV N0 g w r u) →
      Gives N0 P w0 g a w (execOp a.eval o) r e h := by
    rintro ⟨u, hu, hru⟩
    refine gives_pure k ?_ hru
    simp only [execOp, ho, Sem.run_bind] at hu ⊢
    rw [hu]; rfl
  apply fin
  generalize a.eval x = A at h1
  generalize a.eval y = B at h2
  cases h1 <;> cases h2 <;> simp only [binOp] at hr
  case int.int => exact run_int_bin (by simpa only [binOp] using hr)
  case str.str => rename_i hA _ _ hB; subst hA; subst hB; exact run_str_bin hr
  all_goals cases hr

theorem g_binB (k : Ok (N0 := N0) w0 g e a.tmps h w) {op : BinOp} {t t' : TypeId} {x y : Operand} (ho : o.op = .binOp op t x y t') (hu : P.underlying t = some .bool) (hop : isEq op = true)
    (hc : ∃ x' y', cOpnd gl x = some x' ∧ cOpnd gl y = some y' ∧ aop = .binB (isNeq op) x' y')
    (hs : step orc base draw aop e h = some (v, e', h')) : Gives N0 P w0 g a w (execOp a.eval o) v e' h' := by
  obtain ⟨x', y', hx, hy, rfl⟩ := hc
  simp only [step, Option.bnd_eq_some_iff] at hs
  obtain ⟨p, hp, q, hq, hs⟩ := hs
  have h1 := rv_ev hgl k hx hp
  have h2 := rv_ev hgl k hy hq
  split at hs
  · rename_i b c
    simp only [Option.some.injEq, Prod.mk.injEq] at hs
    obtain ⟨rfl, rfl, rfl⟩ := hs
    refine gives_pure k ?_ (.bool _)
    have he : (Op.equal t (.bool b) (.bool c)).run P w = .ok (b == c) w := run_equal_bool w t b c hu
    cases op <;> simp only [isEq] at hop <;> (try cases hop)
    · simp only [execOp, ho, rv_bool h1, rv_bool h2, Sem.run_bind, show eqGuard .eql t x y (.bool b) (.bool c) = pure () from rfl, Sem.run_pure, Result.andThen,
        show Go.binOp .eql t (.bool b) (.bool c) = (do pure (.bool (← Op.equal t (.bool b) (.bool c)))) from rfl, he, isNeq, Bool.false_eq_true, if_false]
    · simp only [execOp, ho, rv_bool h1, rv_bool h2, Sem.run_bind, show eqGuard .neq t x y (.bool b) (.bool c) = pure () from rfl, Sem.run_pure, Result.andThen,
        show Go.binOp .neq t (.bool b) (.bool c) = (do pure (.bool (!(← Op.equal t (.bool b) (.bool c))))) from rfl, he, isNeq, if_true, bne]
  · cases hs

/-- The nil of a kind. -/
def nilVal : Nat → Value
  | 0 => .pointer none
  | 1 => .slice none 0 0
  | 2 => .nilIface
  | _ => .nilFunc

omit hgl in
theorem isNilConst_val {kd : Nat} {x : Operand} (hx : isNilConst kd x = true) (a : Act) : ∃ c, x = .const c ∧ c = nilVal kd ∧ kd ≤ 3 := by
  unfold isNilConst at hx
  split at hx <;> first | exact ⟨_, rfl, rfl, by omega⟩ | cases hx

omit hgl in
theorem run_equal_nil {t : TypeId} {d : TypeDesc} {kd : Nat} (hu : P.underlying t = some d) (hkd : nilKind d = some kd) {p : PV} {A : Value} (hr : RV N0 g w p A) {b : Bool} (hb : nilK kd p = some b) :
    (Op.equal t A (nilVal kd)).run P w = .ok b w ∧ (Op.equal t (nilVal kd) A).run P w = .ok b w := by
  obtain ⟨dep, hd⟩ : ∃ n, Op.maxDepth = n + 1 := ⟨9999, rfl⟩
  cases d <;> simp only [nilKind] at hkd <;> cases hkd
  all_goals (cases hr <;> simp only [nilK, Option.some.injEq] at hb <;> (try cases hb) <;> (try subst hb))
  all_goals (constructor <;> simp only [Op.equal, hd, Op.equalIn, nilVal, Sem.run_bind, run_underlying hu, Result.andThen, Sem.run_pure, Option.isNone_none, Option.isNone_some])

omit hgl in
theorem eqGuard_nil {op : BinOp} {t : TypeId} {x y : Operand} {kd : Nat} (A : Value) (hn : kd ≤ 3) (h : (isNilConst kd y = true) ∨ (isNilConst kd x = true)) (w : World) :
    (∀ c, A ≠ .agg c) → (isNilConst kd y = true → (eqGuard op t x y A (nilVal kd)).run P w = .ok () w) ∧ (isNilConst kd x = true → (eqGuard op t x y (nilVal kd) A).run P w = .ok () w) := by
  intro hA
  have hc : ∀ z, isNilConst kd z = true → ∃ c, z = .const c := fun z hz => let ⟨c, h1, _⟩ := isNilConst_val hz ⟨#[], []⟩; ⟨c, h1⟩
  constructor
  · intro hy
    obtain ⟨c, rfl⟩ := hc y hy
    have : kd = 0 ∨ kd = 1 ∨ kd = 2 ∨ kd = 3 := by omega
    rcases this with rfl | rfl | rfl | rfl <;> cases A <;> simp [eqGuard, nilVal] at * <;> split <;> simp_all
  · intro hx
    obtain ⟨c, rfl⟩ := hc x hx
    have : kd = 0 ∨ kd = 1 ∨ kd = 2 ∨ kd = 3 := by omega
    rcases this with rfl | rfl | rfl | rfl <;> cases A <;> simp [eqGuard, nilVal] at * <;> split <;> simp_all

omit hgl in
theorem binOp_eq_nil {t : TypeId} {kd : Nat} {p : PV} {A : Value} (hr : RV N0 g w p A) {b : Bool} (hb : nilK kd p = some b) :
    Go.binOp .eql t A (nilVal kd) = (do pure (.bool (← Op.equal t A (nilVal kd)))) ∧ Go.binOp .neq t A (nilVal kd) = (do pure (.bool (!(← Op.equal t A (nilVal kd))))) ∧
    Go.binOp .eql t (nilVal kd) A = (do pure (.bool (← Op.equal t (nilVal kd) A))) ∧ Go.binOp .neq t (nilVal kd) A = (do pure (.bool (!(← Op.equal t (nilVal kd) A)))) := by
  rcases kd with _ | _ | _ | _ | kd
  all_goals (cases hr <;> simp only [nilK] at hb <;> (try cases hb))
  all_goals exact ⟨rfl, rfl, rfl, rfl⟩

theorem g_isnil (k : Ok (N0 := N0) w0 g e a.tmps h w) {op : BinOp} {t t' : TypeId} {x y : Operand} {d : TypeDesc} {kd : Nat} (ho : o.op = .binOp op t x y t') (hu : P.underlying t = some d) (hop : isEq op = true)
    (hkd : nilKind d = some kd)
    (hc : (isNilConst kd y = true ∧ ∃ x', cOpnd gl x = some x' ∧ aop = .isnil kd (isNeq op) x') ∨ (isNilConst kd x = true ∧ ∃ y', cOpnd gl y = some y' ∧ aop = .isnil kd (isNeq op) y'))
    (hs : step orc base draw aop e h = some (v, e', h')) : Gives N0 P w0 g a w (execOp a.eval o) v e' h' := by
  have key : ∀ (z : Operand) (z' : Opnd), cOpnd gl z = some z' → aop = .isnil kd (isNeq op) z' → ∃ p b, nilK kd p = some b ∧ RV N0 g w p (a.eval z) ∧ v = .bool (if isNeq op then !b else b) ∧ e = e' ∧ h = h' := by
    rintro z z' hz rfl
    simp only [step, Option.bnd_eq_some_iff, Option.some.injEq, Prod.mk.injEq] at hs
    obtain ⟨p, hp, b, hb, rfl, rfl, rfl⟩ := hs
    exact ⟨p, b, hb, rv_ev hgl k hz hp, rfl, rfl, rfl⟩
  have hagg : ∀ (p : PV) (b : Bool) (A : Value), nilK kd p = some b → RV N0 g w p A → ∀ c, A ≠ .agg c := by
    intro p b A hb hr c hq
    subst hq
    cases hr <;> (rcases kd with _ | _ | _ | _ | kd) <;> simp [nilK] at hb
  rcases hc with ⟨hn, x', hx, ha⟩ | ⟨hn, y', hy, ha⟩
  · obtain ⟨p, b, hb, hr, rfl, rfl, rfl⟩ := key x x' hx ha
    obtain ⟨c, hyc, rfl, h3⟩ := isNilConst_val hn a
    refine gives_pure k ?_ (.bool _)
    have hg := (eqGuard_nil (P := P) (op := op) (t := t) (x := x) (y := y) (a.eval x) h3 (.inl hn) w (hagg p b _ hb hr)).1 hn
    have he := (run_equal_nil hu hkd hr hb).1
    have hyv : a.eval y = nilVal kd := by rw [hyc]; rfl
    obtain ⟨q1, q2, q3, q4⟩ := binOp_eq_nil (t := t) hr hb
    cases op <;> simp only [isEq] at hop <;> (try cases hop)
    · simp only [execOp, ho, hyv, q1, Sem.run_bind, hg, Sem.run_pure, Result.andThen, he, isNeq, Bool.false_eq_true, if_false]
    · simp only [execOp, ho, hyv, q2, Sem.run_bind, hg, Sem.run_pure, Result.andThen, he, isNeq, if_true]
  · obtain ⟨p, b, hb, hr, rfl, rfl, rfl⟩ := key y y' hy ha
    obtain ⟨c, hxc, rfl, h3⟩ := isNilConst_val hn a
    refine gives_pure k ?_ (.bool _)
    have hg := (eqGuard_nil (P := P) (op := op) (t := t) (x := x) (y := y) (a.eval y) h3 (.inr hn) w (hagg p b _ hb hr)).2 hn
    have he := (run_equal_nil hu hkd hr hb).2
    have hxv : a.eval x = nilVal kd := by rw [hxc]; rfl
    obtain ⟨q1, q2, q3, q4⟩ := binOp_eq_nil (t := t) hr hb
    cases op <;> simp only [isEq] at hop <;> (try cases hop)
    · simp only [execOp, ho, hxv, q3, Sem.run_bind, hg, Sem.run_pure, Result.andThen, he, isNeq, Bool.false_eq_true, if_false]
    · simp only [execOp, ho, hxv, q4, Sem.run_bind, hg, Sem.run_pure, Result.andThen, he, isNeq, if_true]

theorem g_un (k : Ok (N0 := N0) w0 g e a.tmps h w) {op : UnOp} {t : TypeId} {x : Operand} (ho : o.op = .unOp op t x) (hc : cOp P gl md o = some aop)
    (hs : step orc base draw aop e h = some (v, e', h')) : Gives N0 P w0 g a w (execOp a.eval o) v e' h' := by
  simp only [cOp, ho, Option.map_eq_some_iff] at hc
  obtain ⟨x', hx, rfl⟩ := hc
  simp only [step, Option.bnd_eq_some_iff, Option.some.injEq, Prod.mk.injEq] at hs
  obtain ⟨p, hp, r, hr, rfl, rfl, rfl⟩ := hs
  have h1 := rv_ev hgl k hx hp
  generalize hA : a.eval x = A at h1
  cases h1 <;> simp only [unOp] at hr
  case bool b => cases op <;> simp only [Option.some.injEq] at hr <;> first | (subst hr; exact gives_pure k (by simp only [execOp, ho, hA, Op.unary, Sem.run_bind, Sem.run_pure, Result.andThen]) (.bool _)) | cases hr
  case int j n =>
    cases op <;> simp only [Option.some.injEq, intBits] at hr
    all_goals first | (subst hr; exact gives_pure k (by simp only [execOp, ho, hA, Op.unary, Op.intArith, Op.intBits, Sem.run_bind, Sem.run_pure, Result.andThen]) (.int _ _)) | cases hr
  all_goals cases hr

theorem g_extract (k : Ok (N0 := N0) w0 g e a.tmps h w) {i : Nat} {x : Operand} (ho : o.op = .extract x i) (hc : cOp P gl md o = some aop)
    (hs : step orc base draw aop e h = some (v, e', h')) : Gives N0 P w0 g a w (execOp a.eval o) v e' h' := by
  simp only [cOp, ho, Option.map_eq_some_iff] at hc
  obtain ⟨x', hx, rfl⟩ := hc
  simp only [step, Option.bnd_eq_some_iff] at hs
  obtain ⟨p, hp, hs⟩ := hs
  have h1 := rv_ev hgl k hx hp
  generalize hA : a.eval x = A at h1
  cases h1 <;> simp only at hs
  case tup cs us hsz hr =>
    simp only [Option.bnd_eq_some_iff, Option.some.injEq, Prod.mk.injEq] at hs
    obtain ⟨r, hr', rfl, rfl, rfl⟩ := hs
    have hi : i < cs.length := (List.getElem?_eq_some_iff.1 hr').1
    have hu : us[i]? = some (us.getD i Go.undef) := by simp [Array.getD_eq_getD_getElem?, hsz, hi]
    exact gives_pure k (by simp only [execOp, ho, hA, Instr.extract, hu, Sem.run_bind, Sem.run_pure, Result.andThen]) (hr i r hr')
  all_goals cases hs

omit hgl in
theorem run_fieldPlace {f : Field} {n : Nat} (hn : sizeOf P f.type = some n) (h0 : n ≠ 0) (A : Addr) : (fieldPlace A f).run P w = .ok (A.add f.offset) w := by
  simp [fieldPlace, run_sizeOf' hn, h0]

theorem g_fieldA (k : Ok (N0 := N0) w0 g e a.tmps h w) {t : TypeId} {x : Operand} {f : Nat} (ho : o.op = .fieldAddr t x f) (hc : cOp P gl md o = some aop)
    (hs : step orc base draw aop e h = some (v, e', h')) : Gives N0 P w0 g a w (execOp a.eval o) v e' h' := by
  simp only [cOp, ho] at hc
  split at hc
  · rename_i fs hu
    simp only [Option.bind_eq_some_iff] at hc
    obtain ⟨fd, hfd, n, hn, hc⟩ := hc
    split at hc
    · cases hc
    · rename_i h0
      simp only [Option.map_eq_some_iff] at hc
      obtain ⟨x', hx, rfl⟩ := hc
      simp only [step, Option.bnd_eq_some_iff] at hs
      obtain ⟨p, hp, hs⟩ := hs
      have h1 := rv_ev hgl k hx hp
      generalize hA : a.eval x = A at h1
      cases h1 <;> simp only at hs
      case ptr b off hb =>
        simp only [Option.some.injEq, Prod.mk.injEq] at hs
        obtain ⟨rfl, rfl, rfl⟩ := hs
        refine gives_pure (u := .pointer (some ⟨g.ι b, off + fd.offset, none⟩)) k ?_ (.ptr b _ hb)
        simp [execOp, ho, hA, Instr.fieldAt, run_underlying hu, hfd, Instr.sureAddr, run_fieldPlace hn h0, add_addr]
      case ep cs off c o' u q1 q2 q3 =>
        simp only [Option.some.injEq, Prod.mk.injEq] at hs
        obtain ⟨rfl, rfl, rfl⟩ := hs
        refine gives_pure (u := .pointer (some ⟨c, o' + (off + fd.offset), none⟩)) k ?_ (.ep cs _ c o' u q1 q2 q3)
        simp [execOp, ho, hA, Instr.fieldAt, run_underlying hu, hfd, Instr.sureAddr, run_fieldPlace hn h0, add_addr, Nat.add_assoc]
      all_goals cases hs
  · cases hc

end
end Go.Am
