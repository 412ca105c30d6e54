/- 'Am': the operations, one by one (third part): what makes and reads slices.
   By the session's AI agent. -/
import Derived.Test.YthhceeaconflnaaDoorAm8
namespace Go.Am
open Go.RowKit (Below)
set_option linter.unusedVariables false
set_option linter.unusedSimpArgs false
set_option linter.unusedSectionVars false

section
variable {N0 : Nat} {P : Program} {w0 : World} {g : G} {e : Env} {a : Act} {h : Hp} {w : World}
variable {o : Oper} {md : Nat} {orc : Orc} {base : Nat} {draw : Bool} {aop : AOp} {v : PV} {e' : Env} {h' : Hp} {gl : Globs} (hgl : GlobOk gl N0 w0)
include hgl

omit hgl in
theorem run_of_builtin {c : Go.Call} {b : Builtin} (ho : o.op = .call c) (hb : c.callee = .builtin b) :
    ∃ cs, (execOp a.eval o).run P w = (builtin b c.argTypes o.type cs (c.args.map a.eval)).run P w := by
  have h1 : execOp a.eval o = (do let d ← resolve a.eval c o.type; invoke d.target d.args) := by simp only [execOp, ho]
  rw [h1]
  unfold resolve
  simp only [hb]
  exact ⟨_, rfl⟩

theorem rv_evs (k : Ok (N0 := N0) w0 g e a.tmps h w) : ∀ {os : List Operand} {xs : List Opnd} {vs : List PV}, cOpnds gl os = some xs → evs e xs = some vs →
    os.length = vs.length ∧ ∀ (j : Nat) (x : PV), vs[j]? = some x → RV N0 g w x ((os.map a.eval).getD j Go.undef)
  | [], xs, vs, ho, hv => by
    simp [cOpnds] at ho; subst ho
    simp [evs] at hv; subst hv
    exact ⟨rfl, fun j x hx => by simp at hx⟩
  | o :: os, xs, vs, ho, hv => by
    simp only [cOpnds, Option.bind_eq_some_iff, Option.map_eq_some_iff] at ho
    obtain ⟨y, hy, ys, hys, rfl⟩ := ho
    simp only [evs, Option.bnd_eq_some_iff, Option.some.injEq] at hv
    obtain ⟨u, hu, us, hus, rfl⟩ := hv
    obtain ⟨h1, h2⟩ := rv_evs k hys hus
    refine ⟨by simp [h1], fun j x hx => ?_⟩
    cases j with
    | zero => simp at hx; subst hx; simpa using (rv_ev hgl k hy hu)
    | succ j => simpa using h2 j x (by simpa using hx)

theorem g_len (k : Ok (N0 := N0) w0 g e a.tmps h w) {c : Go.Call} (ho : o.op = .call c) (hb : c.callee = .builtin .len) (hc : cCall P gl md c o.type = some aop)
    (hs : step orc base draw aop e h = some (v, e', h')) : Gives N0 P w0 g a w (execOp a.eval o) v e' h' := by
  simp only [cCall, hb] at hc
  split at hc
  · rename_i x t hax hat
    have hargs : c.args = #[x] := by rw [← Array.toList_inj, hax]
    have htys : c.argTypes = #[t] := by rw [← Array.toList_inj, hat]
    obtain ⟨cs, hrun⟩ := run_of_builtin (P := P) (w := w) (a := a) ho hb
    split at hc
    · rename_i hu
      simp only [Option.map_eq_some_iff] at hc
      obtain ⟨x', hx, rfl⟩ := hc
      simp only [step, Option.bnd_eq_some_iff] at hs
      obtain ⟨p, hp, hs⟩ := hs
      have h1 := rv_ev hgl k hx hp
      generalize hA : a.eval x = A at h1
      cases h1 <;> simp only at hs
      case str l s hl =>
        simp only [Option.some.injEq, Prod.mk.injEq] at hs
        obtain ⟨rfl, rfl, rfl⟩ := hs
        refine gives_pure (u := goInt s.size) k ?_ ?_
        · rw [hrun, hargs, htys]
          simp only [builtin, List.map_toArray, List.map_cons, List.map_nil, hA, Builtin.len_, run_underlying hu, Sem.run_bind, Result.andThen, Sem.run_pure]
          simp [run_underlying hu]
        · have : (l.length : Int) = s.size := by rw [← hl]; simp
          rw [this]; exact .int _ _
      all_goals cases hs
    · rename_i el hu
      simp only [Option.map_eq_some_iff] at hc
      obtain ⟨x', hx, rfl⟩ := hc
      simp only [step, Option.bnd_eq_some_iff] at hs
      obtain ⟨p, hp, hs⟩ := hs
      have h1 := rv_ev hgl k hx hp
      generalize hA : a.eval x = A at h1
      have run : ∀ A' n c, A = .slice A' n c → (execOp a.eval o).run P w = .ok (.value (goInt n)) w := by
        rintro A' n c rfl
        rw [hrun, hargs, htys]
        simp only [builtin, List.map_toArray, List.map_cons, List.map_nil, hA, Builtin.len_]
        simp [run_underlying hu]
      cases h1 <;> simp only at hs
      case nils =>
        simp only [Option.some.injEq, Prod.mk.injEq] at hs
        obtain ⟨rfl, rfl, rfl⟩ := hs
        exact gives_pure k (run _ _ _ rfl) (.int _ _)
      case sl ow sz es c' o' cap u q1 q2 q3 q4 q5 q6 =>
        simp only [Option.some.injEq, Prod.mk.injEq] at hs
        obtain ⟨rfl, rfl, rfl⟩ := hs
        exact gives_pure k (run _ _ _ rfl) (.int _ _)
      case bsl fl b off len sz cap hb' hl hfl =>
        simp only [Option.some.injEq, Prod.mk.injEq] at hs
        obtain ⟨rfl, rfl, rfl⟩ := hs
        exact gives_pure k (run _ _ _ rfl) (.int _ _)
      all_goals cases hs
    · cases hc
  · cases hc

theorem g_minmax (k : Ok (N0 := N0) w0 g e a.tmps h w) {c : Go.Call} {mx : Bool} (ho : o.op = .call c) (hb : c.callee = .builtin (if mx then .max else .min))
    (hc : ∃ xs, cOpnds gl c.args.toList = some xs ∧ aop = .minmax mx xs)
    (hs : step orc base draw aop e h = some (v, e', h')) : Gives N0 P w0 g a w (execOp a.eval o) v e' h' := by
  obtain ⟨xs, hxs, rfl⟩ := hc
  simp only [step, Option.bnd_eq_some_iff] at hs
  obtain ⟨vs, hvs, hs⟩ := hs
  obtain ⟨h1, h2⟩ := rv_evs hgl k hxs hvs
  have hstep : ∀ (p q r : PV) (A B : Value), RV N0 g w p A → RV N0 g w q B → minMax2 mx p q = some r → ∃ u, (if mx then Builtin.max2 A B else Builtin.min2 A B).run P w = .ok u w ∧ RV N0 g w r u := by
    intro p q r A B hp hq hr
    cases hp <;> cases hq <;> simp only [minMax2] at hr <;> (try cases hr)
    cases mx
    · exact ⟨_, rfl, .int _ _⟩
    · exact ⟨_, rfl, .int _ _⟩
  have hfold : ∀ (us : List Value) (ps : List PV) (p : PV) (A : Value) (r : PV), us.length = ps.length → (∀ (j : Nat) (x : PV), ps[j]? = some x → RV N0 g w x (us.getD j Go.undef)) → RV N0 g w p A →
      minMax mx p ps = some r → ∃ u, (us.foldlM (fun A B => if mx then Builtin.max2 A B else Builtin.min2 A B) A : Sem Value).run P w = .ok u w ∧ RV N0 g w r u := by
    intro us
    induction us with
    | nil =>
      intro ps p A r hl _ hA hr
      have : ps = [] := by cases ps; rfl; simp at hl
      subst this
      simp only [minMax, Option.some.injEq] at hr
      subst hr
      exact ⟨A, by simp, hA⟩
    | cons u us ih =>
      intro ps p A r hl hj hA hr
      cases ps with
      | nil => simp at hl
      | cons q ps =>
        simp only [minMax, Option.bnd_eq_some_iff] at hr
        obtain ⟨z, hz, hr⟩ := hr
        obtain ⟨u', hu', hzu⟩ := hstep p q z A u hA (by simpa using hj 0 q rfl) hz
        obtain ⟨u'', hu'', hru⟩ := ih ps z u' r (by simpa using hl) (fun j x hx => by simpa using hj (j + 1) x (by simpa using hx)) hzu hr
        refine ⟨u'', ?_, hru⟩
        simp only [List.foldlM_cons, Sem.run_bind, hu', Result.andThen, hu'']
  cases vs with
  | nil => cases hs
  | cons p ps =>
    simp only [Option.bnd_eq_some_iff, Option.some.injEq, Prod.mk.injEq] at hs
    obtain ⟨r, hr, rfl, rfl, rfl⟩ := hs
    cases has : c.args.toList with
    | nil => rw [has] at h1; simp at h1
    | cons x xs' =>
      rw [has] at h1 h2
      obtain ⟨u, hu, hru⟩ := hfold (xs'.map a.eval) ps p (a.eval x) r (by simpa using h1) (fun j y hy => by simpa using h2 (j + 1) y (by simpa using hy)) (by simpa using h2 0 p rfl) hr
      refine gives_pure k ?_ hru
      obtain ⟨cs, hrun⟩ := run_of_builtin (P := P) (w := w) (a := a) ho hb
      rw [hrun]
      have hargs : (c.args.map a.eval).toList = a.eval x :: xs'.map a.eval := by simp [has]
      cases mx
      · simp only [Bool.false_eq_true, if_false] at hu ⊢
        simp only [builtin, Builtin.min_, hargs, Sem.run_bind, hu, Result.andThen, Sem.run_pure]
      · simp only [if_true] at hu ⊢
        simp only [builtin, Builtin.max_, hargs, Sem.run_bind, hu, Result.andThen, Sem.run_pure]

omit hgl in
theorem ix_rv {v : PV} {n i : Nat} {A : Value} (hr : RV N0 g w v A) (hi : ix v n = some i) : ∃ k m, A = .int k m ∧ 0 ≤ m ∧ m < n ∧ m.toNat = i := by
  cases hr <;> simp only [ix] at hi <;> (try cases hi)
  rename_i k m
  split at hi
  · rename_i hm
    simp only [Option.some.injEq] at hi
    exact ⟨k, m, rfl, hm.1, hm.2, hi⟩
  · cases hi

theorem g_idxA (k : Ok (N0 := N0) w0 g e a.tmps h w) {t : TypeId} {x y : Operand} (ho : o.op = .indexAddr t x y) (hc : cOp P gl md o = some aop)
    (hs : step orc base draw aop e h = some (v, e', h')) : Gives N0 P w0 g a w (execOp a.eval o) v e' h' := by
  simp only [cOp, ho] at hc
  split at hc
  · rename_i el hu
    simp only [Option.bind_eq_some_iff, Option.map_eq_some_iff] at hc
    obtain ⟨n, hn, x', hx, y', hy, rfl⟩ := hc
    simp only [step, Option.bnd_eq_some_iff] at hs
    obtain ⟨p, hp, q, hq, hs⟩ := hs
    have h1 := rv_ev hgl k hx hp
    have h2 := rv_ev hgl k hy hq
    generalize hA : a.eval x = A at h1
    generalize hB : a.eval y = B at h2
    have run : ∀ (c off len cap i : Nat) (kk : IntKind) (m : Int), A = .slice (some ⟨c, off, none⟩) len cap → B = .int kk m → 0 ≤ m → m < len → m.toNat = i →
        (execOp a.eval o).run P w = .ok (.value (.pointer (some ⟨c, off + i * n, none⟩))) w := by
      rintro c off len cap i kk m rfl rfl h0 hm rfl
      have hcond : 0 ≤ m ∧ m < (len : Int) := ⟨h0, hm⟩
      simp only [execOp, ho, hA, hB, Instr.indexAt, asIntOf, Sem.run_bind, Sem.run_pure, Result.andThen, run_underlying hu, if_pos hcond, run_sizeOf' hn, add_addr]
    cases h1 <;> simp only at hs
    case sl ow sz es c off cap u q1 q2 q3 q4 q5 q6 q7 q8 q9 =>
      split at hs
      · rename_i hsz
        subst hsz
        simp only [Option.bnd_eq_some_iff, Option.some.injEq, Prod.mk.injEq] at hs
        obtain ⟨i, hi, el', hel, rfl, rfl, rfl⟩ := hs
        obtain ⟨kk, m, hBm, h0, hm, hmi⟩ := ix_rv h2 hi
        have hil : i < es.length := (List.getElem?_eq_some_iff.1 hel).1
        obtain rfl := q8 (by rintro rfl; simp at hel)
        have hlen := q3 i el' hel
        refine gives_pure k (run c off es.length cap i kk m rfl hBm h0 hm hmi) ?_
        have := RV.ep (N0 := N0) (g := g) (w := w) el'.cells 0 c (off + i * sz) (u i) (fun j hj => by rw [Nat.add_assoc]; exact q4 i j hil (by omega)) (fun j z hz => q5 i j el' z hel hz) ?_
        · simpa using this
        · rw [hlen]
          have hle : i * sz + sz ≤ es.length * sz := by
            have := Nat.mul_le_mul_right sz hil
            rw [Nat.succ_mul] at this
            exact this
          rcases q6 (by rintro rfl; simp at hil) with q6 | ⟨m', hm', hle'⟩
          · exact .inl q6
          · exact .inr ⟨m', hm', by omega⟩
      · cases hs
    case bsl fl b off len sz cap hb hl hfl =>
      split at hs
      · rename_i hsz
        subst hsz
        simp only [Option.bnd_eq_some_iff, Option.some.injEq, Prod.mk.injEq] at hs
        obtain ⟨i, hi, rfl, rfl, rfl⟩ := hs
        obtain ⟨kk, m, hBm, h0, hm, hmi⟩ := ix_rv h2 hi
        exact gives_pure k (run (g.ι b) off len cap i kk m rfl hBm h0 hm hmi) (.ptr b _ hb)
      · cases hs
    all_goals cases hs
  · rename_i len el hu
    simp only [Option.bind_eq_some_iff, Option.map_eq_some_iff] at hc
    obtain ⟨n, hn, x', hx, y', hy, rfl⟩ := hc
    simp only [step, Option.bnd_eq_some_iff] at hs
    obtain ⟨p, hp, q, hq, hs⟩ := hs
    have h1 := rv_ev hgl k hx hp
    have h2 := rv_ev hgl k hy hq
    generalize hA : a.eval x = A at h1
    generalize hB : a.eval y = B at h2
    have run : ∀ (c off i : Nat) (kk : IntKind) (m : Int), A = .pointer (some ⟨c, off, none⟩) → B = .int kk m → 0 ≤ m → m < len → m.toNat = i →
        (execOp a.eval o).run P w = .ok (.value (.pointer (some ⟨c, off + i * n, none⟩))) w := by
      rintro c off i kk m rfl rfl h0 hm rfl
      have hcond : 0 ≤ m ∧ m < (len : Int) := ⟨h0, hm⟩
      simp only [execOp, ho, hA, hB, Instr.indexAt, asIntOf, Sem.run_bind, Sem.run_pure, Result.andThen, run_underlying hu, Instr.sureAddr, if_pos hcond, run_sizeOf' hn, add_addr]
    cases h1 <;> simp only at hs
    case ptr b off hb =>
      simp only [Option.bnd_eq_some_iff, Option.some.injEq, Prod.mk.injEq] at hs
      obtain ⟨i, hi, rfl, rfl, rfl⟩ := hs
      obtain ⟨kk, m, hBm, h0, hm, hmi⟩ := ix_rv h2 hi
      exact gives_pure k (run (g.ι b) off i kk m rfl hBm h0 hm hmi) (.ptr b _ hb)
    case ep cs off c o' u q1 q2 q3 =>
      simp only [Option.bnd_eq_some_iff, Option.some.injEq, Prod.mk.injEq] at hs
      obtain ⟨i, hi, rfl, rfl, rfl⟩ := hs
      obtain ⟨kk, m, hBm, h0, hm, hmi⟩ := ix_rv h2 hi
      refine gives_pure k (run c (o' + off) i kk m rfl hBm h0 hm hmi) ?_
      rw [Nat.add_assoc]
      exact .ep cs _ c o' u q1 q2 q3
    all_goals cases hs
  · cases hc
end
end Go.Am
