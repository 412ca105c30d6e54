/- 'Am': the theorem: what the machine answers, the program answers.
   By the session's AI agent. -/
import Derived.Test.YtlmfmjmpfcaliaaAm19
import Derived.LoopN
namespace Go.Am
open Go.RowKit (Below)
set_option linter.unusedVariables false
set_option linter.unusedSimpArgs false

section
variable {N0 : Nat} {P : Program} {w0 : World}

/-- What code does where the machine's code ends in (x, e', h'). -/
def SimTo (N0 : Nat) (P : Program) (w0 : World) (nt : Nat) (e : Env) (h : Hp) (x : AEx) (e' : Env) (h' : Hp) (W : (Exit → Act → World → Prop) → Act → World → Prop) : Prop :=
  ∀ (g : G) (a : Act) (w : World), Ok (N0 := N0) w0 g e a.tmps h w → nt ≤ a.tmps.size → a.defers = [] → ∀ Q : Exit → Act → World → Prop,
    (∀ g' a' w', Ext N0 g w g' w' → Ok (N0 := N0) w0 g' e' a'.tmps h' w' → nt ≤ a'.tmps.size → a'.defers = [] → Q (exitOf x) a' w') → W Q a w

def SimC (N0 : Nat) (P : Program) (w0 : World) (T : Table) (n : Nat) : Prop := ∀ (c : Code) (ac : ACode) (an : Ann) (nt base : Nat) (kp : List Nat) (e : Env) (h : Hp) (x : AEx) (e' : Env) (h' : Hp),
  cCode P an nt c = some ac → exec T n (setKeep kp ac) base e h = some (x, e', h') → base ≤ size h → SimTo N0 P w0 nt e h x e' h' fun Q => c.wp P Q

def SimL (N0 : Nat) (P : Program) (w0 : World) (T : Table) (n : Nat) : Prop := ∀ (c : Code) (ac : ACode) (an : Ann) (nt base : Nat) (kp : List Nat) (e : Env) (h : Hp) (x : AEx) (e' : Env) (h' : Hp),
  cCode P an nt c = some ac → exec T n (.loop (setKeep kp ac)) base e h = some (x, e', h') → base ≤ size h → SimTo N0 P w0 nt e h x e' h' fun Q => Code.rounds P c Q n

theorem sim_region {T : Table} (hT : TableOk P T) {n : Nat} (hF : ∀ base, OrcSim N0 P w0 base (call T n base)) {id : Nat} {ops : Array Oper} {draw : Bool} {ac : ACode} {an : Ann} {nt base : Nat} {kp : List Nat} {e : Env} {h : Hp} {x : AEx} {e' : Env} {h' : Hp}
    (hc : cCode P an nt (.region id ops draw) = some ac) (hs : exec T (n + 1) (setKeep kp ac) base e h = some (x, e', h')) (hb : base ≤ size h) :
    SimTo N0 P w0 nt e h x e' h' fun Q => (Code.region id ops draw).wp P Q := by
  intro g a w k hsz hd Q hQ
  simp only [cCode, Option.bind_eq_some_iff] at hc
  obtain ⟨l, hl, hc⟩ := hc
  obtain ⟨h1, h2⟩ := cOps_made ops.toList 0 l hl
  have hmade : ∀ (j : Nat) (o : Oper), ops[j]? = some o → ∃ ao, l[j]? = some ao ∧ Made P nt ops o ao := fun j o ho => h2 j o (by simpa using ho)
  have hlen : l.length = ops.size := by rw [h1]; simp
  have hgrow : ∀ h f vs r, base ≤ size h → call T n base f vs h = some r → Grows base h r.2 := fun h f vs r hb hr => (grows_all hT.noTake n).2 base f vs h hb r hr
  have hall : (List.range ops.size).map (fun i => l.getD i ⟨none, none, .alloc []⟩) = l := by
    apply List.ext_getElem?
    intro j
    by_cases hj : j < ops.size
    · have hj' : j < l.length := by omega
      simp [hj, hj', List.getD_eq_getElem?_getD]
    · simp [hj]; omega
  have run : ∀ (dr : Bool), exec T (n + 1) (.ops l dr kp) base e h = some (x, e', h') → ∃ e1, execOps (call T n base) base dr l e h = some (e1, h') ∧ x = .norm ∧ e' = prune kp e1 := by
    intro dr hx
    rw [exec] at hx
    simp only [Option.bnd_eq_some_iff, Option.some.injEq, Prod.mk.injEq] at hx
    obtain ⟨⟨e1, h1⟩, q1, rfl, rfl, rfl⟩ := hx
    exact ⟨e1, q1, rfl, rfl⟩
  have prune_eqv : ∀ (e1 e2 : Env), Eqv e1 e2 → ∀ ts, prune ts e1 = prune ts e2 := by
    intro e1 e2 he ts
    induction ts with
    | nil => rfl
    | cons t ts ih => simp only [prune, he t, ih]
  cases draw with
  | false =>
    simp only [Bool.false_eq_true, if_false, Option.some.injEq] at hc
    subst hc
    obtain ⟨e1, q1, rfl, rfl⟩ := run false hs
    refine wp_region (sim_ops hmade (hF base) hgrow (List.range ops.size) g e a h w (fun i hi => List.mem_range.1 hi) hlen k hsz hd hb (by rw [hall]; exact q1) fun g' a' w' hx hk hs' hd' => ?_)
    exact hQ g' a' w' hx (hk.sub (fun t v hv => look_prune kp e1 t v hv)) hs' hd'
  | true =>
    simp only [if_true] at hc
    split at hc
    · rename_i hfol
      split at hc
      · rename_i hdr
        simp only [Option.some.injEq] at hc
        subst hc
        obtain ⟨hl1, hl2⟩ := quieten_get (ops := ops) (l := l) l 0
        have hmade2 : ∀ (j : Nat) (o : Oper), ops[j]? = some o → ∃ ao, (quieten ops l 0 l)[j]? = some ao ∧ Made P nt ops o ao := by
          intro j o ho
          obtain ⟨ao, q1, q2⟩ := hmade j o ho
          obtain ⟨y, q3, q4⟩ := hl2 j ao q1
          exact ⟨y, q3, made_quiet q2 q4⟩
        have hlen2 : (quieten ops l 0 l).length = ops.size := by rw [hl1]; exact hlen
        generalize quieten ops l 0 l = l2 at *
        have hall2 : (List.range ops.size).map (fun i => l2.getD i ⟨none, none, .alloc []⟩) = l2 := by
          apply List.ext_getElem?
          intro j
          by_cases hj : j < ops.size
          · have hj' : j < l2.length := by omega
            simp [hj, hj', List.getD_eq_getElem?_getD]
          · simp [hj]; omega
        rw [setKeep, exec] at hs
        simp only [Option.bnd_eq_some_iff, Option.some.injEq, Prod.mk.injEq] at hs
        obtain ⟨⟨e1, h1⟩, q1, rfl, rfl, rfl⟩ := hs
        refine wp_region_any hfol ?_
        have hrest : rest ops.size (Array.replicate ops.size false) = List.range ops.size := by
          unfold rest
          rw [List.filter_eq_self]
          intro i hi
          simp at hi
          simp [Array.getD_eq_getD_getElem?, hi]
        have kd : Ok (N0 := N0) w0 g e a.tmps h w.drew := ok_drew k
        refine sim_draw hmade2 hlen2 hdr (hF base) hgrow (e9 := e1) ops.size (Array.replicate ops.size false) g e a h w.drew (by simp) ?_ (by rw [hrest]; simp) kd hsz hd hb ⟨e1, Eqv.refl _, by rw [hrest, hall2]; exact q1⟩ fun g' a' w' e2 he2 hx hk hs' hd' => ?_
        · intro i hi m hm
          exfalso
          by_cases hlt : i < ops.size
          · simp [Array.getD_eq_getD_getElem?, hlt] at hi
          · simp [Array.getD_eq_getD_getElem?, hlt] at hi
        · refine hQ g' a' w' ((ext_drew g w).trans hx) ?_ hs' hd'
          rw [prune_eqv e1 e2 he2]
          exact hk.sub (fun t v hv => look_prune kp e2 t v hv)
      · cases hc
    · cases hc

theorem sim_step {T : Table} (hT : TableOk P T) (n : Nat) (hC : SimC N0 P w0 T n) (hL : SimL N0 P w0 T n) (hF : ∀ base, OrcSim N0 P w0 base (call T n base)) :
    SimC N0 P w0 T (n + 1) ∧ SimL N0 P w0 T (n + 1) ∧ ∀ base, OrcSim N0 P w0 base (call T (n + 1) base) := by
  have hgrow := fun c base e h hc hb => (grows_all hT.noTake n).1 c base e h hc hb
  have hL1 : SimL N0 P w0 T (n + 1) := by
    intro c ac an nt base kp e h x e' h' hc hs hb g a w k hsz hd Q hQ
    rw [exec] at hs
    simp only [Option.bnd_eq_some_iff] at hs
    obtain ⟨⟨x1, e1, h1⟩, hs1, hs2⟩ := hs
    have hg := hgrow _ base e h (by rw [setKeep_noTake]; exact cCode_noTake c ac hc) hb _ hs1
    show c.wp P (Exit.then (Code.rounds P c Q n) Q) a w
    refine hC c ac an nt base kp e h x1 e1 h1 hc hs1 hb g a w k hsz hd _ fun g1 a1 w1 hx1 k1 hsz1 hd1 => ?_
    cases x1 with
    | norm =>
      exact hL c ac an nt base kp e1 h1 x e' h' hc hs2 (Nat.le_trans hb hg.1) g1 a1 w1 k1 hsz1 hd1 Q fun g' a' w' hx' => hQ g' a' w' (hx1.trans hx')
    | exit i =>
      simp only [Option.some.injEq, Prod.mk.injEq] at hs2
      obtain ⟨rfl, rfl, rfl⟩ := hs2
      exact hQ g1 a1 w1 hx1 k1 hsz1 hd1
    | ret =>
      simp only [Option.some.injEq, Prod.mk.injEq] at hs2
      obtain ⟨rfl, rfl, rfl⟩ := hs2
      exact hQ g1 a1 w1 hx1 k1 hsz1 hd1
  refine ⟨?_, hL1, ?_⟩
  · intro c ac an nt base kp e h x e' h' hc hs hb
    cases c with
    | skip =>
      simp only [cCode, Option.some.injEq] at hc
      subst hc
      intro g a w k hsz hd Q hQ
      simp only [setKeep, exec, Option.some.injEq, Prod.mk.injEq] at hs
      obtain ⟨rfl, rfl, rfl⟩ := hs
      exact wp_skip (hQ g a w (Ext.refl _ _ _) k hsz hd)
    | exit id =>
      simp only [cCode, Option.some.injEq] at hc
      subst hc
      intro g a w k hsz hd Q hQ
      simp only [setKeep, exec, Option.some.injEq, Prod.mk.injEq] at hs
      obtain ⟨rfl, rfl, rfl⟩ := hs
      exact wp_exit (hQ g a w (Ext.refl _ _ _) k hsz hd)
    | ret =>
      simp only [cCode, Option.some.injEq] at hc
      subst hc
      intro g a w k hsz hd Q hQ
      simp only [setKeep, exec, Option.some.injEq, Prod.mk.injEq] at hs
      obtain ⟨rfl, rfl, rfl⟩ := hs
      exact wp_ret (hQ g a w (Ext.refl _ _ _) k hsz hd)
    | region id ops draw => exact sim_region hT hF hc hs hb
    | seq c1 c2 =>
      simp only [cCode, Option.bind_eq_some_iff, Option.map_eq_some_iff] at hc
      obtain ⟨a1, ha1, a2, ha2, rfl⟩ := hc
      intro g a w k hsz hd Q hQ
      simp only [setKeep] at hs
      rw [exec] at hs
      simp only [Option.bnd_eq_some_iff] at hs
      obtain ⟨⟨x1, e1, h1⟩, hs1, hs2⟩ := hs
      have hg := hgrow _ base e h (by rw [setKeep_noTake]; exact cCode_noTake c1 a1 ha1) hb _ hs1
      refine wp_seq (hC c1 a1 an nt base kp e h x1 e1 h1 ha1 hs1 hb g a w k hsz hd _ fun g1 a1' w1 hx1 k1 hsz1 hd1 => ?_)
      cases x1 with
      | norm =>
        exact hC c2 a2 an nt base kp e1 h1 x e' h' ha2 hs2 (Nat.le_trans hb hg.1) g1 a1' w1 k1 hsz1 hd1 Q fun g' a' w' hx' => hQ g' a' w' (hx1.trans hx')
      | exit i =>
        simp only [Option.some.injEq, Prod.mk.injEq] at hs2
        obtain ⟨rfl, rfl, rfl⟩ := hs2
        exact hQ g1 a1' w1 hx1 k1 hsz1 hd1
      | ret =>
        simp only [Option.some.injEq, Prod.mk.injEq] at hs2
        obtain ⟨rfl, rfl, rfl⟩ := hs2
        exact hQ g1 a1' w1 hx1 k1 hsz1 hd1
    | cond c c1 c2 =>
      simp only [cCode, Option.bind_eq_some_iff, Option.map_eq_some_iff] at hc
      obtain ⟨c', hc', a1, ha1, a2, ha2, rfl⟩ := hc
      intro g a w k hsz hd Q hQ
      simp only [setKeep] at hs
      rw [exec] at hs
      simp only [Option.bnd_eq_some_iff] at hs
      obtain ⟨v, hv, hs⟩ := hs
      rw [condB_some] at hs
      rcases hs with ⟨rfl, hs⟩ | ⟨rfl, hs⟩
      · exact wp_cond_true (rv_bool (rv_ev k hc' hv)) (hC c1 a1 an nt base kp e h x e' h' ha1 hs hb g a w k hsz hd Q hQ)
      · exact wp_cond_false (rv_bool (rv_ev k hc' hv)) (hC c2 a2 an nt base kp e h x e' h' ha2 hs hb g a w k hsz hd Q hQ)
    | block id c1 =>
      simp only [cCode, Option.map_eq_some_iff] at hc
      obtain ⟨a1, ha1, rfl⟩ := hc
      intro g a w k hsz hd Q hQ
      simp only [setKeep] at hs
      rw [exec] at hs
      simp only [Option.bnd_eq_some_iff] at hs
      obtain ⟨⟨x1, e1, h1⟩, hs1, hs2⟩ := hs
      refine wp_block (hC c1 a1 an nt base kp e h x1 e1 h1 ha1 hs1 hb g a w k hsz hd _ fun g1 a1' w1 hx1 k1 hsz1 hd1 => ?_)
      cases x1 with
      | norm =>
        simp only [Option.some.injEq, Prod.mk.injEq] at hs2
        obtain ⟨rfl, rfl, rfl⟩ := hs2
        exact hQ g1 a1' w1 hx1 k1 hsz1 hd1
      | exit i =>
        simp only at hs2
        show (if i = id then Q .normal a1' w1 else Q (.exit i) a1' w1)
        split at hs2
        · rename_i hi
          simp only [Option.some.injEq, Prod.mk.injEq] at hs2
          obtain ⟨rfl, rfl, rfl⟩ := hs2
          rw [if_pos hi]
          exact hQ g1 a1' w1 hx1 k1 hsz1 hd1
        · rename_i hi
          simp only [Option.some.injEq, Prod.mk.injEq] at hs2
          obtain ⟨rfl, rfl, rfl⟩ := hs2
          rw [if_neg hi]
          exact hQ g1 a1' w1 hx1 k1 hsz1 hd1
      | ret =>
        simp only [Option.some.injEq, Prod.mk.injEq] at hs2
        obtain ⟨rfl, rfl, rfl⟩ := hs2
        exact hQ g1 a1' w1 hx1 k1 hsz1 hd1
    | loop c1 =>
      simp only [cCode, Option.map_eq_some_iff] at hc
      obtain ⟨a1, ha1, rfl⟩ := hc
      intro g a w k hsz hd Q hQ
      exact wp_loop_rounds (n + 1) (hL1 c1 a1 an nt base kp e h x e' h' ha1 hs hb g a w k hsz hd Q hQ)
    | scope c1 => simp [cCode] at hc
    | rangeFunc _ _ _ _ => simp [cCode] at hc
    | label _ => simp [cCode] at hc
    | goto _ => simp [cCode] at hc
    | refuse _ => simp [cCode] at hc
  · intro base f vs h r h' hs hb g us w k hlen hrel
    rw [call] at hs
    cases hf : T f with
    | none => rw [hf] at hs; cases hs
    | some it =>
      rw [hf] at hs
      cases it with
      | prim pg =>
        simp only [Option.bnd_eq_some_iff, Option.some.injEq, Prod.mk.injEq] at hs
        obtain ⟨v, hv, rfl, rfl⟩ := hs
        exact hT f _ hf vs v hv N0 w0 g h us w k hlen hrel
      | code fn =>
        simp only [Option.bnd_eq_some_iff] at hs
        obtain ⟨⟨x1, e1, h1⟩, hs1, hs2⟩ := hs
        obtain ⟨an, fn0, hfn, hcf⟩ := hT f _ hf
        simp only [cFn, Option.bind_eq_some_iff] at hcf
        obtain ⟨c, hbody, rs, hrs, ac, hac, hcf⟩ := hcf
        split at hcf
        · rename_i hcond
          simp only [Option.some.injEq] at hcf
          subst hcf
          simp only at hs1 hs2
          refine ⟨?_, calls_of_wp hfn hbody ?_⟩
          · have hname : (fn0.name == "runtime.NumGoroutine") = false := by simpa using hcond.2
            simp only [callFunc, Sem.run_bind, program, Sem.run, hfn, hname, hbody, Bool.false_eq_true, if_false, Option.isNone_some, Result.andThen, Sem.run_pure]
          · have hbase : (if an.keep then base else size h) ≤ size h := by split <;> omega
            have hle : base ≤ (if an.keep then base else size h) := by split <;> omega
            have kparams : Ok (N0 := N0) w0 g (params 0 vs) (us ++ Array.replicate (fn0.ntmps - us.size) Go.undef) h w := ⟨k.n, k.hN, k.below, k.inj, k.box, k.arr, fun t v hv => by
              rw [look_params, if_pos (Nat.zero_le _), Nat.sub_zero] at hv
              have hlt : t < us.size := by rw [hlen]; exact (List.getElem?_eq_some_iff.1 hv).1
              have := hrel t v hv
              rw [Array.getD_eq_getD_getElem?, Array.getElem?_append_left hlt, ← Array.getD_eq_getD_getElem?]
              exact this⟩
            have hgr := hgrow _ _ (params 0 vs) h (by rw [setKeep_noTake]; exact cCode_noTake c ac hac) hbase _ hs1
            refine hC c ac an fn0.ntmps _ _ (params 0 vs) h x1 e1 h1 hac hs1 hbase g { tmps := us ++ Array.replicate (fn0.ntmps - us.size) Go.undef, defers := [] } w kparams (by simp; omega) rfl _ fun g1 a1 w1 hx1 k1 hsz1 hd1 => ?_
            have hfin : finish { results := rs, body := setKeep (dedup (readsC ac ++ rs.map (·.1))) ac, keep := an.keep, own := an.own } (size h) e1 h1 = some (r, h') := by
              cases x1 with
              | exit i => cases hs2
              | norm => exact hs2
              | ret => exact hs2
            have hpost : ∃ v, (results fn0 a1.tmps).run P w1 = .ok v w1 ∧ ∃ u g', Ending.returned v = .returned u ∧ Ext N0 g w g' w1 ∧ OkH N0 w0 g' h' w1 ∧ RV N0 g' w1 r u := by
              unfold finish at hfin
              simp only [Option.bnd_eq_some_iff] at hfin
              obtain ⟨vs', hvs', hfin⟩ := hfin
              obtain ⟨u, hu, hru⟩ := results_run k1 hrs hvs'
              refine ⟨u, hu, u, ?_⟩
              by_cases hkeep : an.keep = true
              · rw [if_pos hkeep] at hfin
                simp only [Option.some.injEq, Prod.mk.injEq] at hfin
                obtain ⟨rfl, rfl⟩ := hfin
                exact ⟨g1, rfl, hx1, k1.heap, hru⟩
              · rw [if_neg hkeep] at hfin hgr
                split at hfin
                · rename_i hbel
                  simp only [Option.some.injEq, Prod.mk.injEq] at hfin
                  obtain ⟨rfl, rfl⟩ := hfin
                  refine ⟨{ g1 with n := size h }, rfl, ext_fewer hx1 (by rw [k.n]; exact Nat.le_refl _), ok_trunc k1.heap hgr.1 (hgr.2 _ (Nat.le_refl _) (clo_of k)), rv_fewer hru ?_⟩
                  match vs', hbel with
                  | [], _ => rfl
                  | [v], hbel => simpa [belows, result1] using hbel
                  | v :: v' :: vs', hbel => simpa [result1, below] using hbel
                · cases hfin
            cases x1 with
            | exit i => cases hs2
            | norm => exact ⟨hd1, hpost⟩
            | ret => exact ⟨hd1, hpost⟩
        · cases hcf

theorem sim_all {T : Table} (hT : TableOk P T) : ∀ n, SimC N0 P w0 T n ∧ SimL N0 P w0 T n ∧ ∀ base, OrcSim N0 P w0 base (call T n base)
  | 0 => ⟨fun _ _ _ _ _ _ _ _ _ _ _ _ hs => by simp [exec] at hs, fun _ _ _ _ _ _ _ _ _ _ _ _ hs => by simp [exec] at hs, fun _ _ _ _ _ _ hs => by simp [call] at hs⟩
  | n + 1 => let ⟨a, b, c⟩ := sim_all hT n; sim_step hT n a b c

/-- WHAT THE MACHINE ANSWERS, THE PROGRAM ANSWERS. -/
theorem sound {T : Table} (hT : TableOk P T) {f : Nat} {vs : List PV} {r : PV} {h' : Hp} (hs : CallA T 0 f vs [] = some (r, h')) (w : World) (us : Array Value) (hlen : us.size = vs.length)
    (hrel : ∀ (j : Nat) (x : PV), vs[j]? = some x → RV w.heap.size ⟨id, 0, fun _ => none⟩ w x (us.getD j Go.undef)) :
    Calls P f us w fun en w' => ∃ u g', en = .returned u ∧ RV w.heap.size g' w' r u ∧ Below w.heap.size w w' := by
  obtain ⟨n, hn⟩ := CallA_iff.1 hs
  have k0 : OkH w.heap.size w ⟨id, 0, fun _ => none⟩ [] w := by
    refine ⟨rfl, rfl, Below.refl _ _, fun b c hb => ?_, fun b cs hb => by simp [getBox] at hb, fun c m hm => by simp at hm, fun t v hv => by simp [look] at hv⟩
    exact absurd hb (Nat.not_lt_zero _)
  refine (((sim_all (N0 := w.heap.size) (w0 := w) hT n).2.2 0) f vs [] r h' hn (Nat.zero_le _) _ us w k0 hlen hrel).2.mono fun en w' hen => ?_
  obtain ⟨u, g', h1, h2, h3, h4⟩ := hen
  exact ⟨u, g', h1, h4, h3.below⟩
end
end Go.Am
