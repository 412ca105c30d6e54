/- 'Am': regions, in their order or in whatever order.
   By the session's AI agent. -/
import Derived.Test.YthhceeaconflnaaDoorAm16
namespace Go.Am
open Go.RowKit (Below)
set_option linter.unusedVariables false
set_option linter.unusedSimpArgs false
set_option linter.unusedSectionVars false

section
variable {N0 : Nat} {P : Program} {w0 : World} {g : G} {e : Env} {a : Act} {h : Hp} {w : World} {gl : Globs}

/-- The heap's part of the state, without a frame. -/
abbrev OkH (N0 : Nat) (w0 : World) (g : G) (h : Hp) (w : World) : Prop := Ok (N0 := N0) w0 g [] #[] h w

theorem Ok.heap {tm : Array Value} (k : Ok (N0 := N0) w0 g e tm h w) : OkH N0 w0 g h w := ⟨k.n, k.hN, k.below, k.inj, k.box, k.arr, fun t v hv => by simp [look] at hv⟩
theorem Ok.frame {tm : Array Value} {g' : G} {h' : Hp} {w' : World} (k : Ok (N0 := N0) w0 g e tm h w) (k' : OkH N0 w0 g' h' w') (x : Ext N0 g w g' w') : Ok (N0 := N0) w0 g' e tm h' w' :=
  ⟨k'.n, k'.hN, k'.below, k'.inj, k'.box, k'.arr, fun t v hv => (k.env t v hv).mono x⟩

/-- Calls do what the machine's calls do. -/
def OrcSim (N0 : Nat) (P : Program) (w0 : World) (base : Nat) (orc : Orc) : Prop := ∀ f vs h r h', orc f vs h = some (r, h') → base ≤ size h → ∀ (g : G) (us : Array Value) (w : World), OkH N0 w0 g h w → us.size = vs.length →
  (∀ (j : Nat) (x : PV), vs[j]? = some x → RV N0 g w x (us.getD j Go.undef)) → (callFunc f us).run P w = .ok (.enter f us) w ∧
    Calls P f us w fun en w' => ∃ u g', en = .returned u ∧ Ext N0 g w g' w' ∧ OkH N0 w0 g' h' w' ∧ RV N0 g' w' r u

/-- How one of the machine's operations comes of one of the program's. -/
structure Made (P : Program) (gl : Globs) (nt : Nat) (ops : Array Oper) (o : Oper) (ao : AOper) : Prop where
  op : ∃ box, cOpS P gl box o = some (uq ao.op)
  guard : cGuard ops o.guard = some ao.guard
  dst : ao.dst = o.dst
  ok : okDst nt o.dst = true
  call : isCall ao.op = true → isCallOp o.op = true

theorem uq_self {a : AOp} (h : notQ a = true) : uq a = a := by
  cases a <;> first | rfl | (simp [notQ] at h)
theorem step_uq {orc : Orc} {base : Nat} {op : AOp} {e : Env} {h : Hp} {x : PV × Env × Hp} {draw : Bool} (hs : step orc base draw op e h = some x) : step orc base draw (uq op) e h = some x := by
  cases op <;> try exact hs
  case loadN t n g a =>
    simp only [step, Option.bnd_eq_some_iff] at hs
    obtain ⟨q, _, v, hv, hs⟩ := hs
    simp only [uq, step, Option.bnd_eq_some_iff]
    refine ⟨v, hv, ?_⟩
    split at hs
    · split at hs
      · cases hs
      · exact Option.bnd_eq_some_iff.1 hs |>.elim fun cs h => Option.bnd_eq_some_iff.2 ⟨cs, h⟩
    · exact hs
    · cases hs
  case storeN t n a y =>
    simp only [step, Option.bnd_eq_some_iff] at hs
    obtain ⟨q, _, v, hv, u, hu, hs⟩ := hs
    simp only [uq, step, Option.bnd_eq_some_iff]
    refine ⟨v, hv, u, hu, ?_⟩
    split at hs
    · split at hs
      · exact Option.bnd_eq_some_iff.1 hs |>.elim fun cs h => Option.bnd_eq_some_iff.2 ⟨cs, h⟩
      · cases hs
    · cases hs
  rename_i f xs
  simp only [step, Option.bnd_eq_some_iff] at hs
  obtain ⟨vs, h1, r, h2, h3⟩ := hs
  simp only [uq, step, Option.bnd_eq_some_iff]
  refine ⟨vs, h1, r, h2, ?_⟩
  split at h3
  · rename_i hq
    cases h3
    cases draw
    · simp [hq]
    · simp [hq]
  · cases h3
theorem cOps_made {an : Ann} {nt id : Nat} {ops : Array Oper} : ∀ (l : List Oper) (i : Nat) (r : List AOper), cOps P gl an nt id ops i l = some r → r.length = l.length ∧ ∀ (j : Nat) (o : Oper), l[j]? = some o → ∃ ao, r[j]? = some ao ∧ Made P gl nt ops o ao
  | [], i, r, hr => by simp [cOps] at hr; subst hr; exact ⟨rfl, fun j o ho => by simp at ho⟩
  | o :: l, i, r, hr => by
    simp only [cOps, Option.bind_eq_some_iff] at hr
    obtain ⟨ao, h1, gd, h2, hr⟩ := hr
    split at hr
    · rename_i hcond
      simp only [Bool.and_eq_true] at hcond
      simp only [Option.map_eq_some_iff] at hr
      obtain ⟨r', hr', rfl⟩ := hr
      obtain ⟨e1, e2⟩ := cOps_made l (i + 1) r' hr'
      refine ⟨by simp [e1], fun j o' ho' => ?_⟩
      cases j with
      | zero => simp at ho'; subst ho'; exact ⟨_, rfl, ⟨_, by rw [uq_self hcond.2]; exact h1⟩, h2, rfl, hcond.1.1, fun hq => by have := hcond.1.2; rw [hq] at this; simpa using this⟩
      | succ j => simpa using e2 j o' (by simpa using ho')
    · cases hr

theorem rv_undef_not {u : Value} (hr : RV N0 g w .undef u) : True := trivial

/-- One operation, asked for. -/
theorem isCall_uq {a : AOp} (h : isCall (uq a) = true) : isCall a = true := by cases a <;> simp_all [uq, isCall]
theorem sim_op (hgl : GlobOk gl N0 w0) (k : Ok (N0 := N0) w0 g e a.tmps h w) {nt : Nat} {ops : Array Oper} {o : Oper} {ao : AOper} (hm : Made P gl nt ops o ao) (hsz : nt ≤ a.tmps.size) (hd : a.defers = []) {orc : Orc} {base : Nat} {draw : Bool} (horc : OrcSim N0 P w0 base orc) (hbs : base ≤ size h)
    {v : PV} {e' : Env} {h' : Hp} (hs : step orc base draw ao.op e h = some (v, e', h')) {K : Act → World → Prop} {Q : Exit → Act → World → Prop}
    (hK : ∀ g' a' w', Ext N0 g w g' w' → Ok (N0 := N0) w0 g' (putD e' ao.dst v) a'.tmps h' w' → nt ≤ a'.tmps.size → a'.defers = [] → K a' w') : o.wp P a w K Q := by
  obtain ⟨box, hc⟩ := hm.op
  have hc : cOp P gl box o = some (uq ao.op) := by
    simp only [cOpS, Option.some.injEq] at hc
    cases hq : cOp P gl box o with
    | some x => rw [hq] at hc; simpa using hc
    | none =>
      rw [hq, Option.getD_none] at hc
      have : ao.op = .stuck := by
        cases hop : ao.op <;> rw [hop] at hc <;> simp [uq] at hc
      rw [this] at hs
      simp [step] at hs
  have he' : e' = e := step_env orc base draw (op := ao.op) _ hs
  subst he'
  replace hs := step_uq hs
  have fin : ∀ (g' : G) (w' : World) (u : Value), Ext N0 g w g' w' → Ok (N0 := N0) w0 g' e' a.tmps h' w' → RV N0 g' w' v u → K (a.put o.dst u) w' := by
    intro g' w' u hx hok hr
    have hdst := hm.dst
    have hokd := hm.ok
    cases hod : o.dst with
    | none =>
      rw [hod] at hdst
      refine hK g' _ w' hx ?_ hsz hd
      rw [hdst]; exact hok
    | some d =>
      rw [hod] at hdst hokd
      simp only [okDst, decide_eq_true_eq] at hokd
      refine hK g' _ w' hx ?_ (by simp only [Act.put, Array.size_setIfInBounds]; exact hsz) hd
      rw [hdst]
      exact hok.put (Nat.lt_of_lt_of_le hokd hsz) hr
  by_cases hcall : isCall (uq ao.op) = false
  · obtain ⟨nx, u, w', g', hrun, hnx, hx, hok, hr⟩ := g_all hgl k hc hcall hs
    unfold Oper.wp
    rw [hrun]
    rcases hnx with rfl | ⟨rfl, rfl⟩
    · exact fin g' w' u hx hok hr
    · exact fin g' w' _ hx hok hr
  · have hcall' : isCall (uq ao.op) = true := by simpa using hcall
    cases ho : o.op with
    | call c =>
      have hc' : cCall P gl box c o.type = some (uq ao.op) := by simpa only [cOp, ho] using hc
      have hexec : execOp a.eval o = (do let d ← resolve a.eval c o.type; invoke d.target d.args) := by simp only [execOp, ho]
      have call : ∀ (f : FuncId) (vs : List PV) (us : Array Value) (r : PV × Hp), orc f vs h = some r → us.size = vs.length → (∀ (j : Nat) (x : PV), vs[j]? = some x → RV N0 g w x (us.getD j Go.undef)) →
          (execOp a.eval o).run P w = (callFunc f us).run P w → v = r.1 → h' = r.2 → o.wp P a w K Q := by
        intro f vs us r hr hl hrel hrun hv hh
        obtain ⟨h1, h2⟩ := horc f vs h r.1 r.2 hr hbs g us w k.heap hl hrel
        unfold Oper.wp
        rw [hrun, h1, Oper.upon_enter]
        refine h2.mono fun en w' hen => ?_
        obtain ⟨u, g', rfl, hx, hok, hru⟩ := hen
        refine fin g' w' u hx (k.frame ?_ hx) (by rw [hv]; exact hru)
        rw [hh]; exact hok
      cases hcal : c.callee with
      | value fo =>
        simp only [cCall, hcal] at hc'
        cases fo <;> simp only at hc' <;> (try cases hc')
        case tmp t =>
          simp only [Option.map_eq_some_iff] at hc'
          obtain ⟨xs, hxs, hao⟩ := hc'
          rw [← hao] at hs
          simp only [step, Option.bnd_eq_some_iff] at hs
          obtain ⟨p, hp, hs⟩ := hs
          have hrp := rv_ev hgl k (o := .tmp t) rfl hp
          generalize hA : a.eval (.tmp t) = A at hrp
          cases hrp <;> simp only at hs <;> (try cases hs)
          rename_i f cap us hsz' hrc
          simp only [Option.bnd_eq_some_iff] at hs
          obtain ⟨vs, hvs, r, hr, hs⟩ := hs
          obtain ⟨l1, l2⟩ := rv_evs hgl k hxs hvs
          have hs' : v = r.1 ∧ h' = r.2 := by
            split at hs
            · split at hs
              · rename_i hq
                simp only [Option.some.injEq, Prod.mk.injEq] at hs
                exact ⟨hs.1.symm, by rw [hq]; exact hs.2.2.symm⟩
              · cases hs
            · simp only [Option.some.injEq, Prod.mk.injEq] at hs
              exact ⟨hs.1.symm, hs.2.2.symm⟩
          have ls : c.args.size = vs.length := by rw [← Array.length_toList]; exact l1
          refine call f (vs ++ cap) (c.args.map a.eval ++ us) r hr (by simp [ls, hsz']) ?_ ?_ hs'.1 hs'.2
          · intro j x hx
            by_cases hj : j < vs.length
            · rw [List.getElem?_append_left hj] at hx
              have := l2 j x hx
              rw [Array.getD_eq_getD_getElem?, Array.getElem?_append_left (by simp; omega)]
              simpa [List.getD_eq_getElem?_getD] using this
            · rw [List.getElem?_append_right (by omega)] at hx
              have := hrc _ x hx
              rw [Array.getD_eq_getD_getElem?, Array.getElem?_append_right (by simp; omega)]
              simpa [Array.getD_eq_getD_getElem?, ls] using this
          · rw [hexec]
            simp only [resolve, hcal, hA, Deferred.ofValue, Sem.run_bind, Sem.run_pure, Result.andThen, invoke]
            simp
        case func f =>
          simp only [Option.map_eq_some_iff] at hc'
          obtain ⟨xs, hxs, hao⟩ := hc'
          rw [← hao] at hs
          simp only [step, Option.bnd_eq_some_iff] at hs
          obtain ⟨vs, hvs, r, hr, hs⟩ := hs
          obtain ⟨l1, l2⟩ := rv_evs hgl k hxs hvs
          have hs' : v = r.1 ∧ h' = r.2 := by
            split at hs
            · split at hs
              · rename_i hq
                simp only [Option.some.injEq, Prod.mk.injEq] at hs
                exact ⟨hs.1.symm, by rw [hq]; exact hs.2.2.symm⟩
              · cases hs
            · simp only [Option.some.injEq, Prod.mk.injEq] at hs
              exact ⟨hs.1.symm, hs.2.2.symm⟩
          refine call f vs (c.args.map a.eval) r hr (by simp [← l1]) ?_ ?_ hs'.1 hs'.2
          · intro j x hx
            have := l2 j x hx
            simpa [List.getD_eq_getElem?_getD, Array.getD_eq_getD_getElem?] using this
          · rw [hexec]
            simp only [resolve, hcal, Act.eval, Deferred.ofValue, Sem.run_bind, Sem.run_pure, Result.andThen, invoke]
            simp
      | invoke r m => simp only [cCall, hcal] at hc'; cases hc'
      | builtin b =>
        exfalso
        simp only [cCall, hcal] at hc'
        cases b <;> simp only at hc' <;> (try (cases hc'; done))
        case len => 
          split at hc'
          · split at hc' <;> first | (simp only [Option.map_eq_some_iff] at hc'; obtain ⟨_, _, hq⟩ := hc'; rw [← hq] at hcall'; simp [isCall] at hcall') | cases hc'
          · cases hc'
        case max => simp only [Option.map_eq_some_iff] at hc'; obtain ⟨_, _, hq⟩ := hc'; rw [← hq] at hcall'; simp [isCall] at hcall'
        case min => simp only [Option.map_eq_some_iff] at hc'; obtain ⟨_, _, hq⟩ := hc'; rw [← hq] at hcall'; simp [isCall] at hcall'
        case append =>
          split at hc'
          · split at hc'
            all_goals first
              | cases hc'
              | (simp only [Option.bind_eq_some_iff] at hc'
                 obtain ⟨sz, _, hc'⟩ := hc'
                 split at hc'
                 · simp only [Option.bind_eq_some_iff, Option.map_eq_some_iff] at hc'
                   obtain ⟨_, _, _, _, hq⟩ := hc'
                   rw [← hq] at hcall'
                   (repeat' split at hcall') <;> simp [isCall] at hcall'
                 · cases hc')
          · cases hc'
    | _ =>
      exfalso
      have := hm.call (isCall_uq hcall')
      rw [ho] at this
      simp [isCallOp] at this

end
end Go.Am
