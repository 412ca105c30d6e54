/- 'Am': the theorem: what the machine answers, the program answers.
   By the session's AI agent. -/
import Derived.Test.YthhceeaconflnaaDoorAm19
import Derived.LoopN
namespace Go.Am
open Go.RowKit (Below)
set_option linter.unusedVariables false
set_option linter.unusedSimpArgs false
set_option linter.unusedSectionVars false

section
variable {N0 : Nat} {P : Program} {w0 : World} {gl : Globs}

/-- What code does where the machine's code ends in (x, e', h'). -/
def SimTo (N0 : Nat) (P : Program) (w0 : World) (nt : Nat) (e : Env) (h : Hp) (x : AEx) (e' : Env) (h' : Hp) (W : (Exit → Act → World → Prop) → Act → World → Prop) : Prop :=
  ∀ (g : G) (a : Act) (w : World), Ok (N0 := N0) w0 g e a.tmps h w → nt ≤ a.tmps.size → a.defers = [] → ∀ Q : Exit → Act → World → Prop,
    (∀ g' a' w', Ext N0 g w g' w' → Ok (N0 := N0) w0 g' e' a'.tmps h' w' → nt ≤ a'.tmps.size → a'.defers = [] → Q (exitOf x) a' w') → W Q a w

def SimC (gl : Globs) (N0 : Nat) (P : Program) (w0 : World) (T : Table) (n : Nat) : Prop := ∀ (c : Code) (ac : ACode) (an : Ann) (nt base : Nat) (kp : List Nat) (e : Env) (h : Hp) (x : AEx) (e' : Env) (h' : Hp),
  cCode P gl an nt c = some ac → exec T n (setKeep kp ac) base e h = some (x, e', h') → base ≤ size h → SimTo N0 P w0 nt e h x e' h' fun Q => c.wp P Q

def SimL (gl : Globs) (N0 : Nat) (P : Program) (w0 : World) (T : Table) (n : Nat) : Prop := ∀ (c : Code) (ac : ACode) (an : Ann) (nt base : Nat) (kp : List Nat) (e : Env) (h : Hp) (x : AEx) (e' : Env) (h' : Hp),
  cCode P gl an nt c = some ac → exec T n (.loop (setKeep kp ac)) base e h = some (x, e', h') → base ≤ size h → SimTo N0 P w0 nt e h x e' h' fun Q => Code.rounds P c Q n

theorem stuck_exec {T : Table} {n base : Nat} {kp : List Nat} {e : Env} {h : Hp} {x : AEx × Env × Hp} (hs : exec T n (setKeep kp stuckC) base e h = some x) : False := by
  cases n with
  | zero => simp [exec] at hs
  | succ n => simp [stuckC, setKeep, exec, execOps, wanted, step, Option.bnd] at hs

theorem sim_region (hgl : GlobOk gl N0 w0) {I : Nat → World → Prop} (hI : I N0 w0) {T : Table} (hT : TableOk P gl I T) {n : Nat} (hF : ∀ base, OrcSim N0 P w0 base (call T n base)) {id : Nat} {ops : Array Oper} {draw : Bool} {ac : ACode} {an : Ann} {nt base : Nat} {kp : List Nat} {e : Env} {h : Hp} {x : AEx} {e' : Env} {h' : Hp}
    (hc : cCode P gl an nt (.region id ops draw) = some ac) (hs : exec T (n + 1) (setKeep kp ac) base e h = some (x, e', h')) (hb : base ≤ size h) :
    SimTo N0 P w0 nt e h x e' h' fun Q => (Code.region id ops draw).wp P Q := by
  intro g a w k hsz hd Q hQ
  simp only [cCode, Option.bind_eq_some_iff] at hc
  obtain ⟨l, hl, hc⟩ := hc
  obtain ⟨h1, h2⟩ := cOps_made ops.toList 0 l hl
  have hmade : ∀ (j : Nat) (o : Oper), ops[j]? = some o → ∃ ao, l[j]? = some ao ∧ Made P gl nt ops o ao := fun j o ho => h2 j o (by simpa using ho)
  have hlen : l.length = ops.size := by rw [h1]; simp
  have hgrow : ∀ h f vs r, base ≤ size h → call T n base f vs h = some r → Grows base h r.2 := fun h f vs r hb hr => (grows_all n).2 base f vs h hb r hr
  have hall : (List.range ops.size).map (fun i => l.getD i ⟨none, none, .alloc []⟩) = l := by
    apply List.ext_getElem?
    intro j
    by_cases hj : j < ops.size
    · have hj' : j < l.length := by omega
      simp [hj, hj', List.getD_eq_getElem?_getD]
    · simp [hj]; omega
  have run : ∀ (dr : Bool), exec T (n + 1) (.ops l dr kp) base e h = some (x, e', h') → ∃ e1, execOps (call T n base) base dr l e h = some (e1, h') ∧ x = .norm ∧ e' = prune kp e1 := by
    intro dr hx
    rw [exec] at hx
    simp only [Option.bnd_eq_some_iff, Option.some.injEq, Prod.mk.injEq] at hx
    obtain ⟨⟨e1, h1⟩, q1, rfl, rfl, rfl⟩ := hx
    exact ⟨e1, q1, rfl, rfl⟩
  have prune_eqv : ∀ (e1 e2 : Env), Eqv e1 e2 → ∀ ts, prune ts e1 = prune ts e2 := by
    intro e1 e2 he ts
    induction ts with
    | nil => rfl
    | cons t ts ih => simp only [prune, he t, ih]
  cases draw with
  | false =>
    simp only [Bool.false_eq_true, if_false, Option.some.injEq] at hc
    subst hc
    obtain ⟨e1, q1, rfl, rfl⟩ := run false hs
    refine wp_region (sim_ops hgl hmade (hF base) hgrow (List.range ops.size) g e a h w (fun i hi => List.mem_range.1 hi) hlen k hsz hd hb (by rw [hall]; exact q1) fun g' a' w' hx hk hs' hd' => ?_)
    exact hQ g' a' w' hx (hk.sub (fun t v hv => look_prune kp e1 t v hv)) hs' hd'
  | true =>
    simp only [if_true] at hc
    split at hc
    · rename_i hfol
      split at hc
      · rename_i hdr
        simp only [Option.some.injEq] at hc
        subst hc
        obtain ⟨hl1, hl2⟩ := quieten_get (ops := ops) (l := l) l 0
        have hmade2 : ∀ (j : Nat) (o : Oper), ops[j]? = some o → ∃ ao, (quieten ops l 0 l)[j]? = some ao ∧ Made P gl nt ops o ao := by
          intro j o ho
          obtain ⟨ao, q1, q2⟩ := hmade j o ho
          obtain ⟨y, q3, q4⟩ := hl2 j ao q1
          exact ⟨y, q3, made_quiet q2 q4⟩
        have hmadep := made_parts (an := an) (id := id) hmade2
        have hlen2 : (partOps an id (quieten ops l 0 l)).length = ops.size := by rw [hmadep.1, hl1]; exact hlen
        replace hmade2 := hmadep.2
        clear hmadep hl2 hl1
        generalize partOps an id (quieten ops l 0 l) = l2 at *
        have hall2 : (List.range ops.size).map (fun i => l2.getD i ⟨none, none, .alloc []⟩) = l2 := by
          apply List.ext_getElem?
          intro j
          by_cases hj : j < ops.size
          · have hj' : j < l2.length := by omega
            simp [hj, hj', List.getD_eq_getElem?_getD]
          · simp [hj]; omega
        rw [setKeep, exec] at hs
        simp only [Option.bnd_eq_some_iff, Option.some.injEq, Prod.mk.injEq] at hs
        obtain ⟨⟨e1, h1⟩, q1, rfl, rfl, rfl⟩ := hs
        refine wp_region_any hfol ?_
        have hrest : rest ops.size (Array.replicate ops.size false) = List.range ops.size := by
          unfold rest
          rw [List.filter_eq_self]
          intro i hi
          simp at hi
          simp [Array.getD_eq_getD_getElem?, hi]
        have kd : Ok (N0 := N0) w0 g e a.tmps h w.drew := ok_drew k
        refine sim_draw hgl hmade2 hlen2 hdr (hF base) hgrow (e9 := e1) ops.size (Array.replicate ops.size false) g e a h w.drew (by simp) ?_ (by rw [hrest]; simp) kd hsz hd hb ⟨e1, Eqv.refl _, by rw [hrest, hall2]; exact q1⟩ fun g' a' w' e2 he2 hx hk hs' hd' => ?_
        · intro i hi m hm
          exfalso
          by_cases hlt : i < ops.size
          · simp [Array.getD_eq_getD_getElem?, hlt] at hi
          · simp [Array.getD_eq_getD_getElem?, hlt] at hi
        · refine hQ g' a' w' ((ext_drew g w).trans hx) ?_ hs' hd'
          rw [prune_eqv e1 e2 he2]
          exact hk.sub (fun t v hv => look_prune kp e2 t v hv)
      · simp only [Option.some.injEq] at hc; subst hc; exact (stuck_exec hs).elim
    · simp only [Option.some.injEq] at hc; subst hc; exact (stuck_exec hs).elim

theorem ext_kept {g g1 : G} {h h1 : Hp} {w w1 : World} (k : OkH N0 w0 g h w) (k1 : OkH N0 w0 g1 h1 w1) (hx : Ext N0 g w g1 w1) (n b : Nat) (hn : n = size h := by rfl) :
    Ext N0 g w { gEnd g1 h1 w1 n (some b) with n := n + 1, ι := fun i => if i = n then g1.ι b else g1.ι i, tk := fun i => if i = n then g1.tk b else g1.tk i } w1 := by
  have hh := hx.trans (ext_hwEnd k1 n (some b))
  have hgn := k.n
  refine ⟨by show g.n ≤ n + 1; omega, fun c hc => ?_, hh.hw, hh.cell, hh.old, fun t ht => ?_⟩
  · show (if c = n then _ else _) = _
    rw [if_neg (by omega)]; exact hx.ι c hc
  · show (g.tk t).e ≤ (if t = n then _ else _ : Tk).e ∧ ((if t = n then _ else _ : Tk).e = _ → (if t = n then _ else _ : Tk) = _)
    rw [if_neg (by omega)]; exact hx.tk t ht

theorem rv_moved {g1 : G} {h1 : Hp} {w1 : World} (k1 : OkH N0 w0 g1 h1 w1) {n b : Nat} {v : PV} {u : Value} (hr : RV N0 g1 w1 v u) (hb : below n v = true) :
    RV N0 { gEnd g1 h1 w1 n (some b) with n := n + 1, ι := fun i => if i = n then g1.ι b else g1.ι i, tk := fun i => if i = n then g1.tk b else g1.tk i } w1 v u := by
  have h2 := rv_fewer (hr.mono (ext_hwEnd k1 n (some b))) hb
  have hxx : Ext N0 { gEnd g1 h1 w1 n (some b) with n := n } w1 { gEnd g1 h1 w1 n (some b) with n := n + 1, ι := fun i => if i = n then g1.ι b else g1.ι i, tk := fun i => if i = n then g1.tk b else g1.tk i } w1 := by
    refine ⟨Nat.le_succ n, fun c hc => ?_, fun c m hm => ⟨m, hm, Nat.le_refl _⟩, fun _ _ _ _ _ => rfl, fun _ _ _ => rfl, fun t ht => ?_⟩
    · have hc' : c < n := hc
      show (if c = n then _ else _) = _; rw [if_neg (by omega)]; rfl
    · have ht' : t < n := ht
      show (g1.tk t).e ≤ (if t = n then _ else _ : Tk).e ∧ ((if t = n then _ else _ : Tk).e = _ → (if t = n then _ else _ : Tk) = _)
      rw [if_neg (by omega)]; exact ⟨Nat.le_refl _, fun _ => rfl⟩
  exact h2.mono hxx

theorem rv_tok_moved {g1 : G} {h1 : Hp} {w1 : World} (k1 : OkH N0 w0 g1 h1 w1) {n t : Nat} (hn : n ≤ t) {sz : Nat} {es : List PV} {u : Value} (hb : belows n es = true) (hr : RV N0 g1 w1 (.sl (.tok t) sz es) u) :
    RV N0 { gEnd g1 h1 w1 n (some t) with n := n + 1, ι := fun i => if i = n then g1.ι t else g1.ι i, tk := fun i => if i = n then g1.tk t else g1.tk i } w1 (.sl (.tok n) sz es) u := by
  have hno : RV N0 g1 w1 (.sl .no sz es) u := by have := rv_strip hr; simpa [strip, Own.strip] using this
  have h2 := rv_moved (n := n) (b := t) k1 hno (by simp only [below, Own.below, Bool.true_and]; exact hb)
  cases hr with
  | sl _ _ _ c o cap uu q1 q2 q3 q4 q5 q6 sp q8 q9 =>
    generalize hU : Value.slice (some ⟨c, o, sp⟩) es.length cap = U at h2
    cases h2 with
    | sl _ _ _ c' o' cap' uu' p1 p2 p3 p4 p5 p6 sp' p8 p9 =>
      cases hU
      refine .sl _ sz es c o cap uu' p1 (by simp) p3 p4 p5 p6 sp p8 fun t' ht' => ?_
      cases ht'
      obtain ⟨r1, r2, r3⟩ := q9 t rfl
      refine ⟨Nat.lt_succ_self n, ?_⟩
      show es.length ≤ (if n = n then _ else _ : Tk).e ∧ ((if n = n then _ else _ : Tk).e = _ → (if n = n then _ else _ : Tk) = _ ∧ _)
      rw [if_pos rfl]
      exact ⟨r2, r3⟩

theorem frzs_rv {g : G} {h : Hp} {w : World} (k : OkH N0 w0 g h w) {n : Nat} : ∀ {vs : List PV} {us : List Value}, (∀ (j : Nat) (x : PV), vs[j]? = some x → RV N0 g w x (us.getD j Go.undef)) → ∀ vs', frzs n h vs = some vs' →
    vs'.length = vs.length ∧ ∀ (j : Nat) (x : PV), vs'[j]? = some x → RV N0 (gEnd g h w n none) w x (us.getD j Go.undef)
  | [], us, hr, vs', hv => by simp only [frzs, Option.some.injEq] at hv; subst hv; exact ⟨rfl, fun j x hx => by simp at hx⟩
  | v :: vs, us, hr, vs', hv => by
    simp only [frzs, Option.bnd_eq_some_iff, Option.some.injEq] at hv
    obtain ⟨v', hv', vs2, hvs2, rfl⟩ := hv
    obtain ⟨l1, l2⟩ := frzs_rv k (us := us.drop 1) (fun j x hx => by
      have := hr (j + 1) x (by simpa using hx)
      rw [List.getD_eq_getElem?_getD] at this ⊢
      rwa [List.getElem?_drop, Nat.add_comm]) vs2 hvs2
    refine ⟨by simp [l1], fun j x hx => ?_⟩
    cases j with
    | zero => simp at hx; subst hx; exact frz_rv k (hr 0 v rfl) _ hv'
    | succ j =>
      have := l2 j x (by simpa using hx)
      rw [List.getD_eq_getElem?_getD] at this ⊢
      rwa [List.getElem?_drop, Nat.add_comm] at this

theorem result1_rv {g : G} {w : World} : ∀ {vs : List PV} {us : List Value}, us.length = vs.length → (∀ (j : Nat) (x : PV), vs[j]? = some x → RV N0 g w x (us.getD j Go.undef)) → RV N0 g w (result1 vs) (if hs : us.toArray.size = 1 then us.toArray[0] else .tuple us.toArray)
  | [], [], _, _ => .tup [] #[] rfl (fun j x hx => by simp at hx)
  | [v], [u], _, h3 => by simpa [result1] using h3 0 v rfl
  | v :: v' :: vs, u :: u' :: us, h2, h3 => by
    rw [dif_neg (by simp)]
    refine .tup (v :: v' :: vs) (u :: u' :: us).toArray (by simpa using h2) fun j x hx => ?_
    simpa [List.getD_eq_getElem?_getD, Array.getD_eq_getD_getElem?] using h3 j x hx
  | [], u :: us, h, _ => by simp at h
  | [v], [], h, _ => by simp at h
  | [v], u :: u' :: us, h, _ => by simp at h
  | v :: v' :: vs, [], h, _ => by simp at h
  | v :: v' :: vs, [u], h, _ => by simp at h

theorem results_list {g : G} {e : Env} {a : Act} {h : Hp} {w : World} (k : Ok (N0 := N0) w0 g e a.tmps h w) {fn : Func} {rs : List (Nat × Option (Nat × Bool))} {vs : List PV} (hc : cResults P fn.results.toList = some rs) (hr : resultsOf e h rs = some vs) :
    ∃ us : List Value, (results fn a.tmps).run P w = .ok (if hs : us.toArray.size = 1 then us.toArray[0] else .tuple us.toArray) w ∧ us.length = vs.length ∧ ∀ (j : Nat) (x : PV), vs[j]? = some x → RV N0 g w x (us.getD j Go.undef) := by
  obtain ⟨us, h1, h2, h3⟩ := results_rv k fn.results.toList rs vs hc hr
  refine ⟨us, ?_, h2, h3⟩
  have hq : results fn a.tmps = (do let vs ← fn.results.mapM (resOne a.tmps); pure (if h : vs.size = 1 then vs[0] else .tuple vs)) := rfl
  rw [hq, Array.mapM_eq_mapM_toList]
  simp [h1]

theorem sim_step (hgl : GlobOk gl N0 w0) {I : Nat → World → Prop} (hI : I N0 w0) {T : Table} (hT : TableOk P gl I T) (n : Nat) (hC : SimC gl N0 P w0 T n) (hL : SimL gl N0 P w0 T n) (hF : ∀ base, OrcSim N0 P w0 base (call T n base)) :
    SimC gl N0 P w0 T (n + 1) ∧ SimL gl N0 P w0 T (n + 1) ∧ ∀ base, OrcSim N0 P w0 base (call T (n + 1) base) := by
  have hgrow := fun c base e h hb => (grows_all (T := T) n).1 c base e h hb
  have hL1 : SimL gl N0 P w0 T (n + 1) := by
    intro c ac an nt base kp e h x e' h' hc hs hb g a w k hsz hd Q hQ
    rw [exec] at hs
    simp only [Option.bnd_eq_some_iff] at hs
    obtain ⟨⟨x1, e1, h1⟩, hs1, hs2⟩ := hs
    have hg := hgrow _ base e h hb _ hs1
    show c.wp P (Exit.then (Code.rounds P c Q n) Q) a w
    refine hC c ac an nt base kp e h x1 e1 h1 hc hs1 hb g a w k hsz hd _ fun g1 a1 w1 hx1 k1 hsz1 hd1 => ?_
    cases x1 with
    | norm =>
      exact hL c ac an nt base kp e1 h1 x e' h' hc hs2 (Nat.le_trans hb hg.1) g1 a1 w1 k1 hsz1 hd1 Q fun g' a' w' hx' => hQ g' a' w' (hx1.trans hx')
    | exit i =>
      simp only [Option.some.injEq, Prod.mk.injEq] at hs2
      obtain ⟨rfl, rfl, rfl⟩ := hs2
      exact hQ g1 a1 w1 hx1 k1 hsz1 hd1
    | ret =>
      simp only [Option.some.injEq, Prod.mk.injEq] at hs2
      obtain ⟨rfl, rfl, rfl⟩ := hs2
      exact hQ g1 a1 w1 hx1 k1 hsz1 hd1
  refine ⟨?_, hL1, ?_⟩
  · intro c ac an nt base kp e h x e' h' hc hs hb
    cases c with
    | skip =>
      simp only [cCode, Option.some.injEq] at hc
      subst hc
      intro g a w k hsz hd Q hQ
      simp only [setKeep, exec, Option.some.injEq, Prod.mk.injEq] at hs
      obtain ⟨rfl, rfl, rfl⟩ := hs
      exact wp_skip (hQ g a w (Ext.refl _ _ _) k hsz hd)
    | exit id =>
      simp only [cCode, Option.some.injEq] at hc
      subst hc
      intro g a w k hsz hd Q hQ
      simp only [setKeep, exec, Option.some.injEq, Prod.mk.injEq] at hs
      obtain ⟨rfl, rfl, rfl⟩ := hs
      exact wp_exit (hQ g a w (Ext.refl _ _ _) k hsz hd)
    | ret =>
      simp only [cCode, Option.some.injEq] at hc
      subst hc
      intro g a w k hsz hd Q hQ
      simp only [setKeep, exec, Option.some.injEq, Prod.mk.injEq] at hs
      obtain ⟨rfl, rfl, rfl⟩ := hs
      exact wp_ret (hQ g a w (Ext.refl _ _ _) k hsz hd)
    | region id ops draw => exact sim_region hgl hI hT hF hc hs hb
    | seq c1 c2 =>
      simp only [cCode, Option.bind_eq_some_iff, Option.map_eq_some_iff] at hc
      obtain ⟨a1, ha1, a2, ha2, rfl⟩ := hc
      intro g a w k hsz hd Q hQ
      simp only [setKeep] at hs
      rw [exec] at hs
      simp only [Option.bnd_eq_some_iff] at hs
      obtain ⟨⟨x1, e1, h1⟩, hs1, hs2⟩ := hs
      have hg := hgrow _ base e h hb _ hs1
      refine wp_seq (hC c1 a1 an nt base kp e h x1 e1 h1 ha1 hs1 hb g a w k hsz hd _ fun g1 a1' w1 hx1 k1 hsz1 hd1 => ?_)
      cases x1 with
      | norm =>
        exact hC c2 a2 an nt base kp e1 h1 x e' h' ha2 hs2 (Nat.le_trans hb hg.1) g1 a1' w1 k1 hsz1 hd1 Q fun g' a' w' hx' => hQ g' a' w' (hx1.trans hx')
      | exit i =>
        simp only [Option.some.injEq, Prod.mk.injEq] at hs2
        obtain ⟨rfl, rfl, rfl⟩ := hs2
        exact hQ g1 a1' w1 hx1 k1 hsz1 hd1
      | ret =>
        simp only [Option.some.injEq, Prod.mk.injEq] at hs2
        obtain ⟨rfl, rfl, rfl⟩ := hs2
        exact hQ g1 a1' w1 hx1 k1 hsz1 hd1
    | cond c c1 c2 =>
      simp only [cCode, Option.bind_eq_some_iff, Option.map_eq_some_iff] at hc
      obtain ⟨c', hc', a1, ha1, a2, ha2, rfl⟩ := hc
      intro g a w k hsz hd Q hQ
      simp only [setKeep] at hs
      rw [exec] at hs
      simp only [Option.bnd_eq_some_iff] at hs
      obtain ⟨v, hv, hs⟩ := hs
      rw [condB_some] at hs
      rcases hs with ⟨rfl, hs⟩ | ⟨rfl, hs⟩
      · exact wp_cond_true (rv_bool (rv_ev hgl k hc' hv)) (hC c1 a1 an nt base kp e h x e' h' ha1 hs hb g a w k hsz hd Q hQ)
      · exact wp_cond_false (rv_bool (rv_ev hgl k hc' hv)) (hC c2 a2 an nt base kp e h x e' h' ha2 hs hb g a w k hsz hd Q hQ)
    | block id c1 =>
      simp only [cCode, Option.map_eq_some_iff] at hc
      obtain ⟨a1, ha1, rfl⟩ := hc
      intro g a w k hsz hd Q hQ
      simp only [setKeep] at hs
      rw [exec] at hs
      simp only [Option.bnd_eq_some_iff] at hs
      obtain ⟨⟨x1, e1, h1⟩, hs1, hs2⟩ := hs
      refine wp_block (hC c1 a1 an nt base kp e h x1 e1 h1 ha1 hs1 hb g a w k hsz hd _ fun g1 a1' w1 hx1 k1 hsz1 hd1 => ?_)
      cases x1 with
      | norm =>
        simp only [Option.some.injEq, Prod.mk.injEq] at hs2
        obtain ⟨rfl, rfl, rfl⟩ := hs2
        exact hQ g1 a1' w1 hx1 k1 hsz1 hd1
      | exit i =>
        simp only at hs2
        show (if i = id then Q .normal a1' w1 else Q (.exit i) a1' w1)
        split at hs2
        · rename_i hi
          simp only [Option.some.injEq, Prod.mk.injEq] at hs2
          obtain ⟨rfl, rfl, rfl⟩ := hs2
          rw [if_pos hi]
          exact hQ g1 a1' w1 hx1 k1 hsz1 hd1
        · rename_i hi
          simp only [Option.some.injEq, Prod.mk.injEq] at hs2
          obtain ⟨rfl, rfl, rfl⟩ := hs2
          rw [if_neg hi]
          exact hQ g1 a1' w1 hx1 k1 hsz1 hd1
      | ret =>
        simp only [Option.some.injEq, Prod.mk.injEq] at hs2
        obtain ⟨rfl, rfl, rfl⟩ := hs2
        exact hQ g1 a1' w1 hx1 k1 hsz1 hd1
    | loop c1 =>
      simp only [cCode, Option.map_eq_some_iff] at hc
      obtain ⟨a1, ha1, rfl⟩ := hc
      intro g a w k hsz hd Q hQ
      exact wp_loop_rounds (n + 1) (hL1 c1 a1 an nt base kp e h x e' h' ha1 hs hb g a w k hsz hd Q hQ)
    | scope c1 => simp only [cCode, Option.some.injEq] at hc; subst hc; exact (stuck_exec hs).elim
    | rangeFunc _ _ _ _ => simp only [cCode, Option.some.injEq] at hc; subst hc; exact (stuck_exec hs).elim
    | label _ => simp only [cCode, Option.some.injEq] at hc; subst hc; exact (stuck_exec hs).elim
    | goto _ => simp only [cCode, Option.some.injEq] at hc; subst hc; exact (stuck_exec hs).elim
    | refuse _ => simp only [cCode, Option.some.injEq] at hc; subst hc; exact (stuck_exec hs).elim
  · intro base f vs h r h' hs hb g us w k hlen hrel
    rw [call] at hs
    cases hf : T f with
    | none => rw [hf] at hs; cases hs
    | some it =>
      rw [hf] at hs
      cases it with
      | prim pg =>
        simp only [Option.bnd_eq_some_iff] at hs
        obtain ⟨⟨v, m⟩, hv, hs⟩ := hs
        have hq := hT f _ hf vs h (v, m) hv N0 w0 g us w hI k hlen hrel
        cases m with
        | none =>
          simp only [primEnd, Option.some.injEq, Prod.mk.injEq] at hs
          obtain ⟨rfl, rfl⟩ := hs
          exact hq
        | some q =>
          obtain ⟨b, cs⟩ := q
          simp only [primEnd] at hs
          split at hs
          · simp only [Option.some.injEq, Prod.mk.injEq] at hs
            obtain ⟨rfl, rfl⟩ := hs
            exact hq
          · cases hs
      | code fn =>
        simp only [Option.bnd_eq_some_iff] at hs
        obtain ⟨⟨x1, e1, h1⟩, hs1, hs2⟩ := hs
        obtain ⟨an, fn0, hfn, hcf⟩ := hT f _ hf
        simp only [cFn, Option.bind_eq_some_iff] at hcf
        obtain ⟨c, hbody, rs, hrs, ac, hac, hcf⟩ := hcf
        split at hcf
        · rename_i hcond
          simp only [Option.some.injEq] at hcf
          subst hcf
          simp only at hs1 hs2
          refine ⟨?_, calls_of_wp hfn hbody ?_⟩
          · have hname : (fn0.name == "runtime.NumGoroutine") = false := by simpa using hcond.2
            simp only [callFunc, Sem.run_bind, program, Sem.run, hfn, hname, hbody, Bool.false_eq_true, if_false, Option.isNone_some, Result.andThen, Sem.run_pure]
          · have hbase : (if an.keep then base else size h) ≤ size h := by split <;> omega
            have hle : base ≤ (if an.keep then base else size h) := by split <;> omega
            have kparams : Ok (N0 := N0) w0 g (params 0 vs) (us ++ Array.replicate (fn0.ntmps - us.size) Go.undef) h w := ⟨k.n, k.hN, k.below, k.inj, k.box, k.arr, fun t v hv => by
              rw [look_params, if_pos (Nat.zero_le _), Nat.sub_zero] at hv
              have hlt : t < us.size := by rw [hlen]; exact (List.getElem?_eq_some_iff.1 hv).1
              have := hrel t v hv
              rw [Array.getD_eq_getD_getElem?, Array.getElem?_append_left hlt, ← Array.getD_eq_getD_getElem?]
              exact this⟩
            have hgr := hgrow _ _ (params 0 vs) h hbase _ hs1
            refine hC c ac an fn0.ntmps _ _ (params 0 vs) h x1 e1 h1 hac hs1 hbase g { tmps := us ++ Array.replicate (fn0.ntmps - us.size) Go.undef, defers := [] } w kparams (by simp; omega) rfl _ fun g1 a1 w1 hx1 k1 hsz1 hd1 => ?_
            have hfin : finish { results := rs, body := setKeep (dedup (readsC ac ++ rs.map (·.1))) ac, keep := an.keep, own := an.own } (size h) e1 h1 = some (r, h') := by
              cases x1 with
              | exit i => cases hs2
              | norm => exact hs2
              | ret => exact hs2
            have hpost : ∃ v, (results fn0 a1.tmps).run P w1 = .ok v w1 ∧ ∃ u g', Ending.returned v = .returned u ∧ Ext N0 g w g' w1 ∧ OkH N0 w0 g' h' w1 ∧ RV N0 g' w1 r u := by
              unfold finish at hfin
              simp only [Option.bnd_eq_some_iff] at hfin
              obtain ⟨vs', hvs', hfin⟩ := hfin
              obtain ⟨us', hu, hsz', hru⟩ := results_list k1 hrs hvs'
              refine ⟨_, hu, (if hs : us'.toArray.size = 1 then us'.toArray[0] else .tuple us'.toArray), ?_⟩
              by_cases hkeep : an.keep = true
              · rw [if_pos hkeep] at hfin
                simp only [Option.some.injEq, Prod.mk.injEq] at hfin
                obtain ⟨rfl, rfl⟩ := hfin
                exact ⟨g1, rfl, hx1, k1.heap, result1_rv hsz' hru⟩
              · rw [if_neg hkeep] at hfin hgr
                have hkg := k.n
                have hclo := hgr.2 _ (Nat.le_refl _) (clo_of k)
                have hst : size h ≤ size h1 := hgr.1
                -- the plain end
                have plain : ∀ vs2, frzs (size h) h1 vs' = some vs2 → belows (size h) vs2 = true → (r, h') = (result1 vs2, trunc h1 (size h)) → ∃ g', Ending.returned (if hs : us'.toArray.size = 1 then us'.toArray[0] else .tuple us'.toArray) = .returned (if hs : us'.toArray.size = 1 then us'.toArray[0] else .tuple us'.toArray) ∧ Ext N0 g w g' w1 ∧ OkH N0 w0 g' h' w1 ∧ RV N0 g' w1 r (if hs : us'.toArray.size = 1 then us'.toArray[0] else .tuple us'.toArray) := by
                  intro vs2 h2 h3 h4
                  cases h4
                  obtain ⟨l1, l2⟩ := frzs_rv k1.heap hru vs2 h2
                  refine ⟨{ gEnd g1 h1 w1 (size h) none with n := size h }, rfl, ext_fewer (hx1.trans (ext_hwEnd k1.heap (size h) none)) (by rw [hkg]; exact Nat.le_refl _), ok_trunc k1.heap hst hclo, result1_rv (by omega) fun j x hx => ?_⟩
                  exact rv_fewer (l2 j x hx) (belows_mem' h3 j x hx)
                split at hfin
                · simp only [Option.bnd_eq_some_iff, Option.some.injEq, Prod.mk.injEq] at hfin
                  obtain ⟨⟨vs2, h2⟩, hown, rfl, rfl⟩ := hfin
                  unfold ownEnd at hown
                  split at hown
                  · -- a token's slice
                    rename_i t sz es vr
                    split at hown
                    · rename_i hcond
                      obtain ⟨hb1, hb2⟩ := hcond
                      split at hown
                      · rename_i hlt
                        simp only [Option.some.injEq, Prod.mk.injEq] at hown
                        obtain ⟨rfl, rfl⟩ := hown
                        refine ⟨{ gEnd g1 h1 w1 (size h) none with n := size h }, rfl, ext_fewer (hx1.trans (ext_hwEnd k1.heap (size h) none)) (by rw [hkg]; exact Nat.le_refl _), ok_trunc k1.heap hst hclo, result1_rv hsz' fun j x hx => ?_⟩
                        refine rv_fewer ((hru j x hx).mono (ext_hwEnd k1.heap (size h) none)) ?_
                        cases j with
                        | zero => simp at hx; subst hx; simp only [below, Own.below, Bool.and_eq_true, decide_eq_true_eq]; exact ⟨hlt, hb1⟩
                        | succ j => exact belows_mem' hb2 j x (by simpa using hx)
                      · rename_i hge
                        simp only [Option.bnd_eq_some_iff, Option.some.injEq, Prod.mk.injEq] at hown
                        obtain ⟨n0, hn0, rfl, rfl⟩ := hown
                        have hbx := box_of_tok hn0
                        refine ⟨_, rfl, ?_, ok_trunc1 k1.heap hst hclo (by omega) hbx (by intro cs hq; cases hq), result1_rv (by simpa using hsz') fun j x hx => ?_⟩
                        · exact ext_kept k.heap k1.heap hx1 (size h) t
                        · cases j with
                          | zero =>
                            simp at hx; subst hx
                            have h0 := hru 0 _ rfl
                            exact rv_tok_moved k1.heap (by omega) hb1 h0
                          | succ j =>
                            exact rv_moved k1.heap (hru (j + 1) x (by simpa using hx)) (belows_mem' hb2 j x (by simpa using hx))
                    · cases hown
                  · -- a box's slice
                    rename_i fl b off len sz vr
                    split at hown
                    · rename_i hlt
                      split at hown
                      · rename_i hb2
                        simp only [Option.some.injEq, Prod.mk.injEq] at hown
                        obtain ⟨rfl, rfl⟩ := hown
                        refine ⟨{ gEnd g1 h1 w1 (size h) none with n := size h }, rfl, ext_fewer (hx1.trans (ext_hwEnd k1.heap (size h) none)) (by rw [hkg]; exact Nat.le_refl _), ok_trunc k1.heap hst hclo, result1_rv hsz' fun j x hx => ?_⟩
                        refine rv_fewer ((hru j x hx).mono (ext_hwEnd k1.heap (size h) none)) ?_
                        cases j with
                        | zero => simp at hx; subst hx; simpa [below] using hlt
                        | succ j => exact belows_mem' hb2 j x (by simpa using hx)
                      · cases hown
                    · rename_i hge
                      simp only [Option.bnd_eq_some_iff] at hown
                      obtain ⟨cs, hcs, hown⟩ := hown
                      split at hown
                      · rename_i hcond
                        obtain ⟨hb2, hb3⟩ := hcond
                        simp only [Option.some.injEq, Prod.mk.injEq] at hown
                        obtain ⟨rfl, rfl⟩ := hown
                        have hbx := box_of_get hcs
                        refine ⟨_, rfl, ?_, ok_trunc1 k1.heap hst hclo (by omega) hbx (by intro cs' hq; cases hq; exact hb3), result1_rv (by simpa using hsz') fun j x hx => ?_⟩
                        · exact ext_kept k.heap k1.heap hx1 (size h) b
                        · cases j with
                          | zero =>
                            simp at hx; subst hx
                            have h0 := hru 0 _ rfl
                            generalize us'.getD 0 Go.undef = U at h0
                            cases h0
                            rename_i cap hb hl hfull
                            have := RV.bsl (N0 := N0) (g := { gEnd g1 h1 w1 (size h) (some b) with n := size h + 1, ι := fun i => if i = size h then g1.ι b else g1.ι i, tk := fun i => if i = size h then g1.tk b else g1.tk i }) (w := w1) fl (size h) off len sz cap (Nat.lt_succ_self _) hl hfull
                            simpa using this
                          | succ j =>
                            exact rv_moved k1.heap (hru (j + 1) x (by simpa using hx)) (belows_mem' hb2 j x (by simpa using hx))
                      · cases hown
                  · simp only [Option.bnd_eq_some_iff] at hown
                    obtain ⟨vs3, h3, hown⟩ := hown
                    split at hown
                    · rename_i hb
                      simp only [Option.some.injEq, Prod.mk.injEq] at hown
                      obtain ⟨rfl, rfl⟩ := hown
                      exact plain _ h3 hb rfl
                    · cases hown
                · simp only [Option.bnd_eq_some_iff] at hfin
                  obtain ⟨vs2, h2, hfin⟩ := hfin
                  split at hfin
                  · rename_i hb
                    simp only [Option.some.injEq, Prod.mk.injEq] at hfin
                    obtain ⟨rfl, rfl⟩ := hfin
                    exact plain _ h2 hb rfl
                  · cases hfin
            cases x1 with
            | exit i => cases hs2
            | norm => exact ⟨hd1, hpost⟩
            | ret => exact ⟨hd1, hpost⟩
        · cases hcf

theorem sim_all (hgl : GlobOk gl N0 w0) {I : Nat → World → Prop} (hI : I N0 w0) {T : Table} (hT : TableOk P gl I T) : ∀ n, SimC gl N0 P w0 T n ∧ SimL gl N0 P w0 T n ∧ ∀ base, OrcSim N0 P w0 base (call T n base)
  | 0 => ⟨fun _ _ _ _ _ _ _ _ _ _ _ _ hs => by simp [exec] at hs, fun _ _ _ _ _ _ _ _ _ _ _ _ hs => by simp [exec] at hs, fun _ _ _ _ _ _ hs => by simp [call] at hs⟩
  | n + 1 => let ⟨a, b, c⟩ := sim_all hgl hI hT n; sim_step hgl hI hT n a b c

/-- WHAT THE MACHINE ANSWERS, THE PROGRAM ANSWERS. -/
theorem sound {gl : Globs} {I : Nat → World → Prop} {T : Table} (hT : TableOk P gl I T) {f : Nat} {vs : List PV} {r : PV} {h' : Hp} (hs : CallA T 0 f vs [] = some (r, h')) (w : World) (hgl : GlobOk gl w.heap.size w) (hI : I w.heap.size w) (us : Array Value) (hlen : us.size = vs.length)
    (hrel : ∀ (j : Nat) (x : PV), vs[j]? = some x → RV w.heap.size { ι := id, n := 0, hw := fun _ => none } w x (us.getD j Go.undef)) :
    Calls P f us w fun en w' => ∃ u g', en = .returned u ∧ RV w.heap.size g' w' r u ∧ Below w.heap.size w w' := by
  obtain ⟨n, hn⟩ := CallA_iff.1 hs
  have k0 : OkH w.heap.size w { ι := id, n := 0, hw := fun _ => none } [] w := by
    exact ⟨rfl, rfl, Below.refl _ _, fun b c x y hx => by simp [box?] at hx, fun b cs hb => by simp [box?] at hb, fun c m hm => by simp at hm, fun t v hv => by simp [look] at hv⟩
  refine (((sim_all (N0 := w.heap.size) (w0 := w) hgl hI hT n).2.2 0) f vs [] r h' hn (Nat.zero_le _) _ us w k0 hlen hrel).2.mono fun en w' hen => ?_
  obtain ⟨u, g', h1, h2, h3, h4⟩ := hen
  exact ⟨u, g', h1, h4, h3.below⟩
end
end Go.Am
