/- Points of a function's code: what the rest of the function does from there, as a plain function of the slots. | Code that keeps fewer slots: what it answers, the code answers. | The functions of the seat as the abstract machine's code, printed by a program of this work (wip/v2/shcode.sh, mksh.py). | What the functions do from point to point, as equations. Printed by wip/v2/shcode.sh, mksh.py. | Evaluating equations of the plain functions. | The evaluating equations, bundled. Printed by a program of this work. By the session's AI agent. | Slices that grow on top of a heap; bytes. | Slices of values of one form, by value. | A slice that grows, in a heap where boxes come between. | What the small functions of package reg compute, on the abstract machine: each an equation, for every life. By the session's AI agent. | What the functions of package reg compute, on the abstract machine: each an equation, for every life and every argument. By the session's AI agent.
   By the session's AI agent. -/
import Derived.Test.YtlmfmjmpfcaliaaRa2
import Derived.KernelRfl
namespace Go.Am
set_option linter.unusedVariables false
set_option linter.unusedSimpArgs false

/-- Operations that leave the heap. -/
def pureOp : AOp → Bool
  | .mov _ | .pick _ _ _ | .bin _ _ _ | .binB _ _ _ | .isnil _ _ _ | .un _ _ | .toInt _ _ | .load _ _ _ | .loadN _ _ _ _ | .fieldA _ _ | .field _ _ _ _ | .idxA _ _ _ | .idxArr _ _ _ _
  | .idxStr _ _ | .idxAgg _ _ _ _ _ | .extract _ _ | .tassert _ _ _ _ | .len _ _ | .minmax _ _ | .slice _ _ _ _ _ | .nilck _ | .mkif _ _ | .build _ _ | .bytesStr _ | .eqv _ _ _ _ => true
  | _ => false
theorem stepK_pure {α : Type} {op : AOp} (hp : pureOp op = true) (orc : Orc) (base : Nat) (draw : Bool) (e : Env) (h : Hp) (K : PV → Hp → Option α) :
    stepK orc base draw op e h K = (stepK orc base draw op e h fun v _ => some v).bnd fun v => K v h := by
  cases op <;> first | (simp only [stepK, bnd_assoc, Option.bnd_some]; done) | cases hp
def guardK {α : Type} (g : Option (Nat × Bool)) (p : Bool) (e : Env) (h : Hp) (z : Option PV) (x : Option (PV × Hp)) (y : Option α) (K : PV → Hp → Option α) : Option α :=
  match g with
  | none => y
  | some (t, w) => (look e t).bnd fun v => (wantB v w).bnd fun w => match p with
    | true => (whenB w z (some .undef)).bnd fun v => K v h
    | false => bnd2 (whenB w x (some (.undef, h))) K
def opsK {α : Type} (orc : Orc) (base : Nat) (draw : Bool) : List AOper → Env → Hp → (Env → Hp → Option α) → Option α
  | [], e, h, K => K e h
  | o :: r, e, h, K => guardK o.guard (pureOp o.op) e h (stepK orc base draw o.op e h fun v _ => some v) (stepK orc base draw o.op e h fun v h => some (v, h)) (stepK orc base draw o.op e h fun v h => opsK orc base draw r (putD e o.dst v) h K)
      fun v h => opsK orc base draw r (putD e o.dst v) h K

theorem stepE_env {orc : Orc} {base : Nat} {draw : Bool} {op : AOp} {e : Env} {h : Hp} {x : PV × Env × Hp} (hs : step orc base draw op e h = some x) : x.2.1 = e := by
  have key : ∀ {β : Type} {y : Option β} {f : β → Option (PV × Env × Hp)}, (∀ a, f a = some x → x.2.1 = e) → y.bnd f = some x → x.2.1 = e := by
    intro β y f hf hy
    rw [Option.bnd_eq_some_iff] at hy
    obtain ⟨a, _, ha⟩ := hy
    exact hf a ha
  have one : ∀ {v : PV} {k : Hp}, some (v, e, k) = some x → x.2.1 = e := by intro v k hq; cases hq; rfl
  unfold step at hs
  cases op <;> simp only at hs <;> first | exact one hs | cases hs | skip
  all_goals first
    | (refine key (fun a ha => ?_) hs; exact one ha)
    | (refine key (fun a ha => ?_) hs; refine key (fun b hb => ?_) ha; first | exact one hb | (split at hb <;> first | exact one hb | cases hb))
    | (refine key (fun a ha => ?_) hs; refine key (fun b hb => ?_) ha; refine key (fun c hc => ?_) hb; exact one hc)
    | skip
  case pick c a b =>
    refine key (fun v hv => ?_) hs
    rw [condB_some] at hv
    rcases hv with ⟨_, hv⟩ | ⟨_, hv⟩ <;> exact key (fun a ha => one ha) hv
  case box n y => refine key (fun v hv => ?_) hs; split at hv <;> first | exact one hv | cases hv
  case load n agg a =>
    refine key (fun v hv => ?_) hs
    split at hv
    · exact key (fun _ h1 => key (fun _ h2 => one h2) h1) hv
    · exact key (fun _ h1 => one h1) hv
    · cases hv
  case store n a y =>
    refine key (fun v hv => key (fun u hu => ?_) hv) hs
    split at hu
    · refine key (fun _ h1 => ?_) hu; split at h1 <;> first | exact one h1 | cases h1
    · cases hu
  case nilck y => refine key (fun v hv => ?_) hs; split at hv <;> first | exact one hv | cases hv
  case toInt k y => refine key (fun v hv => ?_) hs; split at hv <;> first | exact one hv | cases hv
  case strBytes bx y =>
    refine key (fun v hv => ?_) hs
    split at hv
    · split at hv
      · split at hv <;> exact one hv
      · cases hv
    · cases hv
  case bytesStr y =>
    refine key (fun v hv => ?_) hs
    split at hv
    · cases hv
    · exact key (fun _ h1 => key (fun _ h2 => one h2) h1) hv
  case makeSl T z agg l c =>
    refine key (fun _ h1 => key (fun _ h2 => key (fun _ h3 => ?_) h2) h1) hs
    split at h3
    · exact one h3
    · split at h3
      · exact one h3
      · cases h3
  case copyB d y =>
    refine key (fun _ h1 => key (fun _ h2 => key (fun _ h3 => ?_) h2) h1) hs
    split at h3
    · refine key (fun _ h1 => ?_) h3; split at h1 <;> first | exact one h1 | cases h1
    · exact one h3
    · cases h3
  case range y => refine key (fun v hv => ?_) hs; split at hv <;> first | exact one hv | cases hv
  case next y =>
    refine key (fun v hv => ?_) hs
    split at hv
    · refine key (fun _ h1 => ?_) hv; split at h1 <;> exact one h1
    · cases hv
  case eqv neg ks y z =>
    refine key (fun _ h1 => key (fun _ h2 => ?_) h1) hs
    split at h2
    · exact key (fun _ h3 => one h3) h2
    · cases h2
  case fieldA off y => refine key (fun v hv => ?_) hs; split at hv <;> first | exact one hv | cases hv
  case field off n agg y => refine key (fun v hv => ?_) hs; split at hv <;> first | exact key (fun _ h1 => one h1) hv | cases hv
  case idxA sz y i =>
    refine key (fun _ h1 => key (fun _ h2 => ?_) h1) hs
    split at h2
    · split at h2
      · exact key (fun _ h3 => key (fun _ h4 => one h4) h3) h2
      · cases h2
    · split at h2
      · exact key (fun _ h3 => one h3) h2
      · cases h2
    · cases h2
  case idxArr sz len y i =>
    refine key (fun _ h1 => key (fun _ h2 => ?_) h1) hs
    split at h2 <;> first | exact key (fun _ h3 => one h3) h2 | cases h2
  case idxStr y i =>
    refine key (fun _ h1 => key (fun _ h2 => ?_) h1) hs
    split at h2 <;> first | exact key (fun _ h3 => key (fun _ h4 => one h4) h3) h2 | cases h2
  case idxAgg sz agg len y i =>
    refine key (fun _ h1 => key (fun _ h2 => ?_) h1) hs
    split at h2 <;> first | exact key (fun _ h3 => key (fun _ h4 => one h4) h3) h2 | cases h2
  case extract y i => refine key (fun v hv => ?_) hs; split at hv <;> first | exact key (fun _ h1 => one h1) hv | cases hv
  case tassert t ok z y =>
    refine key (fun v hv => ?_) hs
    split at hv
    · split at hv
      · split at hv <;> exact one hv
      · split at hv <;> first | exact one hv | cases hv
    · split at hv <;> first | exact one hv | cases hv
    · cases hv
  case len str y => refine key (fun v hv => ?_) hs; split at hv <;> first | exact one hv | cases hv
  case minmax mx xs => refine key (fun v hv => ?_) hs; split at hv <;> first | exact key (fun _ h1 => one h1) hv | cases hv
  case append sz s y =>
    refine key (fun _ h1 => key (fun _ h2 => key (fun _ h3 => ?_) h2) h1) hs
    split at h3
    · split at h3
      · split at h3 <;> first | exact one h3 | cases h3
      · split at h3 <;> first | exact one h3 | cases h3
      · cases h3
    · cases h3
  case appendT T sz s y => exact key (fun _ h1 => key (fun _ h2 => key (fun _ h3 => key (fun _ h4 => one h4) h3) h2) h1) hs
  case appendBox sz s y =>
    refine key (fun _ h1 => key (fun _ h2 => key (fun _ h3 => ?_) h2) h1) hs
    split at h3
    · split at h3 <;> first | exact one h3 | cases h3
    · cases h3
  case call f args =>
    refine key (fun _ h1 => key (fun _ h2 => ?_) h1) hs
    split at h2
    · split at h2 <;> first | exact one h2 | cases h2
    · exact one h2
  case callv y args =>
    refine key (fun _ h1 => ?_) hs
    split at h1
    · refine key (fun _ h2 => key (fun _ h3 => ?_) h2) h1
      split at h3
      · split at h3 <;> first | exact one h3 | cases h3
      · exact one h3
    · cases h1
  case loadN t n agg a =>
    refine key (fun _ h1 => key (fun _ h2 => ?_) h1) hs
    split at h2
    · split at h2
      · cases h2
      · exact key (fun _ h3 => key (fun _ h4 => one h4) h3) h2
    · exact key (fun _ h3 => one h3) h2
    · cases h2
  case storeN t n a y =>
    refine key (fun _ h1 => key (fun _ h2 => key (fun _ h3 => ?_) h2) h1) hs
    split at h3
    · split at h3
      · refine key (fun _ h4 => ?_) h3; split at h4 <;> first | exact one h4 | cases h4
      · cases h3
    · cases h3

theorem opsK_eq {α : Type} (orc : Orc) (base : Nat) (draw : Bool) : ∀ (l : List AOper) (e : Env) (h : Hp) (K : Env → Hp → Option α),
    opsK orc base draw l e h K = (execOps orc base draw l e h).bnd fun x => K x.1 x.2
  | [], e, h, K => rfl
  | o :: r, e, h, K => by
    have ih : ∀ (v : PV) (h : Hp), opsK orc base draw r (putD e o.dst v) h K = (execOps orc base draw r (putD e o.dst v) h).bnd fun x => K x.1 x.2 := fun v h => opsK_eq orc base draw r _ h K
    have main : stepK orc base draw o.op e h (fun v h => opsK orc base draw r (putD e o.dst v) h K) =
        ((step orc base draw o.op e h).bnd fun x => execOps orc base draw r (putD x.2.1 o.dst x.1) x.2.2).bnd fun x => K x.1 x.2 := by
      rw [stepK_eq, bnd_assoc]
      cases hs : step orc base draw o.op e h with
      | none => rfl
      | some x => simp only [Option.bnd_some, ih, stepE_env hs]
    rw [opsK, execOps]
    cases hg : o.guard with
    | none => simp only [guardK, wanted, Option.bnd_some, if_true]; exact main
    | some g =>
      obtain ⟨t, w⟩ := g
      simp only [guardK, wanted_some, bnd_assoc]
      refine bnd_fun _ fun v => ?_
      cases hw : wantB v w with
      | none => rfl
      | some b =>
        cases b with
        | true =>
          simp only [Option.bnd_some, whenB_true, if_true]
          rw [← main]
          cases hp : pureOp o.op with
          | true => simp only; rw [stepK_pure hp orc base draw e h (fun v h => opsK orc base draw r (putD e o.dst v) h K)]
          | false =>
            simp only
            rw [stepK_eq, stepK_eq]
            cases step orc base draw o.op e h <;> rfl
        | false => cases pureOp o.op <;> (simp only [Option.bnd_some, whenB_false, bnd2_some, Bool.false_eq_true, if_false]; exact ih _ _)

/-- What is still to come, as data. -/
inductive Fr where
  | seq (b : ACode)
  | block (i : Nat)
  | loop (a : ACode)
def finV (keep own : Bool) (n0 : Nat) (vs : List PV) (h : Hp) : Option (PV × Hp) :=
  if keep then some (result1 vs, h)
    else if own then (ownEnd n0 h vs).bnd fun r => some (result1 r.1, r.2)
    else (frzs n0 h vs).bnd fun vs => if belows n0 vs = true then some (result1 vs, trunc h n0) else none
def resultsK {α : Type} (e : Env) (h : Hp) : List (Nat × Option (Nat × Bool)) → (List PV → Option α) → Option α
  | [], K => K []
  | t :: ts, K => (resultOf e h t).bnd fun v => resultsK e h ts fun vs => K (v :: vs)
theorem resultsK_eq {α : Type} (e : Env) (h : Hp) : ∀ (rs : List (Nat × Option (Nat × Bool))) (K : List PV → Option α), resultsK e h rs K = (resultsOf e h rs).bnd K
  | [], K => rfl
  | t :: ts, K => by
    simp only [resultsK, resultsOf_cons, bnd_assoc, Option.bnd_some]
    exact bnd_fun _ fun v => resultsK_eq e h ts _
def endK (fn : AFn) (n0 : Nat) (x : AEx) (e : Env) (h : Hp) : Option (PV × Hp) := match x with
  | .exit _ => none
  | _ => resultsK e h fn.results fun vs => finV fn.keep fn.own n0 vs h
theorem finish_eq (fn : AFn) (n0 : Nat) (e : Env) (h : Hp) : finish fn n0 e h = resultsK e h fn.results fun vs => finV fn.keep fn.own n0 vs h := by
  rw [resultsK_eq]; rfl

/-- What comes when a piece of code has ended so. -/
def goF (fn : AFn) (n0 : Nat) (run : ACode → List Fr → Env → Hp → Option (PV × Hp)) (lp : ACode → List Fr → Env → Hp → Option (PV × Hp)) : List Fr → AEx → Env → Hp → Option (PV × Hp)
  | [], x, e, h => endK fn n0 x e h
  | .seq b :: r, x, e, h => match x with
    | .norm => run b r e h
    | x => goF fn n0 run lp r x e h
  | .block i :: r, x, e, h => match x with
    | .exit j => if j = i then goF fn n0 run lp r .norm e h else goF fn n0 run lp r (.exit j) e h
    | x => goF fn n0 run lp r x e h
  | .loop a :: r, x, e, h => match x with
    | .norm => lp a r e h
    | x => goF fn n0 run lp r x e h
noncomputable def kSem (T : Table) (fn : AFn) (base n0 : Nat) : List Fr → AEx → Env → Hp → Option (PV × Hp)
  | [], x, e, h => endK fn n0 x e h
  | .seq b :: r, x, e, h => match x with
    | .norm => bndX (ExecA T b base e h) (kSem T fn base n0 r)
    | x => kSem T fn base n0 r x e h
  | .block i :: r, x, e, h => match x with
    | .exit j => if j = i then kSem T fn base n0 r .norm e h else kSem T fn base n0 r (.exit j) e h
    | x => kSem T fn base n0 r x e h
  | .loop a :: r, x, e, h => match x with
    | .norm => bndX (ExecA T (.loop a) base e h) (kSem T fn base n0 r)
    | x => kSem T fn base n0 r x e h
/-- What the function does from a piece of code on. -/
noncomputable def Run (T : Table) (fn : AFn) (base n0 : Nat) (c : ACode) (fr : List Fr) (e : Env) (h : Hp) : Option (PV × Hp) := bndX (ExecA T c base e h) (kSem T fn base n0 fr)
noncomputable def cpsF (T : Table) (fn : AFn) (base n0 : Nat) : Nat → ACode → List Fr → Env → Hp → Option (PV × Hp)
  | 0, c, fr, e, h => Run T fn base n0 c fr e h
  | n + 1, c, fr, e, h => match c with
    | .skip => goF fn n0 (cpsF T fn base n0 n) (fun a => Run T fn base n0 (.loop a)) fr .norm e h
    | .ops l draw keep => opsK (CallA T base) base draw l e h fun e h => goF fn n0 (cpsF T fn base n0 n) (fun a => Run T fn base n0 (.loop a)) fr .norm (prune keep e) h
    | .seq a b => match a with
      | .ops [] _ k => Run T fn base n0 b fr (prune k e) h
      | a => cpsF T fn base n0 n a (.seq b :: fr) e h
    | .cond c a b => (ev e c).bnd fun v => condB v (cpsF T fn base n0 n a fr e h) (cpsF T fn base n0 n b fr e h)
    | .block i a => cpsF T fn base n0 n a (.block i :: fr) e h
    | .loop a => Run T fn base n0 (.loop a) fr e h
    | .scope a => cpsF T fn base n0 n a fr e h
    | .exit i => goF fn n0 (cpsF T fn base n0 n) (fun a => Run T fn base n0 (.loop a)) fr (.exit i) e h
    | .ret => goF fn n0 (cpsF T fn base n0 n) (fun a => Run T fn base n0 (.loop a)) fr .ret e h

theorem condB_bndX {α : Type} (v : PV) (x y : Option (AEx × Env × Hp)) (K : AEx → Env → Hp → Option α) : condB v (bndX x K) (bndX y K) = bndX (condB v x y) K := by
  cases v <;> try rfl
  rename_i b; cases b <;> rfl
section
variable {T : Table} {fn : AFn} {base n0 : Nat}
theorem goF_eq {run : ACode → List Fr → Env → Hp → Option (PV × Hp)} (hr : ∀ c fr e h, run c fr e h = Run T fn base n0 c fr e h) : ∀ (fr : List Fr) (x : AEx) (e : Env) (h : Hp), goF fn n0 run (fun a => Run T fn base n0 (.loop a)) fr x e h = kSem T fn base n0 fr x e h
  | [], x, e, h => rfl
  | .seq b :: r, x, e, h => by
    cases x with
    | norm => rw [goF, hr]; rfl
    | _ => exact goF_eq hr r _ e h
  | .block i :: r, x, e, h => by
    cases x with
    | exit j => simp only [goF, kSem, goF_eq hr r]
    | _ => exact goF_eq hr r _ e h
  | .loop a :: r, x, e, h => by
    cases x with
    | norm => rfl
    | _ => exact goF_eq hr r _ e h
theorem Run_seq (a b : ACode) (fr : List Fr) (e : Env) (h : Hp) : Run T fn base n0 (.seq a b) fr e h = Run T fn base n0 a (.seq b :: fr) e h := by
  unfold Run
  rw [R_seq]
  cases ExecA T a base e h with
  | none => rfl
  | some x => obtain ⟨x, e', h'⟩ := x; cases x <;> rfl
theorem Run_block (i : Nat) (a : ACode) (fr : List Fr) (e : Env) (h : Hp) : Run T fn base n0 (.block i a) fr e h = Run T fn base n0 a (.block i :: fr) e h := by
  unfold Run
  rw [R_block]
  cases ExecA T a base e h with
  | none => rfl
  | some x =>
    obtain ⟨x, e', h'⟩ := x
    cases x with
    | exit j => simp only [bndX_some, onExit_exit, kSem]; split <;> rfl
    | _ => rfl
theorem Run_loop (a : ACode) (fr : List Fr) (e : Env) (h : Hp) : Run T fn base n0 (.loop a) fr e h = Run T fn base n0 a (.loop a :: fr) e h := by
  unfold Run
  rw [R_loop]
  cases ExecA T a base e h with
  | none => rfl
  | some x => obtain ⟨x, e', h'⟩ := x; cases x <;> rfl
theorem Run_ops (l : List AOper) (d : Bool) (k : List Nat) (fr : List Fr) (e : Env) (h : Hp) : Run T fn base n0 (.ops l d k) fr e h = opsK (CallA T base) base d l e h fun e h => kSem T fn base n0 fr .norm (prune k e) h := by
  unfold Run
  rw [opsK_eq, R_ops]
  cases execOps (CallA T base) base d l e h <;> rfl
theorem cpsF_eq : ∀ (n : Nat) (c : ACode) (fr : List Fr) (e : Env) (h : Hp), cpsF T fn base n0 n c fr e h = Run T fn base n0 c fr e h
  | 0, c, fr, e, h => rfl
  | n + 1, c, fr, e, h => by
    have ih := cpsF_eq n
    cases c with
    | skip => rw [cpsF, goF_eq ih]; unfold Run; rw [ExecA_skip]; rfl
    | exit i => rw [cpsF, goF_eq ih]; unfold Run; rw [ExecA_exit]; rfl
    | ret => rw [cpsF, goF_eq ih]; unfold Run; rw [ExecA_ret]; rfl
    | ops l d k => rw [cpsF, Run_ops]; simp only [goF_eq ih]
    | seq a b =>
      rw [Run_seq]
      cases a with
      | ops l d k =>
        cases l with
        | nil => rw [Run_ops]; rfl
        | cons o l => exact ih _ _ _ _
      | _ => exact ih _ _ _ _
    | cond c a b =>
      rw [cpsF]
      simp only [ih]
      unfold Run
      rw [ExecA_cond]
      cases ev e c with
      | none => rfl
      | some v => simp only [Option.bnd_some, condB_bndX]
    | block i a => rw [cpsF, ih, Run_block]
    | loop a => rfl
    | scope a => rw [cpsF, ih]; unfold Run; rw [ExecA_scope]
end
/-- The code at a place, and what comes behind it. -/
def ctx : List Nat → ACode → List Fr → ACode × List Fr
  | [], c, fr => (c, fr)
  | i :: p, .seq a b, fr => if i = 0 then ctx p a (.seq b :: fr) else ctx p b fr
  | i :: p, .cond _ a b, fr => if i = 0 then ctx p a fr else ctx p b fr
  | _ :: p, .block i a, fr => ctx p a (.block i :: fr)
  | _ :: p, .loop a, fr => ctx p a (.loop a :: fr)
  | _ :: p, .scope a, fr => ctx p a fr
  | _ :: _, c, fr => (c, fr)
/-- What the function does from a place on. -/
noncomputable def Pt (T : Table) (fn : AFn) (p : List Nat) (base n0 : Nat) (e : Env) (h : Hp) : Option (PV × Hp) :=
  Run T fn base n0 (ctx p fn.body []).1 (ctx p fn.body []).2 e h
def unr : ACode × List Fr → ACode × List Fr
  | (.loop a, fr) => (a, .loop a :: fr)
  | x => x
theorem Pt_eq (T : Table) (fn : AFn) (p : List Nat) (base n0 : Nat) (e : Env) (h : Hp) :
    Pt T fn p base n0 e h = cpsF T fn base n0 200 (unr (ctx p fn.body [])).1 (unr (ctx p fn.body [])).2 e h := by
  rw [cpsF_eq]
  unfold Pt
  generalize ctx p fn.body [] = r
  obtain ⟨c, fr⟩ := r
  cases c with
  | loop a => exact Run_loop a fr e h
  | _ => rfl
theorem Pt_entry {T : Table} {f : Nat} {fn : AFn} (hT : T f = some (.code fn)) (base : Nat) (a : List PV) (h : Hp) :
    CallA T base f a h = cpsF T fn (if fn.keep then base else size h) (size h) 200 fn.body [] (params 0 a) h := by
  rw [CallA_code hT, cpsF_eq]
  unfold Run
  cases ExecA T fn.body (if fn.keep then base else size h) (params 0 a) h with
  | none => rfl
  | some x => obtain ⟨x, e', h'⟩ := x; cases x <;> simp only [Option.bnd_some, bndX_some, finish_eq] <;> rfl
theorem Pt_enter {T : Table} {f : Nat} {rs : List (Nat × Option (Nat × Bool))} {body : ACode} {own : Bool} (hT : T f = some (.code ⟨rs, body, false, own⟩)) (base : Nat) (a : List PV) (h : Hp) :
    CallA T base f a h = cpsF T ⟨rs, body, false, own⟩ (size h) (size h) 200 body [] (params 0 a) h := Pt_entry hT base a h
theorem Pt_enterK {T : Table} {f : Nat} {rs : List (Nat × Option (Nat × Bool))} {body : ACode} {own : Bool} (hT : T f = some (.code ⟨rs, body, true, own⟩)) (base : Nat) (a : List PV) (h : Hp) :
    CallA T base f a h = cpsF T ⟨rs, body, true, own⟩ base (size h) 200 body [] (params 0 a) h := Pt_entry hT base a h
def chkK {α : Type} (h h' : Hp) (y : Option α) : Option α := if h' = h then y else none
end Go.Am
namespace Go.Am
set_option linter.unusedVariables false
set_option linter.unusedSimpArgs false

def Sub (e e2 : Env) : Prop := ∀ t v, look e t = some v → look e2 t = some v
theorem Sub.refl (e : Env) : Sub e e := fun _ _ h => h
section
variable {e e2 : Env} (hs : Sub e e2)
include hs
theorem ev_sub {x : Opnd} {v : PV} (h : ev e x = some v) : ev e2 x = some v := by
  cases x with
  | tmp t => exact hs t v h
  | const c => exact h
theorem evs_sub : ∀ {xs : List Opnd} {vs : List PV}, evs e xs = some vs → evs e2 xs = some vs
  | [], vs, h => h
  | x :: xs, vs, h => by
    simp only [evs, Option.bnd_eq_some_iff] at h ⊢
    obtain ⟨v, h1, w, h2, h3⟩ := h
    exact ⟨v, ev_sub hs h1, w, evs_sub h2, h3⟩
theorem evParts_sub : ∀ {xs : List (Nat × Opnd)} {vs : List (Nat × PV)}, evParts e xs = some vs → evParts e2 xs = some vs
  | [], vs, h => h
  | (i, x) :: xs, vs, h => by
    simp only [evParts_cons, Option.bnd_eq_some_iff] at h ⊢
    obtain ⟨v, h1, w, h2, h3⟩ := h
    exact ⟨v, ev_sub hs h1, w, evParts_sub h2, h3⟩
theorem evParts3_sub : ∀ {xs : List (Nat × Nat × Opnd)} {vs : List (Nat × Nat × PV)}, evParts3 e xs = some vs → evParts3 e2 xs = some vs
  | [], vs, h => h
  | (i, n, x) :: xs, vs, h => by
    simp only [evParts3_cons, Option.bnd_eq_some_iff] at h ⊢
    obtain ⟨v, h1, w, h2, h3⟩ := h
    exact ⟨v, ev_sub hs h1, w, evParts3_sub h2, h3⟩
theorem evO_sub {x : Option Opnd} {v : Option PV} (h : evO e x = some v) : evO e2 x = some v := by
  cases x with
  | none => exact h
  | some x =>
    simp only [evO, Option.bnd_eq_some_iff] at h ⊢
    obtain ⟨a, h1, h2⟩ := h
    exact ⟨a, ev_sub hs h1, h2⟩
omit hs in
theorem bnd2_orc {orc orc2 : Orc} (ho : orc.le orc2) {f : Nat} {vs : List PV} {h : Hp} {K : PV → Hp → Option (PV × Hp)} {r : PV × Hp} (hr : bnd2 (orc f vs h) K = some r) : bnd2 (orc2 f vs h) K = some r := by
  cases hq : orc f vs h with
  | none => rw [hq] at hr; cases hr
  | some x => rw [hq] at hr; rw [ho _ _ _ _ hq]; exact hr
theorem stepK_sub {orc orc2 : Orc} (ho : orc.le orc2) {base : Nat} {draw : Bool} {op : AOp} {h : Hp} {K : PV → Hp → Option (PV × Hp)} {r : PV × Hp} (hr : stepK orc base draw op e h K = some r) : stepK orc2 base draw op e2 h K = some r := by
  cases op <;> simp only [stepK, Option.bnd_eq_some_iff] at hr ⊢ <;> first
    | exact hr
    | (obtain ⟨a, h1, h2⟩ := hr; exact ⟨a, ev_sub hs h1, h2⟩)
    | (obtain ⟨a, h1, h2⟩ := hr; exact ⟨a, evs_sub hs h1, h2⟩)
    | (obtain ⟨a, h1, h2⟩ := hr; exact ⟨a, evs_sub hs h1, bnd2_orc ho h2⟩)
    | (obtain ⟨a, h1, h2⟩ := hr; exact ⟨a, evParts_sub hs h1, h2⟩)
    | (obtain ⟨a, h1, h2⟩ := hr; exact ⟨a, evParts3_sub hs h1, h2⟩)
    | (obtain ⟨a, h1, b, h2, h3⟩ := hr; exact ⟨a, ev_sub hs h1, b, ev_sub hs h2, h3⟩)
    | (obtain ⟨a, h1, b, h2, h3⟩ := hr; exact ⟨a, hs _ _ h1, b, ev_sub hs h2, h3⟩)
    | (obtain ⟨a, h1, b, h2, c, h3, h4⟩ := hr; exact ⟨a, hs _ _ h1, b, ev_sub hs h2, c, ev_sub hs h3, h4⟩)
    | (obtain ⟨a, h1, b, h2, c, h3, d, h4, h5⟩ := hr; exact ⟨a, ev_sub hs h1, b, evO_sub hs h2, c, evO_sub hs h3, d, evO_sub hs h4, h5⟩)
    | skip
  case pick c a b =>
    obtain ⟨v, h1, w, h2, h3⟩ := hr
    rw [condB_some] at h2
    exact ⟨v, ev_sub hs h1, w, condB_some.2 (h2.imp (fun q => ⟨q.1, ev_sub hs q.2⟩) (fun q => ⟨q.1, ev_sub hs q.2⟩)), h3⟩
  case callv x args =>
    obtain ⟨v, h1, vs, h2, h3⟩ := hr
    refine ⟨v, ev_sub hs h1, vs, evs_sub hs h2, ?_⟩
    cases v <;> first | exact h3 | exact bnd2_orc ho h3
theorem step_sub {orc orc2 : Orc} (ho : orc.le orc2) {base : Nat} {draw : Bool} {op : AOp} {h : Hp} {x : PV × Env × Hp} (hx : step orc base draw op e h = some x) : step orc2 base draw op e2 h = some (x.1, e2, x.2.2) := by
  have h1 := stepK_eq orc base draw op e h fun v h => some (v, h)
  rw [hx, Option.bnd_some] at h1
  have h2 := stepK_sub hs ho h1
  rw [stepK_eq, Option.bnd_eq_some_iff] at h2
  obtain ⟨y, h3, h4⟩ := h2
  have h5 := stepE_env h3
  obtain ⟨a, b, c⟩ := y
  cases h4; simp only at h5; subst h5
  exact h3
theorem wanted_sub {g : Option (Nat × Bool)} {b : Bool} (h : wanted e g = some b) : wanted e2 g = some b := by
  cases g with
  | none => exact h
  | some g =>
    obtain ⟨t, w⟩ := g
    rw [wanted_some, Option.bnd_eq_some_iff] at h ⊢
    obtain ⟨v, h1, h2⟩ := h
    exact ⟨v, hs _ _ h1, h2⟩
theorem putD_sub (d : Option Nat) (v : PV) : Sub (putD e d v) (putD e2 d v) := by
  cases d with
  | none => exact hs
  | some d =>
    intro t w hw
    simp only [putD, look] at hw ⊢
    split at hw
    · rename_i hq; rw [if_pos hq]; exact hw
    · rename_i hq; rw [if_neg hq]; exact hs _ _ hw
end
theorem execOps_sub {orc orc2 : Orc} (ho : orc.le orc2) {base : Nat} {draw : Bool} : ∀ {l : List AOper} {e e2 : Env} {h : Hp} {r : Env × Hp}, Sub e e2 → execOps orc base draw l e h = some r → ∃ e3, execOps orc2 base draw l e2 h = some (e3, r.2) ∧ Sub r.1 e3
  | [], e, e2, h, r, hs, hr => by cases hr; exact ⟨e2, rfl, hs⟩
  | o :: l, e, e2, h, r, hs, hr => by
    simp only [execOps, Option.bnd_eq_some_iff] at hr ⊢
    obtain ⟨b, h1, h2⟩ := hr
    cases b with
    | true =>
      simp only [if_true, Option.bnd_eq_some_iff] at h2
      obtain ⟨x, h3, h4⟩ := h2
      rw [stepE_env h3] at h4
      obtain ⟨e3, h5, h6⟩ := execOps_sub ho (putD_sub hs o.dst x.1) h4
      exact ⟨e3, ⟨true, wanted_sub hs h1, by simp only [if_true, Option.bnd_eq_some_iff]; exact ⟨_, step_sub hs ho h3, h5⟩⟩, h6⟩
    | false =>
      simp only [Bool.false_eq_true, if_false] at h2
      obtain ⟨e3, h5, h6⟩ := execOps_sub ho (putD_sub hs o.dst .undef) h2
      exact ⟨e3, ⟨false, wanted_sub hs h1, by simpa using h5⟩, h6⟩
theorem look_prune_mem : ∀ (ts : List Nat) (e : Env) (t : Nat), t ∈ ts → look (prune ts e) t = look e t
  | t' :: ts, e, t, h => by
    rw [prune_cons, look_pruneC]
    by_cases hq : t' = t
    · subst hq
      rw [if_pos rfl]
      cases hl : look e t' with
      | some v => rfl
      | none =>
        rw [orr_none]
        cases hp : look (prune ts e) t' with
        | none => rfl
        | some v => rw [look_prune _ _ _ _ hp] at hl; cases hl
    · rw [if_neg hq]
      rcases List.mem_cons.1 h with h | h
      · exact (hq h.symm).elim
      · exact look_prune_mem ts e t h
theorem look_prune_not : ∀ (ts : List Nat) (e : Env) (t : Nat), t ∉ ts → look (prune ts e) t = none
  | [], e, t, h => rfl
  | t' :: ts, e, t, h => by
    simp only [List.mem_cons, not_or] at h
    rw [prune_cons, look_pruneC, if_neg (fun q => h.1 q.symm)]
    exact look_prune_not ts e t h.2
theorem prune_sub {k k' : List Nat} (hk : ∀ t ∈ k', t ∈ k) {e e2 : Env} (hs : Sub e e2) : Sub (prune k' e) (prune k e2) := by
  intro t v hv
  by_cases hm : t ∈ k'
  · rw [look_prune_mem _ _ _ hm] at hv
    rw [look_prune_mem _ _ _ (hk t hm)]
    exact hs _ _ hv
  · rw [look_prune_not _ _ _ hm] at hv; cases hv
theorem prune_sub1 (k' : List Nat) {e e2 : Env} (hs : Sub e e2) : Sub (prune k' e) e2 := fun t v hv => hs _ _ (look_prune _ _ _ _ hv)

/-- Code that keeps fewer slots than another. -/
inductive Le : ACode → ACode → Prop
  | skip : Le .skip .skip
  | exit (i) : Le (.exit i) (.exit i)
  | ret : Le .ret .ret
  | ops (l d k k') (hk : ∀ t ∈ k', t ∈ k) : Le (.ops l d k') (.ops l d k)
  | seq {a b a' b'} (ha : Le a' a) (hb : Le b' b) : Le (.seq a' b') (.seq a b)
  | cond (c) {a b a' b'} (ha : Le a' a) (hb : Le b' b) : Le (.cond c a' b') (.cond c a b)
  | block (i) {a a'} (ha : Le a' a) : Le (.block i a') (.block i a)
  | loop {a a'} (ha : Le a' a) : Le (.loop a') (.loop a)
  | scope {a a'} (ha : Le a' a) : Le (.scope a') (.scope a)
  | pre (k) {a a'} (ha : Le a' a) : Le (.seq (.ops [] false k) a') a
  | post (k) {a a'} (ha : Le a' a) : Le (.seq a' (.ops [] false k)) a
theorem Le.refl : ∀ c, Le c c
  | .skip => .skip
  | .exit i => .exit i
  | .ret => .ret
  | .ops l d k => .ops l d k k fun _ h => h
  | .seq a b => .seq (Le.refl a) (Le.refl b)
  | .cond c a b => .cond c (Le.refl a) (Le.refl b)
  | .block i a => .block i (Le.refl a)
  | .loop a => .loop (Le.refl a)
  | .scope a => .scope (Le.refl a)

/-- What is to be kept, piece by piece. -/
inductive An where
  | leaf
  | ops (k : List Nat)
  | node (a b : An)
  | pre (k : List Nat) (a : An)
  | loop (k : List Nat) (a : An)
def optC : An → ACode → ACode
  | .ops k', .ops l d k => .ops l d (k'.filter fun t => k.any fun s => Nat.beq t s)
  | .node x y, .seq a b => .seq (optC x a) (optC y b)
  | .node x y, .cond c a b => .cond c (optC x a) (optC y b)
  | .node x _, .block i a => .block i (optC x a)
  | .node x _, .scope a => .scope (optC x a)
  | .pre k x, c => .seq (.ops [] false k) (optC x c)
  | .loop k x, .loop a => .seq (.ops [] false k) (.loop (.seq (optC x a) (.ops [] false k)))
  | _, c => c
theorem optC_le : ∀ (x : An) (c : ACode), Le (optC x c) c
  | .leaf, c => by cases c <;> exact Le.refl _
  | .ops k', c => by
    cases c <;> try exact Le.refl _
    rename_i l d k
    refine .ops l d k _ fun t ht => ?_
    rw [List.mem_filter, List.any_eq_true] at ht
    obtain ⟨_, s, h1, h2⟩ := ht
    rw [Nat.eq_of_beq_eq_true h2]; exact h1
  | .node x y, c => by
    cases c with
    | seq a b => exact .seq (optC_le x a) (optC_le y b)
    | cond c a b => exact .cond c (optC_le x a) (optC_le y b)
    | block i a => exact .block i (optC_le x a)
    | scope a => exact .scope (optC_le x a)
    | _ => exact Le.refl _
  | .pre k x, c => by cases c <;> exact .pre k (optC_le x _)
  | .loop k x, c => by
    cases c with
    | loop a => exact .pre k (.loop (.post k (optC_le x a)))
    | _ => exact Le.refl _

def TLe (T' T : Table) : Prop := ∀ f it', T' f = some it' → match it' with
  | .prim g => T f = some (.prim g)
  | .code F' => ∃ F, T f = some (.code F) ∧ Le F'.body F.body ∧ F'.results = F.results ∧ F'.keep = F.keep ∧ F'.own = F.own
theorem resultsOf_sub {e e2 : Env} (hs : Sub e e2) (h : Hp) : ∀ {rs : List (Nat × Option (Nat × Bool))} {vs : List PV}, resultsOf e h rs = some vs → resultsOf e2 h rs = some vs
  | [], vs, hv => hv
  | (t, o) :: rs, vs, hv => by
    simp only [resultsOf_cons, Option.bnd_eq_some_iff] at hv ⊢
    obtain ⟨v, h1, ws, h2, h3⟩ := hv
    refine ⟨v, ?_, ws, resultsOf_sub hs h h2, h3⟩
    cases o with
    | none => exact hs _ _ h1
    | some o =>
      obtain ⟨n, g⟩ := o
      rw [resultOf_cell, Option.bnd_eq_some_iff] at h1 ⊢
      obtain ⟨a, h4, h5⟩ := h1
      exact ⟨a, hs _ _ h4, h5⟩
theorem finish_sub {F' F : AFn} (h1 : F'.results = F.results) (h2 : F'.keep = F.keep) (h3 : F'.own = F.own) {e e2 : Env} (hs : Sub e e2) {n0 : Nat} {h : Hp} {r : PV × Hp} (hr : finish F' n0 e h = some r) : finish F n0 e2 h = some r := by
  rw [finish, Option.bnd_eq_some_iff] at hr ⊢
  obtain ⟨vs, h4, h5⟩ := hr
  rw [h1] at h4
  rw [h2, h3] at h5
  exact ⟨vs, resultsOf_sub hs h h4, h5⟩

theorem le_sound {T' T : Table} (hT : TLe T' T) : ∀ n, (∀ c' c base e h x e1 h1 e2, Le c' c → exec T' n c' base e h = some (x, e1, h1) → Sub e e2 → ∃ e3, ExecA T c base e2 h = some (x, e3, h1) ∧ Sub e1 e3) ∧
    (∀ base f a h r, call T' n base f a h = some r → CallA T base f a h = some r)
  | 0 => ⟨fun _ _ _ _ _ _ _ _ _ _ hx => by simp [exec] at hx, fun _ _ _ _ _ hx => by simp [call] at hx⟩
  | n + 1 => by
    obtain ⟨ih, ihc⟩ := le_sound hT n
    refine ⟨fun c' c base e h x e1 h1 e2 hle hx hs => ?_, fun base f a h r hr => ?_⟩
    · cases hle with
      | skip => rw [exec] at hx; cases hx; exact ⟨e2, ExecA_skip, hs⟩
      | exit i => rw [exec] at hx; cases hx; exact ⟨e2, ExecA_exit, hs⟩
      | ret => rw [exec] at hx; cases hx; exact ⟨e2, ExecA_ret, hs⟩
      | ops l d k k' hk =>
        rw [exec, Option.bnd_eq_some_iff] at hx
        obtain ⟨y, h2, h3⟩ := hx
        obtain ⟨e3, h4, h5⟩ := execOps_sub (fun f a h r => ihc base f a h r) hs h2
        cases h3
        exact ⟨prune k e3, by rw [ExecA_ops, h4]; rfl, prune_sub hk h5⟩
      | seq ha hb =>
        rw [exec, Option.bnd_eq_some_iff] at hx
        obtain ⟨⟨y, ey, hy⟩, h2, h3⟩ := hx
        obtain ⟨e3, h4, h5⟩ := ih _ _ _ _ _ _ _ _ _ ha h2 hs
        cases y with
        | norm =>
          obtain ⟨e4, h6, h7⟩ := ih _ _ _ _ _ _ _ _ _ hb h3 h5
          exact ⟨e4, by rw [ExecA_seq, h4]; exact h6, h7⟩
        | _ => cases h3; exact ⟨e3, by rw [ExecA_seq, h4]; rfl, h5⟩
      | cond c ha hb =>
        rw [exec, Option.bnd_eq_some_iff] at hx
        obtain ⟨v, h2, h3⟩ := hx
        rw [condB_some] at h3
        rcases h3 with ⟨rfl, h3⟩ | ⟨rfl, h3⟩
        · obtain ⟨e3, h4, h5⟩ := ih _ _ _ _ _ _ _ _ _ ha h3 hs
          exact ⟨e3, by rw [ExecA_cond, ev_sub hs h2]; exact h4, h5⟩
        · obtain ⟨e3, h4, h5⟩ := ih _ _ _ _ _ _ _ _ _ hb h3 hs
          exact ⟨e3, by rw [ExecA_cond, ev_sub hs h2]; exact h4, h5⟩
      | block i ha =>
        rw [exec, Option.bnd_eq_some_iff] at hx
        obtain ⟨⟨y, ey, hy⟩, h2, h3⟩ := hx
        obtain ⟨e3, h4, h5⟩ := ih _ _ _ _ _ _ _ _ _ ha h2 hs
        rw [ExecA_block, h4, Option.bnd_some]
        cases y with
        | exit j =>
          simp only at h3 ⊢
          split at h3
          · rename_i hq; rw [if_pos hq]; cases h3; exact ⟨e3, rfl, h5⟩
          · rename_i hq; rw [if_neg hq]; cases h3; exact ⟨e3, rfl, h5⟩
        | _ => cases h3; exact ⟨e3, rfl, h5⟩
      | loop ha =>
        rw [exec, Option.bnd_eq_some_iff] at hx
        obtain ⟨⟨y, ey, hy⟩, h2, h3⟩ := hx
        obtain ⟨e3, h4, h5⟩ := ih _ _ _ _ _ _ _ _ _ ha h2 hs
        rw [ExecA_loop, h4, Option.bnd_some]
        cases y with
        | norm => exact ih _ _ _ _ _ _ _ _ _ (.loop ha) h3 h5
        | _ => cases h3; exact ⟨e3, rfl, h5⟩
      | scope ha =>
        rw [exec] at hx
        rw [ExecA_scope]
        exact ih _ _ _ _ _ _ _ _ _ ha hx hs
      | pre k ha =>
        rw [exec, Option.bnd_eq_some_iff] at hx
        obtain ⟨⟨y, ey, hy⟩, h2, h3⟩ := hx
        cases n with
        | zero => simp [exec] at h2
        | succ m =>
          rw [exec, execOps, Option.bnd_some] at h2
          cases h2
          exact ih _ _ _ _ _ _ _ _ _ ha h3 (prune_sub1 k hs)
      | post k ha =>
        rw [exec, Option.bnd_eq_some_iff] at hx
        obtain ⟨⟨y, ey, hy⟩, h2, h3⟩ := hx
        obtain ⟨e3, h4, h5⟩ := ih _ _ _ _ _ _ _ _ _ ha h2 hs
        cases y with
        | norm =>
          cases n with
          | zero => simp [exec] at h2
          | succ m =>
            simp only at h3
            rw [exec, execOps, Option.bnd_some] at h3
            cases h3
            exact ⟨e3, h4, prune_sub1 k h5⟩
        | _ => cases h3; exact ⟨e3, h4, h5⟩
    · rw [call] at hr
      cases hf : T' f with
      | none => rw [hf] at hr; cases hr
      | some it =>
        rw [hf] at hr
        cases it with
        | prim g => rw [CallA_prim (hT f _ hf)]; exact hr
        | code F' =>
          obtain ⟨F, h1, h2, h3, h4, h5⟩ := hT f _ hf
          simp only [Option.bnd_eq_some_iff] at hr
          obtain ⟨⟨y, ey, hy⟩, h6, h7⟩ := hr
          obtain ⟨e3, h8, h9⟩ := ih _ _ _ _ _ _ _ _ _ h2 h6 (Sub.refl _)
          rw [h4] at h8
          rw [CallA_code h1, h8, Option.bnd_some]
          cases y with
          | exit i => cases h7
          | norm => exact finish_sub h3 h4 h5 h9 h7
          | ret => exact finish_sub h3 h4 h5 h9 h7

def optF (x : An) (F : AFn) : AFn := { F with body := optC x F.body }
/-- A table whose code is the program's, with fewer slots kept. -/
def TableOk2 (P : Program) (gl : Globs) (I : Nat → World → Prop) (T : Table) : Prop := ∀ f it, T f = some it → match it with
  | .code fn => ∃ x an fn0, P.funcs[f]? = some fn0 ∧ (cFn P gl an fn0).map (optF x) = some fn
  | .prim pg => PrimOk P I f pg
theorem tableOk_of {P : Program} {gl : Globs} {I : Nat → World → Prop} {T' : Table} (hT : TableOk2 P gl I T') : ∃ T, TableOk P gl I T ∧ TLe T' T := by
  have hex : ∀ f, ∃ it : Option AItem, (∀ i, it = some i → match i with | .code fn => ∃ an fn0, P.funcs[f]? = some fn0 ∧ cFn P gl an fn0 = some fn | .prim pg => PrimOk P I f pg) ∧
      (∀ it', T' f = some it' → match it' with | .prim g => it = some (.prim g) | .code F' => ∃ F, it = some (.code F) ∧ Le F'.body F.body ∧ F'.results = F.results ∧ F'.keep = F.keep ∧ F'.own = F.own) := by
    intro f
    cases hf : T' f with
    | none => exact ⟨none, fun _ h => (nomatch h), fun _ h => (nomatch h)⟩
    | some it' =>
      have h1 := hT f it' hf
      cases it' with
      | prim g => exact ⟨some (.prim g), fun i hi => by cases hi; exact h1, fun i hi => by cases hi; rfl⟩
      | code F' =>
        obtain ⟨x, an, fn0, h2, h3⟩ := h1
        rw [Option.map_eq_some_iff] at h3
        obtain ⟨F, h4, rfl⟩ := h3
        exact ⟨some (.code F), fun i hi => by cases hi; exact ⟨an, fn0, h2, h4⟩, fun i hi => by cases hi; exact ⟨F, rfl, optC_le x F.body, rfl, rfl, rfl⟩⟩
  exact ⟨fun f => Classical.choose (hex f), fun f it h => (Classical.choose_spec (hex f)).1 it h, fun f it' h => (Classical.choose_spec (hex f)).2 it' h⟩
open Go.RowKit (Below) in
/-- What the machine answers with fewer slots kept, the program answers. -/
theorem sound2 {P : Program} {gl : Globs} {I : Nat → World → Prop} {T : Table} (hT : TableOk2 P gl I T) {f : Nat} {vs : List PV} {r : PV} {h' : Hp} (hs : CallA T 0 f vs [] = some (r, h')) (w : World) (hgl : GlobOk gl w.heap.size w) (hI : I w.heap.size w) (us : Array Value) (hlen : us.size = vs.length)
    (hrel : ∀ (j : Nat) (x : PV), vs[j]? = some x → RV w.heap.size { ι := id, n := 0, hw := fun _ => none } w x (us.getD j Go.undef)) :
    Calls P f us w fun en w' => ∃ u g', en = .returned u ∧ RV w.heap.size g' w' r u ∧ Below w.heap.size w w' := by
  obtain ⟨T0, h1, h2⟩ := tableOk_of hT
  obtain ⟨n, hn⟩ := CallA_iff.1 hs
  exact sound h1 ((le_sound h2 n).2 0 f vs [] _ hn) w hgl hI us hlen hrel
end Go.Am
namespace Go.Am.Ytlmfmjmpfcaliaa
set_option maxRecDepth 100000
set_option linter.unusedVariables false
/-- outpost/outpostlaw24.RegPlays -/
def A3 : An := (.node (.ops [0]) (.node (.node (.ops [15, 0]) (.node (.node (.ops [2]) .leaf) .leaf)) (.node (.node (.ops [18, 0]) (.node (.node (.ops [2]) .leaf) .leaf)) (.node (.ops [3, 4, 0]) (.node (.node (.ops [23, 3, 4, 21, 22]) (.node (.loop [23, 3, 4, 21, 22] (.node (.ops [24, 3, 4, 21, 22, 23]) (.node (.node .leaf .leaf) (.node (.node (.node (.ops [3, 4, 21, 22, 23, 6]) (.node (.ops [3, 4, 21, 22, 23, 8, 7]) (.node (.ops [3, 4, 21, 22, 23, 8]) (.node (.ops [3, 4, 21, 22, 23, 10, 9, 8]) (.node (.ops [3, 4, 21, 22, 23, 12, 10, 11, 9, 8]) (.node (.node (.ops [71, 3, 4, 21, 22, 23]) (.node (.node (.ops [2]) .leaf) .leaf)) (.node (.ops [3, 4, 21, 22, 23, 13]) (.node (.ops [88, 3, 4, 21, 22, 23]) (.node (.node (.ops [2]) .leaf) .leaf))))))))) .leaf) (.ops [23, 3, 4, 21, 22]))))) .leaf)) (.node (.ops [2]) .leaf))))))
def F3 : AFn := ⟨[(2, none)], (.seq (.ops [⟨(some 2), none, .mov (.const (.bool false))⟩] false [0]) (.seq (.seq (.ops [⟨(some 14), none, .call 7 []⟩, ⟨(some 15), none, .un .not (.tmp 14)⟩] false [15, 0]) (.cond (.tmp 15) (.seq (.ops [⟨(some 2), none, .mov (.const (.bool false))⟩] false [2]) .ret) .skip)) (.seq (.seq (.ops [⟨(some 16), none, .mov (.tmp 0)⟩, ⟨(some 17), none, .call 8 [(.tmp 16)]⟩, ⟨(some 18), none, .un .not (.tmp 17)⟩] false [18, 0]) (.cond (.tmp 18) (.seq (.ops [⟨(some 2), none, .mov (.const (.bool true))⟩] false [2]) .ret) .skip)) (.seq (.ops [⟨(some 19), none, .call 9 []⟩, ⟨(some 20), none, .call 10 []⟩, ⟨(some 4), none, .alloc [(.int .i64 0), (.bool false), (.int .i64 0), .nils, (.int .i64 0), (.int .i64 0)]⟩, ⟨(some 3), none, .mov (.tmp 19)⟩, ⟨none, none, .store 6 (.tmp 4) (.tmp 20)⟩] false [3, 4, 0]) (.seq (.seq (.ops [⟨(some 21), none, .mov (.tmp 0)⟩, ⟨(some 22), none, .len false (.tmp 21)⟩, ⟨(some 23), none, .mov (.const (.int .i64 0))⟩] false [23, 3, 4, 21, 22]) (.block 0 (.seq (.ops [] false [23, 3, 4, 21, 22]) (.loop (.seq (.seq (.ops [⟨(some 24), none, .bin .lss (.tmp 23) (.tmp 22)⟩] false [24, 3, 4, 21, 22, 23]) (.seq (.cond (.tmp 24) .skip (.exit 0)) (.seq (.block 1 (.seq (.ops [⟨(some 25), none, .idxA 6 (.tmp 21) (.tmp 23)⟩, ⟨(some 26), none, .load 6 true (.tmp 25)⟩, ⟨(some 6), none, .alloc [(.int .i64 0), (.int .i64 0), (.bool false), (.int .i64 0), (.int .i64 0), .nils]⟩, ⟨none, none, .store 6 (.tmp 6) (.tmp 26)⟩] false [3, 4, 21, 22, 23, 6]) (.seq (.ops [⟨(some 28), none, .mov (.tmp 3)⟩, ⟨(some 29), none, .load 6 true (.tmp 4)⟩, ⟨(some 30), none, .load 6 true (.tmp 6)⟩, ⟨(some 31), none, .call 11 [(.tmp 28), (.tmp 29), (.tmp 30)]⟩, ⟨(some 27), none, .mov (.tmp 31)⟩, ⟨(some 32), none, .extract (.tmp 27) 0⟩, ⟨(some 33), none, .extract (.tmp 27) 1⟩, ⟨(some 7), none, .alloc [(.int .i64 0), (.bool false), (.int .i64 0), .nils, (.int .i64 0), (.int .i64 0)]⟩, ⟨none, none, .store 6 (.tmp 7) (.tmp 32)⟩, ⟨(some 8), none, .mov (.tmp 33)⟩] false [3, 4, 21, 22, 23, 8, 7]) (.seq (.ops [⟨(some 34), none, .load 6 true (.tmp 7)⟩, ⟨none, none, .store 6 (.tmp 4) (.tmp 34)⟩] false [3, 4, 21, 22, 23, 8]) (.seq (.ops [⟨(some 36), none, .mov (.tmp 3)⟩, ⟨(some 37), none, .call 12 [(.tmp 36)]⟩, ⟨(some 35), none, .mov (.tmp 37)⟩, ⟨(some 38), none, .extract (.tmp 35) 0⟩, ⟨(some 39), none, .extract (.tmp 35) 1⟩, ⟨(some 9), none, .mov (.tmp 38)⟩, ⟨(some 10), none, .mov (.tmp 39)⟩] false [3, 4, 21, 22, 23, 10, 9, 8]) (.seq (.ops [⟨(some 41), none, .load 6 true (.tmp 4)⟩, ⟨(some 42), none, .call 13 [(.tmp 41)]⟩, ⟨(some 40), none, .mov (.tmp 42)⟩, ⟨(some 43), none, .extract (.tmp 40) 0⟩, ⟨(some 44), none, .extract (.tmp 40) 1⟩, ⟨(some 11), none, .mov (.tmp 43)⟩, ⟨(some 12), none, .mov (.tmp 44)⟩] false [3, 4, 21, 22, 23, 12, 10, 11, 9, 8]) (.seq (.seq (.ops [⟨(some 45), none, .mov (.tmp 8)⟩, ⟨(some 46), none, .un .not (.tmp 45)⟩, ⟨(some 47), none, .mov (.tmp 46)⟩, ⟨(some 48), (some (47, false)), .mov (.tmp 3)⟩, ⟨(some 49), (some (47, false)), .callQ 14 [(.tmp 48)]⟩, ⟨(some 50), (some (47, false)), .fieldA 0 (.tmp 4)⟩, ⟨(some 51), (some (47, false)), .load 1 false (.tmp 50)⟩, ⟨(some 52), (some (47, false)), .bin .neq (.tmp 49) (.tmp 51)⟩, ⟨(some 53), none, .pick (.tmp 47) (.const (.bool true)) (.tmp 52)⟩, ⟨(some 54), none, .mov (.tmp 53)⟩, ⟨(some 55), (some (54, false)), .mov (.tmp 3)⟩, ⟨(some 56), (some (54, false)), .callQ 16 [(.tmp 55)]⟩, ⟨(some 57), (some (54, false)), .fieldA 3 (.tmp 4)⟩, ⟨(some 58), (some (54, false)), .load 1 false (.tmp 57)⟩, ⟨(some 59), (some (54, false)), .call 15 [(.tmp 56), (.tmp 58)]⟩, ⟨(some 60), (some (54, false)), .un .not (.tmp 59)⟩, ⟨(some 61), none, .pick (.tmp 54) (.const (.bool true)) (.tmp 60)⟩, ⟨(some 62), none, .mov (.tmp 61)⟩, ⟨(some 63), (some (62, false)), .mov (.tmp 9)⟩, ⟨(some 64), (some (62, false)), .mov (.tmp 11)⟩, ⟨(some 65), (some (62, false)), .bin .neq (.tmp 63) (.tmp 64)⟩, ⟨(some 66), none, .pick (.tmp 62) (.const (.bool true)) (.tmp 65)⟩, ⟨(some 67), none, .mov (.tmp 66)⟩, ⟨(some 68), (some (67, false)), .mov (.tmp 10)⟩, ⟨(some 69), (some (67, false)), .mov (.tmp 12)⟩, ⟨(some 70), (some (67, false)), .binB true (.tmp 68) (.tmp 69)⟩, ⟨(some 71), none, .pick (.tmp 67) (.const (.bool true)) (.tmp 70)⟩] false [71, 3, 4, 21, 22, 23]) (.cond (.tmp 71) (.seq (.ops [⟨(some 2), none, .mov (.const (.bool false))⟩] false [2]) .ret) .skip)) (.seq (.ops [⟨(some 72), none, .mov (.tmp 3)⟩, ⟨(some 73), none, .call 14 [(.tmp 72)]⟩, ⟨(some 13), none, .mov (.tmp 73)⟩] false [3, 4, 21, 22, 23, 13]) (.seq (.ops [⟨(some 74), none, .mov (.tmp 3)⟩, ⟨(some 75), none, .call 16 [(.tmp 74)]⟩, ⟨(some 76), none, .len false (.tmp 75)⟩, ⟨(some 77), none, .bin .gtr (.tmp 76) (.const (.int .i64 0))⟩, ⟨(some 78), none, .mov (.tmp 13)⟩, ⟨(some 79), none, .bin .eql (.tmp 78) (.const (.int .i64 4))⟩, ⟨(some 80), none, .mov (.tmp 79)⟩, ⟨(some 81), (some (80, false)), .mov (.tmp 13)⟩, ⟨(some 82), (some (80, false)), .bin .eql (.tmp 81) (.const (.int .i64 5))⟩, ⟨(some 83), none, .pick (.tmp 80) (.const (.bool true)) (.tmp 82)⟩, ⟨(some 84), none, .mov (.tmp 83)⟩, ⟨(some 85), (some (84, false)), .mov (.tmp 13)⟩, ⟨(some 86), (some (84, false)), .bin .eql (.tmp 85) (.const (.int .i64 6))⟩, ⟨(some 87), none, .pick (.tmp 84) (.const (.bool true)) (.tmp 86)⟩, ⟨(some 88), none, .binB true (.tmp 77) (.tmp 87)⟩] false [88, 3, 4, 21, 22, 23]) (.cond (.tmp 88) (.seq (.ops [⟨(some 2), none, .mov (.const (.bool false))⟩] false [2]) .ret) .skip)))))))))) (.ops [⟨(some 89), none, .bin .add (.tmp 23) (.const (.int .i64 1))⟩, ⟨(some 23), none, .mov (.tmp 89)⟩] false [23, 3, 4, 21, 22])))) (.ops [] false [23, 3, 4, 21, 22])))))) (.seq (.ops [⟨(some 2), none, .mov (.const (.bool true))⟩] false [2]) .ret)))))), false, false⟩
/-- outpost/outpostlaw24.alive -/
def A7 : An := (.node (.ops []) (.node (.ops [1]) (.node (.ops [1, 2]) (.node (.ops [1, 3, 2]) (.node (.ops [1, 4, 3, 2]) (.node (.ops [1, 6, 5, 4, 3, 2]) (.node (.ops [1, 7, 6, 5, 4, 3, 2]) (.node (.ops [1, 8, 7, 6, 5, 4, 3, 2]) (.node (.ops [1, 9, 8, 7, 6, 5, 4, 3, 2]) (.node (.ops [10, 1, 9, 8, 7, 6, 5, 4, 3, 2]) (.node (.ops [10, 11, 1, 9, 8, 7, 6, 5, 4, 3, 2]) (.node (.ops [10, 12, 11, 1, 9, 8, 7, 6, 5, 4, 3, 2]) (.node (.ops [10, 13, 12, 11, 1, 9, 8, 7, 6, 5, 4, 3, 2]) (.node (.ops [10, 14, 13, 12, 11, 1, 9, 8, 7, 6, 5, 4, 3, 2]) (.node (.ops [16, 10, 14, 13, 12, 11, 1, 9, 8, 7, 6, 5, 4, 3, 2]) (.node (.ops [0]) .leaf))))))))))))))))
def F7 : AFn := ⟨[(0, none)], (.seq (.ops [⟨(some 0), none, .mov (.const (.bool false))⟩] false []) (.seq (.ops [⟨(some 17), none, .call 9 []⟩, ⟨(some 1), none, .mov (.tmp 17)⟩] false [1]) (.seq (.ops [⟨(some 18), none, .mov (.tmp 1)⟩, ⟨(some 19), none, .call 14 [(.tmp 18)]⟩, ⟨(some 2), none, .mov (.tmp 19)⟩] false [1, 2]) (.seq (.ops [⟨(some 20), none, .mov (.tmp 1)⟩, ⟨(some 21), none, .call 17 [(.tmp 20), (.const (.bool true)), (.const (.int .i64 100)), (.const (.int .i64 0))]⟩, ⟨(some 3), none, .mov (.tmp 21)⟩] false [1, 3, 2]) (.seq (.ops [⟨(some 22), none, .mov (.tmp 1)⟩, ⟨(some 23), none, .buildSl 1 false [(.str [])] 2 [(0, (.const (.str [114, 100]))), (1, (.const (.str [97])))]⟩, ⟨(some 24), none, .call 18 [(.tmp 22), (.const (.int .i64 65)), (.tmp 23), (.const (.int .i64 5))]⟩, ⟨(some 4), none, .mov (.tmp 24)⟩] false [1, 4, 3, 2]) (.seq (.ops [⟨(some 26), none, .mov (.tmp 1)⟩, ⟨(some 27), none, .call 12 [(.tmp 26)]⟩, ⟨(some 25), none, .mov (.tmp 27)⟩, ⟨(some 28), none, .extract (.tmp 25) 0⟩, ⟨(some 29), none, .extract (.tmp 25) 1⟩, ⟨(some 5), none, .mov (.tmp 28)⟩, ⟨(some 6), none, .mov (.tmp 29)⟩] false [1, 6, 5, 4, 3, 2]) (.seq (.ops [⟨(some 30), none, .mov (.tmp 1)⟩, ⟨(some 31), none, .call 19 [(.tmp 30), (.const (.int .i64 94))]⟩, ⟨(some 7), none, .mov (.tmp 31)⟩] false [1, 7, 6, 5, 4, 3, 2]) (.seq (.ops [⟨(some 32), none, .mov (.tmp 1)⟩, ⟨(some 33), none, .call 19 [(.tmp 32), (.const (.int .i64 95))]⟩, ⟨(some 8), none, .mov (.tmp 33)⟩] false [1, 8, 7, 6, 5, 4, 3, 2]) (.seq (.ops [⟨(some 34), none, .mov (.tmp 1)⟩, ⟨(some 35), none, .call 18 [(.tmp 34), (.const (.int .i64 132)), (.const .nils), (.const (.int .i64 96))]⟩, ⟨(some 9), none, .mov (.tmp 35)⟩] false [1, 9, 8, 7, 6, 5, 4, 3, 2]) (.seq (.ops [⟨(some 36), none, .call 9 []⟩, ⟨(some 10), none, .mov (.tmp 36)⟩] false [10, 1, 9, 8, 7, 6, 5, 4, 3, 2]) (.seq (.ops [⟨(some 37), none, .mov (.tmp 10)⟩, ⟨(some 38), none, .call 17 [(.tmp 37), (.const (.bool false)), (.const (.int .i64 100)), (.const (.int .i64 0))]⟩, ⟨(some 11), none, .mov (.tmp 38)⟩] false [10, 11, 1, 9, 8, 7, 6, 5, 4, 3, 2]) (.seq (.ops [⟨(some 39), none, .mov (.tmp 10)⟩, ⟨(some 40), none, .call 18 [(.tmp 39), (.const (.int .i64 68)), (.const .nils), (.const (.int .i64 1))]⟩, ⟨(some 12), none, .mov (.tmp 40)⟩] false [10, 12, 11, 1, 9, 8, 7, 6, 5, 4, 3, 2]) (.seq (.ops [⟨(some 41), none, .mov (.tmp 10)⟩, ⟨(some 42), none, .call 21 [(.tmp 41), (.const (.bool true)), (.const (.int .i64 2))]⟩, ⟨(some 13), none, .mov (.tmp 42)⟩] false [10, 13, 12, 11, 1, 9, 8, 7, 6, 5, 4, 3, 2]) (.seq (.ops [⟨(some 43), none, .mov (.tmp 10)⟩, ⟨(some 44), none, .call 20 [(.tmp 43), (.const (.int .i64 3))]⟩, ⟨(some 14), none, .mov (.tmp 44)⟩] false [10, 14, 13, 12, 11, 1, 9, 8, 7, 6, 5, 4, 3, 2]) (.seq (.ops [⟨(some 46), none, .call 9 []⟩, ⟨(some 47), none, .call 12 [(.tmp 46)]⟩, ⟨(some 45), none, .mov (.tmp 47)⟩, ⟨(some 48), none, .extract (.tmp 45) 0⟩, ⟨(some 49), none, .extract (.tmp 45) 1⟩, ⟨(some 15), none, .mov (.tmp 48)⟩, ⟨(some 16), none, .mov (.tmp 49)⟩] false [16, 10, 14, 13, 12, 11, 1, 9, 8, 7, 6, 5, 4, 3, 2]) (.seq (.ops [⟨(some 50), none, .mov (.tmp 2)⟩, ⟨(some 51), none, .bin .eql (.tmp 50) (.const (.int .i64 0))⟩, ⟨(some 52), none, .mov (.tmp 51)⟩, ⟨(some 53), (some (52, true)), .mov (.tmp 3)⟩, ⟨(some 54), (some (52, true)), .bin .eql (.tmp 53) (.const (.int .i64 2))⟩, ⟨(some 55), none, .pick (.tmp 52) (.tmp 54) (.const (.bool false))⟩, ⟨(some 56), none, .mov (.tmp 55)⟩, ⟨(some 57), (some (56, true)), .mov (.tmp 4)⟩, ⟨(some 58), (some (56, true)), .bin .eql (.tmp 57) (.const (.int .i64 0))⟩, ⟨(some 59), none, .pick (.tmp 56) (.tmp 58) (.const (.bool false))⟩, ⟨(some 60), none, .mov (.tmp 59)⟩, ⟨(some 61), (some (60, true)), .mov (.tmp 5)⟩, ⟨(some 62), (some (60, true)), .bin .eql (.tmp 61) (.const (.int .i64 95))⟩, ⟨(some 63), none, .pick (.tmp 60) (.tmp 62) (.const (.bool false))⟩, ⟨(some 64), none, .mov (.tmp 63)⟩, ⟨(some 65), (some (64, true)), .mov (.tmp 6)⟩, ⟨(some 66), none, .pick (.tmp 64) (.tmp 65) (.const (.bool false))⟩, ⟨(some 67), none, .mov (.tmp 66)⟩, ⟨(some 68), (some (67, true)), .mov (.tmp 7)⟩, ⟨(some 69), (some (67, true)), .bin .eql (.tmp 68) (.const (.int .i64 0))⟩, ⟨(some 70), none, .pick (.tmp 67) (.tmp 69) (.const (.bool false))⟩, ⟨(some 71), none, .mov (.tmp 70)⟩, ⟨(some 72), (some (71, true)), .mov (.tmp 8)⟩, ⟨(some 73), (some (71, true)), .bin .eql (.tmp 72) (.const (.int .i64 3))⟩, ⟨(some 74), none, .pick (.tmp 71) (.tmp 73) (.const (.bool false))⟩, ⟨(some 75), none, .mov (.tmp 74)⟩, ⟨(some 76), (some (75, true)), .mov (.tmp 9)⟩, ⟨(some 77), (some (75, true)), .bin .eql (.tmp 76) (.const (.int .i64 2))⟩, ⟨(some 78), none, .pick (.tmp 75) (.tmp 77) (.const (.bool false))⟩, ⟨(some 79), none, .mov (.tmp 78)⟩, ⟨(some 80), (some (79, true)), .mov (.tmp 1)⟩, ⟨(some 81), (some (79, true)), .call 16 [(.tmp 80)]⟩, ⟨(some 82), (some (79, true)), .len false (.tmp 81)⟩, ⟨(some 83), (some (79, true)), .bin .eql (.tmp 82) (.const (.int .i64 0))⟩, ⟨(some 84), none, .pick (.tmp 79) (.tmp 83) (.const (.bool false))⟩, ⟨(some 85), none, .mov (.tmp 84)⟩, ⟨(some 86), (some (85, true)), .mov (.tmp 11)⟩, ⟨(some 87), (some (85, true)), .bin .eql (.tmp 86) (.const (.int .i64 1))⟩, ⟨(some 88), none, .pick (.tmp 85) (.tmp 87) (.const (.bool false))⟩, ⟨(some 89), none, .mov (.tmp 88)⟩, ⟨(some 90), (some (89, true)), .mov (.tmp 12)⟩, ⟨(some 91), (some (89, true)), .bin .eql (.tmp 90) (.const (.int .i64 0))⟩, ⟨(some 92), none, .pick (.tmp 89) (.tmp 91) (.const (.bool false))⟩, ⟨(some 93), none, .mov (.tmp 92)⟩, ⟨(some 94), (some (93, true)), .mov (.tmp 13)⟩, ⟨(some 95), (some (93, true)), .bin .eql (.tmp 94) (.const (.int .i64 2))⟩, ⟨(some 96), none, .pick (.tmp 93) (.tmp 95) (.const (.bool false))⟩, ⟨(some 97), none, .mov (.tmp 96)⟩, ⟨(some 98), (some (97, true)), .mov (.tmp 14)⟩, ⟨(some 99), (some (97, true)), .bin .eql (.tmp 98) (.const (.int .i64 0))⟩, ⟨(some 100), none, .pick (.tmp 97) (.tmp 99) (.const (.bool false))⟩, ⟨(some 101), none, .mov (.tmp 100)⟩, ⟨(some 102), (some (101, true)), .mov (.tmp 10)⟩, ⟨(some 103), (some (101, true)), .call 14 [(.tmp 102)]⟩, ⟨(some 104), (some (101, true)), .bin .eql (.tmp 103) (.const (.int .i64 7))⟩, ⟨(some 105), none, .pick (.tmp 101) (.tmp 104) (.const (.bool false))⟩, ⟨(some 106), none, .mov (.tmp 105)⟩, ⟨(some 107), (some (106, true)), .mov (.tmp 16)⟩, ⟨(some 108), (some (106, true)), .un .not (.tmp 107)⟩, ⟨(some 109), none, .pick (.tmp 106) (.tmp 108) (.const (.bool false))⟩, ⟨(some 110), none, .mov (.tmp 109)⟩, ⟨(some 111), (some (110, true)), .call 9 []⟩, ⟨(some 112), (some (110, true)), .call 22 [(.tmp 111), (.const (.int .i64 1)), (.const (.int .i64 0))]⟩, ⟨(some 113), (some (110, true)), .bin .eql (.tmp 112) (.const (.int .i64 0))⟩, ⟨(some 114), none, .pick (.tmp 110) (.tmp 113) (.const (.bool false))⟩, ⟨(some 115), none, .mov (.tmp 114)⟩, ⟨(some 116), (some (115, true)), .call 9 []⟩, ⟨(some 117), (some (115, true)), .call 23 [(.tmp 116), (.const (.int .i64 0))]⟩, ⟨(some 118), (some (115, true)), .bin .eql (.tmp 117) (.const (.int .i64 0))⟩, ⟨(some 119), none, .pick (.tmp 115) (.tmp 118) (.const (.bool false))⟩, ⟨(some 120), none, .mov (.tmp 119)⟩, ⟨(some 121), none, .pick (.tmp 120) (.const (.bool true)) (.const (.bool false))⟩, ⟨(some 122), none, .mov (.tmp 121)⟩, ⟨(some 123), none, .pick (.tmp 122) (.const (.bool true)) (.const (.bool false))⟩, ⟨(some 0), none, .mov (.tmp 123)⟩] false [0]) .ret)))))))))))))))), false, false⟩
/-- outpost/outpostlaw24.small -/
def A8 : An := (.node (.ops [0]) (.node (.node (.ops [9, 7, 0, 8]) (.node (.loop [9, 7, 0, 8] (.node (.ops [10, 7, 0, 8, 9]) (.node (.node .leaf .leaf) (.node (.node (.node (.ops [7, 0, 8, 9, 4]) (.node (.node (.ops [16, 7, 0, 8, 9, 4]) (.node (.node (.ops [2]) .leaf) .leaf)) (.node (.ops [20, 18, 7, 0, 8, 9, 19]) (.node (.loop [20, 18, 7, 0, 8, 9, 19] (.node (.ops [21, 18, 7, 0, 8, 9, 19, 20]) (.node (.node .leaf .leaf) (.node (.node (.node (.ops [18, 7, 0, 8, 9, 19, 20, 6]) (.node (.ops [26, 18, 7, 0, 8, 9, 19, 20]) (.node (.node (.ops [2]) .leaf) .leaf))) .leaf) (.ops [20, 18, 7, 0, 8, 9, 19]))))) .leaf)))) .leaf) (.ops [9, 7, 0, 8]))))) .leaf)) (.node (.ops [2]) .leaf)))
def F8 : AFn := ⟨[(2, none)], (.seq (.ops [⟨(some 2), none, .mov (.const (.bool false))⟩] false [0]) (.seq (.seq (.ops [⟨(some 7), none, .mov (.tmp 0)⟩, ⟨(some 8), none, .len false (.tmp 7)⟩, ⟨(some 9), none, .mov (.const (.int .i64 0))⟩] false [9, 7, 0, 8]) (.block 0 (.seq (.ops [] false [9, 7, 0, 8]) (.loop (.seq (.seq (.ops [⟨(some 10), none, .bin .lss (.tmp 9) (.tmp 8)⟩] false [10, 7, 0, 8, 9]) (.seq (.cond (.tmp 10) .skip (.exit 0)) (.seq (.block 1 (.seq (.ops [⟨(some 11), none, .idxA 6 (.tmp 7) (.tmp 9)⟩, ⟨(some 12), none, .load 6 true (.tmp 11)⟩, ⟨(some 4), none, .alloc [(.int .i64 0), (.int .i64 0), (.bool false), (.int .i64 0), (.int .i64 0), .nils]⟩, ⟨none, none, .store 6 (.tmp 4) (.tmp 12)⟩] false [7, 0, 8, 9, 4]) (.seq (.seq (.ops [⟨(some 13), none, .fieldA 5 (.tmp 4)⟩, ⟨(some 14), none, .load 1 false (.tmp 13)⟩, ⟨(some 15), none, .len false (.tmp 14)⟩, ⟨(some 16), none, .bin .gtr (.tmp 15) (.const (.int .i64 20))⟩] false [16, 7, 0, 8, 9, 4]) (.cond (.tmp 16) (.seq (.ops [⟨(some 2), none, .mov (.const (.bool false))⟩] false [2]) .ret) .skip)) (.seq (.ops [⟨(some 17), none, .fieldA 5 (.tmp 4)⟩, ⟨(some 18), none, .load 1 false (.tmp 17)⟩, ⟨(some 19), none, .len false (.tmp 18)⟩, ⟨(some 20), none, .mov (.const (.int .i64 0))⟩] false [20, 18, 7, 0, 8, 9, 19]) (.block 2 (.seq (.ops [] false [20, 18, 7, 0, 8, 9, 19]) (.loop (.seq (.seq (.ops [⟨(some 21), none, .bin .lss (.tmp 20) (.tmp 19)⟩] false [21, 18, 7, 0, 8, 9, 19, 20]) (.seq (.cond (.tmp 21) .skip (.exit 2)) (.seq (.block 3 (.seq (.ops [⟨(some 22), none, .idxA 1 (.tmp 18) (.tmp 20)⟩, ⟨(some 23), none, .load 1 false (.tmp 22)⟩, ⟨(some 6), none, .mov (.tmp 23)⟩] false [18, 7, 0, 8, 9, 19, 20, 6]) (.seq (.ops [⟨(some 24), none, .mov (.tmp 6)⟩, ⟨(some 25), none, .len true (.tmp 24)⟩, ⟨(some 26), none, .bin .gtr (.tmp 25) (.const (.int .i64 100))⟩] false [26, 18, 7, 0, 8, 9, 19, 20]) (.cond (.tmp 26) (.seq (.ops [⟨(some 2), none, .mov (.const (.bool false))⟩] false [2]) .ret) .skip)))) (.ops [⟨(some 27), none, .bin .add (.tmp 20) (.const (.int .i64 1))⟩, ⟨(some 20), none, .mov (.tmp 27)⟩] false [20, 18, 7, 0, 8, 9, 19])))) (.ops [] false [20, 18, 7, 0, 8, 9, 19]))))))))) (.ops [⟨(some 28), none, .bin .add (.tmp 9) (.const (.int .i64 1))⟩, ⟨(some 9), none, .mov (.tmp 28)⟩] false [9, 7, 0, 8])))) (.ops [] false [9, 7, 0, 8])))))) (.seq (.ops [⟨(some 29), none, .mov (.tmp 0)⟩, ⟨(some 30), none, .len false (.tmp 29)⟩, ⟨(some 31), none, .bin .leq (.tmp 30) (.const (.int .i64 60))⟩, ⟨(some 2), none, .mov (.tmp 31)⟩] false [2]) .ret))), false, false⟩
/-- outpost/reg.New -/
def A9 : An := (.node (.ops []) (.node (.ops [0]) .leaf))
def F9 : AFn := ⟨[(0, none)], (.seq (.ops [⟨(some 0), none, .mov (.const .nilp)⟩] false []) (.seq (.ops [⟨(some 1), none, .build [(.int .i64 0), (.bool false), (.int .i64 0), .nils, (.int .i64 0), (.int .i64 0)] [(2, 1, (.const (.int .i64 1)))]⟩, ⟨(some 2), none, .box 6 (.tmp 1)⟩, ⟨(some 0), none, .mov (.tmp 2)⟩] false [0]) .ret)), true, false⟩
/-- outpost/outpostref24.New -/
def A10 : An := (.node (.ops [0]) (.node (.ops [0]) .leaf))
def F10 : AFn := ⟨[(0, (some (6, true)))], (.seq (.ops [⟨(some 0), none, .alloc [(.int .i64 0), (.bool false), (.int .i64 0), .nils, (.int .i64 0), (.int .i64 0)]⟩] false [0]) (.seq (.ops [⟨(some 1), none, .build [(.int .i64 0), (.bool false), (.int .i64 0), .nils, (.int .i64 0), (.int .i64 0)] [(2, 1, (.const (.int .i64 1)))]⟩, ⟨none, none, .store 6 (.tmp 0) (.tmp 1)⟩] false [0]) .ret)), false, false⟩
/-- outpost/outpostlaw24.do -/
def A11 : An := (.node (.ops [6, 4, 5, 0]) (.node (.ops [6, 4, 5, 0, 9, 8]) (.node (.node (.ops [6, 4, 5, 0, 9, 8, 11]) (.node (.node (.ops [12, 6, 4, 5, 0, 9, 8, 11]) (.node (.node (.ops [6, 8, 4, 5]) (.ops [6, 9, 8, 4])) (.node (.node (.ops [33, 6, 4, 5, 0, 9, 8, 11]) (.node .leaf (.ops [33, 6, 4, 5, 0, 9, 8, 11]))) (.pre [33, 6, 4, 5, 0, 9, 8, 11] (.node (.node (.ops [6, 8, 4, 5]) (.ops [6, 9, 8, 4])) (.node (.ops [55, 6, 4, 5, 0, 9, 8, 11]) (.node (.node (.ops [6, 8, 4, 5]) (.ops [6, 9, 8, 4])) (.node (.ops [68, 6, 4, 5, 0, 9, 8, 11]) (.node (.node (.ops [6, 8, 4, 5]) (.ops [6, 9, 8, 4])) (.node (.node (.ops [85, 6, 4, 5, 0, 9, 8, 11]) (.node .leaf (.ops [85, 6, 4, 5, 0, 9, 8, 11]))) (.pre [85, 6, 4, 5, 0, 9, 8, 11] (.node (.node (.ops [6, 8, 4, 5]) (.ops [6, 9, 8, 4])) (.node (.ops [99, 6, 4, 5, 0, 9, 8, 11]) (.node (.node (.ops [6, 8, 4, 5]) (.ops [6, 9, 8, 4])) (.node (.ops [116, 6, 4, 5, 0, 9, 8]) (.node (.node (.ops [6, 8, 4, 5]) (.ops [6, 9, 8, 4])) .leaf)))))))))))))))) .leaf)) (.pre [6, 9, 8, 4] (.node (.ops [6, 7]) .leaf)))))
def F11 : AFn := ⟨[(6, (some (6, true))), (7, none)], (.seq (.ops [⟨(some 4), none, .box 6 (.tmp 1)⟩, ⟨(some 5), none, .box 6 (.tmp 2)⟩, ⟨(some 6), none, .alloc [(.int .i64 0), (.bool false), (.int .i64 0), .nils, (.int .i64 0), (.int .i64 0)]⟩, ⟨(some 7), none, .mov (.const (.bool false))⟩] false [6, 4, 5, 0]) (.seq (.ops [⟨(some 8), none, .mov (.const (.int .i64 0))⟩, ⟨(some 9), none, .mov (.const (.int .i64 0))⟩] false [6, 4, 5, 0, 9, 8]) (.seq (.seq (.ops [⟨(some 10), none, .fieldA 0 (.tmp 5)⟩, ⟨(some 11), none, .load 1 false (.tmp 10)⟩] false [6, 4, 5, 0, 9, 8, 11]) (.block 0 (.seq (.ops [⟨(some 13), none, .bin .eql (.tmp 11) (.const (.int .i64 0))⟩, ⟨(some 12), none, .mov (.tmp 13)⟩] false [12, 6, 4, 5, 0, 9, 8, 11]) (.cond (.tmp 12) (.seq (.ops [⟨(some 14), none, .mov (.tmp 0)⟩, ⟨(some 15), none, .fieldA 2 (.tmp 5)⟩, ⟨(some 16), none, .load 1 false (.tmp 15)⟩, ⟨(some 17), none, .fieldA 3 (.tmp 5)⟩, ⟨(some 18), none, .load 1 false (.tmp 17)⟩, ⟨(some 19), none, .fieldA 4 (.tmp 5)⟩, ⟨(some 20), none, .load 1 false (.tmp 19)⟩, ⟨(some 21), none, .call 17 [(.tmp 14), (.tmp 16), (.tmp 18), (.tmp 20)]⟩, ⟨(some 8), none, .mov (.tmp 21)⟩] false [6, 8, 4, 5]) (.ops [⟨(some 23), none, .load 6 true (.tmp 4)⟩, ⟨(some 24), none, .fieldA 2 (.tmp 5)⟩, ⟨(some 25), none, .load 1 false (.tmp 24)⟩, ⟨(some 26), none, .fieldA 3 (.tmp 5)⟩, ⟨(some 27), none, .load 1 false (.tmp 26)⟩, ⟨(some 28), none, .fieldA 4 (.tmp 5)⟩, ⟨(some 29), none, .load 1 false (.tmp 28)⟩, ⟨(some 30), none, .call 24 [(.tmp 23), (.tmp 25), (.tmp 27), (.tmp 29)]⟩, ⟨(some 22), none, .mov (.tmp 30)⟩, ⟨(some 31), none, .extract (.tmp 22) 0⟩, ⟨(some 32), none, .extract (.tmp 22) 1⟩, ⟨none, none, .store 6 (.tmp 4) (.tmp 31)⟩, ⟨(some 9), none, .mov (.tmp 32)⟩] false [6, 9, 8, 4])) (.seq (.seq (.ops [⟨(some 34), none, .bin .eql (.tmp 11) (.const (.int .i64 1))⟩, ⟨(some 33), none, .mov (.tmp 34)⟩] false [33, 6, 4, 5, 0, 9, 8, 11]) (.cond (.tmp 33) .skip (.ops [⟨(some 35), none, .bin .eql (.tmp 11) (.const (.int .i64 2))⟩, ⟨(some 33), none, .mov (.tmp 35)⟩] false [33, 6, 4, 5, 0, 9, 8, 11]))) (.seq (.ops [] false [33, 6, 4, 5, 0, 9, 8, 11]) (.cond (.tmp 33) (.seq (.ops [⟨(some 36), none, .mov (.tmp 0)⟩, ⟨(some 37), none, .fieldA 1 (.tmp 5)⟩, ⟨(some 38), none, .load 1 false (.tmp 37)⟩, ⟨(some 39), none, .fieldA 5 (.tmp 5)⟩, ⟨(some 40), none, .load 1 false (.tmp 39)⟩, ⟨(some 41), none, .fieldA 4 (.tmp 5)⟩, ⟨(some 42), none, .load 1 false (.tmp 41)⟩, ⟨(some 43), none, .call 18 [(.tmp 36), (.tmp 38), (.tmp 40), (.tmp 42)]⟩, ⟨(some 8), none, .mov (.tmp 43)⟩] false [6, 8, 4, 5]) (.ops [⟨(some 45), none, .load 6 true (.tmp 4)⟩, ⟨(some 46), none, .fieldA 1 (.tmp 5)⟩, ⟨(some 47), none, .load 1 false (.tmp 46)⟩, ⟨(some 48), none, .fieldA 5 (.tmp 5)⟩, ⟨(some 49), none, .load 1 false (.tmp 48)⟩, ⟨(some 50), none, .fieldA 4 (.tmp 5)⟩, ⟨(some 51), none, .load 1 false (.tmp 50)⟩, ⟨(some 52), none, .call 25 [(.tmp 45), (.tmp 47), (.tmp 49), (.tmp 51)]⟩, ⟨(some 44), none, .mov (.tmp 52)⟩, ⟨(some 53), none, .extract (.tmp 44) 0⟩, ⟨(some 54), none, .extract (.tmp 44) 1⟩, ⟨none, none, .store 6 (.tmp 4) (.tmp 53)⟩, ⟨(some 9), none, .mov (.tmp 54)⟩] false [6, 9, 8, 4])) (.seq (.ops [⟨(some 56), none, .bin .eql (.tmp 11) (.const (.int .i64 3))⟩, ⟨(some 55), none, .mov (.tmp 56)⟩] false [55, 6, 4, 5, 0, 9, 8, 11]) (.cond (.tmp 55) (.seq (.ops [⟨(some 57), none, .mov (.tmp 0)⟩, ⟨(some 58), none, .fieldA 4 (.tmp 5)⟩, ⟨(some 59), none, .load 1 false (.tmp 58)⟩, ⟨(some 60), none, .call 20 [(.tmp 57), (.tmp 59)]⟩, ⟨(some 8), none, .mov (.tmp 60)⟩] false [6, 8, 4, 5]) (.ops [⟨(some 62), none, .load 6 true (.tmp 4)⟩, ⟨(some 63), none, .fieldA 4 (.tmp 5)⟩, ⟨(some 64), none, .load 1 false (.tmp 63)⟩, ⟨(some 65), none, .call 26 [(.tmp 62), (.tmp 64)]⟩, ⟨(some 61), none, .mov (.tmp 65)⟩, ⟨(some 66), none, .extract (.tmp 61) 0⟩, ⟨(some 67), none, .extract (.tmp 61) 1⟩, ⟨none, none, .store 6 (.tmp 4) (.tmp 66)⟩, ⟨(some 9), none, .mov (.tmp 67)⟩] false [6, 9, 8, 4])) (.seq (.ops [⟨(some 69), none, .bin .eql (.tmp 11) (.const (.int .i64 4))⟩, ⟨(some 68), none, .mov (.tmp 69)⟩] false [68, 6, 4, 5, 0, 9, 8, 11]) (.cond (.tmp 68) (.seq (.ops [⟨(some 70), none, .mov (.tmp 0)⟩, ⟨(some 71), none, .fieldA 2 (.tmp 5)⟩, ⟨(some 72), none, .load 1 false (.tmp 71)⟩, ⟨(some 73), none, .fieldA 4 (.tmp 5)⟩, ⟨(some 74), none, .load 1 false (.tmp 73)⟩, ⟨(some 75), none, .call 21 [(.tmp 70), (.tmp 72), (.tmp 74)]⟩, ⟨(some 8), none, .mov (.tmp 75)⟩] false [6, 8, 4, 5]) (.ops [⟨(some 77), none, .load 6 true (.tmp 4)⟩, ⟨(some 78), none, .fieldA 2 (.tmp 5)⟩, ⟨(some 79), none, .load 1 false (.tmp 78)⟩, ⟨(some 80), none, .fieldA 4 (.tmp 5)⟩, ⟨(some 81), none, .load 1 false (.tmp 80)⟩, ⟨(some 82), none, .call 27 [(.tmp 77), (.tmp 79), (.tmp 81)]⟩, ⟨(some 76), none, .mov (.tmp 82)⟩, ⟨(some 83), none, .extract (.tmp 76) 0⟩, ⟨(some 84), none, .extract (.tmp 76) 1⟩, ⟨none, none, .store 6 (.tmp 4) (.tmp 83)⟩, ⟨(some 9), none, .mov (.tmp 84)⟩] false [6, 9, 8, 4])) (.seq (.seq (.ops [⟨(some 86), none, .bin .eql (.tmp 11) (.const (.int .i64 5))⟩, ⟨(some 85), none, .mov (.tmp 86)⟩] false [85, 6, 4, 5, 0, 9, 8, 11]) (.cond (.tmp 85) .skip (.ops [⟨(some 87), none, .bin .eql (.tmp 11) (.const (.int .i64 6))⟩, ⟨(some 85), none, .mov (.tmp 87)⟩] false [85, 6, 4, 5, 0, 9, 8, 11]))) (.seq (.ops [] false [85, 6, 4, 5, 0, 9, 8, 11]) (.cond (.tmp 85) (.seq (.ops [⟨(some 88), none, .mov (.tmp 0)⟩, ⟨(some 89), none, .fieldA 4 (.tmp 5)⟩, ⟨(some 90), none, .load 1 false (.tmp 89)⟩, ⟨(some 91), none, .call 19 [(.tmp 88), (.tmp 90)]⟩, ⟨(some 8), none, .mov (.tmp 91)⟩] false [6, 8, 4, 5]) (.ops [⟨(some 93), none, .load 6 true (.tmp 4)⟩, ⟨(some 94), none, .fieldA 4 (.tmp 5)⟩, ⟨(some 95), none, .load 1 false (.tmp 94)⟩, ⟨(some 96), none, .call 28 [(.tmp 93), (.tmp 95)]⟩, ⟨(some 92), none, .mov (.tmp 96)⟩, ⟨(some 97), none, .extract (.tmp 92) 0⟩, ⟨(some 98), none, .extract (.tmp 92) 1⟩, ⟨none, none, .store 6 (.tmp 4) (.tmp 97)⟩, ⟨(some 9), none, .mov (.tmp 98)⟩] false [6, 9, 8, 4])) (.seq (.ops [⟨(some 100), none, .bin .eql (.tmp 11) (.const (.int .i64 7))⟩, ⟨(some 99), none, .mov (.tmp 100)⟩] false [99, 6, 4, 5, 0, 9, 8, 11]) (.cond (.tmp 99) (.seq (.ops [⟨(some 101), none, .mov (.tmp 0)⟩, ⟨(some 102), none, .fieldA 3 (.tmp 5)⟩, ⟨(some 103), none, .load 1 false (.tmp 102)⟩, ⟨(some 104), none, .fieldA 4 (.tmp 5)⟩, ⟨(some 105), none, .load 1 false (.tmp 104)⟩, ⟨(some 106), none, .call 22 [(.tmp 101), (.tmp 103), (.tmp 105)]⟩, ⟨(some 8), none, .mov (.tmp 106)⟩] false [6, 8, 4, 5]) (.ops [⟨(some 108), none, .load 6 true (.tmp 4)⟩, ⟨(some 109), none, .fieldA 3 (.tmp 5)⟩, ⟨(some 110), none, .load 1 false (.tmp 109)⟩, ⟨(some 111), none, .fieldA 4 (.tmp 5)⟩, ⟨(some 112), none, .load 1 false (.tmp 111)⟩, ⟨(some 113), none, .call 29 [(.tmp 108), (.tmp 110), (.tmp 112)]⟩, ⟨(some 107), none, .mov (.tmp 113)⟩, ⟨(some 114), none, .extract (.tmp 107) 0⟩, ⟨(some 115), none, .extract (.tmp 107) 1⟩, ⟨none, none, .store 6 (.tmp 4) (.tmp 114)⟩, ⟨(some 9), none, .mov (.tmp 115)⟩] false [6, 9, 8, 4])) (.seq (.ops [⟨(some 117), none, .bin .eql (.tmp 11) (.const (.int .i64 8))⟩, ⟨(some 116), none, .mov (.tmp 117)⟩] false [116, 6, 4, 5, 0, 9, 8]) (.cond (.tmp 116) (.seq (.ops [⟨(some 118), none, .mov (.tmp 0)⟩, ⟨(some 119), none, .fieldA 4 (.tmp 5)⟩, ⟨(some 120), none, .load 1 false (.tmp 119)⟩, ⟨(some 121), none, .call 23 [(.tmp 118), (.tmp 120)]⟩, ⟨(some 8), none, .mov (.tmp 121)⟩] false [6, 8, 4, 5]) (.ops [⟨(some 123), none, .load 6 true (.tmp 4)⟩, ⟨(some 124), none, .fieldA 4 (.tmp 5)⟩, ⟨(some 125), none, .load 1 false (.tmp 124)⟩, ⟨(some 126), none, .call 30 [(.tmp 123), (.tmp 125)]⟩, ⟨(some 122), none, .mov (.tmp 126)⟩, ⟨(some 127), none, .extract (.tmp 122) 0⟩, ⟨(some 128), none, .extract (.tmp 122) 1⟩, ⟨none, none, .store 6 (.tmp 4) (.tmp 127)⟩, ⟨(some 9), none, .mov (.tmp 128)⟩] false [6, 9, 8, 4])) .skip)))))))))))))))))) (.seq (.ops [] false [6, 9, 8, 4]) (.seq (.ops [⟨(some 129), none, .load 6 true (.tmp 4)⟩, ⟨(some 130), none, .mov (.tmp 8)⟩, ⟨(some 131), none, .mov (.tmp 9)⟩, ⟨(some 132), none, .bin .eql (.tmp 130) (.tmp 131)⟩, ⟨none, none, .store 6 (.tmp 6) (.tmp 129)⟩, ⟨(some 7), none, .mov (.tmp 132)⟩] false [6, 7]) .ret))))), false, false⟩
/-- (outpost/reg.Life).Next -/
def A12 : An := (.node (.ops [0]) (.node (.node (.ops [6, 0]) (.node (.node (.ops [2, 3]) .leaf) .leaf)) (.node (.ops [2, 3]) .leaf)))
def F12 : AFn := ⟨[(2, none), (3, none)], (.seq (.ops [⟨(some 2), none, .mov (.const (.int .i64 0))⟩, ⟨(some 3), none, .mov (.const (.bool false))⟩] false [0]) (.seq (.seq (.ops [⟨(some 4), none, .mov (.tmp 0)⟩, ⟨(some 5), none, .call 31 [(.tmp 4)]⟩, ⟨(some 6), none, .un .not (.tmp 5)⟩] false [6, 0]) (.cond (.tmp 6) (.seq (.ops [⟨(some 2), none, .mov (.const (.int .i64 0))⟩, ⟨(some 3), none, .mov (.const (.bool false))⟩] false [2, 3]) .ret) .skip)) (.seq (.ops [⟨(some 7), none, .mov (.tmp 0)⟩, ⟨(some 8), none, .nilck (.tmp 7)⟩, ⟨(some 9), none, .fieldA 5 (.tmp 8)⟩, ⟨(some 10), none, .load 1 false (.tmp 9)⟩, ⟨(some 2), none, .mov (.tmp 10)⟩, ⟨(some 3), none, .mov (.const (.bool true))⟩] false [2, 3]) .ret))), false, false⟩
/-- outpost/outpostref24.Next -/
def A13 : An := (.node (.ops [1]) (.node (.node (.ops [16, 1]) (.node (.node (.ops [2, 3]) .leaf) .leaf)) (.node (.ops [2, 3]) .leaf)))
def F13 : AFn := ⟨[(2, none), (3, none)], (.seq (.ops [⟨(some 1), none, .box 6 (.tmp 0)⟩, ⟨(some 2), none, .mov (.const (.int .i64 0))⟩, ⟨(some 3), none, .mov (.const (.bool false))⟩] false [1]) (.seq (.seq (.ops [⟨(some 4), none, .fieldA 0 (.tmp 1)⟩, ⟨(some 5), none, .load 1 false (.tmp 4)⟩, ⟨(some 6), none, .bin .eql (.tmp 5) (.const (.int .i64 2))⟩, ⟨(some 7), none, .mov (.tmp 6)⟩, ⟨(some 8), (some (7, false)), .fieldA 0 (.tmp 1)⟩, ⟨(some 9), (some (7, false)), .load 1 false (.tmp 8)⟩, ⟨(some 10), (some (7, false)), .bin .eql (.tmp 9) (.const (.int .i64 4))⟩, ⟨(some 11), none, .pick (.tmp 7) (.const (.bool true)) (.tmp 10)⟩, ⟨(some 12), none, .mov (.tmp 11)⟩, ⟨(some 13), (some (12, false)), .fieldA 0 (.tmp 1)⟩, ⟨(some 14), (some (12, false)), .load 1 false (.tmp 13)⟩, ⟨(some 15), (some (12, false)), .bin .eql (.tmp 14) (.const (.int .i64 7))⟩, ⟨(some 16), none, .pick (.tmp 12) (.const (.bool true)) (.tmp 15)⟩] false [16, 1]) (.cond (.tmp 16) (.seq (.ops [⟨(some 17), none, .fieldA 5 (.tmp 1)⟩, ⟨(some 18), none, .load 1 false (.tmp 17)⟩, ⟨(some 2), none, .mov (.tmp 18)⟩, ⟨(some 3), none, .mov (.const (.bool true))⟩] false [2, 3]) .ret) .skip)) (.seq (.ops [⟨(some 2), none, .mov (.const (.int .i64 0))⟩, ⟨(some 3), none, .mov (.const (.bool false))⟩] false [2, 3]) .ret))), false, false⟩
/-- (outpost/reg.Life).State -/
def A14 : An := (.node (.ops [0]) (.node (.ops [2]) .leaf))
def F14 : AFn := ⟨[(2, none)], (.seq (.ops [⟨(some 2), none, .mov (.const (.int .i64 0))⟩] false [0]) (.seq (.ops [⟨(some 3), none, .mov (.tmp 0)⟩, ⟨(some 4), none, .nilck (.tmp 3)⟩, ⟨(some 5), none, .fieldA 0 (.tmp 4)⟩, ⟨(some 6), none, .load 1 false (.tmp 5)⟩, ⟨(some 2), none, .mov (.tmp 6)⟩] false [2]) .ret)), false, false⟩
/-- outpost/outpostref01.SameTexts -/
def A15 : An := (.node (.ops [1, 0]) (.node (.node (.ops [10, 1, 0]) (.node (.node (.ops [4]) .leaf) .leaf)) (.node (.node (.ops [5, 1, 0]) (.node (.loop [5, 1, 0] (.node (.node (.ops [14, 1, 0, 5]) (.node .leaf .leaf)) (.node (.node (.node (.ops [25, 1, 0, 5]) (.node (.node (.ops [4]) .leaf) .leaf)) .leaf) (.ops [5, 1, 0])))) .leaf)) (.node (.ops [4]) .leaf))))
def F15 : AFn := ⟨[(4, none)], (.seq (.ops [⟨(some 4), none, .mov (.const (.bool false))⟩] false [1, 0]) (.seq (.seq (.ops [⟨(some 6), none, .mov (.tmp 0)⟩, ⟨(some 7), none, .len false (.tmp 6)⟩, ⟨(some 8), none, .mov (.tmp 1)⟩, ⟨(some 9), none, .len false (.tmp 8)⟩, ⟨(some 10), none, .bin .neq (.tmp 7) (.tmp 9)⟩] false [10, 1, 0]) (.cond (.tmp 10) (.seq (.ops [⟨(some 4), none, .mov (.const (.bool false))⟩] false [4]) .ret) .skip)) (.seq (.seq (.ops [⟨(some 5), none, .mov (.const (.int .i64 0))⟩] false [5, 1, 0]) (.block 0 (.seq (.ops [] false [5, 1, 0]) (.loop (.seq (.seq (.seq (.ops [⟨(some 11), none, .mov (.tmp 5)⟩, ⟨(some 12), none, .mov (.tmp 0)⟩, ⟨(some 13), none, .len false (.tmp 12)⟩, ⟨(some 14), none, .bin .lss (.tmp 11) (.tmp 13)⟩] false [14, 1, 0, 5]) (.cond (.tmp 14) .skip (.exit 0))) (.seq (.block 1 (.seq (.ops [⟨(some 17), none, .mov (.tmp 0)⟩, ⟨(some 18), none, .mov (.tmp 5)⟩, ⟨(some 19), none, .idxA 1 (.tmp 17) (.tmp 18)⟩, ⟨(some 20), none, .load 1 false (.tmp 19)⟩, ⟨(some 21), none, .mov (.tmp 1)⟩, ⟨(some 22), none, .mov (.tmp 5)⟩, ⟨(some 23), none, .idxA 1 (.tmp 21) (.tmp 22)⟩, ⟨(some 24), none, .load 1 false (.tmp 23)⟩, ⟨(some 25), none, .bin .neq (.tmp 20) (.tmp 24)⟩] false [25, 1, 0, 5]) (.cond (.tmp 25) (.seq (.ops [⟨(some 4), none, .mov (.const (.bool false))⟩] false [4]) .ret) .skip))) (.ops [⟨(some 15), none, .mov (.tmp 5)⟩, ⟨(some 16), none, .bin .add (.tmp 15) (.const (.int .i64 1))⟩, ⟨(some 5), none, .mov (.tmp 16)⟩] false [5, 1, 0]))) (.ops [] false [5, 1, 0])))))) (.seq (.ops [⟨(some 4), none, .mov (.const (.bool true))⟩] false [4]) .ret)))), false, false⟩
/-- (outpost/reg.Life).Place -/
def A16 : An := (.node (.ops [0]) (.node (.ops [2]) .leaf))
def F16 : AFn := ⟨[(2, none)], (.seq (.ops [⟨(some 2), none, .mov (.const .nils)⟩] false [0]) (.seq (.ops [⟨(some 3), none, .mov (.tmp 0)⟩, ⟨(some 4), none, .nilck (.tmp 3)⟩, ⟨(some 5), none, .fieldA 3 (.tmp 4)⟩, ⟨(some 6), none, .load 1 false (.tmp 5)⟩, ⟨(some 7), none, .call 32 [(.tmp 6)]⟩, ⟨(some 2), none, .mov (.tmp 7)⟩] false [2]) .ret)), false, false⟩
/-- (outpost/reg.Life).Start -/
def A17 : An := (.node (.ops [0, 2, 1, 3]) (.node (.ops [0, 2, 1]) (.node (.ops [0]) (.node (.ops [8]) .leaf))))
def F17 : AFn := ⟨[(8, none)], (.seq (.ops [⟨(some 8), none, .mov (.const (.int .i64 0))⟩] false [0, 2, 1, 3]) (.seq (.ops [⟨(some 9), none, .mov (.tmp 0)⟩, ⟨(some 10), none, .mov (.tmp 3)⟩, ⟨(some 11), none, .call 33 [(.tmp 9), (.tmp 10)]⟩] false [0, 2, 1]) (.seq (.ops [⟨(some 12), none, .mov (.tmp 0)⟩, ⟨(some 13), none, .mov (.tmp 0)⟩, ⟨(some 14), none, .mov (.tmp 1)⟩, ⟨(some 15), none, .mov (.tmp 2)⟩, ⟨(some 16), none, .call 34 [(.tmp 15)]⟩, ⟨(some 17), none, .nilck (.tmp 12)⟩, ⟨(some 18), none, .fieldA 1 (.tmp 17)⟩, ⟨none, none, .store 1 (.tmp 18) (.tmp 14)⟩, ⟨(some 19), none, .nilck (.tmp 13)⟩, ⟨(some 20), none, .fieldA 2 (.tmp 19)⟩, ⟨none, none, .store 1 (.tmp 20) (.tmp 16)⟩] false [0]) (.seq (.ops [⟨(some 21), none, .mov (.tmp 0)⟩, ⟨(some 22), none, .call 35 [(.tmp 21)]⟩, ⟨(some 8), none, .mov (.tmp 22)⟩] false [8]) .ret)))), false, false⟩
/-- (outpost/reg.Life).Answer -/
def A18 : An := (.node (.ops [0, 1, 2, 3]) (.node (.ops [0, 1, 2]) (.node (.node (.ops [0, 1, 2, 15]) (.node (.node (.ops [16, 0, 1, 2, 15]) (.node (.node (.node (.ops [19, 0]) (.node (.node (.ops [8]) .leaf) .leaf)) (.node (.ops [8]) .leaf)) (.node (.ops [24, 2, 1, 0, 15]) (.node (.node (.ops [8]) .leaf) (.node (.ops [30, 1, 0, 15]) (.node (.node (.ops [8]) .leaf) (.node (.ops [35, 0]) (.node (.node (.ops [8]) .leaf) .leaf)))))))) .leaf)) (.node (.ops [8]) .leaf))))
def F18 : AFn := ⟨[(8, none)], (.seq (.ops [⟨(some 8), none, .mov (.const (.int .i64 0))⟩] false [0, 1, 2, 3]) (.seq (.ops [⟨(some 9), none, .mov (.tmp 0)⟩, ⟨(some 10), none, .mov (.tmp 3)⟩, ⟨(some 11), none, .call 33 [(.tmp 9), (.tmp 10)]⟩] false [0, 1, 2]) (.seq (.seq (.ops [⟨(some 12), none, .mov (.tmp 0)⟩, ⟨(some 13), none, .nilck (.tmp 12)⟩, ⟨(some 14), none, .fieldA 0 (.tmp 13)⟩, ⟨(some 15), none, .load 1 false (.tmp 14)⟩] false [0, 1, 2, 15]) (.block 0 (.seq (.ops [⟨(some 17), none, .bin .eql (.tmp 15) (.const (.int .i64 1))⟩, ⟨(some 16), none, .mov (.tmp 17)⟩] false [16, 0, 1, 2, 15]) (.cond (.tmp 16) (.seq (.seq (.ops [⟨(some 18), none, .mov (.tmp 1)⟩, ⟨(some 19), none, .bin .eql (.tmp 18) (.const (.int .i64 68))⟩] false [19, 0]) (.cond (.tmp 19) (.seq (.ops [⟨(some 20), none, .mov (.tmp 0)⟩, ⟨(some 21), none, .call 36 [(.tmp 20), (.const (.int .i64 2)), (.const (.int .i64 1000))]⟩, ⟨(some 8), none, .mov (.tmp 21)⟩] false [8]) .ret) .skip)) (.seq (.ops [⟨(some 22), none, .mov (.tmp 0)⟩, ⟨(some 23), none, .call 37 [(.tmp 22)]⟩, ⟨(some 8), none, .mov (.tmp 23)⟩] false [8]) .ret)) (.seq (.ops [⟨(some 25), none, .bin .eql (.tmp 15) (.const (.int .i64 3))⟩, ⟨(some 24), none, .mov (.tmp 25)⟩] false [24, 2, 1, 0, 15]) (.cond (.tmp 24) (.seq (.ops [⟨(some 26), none, .mov (.tmp 0)⟩, ⟨(some 27), none, .mov (.tmp 1)⟩, ⟨(some 28), none, .mov (.tmp 2)⟩, ⟨(some 29), none, .call 38 [(.tmp 26), (.tmp 27), (.tmp 28)]⟩, ⟨(some 8), none, .mov (.tmp 29)⟩] false [8]) .ret) (.seq (.ops [⟨(some 31), none, .bin .eql (.tmp 15) (.const (.int .i64 5))⟩, ⟨(some 30), none, .mov (.tmp 31)⟩] false [30, 1, 0, 15]) (.cond (.tmp 30) (.seq (.ops [⟨(some 32), none, .mov (.tmp 0)⟩, ⟨(some 33), none, .mov (.tmp 1)⟩, ⟨(some 34), none, .call 39 [(.tmp 32), (.tmp 33)]⟩, ⟨(some 8), none, .mov (.tmp 34)⟩] false [8]) .ret) (.seq (.ops [⟨(some 36), none, .bin .eql (.tmp 15) (.const (.int .i64 6))⟩, ⟨(some 35), none, .mov (.tmp 36)⟩] false [35, 0]) (.cond (.tmp 35) (.seq (.ops [⟨(some 37), none, .mov (.tmp 0)⟩, ⟨(some 38), none, .call 40 [(.tmp 37)]⟩, ⟨(some 8), none, .mov (.tmp 38)⟩] false [8]) .ret) .skip)))))))))) (.seq (.ops [⟨(some 8), none, .mov (.const (.int .i64 0))⟩] false [8]) .ret)))), false, false⟩
/-- (outpost/reg.Life).Pass -/
def A19 : An := (.node (.ops [0, 1]) (.node (.ops [0]) (.node (.node (.ops [21, 0]) (.node (.node (.ops [4]) .leaf) .leaf)) (.node (.node (.ops [0, 25]) (.node (.node (.ops [26, 0, 25]) (.node (.node (.ops [4]) .leaf) (.node (.ops [30, 0]) (.node (.node (.ops []) (.node (.ops [4]) .leaf)) .leaf)))) .leaf)) (.node (.ops [4]) .leaf)))))
def F19 : AFn := ⟨[(4, none)], (.seq (.ops [⟨(some 4), none, .mov (.const (.int .i64 0))⟩] false [0, 1]) (.seq (.ops [⟨(some 5), none, .mov (.tmp 0)⟩, ⟨(some 6), none, .mov (.tmp 1)⟩, ⟨(some 7), none, .call 33 [(.tmp 5), (.tmp 6)]⟩] false [0]) (.seq (.seq (.ops [⟨(some 8), none, .mov (.tmp 0)⟩, ⟨(some 9), none, .call 31 [(.tmp 8)]⟩, ⟨(some 10), none, .un .not (.tmp 9)⟩, ⟨(some 11), none, .mov (.tmp 10)⟩, ⟨(some 12), (some (11, false)), .mov (.tmp 0)⟩, ⟨(some 13), (some (11, false)), .nilck (.tmp 12)⟩, ⟨(some 14), (some (11, false)), .fieldA 5 (.tmp 13)⟩, ⟨(some 15), (some (11, false)), .load 1 false (.tmp 14)⟩, ⟨(some 16), (some (11, false)), .mov (.tmp 0)⟩, ⟨(some 17), (some (11, false)), .nilck (.tmp 16)⟩, ⟨(some 18), (some (11, false)), .fieldA 4 (.tmp 17)⟩, ⟨(some 19), (some (11, false)), .load 1 false (.tmp 18)⟩, ⟨(some 20), (some (11, false)), .bin .gtr (.tmp 15) (.tmp 19)⟩, ⟨(some 21), none, .pick (.tmp 11) (.const (.bool true)) (.tmp 20)⟩] false [21, 0]) (.cond (.tmp 21) (.seq (.ops [⟨(some 4), none, .mov (.const (.int .i64 0))⟩] false [4]) .ret) .skip)) (.seq (.seq (.ops [⟨(some 22), none, .mov (.tmp 0)⟩, ⟨(some 23), none, .nilck (.tmp 22)⟩, ⟨(some 24), none, .fieldA 0 (.tmp 23)⟩, ⟨(some 25), none, .load 1 false (.tmp 24)⟩] false [0, 25]) (.block 0 (.seq (.ops [⟨(some 27), none, .bin .eql (.tmp 25) (.const (.int .i64 2))⟩, ⟨(some 26), none, .mov (.tmp 27)⟩] false [26, 0, 25]) (.cond (.tmp 26) (.seq (.ops [⟨(some 28), none, .mov (.tmp 0)⟩, ⟨(some 29), none, .call 37 [(.tmp 28)]⟩, ⟨(some 4), none, .mov (.tmp 29)⟩] false [4]) .ret) (.seq (.ops [⟨(some 31), none, .bin .eql (.tmp 25) (.const (.int .i64 4))⟩, ⟨(some 30), none, .mov (.tmp 31)⟩] false [30, 0]) (.cond (.tmp 30) (.seq (.ops [⟨(some 32), none, .mov (.tmp 0)⟩, ⟨(some 33), none, .nilck (.tmp 32)⟩, ⟨(some 34), none, .fieldA 0 (.tmp 33)⟩, ⟨none, none, .store 1 (.tmp 34) (.const (.int .i64 5))⟩] false []) (.seq (.ops [⟨(some 4), none, .mov (.const (.int .i64 3))⟩] false [4]) .ret)) .skip)))))) (.seq (.ops [⟨(some 35), none, .mov (.tmp 0)⟩, ⟨(some 36), none, .call 35 [(.tmp 35)]⟩, ⟨(some 4), none, .mov (.tmp 36)⟩] false [4]) .ret))))), false, false⟩
/-- (outpost/reg.Life).Lost -/
def A20 : An := (.node (.ops [0, 1]) (.node (.ops [0]) (.node (.node (.ops [0, 11]) (.node (.node (.node (.ops [12, 0, 11]) (.node .leaf (.node (.ops [12, 0, 11]) (.node .leaf (.ops [12, 0, 11]))))) (.node (.node (.ops [4]) .leaf) (.node (.ops [18, 0]) (.node (.node (.ops [4]) .leaf) .leaf)))) .leaf)) (.node (.ops [4]) .leaf))))
def F20 : AFn := ⟨[(4, none)], (.seq (.ops [⟨(some 4), none, .mov (.const (.int .i64 0))⟩] false [0, 1]) (.seq (.ops [⟨(some 5), none, .mov (.tmp 0)⟩, ⟨(some 6), none, .mov (.tmp 1)⟩, ⟨(some 7), none, .call 33 [(.tmp 5), (.tmp 6)]⟩] false [0]) (.seq (.seq (.ops [⟨(some 8), none, .mov (.tmp 0)⟩, ⟨(some 9), none, .nilck (.tmp 8)⟩, ⟨(some 10), none, .fieldA 0 (.tmp 9)⟩, ⟨(some 11), none, .load 1 false (.tmp 10)⟩] false [0, 11]) (.block 0 (.seq (.seq (.ops [⟨(some 13), none, .bin .eql (.tmp 11) (.const (.int .i64 1))⟩, ⟨(some 12), none, .mov (.tmp 13)⟩] false [12, 0, 11]) (.cond (.tmp 12) .skip (.seq (.ops [⟨(some 14), none, .bin .eql (.tmp 11) (.const (.int .i64 3))⟩, ⟨(some 12), none, .mov (.tmp 14)⟩] false [12, 0, 11]) (.cond (.tmp 12) .skip (.ops [⟨(some 15), none, .bin .eql (.tmp 11) (.const (.int .i64 5))⟩, ⟨(some 12), none, .mov (.tmp 15)⟩] false [12, 0, 11]))))) (.cond (.tmp 12) (.seq (.ops [⟨(some 16), none, .mov (.tmp 0)⟩, ⟨(some 17), none, .call 37 [(.tmp 16)]⟩, ⟨(some 4), none, .mov (.tmp 17)⟩] false [4]) .ret) (.seq (.ops [⟨(some 19), none, .bin .eql (.tmp 11) (.const (.int .i64 6))⟩, ⟨(some 18), none, .mov (.tmp 19)⟩] false [18, 0]) (.cond (.tmp 18) (.seq (.ops [⟨(some 20), none, .mov (.tmp 0)⟩, ⟨(some 21), none, .call 40 [(.tmp 20)]⟩, ⟨(some 4), none, .mov (.tmp 21)⟩] false [4]) .ret) .skip)))))) (.seq (.ops [⟨(some 4), none, .mov (.const (.int .i64 0))⟩] false [4]) .ret)))), false, false⟩
/-- (outpost/reg.Life).Finish -/
def A21 : An := (.node (.ops [0, 1, 2]) (.node (.ops [0, 1]) (.node (.node (.ops [14, 0, 1]) (.node (.node (.ops [6]) .leaf) .leaf)) (.node (.ops [0, 1]) (.node (.node (.ops [20, 0]) (.node (.node (.ops [6]) .leaf) .leaf)) (.node (.ops [6]) .leaf))))))
def F21 : AFn := ⟨[(6, none)], (.seq (.ops [⟨(some 6), none, .mov (.const (.int .i64 0))⟩] false [0, 1, 2]) (.seq (.ops [⟨(some 7), none, .mov (.tmp 0)⟩, ⟨(some 8), none, .mov (.tmp 2)⟩, ⟨(some 9), none, .call 33 [(.tmp 7), (.tmp 8)]⟩] false [0, 1]) (.seq (.seq (.ops [⟨(some 10), none, .mov (.tmp 0)⟩, ⟨(some 11), none, .nilck (.tmp 10)⟩, ⟨(some 12), none, .fieldA 0 (.tmp 11)⟩, ⟨(some 13), none, .load 1 false (.tmp 12)⟩, ⟨(some 14), none, .bin .neq (.tmp 13) (.const (.int .i64 2))⟩] false [14, 0, 1]) (.cond (.tmp 14) (.seq (.ops [⟨(some 6), none, .mov (.const (.int .i64 0))⟩] false [6]) .ret) .skip)) (.seq (.ops [⟨(some 15), none, .mov (.tmp 0)⟩, ⟨(some 16), none, .mov (.tmp 1)⟩, ⟨(some 17), none, .nilck (.tmp 15)⟩, ⟨(some 18), none, .fieldA 1 (.tmp 17)⟩, ⟨none, none, .store 1 (.tmp 18) (.tmp 16)⟩] false [0, 1]) (.seq (.seq (.ops [⟨(some 19), none, .mov (.tmp 1)⟩, ⟨(some 20), none, .un .not (.tmp 19)⟩] false [20, 0]) (.cond (.tmp 20) (.seq (.ops [⟨(some 21), none, .mov (.tmp 0)⟩, ⟨(some 22), none, .call 37 [(.tmp 21)]⟩, ⟨(some 6), none, .mov (.tmp 22)⟩] false [6]) .ret) .skip)) (.seq (.ops [⟨(some 23), none, .mov (.tmp 0)⟩, ⟨(some 24), none, .call 35 [(.tmp 23)]⟩, ⟨(some 6), none, .mov (.tmp 24)⟩] false [6]) .ret)))))), false, false⟩
/-- (outpost/reg.Life).Renew -/
def A22 : An := (.node (.ops [1, 0, 2]) (.node (.ops [1, 0]) (.node (.node (.ops [14, 1, 0]) (.node (.node (.ops [6]) .leaf) .leaf)) (.node (.ops []) (.node (.ops [6]) .leaf)))))
def F22 : AFn := ⟨[(6, none)], (.seq (.ops [⟨(some 6), none, .mov (.const (.int .i64 0))⟩] false [1, 0, 2]) (.seq (.ops [⟨(some 7), none, .mov (.tmp 0)⟩, ⟨(some 8), none, .mov (.tmp 2)⟩, ⟨(some 9), none, .call 33 [(.tmp 7), (.tmp 8)]⟩] false [1, 0]) (.seq (.seq (.ops [⟨(some 10), none, .mov (.tmp 0)⟩, ⟨(some 11), none, .nilck (.tmp 10)⟩, ⟨(some 12), none, .fieldA 0 (.tmp 11)⟩, ⟨(some 13), none, .load 1 false (.tmp 12)⟩, ⟨(some 14), none, .bin .neq (.tmp 13) (.const (.int .i64 4))⟩] false [14, 1, 0]) (.cond (.tmp 14) (.seq (.ops [⟨(some 6), none, .mov (.const (.int .i64 0))⟩] false [6]) .ret) .skip)) (.seq (.ops [⟨(some 15), none, .mov (.tmp 0)⟩, ⟨(some 16), none, .mov (.tmp 0)⟩, ⟨(some 17), none, .mov (.tmp 1)⟩, ⟨(some 18), none, .call 34 [(.tmp 17)]⟩, ⟨(some 19), none, .nilck (.tmp 15)⟩, ⟨(some 20), none, .fieldA 2 (.tmp 19)⟩, ⟨none, none, .store 1 (.tmp 20) (.tmp 18)⟩, ⟨(some 21), none, .nilck (.tmp 16)⟩, ⟨(some 22), none, .fieldA 0 (.tmp 21)⟩, ⟨none, none, .store 1 (.tmp 22) (.const (.int .i64 5))⟩] false []) (.seq (.ops [⟨(some 6), none, .mov (.const (.int .i64 3))⟩] false [6]) .ret))))), false, false⟩
/-- (outpost/reg.Life).Leave -/
def A23 : An := (.node (.ops [0, 1]) (.node (.ops [0]) (.node (.node (.ops [12, 0]) (.node (.node (.ops [4]) .leaf) .leaf)) (.node (.ops []) (.node (.ops [4]) .leaf)))))
def F23 : AFn := ⟨[(4, none)], (.seq (.ops [⟨(some 4), none, .mov (.const (.int .i64 0))⟩] false [0, 1]) (.seq (.ops [⟨(some 5), none, .mov (.tmp 0)⟩, ⟨(some 6), none, .mov (.tmp 1)⟩, ⟨(some 7), none, .call 33 [(.tmp 5), (.tmp 6)]⟩] false [0]) (.seq (.seq (.ops [⟨(some 8), none, .mov (.tmp 0)⟩, ⟨(some 9), none, .nilck (.tmp 8)⟩, ⟨(some 10), none, .fieldA 0 (.tmp 9)⟩, ⟨(some 11), none, .load 1 false (.tmp 10)⟩, ⟨(some 12), none, .bin .neq (.tmp 11) (.const (.int .i64 4))⟩] false [12, 0]) (.cond (.tmp 12) (.seq (.ops [⟨(some 4), none, .mov (.const (.int .i64 0))⟩] false [4]) .ret) .skip)) (.seq (.ops [⟨(some 13), none, .mov (.tmp 0)⟩, ⟨(some 14), none, .nilck (.tmp 13)⟩, ⟨(some 15), none, .fieldA 0 (.tmp 14)⟩, ⟨none, none, .store 1 (.tmp 15) (.const (.int .i64 6))⟩] false []) (.seq (.ops [⟨(some 4), none, .mov (.const (.int .i64 4))⟩] false [4]) .ret))))), false, false⟩
/-- outpost/outpostref24.Start -/
def A24 : An := (.node (.ops [8, 4, 2, 1, 3]) (.node (.ops [8, 4, 2, 1]) (.node (.ops [8, 4, 2]) (.node (.ops [8, 4]) (.node (.ops [8, 9]) .leaf)))))
def F24 : AFn := ⟨[(8, (some (6, true))), (9, none)], (.seq (.ops [⟨(some 4), none, .box 6 (.tmp 0)⟩, ⟨(some 8), none, .alloc [(.int .i64 0), (.bool false), (.int .i64 0), .nils, (.int .i64 0), (.int .i64 0)]⟩, ⟨(some 9), none, .mov (.const (.int .i64 0))⟩] false [8, 4, 2, 1, 3]) (.seq (.ops [⟨(some 10), none, .load 6 true (.tmp 4)⟩, ⟨(some 11), none, .mov (.tmp 3)⟩, ⟨(some 12), none, .call 41 [(.tmp 10), (.tmp 11)]⟩, ⟨none, none, .store 6 (.tmp 4) (.tmp 12)⟩] false [8, 4, 2, 1]) (.seq (.ops [⟨(some 13), none, .mov (.tmp 1)⟩, ⟨(some 14), none, .fieldA 1 (.tmp 4)⟩, ⟨none, none, .store 1 (.tmp 14) (.tmp 13)⟩] false [8, 4, 2]) (.seq (.ops [⟨(some 15), none, .mov (.tmp 2)⟩, ⟨(some 16), none, .call 42 [(.tmp 15)]⟩, ⟨(some 17), none, .fieldA 2 (.tmp 4)⟩, ⟨none, none, .store 1 (.tmp 17) (.tmp 16)⟩] false [8, 4]) (.seq (.ops [⟨(some 18), none, .load 6 true (.tmp 4)⟩, ⟨(some 19), none, .call 43 [(.tmp 18)]⟩, ⟨(some 20), none, .extract (.tmp 19) 0⟩, ⟨(some 21), none, .extract (.tmp 19) 1⟩, ⟨none, none, .store 6 (.tmp 8) (.tmp 20)⟩, ⟨(some 9), none, .mov (.tmp 21)⟩] false [8, 9]) .ret))))), false, false⟩
/-- outpost/outpostref24.Answer -/
def A25 : An := (.node (.ops [8, 4, 2, 1, 3]) (.node (.ops [8, 4, 2, 1]) (.node (.node (.node (.ops [14, 8, 4, 2, 1]) (.node (.node (.ops [8, 9]) .leaf) (.node (.ops [24, 4, 2, 8, 1]) (.node (.node (.ops [4, 2, 8]) (.node (.node (.ops [10, 4, 2, 8]) (.node (.loop [10, 4, 2, 8] (.node (.node (.ops [47, 4, 2, 8, 10]) (.node .leaf .leaf)) (.node (.node (.ops [4, 2, 8, 10]) .leaf) (.ops [10, 4, 2, 8])))) .leaf)) (.node (.ops [8, 9]) .leaf))) (.node (.ops [63, 8, 4, 1]) (.node (.node (.ops [8, 9]) .leaf) (.node (.ops [75, 8, 4]) (.node (.node (.ops [8, 4]) (.node (.ops [8, 4]) (.node (.ops [8, 9]) .leaf))) (.node (.ops [86, 8, 4]) (.node (.node (.ops [8, 9]) .leaf) (.node (.ops [104, 8, 4]) (.node (.node (.ops [8, 4]) (.ops [8, 4])) .leaf)))))))))))) .leaf) (.node (.ops [8, 9]) .leaf))))
def F25 : AFn := ⟨[(8, (some (6, true))), (9, none)], (.seq (.ops [⟨(some 4), none, .box 6 (.tmp 0)⟩, ⟨(some 8), none, .alloc [(.int .i64 0), (.bool false), (.int .i64 0), .nils, (.int .i64 0), (.int .i64 0)]⟩, ⟨(some 9), none, .mov (.const (.int .i64 0))⟩] false [8, 4, 2, 1, 3]) (.seq (.ops [⟨(some 11), none, .load 6 true (.tmp 4)⟩, ⟨(some 12), none, .mov (.tmp 3)⟩, ⟨(some 13), none, .call 41 [(.tmp 11), (.tmp 12)]⟩, ⟨none, none, .store 6 (.tmp 4) (.tmp 13)⟩] false [8, 4, 2, 1]) (.seq (.block 0 (.seq (.ops [⟨(some 15), none, .fieldA 0 (.tmp 4)⟩, ⟨(some 16), none, .load 1 false (.tmp 15)⟩, ⟨(some 17), none, .bin .eql (.tmp 16) (.const (.int .i64 1))⟩, ⟨(some 18), none, .mov (.tmp 17)⟩, ⟨(some 19), (some (18, true)), .mov (.tmp 1)⟩, ⟨(some 20), (some (18, true)), .bin .eql (.tmp 19) (.const (.int .i64 68))⟩, ⟨(some 21), none, .pick (.tmp 18) (.tmp 20) (.const (.bool false))⟩, ⟨(some 14), none, .mov (.tmp 21)⟩] false [14, 8, 4, 2, 1]) (.cond (.tmp 14) (.seq (.ops [⟨(some 22), none, .load 6 true (.tmp 4)⟩, ⟨(some 23), none, .call 44 [(.tmp 22), (.const (.int .i64 2)), (.const (.int .i64 1000))]⟩, ⟨none, none, .store 6 (.tmp 8) (.tmp 23)⟩, ⟨(some 9), none, .mov (.const (.int .i64 0))⟩] false [8, 9]) .ret) (.seq (.ops [⟨(some 25), none, .fieldA 0 (.tmp 4)⟩, ⟨(some 26), none, .load 1 false (.tmp 25)⟩, ⟨(some 27), none, .bin .eql (.tmp 26) (.const (.int .i64 3))⟩, ⟨(some 28), none, .mov (.tmp 27)⟩, ⟨(some 29), (some (28, true)), .mov (.tmp 1)⟩, ⟨(some 30), (some (28, true)), .bin .eql (.tmp 29) (.const (.int .i64 65))⟩, ⟨(some 31), none, .pick (.tmp 28) (.tmp 30) (.const (.bool false))⟩, ⟨(some 32), none, .mov (.tmp 31)⟩, ⟨(some 33), (some (32, true)), .mov (.tmp 2)⟩, ⟨(some 34), (some (32, true)), .len false (.tmp 33)⟩, ⟨(some 35), (some (32, true)), .bin .geq (.tmp 34) (.const (.int .i64 1))⟩, ⟨(some 36), none, .pick (.tmp 32) (.tmp 35) (.const (.bool false))⟩, ⟨(some 37), none, .mov (.tmp 36)⟩, ⟨(some 38), (some (37, true)), .mov (.tmp 2)⟩, ⟨(some 39), (some (37, true)), .len false (.tmp 38)⟩, ⟨(some 40), (some (37, true)), .bin .leq (.tmp 39) (.const (.int .i64 4))⟩, ⟨(some 41), none, .pick (.tmp 37) (.tmp 40) (.const (.bool false))⟩, ⟨(some 24), none, .mov (.tmp 41)⟩] false [24, 4, 2, 8, 1]) (.cond (.tmp 24) (.seq (.ops [⟨(some 42), none, .buildSl 1 false [(.str [])] 0 []⟩, ⟨(some 43), none, .fieldA 3 (.tmp 4)⟩, ⟨none, none, .store 1 (.tmp 43) (.tmp 42)⟩] false [4, 2, 8]) (.seq (.seq (.ops [⟨(some 10), none, .mov (.const (.int .i64 0))⟩] false [10, 4, 2, 8]) (.block 1 (.seq (.ops [] false [10, 4, 2, 8]) (.loop (.seq (.seq (.seq (.ops [⟨(some 44), none, .mov (.tmp 10)⟩, ⟨(some 45), none, .mov (.tmp 2)⟩, ⟨(some 46), none, .len false (.tmp 45)⟩, ⟨(some 47), none, .bin .lss (.tmp 44) (.tmp 46)⟩] false [47, 4, 2, 8, 10]) (.cond (.tmp 47) .skip (.exit 1))) (.seq (.block 2 (.ops [⟨(some 50), none, .fieldA 3 (.tmp 4)⟩, ⟨(some 51), none, .load 1 false (.tmp 50)⟩, ⟨(some 52), none, .mov (.tmp 2)⟩, ⟨(some 53), none, .mov (.tmp 10)⟩, ⟨(some 54), none, .idxA 1 (.tmp 52) (.tmp 53)⟩, ⟨(some 55), none, .load 1 false (.tmp 54)⟩, ⟨(some 56), none, .buildSl 1 false [(.str [])] 1 [(0, (.tmp 55))]⟩, ⟨(some 57), none, .appendT 9 1 (.tmp 51) (.tmp 56)⟩, ⟨(some 58), none, .fieldA 3 (.tmp 4)⟩, ⟨none, none, .store 1 (.tmp 58) (.tmp 57)⟩] false [4, 2, 8, 10])) (.ops [⟨(some 48), none, .mov (.tmp 10)⟩, ⟨(some 49), none, .bin .add (.tmp 48) (.const (.int .i64 1))⟩, ⟨(some 10), none, .mov (.tmp 49)⟩] false [10, 4, 2, 8]))) (.ops [] false [10, 4, 2, 8])))))) (.seq (.ops [⟨(some 59), none, .load 6 true (.tmp 4)⟩, ⟨(some 60), none, .call 45 [(.tmp 59)]⟩, ⟨(some 61), none, .extract (.tmp 60) 0⟩, ⟨(some 62), none, .extract (.tmp 60) 1⟩, ⟨none, none, .store 6 (.tmp 8) (.tmp 61)⟩, ⟨(some 9), none, .mov (.tmp 62)⟩] false [8, 9]) .ret))) (.seq (.ops [⟨(some 64), none, .fieldA 0 (.tmp 4)⟩, ⟨(some 65), none, .load 1 false (.tmp 64)⟩, ⟨(some 66), none, .bin .eql (.tmp 65) (.const (.int .i64 5))⟩, ⟨(some 67), none, .mov (.tmp 66)⟩, ⟨(some 68), (some (67, true)), .mov (.tmp 1)⟩, ⟨(some 69), (some (67, true)), .bin .eql (.tmp 68) (.const (.int .i64 68))⟩, ⟨(some 70), none, .pick (.tmp 67) (.tmp 69) (.const (.bool false))⟩, ⟨(some 63), none, .mov (.tmp 70)⟩] false [63, 8, 4, 1]) (.cond (.tmp 63) (.seq (.ops [⟨(some 71), none, .load 6 true (.tmp 4)⟩, ⟨(some 72), none, .call 45 [(.tmp 71)]⟩, ⟨(some 73), none, .extract (.tmp 72) 0⟩, ⟨(some 74), none, .extract (.tmp 72) 1⟩, ⟨none, none, .store 6 (.tmp 8) (.tmp 73)⟩, ⟨(some 9), none, .mov (.tmp 74)⟩] false [8, 9]) .ret) (.seq (.ops [⟨(some 76), none, .fieldA 0 (.tmp 4)⟩, ⟨(some 77), none, .load 1 false (.tmp 76)⟩, ⟨(some 78), none, .bin .eql (.tmp 77) (.const (.int .i64 5))⟩, ⟨(some 79), none, .mov (.tmp 78)⟩, ⟨(some 80), (some (79, true)), .mov (.tmp 1)⟩, ⟨(some 81), (some (79, true)), .bin .eql (.tmp 80) (.const (.int .i64 132))⟩, ⟨(some 82), none, .pick (.tmp 79) (.tmp 81) (.const (.bool false))⟩, ⟨(some 75), none, .mov (.tmp 82)⟩] false [75, 8, 4]) (.cond (.tmp 75) (.seq (.ops [⟨(some 83), none, .fieldA 3 (.tmp 4)⟩, ⟨none, none, .store 1 (.tmp 83) (.const .nils)⟩] false [8, 4]) (.seq (.ops [⟨(some 84), none, .fieldA 0 (.tmp 4)⟩, ⟨none, none, .store 1 (.tmp 84) (.const (.int .i64 3))⟩] false [8, 4]) (.seq (.ops [⟨(some 85), none, .load 6 true (.tmp 4)⟩, ⟨none, none, .store 6 (.tmp 8) (.tmp 85)⟩, ⟨(some 9), none, .mov (.const (.int .i64 2))⟩] false [8, 9]) .ret))) (.seq (.ops [⟨(some 87), none, .fieldA 0 (.tmp 4)⟩, ⟨(some 88), none, .load 1 false (.tmp 87)⟩, ⟨(some 89), none, .bin .eql (.tmp 88) (.const (.int .i64 1))⟩, ⟨(some 90), none, .mov (.tmp 89)⟩, ⟨(some 91), (some (90, false)), .fieldA 0 (.tmp 4)⟩, ⟨(some 92), (some (90, false)), .load 1 false (.tmp 91)⟩, ⟨(some 93), (some (90, false)), .bin .eql (.tmp 92) (.const (.int .i64 3))⟩, ⟨(some 94), none, .pick (.tmp 90) (.const (.bool true)) (.tmp 93)⟩, ⟨(some 95), none, .mov (.tmp 94)⟩, ⟨(some 96), (some (95, false)), .fieldA 0 (.tmp 4)⟩, ⟨(some 97), (some (95, false)), .load 1 false (.tmp 96)⟩, ⟨(some 98), (some (95, false)), .bin .eql (.tmp 97) (.const (.int .i64 5))⟩, ⟨(some 99), none, .pick (.tmp 95) (.const (.bool true)) (.tmp 98)⟩, ⟨(some 86), none, .mov (.tmp 99)⟩] false [86, 8, 4]) (.cond (.tmp 86) (.seq (.ops [⟨(some 100), none, .load 6 true (.tmp 4)⟩, ⟨(some 101), none, .call 46 [(.tmp 100)]⟩, ⟨(some 102), none, .extract (.tmp 101) 0⟩, ⟨(some 103), none, .extract (.tmp 101) 1⟩, ⟨none, none, .store 6 (.tmp 8) (.tmp 102)⟩, ⟨(some 9), none, .mov (.tmp 103)⟩] false [8, 9]) .ret) (.seq (.ops [⟨(some 105), none, .fieldA 0 (.tmp 4)⟩, ⟨(some 106), none, .load 1 false (.tmp 105)⟩, ⟨(some 107), none, .bin .eql (.tmp 106) (.const (.int .i64 6))⟩, ⟨(some 104), none, .mov (.tmp 107)⟩] false [104, 8, 4]) (.cond (.tmp 104) (.seq (.ops [⟨(some 108), none, .fieldA 0 (.tmp 4)⟩, ⟨none, none, .store 1 (.tmp 108) (.const (.int .i64 0))⟩] false [8, 4]) (.ops [⟨(some 109), none, .fieldA 3 (.tmp 4)⟩, ⟨none, none, .store 1 (.tmp 109) (.const .nils)⟩] false [8, 4])) .skip))))))))))))) (.seq (.ops [⟨(some 110), none, .load 6 true (.tmp 4)⟩, ⟨none, none, .store 6 (.tmp 8) (.tmp 110)⟩, ⟨(some 9), none, .mov (.const (.int .i64 0))⟩] false [8, 9]) .ret)))), false, false⟩
/-- outpost/outpostref24.Lost -/
def A26 : An := (.node (.ops [4, 2, 1]) (.node (.ops [4, 2]) (.node (.node (.ops [21, 4, 2]) (.node (.node (.ops [4, 5]) .leaf) .leaf)) (.node (.node (.ops [28, 4, 2]) (.node (.node (.ops [4, 2]) (.ops [4, 2])) .leaf)) (.node (.ops [4, 5]) .leaf)))))
def F26 : AFn := ⟨[(4, (some (6, true))), (5, none)], (.seq (.ops [⟨(some 2), none, .box 6 (.tmp 0)⟩, ⟨(some 4), none, .alloc [(.int .i64 0), (.bool false), (.int .i64 0), .nils, (.int .i64 0), (.int .i64 0)]⟩, ⟨(some 5), none, .mov (.const (.int .i64 0))⟩] false [4, 2, 1]) (.seq (.ops [⟨(some 6), none, .load 6 true (.tmp 2)⟩, ⟨(some 7), none, .mov (.tmp 1)⟩, ⟨(some 8), none, .call 41 [(.tmp 6), (.tmp 7)]⟩, ⟨none, none, .store 6 (.tmp 2) (.tmp 8)⟩] false [4, 2]) (.seq (.seq (.ops [⟨(some 9), none, .fieldA 0 (.tmp 2)⟩, ⟨(some 10), none, .load 1 false (.tmp 9)⟩, ⟨(some 11), none, .bin .eql (.tmp 10) (.const (.int .i64 1))⟩, ⟨(some 12), none, .mov (.tmp 11)⟩, ⟨(some 13), (some (12, false)), .fieldA 0 (.tmp 2)⟩, ⟨(some 14), (some (12, false)), .load 1 false (.tmp 13)⟩, ⟨(some 15), (some (12, false)), .bin .eql (.tmp 14) (.const (.int .i64 3))⟩, ⟨(some 16), none, .pick (.tmp 12) (.const (.bool true)) (.tmp 15)⟩, ⟨(some 17), none, .mov (.tmp 16)⟩, ⟨(some 18), (some (17, false)), .fieldA 0 (.tmp 2)⟩, ⟨(some 19), (some (17, false)), .load 1 false (.tmp 18)⟩, ⟨(some 20), (some (17, false)), .bin .eql (.tmp 19) (.const (.int .i64 5))⟩, ⟨(some 21), none, .pick (.tmp 17) (.const (.bool true)) (.tmp 20)⟩] false [21, 4, 2]) (.cond (.tmp 21) (.seq (.ops [⟨(some 22), none, .load 6 true (.tmp 2)⟩, ⟨(some 23), none, .call 46 [(.tmp 22)]⟩, ⟨(some 24), none, .extract (.tmp 23) 0⟩, ⟨(some 25), none, .extract (.tmp 23) 1⟩, ⟨none, none, .store 6 (.tmp 4) (.tmp 24)⟩, ⟨(some 5), none, .mov (.tmp 25)⟩] false [4, 5]) .ret) .skip)) (.seq (.seq (.ops [⟨(some 26), none, .fieldA 0 (.tmp 2)⟩, ⟨(some 27), none, .load 1 false (.tmp 26)⟩, ⟨(some 28), none, .bin .eql (.tmp 27) (.const (.int .i64 6))⟩] false [28, 4, 2]) (.cond (.tmp 28) (.seq (.ops [⟨(some 29), none, .fieldA 0 (.tmp 2)⟩, ⟨none, none, .store 1 (.tmp 29) (.const (.int .i64 0))⟩] false [4, 2]) (.ops [⟨(some 30), none, .fieldA 3 (.tmp 2)⟩, ⟨none, none, .store 1 (.tmp 30) (.const .nils)⟩] false [4, 2])) .skip)) (.seq (.ops [⟨(some 31), none, .load 6 true (.tmp 2)⟩, ⟨none, none, .store 6 (.tmp 4) (.tmp 31)⟩, ⟨(some 5), none, .mov (.const (.int .i64 0))⟩] false [4, 5]) .ret))))), false, false⟩
/-- outpost/outpostref24.Finish -/
def A27 : An := (.node (.ops [6, 3, 1, 2]) (.node (.ops [6, 3, 1]) (.node (.node (.ops [13, 6, 3, 1]) (.node (.node (.ops [6, 7]) .leaf) .leaf)) (.node (.ops [6, 3, 1]) (.node (.node (.ops [17, 6, 3]) (.node (.node (.ops [6, 7]) .leaf) .leaf)) (.node (.ops [6, 7]) .leaf))))))
def F27 : AFn := ⟨[(6, (some (6, true))), (7, none)], (.seq (.ops [⟨(some 3), none, .box 6 (.tmp 0)⟩, ⟨(some 6), none, .alloc [(.int .i64 0), (.bool false), (.int .i64 0), .nils, (.int .i64 0), (.int .i64 0)]⟩, ⟨(some 7), none, .mov (.const (.int .i64 0))⟩] false [6, 3, 1, 2]) (.seq (.ops [⟨(some 8), none, .load 6 true (.tmp 3)⟩, ⟨(some 9), none, .mov (.tmp 2)⟩, ⟨(some 10), none, .call 41 [(.tmp 8), (.tmp 9)]⟩, ⟨none, none, .store 6 (.tmp 3) (.tmp 10)⟩] false [6, 3, 1]) (.seq (.seq (.ops [⟨(some 11), none, .fieldA 0 (.tmp 3)⟩, ⟨(some 12), none, .load 1 false (.tmp 11)⟩, ⟨(some 13), none, .bin .neq (.tmp 12) (.const (.int .i64 2))⟩] false [13, 6, 3, 1]) (.cond (.tmp 13) (.seq (.ops [⟨(some 14), none, .load 6 true (.tmp 3)⟩, ⟨none, none, .store 6 (.tmp 6) (.tmp 14)⟩, ⟨(some 7), none, .mov (.const (.int .i64 0))⟩] false [6, 7]) .ret) .skip)) (.seq (.ops [⟨(some 15), none, .mov (.tmp 1)⟩, ⟨(some 16), none, .fieldA 1 (.tmp 3)⟩, ⟨none, none, .store 1 (.tmp 16) (.tmp 15)⟩] false [6, 3, 1]) (.seq (.seq (.ops [⟨(some 17), none, .mov (.tmp 1)⟩] false [17, 6, 3]) (.cond (.tmp 17) (.seq (.ops [⟨(some 18), none, .load 6 true (.tmp 3)⟩, ⟨(some 19), none, .call 43 [(.tmp 18)]⟩, ⟨(some 20), none, .extract (.tmp 19) 0⟩, ⟨(some 21), none, .extract (.tmp 19) 1⟩, ⟨none, none, .store 6 (.tmp 6) (.tmp 20)⟩, ⟨(some 7), none, .mov (.tmp 21)⟩] false [6, 7]) .ret) .skip)) (.seq (.ops [⟨(some 22), none, .load 6 true (.tmp 3)⟩, ⟨(some 23), none, .call 46 [(.tmp 22)]⟩, ⟨(some 24), none, .extract (.tmp 23) 0⟩, ⟨(some 25), none, .extract (.tmp 23) 1⟩, ⟨none, none, .store 6 (.tmp 6) (.tmp 24)⟩, ⟨(some 7), none, .mov (.tmp 25)⟩] false [6, 7]) .ret)))))), false, false⟩
/-- outpost/outpostref24.Pass -/
def A28 : An := (.node (.ops [4, 2, 1]) (.node (.ops [4, 2]) (.node (.node (.ops [28, 4, 2]) (.node (.node (.ops [4, 5]) .leaf) .leaf)) (.node (.node (.ops [32, 4, 2]) (.node (.node (.ops [4, 5]) .leaf) .leaf)) (.node (.node (.ops [39, 4, 2]) (.node (.node (.ops [4, 2]) (.node (.ops [4, 5]) .leaf)) .leaf)) (.node (.ops [4, 5]) .leaf))))))
def F28 : AFn := ⟨[(4, (some (6, true))), (5, none)], (.seq (.ops [⟨(some 2), none, .box 6 (.tmp 0)⟩, ⟨(some 4), none, .alloc [(.int .i64 0), (.bool false), (.int .i64 0), .nils, (.int .i64 0), (.int .i64 0)]⟩, ⟨(some 5), none, .mov (.const (.int .i64 0))⟩] false [4, 2, 1]) (.seq (.ops [⟨(some 6), none, .load 6 true (.tmp 2)⟩, ⟨(some 7), none, .mov (.tmp 1)⟩, ⟨(some 8), none, .call 41 [(.tmp 6), (.tmp 7)]⟩, ⟨none, none, .store 6 (.tmp 2) (.tmp 8)⟩] false [4, 2]) (.seq (.seq (.ops [⟨(some 9), none, .fieldA 0 (.tmp 2)⟩, ⟨(some 10), none, .load 1 false (.tmp 9)⟩, ⟨(some 11), none, .bin .neq (.tmp 10) (.const (.int .i64 2))⟩, ⟨(some 12), none, .mov (.tmp 11)⟩, ⟨(some 13), (some (12, true)), .fieldA 0 (.tmp 2)⟩, ⟨(some 14), (some (12, true)), .load 1 false (.tmp 13)⟩, ⟨(some 15), (some (12, true)), .bin .neq (.tmp 14) (.const (.int .i64 4))⟩, ⟨(some 16), none, .pick (.tmp 12) (.tmp 15) (.const (.bool false))⟩, ⟨(some 17), none, .mov (.tmp 16)⟩, ⟨(some 18), (some (17, true)), .fieldA 0 (.tmp 2)⟩, ⟨(some 19), (some (17, true)), .load 1 false (.tmp 18)⟩, ⟨(some 20), (some (17, true)), .bin .neq (.tmp 19) (.const (.int .i64 7))⟩, ⟨(some 21), none, .pick (.tmp 17) (.tmp 20) (.const (.bool false))⟩, ⟨(some 22), none, .mov (.tmp 21)⟩, ⟨(some 23), (some (22, false)), .fieldA 4 (.tmp 2)⟩, ⟨(some 24), (some (22, false)), .load 1 false (.tmp 23)⟩, ⟨(some 25), (some (22, false)), .fieldA 5 (.tmp 2)⟩, ⟨(some 26), (some (22, false)), .load 1 false (.tmp 25)⟩, ⟨(some 27), (some (22, false)), .bin .lss (.tmp 24) (.tmp 26)⟩, ⟨(some 28), none, .pick (.tmp 22) (.const (.bool true)) (.tmp 27)⟩] false [28, 4, 2]) (.cond (.tmp 28) (.seq (.ops [⟨(some 29), none, .load 6 true (.tmp 2)⟩, ⟨none, none, .store 6 (.tmp 4) (.tmp 29)⟩, ⟨(some 5), none, .mov (.const (.int .i64 0))⟩] false [4, 5]) .ret) .skip)) (.seq (.seq (.ops [⟨(some 30), none, .fieldA 0 (.tmp 2)⟩, ⟨(some 31), none, .load 1 false (.tmp 30)⟩, ⟨(some 32), none, .bin .eql (.tmp 31) (.const (.int .i64 2))⟩] false [32, 4, 2]) (.cond (.tmp 32) (.seq (.ops [⟨(some 33), none, .load 6 true (.tmp 2)⟩, ⟨(some 34), none, .call 46 [(.tmp 33)]⟩, ⟨(some 35), none, .extract (.tmp 34) 0⟩, ⟨(some 36), none, .extract (.tmp 34) 1⟩, ⟨none, none, .store 6 (.tmp 4) (.tmp 35)⟩, ⟨(some 5), none, .mov (.tmp 36)⟩] false [4, 5]) .ret) .skip)) (.seq (.seq (.ops [⟨(some 37), none, .fieldA 0 (.tmp 2)⟩, ⟨(some 38), none, .load 1 false (.tmp 37)⟩, ⟨(some 39), none, .bin .eql (.tmp 38) (.const (.int .i64 4))⟩] false [39, 4, 2]) (.cond (.tmp 39) (.seq (.ops [⟨(some 40), none, .fieldA 0 (.tmp 2)⟩, ⟨none, none, .store 1 (.tmp 40) (.const (.int .i64 5))⟩] false [4, 2]) (.seq (.ops [⟨(some 41), none, .load 6 true (.tmp 2)⟩, ⟨none, none, .store 6 (.tmp 4) (.tmp 41)⟩, ⟨(some 5), none, .mov (.const (.int .i64 3))⟩] false [4, 5]) .ret)) .skip)) (.seq (.ops [⟨(some 42), none, .load 6 true (.tmp 2)⟩, ⟨(some 43), none, .call 43 [(.tmp 42)]⟩, ⟨(some 44), none, .extract (.tmp 43) 0⟩, ⟨(some 45), none, .extract (.tmp 43) 1⟩, ⟨none, none, .store 6 (.tmp 4) (.tmp 44)⟩, ⟨(some 5), none, .mov (.tmp 45)⟩] false [4, 5]) .ret)))))), false, false⟩
/-- outpost/outpostref24.Renew -/
def A29 : An := (.node (.ops [6, 3, 1, 2]) (.node (.ops [6, 3, 1]) (.node (.node (.ops [13, 6, 3, 1]) (.node (.node (.ops [6, 7]) .leaf) .leaf)) (.node (.ops [6, 3]) (.node (.ops [6, 3]) (.node (.ops [6, 7]) .leaf))))))
def F29 : AFn := ⟨[(6, (some (6, true))), (7, none)], (.seq (.ops [⟨(some 3), none, .box 6 (.tmp 0)⟩, ⟨(some 6), none, .alloc [(.int .i64 0), (.bool false), (.int .i64 0), .nils, (.int .i64 0), (.int .i64 0)]⟩, ⟨(some 7), none, .mov (.const (.int .i64 0))⟩] false [6, 3, 1, 2]) (.seq (.ops [⟨(some 8), none, .load 6 true (.tmp 3)⟩, ⟨(some 9), none, .mov (.tmp 2)⟩, ⟨(some 10), none, .call 41 [(.tmp 8), (.tmp 9)]⟩, ⟨none, none, .store 6 (.tmp 3) (.tmp 10)⟩] false [6, 3, 1]) (.seq (.seq (.ops [⟨(some 11), none, .fieldA 0 (.tmp 3)⟩, ⟨(some 12), none, .load 1 false (.tmp 11)⟩, ⟨(some 13), none, .bin .neq (.tmp 12) (.const (.int .i64 4))⟩] false [13, 6, 3, 1]) (.cond (.tmp 13) (.seq (.ops [⟨(some 14), none, .load 6 true (.tmp 3)⟩, ⟨none, none, .store 6 (.tmp 6) (.tmp 14)⟩, ⟨(some 7), none, .mov (.const (.int .i64 0))⟩] false [6, 7]) .ret) .skip)) (.seq (.ops [⟨(some 15), none, .mov (.tmp 1)⟩, ⟨(some 16), none, .call 42 [(.tmp 15)]⟩, ⟨(some 17), none, .fieldA 2 (.tmp 3)⟩, ⟨none, none, .store 1 (.tmp 17) (.tmp 16)⟩] false [6, 3]) (.seq (.ops [⟨(some 18), none, .fieldA 0 (.tmp 3)⟩, ⟨none, none, .store 1 (.tmp 18) (.const (.int .i64 5))⟩] false [6, 3]) (.seq (.ops [⟨(some 19), none, .load 6 true (.tmp 3)⟩, ⟨none, none, .store 6 (.tmp 6) (.tmp 19)⟩, ⟨(some 7), none, .mov (.const (.int .i64 3))⟩] false [6, 7]) .ret)))))), false, false⟩
/-- outpost/outpostref24.Leave -/
def A30 : An := (.node (.ops [4, 2, 1]) (.node (.ops [4, 2]) (.node (.node (.ops [11, 4, 2]) (.node (.node (.ops [4, 5]) .leaf) .leaf)) (.node (.ops [4, 2]) (.node (.ops [4, 5]) .leaf)))))
def F30 : AFn := ⟨[(4, (some (6, true))), (5, none)], (.seq (.ops [⟨(some 2), none, .box 6 (.tmp 0)⟩, ⟨(some 4), none, .alloc [(.int .i64 0), (.bool false), (.int .i64 0), .nils, (.int .i64 0), (.int .i64 0)]⟩, ⟨(some 5), none, .mov (.const (.int .i64 0))⟩] false [4, 2, 1]) (.seq (.ops [⟨(some 6), none, .load 6 true (.tmp 2)⟩, ⟨(some 7), none, .mov (.tmp 1)⟩, ⟨(some 8), none, .call 41 [(.tmp 6), (.tmp 7)]⟩, ⟨none, none, .store 6 (.tmp 2) (.tmp 8)⟩] false [4, 2]) (.seq (.seq (.ops [⟨(some 9), none, .fieldA 0 (.tmp 2)⟩, ⟨(some 10), none, .load 1 false (.tmp 9)⟩, ⟨(some 11), none, .bin .neq (.tmp 10) (.const (.int .i64 4))⟩] false [11, 4, 2]) (.cond (.tmp 11) (.seq (.ops [⟨(some 12), none, .load 6 true (.tmp 2)⟩, ⟨none, none, .store 6 (.tmp 4) (.tmp 12)⟩, ⟨(some 5), none, .mov (.const (.int .i64 0))⟩] false [4, 5]) .ret) .skip)) (.seq (.ops [⟨(some 13), none, .fieldA 0 (.tmp 2)⟩, ⟨none, none, .store 1 (.tmp 13) (.const (.int .i64 6))⟩] false [4, 2]) (.seq (.ops [⟨(some 14), none, .load 6 true (.tmp 2)⟩, ⟨none, none, .store 6 (.tmp 4) (.tmp 14)⟩, ⟨(some 5), none, .mov (.const (.int .i64 4))⟩] false [4, 5]) .ret))))), false, false⟩
/-- (outpost/reg.Life).timed -/
def A31 : An := (.node (.ops [0]) (.node (.ops [2]) .leaf))
def F31 : AFn := ⟨[(2, none)], (.seq (.ops [⟨(some 2), none, .mov (.const (.bool false))⟩] false [0]) (.seq (.ops [⟨(some 3), none, .mov (.tmp 0)⟩, ⟨(some 4), none, .nilck (.tmp 3)⟩, ⟨(some 5), none, .fieldA 0 (.tmp 4)⟩, ⟨(some 6), none, .load 1 false (.tmp 5)⟩, ⟨(some 7), none, .bin .eql (.tmp 6) (.const (.int .i64 2))⟩, ⟨(some 8), none, .mov (.tmp 7)⟩, ⟨(some 9), (some (8, false)), .mov (.tmp 0)⟩, ⟨(some 10), (some (8, false)), .nilck (.tmp 9)⟩, ⟨(some 11), (some (8, false)), .fieldA 0 (.tmp 10)⟩, ⟨(some 12), (some (8, false)), .load 1 false (.tmp 11)⟩, ⟨(some 13), (some (8, false)), .bin .eql (.tmp 12) (.const (.int .i64 4))⟩, ⟨(some 14), none, .pick (.tmp 8) (.const (.bool true)) (.tmp 13)⟩, ⟨(some 15), none, .mov (.tmp 14)⟩, ⟨(some 16), (some (15, false)), .mov (.tmp 0)⟩, ⟨(some 17), (some (15, false)), .nilck (.tmp 16)⟩, ⟨(some 18), (some (15, false)), .fieldA 0 (.tmp 17)⟩, ⟨(some 19), (some (15, false)), .load 1 false (.tmp 18)⟩, ⟨(some 20), (some (15, false)), .bin .eql (.tmp 19) (.const (.int .i64 7))⟩, ⟨(some 21), none, .pick (.tmp 15) (.const (.bool true)) (.tmp 20)⟩, ⟨(some 2), none, .mov (.tmp 21)⟩] false [2]) .ret)), false, false⟩
/-- slices.Clone[[]string,string] -/
def A32 : An := (.node (.ops [0]) (.node (.node (.ops [4, 0]) (.node (.node (.ops [2]) .leaf) .leaf)) (.node (.ops [2]) .leaf)))
def F32 : AFn := ⟨[(2, none)], (.seq (.ops [⟨(some 2), none, .mov (.const .nils)⟩] false [0]) (.seq (.seq (.ops [⟨(some 3), none, .mov (.tmp 0)⟩, ⟨(some 4), none, .isnil 1 false (.tmp 3)⟩] false [4, 0]) (.cond (.tmp 4) (.seq (.ops [⟨(some 2), none, .mov (.const .nils)⟩] false [2]) .ret) .skip)) (.seq (.ops [⟨(some 5), none, .buildSl 1 false [(.str [])] 0 []⟩, ⟨(some 6), none, .mov (.tmp 0)⟩, ⟨(some 7), none, .appendT 9 1 (.tmp 5) (.tmp 6)⟩, ⟨(some 2), none, .mov (.tmp 7)⟩] false [2]) .ret))), false, false⟩
/-- (outpost/reg.Life).pass -/
def A33 : An := (.ops [])
def F33 : AFn := ⟨[], (.ops [⟨(some 4), none, .mov (.tmp 0)⟩, ⟨(some 5), none, .mov (.tmp 1)⟩, ⟨(some 6), none, .mov (.tmp 0)⟩, ⟨(some 7), none, .nilck (.tmp 6)⟩, ⟨(some 8), none, .fieldA 4 (.tmp 7)⟩, ⟨(some 9), none, .load 1 false (.tmp 8)⟩, ⟨(some 10), none, .minmax true [(.tmp 5), (.tmp 9)]⟩, ⟨(some 11), none, .minmax false [(.tmp 10), (.const (.int .i64 1099511627776))]⟩, ⟨(some 12), none, .nilck (.tmp 4)⟩, ⟨(some 13), none, .fieldA 4 (.tmp 12)⟩, ⟨none, none, .store 1 (.tmp 13) (.tmp 11)⟩] false []), false, false⟩
/-- outpost/reg.lifetime -/
def A34 : An := (.node (.ops [0]) (.node (.ops [2]) .leaf))
def F34 : AFn := ⟨[(2, none)], (.seq (.ops [⟨(some 2), none, .mov (.const (.int .i64 0))⟩] false [0]) (.seq (.ops [⟨(some 3), none, .mov (.tmp 0)⟩, ⟨(some 4), none, .minmax true [(.tmp 3), (.const (.int .i64 1))]⟩, ⟨(some 5), none, .minmax false [(.tmp 4), (.const (.int .i64 86400))]⟩, ⟨(some 2), none, .mov (.tmp 5)⟩] false [2]) .ret)), false, false⟩
/-- (outpost/reg.Life).begin -/
def A35 : An := (.node (.ops [0]) (.node (.ops [0]) (.node (.node (.ops [9, 0]) (.node (.node (.ops []) (.node (.ops [2]) .leaf)) .leaf)) (.node (.ops []) (.node (.ops [2]) .leaf)))))
def F35 : AFn := ⟨[(2, none)], (.seq (.ops [⟨(some 2), none, .mov (.const (.int .i64 0))⟩] false [0]) (.seq (.ops [⟨(some 3), none, .mov (.tmp 0)⟩, ⟨(some 4), none, .nilck (.tmp 3)⟩, ⟨(some 5), none, .fieldA 3 (.tmp 4)⟩, ⟨none, none, .store 1 (.tmp 5) (.const .nils)⟩] false [0]) (.seq (.seq (.ops [⟨(some 6), none, .mov (.tmp 0)⟩, ⟨(some 7), none, .nilck (.tmp 6)⟩, ⟨(some 8), none, .fieldA 1 (.tmp 7)⟩, ⟨(some 9), none, .load 1 false (.tmp 8)⟩] false [9, 0]) (.cond (.tmp 9) (.seq (.ops [⟨(some 10), none, .mov (.tmp 0)⟩, ⟨(some 11), none, .nilck (.tmp 10)⟩, ⟨(some 12), none, .fieldA 0 (.tmp 11)⟩, ⟨none, none, .store 1 (.tmp 12) (.const (.int .i64 3))⟩] false []) (.seq (.ops [⟨(some 2), none, .mov (.const (.int .i64 2))⟩] false [2]) .ret)) .skip)) (.seq (.ops [⟨(some 13), none, .mov (.tmp 0)⟩, ⟨(some 14), none, .nilck (.tmp 13)⟩, ⟨(some 15), none, .fieldA 0 (.tmp 14)⟩, ⟨none, none, .store 1 (.tmp 15) (.const (.int .i64 1))⟩] false []) (.seq (.ops [⟨(some 2), none, .mov (.const (.int .i64 1))⟩] false [2]) .ret))))), false, false⟩
/-- (outpost/reg.Life).wait -/
def A36 : An := (.node (.ops [2, 0, 1]) (.node (.ops []) (.node (.ops [6]) .leaf)))
def F36 : AFn := ⟨[(6, none)], (.seq (.ops [⟨(some 6), none, .mov (.const (.int .i64 0))⟩] false [2, 0, 1]) (.seq (.ops [⟨(some 7), none, .mov (.tmp 0)⟩, ⟨(some 8), none, .mov (.tmp 0)⟩, ⟨(some 9), none, .mov (.tmp 1)⟩, ⟨(some 10), none, .mov (.tmp 0)⟩, ⟨(some 11), none, .nilck (.tmp 10)⟩, ⟨(some 12), none, .fieldA 4 (.tmp 11)⟩, ⟨(some 13), none, .load 1 false (.tmp 12)⟩, ⟨(some 14), none, .mov (.tmp 2)⟩, ⟨(some 15), none, .bin .add (.tmp 13) (.tmp 14)⟩, ⟨(some 16), none, .minmax false [(.tmp 15), (.const (.int .i64 1099511627776))]⟩, ⟨(some 17), none, .nilck (.tmp 7)⟩, ⟨(some 18), none, .fieldA 0 (.tmp 17)⟩, ⟨none, none, .store 1 (.tmp 18) (.tmp 9)⟩, ⟨(some 19), none, .nilck (.tmp 8)⟩, ⟨(some 20), none, .fieldA 5 (.tmp 19)⟩, ⟨none, none, .store 1 (.tmp 20) (.tmp 16)⟩] false []) (.seq (.ops [⟨(some 6), none, .mov (.const (.int .i64 0))⟩] false [6]) .ret))), false, false⟩
/-- (outpost/reg.Life).rest -/
def A37 : An := (.node (.ops [0]) (.node (.ops [0]) (.node (.ops [2]) .leaf)))
def F37 : AFn := ⟨[(2, none)], (.seq (.ops [⟨(some 2), none, .mov (.const (.int .i64 0))⟩] false [0]) (.seq (.ops [⟨(some 3), none, .mov (.tmp 0)⟩, ⟨(some 4), none, .nilck (.tmp 3)⟩, ⟨(some 5), none, .fieldA 3 (.tmp 4)⟩, ⟨none, none, .store 1 (.tmp 5) (.const .nils)⟩] false [0]) (.seq (.ops [⟨(some 6), none, .mov (.tmp 0)⟩, ⟨(some 7), none, .call 36 [(.tmp 6), (.const (.int .i64 7)), (.const (.int .i64 60))]⟩, ⟨(some 2), none, .mov (.tmp 7)⟩] false [2]) .ret))), false, false⟩
/-- (outpost/reg.Life).joinedAt -/
def A38 : An := (.node (.ops [0, 2, 1]) (.node (.node (.ops [18, 0, 2]) (.node (.node (.ops [6]) .leaf) .leaf)) (.node (.ops [0]) (.node (.ops [6]) .leaf))))
def F38 : AFn := ⟨[(6, none)], (.seq (.ops [⟨(some 6), none, .mov (.const (.int .i64 0))⟩] false [0, 2, 1]) (.seq (.seq (.ops [⟨(some 7), none, .mov (.tmp 1)⟩, ⟨(some 8), none, .bin .neq (.tmp 7) (.const (.int .i64 65))⟩, ⟨(some 9), none, .mov (.tmp 8)⟩, ⟨(some 10), (some (9, false)), .mov (.tmp 2)⟩, ⟨(some 11), (some (9, false)), .len false (.tmp 10)⟩, ⟨(some 12), (some (9, false)), .bin .eql (.tmp 11) (.const (.int .i64 0))⟩, ⟨(some 13), none, .pick (.tmp 9) (.const (.bool true)) (.tmp 12)⟩, ⟨(some 14), none, .mov (.tmp 13)⟩, ⟨(some 15), (some (14, false)), .mov (.tmp 2)⟩, ⟨(some 16), (some (14, false)), .len false (.tmp 15)⟩, ⟨(some 17), (some (14, false)), .bin .gtr (.tmp 16) (.const (.int .i64 4))⟩, ⟨(some 18), none, .pick (.tmp 14) (.const (.bool true)) (.tmp 17)⟩] false [18, 0, 2]) (.cond (.tmp 18) (.seq (.ops [⟨(some 19), none, .mov (.tmp 0)⟩, ⟨(some 20), none, .call 37 [(.tmp 19)]⟩, ⟨(some 6), none, .mov (.tmp 20)⟩] false [6]) .ret) .skip)) (.seq (.ops [⟨(some 21), none, .mov (.tmp 0)⟩, ⟨(some 22), none, .mov (.tmp 2)⟩, ⟨(some 23), none, .call 32 [(.tmp 22)]⟩, ⟨(some 24), none, .nilck (.tmp 21)⟩, ⟨(some 25), none, .fieldA 3 (.tmp 24)⟩, ⟨none, none, .store 1 (.tmp 25) (.tmp 23)⟩] false [0]) (.seq (.ops [⟨(some 26), none, .mov (.tmp 0)⟩, ⟨(some 27), none, .call 47 [(.tmp 26)]⟩, ⟨(some 6), none, .mov (.tmp 27)⟩] false [6]) .ret)))), false, false⟩
/-- (outpost/reg.Life).renewed -/
def A39 : An := (.node (.ops [0, 1]) (.node (.node (.ops [0, 5]) (.node (.node (.ops [6, 0, 5]) (.node (.node (.ops [4]) .leaf) (.node (.ops [10, 0]) (.node (.node (.ops []) (.node (.ops [4]) .leaf)) .leaf)))) .leaf)) (.node (.ops [4]) .leaf)))
def F39 : AFn := ⟨[(4, none)], (.seq (.ops [⟨(some 4), none, .mov (.const (.int .i64 0))⟩] false [0, 1]) (.seq (.seq (.ops [⟨(some 5), none, .mov (.tmp 1)⟩] false [0, 5]) (.block 0 (.seq (.ops [⟨(some 7), none, .bin .eql (.tmp 5) (.const (.int .i64 68))⟩, ⟨(some 6), none, .mov (.tmp 7)⟩] false [6, 0, 5]) (.cond (.tmp 6) (.seq (.ops [⟨(some 8), none, .mov (.tmp 0)⟩, ⟨(some 9), none, .call 47 [(.tmp 8)]⟩, ⟨(some 4), none, .mov (.tmp 9)⟩] false [4]) .ret) (.seq (.ops [⟨(some 11), none, .bin .eql (.tmp 5) (.const (.int .i64 132))⟩, ⟨(some 10), none, .mov (.tmp 11)⟩] false [10, 0]) (.cond (.tmp 10) (.seq (.ops [⟨(some 12), none, .mov (.tmp 0)⟩, ⟨(some 13), none, .mov (.tmp 0)⟩, ⟨(some 14), none, .nilck (.tmp 12)⟩, ⟨(some 15), none, .fieldA 3 (.tmp 14)⟩, ⟨none, none, .store 1 (.tmp 15) (.const .nils)⟩, ⟨(some 16), none, .nilck (.tmp 13)⟩, ⟨(some 17), none, .fieldA 0 (.tmp 16)⟩, ⟨none, none, .store 1 (.tmp 17) (.const (.int .i64 3))⟩] false []) (.seq (.ops [⟨(some 4), none, .mov (.const (.int .i64 2))⟩] false [4]) .ret)) .skip)))))) (.seq (.ops [⟨(some 18), none, .mov (.tmp 0)⟩, ⟨(some 19), none, .call 37 [(.tmp 18)]⟩, ⟨(some 4), none, .mov (.tmp 19)⟩] false [4]) .ret))), false, false⟩
/-- (outpost/reg.Life).off -/
def A40 : An := (.node (.ops [0]) (.node (.ops []) (.node (.ops [2]) .leaf)))
def F40 : AFn := ⟨[(2, none)], (.seq (.ops [⟨(some 2), none, .mov (.const (.int .i64 0))⟩] false [0]) (.seq (.ops [⟨(some 3), none, .mov (.tmp 0)⟩, ⟨(some 4), none, .mov (.tmp 0)⟩, ⟨(some 5), none, .nilck (.tmp 3)⟩, ⟨(some 6), none, .fieldA 0 (.tmp 5)⟩, ⟨none, none, .store 1 (.tmp 6) (.const (.int .i64 0))⟩, ⟨(some 7), none, .nilck (.tmp 4)⟩, ⟨(some 8), none, .fieldA 3 (.tmp 7)⟩, ⟨none, none, .store 1 (.tmp 8) (.const .nils)⟩] false []) (.seq (.ops [⟨(some 2), none, .mov (.const (.int .i64 0))⟩] false [2]) .ret))), false, false⟩
/-- outpost/outpostref24.at -/
def A41 : An := (.node (.ops [4, 2, 1]) (.node (.node (.ops [9, 4, 2, 1]) (.node (.ops [4, 2]) .leaf)) (.node (.ops [4]) .leaf)))
def F41 : AFn := ⟨[(4, (some (6, true)))], (.seq (.ops [⟨(some 2), none, .box 6 (.tmp 0)⟩, ⟨(some 4), none, .alloc [(.int .i64 0), (.bool false), (.int .i64 0), .nils, (.int .i64 0), (.int .i64 0)]⟩] false [4, 2, 1]) (.seq (.seq (.ops [⟨(some 5), none, .mov (.tmp 1)⟩, ⟨(some 6), none, .callQ 48 [(.tmp 5)]⟩, ⟨(some 7), none, .fieldA 4 (.tmp 2)⟩, ⟨(some 8), none, .load 1 false (.tmp 7)⟩, ⟨(some 9), none, .bin .gtr (.tmp 6) (.tmp 8)⟩] false [9, 4, 2, 1]) (.cond (.tmp 9) (.ops [⟨(some 10), none, .mov (.tmp 1)⟩, ⟨(some 11), none, .call 48 [(.tmp 10)]⟩, ⟨(some 12), none, .fieldA 4 (.tmp 2)⟩, ⟨none, none, .store 1 (.tmp 12) (.tmp 11)⟩] false [4, 2]) .skip)) (.seq (.ops [⟨(some 13), none, .load 6 true (.tmp 2)⟩, ⟨none, none, .store 6 (.tmp 4) (.tmp 13)⟩] false [4]) .ret))), false, false⟩
/-- outpost/outpostref24.Term -/
def A42 : An := (.node (.ops [0]) (.node (.node (.ops [4, 0]) (.node (.node (.ops [2]) .leaf) .leaf)) (.node (.node (.ops [6, 0]) (.node (.node (.ops [2]) .leaf) .leaf)) (.node (.ops [2]) .leaf))))
def F42 : AFn := ⟨[(2, none)], (.seq (.ops [⟨(some 2), none, .mov (.const (.int .i64 0))⟩] false [0]) (.seq (.seq (.ops [⟨(some 3), none, .mov (.tmp 0)⟩, ⟨(some 4), none, .bin .lss (.tmp 3) (.const (.int .i64 1))⟩] false [4, 0]) (.cond (.tmp 4) (.seq (.ops [⟨(some 2), none, .mov (.const (.int .i64 1))⟩] false [2]) .ret) .skip)) (.seq (.seq (.ops [⟨(some 5), none, .mov (.tmp 0)⟩, ⟨(some 6), none, .bin .gtr (.tmp 5) (.const (.int .i64 86400))⟩] false [6, 0]) (.cond (.tmp 6) (.seq (.ops [⟨(some 2), none, .mov (.const (.int .i64 86400))⟩] false [2]) .ret) .skip)) (.seq (.ops [⟨(some 7), none, .mov (.tmp 0)⟩, ⟨(some 2), none, .mov (.tmp 7)⟩] false [2]) .ret)))), false, false⟩
/-- outpost/outpostref24.begin -/
def A43 : An := (.node (.ops [2, 1]) (.node (.ops [2, 1]) (.node (.node (.ops [6, 2, 1]) (.node (.node (.ops [2, 1]) (.node (.ops [2, 3]) .leaf)) .leaf)) (.node (.ops [2, 1]) (.node (.ops [2, 3]) .leaf)))))
def F43 : AFn := ⟨[(2, (some (6, true))), (3, none)], (.seq (.ops [⟨(some 1), none, .box 6 (.tmp 0)⟩, ⟨(some 2), none, .alloc [(.int .i64 0), (.bool false), (.int .i64 0), .nils, (.int .i64 0), (.int .i64 0)]⟩, ⟨(some 3), none, .mov (.const (.int .i64 0))⟩] false [2, 1]) (.seq (.ops [⟨(some 4), none, .fieldA 3 (.tmp 1)⟩, ⟨none, none, .store 1 (.tmp 4) (.const .nils)⟩] false [2, 1]) (.seq (.seq (.ops [⟨(some 5), none, .fieldA 1 (.tmp 1)⟩, ⟨(some 6), none, .load 1 false (.tmp 5)⟩] false [6, 2, 1]) (.cond (.tmp 6) (.seq (.ops [⟨(some 7), none, .fieldA 0 (.tmp 1)⟩, ⟨none, none, .store 1 (.tmp 7) (.const (.int .i64 3))⟩] false [2, 1]) (.seq (.ops [⟨(some 8), none, .load 6 true (.tmp 1)⟩, ⟨none, none, .store 6 (.tmp 2) (.tmp 8)⟩, ⟨(some 3), none, .mov (.const (.int .i64 2))⟩] false [2, 3]) .ret)) .skip)) (.seq (.ops [⟨(some 9), none, .fieldA 0 (.tmp 1)⟩, ⟨none, none, .store 1 (.tmp 9) (.const (.int .i64 1))⟩] false [2, 1]) (.seq (.ops [⟨(some 10), none, .load 6 true (.tmp 1)⟩, ⟨none, none, .store 6 (.tmp 2) (.tmp 10)⟩, ⟨(some 3), none, .mov (.const (.int .i64 1))⟩] false [2, 3]) .ret))))), false, false⟩
/-- outpost/outpostref24.during -/
def A44 : An := (.node (.ops [6, 3, 2, 1]) (.node (.ops [6, 3, 2]) (.node (.ops [6, 3]) (.node (.ops [6]) .leaf))))
def F44 : AFn := ⟨[(6, (some (6, true)))], (.seq (.ops [⟨(some 3), none, .box 6 (.tmp 0)⟩, ⟨(some 6), none, .alloc [(.int .i64 0), (.bool false), (.int .i64 0), .nils, (.int .i64 0), (.int .i64 0)]⟩] false [6, 3, 2, 1]) (.seq (.ops [⟨(some 7), none, .mov (.tmp 1)⟩, ⟨(some 8), none, .fieldA 0 (.tmp 3)⟩, ⟨none, none, .store 1 (.tmp 8) (.tmp 7)⟩] false [6, 3, 2]) (.seq (.ops [⟨(some 9), none, .fieldA 4 (.tmp 3)⟩, ⟨(some 10), none, .load 1 false (.tmp 9)⟩, ⟨(some 11), none, .mov (.tmp 2)⟩, ⟨(some 12), none, .bin .add (.tmp 10) (.tmp 11)⟩, ⟨(some 13), none, .call 48 [(.tmp 12)]⟩, ⟨(some 14), none, .fieldA 5 (.tmp 3)⟩, ⟨none, none, .store 1 (.tmp 14) (.tmp 13)⟩] false [6, 3]) (.seq (.ops [⟨(some 15), none, .load 6 true (.tmp 3)⟩, ⟨none, none, .store 6 (.tmp 6) (.tmp 15)⟩] false [6]) .ret)))), false, false⟩
/-- outpost/outpostref24.joined -/
def A45 : An := (.node (.ops [2, 1]) (.node (.ops [2, 1, 4]) (.node (.node (.ops [13, 2, 1, 4]) (.node (.ops [2, 1, 4]) .leaf)) (.node (.node (.ops [18, 2, 1, 4]) (.node (.ops [2, 4, 1]) .leaf)) (.node (.ops [2, 3]) .leaf)))))
def F45 : AFn := ⟨[(2, (some (6, true))), (3, none)], (.seq (.ops [⟨(some 1), none, .box 6 (.tmp 0)⟩, ⟨(some 2), none, .alloc [(.int .i64 0), (.bool false), (.int .i64 0), .nils, (.int .i64 0), (.int .i64 0)]⟩, ⟨(some 3), none, .mov (.const (.int .i64 0))⟩] false [2, 1]) (.seq (.ops [⟨(some 5), none, .fieldA 2 (.tmp 1)⟩, ⟨(some 6), none, .load 1 false (.tmp 5)⟩, ⟨(some 7), none, .fieldA 2 (.tmp 1)⟩, ⟨(some 8), none, .load 1 false (.tmp 7)⟩, ⟨(some 9), none, .bin .quo (.tmp 8) (.const (.int .i64 10))⟩, ⟨(some 10), none, .bin .sub (.tmp 6) (.tmp 9)⟩, ⟨(some 4), none, .mov (.tmp 10)⟩] false [2, 1, 4]) (.seq (.seq (.ops [⟨(some 11), none, .fieldA 2 (.tmp 1)⟩, ⟨(some 12), none, .load 1 false (.tmp 11)⟩, ⟨(some 13), none, .bin .lss (.tmp 12) (.const (.int .i64 10))⟩] false [13, 2, 1, 4]) (.cond (.tmp 13) (.ops [⟨(some 14), none, .fieldA 2 (.tmp 1)⟩, ⟨(some 15), none, .load 1 false (.tmp 14)⟩, ⟨(some 16), none, .bin .sub (.tmp 15) (.const (.int .i64 1))⟩, ⟨(some 4), none, .mov (.tmp 16)⟩] false [2, 1, 4]) .skip)) (.seq (.seq (.ops [⟨(some 17), none, .mov (.tmp 4)⟩, ⟨(some 18), none, .bin .lss (.tmp 17) (.const (.int .i64 1))⟩] false [18, 2, 1, 4]) (.cond (.tmp 18) (.ops [⟨(some 4), none, .mov (.const (.int .i64 1))⟩] false [2, 4, 1]) .skip)) (.seq (.ops [⟨(some 19), none, .load 6 true (.tmp 1)⟩, ⟨(some 20), none, .mov (.tmp 4)⟩, ⟨(some 21), none, .call 44 [(.tmp 19), (.const (.int .i64 4)), (.tmp 20)]⟩, ⟨none, none, .store 6 (.tmp 2) (.tmp 21)⟩, ⟨(some 3), none, .mov (.const (.int .i64 0))⟩] false [2, 3]) .ret))))), false, false⟩
/-- outpost/outpostref24.resting -/
def A46 : An := (.node (.ops [2, 1]) (.node (.ops [2, 1]) (.node (.ops [2, 3]) .leaf)))
def F46 : AFn := ⟨[(2, (some (6, true))), (3, none)], (.seq (.ops [⟨(some 1), none, .box 6 (.tmp 0)⟩, ⟨(some 2), none, .alloc [(.int .i64 0), (.bool false), (.int .i64 0), .nils, (.int .i64 0), (.int .i64 0)]⟩, ⟨(some 3), none, .mov (.const (.int .i64 0))⟩] false [2, 1]) (.seq (.ops [⟨(some 4), none, .fieldA 3 (.tmp 1)⟩, ⟨none, none, .store 1 (.tmp 4) (.const .nils)⟩] false [2, 1]) (.seq (.ops [⟨(some 5), none, .load 6 true (.tmp 1)⟩, ⟨(some 6), none, .call 44 [(.tmp 5), (.const (.int .i64 7)), (.const (.int .i64 60))]⟩, ⟨none, none, .store 6 (.tmp 2) (.tmp 6)⟩, ⟨(some 3), none, .mov (.const (.int .i64 0))⟩] false [2, 3]) .ret))), false, false⟩
/-- (outpost/reg.Life).joined -/
def A47 : An := (.node (.ops [0]) (.node (.ops [2]) .leaf))
def F47 : AFn := ⟨[(2, none)], (.seq (.ops [⟨(some 2), none, .mov (.const (.int .i64 0))⟩] false [0]) (.seq (.ops [⟨(some 3), none, .mov (.tmp 0)⟩, ⟨(some 4), none, .mov (.tmp 0)⟩, ⟨(some 5), none, .nilck (.tmp 4)⟩, ⟨(some 6), none, .fieldA 2 (.tmp 5)⟩, ⟨(some 7), none, .load 1 false (.tmp 6)⟩, ⟨(some 8), none, .mov (.tmp 0)⟩, ⟨(some 9), none, .nilck (.tmp 8)⟩, ⟨(some 10), none, .fieldA 2 (.tmp 9)⟩, ⟨(some 11), none, .load 1 false (.tmp 10)⟩, ⟨(some 12), none, .bin .quo (.tmp 11) (.const (.int .i64 10))⟩, ⟨(some 13), none, .minmax true [(.tmp 12), (.const (.int .i64 1))]⟩, ⟨(some 14), none, .bin .sub (.tmp 7) (.tmp 13)⟩, ⟨(some 15), none, .minmax true [(.tmp 14), (.const (.int .i64 1))]⟩, ⟨(some 16), none, .call 36 [(.tmp 3), (.const (.int .i64 4)), (.tmp 15)]⟩, ⟨(some 2), none, .mov (.tmp 16)⟩] false [2]) .ret)), false, false⟩
/-- outpost/outpostref11.Clock -/
def A48 : An := (.node (.ops [0]) (.node (.node (.ops [4, 0]) (.node (.node (.ops [2]) .leaf) .leaf)) (.node (.node (.ops [6, 0]) (.node (.node (.ops [2]) .leaf) .leaf)) (.node (.ops [2]) .leaf))))
def F48 : AFn := ⟨[(2, none)], (.seq (.ops [⟨(some 2), none, .mov (.const (.int .i64 0))⟩] false [0]) (.seq (.seq (.ops [⟨(some 3), none, .mov (.tmp 0)⟩, ⟨(some 4), none, .bin .lss (.tmp 3) (.const (.int .i64 0))⟩] false [4, 0]) (.cond (.tmp 4) (.seq (.ops [⟨(some 2), none, .mov (.const (.int .i64 0))⟩] false [2]) .ret) .skip)) (.seq (.seq (.ops [⟨(some 5), none, .mov (.tmp 0)⟩, ⟨(some 6), none, .bin .gtr (.tmp 5) (.const (.int .i64 1099511627776))⟩] false [6, 0]) (.cond (.tmp 6) (.seq (.ops [⟨(some 2), none, .mov (.const (.int .i64 1099511627776))⟩] false [2]) .ret) .skip)) (.seq (.ops [⟨(some 7), none, .mov (.tmp 0)⟩, ⟨(some 2), none, .mov (.tmp 7)⟩] false [2]) .ret)))), false, false⟩
def T : Table := fun f => match f with
  | 3 => some (.code F3)
  | 7 => some (.code F7)
  | 8 => some (.code F8)
  | 9 => some (.code F9)
  | 10 => some (.code F10)
  | 11 => some (.code F11)
  | 12 => some (.code F12)
  | 13 => some (.code F13)
  | 14 => some (.code F14)
  | 15 => some (.code F15)
  | 16 => some (.code F16)
  | 17 => some (.code F17)
  | 18 => some (.code F18)
  | 19 => some (.code F19)
  | 20 => some (.code F20)
  | 21 => some (.code F21)
  | 22 => some (.code F22)
  | 23 => some (.code F23)
  | 24 => some (.code F24)
  | 25 => some (.code F25)
  | 26 => some (.code F26)
  | 27 => some (.code F27)
  | 28 => some (.code F28)
  | 29 => some (.code F29)
  | 30 => some (.code F30)
  | 31 => some (.code F31)
  | 32 => some (.code F32)
  | 33 => some (.code F33)
  | 34 => some (.code F34)
  | 35 => some (.code F35)
  | 36 => some (.code F36)
  | 37 => some (.code F37)
  | 38 => some (.code F38)
  | 39 => some (.code F39)
  | 40 => some (.code F40)
  | 41 => some (.code F41)
  | 42 => some (.code F42)
  | 43 => some (.code F43)
  | 44 => some (.code F44)
  | 45 => some (.code F45)
  | 46 => some (.code F46)
  | 47 => some (.code F47)
  | 48 => some (.code F48)
  | _ => none
theorem T_3 : T 3 = some (.code F3) := rfl
theorem T_7 : T 7 = some (.code F7) := rfl
theorem T_8 : T 8 = some (.code F8) := rfl
theorem T_9 : T 9 = some (.code F9) := rfl
theorem T_10 : T 10 = some (.code F10) := rfl
theorem T_11 : T 11 = some (.code F11) := rfl
theorem T_12 : T 12 = some (.code F12) := rfl
theorem T_13 : T 13 = some (.code F13) := rfl
theorem T_14 : T 14 = some (.code F14) := rfl
theorem T_15 : T 15 = some (.code F15) := rfl
theorem T_16 : T 16 = some (.code F16) := rfl
theorem T_17 : T 17 = some (.code F17) := rfl
theorem T_18 : T 18 = some (.code F18) := rfl
theorem T_19 : T 19 = some (.code F19) := rfl
theorem T_20 : T 20 = some (.code F20) := rfl
theorem T_21 : T 21 = some (.code F21) := rfl
theorem T_22 : T 22 = some (.code F22) := rfl
theorem T_23 : T 23 = some (.code F23) := rfl
theorem T_24 : T 24 = some (.code F24) := rfl
theorem T_25 : T 25 = some (.code F25) := rfl
theorem T_26 : T 26 = some (.code F26) := rfl
theorem T_27 : T 27 = some (.code F27) := rfl
theorem T_28 : T 28 = some (.code F28) := rfl
theorem T_29 : T 29 = some (.code F29) := rfl
theorem T_30 : T 30 = some (.code F30) := rfl
theorem T_31 : T 31 = some (.code F31) := rfl
theorem T_32 : T 32 = some (.code F32) := rfl
theorem T_33 : T 33 = some (.code F33) := rfl
theorem T_34 : T 34 = some (.code F34) := rfl
theorem T_35 : T 35 = some (.code F35) := rfl
theorem T_36 : T 36 = some (.code F36) := rfl
theorem T_37 : T 37 = some (.code F37) := rfl
theorem T_38 : T 38 = some (.code F38) := rfl
theorem T_39 : T 39 = some (.code F39) := rfl
theorem T_40 : T 40 = some (.code F40) := rfl
theorem T_41 : T 41 = some (.code F41) := rfl
theorem T_42 : T 42 = some (.code F42) := rfl
theorem T_43 : T 43 = some (.code F43) := rfl
theorem T_44 : T 44 = some (.code F44) := rfl
theorem T_45 : T 45 = some (.code F45) := rfl
theorem T_46 : T 46 = some (.code F46) := rfl
theorem T_47 : T 47 = some (.code F47) := rfl
theorem T_48 : T 48 = some (.code F48) := rfl
end Go.Am.Ytlmfmjmpfcaliaa
namespace Go.Am.Ytlmfmjmpfcaliaa
set_option maxRecDepth 100000
set_option linter.unusedVariables false
noncomputable def P3_0 (base n0 : Nat) (v23 v3 v4 v21 v22 : PV) (h : Hp) : Option (PV × Hp) := Pt T F3 [1, 1, 1, 1, 0, 1, 0, 1] base n0 [(23, v23), (3, v3), (4, v4), (21, v21), (22, v22)] h
theorem P3_0_eq (base n0 : Nat) (v23 v3 v4 v21 v22 : PV) (h : Hp) : P3_0 base n0 v23 v3 v4 v21 v22 h =
 (binOp .lss v23 v22).bnd fun x0 =>
 condB x0 (
 (idxAB v21 v23 6).bnd fun x1 =>
 (loadV 6 true x1 h).bnd fun x2 =>
 allocK [(.int .i64 0), (.int .i64 0), (.bool false), (.int .i64 0), (.int .i64 0), .nils] h fun x3 h4 =>
 (storeV base 6 x3 x2 h4).bnd fun h5 =>
 (loadV 6 true v4 h5).bnd fun x7 =>
 (loadV 6 true x3 h5).bnd fun x8 =>
 bnd2 (CallA T base 11 [v3, x7, x8] h5) fun x9 h10 =>
 (extractB x9 0).bnd fun x12 =>
 (extractB x9 1).bnd fun x13 =>
 allocK [(.int .i64 0), (.bool false), (.int .i64 0), .nils, (.int .i64 0), (.int .i64 0)] h10 fun x14 h15 =>
 (storeV base 6 x14 x12 h15).bnd fun h16 =>
 (loadV 6 true x14 h16).bnd fun x18 =>
 (storeV base 6 v4 x18 h16).bnd fun h19 =>
 bnd2 (CallA T base 12 [v3] h19) fun x21 h22 =>
 (extractB x21 0).bnd fun x24 =>
 (extractB x21 1).bnd fun x25 =>
 (loadV 6 true v4 h22).bnd fun x28 =>
 bnd2 (CallA T base 13 [x28] h22) fun x29 h30 =>
 (extractB x29 0).bnd fun x32 =>
 (extractB x29 1).bnd fun x33 =>
 (unOp .not x13).bnd fun x37 =>
 (wantB x37 false).bnd fun b40 => (whenB b40 (some v3) (some .undef)).bnd fun x39 =>
 (wantB x37 false).bnd fun b44 => bnd2 (whenB b44 (bnd2 (CallA T base 14 [x39] h30) fun x46 h45 => chkK h30 h45 <| some (x46, h30)) (some (.undef, h30))) fun x43 h45 =>
 (wantB x37 false).bnd fun b48 => (whenB b48 ((fieldAB v4 0).bnd some) (some .undef)).bnd fun x47 =>
 (wantB x37 false).bnd fun b52 => (whenB b52 ((loadV 1 false x47 h45).bnd some) (some .undef)).bnd fun x51 =>
 (wantB x37 false).bnd fun b56 => (whenB b56 ((binOp .neq x43 x51).bnd some) (some .undef)).bnd fun x55 =>
 (condB x37 (some (.bool true)) (some x55)).bnd fun x59 =>
 (wantB x59 false).bnd fun b62 => (whenB b62 (some v3) (some .undef)).bnd fun x61 =>
 (wantB x59 false).bnd fun b66 => bnd2 (whenB b66 (bnd2 (CallA T base 16 [x61] h45) fun x68 h67 => chkK h45 h67 <| some (x68, h45)) (some (.undef, h45))) fun x65 h67 =>
 (wantB x59 false).bnd fun b70 => (whenB b70 ((fieldAB v4 3).bnd some) (some .undef)).bnd fun x69 =>
 (wantB x59 false).bnd fun b74 => (whenB b74 ((loadV 1 false x69 h67).bnd some) (some .undef)).bnd fun x73 =>
 (wantB x59 false).bnd fun b78 => bnd2 (whenB b78 (bnd2 (CallA T base 15 [x65, x73] h67) fun x80 h79 => some (x80, h79)) (some (.undef, h67))) fun x77 h79 =>
 (wantB x59 false).bnd fun b82 => (whenB b82 ((unOp .not x77).bnd some) (some .undef)).bnd fun x81 =>
 (condB x59 (some (.bool true)) (some x81)).bnd fun x85 =>
 (wantB x85 false).bnd fun b88 => (whenB b88 (some x24) (some .undef)).bnd fun x87 =>
 (wantB x85 false).bnd fun b92 => (whenB b92 (some x32) (some .undef)).bnd fun x91 =>
 (wantB x85 false).bnd fun b96 => (whenB b96 ((binOp .neq x87 x91).bnd some) (some .undef)).bnd fun x95 =>
 (condB x85 (some (.bool true)) (some x95)).bnd fun x99 =>
 (wantB x99 false).bnd fun b102 => (whenB b102 (some x25) (some .undef)).bnd fun x101 =>
 (wantB x99 false).bnd fun b106 => (whenB b106 (some x33) (some .undef)).bnd fun x105 =>
 (wantB x99 false).bnd fun b110 => (whenB b110 ((boolB true x101 x105).bnd some) (some .undef)).bnd fun x109 =>
 (condB x99 (some (.bool true)) (some x109)).bnd fun x113 =>
 condB x113 (
 finV false false n0 [(.bool false)] h79) (
 bnd2 (CallA T base 14 [v3] h79) fun x116 h117 =>
 bnd2 (CallA T base 16 [v3] h117) fun x120 h121 =>
 (lenB false x120).bnd fun x122 =>
 (binOp .gtr x122 (.int .i64 0)).bnd fun x123 =>
 (binOp .eql x116 (.int .i64 4)).bnd fun x125 =>
 (wantB x125 false).bnd fun b128 => (whenB b128 (some x116) (some .undef)).bnd fun x127 =>
 (wantB x125 false).bnd fun b132 => (whenB b132 ((binOp .eql x127 (.int .i64 5)).bnd some) (some .undef)).bnd fun x131 =>
 (condB x125 (some (.bool true)) (some x131)).bnd fun x135 =>
 (wantB x135 false).bnd fun b138 => (whenB b138 (some x116) (some .undef)).bnd fun x137 =>
 (wantB x135 false).bnd fun b142 => (whenB b142 ((binOp .eql x137 (.int .i64 6)).bnd some) (some .undef)).bnd fun x141 =>
 (condB x135 (some (.bool true)) (some x141)).bnd fun x145 =>
 (boolB true x123 x145).bnd fun x146 =>
 condB x146 (
 finV false false n0 [(.bool false)] h121) (
 (binOp .add v23 (.int .i64 1)).bnd fun x148 =>
 P3_0 base n0 x148 v3 v4 v21 v22 h121))) (
 finV false false n0 [(.bool true)] h) := (Pt_eq T F3 [1, 1, 1, 1, 0, 1, 0, 1] base n0 [(23, v23), (3, v3), (4, v4), (21, v21), (22, v22)] h).trans (by kernel_rfl)
theorem S3 (base : Nat) (a0 : PV) (h : Hp) : CallA T base 3 [a0] h =
 bnd2 (CallA T (size h) 7 [] h) fun x1 h2 =>
 (unOp .not x1).bnd fun x3 =>
 condB x3 (
 finV false false (size h) [(.bool false)] h2) (
 bnd2 (CallA T (size h) 8 [a0] h2) fun x6 h7 =>
 (unOp .not x6).bnd fun x8 =>
 condB x8 (
 finV false false (size h) [(.bool true)] h7) (
 bnd2 (CallA T (size h) 9 [] h7) fun x10 h11 =>
 bnd2 (CallA T (size h) 10 [] h11) fun x12 h13 =>
 allocK [(.int .i64 0), (.bool false), (.int .i64 0), .nils, (.int .i64 0), (.int .i64 0)] h13 fun x14 h15 =>
 (storeV (size h) 6 x14 x12 h15).bnd fun h17 =>
 (lenB false a0).bnd fun x19 =>
 P3_0 (size h) (size h) (.int .i64 0) x10 x14 a0 x19 h17)) := (Pt_enter T_3 base _ h).trans (by kernel_rfl)
noncomputable def P8_0 (base n0 : Nat) (v9 v7 v0 v8 : PV) (h : Hp) : Option (PV × Hp) := Pt T F8 [1, 0, 1, 0, 1] base n0 [(9, v9), (7, v7), (0, v0), (8, v8)] h
noncomputable def P8_1 (base n0 : Nat) (v20 v18 v7 v0 v8 v9 v19 : PV) (h : Hp) : Option (PV × Hp) := Pt T F8 [1, 0, 1, 0, 1, 0, 0, 1, 1, 0, 0, 1, 1, 1, 0, 1] base n0 [(20, v20), (18, v18), (7, v7), (0, v0), (8, v8), (9, v9), (19, v19)] h
theorem P8_0_eq (base n0 : Nat) (v9 v7 v0 v8 : PV) (h : Hp) : P8_0 base n0 v9 v7 v0 v8 h =
 (binOp .lss v9 v8).bnd fun x0 =>
 condB x0 (
 (idxAB v7 v9 6).bnd fun x1 =>
 (loadV 6 true x1 h).bnd fun x2 =>
 allocK [(.int .i64 0), (.int .i64 0), (.bool false), (.int .i64 0), (.int .i64 0), .nils] h fun x3 h4 =>
 (storeV base 6 x3 x2 h4).bnd fun h5 =>
 (fieldAB x3 5).bnd fun x6 =>
 (loadV 1 false x6 h5).bnd fun x7 =>
 (lenB false x7).bnd fun x8 =>
 (binOp .gtr x8 (.int .i64 20)).bnd fun x9 =>
 condB x9 (
 finV false false n0 [(.bool false)] h5) (
 (fieldAB x3 5).bnd fun x11 =>
 (loadV 1 false x11 h5).bnd fun x12 =>
 (lenB false x12).bnd fun x13 =>
 P8_1 base n0 (.int .i64 0) x12 v7 v0 v8 v9 x13 h5)) (
 (lenB false v0).bnd fun x16 =>
 (binOp .leq x16 (.int .i64 60)).bnd fun x17 =>
 finV false false n0 [x17] h) := (Pt_eq T F8 [1, 0, 1, 0, 1] base n0 [(9, v9), (7, v7), (0, v0), (8, v8)] h).trans (by kernel_rfl)
theorem P8_1_eq (base n0 : Nat) (v20 v18 v7 v0 v8 v9 v19 : PV) (h : Hp) : P8_1 base n0 v20 v18 v7 v0 v8 v9 v19 h =
 (binOp .lss v20 v19).bnd fun x0 =>
 condB x0 (
 (idxAB v18 v20 1).bnd fun x1 =>
 (loadV 1 false x1 h).bnd fun x2 =>
 (lenB true x2).bnd fun x5 =>
 (binOp .gtr x5 (.int .i64 100)).bnd fun x6 =>
 condB x6 (
 finV false false n0 [(.bool false)] h) (
 (binOp .add v20 (.int .i64 1)).bnd fun x8 =>
 P8_1 base n0 x8 v18 v7 v0 v8 v9 v19 h)) (
 (binOp .add v9 (.int .i64 1)).bnd fun x10 =>
 P8_0 base n0 x10 v7 v0 v8 h) := (Pt_eq T F8 [1, 0, 1, 0, 1, 0, 0, 1, 1, 0, 0, 1, 1, 1, 0, 1] base n0 [(20, v20), (18, v18), (7, v7), (0, v0), (8, v8), (9, v9), (19, v19)] h).trans (by kernel_rfl)
theorem S8 (base : Nat) (a0 : PV) (h : Hp) : CallA T base 8 [a0] h =
 (lenB false a0).bnd fun x2 =>
 P8_0 (size h) (size h) (.int .i64 0) a0 a0 x2 h := (Pt_enter T_8 base _ h).trans (by kernel_rfl)
theorem S9 (base : Nat) (h : Hp) : CallA T base 9 [] h =
 (buildV [(.int .i64 0), (.bool false), (.int .i64 0), .nils, (.int .i64 0), (.int .i64 0)] [(2, 1, (.int .i64 1))]).bnd fun x1 =>
 bnd2 (boxV 6 x1 h) fun x2 h3 =>
 finV true false (size h) [x2] h3 := (Pt_enterK T_9 base _ h).trans (by kernel_rfl)
theorem S10 (base : Nat) (h : Hp) : CallA T base 10 [] h =
 allocK [(.int .i64 0), (.bool false), (.int .i64 0), .nils, (.int .i64 0), (.int .i64 0)] h fun x0 h1 =>
 (buildV [(.int .i64 0), (.bool false), (.int .i64 0), .nils, (.int .i64 0), (.int .i64 0)] [(2, 1, (.int .i64 1))]).bnd fun x2 =>
 (storeV (size h) 6 x0 x2 h1).bnd fun h3 =>
 (resB x0 h3 6 true).bnd fun r4 =>
 finV false false (size h) [r4] h3 := (Pt_enter T_10 base _ h).trans (by kernel_rfl)
noncomputable def P11_0 (base n0 : Nat) (v6 v9 v8 v4 : PV) (h : Hp) : Option (PV × Hp) := Pt T F11 [1, 1, 1, 1] base n0 [(6, v6), (9, v9), (8, v8), (4, v4)] h
noncomputable def P11_1 (base n0 : Nat) (v33 v6 v4 v5 v0 v9 v8 v11 : PV) (h : Hp) : Option (PV × Hp) := Pt T F11 [1, 1, 0, 1, 0, 1, 1, 1, 1] base n0 [(33, v33), (6, v6), (4, v4), (5, v5), (0, v0), (9, v9), (8, v8), (11, v11)] h
noncomputable def P11_2 (base n0 : Nat) (v85 v6 v4 v5 v0 v9 v8 v11 : PV) (h : Hp) : Option (PV × Hp) := Pt T F11 [1, 1, 0, 1, 0, 1, 1, 1, 1, 1, 1, 1, 1, 1, 1, 1] base n0 [(85, v85), (6, v6), (4, v4), (5, v5), (0, v0), (9, v9), (8, v8), (11, v11)] h
theorem P11_0_eq (base n0 : Nat) (v6 v9 v8 v4 : PV) (h : Hp) : P11_0 base n0 v6 v9 v8 v4 h =
 (loadV 6 true v4 h).bnd fun x0 =>
 (binOp .eql v8 v9).bnd fun x3 =>
 (storeV base 6 v6 x0 h).bnd fun h4 =>
 (resB v6 h4 6 true).bnd fun r6 =>
 finV false false n0 [r6, x3] h4 := (Pt_eq T F11 [1, 1, 1, 1] base n0 [(6, v6), (9, v9), (8, v8), (4, v4)] h).trans (by kernel_rfl)
theorem P11_1_eq (base n0 : Nat) (v33 v6 v4 v5 v0 v9 v8 v11 : PV) (h : Hp) : P11_1 base n0 v33 v6 v4 v5 v0 v9 v8 v11 h =
 condB v33 (
 (fieldAB v5 1).bnd fun x1 =>
 (loadV 1 false x1 h).bnd fun x2 =>
 (fieldAB v5 5).bnd fun x3 =>
 (loadV 1 false x3 h).bnd fun x4 =>
 (fieldAB v5 4).bnd fun x5 =>
 (loadV 1 false x5 h).bnd fun x6 =>
 bnd2 (CallA T base 18 [v0, x2, x4, x6] h) fun x7 h8 =>
 (loadV 6 true v4 h8).bnd fun x10 =>
 (fieldAB v5 1).bnd fun x11 =>
 (loadV 1 false x11 h8).bnd fun x12 =>
 (fieldAB v5 5).bnd fun x13 =>
 (loadV 1 false x13 h8).bnd fun x14 =>
 (fieldAB v5 4).bnd fun x15 =>
 (loadV 1 false x15 h8).bnd fun x16 =>
 bnd2 (CallA T base 25 [x10, x12, x14, x16] h8) fun x17 h18 =>
 (extractB x17 0).bnd fun x20 =>
 (extractB x17 1).bnd fun x21 =>
 (storeV base 6 v4 x20 h18).bnd fun h22 =>
 P11_0 base n0 v6 x21 x7 v4 h22) (
 (binOp .eql v11 (.int .i64 3)).bnd fun x24 =>
 condB x24 (
 (fieldAB v5 4).bnd fun x27 =>
 (loadV 1 false x27 h).bnd fun x28 =>
 bnd2 (CallA T base 20 [v0, x28] h) fun x29 h30 =>
 (loadV 6 true v4 h30).bnd fun x32 =>
 (fieldAB v5 4).bnd fun x33 =>
 (loadV 1 false x33 h30).bnd fun x34 =>
 bnd2 (CallA T base 26 [x32, x34] h30) fun x35 h36 =>
 (extractB x35 0).bnd fun x38 =>
 (extractB x35 1).bnd fun x39 =>
 (storeV base 6 v4 x38 h36).bnd fun h40 =>
 P11_0 base n0 v6 x39 x29 v4 h40) (
 (binOp .eql v11 (.int .i64 4)).bnd fun x42 =>
 condB x42 (
 (fieldAB v5 2).bnd fun x45 =>
 (loadV 1 false x45 h).bnd fun x46 =>
 (fieldAB v5 4).bnd fun x47 =>
 (loadV 1 false x47 h).bnd fun x48 =>
 bnd2 (CallA T base 21 [v0, x46, x48] h) fun x49 h50 =>
 (loadV 6 true v4 h50).bnd fun x52 =>
 (fieldAB v5 2).bnd fun x53 =>
 (loadV 1 false x53 h50).bnd fun x54 =>
 (fieldAB v5 4).bnd fun x55 =>
 (loadV 1 false x55 h50).bnd fun x56 =>
 bnd2 (CallA T base 27 [x52, x54, x56] h50) fun x57 h58 =>
 (extractB x57 0).bnd fun x60 =>
 (extractB x57 1).bnd fun x61 =>
 (storeV base 6 v4 x60 h58).bnd fun h62 =>
 P11_0 base n0 v6 x61 x49 v4 h62) (
 (binOp .eql v11 (.int .i64 5)).bnd fun x64 =>
 condB x64 (
 P11_2 base n0 x64 v6 v4 v5 v0 v9 v8 v11 h) (
 (binOp .eql v11 (.int .i64 6)).bnd fun x66 =>
 P11_2 base n0 x66 v6 v4 v5 v0 v9 v8 v11 h)))) := (Pt_eq T F11 [1, 1, 0, 1, 0, 1, 1, 1, 1] base n0 [(33, v33), (6, v6), (4, v4), (5, v5), (0, v0), (9, v9), (8, v8), (11, v11)] h).trans (by kernel_rfl)
theorem P11_2_eq (base n0 : Nat) (v85 v6 v4 v5 v0 v9 v8 v11 : PV) (h : Hp) : P11_2 base n0 v85 v6 v4 v5 v0 v9 v8 v11 h =
 condB v85 (
 (fieldAB v5 4).bnd fun x1 =>
 (loadV 1 false x1 h).bnd fun x2 =>
 bnd2 (CallA T base 19 [v0, x2] h) fun x3 h4 =>
 (loadV 6 true v4 h4).bnd fun x6 =>
 (fieldAB v5 4).bnd fun x7 =>
 (loadV 1 false x7 h4).bnd fun x8 =>
 bnd2 (CallA T base 28 [x6, x8] h4) fun x9 h10 =>
 (extractB x9 0).bnd fun x12 =>
 (extractB x9 1).bnd fun x13 =>
 (storeV base 6 v4 x12 h10).bnd fun h14 =>
 P11_0 base n0 v6 x13 x3 v4 h14) (
 (binOp .eql v11 (.int .i64 7)).bnd fun x16 =>
 condB x16 (
 (fieldAB v5 3).bnd fun x19 =>
 (loadV 1 false x19 h).bnd fun x20 =>
 (fieldAB v5 4).bnd fun x21 =>
 (loadV 1 false x21 h).bnd fun x22 =>
 bnd2 (CallA T base 22 [v0, x20, x22] h) fun x23 h24 =>
 (loadV 6 true v4 h24).bnd fun x26 =>
 (fieldAB v5 3).bnd fun x27 =>
 (loadV 1 false x27 h24).bnd fun x28 =>
 (fieldAB v5 4).bnd fun x29 =>
 (loadV 1 false x29 h24).bnd fun x30 =>
 bnd2 (CallA T base 29 [x26, x28, x30] h24) fun x31 h32 =>
 (extractB x31 0).bnd fun x34 =>
 (extractB x31 1).bnd fun x35 =>
 (storeV base 6 v4 x34 h32).bnd fun h36 =>
 P11_0 base n0 v6 x35 x23 v4 h36) (
 (binOp .eql v11 (.int .i64 8)).bnd fun x38 =>
 condB x38 (
 (fieldAB v5 4).bnd fun x41 =>
 (loadV 1 false x41 h).bnd fun x42 =>
 bnd2 (CallA T base 23 [v0, x42] h) fun x43 h44 =>
 (loadV 6 true v4 h44).bnd fun x46 =>
 (fieldAB v5 4).bnd fun x47 =>
 (loadV 1 false x47 h44).bnd fun x48 =>
 bnd2 (CallA T base 30 [x46, x48] h44) fun x49 h50 =>
 (extractB x49 0).bnd fun x52 =>
 (extractB x49 1).bnd fun x53 =>
 (storeV base 6 v4 x52 h50).bnd fun h54 =>
 P11_0 base n0 v6 x53 x43 v4 h54) (
 P11_0 base n0 v6 v9 v8 v4 h))) := (Pt_eq T F11 [1, 1, 0, 1, 0, 1, 1, 1, 1, 1, 1, 1, 1, 1, 1, 1] base n0 [(85, v85), (6, v6), (4, v4), (5, v5), (0, v0), (9, v9), (8, v8), (11, v11)] h).trans (by kernel_rfl)
theorem S11 (base : Nat) (a0 a1 a2 : PV) (h : Hp) : CallA T base 11 [a0, a1, a2] h =
 bnd2 (boxV 6 a1 h) fun x0 h1 =>
 bnd2 (boxV 6 a2 h1) fun x2 h3 =>
 allocK [(.int .i64 0), (.bool false), (.int .i64 0), .nils, (.int .i64 0), (.int .i64 0)] h3 fun x4 h5 =>
 (fieldAB x2 0).bnd fun x9 =>
 (loadV 1 false x9 h5).bnd fun x10 =>
 (binOp .eql x10 (.int .i64 0)).bnd fun x11 =>
 condB x11 (
 (fieldAB x2 2).bnd fun x14 =>
 (loadV 1 false x14 h5).bnd fun x15 =>
 (fieldAB x2 3).bnd fun x16 =>
 (loadV 1 false x16 h5).bnd fun x17 =>
 (fieldAB x2 4).bnd fun x18 =>
 (loadV 1 false x18 h5).bnd fun x19 =>
 bnd2 (CallA T (size h) 17 [a0, x15, x17, x19] h5) fun x20 h21 =>
 (loadV 6 true x0 h21).bnd fun x23 =>
 (fieldAB x2 2).bnd fun x24 =>
 (loadV 1 false x24 h21).bnd fun x25 =>
 (fieldAB x2 3).bnd fun x26 =>
 (loadV 1 false x26 h21).bnd fun x27 =>
 (fieldAB x2 4).bnd fun x28 =>
 (loadV 1 false x28 h21).bnd fun x29 =>
 bnd2 (CallA T (size h) 24 [x23, x25, x27, x29] h21) fun x30 h31 =>
 (extractB x30 0).bnd fun x33 =>
 (extractB x30 1).bnd fun x34 =>
 (storeV (size h) 6 x0 x33 h31).bnd fun h35 =>
 P11_0 (size h) (size h) x4 x34 x20 x0 h35) (
 (binOp .eql x10 (.int .i64 1)).bnd fun x37 =>
 condB x37 (
 P11_1 (size h) (size h) x37 x4 x0 x2 a0 (.int .i64 0) (.int .i64 0) x10 h5) (
 (binOp .eql x10 (.int .i64 2)).bnd fun x39 =>
 P11_1 (size h) (size h) x39 x4 x0 x2 a0 (.int .i64 0) (.int .i64 0) x10 h5)) := (Pt_enter T_11 base _ h).trans (by kernel_rfl)
theorem S12 (base : Nat) (a0 : PV) (h : Hp) : CallA T base 12 [a0] h =
 bnd2 (CallA T (size h) 31 [a0] h) fun x3 h4 =>
 (unOp .not x3).bnd fun x5 =>
 condB x5 (
 finV false false (size h) [(.int .i64 0), (.bool false)] h4) (
 (nilckV a0).bnd fun x9 =>
 (fieldAB x9 5).bnd fun x10 =>
 (loadV 1 false x10 h4).bnd fun x11 =>
 finV false false (size h) [x11, (.bool true)] h4) := (Pt_enter T_12 base _ h).trans (by kernel_rfl)
theorem S13 (base : Nat) (a0 : PV) (h : Hp) : CallA T base 13 [a0] h =
 bnd2 (boxV 6 a0 h) fun x0 h1 =>
 (fieldAB x0 0).bnd fun x4 =>
 (loadV 1 false x4 h1).bnd fun x5 =>
 (binOp .eql x5 (.int .i64 2)).bnd fun x6 =>
 (wantB x6 false).bnd fun b9 => (whenB b9 ((fieldAB x0 0).bnd some) (some .undef)).bnd fun x8 =>
 (wantB x6 false).bnd fun b13 => (whenB b13 ((loadV 1 false x8 h1).bnd some) (some .undef)).bnd fun x12 =>
 (wantB x6 false).bnd fun b17 => (whenB b17 ((binOp .eql x12 (.int .i64 4)).bnd some) (some .undef)).bnd fun x16 =>
 (condB x6 (some (.bool true)) (some x16)).bnd fun x20 =>
 (wantB x20 false).bnd fun b23 => (whenB b23 ((fieldAB x0 0).bnd some) (some .undef)).bnd fun x22 =>
 (wantB x20 false).bnd fun b27 => (whenB b27 ((loadV 1 false x22 h1).bnd some) (some .undef)).bnd fun x26 =>
 (wantB x20 false).bnd fun b31 => (whenB b31 ((binOp .eql x26 (.int .i64 7)).bnd some) (some .undef)).bnd fun x30 =>
 (condB x20 (some (.bool true)) (some x30)).bnd fun x34 =>
 condB x34 (
 (fieldAB x0 5).bnd fun x35 =>
 (loadV 1 false x35 h1).bnd fun x36 =>
 finV false false (size h) [x36, (.bool true)] h1) (
 finV false false (size h) [(.int .i64 0), (.bool false)] h1) := (Pt_enter T_13 base _ h).trans (by kernel_rfl)
theorem S14 (base : Nat) (a0 : PV) (h : Hp) : CallA T base 14 [a0] h =
 (nilckV a0).bnd fun x2 =>
 (fieldAB x2 0).bnd fun x3 =>
 (loadV 1 false x3 h).bnd fun x4 =>
 finV false false (size h) [x4] h := (Pt_enter T_14 base _ h).trans (by kernel_rfl)
noncomputable def P15_0 (base n0 : Nat) (v5 v1 v0 : PV) (h : Hp) : Option (PV × Hp) := Pt T F15 [1, 1, 0, 1, 0, 1] base n0 [(5, v5), (1, v1), (0, v0)] h
theorem P15_0_eq (base n0 : Nat) (v5 v1 v0 : PV) (h : Hp) : P15_0 base n0 v5 v1 v0 h =
 (lenB false v0).bnd fun x2 =>
 (binOp .lss v5 x2).bnd fun x3 =>
 condB x3 (
 (idxAB v0 v5 1).bnd fun x6 =>
 (loadV 1 false x6 h).bnd fun x7 =>
 (idxAB v1 v5 1).bnd fun x10 =>
 (loadV 1 false x10 h).bnd fun x11 =>
 (binOp .neq x7 x11).bnd fun x12 =>
 condB x12 (
 finV false false n0 [(.bool false)] h) (
 (binOp .add v5 (.int .i64 1)).bnd fun x15 =>
 P15_0 base n0 x15 v1 v0 h)) (
 finV false false n0 [(.bool true)] h) := (Pt_eq T F15 [1, 1, 0, 1, 0, 1] base n0 [(5, v5), (1, v1), (0, v0)] h).trans (by kernel_rfl)
theorem S15 (base : Nat) (a0 a1 : PV) (h : Hp) : CallA T base 15 [a0, a1] h =
 (lenB false a0).bnd fun x2 =>
 (lenB false a1).bnd fun x4 =>
 (binOp .neq x2 x4).bnd fun x5 =>
 condB x5 (
 finV false false (size h) [(.bool false)] h) (
 P15_0 (size h) (size h) (.int .i64 0) a1 a0 h) := (Pt_enter T_15 base _ h).trans (by kernel_rfl)
theorem S16 (base : Nat) (a0 : PV) (h : Hp) : CallA T base 16 [a0] h =
 (nilckV a0).bnd fun x2 =>
 (fieldAB x2 3).bnd fun x3 =>
 (loadV 1 false x3 h).bnd fun x4 =>
 bnd2 (CallA T (size h) 32 [x4] h) fun x5 h6 =>
 finV false false (size h) [x5] h6 := (Pt_enter T_16 base _ h).trans (by kernel_rfl)
theorem S17 (base : Nat) (a0 a1 a2 a3 : PV) (h : Hp) : CallA T base 17 [a0, a1, a2, a3] h =
 bnd2 (CallA T (size h) 33 [a0, a3] h) fun x3 h4 =>
 bnd2 (CallA T (size h) 34 [a2] h4) fun x9 h10 =>
 (nilckV a0).bnd fun x11 =>
 (fieldAB x11 1).bnd fun x12 =>
 (storeV (size h) 1 x12 a1 h10).bnd fun h13 =>
 (nilckV a0).bnd fun x14 =>
 (fieldAB x14 2).bnd fun x15 =>
 (storeV (size h) 1 x15 x9 h13).bnd fun h16 =>
 bnd2 (CallA T (size h) 35 [a0] h16) fun x18 h19 =>
 finV false false (size h) [x18] h19 := (Pt_enter T_17 base _ h).trans (by kernel_rfl)
theorem S18 (base : Nat) (a0 a1 a2 a3 : PV) (h : Hp) : CallA T base 18 [a0, a1, a2, a3] h =
 bnd2 (CallA T (size h) 33 [a0, a3] h) fun x3 h4 =>
 (nilckV a0).bnd fun x6 =>
 (fieldAB x6 0).bnd fun x7 =>
 (loadV 1 false x7 h4).bnd fun x8 =>
 (binOp .eql x8 (.int .i64 1)).bnd fun x9 =>
 condB x9 (
 (binOp .eql a1 (.int .i64 68)).bnd fun x12 =>
 condB x12 (
 bnd2 (CallA T (size h) 36 [a0, (.int .i64 2), (.int .i64 1000)] h4) fun x14 h15 =>
 finV false false (size h) [x14] h15) (
 bnd2 (CallA T (size h) 37 [a0] h4) fun x18 h19 =>
 finV false false (size h) [x18] h19)) (
 (binOp .eql x8 (.int .i64 3)).bnd fun x21 =>
 condB x21 (
 bnd2 (CallA T (size h) 38 [a0, a1, a2] h4) fun x26 h27 =>
 finV false false (size h) [x26] h27) (
 (binOp .eql x8 (.int .i64 5)).bnd fun x29 =>
 condB x29 (
 bnd2 (CallA T (size h) 39 [a0, a1] h4) fun x33 h34 =>
 finV false false (size h) [x33] h34) (
 (binOp .eql x8 (.int .i64 6)).bnd fun x36 =>
 condB x36 (
 bnd2 (CallA T (size h) 40 [a0] h4) fun x39 h40 =>
 finV false false (size h) [x39] h40) (
 finV false false (size h) [(.int .i64 0)] h4)))) := (Pt_enter T_18 base _ h).trans (by kernel_rfl)
theorem S19 (base : Nat) (a0 a1 : PV) (h : Hp) : CallA T base 19 [a0, a1] h =
 bnd2 (CallA T (size h) 33 [a0, a1] h) fun x3 h4 =>
 bnd2 (CallA T (size h) 31 [a0] h4) fun x6 h7 =>
 (unOp .not x6).bnd fun x8 =>
 (wantB x8 false).bnd fun b11 => (whenB b11 (some a0) (some .undef)).bnd fun x10 =>
 (wantB x8 false).bnd fun b15 => (whenB b15 ((nilckV x10).bnd some) (some .undef)).bnd fun x14 =>
 (wantB x8 false).bnd fun b19 => (whenB b19 ((fieldAB x14 5).bnd some) (some .undef)).bnd fun x18 =>
 (wantB x8 false).bnd fun b23 => (whenB b23 ((loadV 1 false x18 h7).bnd some) (some .undef)).bnd fun x22 =>
 (wantB x8 false).bnd fun b27 => (whenB b27 (some a0) (some .undef)).bnd fun x26 =>
 (wantB x8 false).bnd fun b31 => (whenB b31 ((nilckV x26).bnd some) (some .undef)).bnd fun x30 =>
 (wantB x8 false).bnd fun b35 => (whenB b35 ((fieldAB x30 4).bnd some) (some .undef)).bnd fun x34 =>
 (wantB x8 false).bnd fun b39 => (whenB b39 ((loadV 1 false x34 h7).bnd some) (some .undef)).bnd fun x38 =>
 (wantB x8 false).bnd fun b43 => (whenB b43 ((binOp .gtr x22 x38).bnd some) (some .undef)).bnd fun x42 =>
 (condB x8 (some (.bool true)) (some x42)).bnd fun x46 =>
 condB x46 (
 finV false false (size h) [(.int .i64 0)] h7) (
 (nilckV a0).bnd fun x49 =>
 (fieldAB x49 0).bnd fun x50 =>
 (loadV 1 false x50 h7).bnd fun x51 =>
 (binOp .eql x51 (.int .i64 2)).bnd fun x52 =>
 condB x52 (
 bnd2 (CallA T (size h) 37 [a0] h7) fun x55 h56 =>
 finV false false (size h) [x55] h56) (
 (binOp .eql x51 (.int .i64 4)).bnd fun x58 =>
 condB x58 (
 (nilckV a0).bnd fun x61 =>
 (fieldAB x61 0).bnd fun x62 =>
 (storeV (size h) 1 x62 (.int .i64 5) h7).bnd fun h63 =>
 finV false false (size h) [(.int .i64 3)] h63) (
 bnd2 (CallA T (size h) 35 [a0] h7) fun x66 h67 =>
 finV false false (size h) [x66] h67))) := (Pt_enter T_19 base _ h).trans (by kernel_rfl)
theorem S20 (base : Nat) (a0 a1 : PV) (h : Hp) : CallA T base 20 [a0, a1] h =
 bnd2 (CallA T (size h) 33 [a0, a1] h) fun x3 h4 =>
 (nilckV a0).bnd fun x6 =>
 (fieldAB x6 0).bnd fun x7 =>
 (loadV 1 false x7 h4).bnd fun x8 =>
 (binOp .eql x8 (.int .i64 1)).bnd fun x9 =>
 condB x9 (
 condB x9 (
 bnd2 (CallA T (size h) 37 [a0] h4) fun x12 h13 =>
 finV false false (size h) [x12] h13) (
 (binOp .eql x8 (.int .i64 6)).bnd fun x15 =>
 condB x15 (
 bnd2 (CallA T (size h) 40 [a0] h4) fun x18 h19 =>
 finV false false (size h) [x18] h19) (
 finV false false (size h) [(.int .i64 0)] h4))) (
 (binOp .eql x8 (.int .i64 3)).bnd fun x22 =>
 condB x22 (
 condB x22 (
 bnd2 (CallA T (size h) 37 [a0] h4) fun x25 h26 =>
 finV false false (size h) [x25] h26) (
 (binOp .eql x8 (.int .i64 6)).bnd fun x28 =>
 condB x28 (
 bnd2 (CallA T (size h) 40 [a0] h4) fun x31 h32 =>
 finV false false (size h) [x31] h32) (
 finV false false (size h) [(.int .i64 0)] h4))) (
 (binOp .eql x8 (.int .i64 5)).bnd fun x35 =>
 condB x35 (
 bnd2 (CallA T (size h) 37 [a0] h4) fun x38 h39 =>
 finV false false (size h) [x38] h39) (
 (binOp .eql x8 (.int .i64 6)).bnd fun x41 =>
 condB x41 (
 bnd2 (CallA T (size h) 40 [a0] h4) fun x44 h45 =>
 finV false false (size h) [x44] h45) (
 finV false false (size h) [(.int .i64 0)] h4)))) := (Pt_enter T_20 base _ h).trans (by kernel_rfl)
theorem S21 (base : Nat) (a0 a1 a2 : PV) (h : Hp) : CallA T base 21 [a0, a1, a2] h =
 bnd2 (CallA T (size h) 33 [a0, a2] h) fun x3 h4 =>
 (nilckV a0).bnd fun x6 =>
 (fieldAB x6 0).bnd fun x7 =>
 (loadV 1 false x7 h4).bnd fun x8 =>
 (binOp .neq x8 (.int .i64 2)).bnd fun x9 =>
 condB x9 (
 finV false false (size h) [(.int .i64 0)] h4) (
 (nilckV a0).bnd fun x13 =>
 (fieldAB x13 1).bnd fun x14 =>
 (storeV (size h) 1 x14 a1 h4).bnd fun h15 =>
 (unOp .not a1).bnd fun x17 =>
 condB x17 (
 bnd2 (CallA T (size h) 37 [a0] h15) fun x19 h20 =>
 finV false false (size h) [x19] h20) (
 bnd2 (CallA T (size h) 35 [a0] h15) fun x23 h24 =>
 finV false false (size h) [x23] h24)) := (Pt_enter T_21 base _ h).trans (by kernel_rfl)
theorem S22 (base : Nat) (a0 a1 a2 : PV) (h : Hp) : CallA T base 22 [a0, a1, a2] h =
 bnd2 (CallA T (size h) 33 [a0, a2] h) fun x3 h4 =>
 (nilckV a0).bnd fun x6 =>
 (fieldAB x6 0).bnd fun x7 =>
 (loadV 1 false x7 h4).bnd fun x8 =>
 (binOp .neq x8 (.int .i64 4)).bnd fun x9 =>
 condB x9 (
 finV false false (size h) [(.int .i64 0)] h4) (
 bnd2 (CallA T (size h) 34 [a1] h4) fun x14 h15 =>
 (nilckV a0).bnd fun x16 =>
 (fieldAB x16 2).bnd fun x17 =>
 (storeV (size h) 1 x17 x14 h15).bnd fun h18 =>
 (nilckV a0).bnd fun x19 =>
 (fieldAB x19 0).bnd fun x20 =>
 (storeV (size h) 1 x20 (.int .i64 5) h18).bnd fun h21 =>
 finV false false (size h) [(.int .i64 3)] h21) := (Pt_enter T_22 base _ h).trans (by kernel_rfl)
theorem S23 (base : Nat) (a0 a1 : PV) (h : Hp) : CallA T base 23 [a0, a1] h =
 bnd2 (CallA T (size h) 33 [a0, a1] h) fun x3 h4 =>
 (nilckV a0).bnd fun x6 =>
 (fieldAB x6 0).bnd fun x7 =>
 (loadV 1 false x7 h4).bnd fun x8 =>
 (binOp .neq x8 (.int .i64 4)).bnd fun x9 =>
 condB x9 (
 finV false false (size h) [(.int .i64 0)] h4) (
 (nilckV a0).bnd fun x12 =>
 (fieldAB x12 0).bnd fun x13 =>
 (storeV (size h) 1 x13 (.int .i64 6) h4).bnd fun h14 =>
 finV false false (size h) [(.int .i64 4)] h14) := (Pt_enter T_23 base _ h).trans (by kernel_rfl)
theorem S24 (base : Nat) (a0 a1 a2 a3 : PV) (h : Hp) : CallA T base 24 [a0, a1, a2, a3] h =
 bnd2 (boxV 6 a0 h) fun x0 h1 =>
 allocK [(.int .i64 0), (.bool false), (.int .i64 0), .nils, (.int .i64 0), (.int .i64 0)] h1 fun x2 h3 =>
 (loadV 6 true x0 h3).bnd fun x5 =>
 bnd2 (CallA T (size h) 41 [x5, a3] h3) fun x7 h8 =>
 (storeV (size h) 6 x0 x7 h8).bnd fun h9 =>
 (fieldAB x0 1).bnd fun x11 =>
 (storeV (size h) 1 x11 a1 h9).bnd fun h12 =>
 bnd2 (CallA T (size h) 42 [a2] h12) fun x14 h15 =>
 (fieldAB x0 2).bnd fun x16 =>
 (storeV (size h) 1 x16 x14 h15).bnd fun h17 =>
 (loadV 6 true x0 h17).bnd fun x18 =>
 bnd2 (CallA T (size h) 43 [x18] h17) fun x19 h20 =>
 (extractB x19 0).bnd fun x21 =>
 (extractB x19 1).bnd fun x22 =>
 (storeV (size h) 6 x2 x21 h20).bnd fun h23 =>
 (resB x2 h23 6 true).bnd fun r25 =>
 finV false false (size h) [r25, x22] h23 := (Pt_enter T_24 base _ h).trans (by kernel_rfl)
noncomputable def P25_0 (base n0 : Nat) (v10 v4 v2 v8 : PV) (h : Hp) : Option (PV × Hp) := Pt T F25 [1, 1, 0, 0, 1, 1, 1, 0, 1, 0, 1, 0, 1] base n0 [(10, v10), (4, v4), (2, v2), (8, v8)] h
theorem P25_0_eq (base n0 : Nat) (v10 v4 v2 v8 : PV) (h : Hp) : P25_0 base n0 v10 v4 v2 v8 h =
 (lenB false v2).bnd fun x2 =>
 (binOp .lss v10 x2).bnd fun x3 =>
 condB x3 (
 (fieldAB v4 3).bnd fun x4 =>
 (loadV 1 false x4 h).bnd fun x5 =>
 (idxAB v2 v10 1).bnd fun x8 =>
 (loadV 1 false x8 h).bnd fun x9 =>
 (buildSlV 1 false [(.str [])] 1 [(0, strip x9)]).bnd fun x10 =>
 bnd2 (appTV 9 1 x5 x10 h) fun x11 h12 =>
 (fieldAB v4 3).bnd fun x13 =>
 (storeV base 1 x13 x11 h12).bnd fun h14 =>
 (binOp .add v10 (.int .i64 1)).bnd fun x16 =>
 P25_0 base n0 x16 v4 v2 v8 h14) (
 (loadV 6 true v4 h).bnd fun x18 =>
 bnd2 (CallA T base 45 [x18] h) fun x19 h20 =>
 (extractB x19 0).bnd fun x21 =>
 (extractB x19 1).bnd fun x22 =>
 (storeV base 6 v8 x21 h20).bnd fun h23 =>
 (resB v8 h23 6 true).bnd fun r25 =>
 finV false false n0 [r25, x22] h23) := (Pt_eq T F25 [1, 1, 0, 0, 1, 1, 1, 0, 1, 0, 1, 0, 1] base n0 [(10, v10), (4, v4), (2, v2), (8, v8)] h).trans (by kernel_rfl)
theorem S25 (base : Nat) (a0 a1 a2 a3 : PV) (h : Hp) : CallA T base 25 [a0, a1, a2, a3] h =
 bnd2 (boxV 6 a0 h) fun x0 h1 =>
 allocK [(.int .i64 0), (.bool false), (.int .i64 0), .nils, (.int .i64 0), (.int .i64 0)] h1 fun x2 h3 =>
 (loadV 6 true x0 h3).bnd fun x5 =>
 bnd2 (CallA T (size h) 41 [x5, a3] h3) fun x7 h8 =>
 (storeV (size h) 6 x0 x7 h8).bnd fun h9 =>
 (fieldAB x0 0).bnd fun x10 =>
 (loadV 1 false x10 h9).bnd fun x11 =>
 (binOp .eql x11 (.int .i64 1)).bnd fun x12 =>
 (wantB x12 true).bnd fun b15 => (whenB b15 (some a1) (some .undef)).bnd fun x14 =>
 (wantB x12 true).bnd fun b19 => (whenB b19 ((binOp .eql x14 (.int .i64 68)).bnd some) (some .undef)).bnd fun x18 =>
 (condB x12 (some x18) (some (.bool false))).bnd fun x22 =>
 condB x22 (
 (loadV 6 true x0 h9).bnd fun x24 =>
 bnd2 (CallA T (size h) 44 [x24, (.int .i64 2), (.int .i64 1000)] h9) fun x25 h26 =>
 (storeV (size h) 6 x2 x25 h26).bnd fun h27 =>
 (resB x2 h27 6 true).bnd fun r29 =>
 finV false false (size h) [r29, (.int .i64 0)] h27) (
 (fieldAB x0 0).bnd fun x30 =>
 (loadV 1 false x30 h9).bnd fun x31 =>
 (binOp .eql x31 (.int .i64 3)).bnd fun x32 =>
 (wantB x32 true).bnd fun b35 => (whenB b35 (some a1) (some .undef)).bnd fun x34 =>
 (wantB x32 true).bnd fun b39 => (whenB b39 ((binOp .eql x34 (.int .i64 65)).bnd some) (some .undef)).bnd fun x38 =>
 (condB x32 (some x38) (some (.bool false))).bnd fun x42 =>
 (wantB x42 true).bnd fun b45 => (whenB b45 (some a2) (some .undef)).bnd fun x44 =>
 (wantB x42 true).bnd fun b49 => (whenB b49 ((lenB false x44).bnd some) (some .undef)).bnd fun x48 =>
 (wantB x42 true).bnd fun b53 => (whenB b53 ((binOp .geq x48 (.int .i64 1)).bnd some) (some .undef)).bnd fun x52 =>
 (condB x42 (some x52) (some (.bool false))).bnd fun x56 =>
 (wantB x56 true).bnd fun b59 => (whenB b59 (some a2) (some .undef)).bnd fun x58 =>
 (wantB x56 true).bnd fun b63 => (whenB b63 ((lenB false x58).bnd some) (some .undef)).bnd fun x62 =>
 (wantB x56 true).bnd fun b67 => (whenB b67 ((binOp .leq x62 (.int .i64 4)).bnd some) (some .undef)).bnd fun x66 =>
 (condB x56 (some x66) (some (.bool false))).bnd fun x70 =>
 condB x70 (
 (buildSlV 1 false [(.str [])] 0 []).bnd fun x72 =>
 (fieldAB x0 3).bnd fun x73 =>
 (storeV (size h) 1 x73 x72 h9).bnd fun h74 =>
 P25_0 (size h) (size h) (.int .i64 0) x0 a2 x2 h74) (
 (fieldAB x0 0).bnd fun x76 =>
 (loadV 1 false x76 h9).bnd fun x77 =>
 (binOp .eql x77 (.int .i64 5)).bnd fun x78 =>
 (wantB x78 true).bnd fun b81 => (whenB b81 (some a1) (some .undef)).bnd fun x80 =>
 (wantB x78 true).bnd fun b85 => (whenB b85 ((binOp .eql x80 (.int .i64 68)).bnd some) (some .undef)).bnd fun x84 =>
 (condB x78 (some x84) (some (.bool false))).bnd fun x88 =>
 condB x88 (
 (loadV 6 true x0 h9).bnd fun x90 =>
 bnd2 (CallA T (size h) 45 [x90] h9) fun x91 h92 =>
 (extractB x91 0).bnd fun x93 =>
 (extractB x91 1).bnd fun x94 =>
 (storeV (size h) 6 x2 x93 h92).bnd fun h95 =>
 (resB x2 h95 6 true).bnd fun r97 =>
 finV false false (size h) [r97, x94] h95) (
 (fieldAB x0 0).bnd fun x98 =>
 (loadV 1 false x98 h9).bnd fun x99 =>
 (binOp .eql x99 (.int .i64 5)).bnd fun x100 =>
 (wantB x100 true).bnd fun b103 => (whenB b103 (some a1) (some .undef)).bnd fun x102 =>
 (wantB x100 true).bnd fun b107 => (whenB b107 ((binOp .eql x102 (.int .i64 132)).bnd some) (some .undef)).bnd fun x106 =>
 (condB x100 (some x106) (some (.bool false))).bnd fun x110 =>
 condB x110 (
 (fieldAB x0 3).bnd fun x112 =>
 (storeV (size h) 1 x112 .nils h9).bnd fun h113 =>
 (fieldAB x0 0).bnd fun x114 =>
 (storeV (size h) 1 x114 (.int .i64 3) h113).bnd fun h115 =>
 (loadV 6 true x0 h115).bnd fun x116 =>
 (storeV (size h) 6 x2 x116 h115).bnd fun h117 =>
 (resB x2 h117 6 true).bnd fun r119 =>
 finV false false (size h) [r119, (.int .i64 2)] h117) (
 (fieldAB x0 0).bnd fun x120 =>
 (loadV 1 false x120 h9).bnd fun x121 =>
 (binOp .eql x121 (.int .i64 1)).bnd fun x122 =>
 (wantB x122 false).bnd fun b125 => (whenB b125 ((fieldAB x0 0).bnd some) (some .undef)).bnd fun x124 =>
 (wantB x122 false).bnd fun b129 => (whenB b129 ((loadV 1 false x124 h9).bnd some) (some .undef)).bnd fun x128 =>
 (wantB x122 false).bnd fun b133 => (whenB b133 ((binOp .eql x128 (.int .i64 3)).bnd some) (some .undef)).bnd fun x132 =>
 (condB x122 (some (.bool true)) (some x132)).bnd fun x136 =>
 (wantB x136 false).bnd fun b139 => (whenB b139 ((fieldAB x0 0).bnd some) (some .undef)).bnd fun x138 =>
 (wantB x136 false).bnd fun b143 => (whenB b143 ((loadV 1 false x138 h9).bnd some) (some .undef)).bnd fun x142 =>
 (wantB x136 false).bnd fun b147 => (whenB b147 ((binOp .eql x142 (.int .i64 5)).bnd some) (some .undef)).bnd fun x146 =>
 (condB x136 (some (.bool true)) (some x146)).bnd fun x150 =>
 condB x150 (
 (loadV 6 true x0 h9).bnd fun x152 =>
 bnd2 (CallA T (size h) 46 [x152] h9) fun x153 h154 =>
 (extractB x153 0).bnd fun x155 =>
 (extractB x153 1).bnd fun x156 =>
 (storeV (size h) 6 x2 x155 h154).bnd fun h157 =>
 (resB x2 h157 6 true).bnd fun r159 =>
 finV false false (size h) [r159, x156] h157) (
 (fieldAB x0 0).bnd fun x160 =>
 (loadV 1 false x160 h9).bnd fun x161 =>
 (binOp .eql x161 (.int .i64 6)).bnd fun x162 =>
 condB x162 (
 (fieldAB x0 0).bnd fun x164 =>
 (storeV (size h) 1 x164 (.int .i64 0) h9).bnd fun h165 =>
 (fieldAB x0 3).bnd fun x166 =>
 (storeV (size h) 1 x166 .nils h165).bnd fun h167 =>
 (loadV 6 true x0 h167).bnd fun x168 =>
 (storeV (size h) 6 x2 x168 h167).bnd fun h169 =>
 (resB x2 h169 6 true).bnd fun r171 =>
 finV false false (size h) [r171, (.int .i64 0)] h169) (
 (loadV 6 true x0 h9).bnd fun x172 =>
 (storeV (size h) 6 x2 x172 h9).bnd fun h173 =>
 (resB x2 h173 6 true).bnd fun r175 =>
 finV false false (size h) [r175, (.int .i64 0)] h173)))))) := (Pt_enter T_25 base _ h).trans (by kernel_rfl)
theorem S26 (base : Nat) (a0 a1 : PV) (h : Hp) : CallA T base 26 [a0, a1] h =
 bnd2 (boxV 6 a0 h) fun x0 h1 =>
 allocK [(.int .i64 0), (.bool false), (.int .i64 0), .nils, (.int .i64 0), (.int .i64 0)] h1 fun x2 h3 =>
 (loadV 6 true x0 h3).bnd fun x5 =>
 bnd2 (CallA T (size h) 41 [x5, a1] h3) fun x7 h8 =>
 (storeV (size h) 6 x0 x7 h8).bnd fun h9 =>
 (fieldAB x0 0).bnd fun x10 =>
 (loadV 1 false x10 h9).bnd fun x11 =>
 (binOp .eql x11 (.int .i64 1)).bnd fun x12 =>
 (wantB x12 false).bnd fun b15 => (whenB b15 ((fieldAB x0 0).bnd some) (some .undef)).bnd fun x14 =>
 (wantB x12 false).bnd fun b19 => (whenB b19 ((loadV 1 false x14 h9).bnd some) (some .undef)).bnd fun x18 =>
 (wantB x12 false).bnd fun b23 => (whenB b23 ((binOp .eql x18 (.int .i64 3)).bnd some) (some .undef)).bnd fun x22 =>
 (condB x12 (some (.bool true)) (some x22)).bnd fun x26 =>
 (wantB x26 false).bnd fun b29 => (whenB b29 ((fieldAB x0 0).bnd some) (some .undef)).bnd fun x28 =>
 (wantB x26 false).bnd fun b33 => (whenB b33 ((loadV 1 false x28 h9).bnd some) (some .undef)).bnd fun x32 =>
 (wantB x26 false).bnd fun b37 => (whenB b37 ((binOp .eql x32 (.int .i64 5)).bnd some) (some .undef)).bnd fun x36 =>
 (condB x26 (some (.bool true)) (some x36)).bnd fun x40 =>
 condB x40 (
 (loadV 6 true x0 h9).bnd fun x41 =>
 bnd2 (CallA T (size h) 46 [x41] h9) fun x42 h43 =>
 (extractB x42 0).bnd fun x44 =>
 (extractB x42 1).bnd fun x45 =>
 (storeV (size h) 6 x2 x44 h43).bnd fun h46 =>
 (resB x2 h46 6 true).bnd fun r48 =>
 finV false false (size h) [r48, x45] h46) (
 (fieldAB x0 0).bnd fun x49 =>
 (loadV 1 false x49 h9).bnd fun x50 =>
 (binOp .eql x50 (.int .i64 6)).bnd fun x51 =>
 condB x51 (
 (fieldAB x0 0).bnd fun x52 =>
 (storeV (size h) 1 x52 (.int .i64 0) h9).bnd fun h53 =>
 (fieldAB x0 3).bnd fun x54 =>
 (storeV (size h) 1 x54 .nils h53).bnd fun h55 =>
 (loadV 6 true x0 h55).bnd fun x56 =>
 (storeV (size h) 6 x2 x56 h55).bnd fun h57 =>
 (resB x2 h57 6 true).bnd fun r59 =>
 finV false false (size h) [r59, (.int .i64 0)] h57) (
 (loadV 6 true x0 h9).bnd fun x60 =>
 (storeV (size h) 6 x2 x60 h9).bnd fun h61 =>
 (resB x2 h61 6 true).bnd fun r63 =>
 finV false false (size h) [r63, (.int .i64 0)] h61)) := (Pt_enter T_26 base _ h).trans (by kernel_rfl)
theorem S27 (base : Nat) (a0 a1 a2 : PV) (h : Hp) : CallA T base 27 [a0, a1, a2] h =
 bnd2 (boxV 6 a0 h) fun x0 h1 =>
 allocK [(.int .i64 0), (.bool false), (.int .i64 0), .nils, (.int .i64 0), (.int .i64 0)] h1 fun x2 h3 =>
 (loadV 6 true x0 h3).bnd fun x5 =>
 bnd2 (CallA T (size h) 41 [x5, a2] h3) fun x7 h8 =>
 (storeV (size h) 6 x0 x7 h8).bnd fun h9 =>
 (fieldAB x0 0).bnd fun x10 =>
 (loadV 1 false x10 h9).bnd fun x11 =>
 (binOp .neq x11 (.int .i64 2)).bnd fun x12 =>
 condB x12 (
 (loadV 6 true x0 h9).bnd fun x13 =>
 (storeV (size h) 6 x2 x13 h9).bnd fun h14 =>
 (resB x2 h14 6 true).bnd fun r16 =>
 finV false false (size h) [r16, (.int .i64 0)] h14) (
 (fieldAB x0 1).bnd fun x18 =>
 (storeV (size h) 1 x18 a1 h9).bnd fun h19 =>
 condB a1 (
 (loadV 6 true x0 h19).bnd fun x21 =>
 bnd2 (CallA T (size h) 43 [x21] h19) fun x22 h23 =>
 (extractB x22 0).bnd fun x24 =>
 (extractB x22 1).bnd fun x25 =>
 (storeV (size h) 6 x2 x24 h23).bnd fun h26 =>
 (resB x2 h26 6 true).bnd fun r28 =>
 finV false false (size h) [r28, x25] h26) (
 (loadV 6 true x0 h19).bnd fun x29 =>
 bnd2 (CallA T (size h) 46 [x29] h19) fun x30 h31 =>
 (extractB x30 0).bnd fun x32 =>
 (extractB x30 1).bnd fun x33 =>
 (storeV (size h) 6 x2 x32 h31).bnd fun h34 =>
 (resB x2 h34 6 true).bnd fun r36 =>
 finV false false (size h) [r36, x33] h34)) := (Pt_enter T_27 base _ h).trans (by kernel_rfl)
theorem S28 (base : Nat) (a0 a1 : PV) (h : Hp) : CallA T base 28 [a0, a1] h =
 bnd2 (boxV 6 a0 h) fun x0 h1 =>
 allocK [(.int .i64 0), (.bool false), (.int .i64 0), .nils, (.int .i64 0), (.int .i64 0)] h1 fun x2 h3 =>
 (loadV 6 true x0 h3).bnd fun x5 =>
 bnd2 (CallA T (size h) 41 [x5, a1] h3) fun x7 h8 =>
 (storeV (size h) 6 x0 x7 h8).bnd fun h9 =>
 (fieldAB x0 0).bnd fun x10 =>
 (loadV 1 false x10 h9).bnd fun x11 =>
 (binOp .neq x11 (.int .i64 2)).bnd fun x12 =>
 (wantB x12 true).bnd fun b15 => (whenB b15 ((fieldAB x0 0).bnd some) (some .undef)).bnd fun x14 =>
 (wantB x12 true).bnd fun b19 => (whenB b19 ((loadV 1 false x14 h9).bnd some) (some .undef)).bnd fun x18 =>
 (wantB x12 true).bnd fun b23 => (whenB b23 ((binOp .neq x18 (.int .i64 4)).bnd some) (some .undef)).bnd fun x22 =>
 (condB x12 (some x22) (some (.bool false))).bnd fun x26 =>
 (wantB x26 true).bnd fun b29 => (whenB b29 ((fieldAB x0 0).bnd some) (some .undef)).bnd fun x28 =>
 (wantB x26 true).bnd fun b33 => (whenB b33 ((loadV 1 false x28 h9).bnd some) (some .undef)).bnd fun x32 =>
 (wantB x26 true).bnd fun b37 => (whenB b37 ((binOp .neq x32 (.int .i64 7)).bnd some) (some .undef)).bnd fun x36 =>
 (condB x26 (some x36) (some (.bool false))).bnd fun x40 =>
 (wantB x40 false).bnd fun b43 => (whenB b43 ((fieldAB x0 4).bnd some) (some .undef)).bnd fun x42 =>
 (wantB x40 false).bnd fun b47 => (whenB b47 ((loadV 1 false x42 h9).bnd some) (some .undef)).bnd fun x46 =>
 (wantB x40 false).bnd fun b51 => (whenB b51 ((fieldAB x0 5).bnd some) (some .undef)).bnd fun x50 =>
 (wantB x40 false).bnd fun b55 => (whenB b55 ((loadV 1 false x50 h9).bnd some) (some .undef)).bnd fun x54 =>
 (wantB x40 false).bnd fun b59 => (whenB b59 ((binOp .lss x46 x54).bnd some) (some .undef)).bnd fun x58 =>
 (condB x40 (some (.bool true)) (some x58)).bnd fun x62 =>
 condB x62 (
 (loadV 6 true x0 h9).bnd fun x63 =>
 (storeV (size h) 6 x2 x63 h9).bnd fun h64 =>
 (resB x2 h64 6 true).bnd fun r66 =>
 finV false false (size h) [r66, (.int .i64 0)] h64) (
 (fieldAB x0 0).bnd fun x67 =>
 (loadV 1 false x67 h9).bnd fun x68 =>
 (binOp .eql x68 (.int .i64 2)).bnd fun x69 =>
 condB x69 (
 (loadV 6 true x0 h9).bnd fun x70 =>
 bnd2 (CallA T (size h) 46 [x70] h9) fun x71 h72 =>
 (extractB x71 0).bnd fun x73 =>
 (extractB x71 1).bnd fun x74 =>
 (storeV (size h) 6 x2 x73 h72).bnd fun h75 =>
 (resB x2 h75 6 true).bnd fun r77 =>
 finV false false (size h) [r77, x74] h75) (
 (fieldAB x0 0).bnd fun x78 =>
 (loadV 1 false x78 h9).bnd fun x79 =>
 (binOp .eql x79 (.int .i64 4)).bnd fun x80 =>
 condB x80 (
 (fieldAB x0 0).bnd fun x81 =>
 (storeV (size h) 1 x81 (.int .i64 5) h9).bnd fun h82 =>
 (loadV 6 true x0 h82).bnd fun x83 =>
 (storeV (size h) 6 x2 x83 h82).bnd fun h84 =>
 (resB x2 h84 6 true).bnd fun r86 =>
 finV false false (size h) [r86, (.int .i64 3)] h84) (
 (loadV 6 true x0 h9).bnd fun x87 =>
 bnd2 (CallA T (size h) 43 [x87] h9) fun x88 h89 =>
 (extractB x88 0).bnd fun x90 =>
 (extractB x88 1).bnd fun x91 =>
 (storeV (size h) 6 x2 x90 h89).bnd fun h92 =>
 (resB x2 h92 6 true).bnd fun r94 =>
 finV false false (size h) [r94, x91] h92))) := (Pt_enter T_28 base _ h).trans (by kernel_rfl)
theorem S29 (base : Nat) (a0 a1 a2 : PV) (h : Hp) : CallA T base 29 [a0, a1, a2] h =
 bnd2 (boxV 6 a0 h) fun x0 h1 =>
 allocK [(.int .i64 0), (.bool false), (.int .i64 0), .nils, (.int .i64 0), (.int .i64 0)] h1 fun x2 h3 =>
 (loadV 6 true x0 h3).bnd fun x5 =>
 bnd2 (CallA T (size h) 41 [x5, a2] h3) fun x7 h8 =>
 (storeV (size h) 6 x0 x7 h8).bnd fun h9 =>
 (fieldAB x0 0).bnd fun x10 =>
 (loadV 1 false x10 h9).bnd fun x11 =>
 (binOp .neq x11 (.int .i64 4)).bnd fun x12 =>
 condB x12 (
 (loadV 6 true x0 h9).bnd fun x13 =>
 (storeV (size h) 6 x2 x13 h9).bnd fun h14 =>
 (resB x2 h14 6 true).bnd fun r16 =>
 finV false false (size h) [r16, (.int .i64 0)] h14) (
 bnd2 (CallA T (size h) 42 [a1] h9) fun x18 h19 =>
 (fieldAB x0 2).bnd fun x20 =>
 (storeV (size h) 1 x20 x18 h19).bnd fun h21 =>
 (fieldAB x0 0).bnd fun x22 =>
 (storeV (size h) 1 x22 (.int .i64 5) h21).bnd fun h23 =>
 (loadV 6 true x0 h23).bnd fun x24 =>
 (storeV (size h) 6 x2 x24 h23).bnd fun h25 =>
 (resB x2 h25 6 true).bnd fun r27 =>
 finV false false (size h) [r27, (.int .i64 3)] h25) := (Pt_enter T_29 base _ h).trans (by kernel_rfl)
theorem S30 (base : Nat) (a0 a1 : PV) (h : Hp) : CallA T base 30 [a0, a1] h =
 bnd2 (boxV 6 a0 h) fun x0 h1 =>
 allocK [(.int .i64 0), (.bool false), (.int .i64 0), .nils, (.int .i64 0), (.int .i64 0)] h1 fun x2 h3 =>
 (loadV 6 true x0 h3).bnd fun x5 =>
 bnd2 (CallA T (size h) 41 [x5, a1] h3) fun x7 h8 =>
 (storeV (size h) 6 x0 x7 h8).bnd fun h9 =>
 (fieldAB x0 0).bnd fun x10 =>
 (loadV 1 false x10 h9).bnd fun x11 =>
 (binOp .neq x11 (.int .i64 4)).bnd fun x12 =>
 condB x12 (
 (loadV 6 true x0 h9).bnd fun x13 =>
 (storeV (size h) 6 x2 x13 h9).bnd fun h14 =>
 (resB x2 h14 6 true).bnd fun r16 =>
 finV false false (size h) [r16, (.int .i64 0)] h14) (
 (fieldAB x0 0).bnd fun x17 =>
 (storeV (size h) 1 x17 (.int .i64 6) h9).bnd fun h18 =>
 (loadV 6 true x0 h18).bnd fun x19 =>
 (storeV (size h) 6 x2 x19 h18).bnd fun h20 =>
 (resB x2 h20 6 true).bnd fun r22 =>
 finV false false (size h) [r22, (.int .i64 4)] h20) := (Pt_enter T_30 base _ h).trans (by kernel_rfl)
theorem S31 (base : Nat) (a0 : PV) (h : Hp) : CallA T base 31 [a0] h =
 (nilckV a0).bnd fun x2 =>
 (fieldAB x2 0).bnd fun x3 =>
 (loadV 1 false x3 h).bnd fun x4 =>
 (binOp .eql x4 (.int .i64 2)).bnd fun x5 =>
 (wantB x5 false).bnd fun b8 => (whenB b8 (some a0) (some .undef)).bnd fun x7 =>
 (wantB x5 false).bnd fun b12 => (whenB b12 ((nilckV x7).bnd some) (some .undef)).bnd fun x11 =>
 (wantB x5 false).bnd fun b16 => (whenB b16 ((fieldAB x11 0).bnd some) (some .undef)).bnd fun x15 =>
 (wantB x5 false).bnd fun b20 => (whenB b20 ((loadV 1 false x15 h).bnd some) (some .undef)).bnd fun x19 =>
 (wantB x5 false).bnd fun b24 => (whenB b24 ((binOp .eql x19 (.int .i64 4)).bnd some) (some .undef)).bnd fun x23 =>
 (condB x5 (some (.bool true)) (some x23)).bnd fun x27 =>
 (wantB x27 false).bnd fun b30 => (whenB b30 (some a0) (some .undef)).bnd fun x29 =>
 (wantB x27 false).bnd fun b34 => (whenB b34 ((nilckV x29).bnd some) (some .undef)).bnd fun x33 =>
 (wantB x27 false).bnd fun b38 => (whenB b38 ((fieldAB x33 0).bnd some) (some .undef)).bnd fun x37 =>
 (wantB x27 false).bnd fun b42 => (whenB b42 ((loadV 1 false x37 h).bnd some) (some .undef)).bnd fun x41 =>
 (wantB x27 false).bnd fun b46 => (whenB b46 ((binOp .eql x41 (.int .i64 7)).bnd some) (some .undef)).bnd fun x45 =>
 (condB x27 (some (.bool true)) (some x45)).bnd fun x49 =>
 finV false false (size h) [x49] h := (Pt_enter T_31 base _ h).trans (by kernel_rfl)
theorem S32 (base : Nat) (a0 : PV) (h : Hp) : CallA T base 32 [a0] h =
 (isnilV 1 false a0).bnd fun x2 =>
 condB x2 (
 finV false false (size h) [.nils] h) (
 (buildSlV 1 false [(.str [])] 0 []).bnd fun x4 =>
 bnd2 (appTV 9 1 x4 a0 h) fun x6 h7 =>
 finV false false (size h) [x6] h7) := (Pt_enter T_32 base _ h).trans (by kernel_rfl)
theorem S33 (base : Nat) (a0 a1 : PV) (h : Hp) : CallA T base 33 [a0, a1] h =
 (nilckV a0).bnd fun x3 =>
 (fieldAB x3 4).bnd fun x4 =>
 (loadV 1 false x4 h).bnd fun x5 =>
 (minmaxV true [a1, x5]).bnd fun x6 =>
 (minmaxV false [x6, (.int .i64 1099511627776)]).bnd fun x7 =>
 (nilckV a0).bnd fun x8 =>
 (fieldAB x8 4).bnd fun x9 =>
 (storeV (size h) 1 x9 x7 h).bnd fun h10 =>
 finV false false (size h) [] h10 := (Pt_enter T_33 base _ h).trans (by kernel_rfl)
theorem S34 (base : Nat) (a0 : PV) (h : Hp) : CallA T base 34 [a0] h =
 (minmaxV true [a0, (.int .i64 1)]).bnd fun x2 =>
 (minmaxV false [x2, (.int .i64 86400)]).bnd fun x3 =>
 finV false false (size h) [x3] h := (Pt_enter T_34 base _ h).trans (by kernel_rfl)
theorem S35 (base : Nat) (a0 : PV) (h : Hp) : CallA T base 35 [a0] h =
 (nilckV a0).bnd fun x2 =>
 (fieldAB x2 3).bnd fun x3 =>
 (storeV (size h) 1 x3 .nils h).bnd fun h4 =>
 (nilckV a0).bnd fun x6 =>
 (fieldAB x6 1).bnd fun x7 =>
 (loadV 1 false x7 h4).bnd fun x8 =>
 condB x8 (
 (nilckV a0).bnd fun x10 =>
 (fieldAB x10 0).bnd fun x11 =>
 (storeV (size h) 1 x11 (.int .i64 3) h4).bnd fun h12 =>
 finV false false (size h) [(.int .i64 2)] h12) (
 (nilckV a0).bnd fun x15 =>
 (fieldAB x15 0).bnd fun x16 =>
 (storeV (size h) 1 x16 (.int .i64 1) h4).bnd fun h17 =>
 finV false false (size h) [(.int .i64 1)] h17) := (Pt_enter T_35 base _ h).trans (by kernel_rfl)
theorem S36 (base : Nat) (a0 a1 a2 : PV) (h : Hp) : CallA T base 36 [a0, a1, a2] h =
 (nilckV a0).bnd fun x5 =>
 (fieldAB x5 4).bnd fun x6 =>
 (loadV 1 false x6 h).bnd fun x7 =>
 (binOp .add x7 a2).bnd fun x9 =>
 (minmaxV false [x9, (.int .i64 1099511627776)]).bnd fun x10 =>
 (nilckV a0).bnd fun x11 =>
 (fieldAB x11 0).bnd fun x12 =>
 (storeV (size h) 1 x12 a1 h).bnd fun h13 =>
 (nilckV a0).bnd fun x14 =>
 (fieldAB x14 5).bnd fun x15 =>
 (storeV (size h) 1 x15 x10 h13).bnd fun h16 =>
 finV false false (size h) [(.int .i64 0)] h16 := (Pt_enter T_36 base _ h).trans (by kernel_rfl)
theorem S37 (base : Nat) (a0 : PV) (h : Hp) : CallA T base 37 [a0] h =
 (nilckV a0).bnd fun x2 =>
 (fieldAB x2 3).bnd fun x3 =>
 (storeV (size h) 1 x3 .nils h).bnd fun h4 =>
 bnd2 (CallA T (size h) 36 [a0, (.int .i64 7), (.int .i64 60)] h4) fun x6 h7 =>
 finV false false (size h) [x6] h7 := (Pt_enter T_37 base _ h).trans (by kernel_rfl)
theorem S38 (base : Nat) (a0 a1 a2 : PV) (h : Hp) : CallA T base 38 [a0, a1, a2] h =
 (binOp .neq a1 (.int .i64 65)).bnd fun x2 =>
 (wantB x2 false).bnd fun b5 => (whenB b5 (some a2) (some .undef)).bnd fun x4 =>
 (wantB x2 false).bnd fun b9 => (whenB b9 ((lenB false x4).bnd some) (some .undef)).bnd fun x8 =>
 (wantB x2 false).bnd fun b13 => (whenB b13 ((binOp .eql x8 (.int .i64 0)).bnd some) (some .undef)).bnd fun x12 =>
 (condB x2 (some (.bool true)) (some x12)).bnd fun x16 =>
 (wantB x16 false).bnd fun b19 => (whenB b19 (some a2) (some .undef)).bnd fun x18 =>
 (wantB x16 false).bnd fun b23 => (whenB b23 ((lenB false x18).bnd some) (some .undef)).bnd fun x22 =>
 (wantB x16 false).bnd fun b27 => (whenB b27 ((binOp .gtr x22 (.int .i64 4)).bnd some) (some .undef)).bnd fun x26 =>
 (condB x16 (some (.bool true)) (some x26)).bnd fun x30 =>
 condB x30 (
 bnd2 (CallA T (size h) 37 [a0] h) fun x32 h33 =>
 finV false false (size h) [x32] h33) (
 bnd2 (CallA T (size h) 32 [a2] h) fun x37 h38 =>
 (nilckV a0).bnd fun x39 =>
 (fieldAB x39 3).bnd fun x40 =>
 (storeV (size h) 1 x40 x37 h38).bnd fun h41 =>
 bnd2 (CallA T (size h) 47 [a0] h41) fun x43 h44 =>
 finV false false (size h) [x43] h44) := (Pt_enter T_38 base _ h).trans (by kernel_rfl)
theorem S39 (base : Nat) (a0 a1 : PV) (h : Hp) : CallA T base 39 [a0, a1] h =
 (binOp .eql a1 (.int .i64 68)).bnd fun x2 =>
 condB x2 (
 bnd2 (CallA T (size h) 47 [a0] h) fun x5 h6 =>
 finV false false (size h) [x5] h6) (
 (binOp .eql a1 (.int .i64 132)).bnd fun x8 =>
 condB x8 (
 (nilckV a0).bnd fun x12 =>
 (fieldAB x12 3).bnd fun x13 =>
 (storeV (size h) 1 x13 .nils h).bnd fun h14 =>
 (nilckV a0).bnd fun x15 =>
 (fieldAB x15 0).bnd fun x16 =>
 (storeV (size h) 1 x16 (.int .i64 3) h14).bnd fun h17 =>
 finV false false (size h) [(.int .i64 2)] h17) (
 bnd2 (CallA T (size h) 37 [a0] h) fun x20 h21 =>
 finV false false (size h) [x20] h21)) := (Pt_enter T_39 base _ h).trans (by kernel_rfl)
theorem S40 (base : Nat) (a0 : PV) (h : Hp) : CallA T base 40 [a0] h =
 (nilckV a0).bnd fun x3 =>
 (fieldAB x3 0).bnd fun x4 =>
 (storeV (size h) 1 x4 (.int .i64 0) h).bnd fun h5 =>
 (nilckV a0).bnd fun x6 =>
 (fieldAB x6 3).bnd fun x7 =>
 (storeV (size h) 1 x7 .nils h5).bnd fun h8 =>
 finV false false (size h) [(.int .i64 0)] h8 := (Pt_enter T_40 base _ h).trans (by kernel_rfl)
theorem S41 (base : Nat) (a0 a1 : PV) (h : Hp) : CallA T base 41 [a0, a1] h =
 bnd2 (boxV 6 a0 h) fun x0 h1 =>
 allocK [(.int .i64 0), (.bool false), (.int .i64 0), .nils, (.int .i64 0), (.int .i64 0)] h1 fun x2 h3 =>
 bnd2 (CallA T (size h) 48 [a1] h3) fun x5 h6 => chkK h3 h6 <|
 (fieldAB x0 4).bnd fun x7 =>
 (loadV 1 false x7 h3).bnd fun x8 =>
 (binOp .gtr x5 x8).bnd fun x9 =>
 condB x9 (
 bnd2 (CallA T (size h) 48 [a1] h3) fun x11 h12 =>
 (fieldAB x0 4).bnd fun x13 =>
 (storeV (size h) 1 x13 x11 h12).bnd fun h14 =>
 (loadV 6 true x0 h14).bnd fun x15 =>
 (storeV (size h) 6 x2 x15 h14).bnd fun h16 =>
 (resB x2 h16 6 true).bnd fun r17 =>
 finV false false (size h) [r17] h16) (
 (loadV 6 true x0 h3).bnd fun x18 =>
 (storeV (size h) 6 x2 x18 h3).bnd fun h19 =>
 (resB x2 h19 6 true).bnd fun r20 =>
 finV false false (size h) [r20] h19) := (Pt_enter T_41 base _ h).trans (by kernel_rfl)
theorem S42 (base : Nat) (a0 : PV) (h : Hp) : CallA T base 42 [a0] h =
 (binOp .lss a0 (.int .i64 1)).bnd fun x2 =>
 condB x2 (
 finV false false (size h) [(.int .i64 1)] h) (
 (binOp .gtr a0 (.int .i64 86400)).bnd fun x5 =>
 condB x5 (
 finV false false (size h) [(.int .i64 86400)] h) (
 finV false false (size h) [a0] h)) := (Pt_enter T_42 base _ h).trans (by kernel_rfl)
theorem S43 (base : Nat) (a0 : PV) (h : Hp) : CallA T base 43 [a0] h =
 bnd2 (boxV 6 a0 h) fun x0 h1 =>
 allocK [(.int .i64 0), (.bool false), (.int .i64 0), .nils, (.int .i64 0), (.int .i64 0)] h1 fun x2 h3 =>
 (fieldAB x0 3).bnd fun x5 =>
 (storeV (size h) 1 x5 .nils h3).bnd fun h6 =>
 (fieldAB x0 1).bnd fun x7 =>
 (loadV 1 false x7 h6).bnd fun x8 =>
 condB x8 (
 (fieldAB x0 0).bnd fun x9 =>
 (storeV (size h) 1 x9 (.int .i64 3) h6).bnd fun h10 =>
 (loadV 6 true x0 h10).bnd fun x11 =>
 (storeV (size h) 6 x2 x11 h10).bnd fun h12 =>
 (resB x2 h12 6 true).bnd fun r14 =>
 finV false false (size h) [r14, (.int .i64 2)] h12) (
 (fieldAB x0 0).bnd fun x15 =>
 (storeV (size h) 1 x15 (.int .i64 1) h6).bnd fun h16 =>
 (loadV 6 true x0 h16).bnd fun x17 =>
 (storeV (size h) 6 x2 x17 h16).bnd fun h18 =>
 (resB x2 h18 6 true).bnd fun r20 =>
 finV false false (size h) [r20, (.int .i64 1)] h18) := (Pt_enter T_43 base _ h).trans (by kernel_rfl)
theorem S44 (base : Nat) (a0 a1 a2 : PV) (h : Hp) : CallA T base 44 [a0, a1, a2] h =
 bnd2 (boxV 6 a0 h) fun x0 h1 =>
 allocK [(.int .i64 0), (.bool false), (.int .i64 0), .nils, (.int .i64 0), (.int .i64 0)] h1 fun x2 h3 =>
 (fieldAB x0 0).bnd fun x5 =>
 (storeV (size h) 1 x5 a1 h3).bnd fun h6 =>
 (fieldAB x0 4).bnd fun x7 =>
 (loadV 1 false x7 h6).bnd fun x8 =>
 (binOp .add x8 a2).bnd fun x10 =>
 bnd2 (CallA T (size h) 48 [x10] h6) fun x11 h12 =>
 (fieldAB x0 5).bnd fun x13 =>
 (storeV (size h) 1 x13 x11 h12).bnd fun h14 =>
 (loadV 6 true x0 h14).bnd fun x15 =>
 (storeV (size h) 6 x2 x15 h14).bnd fun h16 =>
 (resB x2 h16 6 true).bnd fun r17 =>
 finV false false (size h) [r17] h16 := (Pt_enter T_44 base _ h).trans (by kernel_rfl)
theorem S45 (base : Nat) (a0 : PV) (h : Hp) : CallA T base 45 [a0] h =
 bnd2 (boxV 6 a0 h) fun x0 h1 =>
 allocK [(.int .i64 0), (.bool false), (.int .i64 0), .nils, (.int .i64 0), (.int .i64 0)] h1 fun x2 h3 =>
 (fieldAB x0 2).bnd fun x5 =>
 (loadV 1 false x5 h3).bnd fun x6 =>
 (fieldAB x0 2).bnd fun x7 =>
 (loadV 1 false x7 h3).bnd fun x8 =>
 (binOp .quo x8 (.int .i64 10)).bnd fun x9 =>
 (binOp .sub x6 x9).bnd fun x10 =>
 (fieldAB x0 2).bnd fun x12 =>
 (loadV 1 false x12 h3).bnd fun x13 =>
 (binOp .lss x13 (.int .i64 10)).bnd fun x14 =>
 condB x14 (
 (fieldAB x0 2).bnd fun x15 =>
 (loadV 1 false x15 h3).bnd fun x16 =>
 (binOp .sub x16 (.int .i64 1)).bnd fun x17 =>
 (binOp .lss x17 (.int .i64 1)).bnd fun x20 =>
 condB x20 (
 (loadV 6 true x0 h3).bnd fun x22 =>
 bnd2 (CallA T (size h) 44 [x22, (.int .i64 4), (.int .i64 1)] h3) fun x24 h25 =>
 (storeV (size h) 6 x2 x24 h25).bnd fun h26 =>
 (resB x2 h26 6 true).bnd fun r28 =>
 finV false false (size h) [r28, (.int .i64 0)] h26) (
 (loadV 6 true x0 h3).bnd fun x29 =>
 bnd2 (CallA T (size h) 44 [x29, (.int .i64 4), x17] h3) fun x31 h32 =>
 (storeV (size h) 6 x2 x31 h32).bnd fun h33 =>
 (resB x2 h33 6 true).bnd fun r35 =>
 finV false false (size h) [r35, (.int .i64 0)] h33)) (
 (binOp .lss x10 (.int .i64 1)).bnd fun x37 =>
 condB x37 (
 (loadV 6 true x0 h3).bnd fun x39 =>
 bnd2 (CallA T (size h) 44 [x39, (.int .i64 4), (.int .i64 1)] h3) fun x41 h42 =>
 (storeV (size h) 6 x2 x41 h42).bnd fun h43 =>
 (resB x2 h43 6 true).bnd fun r45 =>
 finV false false (size h) [r45, (.int .i64 0)] h43) (
 (loadV 6 true x0 h3).bnd fun x46 =>
 bnd2 (CallA T (size h) 44 [x46, (.int .i64 4), x10] h3) fun x48 h49 =>
 (storeV (size h) 6 x2 x48 h49).bnd fun h50 =>
 (resB x2 h50 6 true).bnd fun r52 =>
 finV false false (size h) [r52, (.int .i64 0)] h50)) := (Pt_enter T_45 base _ h).trans (by kernel_rfl)
theorem S46 (base : Nat) (a0 : PV) (h : Hp) : CallA T base 46 [a0] h =
 bnd2 (boxV 6 a0 h) fun x0 h1 =>
 allocK [(.int .i64 0), (.bool false), (.int .i64 0), .nils, (.int .i64 0), (.int .i64 0)] h1 fun x2 h3 =>
 (fieldAB x0 3).bnd fun x5 =>
 (storeV (size h) 1 x5 .nils h3).bnd fun h6 =>
 (loadV 6 true x0 h6).bnd fun x7 =>
 bnd2 (CallA T (size h) 44 [x7, (.int .i64 7), (.int .i64 60)] h6) fun x8 h9 =>
 (storeV (size h) 6 x2 x8 h9).bnd fun h10 =>
 (resB x2 h10 6 true).bnd fun r12 =>
 finV false false (size h) [r12, (.int .i64 0)] h10 := (Pt_enter T_46 base _ h).trans (by kernel_rfl)
theorem S47 (base : Nat) (a0 : PV) (h : Hp) : CallA T base 47 [a0] h =
 (nilckV a0).bnd fun x3 =>
 (fieldAB x3 2).bnd fun x4 =>
 (loadV 1 false x4 h).bnd fun x5 =>
 (nilckV a0).bnd fun x7 =>
 (fieldAB x7 2).bnd fun x8 =>
 (loadV 1 false x8 h).bnd fun x9 =>
 (binOp .quo x9 (.int .i64 10)).bnd fun x10 =>
 (minmaxV true [x10, (.int .i64 1)]).bnd fun x11 =>
 (binOp .sub x5 x11).bnd fun x12 =>
 (minmaxV true [x12, (.int .i64 1)]).bnd fun x13 =>
 bnd2 (CallA T (size h) 36 [a0, (.int .i64 4), x13] h) fun x14 h15 =>
 finV false false (size h) [x14] h15 := (Pt_enter T_47 base _ h).trans (by kernel_rfl)
theorem S48 (base : Nat) (a0 : PV) (h : Hp) : CallA T base 48 [a0] h =
 (binOp .lss a0 (.int .i64 0)).bnd fun x2 =>
 condB x2 (
 finV false false (size h) [(.int .i64 0)] h) (
 (binOp .gtr a0 (.int .i64 1099511627776)).bnd fun x5 =>
 condB x5 (
 finV false false (size h) [(.int .i64 1099511627776)] h) (
 finV false false (size h) [a0] h)) := (Pt_enter T_48 base _ h).trans (by kernel_rfl)
end Go.Am.Ytlmfmjmpfcaliaa
namespace Go.Am
set_option linter.unusedVariables false
set_option linter.unusedSimpArgs false
theorem loadV_ptr (n g b off h) : loadV n g (.ptr b off) h = (getBox h b).bnd fun cs => part cs off n g := (rfl)
theorem loadV_ep (n g cs off h) : loadV n g (.ep cs off) h = part cs off n g := (rfl)
theorem storeV_ptr (base n b off u h) : storeV base n (.ptr b off) u h = (getBox h b).bnd fun cs =>
      if u.cells.length = n ∧ off + n ≤ cs.length ∧ u.cells.all scalar = true ∧ (b < base → belows 0 (strips u.cells) = true)
      then some (setBox h b (setRange cs off (if b < base then strips u.cells else u.cells))) else none := (rfl)
theorem allocK_eq {α : Type} (z h) (K : PV → Hp → Option α) : allocK z h K = K (.ptr (size h) 0) (ext h [.cells z]) := (rfl)
theorem boxV_eq (n v h) : boxV n v h = if v.cells.length = n ∧ v.cells.all scalar = true then some (.ptr (size h) 0, ext h [.cells v.cells]) else none := (rfl)
theorem buildV_eq (z l) : buildV z l = (buildAgg l z).bnd fun cs => some (.agg cs) := (rfl)
theorem buildSlV_eq (sz g z len l) : buildSlV sz g z len l = (fillParts sz l (List.replicate len (if g then .agg z else z.headD .undef))).bnd fun es => some (.sl .full sz es) := (rfl)
theorem nilckV_eq (v) : nilckV v = (isNil v).bnd fun b => if b then none else some v := (rfl)
theorem isnilV_eq (kd neg v) : isnilV kd neg v = (nilK kd v).bnd fun b => some (.bool (if neg then !b else b)) := (rfl)
theorem makeV_eq (T z l c h) : makeV T z l c h = (makeN l c).bnd fun n => makeB T z n h := (rfl)
theorem copyV_bsl (base f b off len sz u h) : copyV base (.bsl f b off len sz) u h = (elems h u).bnd fun xs => (getBox h b).bnd fun cs =>
        if sz = 1 ∧ off + len ≤ cs.length ∧ xs.all scalar = true ∧ (b < base → belows 0 (xs.take len) = true)
        then some (.int .i64 (min xs.length len : Nat), setBox h b (setRange cs off (xs.take len))) else none := (rfl)
theorem copyV_nils (base u h) : copyV base .nils u h = (elems h u).bnd fun xs => some (.int .i64 0, h) := (rfl)
theorem bdW_none (n d) : bdW n d none = some d := (rfl)
theorem bdW_some (n d v) : bdW n d (some v) = bdV n v := (rfl)
theorem sliceV_str (lo hi s) : sliceV none lo hi none (.str s) = (bdW s.length s.length hi).bnd fun hh => (bdW hh 0 lo).bnd fun l => some (.str ((s.drop l).take (hh - l))) := (rfl)
theorem sliceV_nils (n lo hi mx) : sliceV (some n) lo hi mx .nils = (bdW 0 0 mx).bnd fun m => (bdW 0 0 hi).bnd fun hh => (bdW 0 0 lo).bnd fun l => some .nils := (rfl)
theorem sliceV_sl (n lo hi o es) : sliceV (some n) lo hi none (.sl o n es) = (bdW es.length es.length hi).bnd fun hh => (bdW hh 0 lo).bnd fun l =>
      some (.sl (if isFull o && hh == es.length then .full else .no) n ((es.drop l).take (hh - l))) := by
  simp [sliceV, bdW_none, Option.bnd_some]
theorem sliceV_bsl (n lo hi f b off len) : sliceV (some n) lo hi none (.bsl f b off len n) = (bdW len len hi).bnd fun hh => (bdW hh 0 lo).bnd fun l =>
      if hh - l = 0 then some (.sl .no n []) else some (.bsl (f && hh == len) b (off + l * n) (hh - l) n) := by
  simp [sliceV, bdW_none, Option.bnd_some]
theorem idxArrV_ptr (sz len b o i) : idxArrV sz len (.ptr b o) i = (ix i len).bnd fun i => some (.ptr b (o + i * sz)) := (rfl)
theorem idxArrV_ep (sz len b o i) : idxArrV sz len (.ep b o) i = (ix i len).bnd fun i => some (.ep b (o + i * sz)) := (rfl)
theorem idxAggV_agg (sz g len cs i) : idxAggV sz g len (.agg cs) i = (ix i len).bnd fun i => part cs (i * sz) sz g := (rfl)
theorem minmaxV_cons (m x r) : minmaxV m (x :: r) = minMax m x r := (rfl)
theorem appTV_eq (T sz v u h) : appTV T sz v u h = (elems h u).bnd fun xs => growT h T sz v xs := (rfl)
theorem loadNV_ptr (n g c o b off h) : loadNV n g (.ptr c o) (.ptr b off) h = if b = c then none else loadV n g (.ptr b off) h := (rfl)
theorem loadNV_ep (n g c o cs off h) : loadNV n g (.ptr c o) (.ep cs off) h = loadV n g (.ep cs off) h := (rfl)
theorem storeNV_ptr (base n c o b off u h) : storeNV base n (.ptr c o) (.ptr b off) u h = if b = c then storeV base n (.ptr b off) u h else none := (rfl)
theorem callvV_fn (orc f cap vs h) : callvV orc (.fn f cap) vs h = orc f (vs ++ cap) h := (rfl)
theorem chkK_eq {α : Type} (h) (y : Option α) : chkK h h y = y := by simp [chkK]
theorem finV_code (n0 vs h) : finV false false n0 vs h = (frzs n0 h vs).bnd fun vs => if belows n0 vs = true then some (result1 vs, trunc h n0) else none := (rfl)
theorem finV_keep (o n0 vs h) : finV true o n0 vs h = some (result1 vs, h) := (rfl)
theorem finV_own (n0 vs h) : finV false true n0 vs h = (ownEnd n0 h vs).bnd fun r => some (result1 r.1, r.2) := (rfl)
theorem appV_nils (sz u h) : appV sz .nils u h = (elems h u).bnd fun xs => if xs.all (fun x => x.cells.length == sz) then (if xs.length ≤ lim2 then some (if xs.isEmpty then .nils else .sl .no sz (strips xs)) else none) else none := (rfl)
theorem appV_full (sz es u h) : appV sz (.sl .full sz es) u h = (elems h u).bnd fun xs => if xs.all (fun x => x.cells.length == sz) then (if es.length + xs.length ≤ lim2 then some (if xs.isEmpty then .sl .full sz es else .sl .no sz (es ++ strips xs)) else none) else none := by
  unfold appV; simp
theorem bnd_some_id {α : Type} (x : Option α) : x.bnd some = x := by cases x <;> rfl
end Go.Am
namespace Go.Am
set_option maxRecDepth 100000
set_option linter.defProp false
def evD :=
  And.intro @bnd2_some <|
  And.intro @bnd2_none <|
  And.intro @bnd2_ite <|
  And.intro @Option.bnd_some <|
  And.intro @Option.bnd_none <|
  And.intro @Option.bnd_ite <|
  And.intro @condB_true <|
  And.intro @condB_false <|
  And.intro @condB_b <|
  And.intro @whenB_true <|
  And.intro @whenB_false <|
  @allocK_eq
def evU :=
  And.intro @Int.toNat_natCast <|
  And.intro @Nat.zero_add <|
  And.intro @Nat.add_zero <|
  And.intro @Nat.le_refl <|
  And.intro @Nat.succ_eq_add_one <|
  And.intro @Nat.add_eq_zero_iff <|
  And.intro @Nat.succ_ne_self <|
  And.intro @and_true <|
  And.intro @true_and <|
  And.intro @and_self <|
  And.intro @Bool.false_eq_true <|
  And.intro @Bool.true_and <|
  And.intro @Bool.and_true <|
  And.intro @Bool.and_self <|
  And.intro @Bool.not_true <|
  And.intro @Bool.not_false <|
  And.intro @Bool.not_not <|
  And.intro @Bool.true_beq <|
  And.intro @Bool.false_beq <|
  And.intro @beq_true <|
  And.intro @beq_false <|
  And.intro @imp_self <|
  And.intro @false_implies <|
  And.intro @decide_eq_true_eq <|
  And.intro @not_true_eq_false <|
  And.intro @not_false_eq_true <|
  And.intro @Bool.not_eq_true' <|
  And.intro @decide_true <|
  And.intro @decide_false <|
  And.intro @Bool.true_or <|
  And.intro @Bool.false_or <|
  And.intro @Bool.or_true <|
  And.intro @Bool.or_false <|
  And.intro @Bool.false_and <|
  And.intro @Bool.and_false <|
  And.intro @true_or <|
  And.intro @or_true <|
  And.intro @false_or <|
  And.intro @or_false <|
  And.intro @or_self <|
  And.intro @false_and <|
  And.intro @and_false <|
  And.intro @Nat.add_eq_left <|
  And.intro @Nat.left_eq_add <|
  And.intro @Nat.add_left_cancel_iff <|
  And.intro @size_ext <|
  And.intro @size_setBox <|
  And.intro @getBox_ext_0 <|
  And.intro @getBox_ext_n <|
  And.intro @ext_ext <|
  And.intro @trunc_ext <|
  And.intro @trunc_self <|
  And.intro @trunc_exts <|
  And.intro @trunc_set <|
  And.intro @not_lt_size <|
  And.intro @size_add_lt <|
  And.intro @strip_undef <|
  And.intro @strip_bool <|
  And.intro @strip_int <|
  And.intro @strip_str <|
  And.intro @strip_nilp <|
  And.intro @strip_bnil <|
  And.intro @strip_ptr <|
  And.intro @strip_ep <|
  And.intro @strip_nils <|
  And.intro @strip_bsl <|
  And.intro @strip_nilif <|
  And.intro @strip_iface <|
  And.intro @strip_nilf <|
  And.intro @strip_fn <|
  And.intro @strip_agg <|
  And.intro @strip_tup <|
  And.intro @cells_agg <|
  And.intro @cells_bool <|
  And.intro @cells_int <|
  And.intro @cells_str <|
  And.intro @cells_nilp <|
  And.intro @cells_bnil <|
  And.intro @cells_ptr <|
  And.intro @cells_nils <|
  And.intro @cells_sl <|
  And.intro @cells_bsl <|
  And.intro @cells_nilif <|
  And.intro @cells_iface <|
  And.intro @cells_nilf <|
  And.intro @cells_fn <|
  And.intro @isNil_nilp <|
  And.intro @isNil_bnil <|
  And.intro @isNil_nils <|
  And.intro @isNil_nilif <|
  And.intro @isNil_nilf <|
  And.intro @isNil_ptr <|
  And.intro @isNil_ep <|
  And.intro @isNil_sl <|
  And.intro @isNil_bsl <|
  And.intro @isNil_iface <|
  And.intro @isNil_fn <|
  And.intro @wantB_bool <|
  And.intro @wantB_undef <|
  And.intro @boolB_eq <|
  And.intro @boolB_ne <|
  And.intro @nilK_00 <|
  And.intro @nilK_0b <|
  And.intro @nilK_01 <|
  And.intro @nilK_10 <|
  And.intro @nilK_11 <|
  And.intro @nilK_12 <|
  And.intro @nilK_20 <|
  And.intro @nilK_21 <|
  And.intro @nilK_30 <|
  And.intro @nilK_31 <|
  And.intro @scalar_bool <|
  And.intro @scalar_int <|
  And.intro @scalar_str <|
  And.intro @scalar_nilp <|
  And.intro @scalar_bnil <|
  And.intro @scalar_ptr <|
  And.intro @scalar_nils <|
  And.intro @scalar_sl <|
  And.intro @scalar_bsl <|
  And.intro @scalar_nilif <|
  And.intro @scalar_iface <|
  And.intro @scalar_nilf <|
  And.intro @scalar_fn <|
  And.intro @bdV_int <|
  And.intro @isFull_no <|
  And.intro @isFull_full <|
  And.intro @isFull_tok <|
  And.intro @toIntB_int <|
  And.intro @extractB_tup <|
  And.intro @fieldAB_ptr <|
  And.intro @fieldAB_ep <|
  And.intro @fieldB_agg <|
  And.intro @lenB_str <|
  And.intro @lenB_nils <|
  And.intro @lenB_sl <|
  And.intro @lenB_bsl <|
  And.intro @idxAB_sl <|
  And.intro @idxAB_bsl <|
  And.intro @idxStrB_str <|
  And.intro @binOp_int <|
  And.intro @binOp_str <|
  And.intro @isShift_add <|
  And.intro @isShift_sub <|
  And.intro @isShift_mul <|
  And.intro @isShift_quo <|
  And.intro @isShift_rem <|
  And.intro @isShift_and <|
  And.intro @isShift_or <|
  And.intro @isShift_xor <|
  And.intro @isShift_andNot <|
  And.intro @isShift_eql <|
  And.intro @isShift_neq <|
  And.intro @isShift_lss <|
  And.intro @isShift_leq <|
  And.intro @isShift_gtr <|
  And.intro @isShift_geq <|
  And.intro @isShift_shl <|
  And.intro @isShift_shr <|
  And.intro @intOp_add <|
  And.intro @intOp_sub <|
  And.intro @intOp_mul <|
  And.intro @intOp_quo <|
  And.intro @intOp_rem <|
  And.intro @intOp_eql <|
  And.intro @intOp_neq <|
  And.intro @intOp_lss <|
  And.intro @intOp_leq <|
  And.intro @intOp_gtr <|
  And.intro @intOp_geq <|
  And.intro @strOp_eql <|
  And.intro @strOp_neq <|
  And.intro @strOp_add <|
  And.intro @unOp_not <|
  And.intro @unOp_neg <|
  And.intro @part_agg <|
  And.intro @part_one <|
  And.intro @minMax_nil <|
  And.intro @minMax_cons <|
  And.intro @minMax2_max <|
  And.intro @minMax2_min <|
  And.intro @belows_nil <|
  And.intro @belows_cons <|
  And.intro @below_undef <|
  And.intro @below_bool <|
  And.intro @below_int <|
  And.intro @below_str <|
  And.intro @below_nilp <|
  And.intro @below_bnil <|
  And.intro @below_nils <|
  And.intro @below_nilif <|
  And.intro @below_nilf <|
  And.intro @below_ptr <|
  And.intro @below_sl <|
  And.intro @below_iface <|
  And.intro @below_agg <|
  And.intro @below_tup <|
  And.intro @resB_ptr <|
  And.intro @result1_one <|
  And.intro @result1_nil <|
  And.intro @result1_two <|
  And.intro @setRange_nil <|
  And.intro @setRange_cons <|
  And.intro @fillParts_nil <|
  And.intro @fillParts_cons <|
  And.intro @buildAgg_nil <|
  And.intro @buildAgg_cons <|
  And.intro @elems_nils <|
  And.intro @elems_sl <|
  And.intro @elems_bsl <|
  And.intro @setBox_eq <|
  And.intro @size_setBx <|
  And.intro @cellsOf_cells <|
  And.intro @tokOf_tok <|
  And.intro @iterOf_iter <|
  And.intro @getBox_exts_0 <|
  And.intro @getBox_exts_n <|
  And.intro @setBx_ext_0 <|
  And.intro @setBx_ext_n <|
  And.intro @setBx_exts_0 <|
  And.intro @setBx_exts_n <|
  And.intro @setBx_setBx <|
  And.intro @getTok_ext_0 <|
  And.intro @getTok_ext_n <|
  And.intro @getTok_exts_0 <|
  And.intro @getTok_exts_n <|
  And.intro @getIter_ext_0 <|
  And.intro @getIter_ext_n <|
  And.intro @getIter_exts_0 <|
  And.intro @getIter_exts_n <|
  And.intro @strip_sl <|
  And.intro @ostrip_no <|
  And.intro @ostrip_full <|
  And.intro @ostrip_tok <|
  And.intro @obelow_no <|
  And.intro @obelow_full <|
  And.intro @obelow_tok <|
  And.intro @strips_nil <|
  And.intro @strips_cons <|
  And.intro @below_bsl <|
  And.intro @below_fn <|
  And.intro @below_ep <|
  And.intro @frzs_nil <|
  And.intro @frzs_cons <|
  And.intro @frz_sl <|
  And.intro @frz_bsl <|
  And.intro @frz_agg <|
  And.intro @frz_tup <|
  And.intro @frz_iface <|
  And.intro @frz_undef <|
  And.intro @frz_bool <|
  And.intro @frz_int <|
  And.intro @frz_str <|
  And.intro @frz_nilp <|
  And.intro @frz_bnil <|
  And.intro @frz_ptr <|
  And.intro @frz_ep <|
  And.intro @frz_nils <|
  And.intro @frz_nilif <|
  And.intro @frz_nilf <|
  And.intro @frz_fn <|
  And.intro @ownEnd_tok <|
  And.intro @ownEnd_bsl <|
  And.intro @ownEnd_nils <|
  And.intro @ownEnd_no <|
  And.intro @ownEnd_full <|
  And.intro @elemsOf_one <|
  And.intro @elems_str <|
  And.intro @fits_def <|
  And.intro @rangeB_str <|
  And.intro @nextB_it <|
  And.intro @tassertB_iface <|
  And.intro @tassertB_nil <|
  And.intro @eqvB_agg <|
  And.intro @eqCells_nil <|
  And.intro @eqCells_cons <|
  And.intro @eqCell_bool <|
  And.intro @eqCell_int <|
  And.intro @eqCell_str <|
  And.intro @makeB_eq <|
  And.intro @bytesStrB_sl <|
  And.intro @bytesStrB_nils <|
  And.intro @bytesStrB_bsl <|
  And.intro @bytesOf_bytes <|
  And.intro @loadV_ptr <|
  And.intro @loadV_ep <|
  And.intro @storeV_ptr <|
  And.intro @boxV_eq <|
  And.intro @buildV_eq <|
  And.intro @buildSlV_eq <|
  And.intro @nilckV_eq <|
  And.intro @isnilV_eq <|
  And.intro @makeV_eq <|
  And.intro @copyV_bsl <|
  And.intro @copyV_nils <|
  And.intro @bdW_none <|
  And.intro @bdW_some <|
  And.intro @sliceV_str <|
  And.intro @sliceV_nils <|
  And.intro @sliceV_sl <|
  And.intro @sliceV_bsl <|
  And.intro @idxArrV_ptr <|
  And.intro @idxArrV_ep <|
  And.intro @idxAggV_agg <|
  And.intro @minmaxV_cons <|
  And.intro @appTV_eq <|
  And.intro @loadNV_ptr <|
  And.intro @loadNV_ep <|
  And.intro @storeNV_ptr <|
  And.intro @callvV_fn <|
  And.intro @chkK_eq <|
  And.intro @finV_code <|
  And.intro @finV_keep <|
  And.intro @finV_own <|
  And.intro @appV_nils <|
  And.intro @appV_full <|
  @bnd_some_id
end Go.Am
namespace Go.Am
set_option linter.unusedVariables false
set_option linter.unusedSimpArgs false
theorem Bu.strips : ∀ l : List UInt8, strips (u8s l) = u8s l
  | [] => rfl
  | c :: l => by show strip _ :: Go.Am.strips (u8s l) = _; rw [Bu.strips l]; rfl
theorem Bu.len (l : List UInt8) : (u8s l).length = l.length := by simp [u8s]
theorem Bu.append (a b : List UInt8) : u8s a ++ u8s b = u8s (a ++ b) := by simp [u8s]
theorem Bu.bytesOf (l : List UInt8) : bytesOf (u8s l) = some l := bytesOf_bytes l
theorem Bu.ne {l : List UInt8} (h : l ≠ []) : u8s l ≠ [] := by cases l <;> simp_all [u8s]
theorem Bu.nil : u8s [] = [] := rfl
theorem Bu.cons (c : UInt8) (l : List UInt8) : u8s (c :: l) = .int .u8 c.toNat :: u8s l := rfl
theorem Bu.one (c : UInt8) : [PV.int .u8 (c.toNat : Int)] = u8s [c] := rfl
theorem Bu.eq_nil {l : List UInt8} : u8s l = [] ↔ l = [] := by cases l <;> simp [u8s]
theorem Bu.fits : ∀ l : List UInt8, (u8s l).all (fits 1) = true
  | [] => rfl
  | c :: l => by show (_ && List.all (u8s l) _) = true; rw [Bu.fits l]; rfl
theorem Bu.scalar : ∀ l : List UInt8, (u8s l).all scalar = true
  | [] => rfl
  | c :: l => by show (_ && List.all (u8s l) _) = true; rw [Bu.scalar l]; rfl
theorem Bu.below (n : Nat) : ∀ l : List UInt8, belows n (u8s l) = true
  | [] => rfl
  | c :: l => by show (_ && belows n (u8s l)) = true; rw [Bu.below n l]; rfl
theorem Bu.get {l : List UInt8} {i : Nat} {c : UInt8} (h : l[i]? = some c) : (u8s l)[i]? = some (.int .u8 c.toNat) := by simp [u8s, h]
theorem Bu.drop (l : List UInt8) (n : Nat) : (u8s l).drop n = u8s (l.drop n) := by simp [u8s]
theorem Bu.take (l : List UInt8) (n : Nat) : (u8s l).take n = u8s (l.take n) := by simp [u8s]
theorem Bu.ix {k : IntKind} {l : List UInt8} {i : Nat} (h : i < l.length) : ix (.int k i) (u8s l).length = some i := ix_nat k i _ (by rw [Bu.len]; exact h)

/-- A slice that grows: what it is (z: while there is nothing in it), and its token on top of the heap. -/
def gV (h : Hp) (z : PV) (sz : Nat) (es : List PV) : PV := if es.isEmpty then z else .sl (.tok (size h)) sz es
def gH (h : Hp) (T : Nat) (es : List PV) : Hp := if es.isEmpty then h else ext h [.tok es.length T]
/-- What may stand for nothing. -/
def gZ (sz : Nat) (z : PV) : Prop := z = .nils ∨ z = .sl .full sz []
theorem gZ_nils (sz : Nat) : gZ sz .nils := .inl rfl
theorem gZ_full (sz : Nat) : gZ sz (.sl .full sz []) := .inr rfl
theorem gV_nil (h z sz) : gV h z sz [] = z := rfl
theorem gH_nil (h T) : gH h T [] = h := rfl
theorem gGrow {h : Hp} {T sz : Nat} {z : PV} (hz : gZ sz z) (es xs : List PV) (hf : xs.all (fits sz) = true) (hs : strips xs = xs) (hl : es.length + xs.length ≤ lim2) :
    growT (gH h T es) T sz (gV h z sz es) xs = some (gV h z sz (es ++ xs), gH h T (es ++ xs)) := by
  unfold growT
  rw [if_pos hf]
  cases es with
  | nil =>
    simp only [gV_nil, gH_nil, List.nil_append]
    simp only [List.length_nil] at hl
    rcases hz with rfl | rfl
    · simp only
      rw [if_pos (by omega)]
      cases xs with
      | nil => rfl
      | cons x xs => simp only [List.isEmpty_cons, Bool.false_eq_true, if_false, gV, gH, hs]
    · simp only
      rw [if_pos (by simp; omega)]
      cases xs with
      | nil => rfl
      | cons x xs => simp only [List.isEmpty_cons, Bool.false_eq_true, if_false, gV, gH, hs, List.nil_append, List.length_nil, Nat.zero_add]
  | cons e es =>
    have e1 : gV h z sz (e :: es) = .sl (.tok (size h)) sz (e :: es) := rfl
    have e2 : gH h T (e :: es) = ext h [.tok (e :: es).length T] := rfl
    rw [e1, e2]
    simp only [getTok_ext_0, tokOf_tok, Option.bnd_some, hs]
    rw [if_pos ⟨trivial, trivial, hl⟩, setBx_ext_0]
    simp only [gV, gH, List.cons_append, List.isEmpty_cons, Bool.false_eq_true, if_false, List.length_cons, List.length_append, Nat.add_right_comm]
theorem gOne {h : Hp} {T : Nat} {z : PV} (hz : gZ 1 z) (out : List UInt8) (c : UInt8) (hl : out.length + 1 ≤ lim2) :
    growT (gH h T (u8s out)) T 1 (gV h z 1 (u8s out)) [.int .u8 c.toNat] = some (gV h z 1 (u8s (out ++ [c])), gH h T (u8s (out ++ [c]))) := by
  have := gGrow (h := h) (T := T) hz (u8s out) (u8s [c]) (Bu.fits [c]) (Bu.strips [c]) (by rw [Bu.len]; exact hl)
  rw [Bu.append] at this
  exact this
theorem gU8 {h : Hp} {T : Nat} {z : PV} (hz : gZ 1 z) (out l : List UInt8) (hl : out.length + l.length ≤ lim2) :
    growT (gH h T (u8s out)) T 1 (gV h z 1 (u8s out)) (u8s l) = some (gV h z 1 (u8s (out ++ l)), gH h T (u8s (out ++ l))) := by
  have := gGrow (h := h) (T := T) hz (u8s out) (u8s l) (Bu.fits l) (Bu.strips l) (by rw [Bu.len, Bu.len]; exact hl)
  rw [Bu.append] at this
  exact this
theorem size_gH (h T es) : size h ≤ size (gH h T es) := by
  unfold gH; split
  · exact Nat.le_refl _
  · rw [size_ext]; omega
theorem trunc_gH (h T es) : trunc (gH h T es) (size h) = h := by
  unfold gH; split
  · exact trunc_self
  · exact trunc_ext
/-- What has grown, behind its frame. -/
def gD (z : PV) (sz : Nat) (es : List PV) : PV := if es.isEmpty then z else .sl .no sz es
theorem frz_gV {sz : Nat} {z : PV} (hz : gZ sz z) (n : Nat) (h k : Hp) (es : List PV) : frz n k (gV h z sz es) = some (gD z sz es) := by
  unfold gV gD
  cases es with
  | nil => rcases hz with rfl | rfl <;> rfl
  | cons x xs => rfl
theorem below_gD {sz : Nat} {z : PV} (hz : gZ sz z) (n : Nat) (es : List PV) (hb : belows n es = true) : below n (gD z sz es) = true := by
  unfold gD
  cases es with
  | nil => rcases hz with rfl | rfl <;> rfl
  | cons x xs => simp only [List.isEmpty_cons, Bool.false_eq_true, if_false, below_sl, obelow_no, Bool.true_and, hb]
theorem elems_gV {sz : Nat} {z : PV} (hz : gZ sz z) (h k : Hp) (es : List PV) : elems k (gV h z sz es) = some es := by
  unfold gV
  cases es with
  | nil => rcases hz with rfl | rfl <;> rfl
  | cons x xs => rfl
theorem elems_gD {sz : Nat} {z : PV} (hz : gZ sz z) (k : Hp) (es : List PV) : elems k (gD z sz es) = some es := by
  unfold gD
  cases es with
  | nil => rcases hz with rfl | rfl <;> rfl
  | cons x xs => rfl
theorem len_gV {sz : Nat} {z : PV} (hz : gZ sz z) (h : Hp) (es : List PV) : lenB false (gV h z sz es) = some (.int .i64 es.length) := by
  unfold gV
  cases es with
  | nil => rcases hz with rfl | rfl <;> rfl
  | cons x xs => rfl
theorem len_gD {sz : Nat} {z : PV} (hz : gZ sz z) (es : List PV) : lenB false (gD z sz es) = some (.int .i64 es.length) := by
  unfold gD
  cases es with
  | nil => rcases hz with rfl | rfl <;> rfl
  | cons x xs => rfl
theorem bytes_gV {z : PV} (hz : gZ 1 z) (h k : Hp) (l : List UInt8) : bytesStrB k (gV h z 1 (u8s l)) = some (.str l) := by
  unfold gV
  cases l with
  | nil => rcases hz with rfl | rfl <;> rfl
  | cons x xs =>
    show (Go.Am.bytesOf (u8s (x :: xs))).bnd _ = _
    rw [Bu.bytesOf]; rfl
/-- Bytes as a value: nil, or a slice by value. -/
def Bv (b : PV) (l : List UInt8) : Prop := (b = .nils ∧ l = []) ∨ b = .sl .no 1 (u8s l) ∨ b = .sl .full 1 (u8s l)
theorem Bv.nils : Bv .nils [] := .inl ⟨rfl, rfl⟩
theorem Bv.no (l) : Bv (.sl .no 1 (u8s l)) l := .inr (.inl rfl)
theorem Bv.full (l) : Bv (.sl .full 1 (u8s l)) l := .inr (.inr rfl)
section
variable {b : PV} {l : List UInt8} (hb : Bv b l)
include hb
theorem Bv.len : lenB false b = some (.int .i64 l.length) := by
  rcases hb with ⟨rfl, rfl⟩ | rfl | rfl
  · rfl
  · rw [lenB_sl, Bu.len]
  · rw [lenB_sl, Bu.len]
theorem Bv.elems (h : Hp) : Go.Am.elems h b = some (u8s l) := by rcases hb with ⟨rfl, rfl⟩ | rfl | rfl <;> rfl
theorem Bv.idx {k : IntKind} {i : Nat} {c : UInt8} (hc : l[i]? = some c) : idxAB b (.int k i) 1 = some (.ep [.int .u8 c.toNat] 0) := by
  have hi := (List.getElem?_eq_some_iff.1 hc).1
  rcases hb with ⟨rfl, rfl⟩ | rfl | rfl
  · simp at hc
  · rw [idxAB_sl, if_pos rfl, Bu.ix hi, Option.bnd_some, Bu.get hc]; rfl
  · rw [idxAB_sl, if_pos rfl, Bu.ix hi, Option.bnd_some, Bu.get hc]; rfl
theorem Bv.scalar : Go.Am.scalar b = true := by rcases hb with ⟨rfl, rfl⟩ | rfl | rfl <;> rfl
theorem Bv.frz (n : Nat) (h : Hp) : Go.Am.frz n h b = some b := by rcases hb with ⟨rfl, rfl⟩ | rfl | rfl <;> rfl
theorem Bv.strip : Go.Am.strip b = b := by rcases hb with ⟨rfl, rfl⟩ | rfl | rfl <;> rfl
theorem Bv.below (n : Nat) : Go.Am.below n b = true := by
  rcases hb with ⟨rfl, rfl⟩ | rfl | rfl
  · rfl
  · rw [below_sl, Bu.below]; rfl
  · rw [below_sl, Bu.below]; rfl
theorem Bv.cells : b.cells = [b] := by rcases hb with ⟨rfl, rfl⟩ | rfl | rfl <;> rfl
end
theorem Bv.done {z : PV} (hz : gZ 1 z) (l : List UInt8) : Bv (gD z 1 (u8s l)) l := by
  unfold gD
  cases l with
  | nil => rcases hz with rfl | rfl
           · exact .inl ⟨rfl, rfl⟩
           · exact .inr (.inr rfl)
  | cons x xs => exact .inr (.inl rfl)
/-- Bytes that can be read. -/
structure Rd (b : PV) (l : List UInt8) : Prop where
  len : lenB false b = some (.int .i64 l.length)
  idx : ∀ {k : IntKind} {i : Nat} {c : UInt8}, l[i]? = some c → idxAB b (.int k i) 1 = some (.ep [.int .u8 c.toNat] 0)
  elems : ∀ h, Go.Am.elems h b = some (u8s l)
theorem Bv.rd {b : PV} {l : List UInt8} (hb : Bv b l) : Rd b l := ⟨hb.len, hb.idx, hb.elems⟩
theorem rd_sl (o : Own) (l : List UInt8) : Rd (.sl o 1 (u8s l)) l := by
  refine ⟨by rw [lenB_sl, Bu.len], fun {k i c} hc => ?_, fun h => rfl⟩
  have hi := (List.getElem?_eq_some_iff.1 hc).1
  rw [idxAB_sl, if_pos rfl, Bu.ix hi, Option.bnd_some, Bu.get hc]; rfl
theorem gV_rd {z : PV} (hz : gZ 1 z) (h : Hp) (l : List UInt8) : Rd (gV h z 1 (u8s l)) l := by
  cases l with
  | nil =>
    rcases hz with rfl | rfl
    · exact Bv.nils.rd
    · exact (Bv.full []).rd
  | cons x l => exact rd_sl _ (x :: l)
end Go.Am
namespace Go.Am
set_option linter.unusedVariables false
set_option linter.unusedSimpArgs false
/-- A form of elements: so many cells, no box. -/
structure El {α : Type} (e : α → PV) (sz : Nat) : Prop where
  len : ∀ a, (e a).cells.length = sz
  sc : ∀ a, (e a).cells.all scalar = true
  st : ∀ a, strip (e a) = e a
  be : ∀ n a, below n (e a) = true
def eI (n : Int) : PV := .int .i64 n
def eS (s : List UInt8) : PV := .str s
def eB (c : UInt8) : PV := .int .u8 c.toNat
theorem elI : El eI 1 := ⟨fun _ => rfl, fun _ => rfl, fun _ => rfl, fun _ _ => rfl⟩
theorem elS : El eS 1 := ⟨fun _ => rfl, fun _ => rfl, fun _ => rfl, fun _ _ => rfl⟩
theorem elB : El eB 1 := ⟨fun _ => rfl, fun _ => rfl, fun _ => rfl, fun _ _ => rfl⟩
section
variable {α : Type} {e : α → PV} {sz : Nat}
theorem El.fits (he : El e sz) (l : List α) : (l.map e).all (fits sz) = true := by
  induction l with
  | nil => rfl
  | cons a l ih =>
    simp only [List.map_cons, List.all_cons, ih, Bool.and_true, fits_def, he.len, he.sc, beq_self_eq_true]
theorem El.strips (he : El e sz) (l : List α) : strips (l.map e) = l.map e := by
  induction l with
  | nil => rfl
  | cons a l ih => simp only [List.map_cons, strips_cons, he.st, ih]
theorem El.belows (he : El e sz) (n : Nat) (l : List α) : belows n (l.map e) = true := by
  induction l with
  | nil => rfl
  | cons a l ih => simp only [List.map_cons, belows_cons, he.be, ih, Bool.and_self]
theorem El.scalars (he : El e 1) (hc : ∀ a, (e a).cells = [e a]) (l : List α) : (l.map e).all scalar = true := by
  induction l with
  | nil => rfl
  | cons a l ih =>
    have := he.sc a
    rw [hc a] at this
    simp only [List.all_cons, List.all_nil, Bool.and_true] at this
    simp only [List.map_cons, List.all_cons, ih, this, Bool.and_self]
/-- A list as a value: nil, or a slice by value. -/
def Lv (e : α → PV) (sz : Nat) (b : PV) (l : List α) : Prop := (b = .nils ∧ l = []) ∨ b = .sl .no sz (l.map e) ∨ b = .sl .full sz (l.map e)
theorem Lv.nils : Lv e sz .nils [] := .inl ⟨rfl, rfl⟩
theorem Lv.no (l : List α) : Lv e sz (.sl .no sz (l.map e)) l := .inr (.inl rfl)
theorem Lv.full (l : List α) : Lv e sz (.sl .full sz (l.map e)) l := .inr (.inr rfl)
/-- A list that can be read. -/
structure Rl (e : α → PV) (sz : Nat) (b : PV) (l : List α) : Prop where
  len : lenB false b = some (.int .i64 l.length)
  idx : ∀ {k : IntKind} {i : Nat} {a : α}, l[i]? = some a → idxAB b (.int k i) sz = some (.ep (e a).cells 0)
  elems : ∀ h, Go.Am.elems h b = some (l.map e)
theorem rl_sl (o : Own) (l : List α) : Rl e sz (.sl o sz (l.map e)) l := by
  refine ⟨by rw [lenB_sl, List.length_map], fun {k i a} hc => ?_, fun h => rfl⟩
  have hi := (List.getElem?_eq_some_iff.1 hc).1
  rw [idxAB_sl, if_pos rfl, ix_nat k i _ (by rw [List.length_map]; exact hi), Option.bnd_some, List.getElem?_map, hc]; rfl
theorem rl_nils : Rl e sz .nils [] := ⟨rfl, fun {k i a} hc => by simp at hc, fun h => rfl⟩
section
variable {b : PV} {l : List α} (hb : Lv e sz b l)
include hb
theorem Lv.rl : Rl e sz b l := by
  rcases hb with ⟨rfl, rfl⟩ | rfl | rfl
  · exact rl_nils
  · exact rl_sl _ _
  · exact rl_sl _ _
theorem Lv.len : lenB false b = some (.int .i64 l.length) := hb.rl.len
theorem Lv.idx {k : IntKind} {i : Nat} {a : α} (ha : l[i]? = some a) : idxAB b (.int k i) sz = some (.ep (e a).cells 0) := hb.rl.idx ha
theorem Lv.elems (h : Hp) : Go.Am.elems h b = some (l.map e) := hb.rl.elems h
theorem Lv.scalar : Go.Am.scalar b = true := by rcases hb with ⟨rfl, rfl⟩ | rfl | rfl <;> rfl
theorem Lv.frz (n : Nat) (h : Hp) : Go.Am.frz n h b = some b := by rcases hb with ⟨rfl, rfl⟩ | rfl | rfl <;> rfl
theorem Lv.strip : Go.Am.strip b = b := by rcases hb with ⟨rfl, rfl⟩ | rfl | rfl <;> rfl
theorem Lv.cells : b.cells = [b] := by rcases hb with ⟨rfl, rfl⟩ | rfl | rfl <;> rfl
theorem Lv.below (he : El e sz) (n : Nat) : Go.Am.below n b = true := by
  rcases hb with ⟨rfl, rfl⟩ | rfl | rfl
  · rfl
  · rw [below_sl, he.belows]; rfl
  · rw [below_sl, he.belows]; rfl
end
theorem gV_rl {z : PV} (hz : gZ sz z) (h : Hp) (l : List α) : Rl e sz (gV h z sz (l.map e)) l := by
  cases l with
  | nil =>
    rcases hz with rfl | rfl
    · exact rl_nils
    · exact rl_sl .full []
  | cons x l => exact rl_sl _ (x :: l)
theorem Lv.done {z : PV} (hz : gZ sz z) (l : List α) : Lv e sz (gD z sz (l.map e)) l := by
  unfold gD
  cases l with
  | nil =>
    rcases hz with rfl | rfl
    · exact .inl ⟨rfl, rfl⟩
    · exact .inr (.inr rfl)
  | cons x xs => exact .inr (.inl rfl)
theorem gOneL {h : Hp} {T : Nat} {z : PV} (he : El e sz) (hz : gZ sz z) (l : List α) (a : α) (hl : l.length + 1 ≤ lim2) :
    growT (gH h T (l.map e)) T sz (gV h z sz (l.map e)) [e a] = some (gV h z sz ((l ++ [a]).map e), gH h T ((l ++ [a]).map e)) := by
  have := gGrow (h := h) (T := T) hz (l.map e) ([a].map e) (he.fits [a]) (he.strips [a]) (by simpa using hl)
  rw [← List.map_append] at this
  exact this
theorem gAllL {h : Hp} {T : Nat} {z : PV} (he : El e sz) (hz : gZ sz z) (l m : List α) (hl : l.length + m.length ≤ lim2) :
    growT (gH h T (l.map e)) T sz (gV h z sz (l.map e)) (m.map e) = some (gV h z sz ((l ++ m).map e), gH h T ((l ++ m).map e)) := by
  have := gGrow (h := h) (T := T) hz (l.map e) (m.map e) (he.fits m) (he.strips m) (by simpa using hl)
  rw [← List.map_append] at this
  exact this
end
theorem beq_false' {a b : Int} (h : a ≠ b) : (a == b) = false := by simpa using h
theorem bne_true' {a b : Int} (h : a ≠ b) : (a != b) = true := by simpa using h
theorem u8_beq (x y : UInt8) : ((x.toNat : Int) == (y.toNat : Int)) = (x == y) := by
  by_cases h : x = y
  · subst h; simp
  · have h1 : (x == y) = false := by simpa using h
    rw [h1, beq_eq_false_iff_ne]
    intro q
    exact h (UInt8.toNat_inj.1 (by omega))
theorem u8_bne (x y : UInt8) : ((x.toNat : Int) != (y.toNat : Int)) = (x != y) := by
  show (!((x.toNat : Int) == (y.toNat : Int))) = _
  rw [u8_beq]; rfl
theorem tmodN (a b : Nat) : (a : Int).tmod (b : Int) = ((a % b : Nat) : Int) := (Int.ofNat_tmod a b).symm
theorem trunc_ext_ge {k : Hp} (l : List Box) {n : Nat} (hn : n ≤ size k) : trunc (ext k l) n = trunc k n := by
  simp only [trunc, ext, size] at *
  exact List.take_append_of_le_length hn
end Go.Am
namespace Go.Am
set_option linter.unusedVariables false
set_option linter.unusedSimpArgs false
structure GS (h : Hp) (T sz : Nat) (z v : PV) (es : List PV) (H : Hp) : Prop where
  tr : trunc H (size h) = h
  le : size h ≤ size H
  va : (es = [] ∧ v = z) ∨ (es ≠ [] ∧ ∃ t, v = .sl (.tok t) sz es ∧ size h ≤ t ∧ t < size H ∧ getTok H t = some (es.length, T))
section
variable {h H : Hp} {T sz : Nat} {z v : PV} {es : List PV}
theorem GS.zero (h : Hp) (T sz : Nat) (z : PV) : GS h T sz z z [] h := ⟨by simp [trunc, size], Nat.le_refl _, .inl ⟨rfl, rfl⟩⟩
theorem box_ext (H l : Hp) {t : Nat} (ht : t < size H) : box? (ext H l) t = box? H t := by
  simp only [box?, ext, size] at *
  rw [List.getElem?_append_left ht]
theorem GS.ext (g : GS h T sz z v es H) (l : List Box) : GS h T sz z v es (ext H l) := by
  refine ⟨by rw [trunc_ext_ge l g.le]; exact g.tr, by have := g.le; simp only [size, Go.Am.ext, List.length_append] at *; omega, ?_⟩
  rcases g.va with a | ⟨a, t, b, c, d, e⟩
  · exact .inl a
  · refine .inr ⟨a, t, b, c, by simp only [size, Go.Am.ext, List.length_append] at *; omega, ?_⟩
    unfold getTok at *
    rw [box_ext H l d]; exact e
theorem GS.set (g : GS h T sz z v es H) {b : Nat} {cs cs' : List PV} (hb : getBox H b = some cs) (hn : size h ≤ b) : GS h T sz z v es (setBox H b cs') := by
  refine ⟨by have := g.tr; simp only [trunc, setBox, setBx] at *; rw [List.take_set_of_le hn]; exact this, by have := g.le; simp only [size, setBox, setBx, List.length_set] at *; exact this, ?_⟩
  rcases g.va with a | ⟨a, t, q, c, d, e⟩
  · exact .inl a
  · refine .inr ⟨a, t, q, c, by simpa only [size, setBox, setBx, List.length_set] using d, ?_⟩
    have hne : b ≠ t := by
      rintro rfl
      unfold getTok at e
      unfold getBox at hb
      cases hq : box? H b with
      | none => rw [hq] at hb; cases hb
      | some x =>
        rw [hq] at hb e
        cases x <;> simp [Option.bnd, cellsOf, tokOf] at hb e
    unfold getTok at *
    simp only [box?, setBox, setBx] at *
    rw [List.getElem?_set_ne hne]; exact e
theorem GS.grow (g : GS h T sz z v es H) (hz : gZ sz z) {x : PV} (hf : fits sz x = true) (hs : strip x = x) (hl : es.length + 1 ≤ lim2) :
    ∃ v' H', growT H T sz v [x] = some (v', H') ∧ GS h T sz z v' (es ++ [x]) H' := by
  have hff : [x].all (fits sz) = true := by simp [hf]
  have hss : strips [x] = [x] := by rw [strips, hs]; rfl
  rcases g.va with ⟨rfl, rfl⟩ | ⟨hne, t, rfl, c, d, e⟩
  · refine ⟨.sl (.tok (size H)) sz [x], Go.Am.ext H [.tok 1 T], ?_, ?_⟩
    · unfold growT
      rw [if_pos hff]
      simp only [List.length_nil] at hl
      rcases hz with rfl | rfl
      · simp only
        rw [if_pos (by simpa using hl), hss]; rfl
      · simp only
        rw [if_pos (by simpa using hl), hss]; rfl
    · refine ⟨by rw [trunc_ext_ge _ g.le]; exact g.tr, by have := g.le; simp only [size, Go.Am.ext, List.length_append] at *; omega, .inr ⟨by simp, size H, rfl, g.le, by simp [size, Go.Am.ext], ?_⟩⟩
      simp [getTok, box?, size, Go.Am.ext, Option.bnd, tokOf]
  · refine ⟨.sl (.tok t) sz (es ++ [x]), setBx H t (.tok (es.length + 1) T), ?_, ?_⟩
    · unfold growT
      rw [if_pos hff]
      simp only [e, Option.bnd]
      rw [if_pos (by simpa using hl), hss]; rfl
    · refine ⟨by have := g.tr; simp only [trunc, setBx] at *; rw [List.take_set_of_le c]; exact this, by have := g.le; simp only [size, setBx, List.length_set] at *; exact this, .inr ⟨by simp, t, rfl, c, by simpa only [size, setBx, List.length_set] using d, ?_⟩⟩
      have hd : t < H.length := d
      simp [getTok, box?, setBx, List.getElem?_set_self hd, Option.bnd, tokOf]
theorem GS.frz (g : GS h T sz z v es H) (hz : gZ sz z) (n : Nat) (k : Hp) : frz n k v = some (gD z sz es) := by
  rcases g.va with ⟨rfl, rfl⟩ | ⟨hne, t, rfl, _⟩
  · rcases hz with rfl | rfl <;> rfl
  · cases es with
    | nil => exact (hne rfl).elim
    | cons x xs => rfl
end
theorem GS.rl {α : Type} {e : α → PV} {h H : Hp} {T sz : Nat} {z v : PV} {l : List α} (g : GS h T sz z v (l.map e) H) (hz : gZ sz z) : Rl e sz v l := by
  rcases g.va with ⟨a, rfl⟩ | ⟨hne, t, rfl, _⟩
  · have : l = [] := by simpa using a
    subst this
    rcases hz with rfl | rfl
    · exact rl_nils
    · exact rl_sl .full []
  · exact rl_sl _ _
end Go.Am
namespace Go.Am.Ytlmfmjmpfcaliaa
set_option maxRecDepth 100000
set_option linter.unusedVariables false
set_option linter.unusedSimpArgs false
set_option linter.unusedSectionVars false
abbrev i64 (n : Int) : PV := .int .i64 n
/-- A life, as both packages keep it. -/
structure Lf where
  st : Int
  known : Bool
  life : Int
  pl : PV
  now : Int
  next : Int
def bx (l : Lf) : List PV := [i64 l.st, .bool l.known, i64 l.life, l.pl, i64 l.now, i64 l.next]
theorem bx_eq (l : Lf) : bx l = [i64 l.st, .bool l.known, i64 l.life, l.pl, i64 l.now, i64 l.next] := (rfl)
def maxI (x y : Int) : Int := if y > x then y else x
theorem maxI_eq (x y : Int) : maxI x y = if y > x then y else x := (rfl)
def minI (x y : Int) : Int := if y < x then y else x
theorem minI_eq (x y : Int) : minI x y = if y < x then y else x := (rfl)
def w64 (n : Int) : Int := IntKind.i64.wrap n
def waitL (l : Lf) (s t : Int) : Lf := { l with st := s, next := minI (w64 (l.now + t)) 1099511627776 }
def passL (l : Lf) (now : Int) : Lf := { l with now := minI (maxI now l.now) 1099511627776 }
def restL (l : Lf) : Lf := waitL { l with pl := .nils } 7 60
def joinedL (l : Lf) : Lf := waitL l 4 (maxI (w64 (l.life - maxI (w64 (l.life.tdiv 10)) 1)) 1)
def lifeL (n : Int) : Int := minI (maxI n 1) 86400
def beginL (l : Lf) : Lf × Int := if l.known then ({ l with pl := .nils, st := 3 }, 2) else ({ l with pl := .nils, st := 1 }, 1)
def offL (l : Lf) : Lf := { l with st := 0, pl := .nils }
def renewedL (l : Lf) (code : Int) : Lf × Int := if code = 68 then (joinedL l, 0) else if code = 132 then ({ l with pl := .nils, st := 3 }, 2) else (restL l, 0)
def timedL (l : Lf) : Bool := l.st == 2 || (l.st == 4 || l.st == 7)

section
variable {h : Hp} {b base : Nat} {l : Lf} (hb : getBox h b = some (bx l)) (hbl : b < size h)
include hb hbl
theorem wait_spec (s t : Int) : CallA T base 36 [.ptr b 0, i64 s, i64 t] h = some (i64 0, setBx h b (.cells (bx (waitL l s t)))) := by
  rw [bx_eq] at *
  rw [S36]
  simp only [hb, getBox_set_same hbl, hbl, ↓evD, evU, Nat.reduceAdd, Nat.reduceSub, Nat.reduceMul, Nat.reduceLeDiff, Nat.reduceLT, Nat.reduceEqDiff, Nat.reduceBEq, reduceIte, reduceCtorEq, Int.reduceBEq, Int.reduceEq, Int.reduceLT, Int.reduceLE, Int.reduceGT, Int.reduceGE, Int.reduceAdd, Int.reduceSub, Int.reduceNeg, Int.reduceBNe, List.all_cons, List.all_nil, List.getElem?_cons_zero, List.getElem?_cons_succ, List.getElem?_nil, Option.map_some, List.length_cons, List.length_nil, List.set_cons_zero, List.set_cons_succ, List.map_cons, List.map_nil, List.drop_zero, List.drop_succ_cons, List.drop_nil, List.take_zero, List.take_succ_cons, List.take_nil, ite_true, ite_false, if_true, if_false, implies_true, forall_const, beq_self_eq_true, List.replicate_succ, List.replicate_zero, List.headD_cons, List.cons_append, List.nil_append, bne_self_eq_false, waitL, minI, w64, i64]
  try rfl
theorem pass_spec (now : Int) : CallA T base 33 [.ptr b 0, i64 now] h = some (.tup [], setBx h b (.cells (bx (passL l now)))) := by
  rw [bx_eq] at *
  rw [S33]
  simp only [hb, getBox_set_same hbl, hbl, ↓evD, evU, Nat.reduceAdd, Nat.reduceSub, Nat.reduceMul, Nat.reduceLeDiff, Nat.reduceLT, Nat.reduceEqDiff, Nat.reduceBEq, reduceIte, reduceCtorEq, Int.reduceBEq, Int.reduceEq, Int.reduceLT, Int.reduceLE, Int.reduceGT, Int.reduceGE, Int.reduceAdd, Int.reduceSub, Int.reduceNeg, Int.reduceBNe, List.all_cons, List.all_nil, List.getElem?_cons_zero, List.getElem?_cons_succ, List.getElem?_nil, Option.map_some, List.length_cons, List.length_nil, List.set_cons_zero, List.set_cons_succ, List.map_cons, List.map_nil, List.drop_zero, List.drop_succ_cons, List.drop_nil, List.take_zero, List.take_succ_cons, List.take_nil, ite_true, ite_false, if_true, if_false, implies_true, forall_const, beq_self_eq_true, List.replicate_succ, List.replicate_zero, List.headD_cons, List.cons_append, List.nil_append, bne_self_eq_false, passL, minI, maxI, i64]
  try rfl
theorem begin_spec : CallA T base 35 [.ptr b 0] h = some (i64 (beginL l).2, setBx h b (.cells (bx (beginL l).1))) := by
  rw [bx_eq] at *
  rw [S35]
  cases hk : l.known <;> (rw [hk] at hb; simp only [hb, getBox_set_same hbl, hbl, ↓evD, evU, Nat.reduceAdd, Nat.reduceSub, Nat.reduceMul, Nat.reduceLeDiff, Nat.reduceLT, Nat.reduceEqDiff, Nat.reduceBEq, reduceIte, reduceCtorEq, Int.reduceBEq, Int.reduceEq, Int.reduceLT, Int.reduceLE, Int.reduceGT, Int.reduceGE, Int.reduceAdd, Int.reduceSub, Int.reduceNeg, Int.reduceBNe, List.all_cons, List.all_nil, List.getElem?_cons_zero, List.getElem?_cons_succ, List.getElem?_nil, Option.map_some, List.length_cons, List.length_nil, List.set_cons_zero, List.set_cons_succ, List.map_cons, List.map_nil, List.drop_zero, List.drop_succ_cons, List.drop_nil, List.take_zero, List.take_succ_cons, List.take_nil, ite_true, ite_false, if_true, if_false, implies_true, forall_const, beq_self_eq_true, List.replicate_succ, List.replicate_zero, List.headD_cons, List.cons_append, List.nil_append, bne_self_eq_false, beginL, hk])
theorem off_spec : CallA T base 40 [.ptr b 0] h = some (i64 0, setBx h b (.cells (bx (offL l)))) := by
  rw [bx_eq] at *
  rw [S40]
  simp only [hb, getBox_set_same hbl, hbl, ↓evD, evU, Nat.reduceAdd, Nat.reduceSub, Nat.reduceMul, Nat.reduceLeDiff, Nat.reduceLT, Nat.reduceEqDiff, Nat.reduceBEq, reduceIte, reduceCtorEq, Int.reduceBEq, Int.reduceEq, Int.reduceLT, Int.reduceLE, Int.reduceGT, Int.reduceGE, Int.reduceAdd, Int.reduceSub, Int.reduceNeg, Int.reduceBNe, List.all_cons, List.all_nil, List.getElem?_cons_zero, List.getElem?_cons_succ, List.getElem?_nil, Option.map_some, List.length_cons, List.length_nil, List.set_cons_zero, List.set_cons_succ, List.map_cons, List.map_nil, List.drop_zero, List.drop_succ_cons, List.drop_nil, List.take_zero, List.take_succ_cons, List.take_nil, ite_true, ite_false, if_true, if_false, implies_true, forall_const, beq_self_eq_true, List.replicate_succ, List.replicate_zero, List.headD_cons, List.cons_append, List.nil_append, bne_self_eq_false, offL]
theorem state_spec : CallA T base 14 [.ptr b 0] h = some (i64 l.st, h) := by
  rw [bx_eq] at *
  rw [S14]
  simp only [hb, getBox_set_same hbl, hbl, ↓evD, evU, Nat.reduceAdd, Nat.reduceSub, Nat.reduceMul, Nat.reduceLeDiff, Nat.reduceLT, Nat.reduceEqDiff, Nat.reduceBEq, reduceIte, reduceCtorEq, Int.reduceBEq, Int.reduceEq, Int.reduceLT, Int.reduceLE, Int.reduceGT, Int.reduceGE, Int.reduceAdd, Int.reduceSub, Int.reduceNeg, Int.reduceBNe, List.all_cons, List.all_nil, List.getElem?_cons_zero, List.getElem?_cons_succ, List.getElem?_nil, Option.map_some, List.length_cons, List.length_nil, List.set_cons_zero, List.set_cons_succ, List.map_cons, List.map_nil, List.drop_zero, List.drop_succ_cons, List.drop_nil, List.take_zero, List.take_succ_cons, List.take_nil, ite_true, ite_false, if_true, if_false, implies_true, forall_const, beq_self_eq_true, List.replicate_succ, List.replicate_zero, List.headD_cons, List.cons_append, List.nil_append, bne_self_eq_false]
theorem timed_spec : CallA T base 31 [.ptr b 0] h = some (.bool (timedL l), h) := by
  rw [bx_eq] at *
  rw [S31]
  simp only [hb, getBox_set_same hbl, hbl, ↓evD, evU, Nat.reduceAdd, Nat.reduceSub, Nat.reduceMul, Nat.reduceLeDiff, Nat.reduceLT, Nat.reduceEqDiff, Nat.reduceBEq, reduceIte, reduceCtorEq, Int.reduceBEq, Int.reduceEq, Int.reduceLT, Int.reduceLE, Int.reduceGT, Int.reduceGE, Int.reduceAdd, Int.reduceSub, Int.reduceNeg, Int.reduceBNe, List.all_cons, List.all_nil, List.getElem?_cons_zero, List.getElem?_cons_succ, List.getElem?_nil, Option.map_some, List.length_cons, List.length_nil, List.set_cons_zero, List.set_cons_succ, List.map_cons, List.map_nil, List.drop_zero, List.drop_succ_cons, List.drop_nil, List.take_zero, List.take_succ_cons, List.take_nil, ite_true, ite_false, if_true, if_false, implies_true, forall_const, beq_self_eq_true, List.replicate_succ, List.replicate_zero, List.headD_cons, List.cons_append, List.nil_append, bne_self_eq_false]
  cases h2 : (l.st == 2) <;> cases h4 : (l.st == 4) <;> simp only [hb, hbl, h2, h4, ↓evD, evU, Nat.reduceAdd, Nat.reduceSub, Nat.reduceMul, Nat.reduceLeDiff, Nat.reduceLT, Nat.reduceEqDiff, Nat.reduceBEq, reduceIte, reduceCtorEq, Int.reduceBEq, Int.reduceEq, Int.reduceLT, Int.reduceLE, Int.reduceGT, Int.reduceGE, Int.reduceAdd, Int.reduceSub, Int.reduceNeg, Int.reduceBNe, List.all_cons, List.all_nil, List.getElem?_cons_zero, List.getElem?_cons_succ, List.getElem?_nil, Option.map_some, List.length_cons, List.length_nil, List.set_cons_zero, List.set_cons_succ, List.map_cons, List.map_nil, List.drop_zero, List.drop_succ_cons, List.drop_nil, List.take_zero, List.take_succ_cons, List.take_nil, ite_true, ite_false, if_true, if_false, implies_true, forall_const, beq_self_eq_true, List.replicate_succ, List.replicate_zero, List.headD_cons, List.cons_append, List.nil_append, bne_self_eq_false, timedL]
omit hb hbl in
theorem getBox_self {c} (hbl : b < size h) : getBox (setBx h b (.cells c)) b = some c := getBox_set_same hbl
theorem rest_spec : CallA T base 37 [.ptr b 0] h = some (i64 0, setBx h b (.cells (bx (restL l)))) := by
  have hw := fun (base : Nat) => wait_spec (base := base) (h := setBx h b (.cells (bx { l with pl := .nils }))) (b := b) (l := { l with pl := .nils }) (getBox_set_same hbl) (by rw [size_setBx]; exact hbl) 7 60
  rw [setBx_setBx] at hw
  simp only [bx_eq] at *
  rw [S37]
  simp only [hb, getBox_set_same hbl, hbl, ↓evD, evU, Nat.reduceAdd, Nat.reduceSub, Nat.reduceMul, Nat.reduceLeDiff, Nat.reduceLT, Nat.reduceEqDiff, Nat.reduceBEq, reduceIte, reduceCtorEq, Int.reduceBEq, Int.reduceEq, Int.reduceLT, Int.reduceLE, Int.reduceGT, Int.reduceGE, Int.reduceAdd, Int.reduceSub, Int.reduceNeg, Int.reduceBNe, List.all_cons, List.all_nil, List.getElem?_cons_zero, List.getElem?_cons_succ, List.getElem?_nil, Option.map_some, List.length_cons, List.length_nil, List.set_cons_zero, List.set_cons_succ, List.map_cons, List.map_nil, List.drop_zero, List.drop_succ_cons, List.drop_nil, List.take_zero, List.take_succ_cons, List.take_nil, ite_true, ite_false, if_true, if_false, implies_true, forall_const, beq_self_eq_true, List.replicate_succ, List.replicate_zero, List.headD_cons, List.cons_append, List.nil_append, bne_self_eq_false, hw, restL]
theorem joined_spec : CallA T base 47 [.ptr b 0] h = some (i64 0, setBx h b (.cells (bx (joinedL l)))) := by
  have hw := fun (base : Nat) t => wait_spec (base := base) hb hbl 4 t
  rw [S47]
  rw [bx_eq] at hb
  simp only [hb, getBox_set_same hbl, hbl, ↓evD, evU, Nat.reduceAdd, Nat.reduceSub, Nat.reduceMul, Nat.reduceLeDiff, Nat.reduceLT, Nat.reduceEqDiff, Nat.reduceBEq, reduceIte, reduceCtorEq, Int.reduceBEq, Int.reduceEq, Int.reduceLT, Int.reduceLE, Int.reduceGT, Int.reduceGE, Int.reduceAdd, Int.reduceSub, Int.reduceNeg, Int.reduceBNe, List.all_cons, List.all_nil, List.getElem?_cons_zero, List.getElem?_cons_succ, List.getElem?_nil, Option.map_some, List.length_cons, List.length_nil, List.set_cons_zero, List.set_cons_succ, List.map_cons, List.map_nil, List.drop_zero, List.drop_succ_cons, List.drop_nil, List.take_zero, List.take_succ_cons, List.take_nil, ite_true, ite_false, if_true, if_false, implies_true, forall_const, beq_self_eq_true, List.replicate_succ, List.replicate_zero, List.headD_cons, List.cons_append, List.nil_append, bne_self_eq_false, hw, joinedL, maxI_eq, w64, i64]
  try rfl
theorem renewed_spec (code : Int) : CallA T base 39 [.ptr b 0, i64 code] h = some (i64 (renewedL l code).2, setBx h b (.cells (bx (renewedL l code).1))) := by
  have hj := fun (base : Nat) => joined_spec (base := base) hb hbl
  have hr := fun (base : Nat) => rest_spec (base := base) hb hbl
  rw [S39]
  rw [bx_eq] at hb
  by_cases h1 : code = 68
  · subst h1
    simp only [hb, getBox_set_same hbl, hbl, ↓evD, evU, Nat.reduceAdd, Nat.reduceSub, Nat.reduceMul, Nat.reduceLeDiff, Nat.reduceLT, Nat.reduceEqDiff, Nat.reduceBEq, reduceIte, reduceCtorEq, Int.reduceBEq, Int.reduceEq, Int.reduceLT, Int.reduceLE, Int.reduceGT, Int.reduceGE, Int.reduceAdd, Int.reduceSub, Int.reduceNeg, Int.reduceBNe, List.all_cons, List.all_nil, List.getElem?_cons_zero, List.getElem?_cons_succ, List.getElem?_nil, Option.map_some, List.length_cons, List.length_nil, List.set_cons_zero, List.set_cons_succ, List.map_cons, List.map_nil, List.drop_zero, List.drop_succ_cons, List.drop_nil, List.take_zero, List.take_succ_cons, List.take_nil, ite_true, ite_false, if_true, if_false, implies_true, forall_const, beq_self_eq_true, List.replicate_succ, List.replicate_zero, List.headD_cons, List.cons_append, List.nil_append, bne_self_eq_false, hj, renewedL]
  · by_cases h2 : code = 132
    · subst h2
      simp only [hb, getBox_set_same hbl, hbl, ↓evD, evU, Nat.reduceAdd, Nat.reduceSub, Nat.reduceMul, Nat.reduceLeDiff, Nat.reduceLT, Nat.reduceEqDiff, Nat.reduceBEq, reduceIte, reduceCtorEq, Int.reduceBEq, Int.reduceEq, Int.reduceLT, Int.reduceLE, Int.reduceGT, Int.reduceGE, Int.reduceAdd, Int.reduceSub, Int.reduceNeg, Int.reduceBNe, List.all_cons, List.all_nil, List.getElem?_cons_zero, List.getElem?_cons_succ, List.getElem?_nil, Option.map_some, List.length_cons, List.length_nil, List.set_cons_zero, List.set_cons_succ, List.map_cons, List.map_nil, List.drop_zero, List.drop_succ_cons, List.drop_nil, List.take_zero, List.take_succ_cons, List.take_nil, ite_true, ite_false, if_true, if_false, implies_true, forall_const, beq_self_eq_true, List.replicate_succ, List.replicate_zero, List.headD_cons, List.cons_append, List.nil_append, bne_self_eq_false, renewedL, bx_eq]
    · simp only [hb, getBox_set_same hbl, hbl, ↓evD, evU, Nat.reduceAdd, Nat.reduceSub, Nat.reduceMul, Nat.reduceLeDiff, Nat.reduceLT, Nat.reduceEqDiff, Nat.reduceBEq, reduceIte, reduceCtorEq, Int.reduceBEq, Int.reduceEq, Int.reduceLT, Int.reduceLE, Int.reduceGT, Int.reduceGE, Int.reduceAdd, Int.reduceSub, Int.reduceNeg, Int.reduceBNe, List.all_cons, List.all_nil, List.getElem?_cons_zero, List.getElem?_cons_succ, List.getElem?_nil, Option.map_some, List.length_cons, List.length_nil, List.set_cons_zero, List.set_cons_succ, List.map_cons, List.map_nil, List.drop_zero, List.drop_succ_cons, List.drop_nil, List.take_zero, List.take_succ_cons, List.take_nil, ite_true, ite_false, if_true, if_false, implies_true, forall_const, beq_self_eq_true, List.replicate_succ, List.replicate_zero, List.headD_cons, List.cons_append, List.nil_append, bne_self_eq_false, renewedL, h1, h2, beq_eq_false_iff_ne, hr, ne_eq, not_false_eq_true]
      try simp only [hb, getBox_set_same hbl, hbl, ↓evD, evU, Nat.reduceAdd, Nat.reduceSub, Nat.reduceMul, Nat.reduceLeDiff, Nat.reduceLT, Nat.reduceEqDiff, Nat.reduceBEq, reduceIte, reduceCtorEq, Int.reduceBEq, Int.reduceEq, Int.reduceLT, Int.reduceLE, Int.reduceGT, Int.reduceGE, Int.reduceAdd, Int.reduceSub, Int.reduceNeg, Int.reduceBNe, List.all_cons, List.all_nil, List.getElem?_cons_zero, List.getElem?_cons_succ, List.getElem?_nil, Option.map_some, List.length_cons, List.length_nil, List.set_cons_zero, List.set_cons_succ, List.map_cons, List.map_nil, List.drop_zero, List.drop_succ_cons, List.drop_nil, List.take_zero, List.take_succ_cons, List.take_nil, ite_true, ite_false, if_true, if_false, implies_true, forall_const, beq_self_eq_true, List.replicate_succ, List.replicate_zero, List.headD_cons, List.cons_append, List.nil_append, bne_self_eq_false, renewedL, h1, h2, beq_iff_eq, hr]
end
theorem lifetime_spec {h : Hp} {base : Nat} (n : Int) : CallA T base 34 [i64 n] h = some (i64 (lifeL n), h) := by
  rw [S34]
  simp only [↓evD, evU, Nat.reduceAdd, Nat.reduceSub, Nat.reduceMul, Nat.reduceLeDiff, Nat.reduceLT, Nat.reduceEqDiff, Nat.reduceBEq, reduceIte, reduceCtorEq, Int.reduceBEq, Int.reduceEq, Int.reduceLT, Int.reduceLE, Int.reduceGT, Int.reduceGE, Int.reduceAdd, Int.reduceSub, Int.reduceNeg, Int.reduceBNe, List.all_cons, List.all_nil, List.getElem?_cons_zero, List.getElem?_cons_succ, List.getElem?_nil, Option.map_some, List.length_cons, List.length_nil, List.set_cons_zero, List.set_cons_succ, List.map_cons, List.map_nil, List.drop_zero, List.drop_succ_cons, List.drop_nil, List.take_zero, List.take_succ_cons, List.take_nil, ite_true, ite_false, if_true, if_false, implies_true, forall_const, beq_self_eq_true, List.replicate_succ, List.replicate_zero, List.headD_cons, List.cons_append, List.nil_append, bne_self_eq_false, lifeL, minI, maxI, i64]
  try rfl
theorem new_spec {h : Hp} {base : Nat} : CallA T base 9 [] h = some (.ptr (size h) 0, ext h [.cells (bx ⟨0, false, 1, .nils, 0, 0⟩)]) := by
  rw [S9]
  simp only [↓evD, evU, Nat.reduceAdd, Nat.reduceSub, Nat.reduceMul, Nat.reduceLeDiff, Nat.reduceLT, Nat.reduceEqDiff, Nat.reduceBEq, reduceIte, reduceCtorEq, Int.reduceBEq, Int.reduceEq, Int.reduceLT, Int.reduceLE, Int.reduceGT, Int.reduceGE, Int.reduceAdd, Int.reduceSub, Int.reduceNeg, Int.reduceBNe, List.all_cons, List.all_nil, List.getElem?_cons_zero, List.getElem?_cons_succ, List.getElem?_nil, Option.map_some, List.length_cons, List.length_nil, List.set_cons_zero, List.set_cons_succ, List.map_cons, List.map_nil, List.drop_zero, List.drop_succ_cons, List.drop_nil, List.take_zero, List.take_succ_cons, List.take_nil, ite_true, ite_false, if_true, if_false, implies_true, forall_const, beq_self_eq_true, List.replicate_succ, List.replicate_zero, List.headD_cons, List.cons_append, List.nil_append, bne_self_eq_false, bx]
end Go.Am.Ytlmfmjmpfcaliaa
namespace Go.Am.Ytlmfmjmpfcaliaa
set_option maxRecDepth 100000
set_option linter.unusedVariables false
set_option linter.unusedSimpArgs false
set_option linter.unusedSectionVars false
def strs (ss : List (List UInt8)) : List PV := ss.map .str
def slS (ss : List (List UInt8)) : PV := .sl .no 1 (strs ss)
theorem strs_len (ss : List (List UInt8)) : (strs ss).length = ss.length := by simp [strs]
theorem strs_strip (ss : List (List UInt8)) : (strs ss).map strip = strs ss := by
  induction ss with
  | nil => rfl
  | cons s r ih => show _ :: _ = _; rw [show List.map Go.Am.strip (List.map PV.str r) = List.map PV.str r from ih]; rfl
theorem strs_all (ss : List (List UInt8)) : (strs ss).all (fun x => x.cells.length == 1) = true := by simp [strs, PV.cells]
theorem strs_scalar (ss : List (List UInt8)) : (strs ss).all scalar = true := by simp [strs, scalar]
theorem strs_empty (ss : List (List UInt8)) : (strs ss).isEmpty = ss.isEmpty := by cases ss <;> rfl
theorem strs_belows (n : Nat) : ∀ (ss : List (List UInt8)), belows n (strs ss) = true
  | [] => rfl
  | s :: r => by show (below n (.str s) && belows n (strs r)) = true; rw [strs_belows n r]; rfl
theorem slS_eq (ss : List (List UInt8)) : slS ss = .sl .no 1 (strs ss) := rfl
theorem strip_slS (ss : List (List UInt8)) : strip (slS ss) = slS ss := rfl
theorem scalar_slS (ss : List (List UInt8)) : scalar (slS ss) = true := rfl
theorem below_slS (n : Nat) (ss : List (List UInt8)) : below n (slS ss) = true := strs_belows n ss
theorem frz_slS (n : Nat) (h : Hp) (ss : List (List UInt8)) : frz n h (slS ss) = some (slS ss) := rfl
theorem cells_slS (ss : List (List UInt8)) : (slS ss).cells = [slS ss] := rfl
theorem slS_nils (ss : List (List UInt8)) : (slS ss = .nils) = False := by simp [slS]
/-- A slice of texts that a function is handed: nil, or by value. -/
inductive Arg (h : Hp) (b : Nat) : PV → List (List UInt8) → Prop where
  | nil : Arg h b .nils []
  | sl (o : Own) (ss : List (List UInt8)) : Arg h b (.sl o 1 (strs ss)) ss
theorem Arg.set {h : Hp} {b : Nat} {v ss} (a : Arg h b v ss) (c : Box) : Arg (setBx h b c) b v ss := by
  cases a with
  | nil => exact .nil
  | sl o ss => exact .sl o ss
theorem Arg.len {h : Hp} {b : Nat} {v ss} (a : Arg h b v ss) : lenB false v = some (.int .i64 ss.length) := by
  cases a with
  | nil => rfl
  | sl o ss => rw [lenB_sl, strs_len]
theorem Arg.strip {h : Hp} {b : Nat} {v ss} (a : Arg h b v ss) : Arg h b (Go.Am.strip v) ss := by
  cases a with
  | nil => exact .nil
  | sl o ss => cases o <;> exact .sl _ ss
theorem strs_eS (ss : List (List UInt8)) : strs ss = ss.map eS := rfl
theorem clone_spec {h : Hp} {b base : Nat} {v : PV} {ss : List (List UInt8)} (a : Arg h b v ss) (hl : ss.length ≤ lim2) :
    CallA T base 32 [v] h = some (if v = .nils then .nils else if ss.isEmpty then .sl .full 1 [] else slS ss, h) := by
  rw [S32]
  cases a with
  | nil => simp only [↓evD, evU, Nat.reduceAdd, Nat.reduceSub, Nat.reduceMul, Nat.reduceLeDiff, Nat.reduceLT, Nat.reduceEqDiff, Nat.reduceBEq, reduceIte, reduceCtorEq, Int.reduceBEq, Int.reduceEq, Int.reduceLT, Int.reduceLE, Int.reduceGT, Int.reduceGE, Int.reduceAdd, Int.reduceSub, Int.reduceNeg, Int.reduceBNe, List.all_cons, List.all_nil, List.getElem?_cons_zero, List.getElem?_cons_succ, List.getElem?_nil, Option.map_some, List.length_cons, List.length_nil, List.set_cons_zero, List.set_cons_succ, List.map_cons, List.map_nil, List.drop_zero, List.drop_succ_cons, List.drop_nil, List.take_zero, List.take_succ_cons, List.take_nil, ite_true, ite_false, if_true, if_false, implies_true, forall_const, beq_self_eq_true, List.replicate_succ, List.replicate_zero, List.headD_cons, List.cons_append, List.nil_append, bne_self_eq_false]
  | sl o ss =>
    have hg := gGrow (h := h) (T := 9) (gZ_full 1) [] (strs ss) (by rw [strs_eS]; exact elS.fits ss) (by rw [strs_eS]; exact elS.strips ss) (by simpa [strs] using hl)
    rw [gV_nil, gH_nil, List.nil_append] at hg
    have hb := below_gD (gZ_full 1) (size h) (strs ss) (strs_belows _ ss)
    have e : gD (.sl .full 1 []) 1 (strs ss) = if ss.isEmpty then .sl .full 1 [] else slS ss := by
      unfold gD
      rw [strs_empty]; rfl
    simp only [hg, frz_gV (gZ_full 1), hb, trunc_gH, ↓evD, evU, Nat.reduceAdd, Nat.reduceSub, Nat.reduceMul, Nat.reduceLeDiff, Nat.reduceLT, Nat.reduceEqDiff, Nat.reduceBEq, reduceIte, reduceCtorEq, Int.reduceBEq, Int.reduceEq, Int.reduceLT, Int.reduceLE, Int.reduceGT, Int.reduceGE, Int.reduceAdd, Int.reduceSub, Int.reduceNeg, Int.reduceBNe, List.all_cons, List.all_nil, List.getElem?_cons_zero, List.getElem?_cons_succ, List.getElem?_nil, Option.map_some, List.length_cons, List.length_nil, List.set_cons_zero, List.set_cons_succ, List.map_cons, List.map_nil, List.drop_zero, List.drop_succ_cons, List.drop_nil, List.take_zero, List.take_succ_cons, List.take_nil, ite_true, ite_false, if_true, if_false, implies_true, forall_const, beq_self_eq_true, List.replicate_succ, List.replicate_zero, List.headD_cons, List.cons_append, List.nil_append, bne_self_eq_false]
    rw [e]
def joinedAtL (l : Lf) (code : Int) (ss : List (List UInt8)) : Lf :=
  if code != 65 || ((ss.length : Int) == 0 || decide ((ss.length : Int) > 4)) then restL l else joinedL { l with pl := slS ss }
def answerL (l0 : Lf) (code : Int) (ss : List (List UInt8)) (now : Int) : Lf × Int :=
  let l := passL l0 now
  if l.st == 1 then (if code == 68 then (waitL l 2 1000, 0) else (restL l, 0))
  else if l.st == 3 then (joinedAtL l code ss, 0)
  else if l.st == 5 then renewedL l code
  else if l.st == 6 then (offL l, 0) else (l, 0)
def lostL (l0 : Lf) (now : Int) : Lf :=
  let l := passL l0 now
  if l.st == 1 then restL l else if l.st == 3 then restL l else if l.st == 5 then restL l else if l.st == 6 then offL l else l
def startL (l0 : Lf) (known : Bool) (life now : Int) : Lf × Int := beginL { passL l0 now with known := known, life := lifeL life }
def finishL (l0 : Lf) (known : Bool) (now : Int) : Lf × Int :=
  let l := passL l0 now
  if l.st != 2 then (l, 0) else if known then beginL { l with known := known } else (restL { l with known := known }, 0)
def passP (l0 : Lf) (now : Int) : Lf × Int :=
  let l := passL l0 now
  if timedL l = false then (l, 0) else if decide (l.next > l.now) then (l, 0) else
  if l.st == 2 then (restL l, 0) else if l.st == 4 then ({ l with st := 5 }, 3) else beginL l
def renewP (l0 : Lf) (life now : Int) : Lf × Int :=
  let l := passL l0 now
  if l.st != 4 then (l, 0) else ({ l with life := lifeL life, st := 5 }, 3)
def leaveP (l0 : Lf) (now : Int) : Lf × Int :=
  let l := passL l0 now
  if l.st != 4 then (l, 0) else ({ l with st := 6 }, 4)
section
variable {h : Hp} {b base : Nat} {l : Lf} (hb : getBox h b = some (bx l)) (hbl : b < size h)
include hb hbl
theorem place_nil (hp : l.pl = .nils) : CallA T base 16 [.ptr b 0] h = some (.nils, h) := by
  have hc := fun base => clone_spec (base := base) (h := h) (b := b) .nil (Nat.zero_le _)
  rw [S16]
  simp only [bx_eq, hp] at *
  simp only [hb, getBox_set_same hbl, hbl, ↓evD, evU, Nat.reduceAdd, Nat.reduceSub, Nat.reduceMul, Nat.reduceLeDiff, Nat.reduceLT, Nat.reduceEqDiff, Nat.reduceBEq, reduceIte, reduceCtorEq, Int.reduceBEq, Int.reduceEq, Int.reduceLT, Int.reduceLE, Int.reduceGT, Int.reduceGE, Int.reduceAdd, Int.reduceSub, Int.reduceNeg, Int.reduceBNe, List.all_cons, List.all_nil, List.getElem?_cons_zero, List.getElem?_cons_succ, List.getElem?_nil, Option.map_some, List.length_cons, List.length_nil, List.set_cons_zero, List.set_cons_succ, List.map_cons, List.map_nil, List.drop_zero, List.drop_succ_cons, List.drop_nil, List.take_zero, List.take_succ_cons, List.take_nil, ite_true, ite_false, if_true, if_false, implies_true, forall_const, beq_self_eq_true, List.replicate_succ, List.replicate_zero, List.headD_cons, List.cons_append, List.nil_append, bne_self_eq_false, hc]
theorem place_sl {ss : List (List UInt8)} (hl : ss.length ≤ lim2) (hne : ss.isEmpty = false) (hp : l.pl = slS ss) : CallA T base 16 [.ptr b 0] h = some (slS ss, h) := by
  have hc := fun base => clone_spec (base := base) (h := h) (b := b) (.sl .no ss) hl
  rw [S16]
  simp only [bx_eq, hp, ← slS_eq] at *
  simp only [hb, getBox_set_same hbl, hbl, ↓evD, evU, Nat.reduceAdd, Nat.reduceSub, Nat.reduceMul, Nat.reduceLeDiff, Nat.reduceLT, Nat.reduceEqDiff, Nat.reduceBEq, reduceIte, reduceCtorEq, Int.reduceBEq, Int.reduceEq, Int.reduceLT, Int.reduceLE, Int.reduceGT, Int.reduceGE, Int.reduceAdd, Int.reduceSub, Int.reduceNeg, Int.reduceBNe, List.all_cons, List.all_nil, List.getElem?_cons_zero, List.getElem?_cons_succ, List.getElem?_nil, Option.map_some, List.length_cons, List.length_nil, List.set_cons_zero, List.set_cons_succ, List.map_cons, List.map_nil, List.drop_zero, List.drop_succ_cons, List.drop_nil, List.take_zero, List.take_succ_cons, List.take_nil, ite_true, ite_false, if_true, if_false, implies_true, forall_const, beq_self_eq_true, List.replicate_succ, List.replicate_zero, List.headD_cons, List.cons_append, List.nil_append, bne_self_eq_false, hc, strip_slS, below_slS, frz_slS, slS_nils, hne]
theorem joinedAt_spec {v : PV} {ss : List (List UInt8)} (a : Arg h b v ss) (hsv : strip v = v) (code : Int) :
    CallA T base 38 [.ptr b 0, i64 code, v] h = some (i64 0, setBx h b (.cells (bx (joinedAtL l code ss)))) := by
  have hr := fun base => rest_spec (base := base) hb hbl
  have hc0 := fun hl base => clone_spec (base := base) a hl
  have hj := fun base => joined_spec (base := base) (h := setBx h b (.cells (bx { l with pl := slS ss }))) (b := b) (l := { l with pl := slS ss }) (getBox_set_same hbl) (by rw [size_setBx]; exact hbl)
  have hlen := a.len
  rw [S38]
  simp only [bx_eq, setBx_setBx] at *
  cases h1 : (code != 65)
  · cases h2 : ((ss.length : Int) == 0)
    · have hne : ss.isEmpty = false := by cases ss with
        | nil => simp at h2
        | cons => rfl
      have hvn : v ≠ .nils := by intro hv; subst hv; cases a; simp at h2
      cases h3 : decide ((ss.length : Int) > 4)
      · have hc := hc0 (by simp at h3; simp [lim2]; omega)
        simp only [hb, getBox_set_same hbl, hbl, ↓evD, evU, Nat.reduceAdd, Nat.reduceSub, Nat.reduceMul, Nat.reduceLeDiff, Nat.reduceLT, Nat.reduceEqDiff, Nat.reduceBEq, reduceIte, reduceCtorEq, Int.reduceBEq, Int.reduceEq, Int.reduceLT, Int.reduceLE, Int.reduceGT, Int.reduceGE, Int.reduceAdd, Int.reduceSub, Int.reduceNeg, Int.reduceBNe, List.all_cons, List.all_nil, List.getElem?_cons_zero, List.getElem?_cons_succ, List.getElem?_nil, Option.map_some, List.length_cons, List.length_nil, List.set_cons_zero, List.set_cons_succ, List.map_cons, List.map_nil, List.drop_zero, List.drop_succ_cons, List.drop_nil, List.take_zero, List.take_succ_cons, List.take_nil, ite_true, ite_false, if_true, if_false, implies_true, forall_const, beq_self_eq_true, List.replicate_succ, List.replicate_zero, List.headD_cons, List.cons_append, List.nil_append, bne_self_eq_false, hlen, h1, h2, h3, hr, hc, hj, joinedAtL, hne, hvn, hsv, strip_slS, below_slS, scalar_slS, cells_slS]
      · simp only [hb, getBox_set_same hbl, hbl, ↓evD, evU, Nat.reduceAdd, Nat.reduceSub, Nat.reduceMul, Nat.reduceLeDiff, Nat.reduceLT, Nat.reduceEqDiff, Nat.reduceBEq, reduceIte, reduceCtorEq, Int.reduceBEq, Int.reduceEq, Int.reduceLT, Int.reduceLE, Int.reduceGT, Int.reduceGE, Int.reduceAdd, Int.reduceSub, Int.reduceNeg, Int.reduceBNe, List.all_cons, List.all_nil, List.getElem?_cons_zero, List.getElem?_cons_succ, List.getElem?_nil, Option.map_some, List.length_cons, List.length_nil, List.set_cons_zero, List.set_cons_succ, List.map_cons, List.map_nil, List.drop_zero, List.drop_succ_cons, List.drop_nil, List.take_zero, List.take_succ_cons, List.take_nil, ite_true, ite_false, if_true, if_false, implies_true, forall_const, beq_self_eq_true, List.replicate_succ, List.replicate_zero, List.headD_cons, List.cons_append, List.nil_append, bne_self_eq_false, hlen, h1, h2, h3, hr, hj, joinedAtL, hne, hvn, hsv, strip_slS, below_slS, scalar_slS, cells_slS]
    · simp only [hb, getBox_set_same hbl, hbl, ↓evD, evU, Nat.reduceAdd, Nat.reduceSub, Nat.reduceMul, Nat.reduceLeDiff, Nat.reduceLT, Nat.reduceEqDiff, Nat.reduceBEq, reduceIte, reduceCtorEq, Int.reduceBEq, Int.reduceEq, Int.reduceLT, Int.reduceLE, Int.reduceGT, Int.reduceGE, Int.reduceAdd, Int.reduceSub, Int.reduceNeg, Int.reduceBNe, List.all_cons, List.all_nil, List.getElem?_cons_zero, List.getElem?_cons_succ, List.getElem?_nil, Option.map_some, List.length_cons, List.length_nil, List.set_cons_zero, List.set_cons_succ, List.map_cons, List.map_nil, List.drop_zero, List.drop_succ_cons, List.drop_nil, List.take_zero, List.take_succ_cons, List.take_nil, ite_true, ite_false, if_true, if_false, implies_true, forall_const, beq_self_eq_true, List.replicate_succ, List.replicate_zero, List.headD_cons, List.cons_append, List.nil_append, bne_self_eq_false, hlen, h1, h2, hr, joinedAtL, hsv]
  · simp only [hb, getBox_set_same hbl, hbl, ↓evD, evU, Nat.reduceAdd, Nat.reduceSub, Nat.reduceMul, Nat.reduceLeDiff, Nat.reduceLT, Nat.reduceEqDiff, Nat.reduceBEq, reduceIte, reduceCtorEq, Int.reduceBEq, Int.reduceEq, Int.reduceLT, Int.reduceLE, Int.reduceGT, Int.reduceGE, Int.reduceAdd, Int.reduceSub, Int.reduceNeg, Int.reduceBNe, List.all_cons, List.all_nil, List.getElem?_cons_zero, List.getElem?_cons_succ, List.getElem?_nil, Option.map_some, List.length_cons, List.length_nil, List.set_cons_zero, List.set_cons_succ, List.map_cons, List.map_nil, List.drop_zero, List.drop_succ_cons, List.drop_nil, List.take_zero, List.take_succ_cons, List.take_nil, ite_true, ite_false, if_true, if_false, implies_true, forall_const, beq_self_eq_true, List.replicate_succ, List.replicate_zero, List.headD_cons, List.cons_append, List.nil_append, bne_self_eq_false, hlen, h1, hr, joinedAtL, hsv]
end
/-- After the first 'pass': the box, and what stands for it. -/
theorem after {h : Hp} {b : Nat} (hbl : b < size h) (l1 : Lf) : getBox (setBx h b (.cells (bx l1))) b = some (bx l1) ∧ b < size (setBx h b (.cells (bx l1))) :=
  ⟨getBox_set_same hbl, by rw [size_setBx]; exact hbl⟩
section
variable {h : Hp} {b base : Nat} {l : Lf} (hb : getBox h b = some (bx l)) (hbl : b < size h)
include hb hbl
theorem start_spec (known : Bool) (life now : Int) : CallA T base 17 [.ptr b 0, .bool known, i64 life, i64 now] h = some (i64 (startL l known life now).2, setBx h b (.cells (bx (startL l known life now).1))) := by
  have hp := fun base => pass_spec (base := base) hb hbl now
  unfold startL
  generalize passL l now = l1 at *
  have hl := fun base h => lifetime_spec (base := base) (h := h) life
  have hg := fun base => begin_spec (base := base) (after hbl { l1 with known := known, life := lifeL life }).1 (after hbl { l1 with known := known, life := lifeL life }).2
  rw [S17]
  simp only [bx_eq, setBx_setBx] at *
  simp only [hb, getBox_set_same hbl, hbl, ↓evD, evU, Nat.reduceAdd, Nat.reduceSub, Nat.reduceMul, Nat.reduceLeDiff, Nat.reduceLT, Nat.reduceEqDiff, Nat.reduceBEq, reduceIte, reduceCtorEq, Int.reduceBEq, Int.reduceEq, Int.reduceLT, Int.reduceLE, Int.reduceGT, Int.reduceGE, Int.reduceAdd, Int.reduceSub, Int.reduceNeg, Int.reduceBNe, List.all_cons, List.all_nil, List.getElem?_cons_zero, List.getElem?_cons_succ, List.getElem?_nil, Option.map_some, List.length_cons, List.length_nil, List.set_cons_zero, List.set_cons_succ, List.map_cons, List.map_nil, List.drop_zero, List.drop_succ_cons, List.drop_nil, List.take_zero, List.take_succ_cons, List.take_nil, ite_true, ite_false, if_true, if_false, implies_true, forall_const, beq_self_eq_true, List.replicate_succ, List.replicate_zero, List.headD_cons, List.cons_append, List.nil_append, bne_self_eq_false, hp, hl, hg]
theorem answer_spec {v : PV} {ss : List (List UInt8)} (a : Arg h b v ss) (hsv : strip v = v) (code now : Int) :
    CallA T base 18 [.ptr b 0, i64 code, v, i64 now] h = some (i64 (answerL l code ss now).2, setBx h b (.cells (bx (answerL l code ss now).1))) := by
  have hp := fun base => pass_spec (base := base) hb hbl now
  unfold answerL
  generalize passL l now = l1 at *
  have hr := fun base => rest_spec (base := base) (after hbl l1).1 (after hbl l1).2
  have hw := fun base => wait_spec (base := base) (after hbl l1).1 (after hbl l1).2 2 1000
  have hn := fun base => renewed_spec (base := base) (after hbl l1).1 (after hbl l1).2 code
  have ho := fun base => off_spec (base := base) (after hbl l1).1 (after hbl l1).2
  have hj := fun base => joinedAt_spec (base := base) (after hbl l1).1 (after hbl l1).2 (a.set _) hsv code
  clear a
  rw [S18]
  simp only [bx_eq, setBx_setBx] at *
  cases h1 : (l1.st == 1)
  · cases h3 : (l1.st == 3)
    · cases h5 : (l1.st == 5)
      · cases h6 : (l1.st == 6) <;> simp only [hb, getBox_set_same hbl, hbl, ↓evD, evU, Nat.reduceAdd, Nat.reduceSub, Nat.reduceMul, Nat.reduceLeDiff, Nat.reduceLT, Nat.reduceEqDiff, Nat.reduceBEq, reduceIte, reduceCtorEq, Int.reduceBEq, Int.reduceEq, Int.reduceLT, Int.reduceLE, Int.reduceGT, Int.reduceGE, Int.reduceAdd, Int.reduceSub, Int.reduceNeg, Int.reduceBNe, List.all_cons, List.all_nil, List.getElem?_cons_zero, List.getElem?_cons_succ, List.getElem?_nil, Option.map_some, List.length_cons, List.length_nil, List.set_cons_zero, List.set_cons_succ, List.map_cons, List.map_nil, List.drop_zero, List.drop_succ_cons, List.drop_nil, List.take_zero, List.take_succ_cons, List.take_nil, ite_true, ite_false, if_true, if_false, implies_true, forall_const, beq_self_eq_true, List.replicate_succ, List.replicate_zero, List.headD_cons, List.cons_append, List.nil_append, bne_self_eq_false, hp, h1, h3, h5, h6, ho, hsv]
      · simp only [hb, getBox_set_same hbl, hbl, ↓evD, evU, Nat.reduceAdd, Nat.reduceSub, Nat.reduceMul, Nat.reduceLeDiff, Nat.reduceLT, Nat.reduceEqDiff, Nat.reduceBEq, reduceIte, reduceCtorEq, Int.reduceBEq, Int.reduceEq, Int.reduceLT, Int.reduceLE, Int.reduceGT, Int.reduceGE, Int.reduceAdd, Int.reduceSub, Int.reduceNeg, Int.reduceBNe, List.all_cons, List.all_nil, List.getElem?_cons_zero, List.getElem?_cons_succ, List.getElem?_nil, Option.map_some, List.length_cons, List.length_nil, List.set_cons_zero, List.set_cons_succ, List.map_cons, List.map_nil, List.drop_zero, List.drop_succ_cons, List.drop_nil, List.take_zero, List.take_succ_cons, List.take_nil, ite_true, ite_false, if_true, if_false, implies_true, forall_const, beq_self_eq_true, List.replicate_succ, List.replicate_zero, List.headD_cons, List.cons_append, List.nil_append, bne_self_eq_false, hp, h1, h3, h5, hn, hsv]
    · simp only [hb, getBox_set_same hbl, hbl, ↓evD, evU, Nat.reduceAdd, Nat.reduceSub, Nat.reduceMul, Nat.reduceLeDiff, Nat.reduceLT, Nat.reduceEqDiff, Nat.reduceBEq, reduceIte, reduceCtorEq, Int.reduceBEq, Int.reduceEq, Int.reduceLT, Int.reduceLE, Int.reduceGT, Int.reduceGE, Int.reduceAdd, Int.reduceSub, Int.reduceNeg, Int.reduceBNe, List.all_cons, List.all_nil, List.getElem?_cons_zero, List.getElem?_cons_succ, List.getElem?_nil, Option.map_some, List.length_cons, List.length_nil, List.set_cons_zero, List.set_cons_succ, List.map_cons, List.map_nil, List.drop_zero, List.drop_succ_cons, List.drop_nil, List.take_zero, List.take_succ_cons, List.take_nil, ite_true, ite_false, if_true, if_false, implies_true, forall_const, beq_self_eq_true, List.replicate_succ, List.replicate_zero, List.headD_cons, List.cons_append, List.nil_append, bne_self_eq_false, hp, h1, h3, hj, hsv]
  · cases hc : (code == 68) <;> simp only [hb, getBox_set_same hbl, hbl, ↓evD, evU, Nat.reduceAdd, Nat.reduceSub, Nat.reduceMul, Nat.reduceLeDiff, Nat.reduceLT, Nat.reduceEqDiff, Nat.reduceBEq, reduceIte, reduceCtorEq, Int.reduceBEq, Int.reduceEq, Int.reduceLT, Int.reduceLE, Int.reduceGT, Int.reduceGE, Int.reduceAdd, Int.reduceSub, Int.reduceNeg, Int.reduceBNe, List.all_cons, List.all_nil, List.getElem?_cons_zero, List.getElem?_cons_succ, List.getElem?_nil, Option.map_some, List.length_cons, List.length_nil, List.set_cons_zero, List.set_cons_succ, List.map_cons, List.map_nil, List.drop_zero, List.drop_succ_cons, List.drop_nil, List.take_zero, List.take_succ_cons, List.take_nil, ite_true, ite_false, if_true, if_false, implies_true, forall_const, beq_self_eq_true, List.replicate_succ, List.replicate_zero, List.headD_cons, List.cons_append, List.nil_append, bne_self_eq_false, hp, h1, hc, hr, hw, hsv]
theorem lost_spec (now : Int) : CallA T base 20 [.ptr b 0, i64 now] h = some (i64 0, setBx h b (.cells (bx (lostL l now)))) := by
  have hp := fun base => pass_spec (base := base) hb hbl now
  unfold lostL
  generalize passL l now = l1 at *
  have hr := fun base => rest_spec (base := base) (after hbl l1).1 (after hbl l1).2
  have ho := fun base => off_spec (base := base) (after hbl l1).1 (after hbl l1).2
  rw [S20]
  simp only [bx_eq, setBx_setBx] at *
  cases h1 : (l1.st == 1)
  · cases h3 : (l1.st == 3)
    · cases h5 : (l1.st == 5)
      · cases h6 : (l1.st == 6) <;> simp only [hb, getBox_set_same hbl, hbl, ↓evD, evU, Nat.reduceAdd, Nat.reduceSub, Nat.reduceMul, Nat.reduceLeDiff, Nat.reduceLT, Nat.reduceEqDiff, Nat.reduceBEq, reduceIte, reduceCtorEq, Int.reduceBEq, Int.reduceEq, Int.reduceLT, Int.reduceLE, Int.reduceGT, Int.reduceGE, Int.reduceAdd, Int.reduceSub, Int.reduceNeg, Int.reduceBNe, List.all_cons, List.all_nil, List.getElem?_cons_zero, List.getElem?_cons_succ, List.getElem?_nil, Option.map_some, List.length_cons, List.length_nil, List.set_cons_zero, List.set_cons_succ, List.map_cons, List.map_nil, List.drop_zero, List.drop_succ_cons, List.drop_nil, List.take_zero, List.take_succ_cons, List.take_nil, ite_true, ite_false, if_true, if_false, implies_true, forall_const, beq_self_eq_true, List.replicate_succ, List.replicate_zero, List.headD_cons, List.cons_append, List.nil_append, bne_self_eq_false, hp, h1, h3, h5, h6, ho]
      · simp only [hb, getBox_set_same hbl, hbl, ↓evD, evU, Nat.reduceAdd, Nat.reduceSub, Nat.reduceMul, Nat.reduceLeDiff, Nat.reduceLT, Nat.reduceEqDiff, Nat.reduceBEq, reduceIte, reduceCtorEq, Int.reduceBEq, Int.reduceEq, Int.reduceLT, Int.reduceLE, Int.reduceGT, Int.reduceGE, Int.reduceAdd, Int.reduceSub, Int.reduceNeg, Int.reduceBNe, List.all_cons, List.all_nil, List.getElem?_cons_zero, List.getElem?_cons_succ, List.getElem?_nil, Option.map_some, List.length_cons, List.length_nil, List.set_cons_zero, List.set_cons_succ, List.map_cons, List.map_nil, List.drop_zero, List.drop_succ_cons, List.drop_nil, List.take_zero, List.take_succ_cons, List.take_nil, ite_true, ite_false, if_true, if_false, implies_true, forall_const, beq_self_eq_true, List.replicate_succ, List.replicate_zero, List.headD_cons, List.cons_append, List.nil_append, bne_self_eq_false, hp, h1, h3, h5, hr]
    · simp only [hb, getBox_set_same hbl, hbl, ↓evD, evU, Nat.reduceAdd, Nat.reduceSub, Nat.reduceMul, Nat.reduceLeDiff, Nat.reduceLT, Nat.reduceEqDiff, Nat.reduceBEq, reduceIte, reduceCtorEq, Int.reduceBEq, Int.reduceEq, Int.reduceLT, Int.reduceLE, Int.reduceGT, Int.reduceGE, Int.reduceAdd, Int.reduceSub, Int.reduceNeg, Int.reduceBNe, List.all_cons, List.all_nil, List.getElem?_cons_zero, List.getElem?_cons_succ, List.getElem?_nil, Option.map_some, List.length_cons, List.length_nil, List.set_cons_zero, List.set_cons_succ, List.map_cons, List.map_nil, List.drop_zero, List.drop_succ_cons, List.drop_nil, List.take_zero, List.take_succ_cons, List.take_nil, ite_true, ite_false, if_true, if_false, implies_true, forall_const, beq_self_eq_true, List.replicate_succ, List.replicate_zero, List.headD_cons, List.cons_append, List.nil_append, bne_self_eq_false, hp, h1, h3, hr]
  · simp only [hb, getBox_set_same hbl, hbl, ↓evD, evU, Nat.reduceAdd, Nat.reduceSub, Nat.reduceMul, Nat.reduceLeDiff, Nat.reduceLT, Nat.reduceEqDiff, Nat.reduceBEq, reduceIte, reduceCtorEq, Int.reduceBEq, Int.reduceEq, Int.reduceLT, Int.reduceLE, Int.reduceGT, Int.reduceGE, Int.reduceAdd, Int.reduceSub, Int.reduceNeg, Int.reduceBNe, List.all_cons, List.all_nil, List.getElem?_cons_zero, List.getElem?_cons_succ, List.getElem?_nil, Option.map_some, List.length_cons, List.length_nil, List.set_cons_zero, List.set_cons_succ, List.map_cons, List.map_nil, List.drop_zero, List.drop_succ_cons, List.drop_nil, List.take_zero, List.take_succ_cons, List.take_nil, ite_true, ite_false, if_true, if_false, implies_true, forall_const, beq_self_eq_true, List.replicate_succ, List.replicate_zero, List.headD_cons, List.cons_append, List.nil_append, bne_self_eq_false, hp, h1, hr]
theorem finish_spec (known : Bool) (now : Int) : CallA T base 21 [.ptr b 0, .bool known, i64 now] h = some (i64 (finishL l known now).2, setBx h b (.cells (bx (finishL l known now).1))) := by
  have hp := fun base => pass_spec (base := base) hb hbl now
  unfold finishL
  generalize passL l now = l1 at *
  have hr := fun base => rest_spec (base := base) (after hbl { l1 with known := known }).1 (after hbl { l1 with known := known }).2
  have hg := fun base => begin_spec (base := base) (after hbl { l1 with known := known }).1 (after hbl { l1 with known := known }).2
  rw [S21]
  simp only [bx_eq, setBx_setBx] at *
  cases h2 : (l1.st != 2)
  · cases known <;> simp only [hb, getBox_set_same hbl, hbl, ↓evD, evU, Nat.reduceAdd, Nat.reduceSub, Nat.reduceMul, Nat.reduceLeDiff, Nat.reduceLT, Nat.reduceEqDiff, Nat.reduceBEq, reduceIte, reduceCtorEq, Int.reduceBEq, Int.reduceEq, Int.reduceLT, Int.reduceLE, Int.reduceGT, Int.reduceGE, Int.reduceAdd, Int.reduceSub, Int.reduceNeg, Int.reduceBNe, List.all_cons, List.all_nil, List.getElem?_cons_zero, List.getElem?_cons_succ, List.getElem?_nil, Option.map_some, List.length_cons, List.length_nil, List.set_cons_zero, List.set_cons_succ, List.map_cons, List.map_nil, List.drop_zero, List.drop_succ_cons, List.drop_nil, List.take_zero, List.take_succ_cons, List.take_nil, ite_true, ite_false, if_true, if_false, implies_true, forall_const, beq_self_eq_true, List.replicate_succ, List.replicate_zero, List.headD_cons, List.cons_append, List.nil_append, bne_self_eq_false, hp, h2, hr, hg]
  · simp only [hb, getBox_set_same hbl, hbl, ↓evD, evU, Nat.reduceAdd, Nat.reduceSub, Nat.reduceMul, Nat.reduceLeDiff, Nat.reduceLT, Nat.reduceEqDiff, Nat.reduceBEq, reduceIte, reduceCtorEq, Int.reduceBEq, Int.reduceEq, Int.reduceLT, Int.reduceLE, Int.reduceGT, Int.reduceGE, Int.reduceAdd, Int.reduceSub, Int.reduceNeg, Int.reduceBNe, List.all_cons, List.all_nil, List.getElem?_cons_zero, List.getElem?_cons_succ, List.getElem?_nil, Option.map_some, List.length_cons, List.length_nil, List.set_cons_zero, List.set_cons_succ, List.map_cons, List.map_nil, List.drop_zero, List.drop_succ_cons, List.drop_nil, List.take_zero, List.take_succ_cons, List.take_nil, ite_true, ite_false, if_true, if_false, implies_true, forall_const, beq_self_eq_true, List.replicate_succ, List.replicate_zero, List.headD_cons, List.cons_append, List.nil_append, bne_self_eq_false, hp, h2]
theorem passP_spec (now : Int) : CallA T base 19 [.ptr b 0, i64 now] h = some (i64 (passP l now).2, setBx h b (.cells (bx (passP l now).1))) := by
  have hp := fun base => pass_spec (base := base) hb hbl now
  unfold passP
  generalize passL l now = l1 at *
  have hr := fun base => rest_spec (base := base) (after hbl l1).1 (after hbl l1).2
  have hg := fun base => begin_spec (base := base) (after hbl l1).1 (after hbl l1).2
  have ht := fun base => timed_spec (base := base) (after hbl l1).1 (after hbl l1).2
  rw [S19]
  simp only [bx_eq, setBx_setBx] at *
  cases htm : timedL l1
  · simp only [hb, getBox_set_same hbl, hbl, ↓evD, evU, Nat.reduceAdd, Nat.reduceSub, Nat.reduceMul, Nat.reduceLeDiff, Nat.reduceLT, Nat.reduceEqDiff, Nat.reduceBEq, reduceIte, reduceCtorEq, Int.reduceBEq, Int.reduceEq, Int.reduceLT, Int.reduceLE, Int.reduceGT, Int.reduceGE, Int.reduceAdd, Int.reduceSub, Int.reduceNeg, Int.reduceBNe, List.all_cons, List.all_nil, List.getElem?_cons_zero, List.getElem?_cons_succ, List.getElem?_nil, Option.map_some, List.length_cons, List.length_nil, List.set_cons_zero, List.set_cons_succ, List.map_cons, List.map_nil, List.drop_zero, List.drop_succ_cons, List.drop_nil, List.take_zero, List.take_succ_cons, List.take_nil, ite_true, ite_false, if_true, if_false, implies_true, forall_const, beq_self_eq_true, List.replicate_succ, List.replicate_zero, List.headD_cons, List.cons_append, List.nil_append, bne_self_eq_false, hp, ht, htm]
  · cases hn : decide (l1.next > l1.now)
    · cases h2 : (l1.st == 2)
      · cases h4 : (l1.st == 4) <;> simp only [hb, getBox_set_same hbl, hbl, ↓evD, evU, Nat.reduceAdd, Nat.reduceSub, Nat.reduceMul, Nat.reduceLeDiff, Nat.reduceLT, Nat.reduceEqDiff, Nat.reduceBEq, reduceIte, reduceCtorEq, Int.reduceBEq, Int.reduceEq, Int.reduceLT, Int.reduceLE, Int.reduceGT, Int.reduceGE, Int.reduceAdd, Int.reduceSub, Int.reduceNeg, Int.reduceBNe, List.all_cons, List.all_nil, List.getElem?_cons_zero, List.getElem?_cons_succ, List.getElem?_nil, Option.map_some, List.length_cons, List.length_nil, List.set_cons_zero, List.set_cons_succ, List.map_cons, List.map_nil, List.drop_zero, List.drop_succ_cons, List.drop_nil, List.take_zero, List.take_succ_cons, List.take_nil, ite_true, ite_false, if_true, if_false, implies_true, forall_const, beq_self_eq_true, List.replicate_succ, List.replicate_zero, List.headD_cons, List.cons_append, List.nil_append, bne_self_eq_false, hp, ht, htm, hn, h2, h4, hg]
      · simp only [hb, getBox_set_same hbl, hbl, ↓evD, evU, Nat.reduceAdd, Nat.reduceSub, Nat.reduceMul, Nat.reduceLeDiff, Nat.reduceLT, Nat.reduceEqDiff, Nat.reduceBEq, reduceIte, reduceCtorEq, Int.reduceBEq, Int.reduceEq, Int.reduceLT, Int.reduceLE, Int.reduceGT, Int.reduceGE, Int.reduceAdd, Int.reduceSub, Int.reduceNeg, Int.reduceBNe, List.all_cons, List.all_nil, List.getElem?_cons_zero, List.getElem?_cons_succ, List.getElem?_nil, Option.map_some, List.length_cons, List.length_nil, List.set_cons_zero, List.set_cons_succ, List.map_cons, List.map_nil, List.drop_zero, List.drop_succ_cons, List.drop_nil, List.take_zero, List.take_succ_cons, List.take_nil, ite_true, ite_false, if_true, if_false, implies_true, forall_const, beq_self_eq_true, List.replicate_succ, List.replicate_zero, List.headD_cons, List.cons_append, List.nil_append, bne_self_eq_false, hp, ht, htm, hn, h2, hr]
    · simp only [hb, getBox_set_same hbl, hbl, ↓evD, evU, Nat.reduceAdd, Nat.reduceSub, Nat.reduceMul, Nat.reduceLeDiff, Nat.reduceLT, Nat.reduceEqDiff, Nat.reduceBEq, reduceIte, reduceCtorEq, Int.reduceBEq, Int.reduceEq, Int.reduceLT, Int.reduceLE, Int.reduceGT, Int.reduceGE, Int.reduceAdd, Int.reduceSub, Int.reduceNeg, Int.reduceBNe, List.all_cons, List.all_nil, List.getElem?_cons_zero, List.getElem?_cons_succ, List.getElem?_nil, Option.map_some, List.length_cons, List.length_nil, List.set_cons_zero, List.set_cons_succ, List.map_cons, List.map_nil, List.drop_zero, List.drop_succ_cons, List.drop_nil, List.take_zero, List.take_succ_cons, List.take_nil, ite_true, ite_false, if_true, if_false, implies_true, forall_const, beq_self_eq_true, List.replicate_succ, List.replicate_zero, List.headD_cons, List.cons_append, List.nil_append, bne_self_eq_false, hp, ht, htm, hn]
theorem renewP_spec (life now : Int) : CallA T base 22 [.ptr b 0, i64 life, i64 now] h = some (i64 (renewP l life now).2, setBx h b (.cells (bx (renewP l life now).1))) := by
  have hp := fun base => pass_spec (base := base) hb hbl now
  unfold renewP
  generalize passL l now = l1 at *
  have hl := fun base h => lifetime_spec (base := base) (h := h) life
  rw [S22]
  simp only [bx_eq, setBx_setBx] at *
  cases h2 : (l1.st != 4) <;> simp only [hb, getBox_set_same hbl, hbl, ↓evD, evU, Nat.reduceAdd, Nat.reduceSub, Nat.reduceMul, Nat.reduceLeDiff, Nat.reduceLT, Nat.reduceEqDiff, Nat.reduceBEq, reduceIte, reduceCtorEq, Int.reduceBEq, Int.reduceEq, Int.reduceLT, Int.reduceLE, Int.reduceGT, Int.reduceGE, Int.reduceAdd, Int.reduceSub, Int.reduceNeg, Int.reduceBNe, List.all_cons, List.all_nil, List.getElem?_cons_zero, List.getElem?_cons_succ, List.getElem?_nil, Option.map_some, List.length_cons, List.length_nil, List.set_cons_zero, List.set_cons_succ, List.map_cons, List.map_nil, List.drop_zero, List.drop_succ_cons, List.drop_nil, List.take_zero, List.take_succ_cons, List.take_nil, ite_true, ite_false, if_true, if_false, implies_true, forall_const, beq_self_eq_true, List.replicate_succ, List.replicate_zero, List.headD_cons, List.cons_append, List.nil_append, bne_self_eq_false, hp, h2, hl]
theorem leaveP_spec (now : Int) : CallA T base 23 [.ptr b 0, i64 now] h = some (i64 (leaveP l now).2, setBx h b (.cells (bx (leaveP l now).1))) := by
  have hp := fun base => pass_spec (base := base) hb hbl now
  unfold leaveP
  generalize passL l now = l1 at *
  rw [S23]
  simp only [bx_eq, setBx_setBx] at *
  cases h2 : (l1.st != 4) <;> simp only [hb, getBox_set_same hbl, hbl, ↓evD, evU, Nat.reduceAdd, Nat.reduceSub, Nat.reduceMul, Nat.reduceLeDiff, Nat.reduceLT, Nat.reduceEqDiff, Nat.reduceBEq, reduceIte, reduceCtorEq, Int.reduceBEq, Int.reduceEq, Int.reduceLT, Int.reduceLE, Int.reduceGT, Int.reduceGE, Int.reduceAdd, Int.reduceSub, Int.reduceNeg, Int.reduceBNe, List.all_cons, List.all_nil, List.getElem?_cons_zero, List.getElem?_cons_succ, List.getElem?_nil, Option.map_some, List.length_cons, List.length_nil, List.set_cons_zero, List.set_cons_succ, List.map_cons, List.map_nil, List.drop_zero, List.drop_succ_cons, List.drop_nil, List.take_zero, List.take_succ_cons, List.take_nil, ite_true, ite_false, if_true, if_false, implies_true, forall_const, beq_self_eq_true, List.replicate_succ, List.replicate_zero, List.headD_cons, List.cons_append, List.nil_append, bne_self_eq_false, hp, h2]
theorem next_spec : CallA T base 12 [.ptr b 0] h = some (.tup [i64 (if timedL l then l.next else 0), .bool (timedL l)], h) := by
  have ht := fun base => timed_spec (base := base) hb hbl
  rw [S12]
  simp only [bx_eq] at *
  cases htm : timedL l <;> simp only [hb, getBox_set_same hbl, hbl, ↓evD, evU, Nat.reduceAdd, Nat.reduceSub, Nat.reduceMul, Nat.reduceLeDiff, Nat.reduceLT, Nat.reduceEqDiff, Nat.reduceBEq, reduceIte, reduceCtorEq, Int.reduceBEq, Int.reduceEq, Int.reduceLT, Int.reduceLE, Int.reduceGT, Int.reduceGE, Int.reduceAdd, Int.reduceSub, Int.reduceNeg, Int.reduceBNe, List.all_cons, List.all_nil, List.getElem?_cons_zero, List.getElem?_cons_succ, List.getElem?_nil, Option.map_some, List.length_cons, List.length_nil, List.set_cons_zero, List.set_cons_succ, List.map_cons, List.map_nil, List.drop_zero, List.drop_succ_cons, List.drop_nil, List.take_zero, List.take_succ_cons, List.take_nil, ite_true, ite_false, if_true, if_false, implies_true, forall_const, beq_self_eq_true, List.replicate_succ, List.replicate_zero, List.headD_cons, List.cons_append, List.nil_append, bne_self_eq_false, ht, htm, i64]
end
end Go.Am.Ytlmfmjmpfcaliaa
