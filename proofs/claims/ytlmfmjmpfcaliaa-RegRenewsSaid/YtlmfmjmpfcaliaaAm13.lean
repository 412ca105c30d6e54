/- 'Am': on the machine alone: what an operation hangs on; operations that change places; pointers that stay below.
   By the session's AI agent. -/
import Derived.Test.YtlmfmjmpfcaliaaAm3
import Derived.Test.YtlmfmjmpfcaliaaAm4
import Derived.Test.YtlmfmjmpfcaliaaAm2
namespace Go.Am
set_option linter.unusedVariables false
set_option linter.unusedSimpArgs false

/-! ### An operation hangs on the slots that it reads -/
def Agree (l : List Nat) (e f : Env) : Prop := ∀ t ∈ l, look e t = look f t

theorem Agree.left {l m : List Nat} {e f : Env} (h : Agree (l ++ m) e f) : Agree l e f := fun t ht => h t (List.mem_append_left _ ht)
theorem Agree.right {l m : List Nat} {e f : Env} (h : Agree (l ++ m) e f) : Agree m e f := fun t ht => h t (List.mem_append_right _ ht)

theorem ev_agree {e f : Env} {x : Opnd} (h : Agree (tmpOf x) e f) : ev e x = ev f x := by
  cases x with
  | tmp t => exact h t (by simp [tmpOf])
  | const v => rfl

theorem evs_agree {e f : Env} : ∀ {xs : List Opnd}, Agree (xs.flatMap tmpOf) e f → evs e xs = evs f xs
  | [], _ => rfl
  | x :: xs, h => by
    rw [List.flatMap_cons] at h
    simp only [evs, ev_agree h.left, evs_agree h.right]

theorem evParts_agree {e f : Env} : ∀ {ps : List (Nat × Opnd)}, Agree (ps.flatMap fun x => tmpOf x.2) e f → evParts e ps = evParts f ps
  | [], _ => rfl
  | (i, x) :: ps, h => by
    rw [List.flatMap_cons] at h
    simp only [evParts, ev_agree h.left, evParts_agree h.right]

theorem evParts3_agree {e f : Env} : ∀ {ps : List (Nat × Nat × Opnd)}, Agree (ps.flatMap fun x => tmpOf x.2.2) e f → evParts3 e ps = evParts3 f ps
  | [], _ => rfl
  | (i, n, x) :: ps, h => by
    rw [List.flatMap_cons] at h
    simp only [evParts3, ev_agree h.left, evParts3_agree h.right]

theorem bd_agree {e f : Env} {n d : Nat} {x : Option Opnd} (h : Agree ((x.map tmpOf).getD []) e f) : bd e n d x = bd f n d x := by
  cases x with
  | none => rfl
  | some x => simp only [bd, ev_agree (show Agree (tmpOf x) e f from h)]

theorem sliceOf_agree {e f : Env} {n : Option Nat} {lo hi mx : Option Opnd} {v : PV} (h1 : Agree ((lo.map tmpOf).getD []) e f) (h2 : Agree ((hi.map tmpOf).getD []) e f) (h3 : Agree ((mx.map tmpOf).getD []) e f) :
    sliceOf e n lo hi mx v = sliceOf f n lo hi mx v := by
  have b1 : ∀ n d, bd e n d lo = bd f n d lo := fun n d => bd_agree h1
  have b2 : ∀ n d, bd e n d hi = bd f n d hi := fun n d => bd_agree h2
  have b3 : ∀ n d, bd e n d mx = bd f n d mx := fun n d => bd_agree h3
  cases v <;> simp only [sliceOf, b1, b2, b3]

/-- What an operation gives, the frame beside it. -/
def vh (r : Option (PV × Env × Hp)) : Option (PV × Hp) := r.map fun x => (x.1, x.2.2)

theorem vh_bnd {α : Type} (x : Option α) (k : α → Option (PV × Env × Hp)) : vh (x.bnd k) = x.bnd fun a => vh (k a) := by cases x <;> rfl
theorem vh_some (v : PV) (e : Env) (h : Hp) : vh (some (v, e, h)) = some (v, h) := rfl
theorem vh_none : vh none = none := rfl
theorem vh_ite {c : Prop} [Decidable c] (x y : Option (PV × Env × Hp)) : vh (if c then x else y) = if c then vh x else vh y := by split <;> rfl
theorem vh_cond (v : PV) (x y : Option (PV × Env × Hp)) : vh (condB v x y) = condB v (vh x) (vh y) := by
  cases v with
  | bool b => cases b <;> rfl
  | _ => rfl

theorem step_agree (orc : Orc) (base : Nat) (draw : Bool) {op : AOp} (ht : noTake op = true) {e f : Env} (h : Agree (readsOf op) e f) (hp : Hp) :
    vh (step orc base draw op e hp) = vh (step orc base draw op f hp) := by
  cases op <;> simp only [noTake] at ht <;> (try cases ht) <;> simp only [readsOf] at h
  case mov x => simp only [step, ev_agree h, vh_bnd, vh_some]
  case pick c a b => simp only [step, ev_agree h.left.left, ev_agree h.left.right, ev_agree h.right, vh_bnd, vh_cond, vh_some]
  case alloc z => simp only [step, vh_some]
  case box n x => simp only [step, ev_agree h, vh_bnd, vh_ite, vh_some, vh_none]
  case build z ps => simp only [step, evParts3_agree h, vh_bnd, vh_some]
  case buildSl sz a z len ps => simp only [step, evParts_agree h, vh_bnd, vh_some]
  case load n a x =>
    simp only [step, ev_agree h, vh_bnd]
    congr 1; funext v; cases v <;> simp only [vh_bnd, vh_some, vh_none]
  case store n x y =>
    simp only [step, ev_agree h.left, ev_agree h.right, vh_bnd]
    congr 1; funext v; congr 1; funext u; cases v <;> simp only [vh_bnd, vh_ite, vh_some, vh_none]
  case nilck x =>
    simp only [step, ev_agree h, vh_bnd]
    congr 1; funext v; split <;> simp only [vh_some, vh_none]
  case bin o x y => simp only [step, ev_agree h.left, ev_agree h.right, vh_bnd, vh_some]
  case binB o x y =>
    simp only [step, ev_agree h.left, ev_agree h.right, vh_bnd]
    congr 1; funext v; congr 1; funext u; split <;> simp only [vh_some, vh_none]
  case isnil k n x => simp only [step, ev_agree h, vh_bnd, vh_some]
  case un o x => simp only [step, ev_agree h, vh_bnd, vh_some]
  case toInt k x =>
    simp only [step, ev_agree h, vh_bnd]
    congr 1; funext v; cases v <;> simp only [vh_some, vh_none]
  case strBytes x =>
    simp only [step, ev_agree h, vh_bnd]
    congr 1; funext v; cases v <;> simp only [vh_ite, vh_some, vh_none]
  case bytesStr x =>
    simp only [step, ev_agree h, vh_bnd]
    congr 1; funext v; cases v <;> simp only [vh_bnd, vh_some, vh_none]
  case mkif t x => simp only [step, ev_agree h, vh_bnd, vh_some]
  case slice n x lo hi mx =>
    have := fun v => sliceOf_agree (n := n) (v := v) (lo := lo) (hi := hi) (mx := mx) (e := e) (f := f) h.left.left.right h.left.right h.right
    simp only [step, ev_agree h.left.left.left, vh_bnd, vh_some, this]
  case fieldA o x =>
    simp only [step, ev_agree h, vh_bnd]
    congr 1; funext v; cases v <;> simp only [vh_some, vh_none]
  case field o n a x =>
    simp only [step, ev_agree h, vh_bnd]
    congr 1; funext v; cases v <;> simp only [vh_bnd, vh_some, vh_none]
  case idxA s x y =>
    simp only [step, ev_agree h.left, ev_agree h.right, vh_bnd]
    congr 1; funext v; congr 1; funext u; cases v <;> simp only [vh_bnd, vh_ite, vh_some, vh_none]
  case idxArr s l x y =>
    simp only [step, ev_agree h.left, ev_agree h.right, vh_bnd]
    congr 1; funext v; congr 1; funext u; cases v <;> simp only [vh_bnd, vh_ite, vh_some, vh_none]
  case idxStr x y =>
    simp only [step, ev_agree h.left, ev_agree h.right, vh_bnd]
    congr 1; funext v; congr 1; funext u; cases v <;> simp only [vh_bnd, vh_ite, vh_some, vh_none]
  case idxAgg s a l x y =>
    simp only [step, ev_agree h.left, ev_agree h.right, vh_bnd]
    congr 1; funext v; congr 1; funext u; cases v <;> simp only [vh_bnd, vh_ite, vh_some, vh_none]
  case extract x i =>
    simp only [step, ev_agree h, vh_bnd]
    congr 1; funext v; cases v <;> simp only [vh_bnd, vh_some, vh_none]
  case tassert t ok z a x =>
    simp only [step, ev_agree h, vh_bnd]
    congr 1; funext v; cases v <;> simp only [vh_ite, vh_some, vh_none]
  case len s x =>
    simp only [step, ev_agree h, vh_bnd]
    congr 1; funext v; split <;> simp only [vh_some, vh_none]
  case minmax m xs =>
    simp only [step, evs_agree h, vh_bnd]
    congr 1; funext v; cases v <;> simp only [vh_bnd, vh_some, vh_none]
  case append s x y =>
    simp only [step, ev_agree h.left, ev_agree h.right, vh_bnd]
    congr 1; funext v; congr 1; funext u; congr 1; funext xs
    split
    · cases v <;> (try simp only [vh_ite, vh_some, vh_none])
      rename_i o _ _; cases o <;> simp only [vh_ite, vh_some, vh_none]
    · rfl
  case appendBox s x y =>
    simp only [step, ev_agree h.left, ev_agree h.right, vh_bnd]
    congr 1; funext v; congr 1; funext u; congr 1; funext xs
    split
    · cases v <;> (try simp only [vh_ite, vh_some, vh_none])
      rename_i o _ es; cases o <;> (try simp only [vh_ite, vh_some, vh_none])
      cases es <;> simp only [vh_ite, vh_some, vh_none]
    · rfl
  case call g xs =>
    simp only [step, evs_agree h, vh_bnd]
    congr 1; funext v; congr 1; funext r; split <;> simp only [vh_ite, vh_some, vh_none]
  case callQ g xs =>
    simp only [step, evs_agree h, vh_bnd]
    congr 1; funext v; congr 1; funext r; simp only [vh_ite, vh_some, vh_none]
  case callv x xs =>
    simp only [step, ev_agree h.left, vh_bnd]
    congr 1; funext v; cases v <;> simp only [evs_agree h.right, vh_bnd, vh_none]
    congr 1; funext v; congr 1; funext r; split <;> simp only [vh_ite, vh_some, vh_none]

def AllR {α : Type} (p : α → Prop) (r : Option α) : Prop := ∀ x, r = some x → p x
theorem AllR.bnd {α β : Type} {p : β → Prop} {x : Option α} {k : α → Option β} (h : ∀ a, AllR p (k a)) : AllR p (x.bnd k) := by
  cases x with
  | none => intro y hy; cases hy
  | some a => exact h a
theorem AllR.none {α : Type} {p : α → Prop} : AllR p none := fun x hx => by cases hx
theorem AllR.some {α : Type} {p : α → Prop} {x : α} (h : p x) : AllR p (some x) := fun y hy => by cases hy; exact h
theorem AllR.ite {α : Type} {p : α → Prop} {c : Prop} [Decidable c] {x y : Option α} (h1 : AllR p x) (h2 : AllR p y) : AllR p (if c then x else y) := by split <;> assumption
theorem AllR.cond {α : Type} {p : α → Prop} {v : PV} {x y : Option α} (h1 : AllR p x) (h2 : AllR p y) : AllR p (condB v x y) := by
  cases v with
  | bool b => cases b <;> assumption
  | _ => exact AllR.none

/-- The frame is left as it was; what is quiet leaves the heap, too; what doesn't look gives the same over every heap. -/
theorem step_env (orc : Orc) (base : Nat) (draw : Bool) {op : AOp} (ht : noTake op = true) {e : Env} {h : Hp} : AllR (fun x => x.2.1 = e) (step orc base draw op e h) := by
  cases op <;> simp only [noTake] at ht <;> (try cases ht) <;> simp only [step]
  all_goals
    repeat' (first
      | exact AllR.some rfl
      | exact AllR.none
      | (refine AllR.bnd fun _ => ?_)
      | (refine AllR.ite ?_ ?_)
      | (refine AllR.cond ?_ ?_)
      | split)

theorem step_quiet (orc : Orc) (base : Nat) {draw : Bool} {op : AOp} (ht : quiet draw op = true) {e : Env} {h : Hp} : AllR (fun x => x.2.2 = h) (step orc base draw op e h) := by
  cases op <;> simp only [quiet] at ht <;> (try cases ht) <;> simp only [step, if_true]
  all_goals
    repeat' (first
      | exact AllR.some rfl
      | exact AllR.none
      | (refine AllR.bnd fun _ => ?_)
      | (refine AllR.ite ?_ ?_)
      | (refine AllR.cond ?_ ?_)
      | split)

def wh (h2 : Hp) (r : Option (PV × Env × Hp)) : Option (PV × Env × Hp) := r.map fun x => (x.1, x.2.1, h2)
theorem wh_bnd {α : Type} (h2 : Hp) (x : Option α) (k : α → Option (PV × Env × Hp)) : wh h2 (x.bnd k) = x.bnd fun a => wh h2 (k a) := by cases x <;> rfl
theorem wh_some (h2 : Hp) (v : PV) (e : Env) (h : Hp) : wh h2 (some (v, e, h)) = some (v, e, h2) := rfl
theorem wh_none (h2 : Hp) : wh h2 none = none := rfl
theorem wh_ite {c : Prop} [Decidable c] (h2 : Hp) (x y : Option (PV × Env × Hp)) : wh h2 (if c then x else y) = if c then wh h2 x else wh h2 y := by split <;> rfl
theorem wh_cond (h2 : Hp) (v : PV) (x y : Option (PV × Env × Hp)) : wh h2 (condB v x y) = condB v (wh h2 x) (wh h2 y) := by
  cases v with
  | bool b => cases b <;> rfl
  | _ => rfl

theorem step_blind (orc : Orc) (base : Nat) (draw : Bool) {op : AOp} (ht : looks op = false) {e : Env} {h h2 : Hp} : step orc base draw op e h2 = wh h2 (step orc base draw op e h) := by
  cases op <;> simp only [looks] at ht <;> (try cases ht) <;> simp only [step, wh_bnd, wh_some, wh_none, wh_ite, wh_cond]
  all_goals (congr 1; funext v)
  all_goals first
    | (cases v <;> simp only [wh_bnd, wh_some, wh_none, wh_ite]; done)
    | (split <;> simp only [wh_bnd, wh_some, wh_none, wh_ite]; done)
    | (congr 1; funext u; cases v <;> simp only [wh_bnd, wh_some, wh_none, wh_ite]; done)
    | (congr 1; funext u; split <;> simp only [wh_bnd, wh_some, wh_none, wh_ite]; done)

theorem noTake_of_blind {op : AOp} (h : looks op = false) : noTake op = true := by cases op <;> simp_all [looks, noTake]

/-! ### Frames that tell the same -/
def Eqv (e f : Env) : Prop := ∀ t, look e t = look f t
theorem Eqv.refl (e : Env) : Eqv e e := fun _ => rfl
theorem Eqv.trans {e f k : Env} (a : Eqv e f) (b : Eqv f k) : Eqv e k := fun t => (a t).trans (b t)
theorem Eqv.symm {e f : Env} (a : Eqv e f) : Eqv f e := fun t => (a t).symm
theorem Eqv.put {e f : Env} (a : Eqv e f) (d : Option Nat) (v : PV) : Eqv (putD e d v) (putD f d v) := by
  cases d with
  | none => exact a
  | some d => intro t; simp only [putD, look]; rw [a t]
theorem Eqv.agree {e f : Env} (a : Eqv e f) (l : List Nat) : Agree l e f := fun t _ => a t
theorem Eqv.wanted {e f : Env} (a : Eqv e f) (g : Option (Nat × Bool)) : wanted e g = Go.Am.wanted f g := by
  cases g with
  | none => rfl
  | some g => obtain ⟨t, w⟩ := g; simp only [Go.Am.wanted, a t]

/-- One operation, asked for or not. -/
def exec1 (orc : Orc) (base : Nat) (draw : Bool) (o : AOper) (e : Env) (h : Hp) : Option (Env × Hp) :=
  (wanted e o.guard).bnd fun w => if w then (step orc base draw o.op e h).bnd fun x => some (putD x.2.1 o.dst x.1, x.2.2) else some (putD e o.dst .undef, h)

theorem execOps_eq (orc : Orc) (base : Nat) (draw : Bool) (o : AOper) (l : List AOper) (e : Env) (h : Hp) :
    execOps orc base draw (o :: l) e h = (exec1 orc base draw o e h).bnd fun x => execOps orc base draw l x.1 x.2 := by
  rw [execOps, exec1]
  cases wanted e o.guard with
  | none => rfl
  | some w =>
    simp only [Option.bnd]
    cases w with
    | false => rfl
    | true =>
      simp only [if_true]
      cases step orc base draw o.op e h <;> rfl

theorem agree_guard {e f : Env} {g : Option (Nat × Bool)} (h : Agree ((g.map fun g => [g.1]).getD []) e f) : wanted e g = wanted f g := by
  cases g with
  | none => rfl
  | some g => obtain ⟨t, w⟩ := g; simp only [wanted]; rw [h t (by simp)]

/-- One operation in two frames that agree on what it names. -/
theorem exec1_agree {orc : Orc} {base : Nat} {draw : Bool} {o : AOper} (ht : noTake o.op = true) {e f : Env} (ha : Agree (readsOf o.op ++ (o.guard.map fun g => [g.1]).getD []) e f) {h : Hp} {e' : Env} {h' : Hp}
    (hs : exec1 orc base draw o e h = some (e', h')) : ∃ v, e' = putD e o.dst v ∧ exec1 orc base draw o f h = some (putD f o.dst v, h') := by
  have hg := agree_guard (g := o.guard) ha.right
  unfold exec1 at hs ⊢
  rw [← hg]
  cases hw : wanted e o.guard with
  | none => rw [hw] at hs; cases hs
  | some w =>
    rw [hw] at hs
    simp only [Option.bnd] at hs ⊢
    cases w with
    | false =>
      simp only [Bool.false_eq_true, if_false, Option.some.injEq, Prod.mk.injEq] at hs ⊢
      exact ⟨.undef, hs.1.symm, rfl, hs.2⟩
    | true =>
      simp only [if_true] at hs ⊢
      have hv := step_agree orc base draw ht ha.left h
      have he := step_env orc base draw ht (e := e) (h := h)
      have hf := step_env orc base draw ht (e := f) (h := h)
      cases hse : step orc base draw o.op e h with
      | none => rw [hse] at hs; cases hs
      | some x =>
        obtain ⟨v, e1, h1⟩ := x
        rw [hse] at hs hv he
        simp only [Option.some.injEq, Prod.mk.injEq] at hs
        cases hsf : step orc base draw o.op f h with
        | none => rw [hsf] at hv; simp [vh] at hv
        | some y =>
          obtain ⟨v2, e2, h2⟩ := y
          rw [hsf] at hv hf
          simp only [vh, Option.map_some, Option.some.injEq, Prod.mk.injEq] at hv
          have := he _ rfl
          have := hf _ rfl
          simp only at *
          subst e1; subst e2
          obtain ⟨rfl, rfl⟩ := hv
          exact ⟨v, hs.1.symm, by rw [hs.2]⟩

theorem execOps_eqv {orc : Orc} {base : Nat} {draw : Bool} : ∀ {l : List AOper} (ht : ∀ o ∈ l, noTake o.op = true) {e f : Env} (ha : Eqv e f) {h : Hp} {e' : Env} {h' : Hp},
    execOps orc base draw l e h = some (e', h') → ∃ f', Eqv e' f' ∧ execOps orc base draw l f h = some (f', h')
  | [], _, e, f, ha, h, e', h', hs => by
    simp only [execOps, Option.some.injEq, Prod.mk.injEq] at hs
    obtain ⟨rfl, rfl⟩ := hs
    exact ⟨f, ha, rfl⟩
  | o :: l, ht, e, f, ha, h, e', h', hs => by
    rw [execOps_eq, Option.bnd_eq_some_iff] at hs
    obtain ⟨⟨e1, h1⟩, h2, h3⟩ := hs
    obtain ⟨v, rfl, h4⟩ := exec1_agree (ht o (by simp)) (ha.agree _) h2
    obtain ⟨f', h5, h6⟩ := execOps_eqv (fun o ho => ht o (by simp [ho])) (ha.put o.dst v) h3
    exact ⟨f', h5, by rw [execOps_eq, h4]; exact h6⟩

theorem look_putD_ne {e : Env} {d : Option Nat} {v : PV} {t : Nat} (h : d ≠ some t) : look (putD e d v) t = look e t := by
  cases d with
  | none => rfl
  | some d => simp only [putD, look]; rw [if_neg (fun hq => h (by rw [hq]))]

theorem quiet_noTake_blind {d : Bool} {op : AOp} (h : looks op = false) : quiet d op = true := by cases op <;> simp_all [looks, quiet]

/-- Two operations that name nothing of each other, and of which one is quiet where the other looks, change places. -/
theorem swap2 {orc : Orc} {base : Nat} {draw : Bool} {x y : AOper} (hx : noTake x.op = true) (hy : noTake y.op = true) (hap : apartB draw y x = true) {e : Env} {h : Hp} {e' : Env} {h' : Hp} {e1 : Env} {h1 : Hp}
    (h2 : exec1 orc base draw y e h = some (e1, h1)) (h3 : exec1 orc base draw x e1 h1 = some (e', h')) :
    ∃ e2 h2' e3, exec1 orc base draw x e h = some (e2, h2') ∧ exec1 orc base draw y e2 h2' = some (e3, h') ∧ Eqv e' e3 := by
  simp only [apartB, Bool.and_eq_true, Bool.or_eq_true, List.all_eq_true, Bool.not_eq_true'] at hap
  obtain ⟨⟨⟨n1, n2⟩, n3⟩, n4⟩ := hap
  have ydx : ∀ t ∈ names x, y.dst ≠ some t := by
    intro t ht hq
    have := n1 t (by simp [hq])
    simp at this
    exact this ht
  have xdy : ∀ t ∈ names y, x.dst ≠ some t := by
    intro t ht hq
    have := n2 t (by simp [hq])
    simp at this
    exact this ht
  obtain ⟨vy, rfl, hy2⟩ := exec1_agree (f := e) hy (fun _ _ => rfl) h2
  -- x in the frame as it was before y
  have hagx : Agree (readsOf x.op ++ (x.guard.map fun g => [g.1]).getD []) (putD e y.dst vy) e := by
    intro t ht
    refine look_putD_ne (ydx t ?_)
    simp only [names, List.mem_append] at ht ⊢
    rcases ht with ht | ht
    · exact .inl (.inr ht)
    · exact .inr ht
  obtain ⟨vx, rfl, hx2⟩ := exec1_agree hx hagx h3
  have hagy : ∀ v, Agree (readsOf y.op ++ (y.guard.map fun g => [g.1]).getD []) e (putD e x.dst v) := by
    intro v t ht
    refine (look_putD_ne (xdy t ?_)).symm
    simp only [names, List.mem_append] at ht ⊢
    rcases ht with ht | ht
    · exact .inl (.inr ht)
    · exact .inr ht
  have heqv : Eqv (putD (putD e y.dst vy) x.dst vx) (putD (putD e x.dst vx) y.dst vy) := by
    intro t
    cases hxd : x.dst with
    | none => cases y.dst <;> rfl
    | some dx =>
      cases hyd : y.dst with
      | none => rfl
      | some dy =>
        have hne : dy ≠ dx := by
          intro hq
          have := ydx dx (by simp [names, hxd])
          rw [hyd, hq] at this
          exact this rfl
        simp only [putD, look]
        by_cases h1 : dx = t
        · rw [if_pos h1, if_neg (by omega), if_pos h1]
        · rw [if_neg h1]
          by_cases h2 : dy = t
          · rw [if_pos h2, if_pos h2]
          · rw [if_neg h2, if_neg h2, if_neg h1]
  -- the heaps
  have heap_quiet : ∀ (o : AOper) (e0 : Env) (h0 : Hp) (r : Env × Hp), quiet draw o.op = true → exec1 orc base draw o e0 h0 = some r → r.2 = h0 := by
    intro o e0 h0 r hq hr
    unfold exec1 at hr
    simp only [Option.bnd_eq_some_iff] at hr
    obtain ⟨w, _, hr⟩ := hr
    cases w with
    | false => simp only [Bool.false_eq_true, if_false, Option.some.injEq] at hr; rw [← hr]
    | true =>
      simp only [if_true, Option.bnd_eq_some_iff, Option.some.injEq] at hr
      obtain ⟨z, hz, rfl⟩ := hr
      exact step_quiet orc base hq z hz
  have heap_blind : ∀ (o : AOper) (e0 : Env) (h0 h9 : Hp) (r : Env × Hp), looks o.op = false → exec1 orc base draw o e0 h0 = some r → exec1 orc base draw o e0 h9 = some (r.1, h9) := by
    intro o e0 h0 h9 r hq hr
    unfold exec1 at hr ⊢
    simp only [Option.bnd_eq_some_iff] at hr ⊢
    obtain ⟨w, hw, hr⟩ := hr
    refine ⟨w, hw, ?_⟩
    cases w with
    | false => simp only [Bool.false_eq_true, if_false, Option.some.injEq] at hr ⊢; rw [← hr]
    | true =>
      simp only [if_true, Option.bnd_eq_some_iff, Option.some.injEq] at hr ⊢
      obtain ⟨z, hz, rfl⟩ := hr
      have := step_blind orc base draw hq (e := e0) (h := h0) (h2 := h9)
      rw [hz] at this
      exact ⟨_, this, rfl⟩
  rcases n3 with hqy | hlx
  · -- y is quiet
    have e1 : h1 = h := heap_quiet y e h _ hqy h2
    subst e1
    rcases n4 with hqx | hly
    · have e2 : h' = h1 := heap_quiet x _ _ _ hqx h3
      subst e2
      obtain ⟨vy', hvy, hy3⟩ := exec1_agree hy (hagy vx) hy2
      have : Eqv (putD (putD e x.dst vx) y.dst vy') (putD (putD e x.dst vx) y.dst vy) := by
        intro t
        cases hyd : y.dst with
        | none => rfl
        | some dy =>
          rw [hyd] at hvy
          simp only [putD, List.cons.injEq, Prod.mk.injEq, true_and, and_true] at hvy
          rw [hvy]
      exact ⟨_, _, _, hx2, hy3, heqv.trans this.symm⟩
    · have hy4 := heap_blind y e h1 h' _ hly hy2
      obtain ⟨vy', hvy, hy3⟩ := exec1_agree hy (hagy vx) hy4
      have : Eqv (putD (putD e x.dst vx) y.dst vy') (putD (putD e x.dst vx) y.dst vy) := by
        intro t
        cases hyd : y.dst with
        | none => rfl
        | some dy =>
          rw [hyd] at hvy
          simp only [putD, List.cons.injEq, Prod.mk.injEq, true_and, and_true] at hvy
          rw [hvy]
      exact ⟨_, _, _, hx2, hy3, heqv.trans this.symm⟩
  · -- x doesn't look
    have e2 : h' = h1 := heap_quiet x _ _ _ (quiet_noTake_blind hlx) h3
    subst e2
    have hx4 := heap_blind x e h' h _ hlx hx2
    obtain ⟨vy', hvy, hy3⟩ := exec1_agree hy (hagy vx) hy2
    have : Eqv (putD (putD e x.dst vx) y.dst vy') (putD (putD e x.dst vx) y.dst vy) := by
      intro t
      cases hyd : y.dst with
      | none => rfl
      | some dy =>
        rw [hyd] at hvy
        simp only [putD, List.cons.injEq, Prod.mk.injEq, true_and, and_true] at hvy
        rw [hvy]
    exact ⟨_, _, _, hx4, hy3, heqv.trans this.symm⟩

/-- An operation that is apart from all ahead of it may come first. -/
theorem swap_front {orc : Orc} {base : Nat} {draw : Bool} {x : AOper} (hx : noTake x.op = true) : ∀ (l1 : List AOper) {l2 : List AOper} (ht : ∀ o ∈ l1 ++ l2, noTake o.op = true) (hap : ∀ y ∈ l1, apartB draw y x = true) {e : Env} {h : Hp} {e' : Env} {h' : Hp},
    execOps orc base draw (l1 ++ x :: l2) e h = some (e', h') → ∃ e2, Eqv e' e2 ∧ execOps orc base draw (x :: (l1 ++ l2)) e h = some (e2, h')
  | [], l2, ht, hap, e, h, e', h', hs => ⟨e', Eqv.refl _, hs⟩
  | y :: l1, l2, ht, hap, e, h, e', h', hs => by
    rw [List.cons_append, execOps_eq, Option.bnd_eq_some_iff] at hs
    obtain ⟨⟨e1, h1⟩, h2, h3⟩ := hs
    obtain ⟨e2, he2, h4⟩ := swap_front hx l1 (l2 := l2) (fun o ho => ht o (by simp only [List.cons_append, List.mem_cons]; exact .inr ho)) (fun z hz => hap z (by simp [hz])) h3
    rw [execOps_eq, Option.bnd_eq_some_iff] at h4
    obtain ⟨⟨e3, h5⟩, h6, h7⟩ := h4
    obtain ⟨e4, h8, e5, h9, h10, h11⟩ := swap2 hx (ht y (by simp)) (hap y (by simp)) h2 h6
    obtain ⟨e6, h12, h13⟩ := execOps_eqv (fun o ho => ht o (by simp only [List.cons_append, List.mem_cons]; exact .inr ho)) h11 h7
    refine ⟨e6, he2.trans h12, ?_⟩
    rw [execOps_eq, h9]
    simp only [Option.bnd]
    rw [List.cons_append, execOps_eq, h10]
    exact h13
end Go.Am
