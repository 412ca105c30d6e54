/- 'Am': on the machine alone: what an operation hangs on; operations that change places; pointers that stay below.
   By the session's AI agent. -/
import Derived.Test.YthhceeaconflnaaDoorAm3
import Derived.Test.YthhceeaconflnaaDoorAm4
import Derived.Test.YthhceeaconflnaaDoorAm2
namespace Go.Am
set_option linter.unusedVariables false
set_option linter.unusedSimpArgs false

/-! ### An operation hangs on the slots that it reads -/
def Agree (l : List Nat) (e f : Env) : Prop := ∀ t ∈ l, look e t = look f t

theorem Agree.left {l m : List Nat} {e f : Env} (h : Agree (l ++ m) e f) : Agree l e f := fun t ht => h t (List.mem_append_left _ ht)
theorem Agree.right {l m : List Nat} {e f : Env} (h : Agree (l ++ m) e f) : Agree m e f := fun t ht => h t (List.mem_append_right _ ht)

theorem ev_agree {e f : Env} {x : Opnd} (h : Agree (tmpOf x) e f) : ev e x = ev f x := by
  cases x with
  | tmp t => exact h t (by simp [tmpOf])
  | const v => rfl

theorem evs_agree {e f : Env} : ∀ {xs : List Opnd}, Agree (xs.flatMap tmpOf) e f → evs e xs = evs f xs
  | [], _ => rfl
  | x :: xs, h => by
    rw [List.flatMap_cons] at h
    simp only [evs, ev_agree h.left, evs_agree h.right]

theorem evParts_agree {e f : Env} : ∀ {ps : List (Nat × Opnd)}, Agree (ps.flatMap fun x => tmpOf x.2) e f → evParts e ps = evParts f ps
  | [], _ => rfl
  | (i, x) :: ps, h => by
    rw [List.flatMap_cons] at h
    simp only [evParts, ev_agree h.left, evParts_agree h.right]

theorem evParts3_agree {e f : Env} : ∀ {ps : List (Nat × Nat × Opnd)}, Agree (ps.flatMap fun x => tmpOf x.2.2) e f → evParts3 e ps = evParts3 f ps
  | [], _ => rfl
  | (i, n, x) :: ps, h => by
    rw [List.flatMap_cons] at h
    simp only [evParts3, ev_agree h.left, evParts3_agree h.right]

theorem bd_agree {e f : Env} {n d : Nat} {x : Option Opnd} (h : Agree ((x.map tmpOf).getD []) e f) : bd e n d x = bd f n d x := by
  cases x with
  | none => rfl
  | some x => simp only [bd, ev_agree (show Agree (tmpOf x) e f from h)]

theorem sliceOf_agree {e f : Env} {n : Option Nat} {lo hi mx : Option Opnd} {v : PV} (h1 : Agree ((lo.map tmpOf).getD []) e f) (h2 : Agree ((hi.map tmpOf).getD []) e f) (h3 : Agree ((mx.map tmpOf).getD []) e f) :
    sliceOf e n lo hi mx v = sliceOf f n lo hi mx v := by
  have b1 : ∀ n d, bd e n d lo = bd f n d lo := fun n d => bd_agree h1
  have b2 : ∀ n d, bd e n d hi = bd f n d hi := fun n d => bd_agree h2
  have b3 : ∀ n d, bd e n d mx = bd f n d mx := fun n d => bd_agree h3
  cases v <;> simp only [sliceOf, b1, b2, b3]

/-- What an operation gives, the frame beside it. -/
def vh (r : Option (PV × Env × Hp)) : Option (PV × Hp) := r.map fun x => (x.1, x.2.2)

theorem vh_bnd {α : Type} (x : Option α) (k : α → Option (PV × Env × Hp)) : vh (x.bnd k) = x.bnd fun a => vh (k a) := by cases x <;> rfl
theorem vh_some (v : PV) (e : Env) (h : Hp) : vh (some (v, e, h)) = some (v, h) := rfl
theorem vh_none : vh none = none := rfl
theorem vh_ite {c : Prop} [Decidable c] (x y : Option (PV × Env × Hp)) : vh (if c then x else y) = if c then vh x else vh y := by split <;> rfl
theorem vh_cond (v : PV) (x y : Option (PV × Env × Hp)) : vh (condB v x y) = condB v (vh x) (vh y) := by
  cases v with
  | bool b => cases b <;> rfl
  | _ => rfl

theorem step_agree (orc : Orc) (base : Nat) (draw : Bool) {op : AOp} {e f : Env} (h : Agree (readsOf op) e f) (hp : Hp) :
    vh (step orc base draw op e hp) = vh (step orc base draw op f hp) := by
  cases op <;> simp only [readsOf] at h
  case mov x => simp only [step, ev_agree h, vh_bnd, vh_some]
  case pick c a b => simp only [step, ev_agree h.left.left, ev_agree h.left.right, ev_agree h.right, vh_bnd, vh_cond, vh_some]
  case alloc z => simp only [step, vh_some]
  case box n x => simp only [step, ev_agree h, vh_bnd, vh_ite, vh_some, vh_none]
  case build z ps => simp only [step, evParts3_agree h, vh_bnd, vh_some]
  case buildSl sz a z len ps => simp only [step, evParts_agree h, vh_bnd, vh_some]
  case load n a x =>
    simp only [step, ev_agree h, vh_bnd]
    congr 1; funext v; cases v <;> simp only [vh_bnd, vh_some, vh_none]
  case store n x y =>
    simp only [step, ev_agree h.left, ev_agree h.right, vh_bnd]
    congr 1; funext v; congr 1; funext u; cases v <;> simp only [vh_bnd, vh_ite, vh_some, vh_none]
  case nilck x =>
    simp only [step, ev_agree h, vh_bnd]
    congr 1; funext v; split <;> simp only [vh_some, vh_none]
  case bin o x y => simp only [step, ev_agree h.left, ev_agree h.right, vh_bnd, vh_some]
  case binB o x y =>
    simp only [step, ev_agree h.left, ev_agree h.right, vh_bnd]
    congr 1; funext v; congr 1; funext u; split <;> simp only [vh_some, vh_none]
  case isnil k n x => simp only [step, ev_agree h, vh_bnd, vh_some]
  case un o x => simp only [step, ev_agree h, vh_bnd, vh_some]
  case toInt k x =>
    simp only [step, ev_agree h, vh_bnd]
    congr 1; funext v; cases v <;> simp only [vh_some, vh_none]
  case strBytes b x =>
    simp only [step, ev_agree h, vh_bnd]
    congr 1; funext v; cases v <;> simp only [vh_ite, vh_some, vh_none]
  case mkfn f xs => simp only [step, evs_agree h, vh_bnd, vh_some]
  case stuck => rfl
  case loadN t n g x =>
    have h1 : look e t = look f t := h t (by simp)
    have h2 : Agree (tmpOf x) e f := fun s hs => h s (by simp [hs])
    simp only [step, h1, ev_agree h2, vh_bnd]
    congr 1; funext q; congr 1; funext v
    split <;> simp only [vh_bnd, vh_ite, vh_some, vh_none]
  case storeN t n x y =>
    have h1 : look e t = look f t := h t (by simp)
    have h2 : Agree (tmpOf x) e f := fun s hs => h s (by simp [hs])
    have h3 : Agree (tmpOf y) e f := fun s hs => h s (by simp [hs])
    simp only [step, h1, ev_agree h2, ev_agree h3, vh_bnd]
    congr 1; funext q; congr 1; funext v; congr 1; funext u
    split <;> simp only [vh_bnd, vh_ite, vh_some, vh_none]
  case makeSl T z a x y =>
    simp only [step, ev_agree h.left, ev_agree h.right, vh_bnd, vh_ite, vh_some, vh_none]
  case copyB x y =>
    simp only [step, ev_agree h.left, ev_agree h.right, vh_bnd]
    congr 1; funext v; congr 1; funext u; congr 1; funext xs; cases v <;> simp only [vh_bnd, vh_ite, vh_some, vh_none]
  case range x =>
    simp only [step, ev_agree h, vh_bnd]
    congr 1; funext v; cases v <;> simp only [vh_some, vh_none]
  case next x =>
    simp only [step, ev_agree h, vh_bnd]
    congr 1; funext v; cases v <;> simp only [vh_bnd, vh_ite, vh_some, vh_none]
  case eqv n ks x y =>
    simp only [step, ev_agree h.left, ev_agree h.right, vh_bnd]
    congr 1; funext v; congr 1; funext u; split <;> simp only [vh_bnd, vh_some, vh_none]
  case bytesStr x =>
    simp only [step, ev_agree h, vh_bnd]
    congr 1; funext v; cases v <;> simp only [vh_bnd, vh_some, vh_none]
  case mkif t x => simp only [step, ev_agree h, vh_bnd, vh_some]
  case slice n x lo hi mx =>
    have := fun v => sliceOf_agree (n := n) (v := v) (lo := lo) (hi := hi) (mx := mx) (e := e) (f := f) h.left.left.right h.left.right h.right
    simp only [step, ev_agree h.left.left.left, vh_bnd, vh_some, this]
  case fieldA o x =>
    simp only [step, ev_agree h, vh_bnd]
    congr 1; funext v; cases v <;> simp only [vh_some, vh_none]
  case field o n a x =>
    simp only [step, ev_agree h, vh_bnd]
    congr 1; funext v; cases v <;> simp only [vh_bnd, vh_some, vh_none]
  case idxA s x y =>
    simp only [step, ev_agree h.left, ev_agree h.right, vh_bnd]
    congr 1; funext v; congr 1; funext u; cases v <;> simp only [vh_bnd, vh_ite, vh_some, vh_none]
  case idxArr s l x y =>
    simp only [step, ev_agree h.left, ev_agree h.right, vh_bnd]
    congr 1; funext v; congr 1; funext u; cases v <;> simp only [vh_bnd, vh_ite, vh_some, vh_none]
  case idxStr x y =>
    simp only [step, ev_agree h.left, ev_agree h.right, vh_bnd]
    congr 1; funext v; congr 1; funext u; cases v <;> simp only [vh_bnd, vh_ite, vh_some, vh_none]
  case idxAgg s a l x y =>
    simp only [step, ev_agree h.left, ev_agree h.right, vh_bnd]
    congr 1; funext v; congr 1; funext u; cases v <;> simp only [vh_bnd, vh_ite, vh_some, vh_none]
  case extract x i =>
    simp only [step, ev_agree h, vh_bnd]
    congr 1; funext v; cases v <;> simp only [vh_bnd, vh_some, vh_none]
  case tassert t ok z x =>
    simp only [step, ev_agree h, vh_bnd]
    congr 1; funext v; cases v <;> simp only [vh_ite, vh_some, vh_none]
  case len s x =>
    simp only [step, ev_agree h, vh_bnd]
    congr 1; funext v; split <;> simp only [vh_some, vh_none]
  case minmax m xs =>
    simp only [step, evs_agree h, vh_bnd]
    congr 1; funext v; cases v <;> simp only [vh_bnd, vh_some, vh_none]
  case append s x y =>
    simp only [step, ev_agree h.left, ev_agree h.right, vh_bnd]
    congr 1; funext v; congr 1; funext u; congr 1; funext xs
    split
    · cases v <;> (try simp only [vh_ite, vh_some, vh_none])
      rename_i o _ _; cases o <;> simp only [vh_ite, vh_some, vh_none]
    · rfl
  case appendT T s x y => simp only [step, ev_agree h.left, ev_agree h.right, vh_bnd, vh_some]
  case appendBox s x y =>
    simp only [step, ev_agree h.left, ev_agree h.right, vh_bnd]
    congr 1; funext v; congr 1; funext u; congr 1; funext xs
    split
    · cases v <;> (try simp only [vh_ite, vh_some, vh_none])
      rename_i o _ es; cases o <;> (try simp only [vh_ite, vh_some, vh_none])
      cases es <;> simp only [vh_ite, vh_some, vh_none]
    · rfl
  case call g xs =>
    simp only [step, evs_agree h, vh_bnd]
    congr 1; funext v; congr 1; funext r; split <;> simp only [vh_ite, vh_some, vh_none]
  case callQ g xs =>
    simp only [step, evs_agree h, vh_bnd]
    congr 1; funext v; congr 1; funext r; simp only [vh_ite, vh_some, vh_none]
  case callv x xs =>
    simp only [step, ev_agree h.left, vh_bnd]
    congr 1; funext v; cases v <;> simp only [evs_agree h.right, vh_bnd, vh_none]
    congr 1; funext v; congr 1; funext r; split <;> simp only [vh_ite, vh_some, vh_none]

def AllR {α : Type} (p : α → Prop) (r : Option α) : Prop := ∀ x, r = some x → p x
theorem AllR.bnd {α β : Type} {p : β → Prop} {x : Option α} {k : α → Option β} (h : ∀ a, AllR p (k a)) : AllR p (x.bnd k) := by
  cases x with
  | none => intro y hy; cases hy
  | some a => exact h a
theorem AllR.none {α : Type} {p : α → Prop} : AllR p none := fun x hx => by cases hx
theorem AllR.some {α : Type} {p : α → Prop} {x : α} (h : p x) : AllR p (some x) := fun y hy => by cases hy; exact h
theorem AllR.ite {α : Type} {p : α → Prop} {c : Prop} [Decidable c] {x y : Option α} (h1 : AllR p x) (h2 : AllR p y) : AllR p (if c then x else y) := by split <;> assumption
theorem AllR.cond {α : Type} {p : α → Prop} {v : PV} {x y : Option α} (h1 : AllR p x) (h2 : AllR p y) : AllR p (condB v x y) := by
  cases v with
  | bool b => cases b <;> assumption
  | _ => exact AllR.none

/-- The frame is left as it was; what is quiet leaves the heap, too; what doesn't look gives the same over every heap. -/
theorem step_env (orc : Orc) (base : Nat) (draw : Bool) {op : AOp} {e : Env} {h : Hp} : AllR (fun x => x.2.1 = e) (step orc base draw op e h) := by
  cases op <;> simp only [step]
  all_goals
    repeat' (first
      | exact AllR.some rfl
      | exact AllR.none
      | (refine AllR.bnd fun _ => ?_)
      | (refine AllR.ite ?_ ?_)
      | (refine AllR.cond ?_ ?_)
      | split)

theorem step_quiet (orc : Orc) (base : Nat) {draw : Bool} {op : AOp} (ht : quiet draw op = true) {e : Env} {h : Hp} : AllR (fun x => x.2.2 = h) (step orc base draw op e h) := by
  cases op <;> simp only [quiet, Bool.not_eq_true'] at ht <;> (try cases ht) <;> (try subst ht) <;> simp only [step, if_true, Bool.false_eq_true, if_false]
  all_goals
    repeat' (first
      | exact AllR.some rfl
      | exact AllR.none
      | (refine AllR.bnd fun _ => ?_)
      | (refine AllR.ite ?_ ?_)
      | (refine AllR.cond ?_ ?_)
      | split)

def wh (h2 : Hp) (r : Option (PV × Env × Hp)) : Option (PV × Env × Hp) := r.map fun x => (x.1, x.2.1, h2)
theorem wh_bnd {α : Type} (h2 : Hp) (x : Option α) (k : α → Option (PV × Env × Hp)) : wh h2 (x.bnd k) = x.bnd fun a => wh h2 (k a) := by cases x <;> rfl
theorem wh_some (h2 : Hp) (v : PV) (e : Env) (h : Hp) : wh h2 (some (v, e, h)) = some (v, e, h2) := rfl
theorem wh_none (h2 : Hp) : wh h2 none = none := rfl
theorem wh_ite {c : Prop} [Decidable c] (h2 : Hp) (x y : Option (PV × Env × Hp)) : wh h2 (if c then x else y) = if c then wh h2 x else wh h2 y := by split <;> rfl
theorem wh_cond (h2 : Hp) (v : PV) (x y : Option (PV × Env × Hp)) : wh h2 (condB v x y) = condB v (wh h2 x) (wh h2 y) := by
  cases v with
  | bool b => cases b <;> rfl
  | _ => rfl

theorem step_blind (orc : Orc) (base : Nat) (draw : Bool) {op : AOp} (ht : looks op = false) {e : Env} {h h2 : Hp} : step orc base draw op e h2 = wh h2 (step orc base draw op e h) := by
  cases op <;> simp only [looks] at ht <;> (try cases ht) <;> (try subst ht) <;> simp only [step, wh_bnd, wh_some, wh_none, wh_ite, wh_cond, Bool.false_eq_true, if_false]
  all_goals (congr 1; funext v)
  all_goals first
    | (cases v <;> simp only [wh_bnd, wh_some, wh_none, wh_ite]; done)
    | (split <;> simp only [wh_bnd, wh_some, wh_none, wh_ite]; done)
    | (congr 1; funext u; cases v <;> simp only [wh_bnd, wh_some, wh_none, wh_ite]; done)
    | (congr 1; funext u; split <;> simp only [wh_bnd, wh_some, wh_none, wh_ite]; done)

/-! ### Frames that tell the same -/
def Eqv (e f : Env) : Prop := ∀ t, look e t = look f t
theorem Eqv.refl (e : Env) : Eqv e e := fun _ => rfl
theorem Eqv.trans {e f k : Env} (a : Eqv e f) (b : Eqv f k) : Eqv e k := fun t => (a t).trans (b t)
theorem Eqv.symm {e f : Env} (a : Eqv e f) : Eqv f e := fun t => (a t).symm
theorem Eqv.put {e f : Env} (a : Eqv e f) (d : Option Nat) (v : PV) : Eqv (putD e d v) (putD f d v) := by
  cases d with
  | none => exact a
  | some d => intro t; simp only [putD, look]; rw [a t]
theorem Eqv.agree {e f : Env} (a : Eqv e f) (l : List Nat) : Agree l e f := fun t _ => a t
theorem Eqv.wanted {e f : Env} (a : Eqv e f) (g : Option (Nat × Bool)) : wanted e g = Go.Am.wanted f g := by
  cases g with
  | none => rfl
  | some g => obtain ⟨t, w⟩ := g; simp only [Go.Am.wanted, a t]

/-- One operation, asked for or not. -/
def exec1 (orc : Orc) (base : Nat) (draw : Bool) (o : AOper) (e : Env) (h : Hp) : Option (Env × Hp) :=
  (wanted e o.guard).bnd fun w => if w then (step orc base draw o.op e h).bnd fun x => some (putD x.2.1 o.dst x.1, x.2.2) else some (putD e o.dst .undef, h)

theorem execOps_eq (orc : Orc) (base : Nat) (draw : Bool) (o : AOper) (l : List AOper) (e : Env) (h : Hp) :
    execOps orc base draw (o :: l) e h = (exec1 orc base draw o e h).bnd fun x => execOps orc base draw l x.1 x.2 := by
  rw [execOps, exec1]
  cases wanted e o.guard with
  | none => rfl
  | some w =>
    simp only [Option.bnd]
    cases w with
    | false => rfl
    | true =>
      simp only [if_true]
      cases step orc base draw o.op e h <;> rfl

theorem agree_guard {e f : Env} {g : Option (Nat × Bool)} (h : Agree ((g.map fun g => [g.1]).getD []) e f) : wanted e g = wanted f g := by
  cases g with
  | none => rfl
  | some g => obtain ⟨t, w⟩ := g; simp only [wanted]; rw [h t (by simp)]

/-- One operation in two frames that agree on what it names. -/
theorem exec1_agree {orc : Orc} {base : Nat} {draw : Bool} {o : AOper} {e f : Env} (ha : Agree (readsOf o.op ++ (o.guard.map fun g => [g.1]).getD []) e f) {h : Hp} {e' : Env} {h' : Hp}
    (hs : exec1 orc base draw o e h = some (e', h')) : ∃ v, e' = putD e o.dst v ∧ exec1 orc base draw o f h = some (putD f o.dst v, h') := by
  have hg := agree_guard (g := o.guard) ha.right
  unfold exec1 at hs ⊢
  rw [← hg]
  cases hw : wanted e o.guard with
  | none => rw [hw] at hs; cases hs
  | some w =>
    rw [hw] at hs
    simp only [Option.bnd] at hs ⊢
    cases w with
    | false =>
      simp only [Bool.false_eq_true, if_false, Option.some.injEq, Prod.mk.injEq] at hs ⊢
      exact ⟨.undef, hs.1.symm, rfl, hs.2⟩
    | true =>
      simp only [if_true] at hs ⊢
      have hv := step_agree orc base draw ha.left h
      have he := step_env orc base draw (op := o.op) (e := e) (h := h)
      have hf := step_env orc base draw (op := o.op) (e := f) (h := h)
      cases hse : step orc base draw o.op e h with
      | none => rw [hse] at hs; cases hs
      | some x =>
        obtain ⟨v, e1, h1⟩ := x
        rw [hse] at hs hv he
        simp only [Option.some.injEq, Prod.mk.injEq] at hs
        cases hsf : step orc base draw o.op f h with
        | none => rw [hsf] at hv; simp [vh] at hv
        | some y =>
          obtain ⟨v2, e2, h2⟩ := y
          rw [hsf] at hv hf
          simp only [vh, Option.map_some, Option.some.injEq, Prod.mk.injEq] at hv
          have := he _ rfl
          have := hf _ rfl
          simp only at *
          subst e1; subst e2
          obtain ⟨rfl, rfl⟩ := hv
          exact ⟨v, hs.1.symm, by rw [hs.2]⟩

theorem execOps_eqv {orc : Orc} {base : Nat} {draw : Bool} : ∀ {l : List AOper} {e f : Env} (ha : Eqv e f) {h : Hp} {e' : Env} {h' : Hp},
    execOps orc base draw l e h = some (e', h') → ∃ f', Eqv e' f' ∧ execOps orc base draw l f h = some (f', h')
  | [], e, f, ha, h, e', h', hs => by
    simp only [execOps, Option.some.injEq, Prod.mk.injEq] at hs
    obtain ⟨rfl, rfl⟩ := hs
    exact ⟨f, ha, rfl⟩
  | o :: l, e, f, ha, h, e', h', hs => by
    rw [execOps_eq, Option.bnd_eq_some_iff] at hs
    obtain ⟨⟨e1, h1⟩, h2, h3⟩ := hs
    obtain ⟨v, rfl, h4⟩ := exec1_agree (ha.agree _) h2
    obtain ⟨f', h5, h6⟩ := execOps_eqv (ha.put o.dst v) h3
    exact ⟨f', h5, by rw [execOps_eq, h4]; exact h6⟩

theorem look_putD_ne {e : Env} {d : Option Nat} {v : PV} {t : Nat} (h : d ≠ some t) : look (putD e d v) t = look e t := by
  cases d with
  | none => rfl
  | some d => simp only [putD, look]; rw [if_neg (fun hq => h (by rw [hq]))]

theorem quiet_noTake_blind {d : Bool} {op : AOp} (h : looks op = false) : quiet d op = true := by cases op <;> simp_all [looks, quiet]

/-- A read of a box, and a write of another, in the same frame. -/
theorem parts_same {orc : Orc} {base : Nat} {draw : Bool} {t n m : Nat} {g : Bool} {a b u : Opnd} {e : Env} {h h2 : Hp} {v : PV} {e2 : Env} (hst : step orc base draw (.storeN t n a u) e h = some (v, e2, h2)) :
    step orc base draw (.loadN t m g b) e h2 = wh h2 (step orc base draw (.loadN t m g b) e h) := by
  simp only [step, Option.bnd_eq_some_iff] at hst
  obtain ⟨q, hq, p, hp, uu, hu, hst⟩ := hst
  split at hst
  · rename_i c oc pb po
    split at hst
    · rename_i hbc
      subst hbc
      simp only [Option.bnd_eq_some_iff] at hst
      obtain ⟨cs, hcs, hst⟩ := hst
      split at hst
      · simp only [Option.some.injEq, Prod.mk.injEq] at hst
        obtain ⟨_, _, rfl⟩ := hst
        simp only [step, hq, Option.bnd_some, wh_bnd]
        congr 1; funext x
        cases x <;> simp only [wh_none, wh_bnd, wh_some]
        rename_i b2 o2
        by_cases hb : b2 = pb
        · rw [if_pos hb, if_pos hb, wh_none]
        · rw [if_neg hb, if_neg hb, wh_bnd, show ∀ cs', getBox (setBox h pb cs') b2 = getBox h b2 from fun cs' => getBox_set_ne (fun hq => hb hq.symm)]
          congr 1; funext cs2
          rw [wh_bnd]
          rfl
      · cases hst
    · cases hst
  · cases hst

/-- The same of whole operations, asked for or not. -/
theorem parts_exec {orc : Orc} {base : Nat} {draw : Bool} {x y : AOper} {t n m : Nat} {g : Bool} {a b u : Opnd} (hx : x.op = .storeN t n a u) (hy : y.op = .loadN t m g b) {e : Env} {h h2 : Hp} {r : Env}
    (hst : exec1 orc base draw x e h = some (r, h2)) (q : Env) : exec1 orc base draw y e h = some (q, h) ↔ exec1 orc base draw y e h2 = some (q, h2) := by
  unfold exec1 at hst
  simp only [Option.bnd_eq_some_iff] at hst
  obtain ⟨w, hw, hst⟩ := hst
  cases w with
  | false =>
    simp only [Bool.false_eq_true, if_false, Option.some.injEq, Prod.mk.injEq] at hst
    rw [hst.2]
  | true =>
    simp only [if_true, Option.bnd_eq_some_iff, Option.some.injEq, Prod.mk.injEq] at hst
    obtain ⟨⟨v, e2, h2'⟩, hs, _, rfl⟩ := hst
    rw [hx] at hs
    have key := parts_same (m := m) (g := g) (b := b) hs
    unfold exec1
    rw [hy]
    cases wanted e y.guard with
    | none => exact ⟨fun k => (by cases k), fun k => (by cases k)⟩
    | some w =>
      simp only [Option.bnd_some]
      cases w with
      | false =>
        simp only [Bool.false_eq_true, if_false, Option.some.injEq, Prod.mk.injEq, and_true]
      | true =>
        simp only [if_true, key]
        have hq0 : AllR (fun x => x.2.2 = h) (step orc base draw (.loadN t m g b) e h) := step_quiet orc base (op := .loadN t m g b) rfl
        cases hl : step orc base draw (.loadN t m g b) e h with
        | none => simp [wh, Option.bnd]
        | some z =>
          obtain ⟨z1, z2, z3⟩ := z
          have : z3 = h := hq0 _ hl
          subst this
          simp [wh, Option.bnd]

/-- Two operations that name nothing of each other, and of which one is quiet where the other looks, change places. -/
theorem swap2 {orc : Orc} {base : Nat} {draw : Bool} {x y : AOper} (hap : apartB draw y x = true) {e : Env} {h : Hp} {e' : Env} {h' : Hp} {e1 : Env} {h1 : Hp}
    (h2 : exec1 orc base draw y e h = some (e1, h1)) (h3 : exec1 orc base draw x e1 h1 = some (e', h')) :
    ∃ e2 h2' e3, exec1 orc base draw x e h = some (e2, h2') ∧ exec1 orc base draw y e2 h2' = some (e3, h') ∧ Eqv e' e3 := by
  simp only [apartB, Bool.and_eq_true, Bool.or_eq_true, List.all_eq_true, Bool.not_eq_true'] at hap
  obtain ⟨⟨n1, n2⟩, n34⟩ := hap
  have ydx : ∀ t ∈ names x, y.dst ≠ some t := by
    intro t ht hq
    have := n1 t (by simp [hq])
    simp at this
    exact this ht
  have xdy : ∀ t ∈ names y, x.dst ≠ some t := by
    intro t ht hq
    have := n2 t (by simp [hq])
    simp at this
    exact this ht
  obtain ⟨vy, rfl, hy2⟩ := exec1_agree (f := e) (fun _ _ => rfl) h2
  -- x in the frame as it was before y
  have hagx : Agree (readsOf x.op ++ (x.guard.map fun g => [g.1]).getD []) (putD e y.dst vy) e := by
    intro t ht
    refine look_putD_ne (ydx t ?_)
    simp only [names, List.mem_append] at ht ⊢
    rcases ht with ht | ht
    · exact .inl (.inr ht)
    · exact .inr ht
  obtain ⟨vx, rfl, hx2⟩ := exec1_agree hagx h3
  have hagy : ∀ v, Agree (readsOf y.op ++ (y.guard.map fun g => [g.1]).getD []) e (putD e x.dst v) := by
    intro v t ht
    refine (look_putD_ne (xdy t ?_)).symm
    simp only [names, List.mem_append] at ht ⊢
    rcases ht with ht | ht
    · exact .inl (.inr ht)
    · exact .inr ht
  have heqv : Eqv (putD (putD e y.dst vy) x.dst vx) (putD (putD e x.dst vx) y.dst vy) := by
    intro t
    cases hxd : x.dst with
    | none => cases y.dst <;> rfl
    | some dx =>
      cases hyd : y.dst with
      | none => rfl
      | some dy =>
        have hne : dy ≠ dx := by
          intro hq
          have := ydx dx (by simp [names, hxd])
          rw [hyd, hq] at this
          exact this rfl
        simp only [putD, look]
        by_cases h1 : dx = t
        · rw [if_pos h1, if_neg (by omega), if_pos h1]
        · rw [if_neg h1]
          by_cases h2 : dy = t
          · rw [if_pos h2, if_pos h2]
          · rw [if_neg h2, if_neg h2, if_neg h1]
  -- the heaps
  have heap_quiet : ∀ (o : AOper) (e0 : Env) (h0 : Hp) (r : Env × Hp), quiet draw o.op = true → exec1 orc base draw o e0 h0 = some r → r.2 = h0 := by
    intro o e0 h0 r hq hr
    unfold exec1 at hr
    simp only [Option.bnd_eq_some_iff] at hr
    obtain ⟨w, _, hr⟩ := hr
    cases w with
    | false => simp only [Bool.false_eq_true, if_false, Option.some.injEq] at hr; rw [← hr]
    | true =>
      simp only [if_true, Option.bnd_eq_some_iff, Option.some.injEq] at hr
      obtain ⟨z, hz, rfl⟩ := hr
      exact step_quiet orc base hq z hz
  have heap_blind : ∀ (o : AOper) (e0 : Env) (h0 h9 : Hp) (r : Env × Hp), looks o.op = false → exec1 orc base draw o e0 h0 = some r → exec1 orc base draw o e0 h9 = some (r.1, h9) := by
    intro o e0 h0 h9 r hq hr
    unfold exec1 at hr ⊢
    simp only [Option.bnd_eq_some_iff] at hr ⊢
    obtain ⟨w, hw, hr⟩ := hr
    refine ⟨w, hw, ?_⟩
    cases w with
    | false => simp only [Bool.false_eq_true, if_false, Option.some.injEq] at hr ⊢; rw [← hr]
    | true =>
      simp only [if_true, Option.bnd_eq_some_iff, Option.some.injEq] at hr ⊢
      obtain ⟨z, hz, rfl⟩ := hr
      have := step_blind orc base draw hq (e := e0) (h := h0) (h2 := h9)
      rw [hz] at this
      exact ⟨_, this, rfl⟩
  have again : ∀ {h9 : Hp}, exec1 orc base draw x e h = some (putD e x.dst vx, h9) → exec1 orc base draw y e h9 = some (putD e y.dst vy, h') →
      ∃ e2 h2' e3, exec1 orc base draw x e h = some (e2, h2') ∧ exec1 orc base draw y e2 h2' = some (e3, h') ∧ Eqv (putD (putD e y.dst vy) x.dst vx) e3 := by
    intro h9 q1 q2
    obtain ⟨vy', hvy, hy3⟩ := exec1_agree (hagy vx) q2
    have : Eqv (putD (putD e x.dst vx) y.dst vy') (putD (putD e x.dst vx) y.dst vy) := by
      intro t
      cases hyd : y.dst with
      | none => rfl
      | some dy =>
        rw [hyd] at hvy
        simp only [putD, List.cons.injEq, Prod.mk.injEq, true_and, and_true] at hvy
        rw [hvy]
    exact ⟨_, _, _, q1, hy3, heqv.trans this.symm⟩
  rcases n34 with hpa | ⟨n3, n4⟩
  · cases hyo : y.op <;> cases hxo : x.op <;> rw [hyo, hxo] at hpa <;> simp only [partsB, Bool.false_eq_true] at hpa
    case loadN.storeN t m g b s n a u =>
      have hts : t = s := by simpa using hpa
      subst hts
      have e1 : h1 = h := heap_quiet y e h _ (by rw [hyo]; rfl) h2
      subst e1
      exact again hx2 ((parts_exec hxo hyo hx2 _).1 hy2)
    case storeN.loadN s n a u t m g b =>
      have hts : s = t := by simp at hpa; exact hpa.symm
      subst hts
      have e1 : h' = h1 := heap_quiet x _ _ _ (by rw [hxo]; rfl) h3
      subst e1
      exact again ((parts_exec hyo hxo hy2 _).2 hx2) hy2
  rcases n3 with hqy | hlx
  · -- y is quiet
    have e1 : h1 = h := heap_quiet y e h _ hqy h2
    subst e1
    rcases n4 with hqx | hly
    · have e2 : h' = h1 := heap_quiet x _ _ _ hqx h3
      subst e2
      obtain ⟨vy', hvy, hy3⟩ := exec1_agree (hagy vx) hy2
      have : Eqv (putD (putD e x.dst vx) y.dst vy') (putD (putD e x.dst vx) y.dst vy) := by
        intro t
        cases hyd : y.dst with
        | none => rfl
        | some dy =>
          rw [hyd] at hvy
          simp only [putD, List.cons.injEq, Prod.mk.injEq, true_and, and_true] at hvy
          rw [hvy]
      exact ⟨_, _, _, hx2, hy3, heqv.trans this.symm⟩
    · have hy4 := heap_blind y e h1 h' _ hly hy2
      obtain ⟨vy', hvy, hy3⟩ := exec1_agree (hagy vx) hy4
      have : Eqv (putD (putD e x.dst vx) y.dst vy') (putD (putD e x.dst vx) y.dst vy) := by
        intro t
        cases hyd : y.dst with
        | none => rfl
        | some dy =>
          rw [hyd] at hvy
          simp only [putD, List.cons.injEq, Prod.mk.injEq, true_and, and_true] at hvy
          rw [hvy]
      exact ⟨_, _, _, hx2, hy3, heqv.trans this.symm⟩
  · -- x doesn't look
    have e2 : h' = h1 := heap_quiet x _ _ _ (quiet_noTake_blind hlx) h3
    subst e2
    have hx4 := heap_blind x e h' h _ hlx hx2
    obtain ⟨vy', hvy, hy3⟩ := exec1_agree (hagy vx) hy2
    have : Eqv (putD (putD e x.dst vx) y.dst vy') (putD (putD e x.dst vx) y.dst vy) := by
      intro t
      cases hyd : y.dst with
      | none => rfl
      | some dy =>
        rw [hyd] at hvy
        simp only [putD, List.cons.injEq, Prod.mk.injEq, true_and, and_true] at hvy
        rw [hvy]
    exact ⟨_, _, _, hx4, hy3, heqv.trans this.symm⟩

/-- An operation that is apart from all ahead of it may come first. -/
theorem swap_front {orc : Orc} {base : Nat} {draw : Bool} {x : AOper} : ∀ (l1 : List AOper) {l2 : List AOper} (hap : ∀ y ∈ l1, apartB draw y x = true) {e : Env} {h : Hp} {e' : Env} {h' : Hp},
    execOps orc base draw (l1 ++ x :: l2) e h = some (e', h') → ∃ e2, Eqv e' e2 ∧ execOps orc base draw (x :: (l1 ++ l2)) e h = some (e2, h')
  | [], l2, hap, e, h, e', h', hs => ⟨e', Eqv.refl _, hs⟩
  | y :: l1, l2, hap, e, h, e', h', hs => by
    rw [List.cons_append, execOps_eq, Option.bnd_eq_some_iff] at hs
    obtain ⟨⟨e1, h1⟩, h2, h3⟩ := hs
    obtain ⟨e2, he2, h4⟩ := swap_front l1 (l2 := l2) (fun z hz => hap z (by simp [hz])) h3
    rw [execOps_eq, Option.bnd_eq_some_iff] at h4
    obtain ⟨⟨e3, h5⟩, h6, h7⟩ := h4
    obtain ⟨e4, h8, e5, h9, h10, h11⟩ := swap2 (hap y (by simp)) h2 h6
    obtain ⟨e6, h12, h13⟩ := execOps_eqv h11 h7
    refine ⟨e6, he2.trans h12, ?_⟩
    rw [execOps_eq, h9]
    simp only [Option.bnd]
    rw [List.cons_append, execOps_eq, h10]
    exact h13
end Go.Am
