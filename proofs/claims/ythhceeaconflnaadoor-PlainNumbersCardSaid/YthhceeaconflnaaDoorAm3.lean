/- 'Am': more fuel answers the same; the machine without fuel, and its equations.
   By the session's AI agent. -/
import Derived.Test.YthhceeaconflnaaDoorAm1
namespace Go.Am
set_option linter.unusedVariables false
set_option linter.unusedSimpArgs false

abbrev Orc := Nat → List PV → Hp → Option (PV × Hp)
def Orc.le (o p : Orc) : Prop := ∀ f a h r, o f a h = some r → p f a h = some r

theorem step_mono {o p : Orc} (hle : o.le p) {base : Nat} {draw : Bool} {op : AOp} {e : Env} {h : Hp} {r : PV × Env × Hp}
    (hs : step o base draw op e h = some r) : step p base draw op e h = some r := by
  cases op with
  | call f args =>
    simp only [step, Option.bnd_eq_some_iff] at hs ⊢
    obtain ⟨vs, h1, x, h2, h3⟩ := hs
    exact ⟨vs, h1, x, hle _ _ _ _ h2, h3⟩
  | callQ f args =>
    simp only [step, Option.bnd_eq_some_iff] at hs ⊢
    obtain ⟨vs, h1, x, h2, h3⟩ := hs
    exact ⟨vs, h1, x, hle _ _ _ _ h2, h3⟩
  | callv x args =>
    simp only [step, Option.bnd_eq_some_iff] at hs ⊢
    obtain ⟨v, h0, hs⟩ := hs
    refine ⟨v, h0, ?_⟩
    split at hs
    · simp only [Option.bnd_eq_some_iff] at hs ⊢
      obtain ⟨vs, h1, x, h2, h3⟩ := hs
      exact ⟨vs, h1, x, hle _ _ _ _ h2, h3⟩
    · exact hs
  | _ => exact hs

theorem execOps_mono {o p : Orc} (hle : o.le p) {base : Nat} {draw : Bool} : ∀ {l : List AOper} {e : Env} {h : Hp} {r : Env × Hp},
    execOps o base draw l e h = some r → execOps p base draw l e h = some r
  | [], _, _, _, hs => hs
  | x :: l, e, h, r, hs => by
    simp only [execOps, Option.bnd_eq_some_iff] at hs ⊢
    obtain ⟨w, hw, hs⟩ := hs
    refine ⟨w, hw, ?_⟩
    cases w with
    | true =>
      simp only [if_true, Option.bnd_eq_some_iff] at hs ⊢
      obtain ⟨y, h1, h2⟩ := hs
      exact ⟨y, step_mono hle h1, execOps_mono hle h2⟩
    | false =>
      simp only [Bool.false_eq_true, if_false] at hs ⊢
      exact execOps_mono hle hs

theorem mono1 (T : Table) : ∀ n, (∀ c base e h r, exec T n c base e h = some r → exec T (n + 1) c base e h = some r) ∧
    (∀ base f a h r, call T n base f a h = some r → call T (n + 1) base f a h = some r)
  | 0 => ⟨fun _ _ _ _ _ h => by simp [exec] at h, fun _ _ _ _ _ h => by simp [call] at h⟩
  | n + 1 => by
    obtain ⟨ih, ihc⟩ := mono1 T n
    refine ⟨fun c base e h r hs => ?_, fun base f a h r hs => ?_⟩
    · cases c with
      | skip => simpa [exec] using hs
      | exit id => simpa [exec] using hs
      | ret => simpa [exec] using hs
      | ops l draw keep =>
        rw [exec] at hs ⊢
        simp only [Option.bnd_eq_some_iff] at hs ⊢
        obtain ⟨x, h1, h2⟩ := hs
        exact ⟨x, execOps_mono (fun f a h r => ihc base f a h r) h1, h2⟩
      | seq a b =>
        rw [exec] at hs ⊢
        simp only [Option.bnd_eq_some_iff] at hs ⊢
        obtain ⟨x, h1, h2⟩ := hs
        refine ⟨x, ih _ _ _ _ _ h1, ?_⟩
        split at h2
        · exact ih _ _ _ _ _ h2
        · exact h2
      | cond c a b =>
        rw [exec] at hs ⊢
        simp only [Option.bnd_eq_some_iff] at hs ⊢
        obtain ⟨x, h1, h2⟩ := hs
        refine ⟨x, h1, ?_⟩
        rw [condB_some] at h2 ⊢
        exact h2.imp (fun z => ⟨z.1, ih _ _ _ _ _ z.2⟩) (fun z => ⟨z.1, ih _ _ _ _ _ z.2⟩)
      | block id a =>
        rw [exec] at hs ⊢
        simp only [Option.bnd_eq_some_iff] at hs ⊢
        obtain ⟨x, h1, h2⟩ := hs
        exact ⟨x, ih _ _ _ _ _ h1, h2⟩
      | loop a =>
        rw [exec] at hs ⊢
        simp only [Option.bnd_eq_some_iff] at hs ⊢
        obtain ⟨x, h1, h2⟩ := hs
        refine ⟨x, ih _ _ _ _ _ h1, ?_⟩
        split at h2
        · exact ih _ _ _ _ _ h2
        · exact h2
      | scope a => rw [exec] at hs ⊢; exact ih _ _ _ _ _ hs
    · rw [call] at hs ⊢
      split at hs
      · exact hs
      · exact hs
      · simp only [Option.bnd_eq_some_iff] at hs ⊢
        obtain ⟨x, h1, h2⟩ := hs
        exact ⟨x, ih _ _ _ _ _ h1, h2⟩

theorem exec_le {T : Table} {n m : Nat} (hnm : n ≤ m) {c base e h r} (hs : exec T n c base e h = some r) : exec T m c base e h = some r := by
  induction hnm with
  | refl => exact hs
  | step _ ih => exact (mono1 T _).1 _ _ _ _ _ ih
theorem call_le {T : Table} {n m : Nat} (hnm : n ≤ m) {base f a h r} (hs : call T n base f a h = some r) : call T m base f a h = some r := by
  induction hnm with
  | refl => exact hs
  | step _ ih => exact (mono1 T _).2 _ _ _ _ _ ih

/-! ### Without fuel -/

noncomputable def lim {α : Type} (F : Nat → Option α) : Option α :=
  open Classical in if h : ∃ r, ∃ n, F n = some r then some (Classical.choose h) else none

theorem lim_iff {α : Type} {F : Nat → Option α} (hm : ∀ n m r, n ≤ m → F n = some r → F m = some r) {r : α} : lim F = some r ↔ ∃ n, F n = some r := by
  unfold lim
  constructor
  · intro h
    split at h
    · rename_i hx
      simp only [Option.some.injEq] at h
      exact h ▸ Classical.choose_spec hx
    · cases h
  · intro ⟨n, hn⟩
    have hx : ∃ r, ∃ n, F n = some r := ⟨r, n, hn⟩
    rw [dif_pos hx]
    obtain ⟨m, hm'⟩ := Classical.choose_spec hx
    have a := hm n (max n m) _ (Nat.le_max_left _ _) hn
    have b := hm m (max n m) _ (Nat.le_max_right _ _) hm'
    rw [a] at b
    simp only [Option.some.injEq] at b
    rw [b]

noncomputable def ExecA (T : Table) (c : ACode) (base : Nat) (e : Env) (h : Hp) : Option (AEx × Env × Hp) := lim fun n => exec T n c base e h
noncomputable def CallA (T : Table) (base f : Nat) (a : List PV) (h : Hp) : Option (PV × Hp) := lim fun n => call T n base f a h

theorem ExecA_iff {T c base e h r} : ExecA T c base e h = some r ↔ ∃ n, exec T n c base e h = some r := lim_iff fun _ _ _ hn hs => exec_le hn hs
theorem CallA_iff {T base f a h r} : CallA T base f a h = some r ↔ ∃ n, call T n base f a h = some r := lim_iff fun _ _ _ hn hs => call_le hn hs
theorem CallA_of {T base f a h r} (n : Nat) (hs : call T n base f a h = some r) : CallA T base f a h = some r := CallA_iff.2 ⟨n, hs⟩
theorem ExecA_of {T c base e h r} (n : Nat) (hs : exec T n c base e h = some r) : ExecA T c base e h = some r := ExecA_iff.2 ⟨n, hs⟩

theorem call_le_CallA (T : Table) (n base : Nat) : Orc.le (call T n base) (CallA T base) := fun _ _ _ _ h => CallA_of n h

theorem step_Call {T : Table} {base : Nat} {draw : Bool} {op : AOp} {e : Env} {h : Hp} {r : PV × Env × Hp}
    (hs : step (CallA T base) base draw op e h = some r) : ∃ n, step (call T n base) base draw op e h = some r := by
  cases op with
  | call f args =>
    simp only [step, Option.bnd_eq_some_iff] at hs ⊢
    obtain ⟨vs, h1, x, h2, h3⟩ := hs
    obtain ⟨n, hn⟩ := CallA_iff.1 h2
    exact ⟨n, vs, h1, x, hn, h3⟩
  | callQ f args =>
    simp only [step, Option.bnd_eq_some_iff] at hs ⊢
    obtain ⟨vs, h1, x, h2, h3⟩ := hs
    obtain ⟨n, hn⟩ := CallA_iff.1 h2
    exact ⟨n, vs, h1, x, hn, h3⟩
  | callv x args =>
    simp only [step, Option.bnd_eq_some_iff] at hs ⊢
    obtain ⟨v, h0, hs⟩ := hs
    split at hs
    · simp only [Option.bnd_eq_some_iff] at hs
      obtain ⟨vs, h1, x, h2, h3⟩ := hs
      obtain ⟨n, hn⟩ := CallA_iff.1 h2
      exact ⟨n, _, h0, by simp only [Option.bnd_eq_some_iff]; exact ⟨vs, h1, x, hn, h3⟩⟩
    · cases hs
  | _ => exact ⟨0, hs⟩

theorem execOps_Call {T : Table} {base : Nat} {draw : Bool} : ∀ {l : List AOper} {e : Env} {h : Hp} {r : Env × Hp},
    execOps (CallA T base) base draw l e h = some r → ∃ n, execOps (call T n base) base draw l e h = some r
  | [], _, _, _, hs => ⟨0, hs⟩
  | x :: l, e, h, r, hs => by
    simp only [execOps, Option.bnd_eq_some_iff] at hs ⊢
    obtain ⟨w, hw, hs⟩ := hs
    cases w with
    | true =>
      simp only [if_true, Option.bnd_eq_some_iff] at hs
      obtain ⟨y, h1, h2⟩ := hs
      obtain ⟨n, hn⟩ := step_Call h1
      obtain ⟨m, hm⟩ := execOps_Call h2
      have hn' := step_mono (p := call T (max n m) base) (fun _ _ _ _ h => call_le (Nat.le_max_left n m) h) hn
      have hm' := execOps_mono (p := call T (max n m) base) (fun _ _ _ _ h => call_le (Nat.le_max_right n m) h) hm
      exact ⟨max n m, true, hw, by simp only [if_true, Option.bnd_eq_some_iff]; exact ⟨y, hn', hm'⟩⟩
    | false =>
      simp only [Bool.false_eq_true, if_false] at hs
      obtain ⟨m, hm⟩ := execOps_Call hs
      exact ⟨m, false, hw, by simpa using hm⟩

section
variable {T : Table} {base : Nat} {e : Env} {h : Hp}

theorem ExecA_skip : ExecA T .skip base e h = some (.norm, e, h) := ExecA_of 1 rfl
theorem ExecA_exit {id : Nat} : ExecA T (.exit id) base e h = some (.exit id, e, h) := ExecA_of 1 rfl
theorem ExecA_ret : ExecA T .ret base e h = some (.ret, e, h) := ExecA_of 1 rfl

theorem ExecA_ops {l : List AOper} {draw : Bool} {keep : List Nat} :
    ExecA T (.ops l draw keep) base e h = (execOps (CallA T base) base draw l e h).bnd fun x => some (.norm, prune keep x.1, x.2) := by
  apply Option.ext
  intro r
  show ExecA T _ base e h = some r ↔ _ = some r
  rw [ExecA_iff]
  constructor
  · rintro ⟨n, hn⟩
    cases n with
    | zero => simp [exec] at hn
    | succ n =>
      rw [exec] at hn
      simp only [Option.bnd_eq_some_iff] at hn ⊢
      obtain ⟨x, h1, h2⟩ := hn
      exact ⟨x, execOps_mono (call_le_CallA T n base) h1, h2⟩
  · intro hs
    simp only [Option.bnd_eq_some_iff] at hs
    obtain ⟨x, h1, h2⟩ := hs
    obtain ⟨n, hn⟩ := execOps_Call h1
    exact ⟨n + 1, by rw [exec]; simp only [Option.bnd_eq_some_iff]; exact ⟨x, hn, h2⟩⟩

theorem ExecA_seq {a b : ACode} : ExecA T (.seq a b) base e h = (ExecA T a base e h).bnd fun x => match x with
    | (.norm, e', h') => ExecA T b base e' h'
    | r => some r := by
  apply Option.ext
  intro r
  show ExecA T _ base e h = some r ↔ _ = some r
  rw [ExecA_iff]
  constructor
  · rintro ⟨n, hn⟩
    cases n with
    | zero => simp [exec] at hn
    | succ n =>
      rw [exec] at hn
      simp only [Option.bnd_eq_some_iff] at hn ⊢
      obtain ⟨x, h1, h2⟩ := hn
      refine ⟨x, ExecA_of n h1, ?_⟩
      obtain ⟨x, e', h'⟩ := x
      cases x with
      | norm => exact ExecA_of n h2
      | _ => exact h2
  · intro hs
    simp only [Option.bnd_eq_some_iff] at hs
    obtain ⟨x, h1, h2⟩ := hs
    obtain ⟨n, hn⟩ := ExecA_iff.1 h1
    split at h2
    · obtain ⟨m, hm⟩ := ExecA_iff.1 h2
      refine ⟨max n m + 1, ?_⟩
      rw [exec]
      simp only [Option.bnd_eq_some_iff]
      exact ⟨_, exec_le (Nat.le_max_left n m) hn, exec_le (Nat.le_max_right n m) hm⟩
    · rename_i hx
      refine ⟨n + 1, ?_⟩
      rw [exec]
      simp only [Option.bnd_eq_some_iff]
      refine ⟨_, hn, ?_⟩
      split
      · exact (hx _ _ rfl).elim
      · exact h2

theorem ExecA_cond {c : Opnd} {a b : ACode} : ExecA T (.cond c a b) base e h = (ev e c).bnd fun v => condB v (ExecA T a base e h) (ExecA T b base e h) := by
  apply Option.ext
  intro r
  show ExecA T _ base e h = some r ↔ _ = some r
  rw [ExecA_iff]
  constructor
  · rintro ⟨n, hn⟩
    cases n with
    | zero => simp [exec] at hn
    | succ n =>
      rw [exec] at hn
      simp only [Option.bnd_eq_some_iff] at hn ⊢
      obtain ⟨x, h1, h2⟩ := hn
      refine ⟨x, h1, ?_⟩
      rw [condB_some] at h2 ⊢
      exact h2.imp (fun z => ⟨z.1, ExecA_of n z.2⟩) (fun z => ⟨z.1, ExecA_of n z.2⟩)
  · intro hs
    simp only [Option.bnd_eq_some_iff] at hs
    obtain ⟨x, h1, h2⟩ := hs
    rw [condB_some] at h2
    rcases h2 with ⟨rfl, h2⟩ | ⟨rfl, h2⟩
    · obtain ⟨m, hm⟩ := ExecA_iff.1 h2
      exact ⟨m + 1, by rw [exec]; simp only [h1, Option.bnd_some]; exact hm⟩
    · obtain ⟨m, hm⟩ := ExecA_iff.1 h2
      exact ⟨m + 1, by rw [exec]; simp only [h1, Option.bnd_some]; exact hm⟩

theorem ExecA_block {id : Nat} {a : ACode} : ExecA T (.block id a) base e h = (ExecA T a base e h).bnd fun x => match x with
    | (.exit i, e', h') => if i = id then some (.norm, e', h') else some (.exit i, e', h')
    | r => some r := by
  apply Option.ext
  intro r
  show ExecA T _ base e h = some r ↔ _ = some r
  rw [ExecA_iff]
  constructor
  · rintro ⟨n, hn⟩
    cases n with
    | zero => simp [exec] at hn
    | succ n =>
      rw [exec] at hn
      simp only [Option.bnd_eq_some_iff] at hn ⊢
      obtain ⟨x, h1, h2⟩ := hn
      exact ⟨x, ExecA_of n h1, h2⟩
  · intro hs
    simp only [Option.bnd_eq_some_iff] at hs
    obtain ⟨x, h1, h2⟩ := hs
    obtain ⟨n, hn⟩ := ExecA_iff.1 h1
    exact ⟨n + 1, by rw [exec]; simp only [Option.bnd_eq_some_iff]; exact ⟨x, hn, h2⟩⟩

theorem ExecA_loop {a : ACode} : ExecA T (.loop a) base e h = (ExecA T a base e h).bnd fun x => match x with
    | (.norm, e', h') => ExecA T (.loop a) base e' h'
    | r => some r := by
  apply Option.ext
  intro r
  show ExecA T _ base e h = some r ↔ _ = some r
  rw [ExecA_iff]
  constructor
  · rintro ⟨n, hn⟩
    cases n with
    | zero => simp [exec] at hn
    | succ n =>
      rw [exec] at hn
      simp only [Option.bnd_eq_some_iff] at hn ⊢
      obtain ⟨x, h1, h2⟩ := hn
      refine ⟨x, ExecA_of n h1, ?_⟩
      obtain ⟨x, e', h'⟩ := x
      cases x with
      | norm => exact ExecA_of n h2
      | _ => exact h2
  · intro hs
    simp only [Option.bnd_eq_some_iff] at hs
    obtain ⟨x, h1, h2⟩ := hs
    obtain ⟨n, hn⟩ := ExecA_iff.1 h1
    split at h2
    · obtain ⟨m, hm⟩ := ExecA_iff.1 h2
      refine ⟨max n m + 1, ?_⟩
      rw [exec]
      simp only [Option.bnd_eq_some_iff]
      exact ⟨_, exec_le (Nat.le_max_left n m) hn, exec_le (Nat.le_max_right n m) hm⟩
    · rename_i hx
      refine ⟨n + 1, ?_⟩
      rw [exec]
      simp only [Option.bnd_eq_some_iff]
      refine ⟨_, hn, ?_⟩
      split
      · exact (hx _ _ rfl).elim
      · exact h2

theorem ExecA_scope {a : ACode} : ExecA T (.scope a) base e h = ExecA T a base e h := by
  apply Option.ext
  intro r
  show ExecA T _ base e h = some r ↔ ExecA T a base e h = some r
  rw [ExecA_iff, ExecA_iff]
  constructor
  · rintro ⟨n, hn⟩
    cases n with
    | zero => simp [exec] at hn
    | succ n => exact ⟨n, by rwa [exec] at hn⟩
  · rintro ⟨n, hn⟩
    exact ⟨n + 1, by rwa [exec]⟩

theorem CallA_code {f : Nat} {fn : AFn} {a : List PV} (hT : T f = some (.code fn)) :
    CallA T base f a h = (ExecA T fn.body (if fn.keep then base else size h) (params 0 a) h).bnd fun x => match x with
      | (.exit _, _, _) => none
      | (_, e, h') => finish fn (size h) e h' := by
  apply Option.ext
  intro r
  show CallA T base f a h = some r ↔ _ = some r
  rw [CallA_iff]
  constructor
  · rintro ⟨n, hn⟩
    cases n with
    | zero => simp [call] at hn
    | succ n =>
      rw [call, hT] at hn
      simp only [Option.bnd_eq_some_iff] at hn ⊢
      obtain ⟨x, h1, h2⟩ := hn
      exact ⟨x, ExecA_of n h1, h2⟩
  · intro hs
    simp only [Option.bnd_eq_some_iff] at hs
    obtain ⟨x, h1, h2⟩ := hs
    obtain ⟨n, hn⟩ := ExecA_iff.1 h1
    exact ⟨n + 1, by rw [call, hT]; simp only [Option.bnd_eq_some_iff]; exact ⟨x, hn, h2⟩⟩

theorem CallA_prim {f : Nat} {g : List PV → Hp → Option (PV × Option (Nat × List PV))} {a : List PV} (hT : T f = some (.prim g)) :
    CallA T base f a h = (g a h).bnd fun r => primEnd base h r := by
  apply Option.ext
  intro r
  show CallA T base f a h = some r ↔ _ = some r
  rw [CallA_iff]
  constructor
  · rintro ⟨n, hn⟩
    cases n with
    | zero => simp [call] at hn
    | succ n => rwa [call, hT] at hn
  · intro hs
    exact ⟨1, by rw [call, hT]; exact hs⟩
end
end Go.Am
