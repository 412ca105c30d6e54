/- 'Am': old boxes never point at younger ones.
   By the session's AI agent. -/
import Derived.Test.YthhceeaconflnaaDoorAm13
namespace Go.Am
set_option linter.unusedVariables false
set_option linter.unusedSimpArgs false

/-- The first m boxes point at none behind them. -/
def Clo (m : Nat) (h : Hp) : Prop := ∀ b cs, b < m → getBox h b = some cs → ∀ (j : Nat) (x : PV), cs[j]? = some x → below m x = true

def Grows (base : Nat) (h h' : Hp) : Prop := size h ≤ size h' ∧ ∀ m, m ≤ base → Clo m h → Clo m h'
theorem Grows.refl (base : Nat) (h : Hp) : Grows base h h := ⟨Nat.le_refl _, fun _ _ c => c⟩
theorem Grows.trans {base : Nat} {a b c : Hp} (x : Grows base a b) (y : Grows base b c) : Grows base a c := ⟨Nat.le_trans x.1 y.1, fun m hm k => y.2 m hm (x.2 m hm k)⟩
theorem Grows.mono {base base' : Nat} {a b : Hp} (x : Grows base a b) (hb : base' ≤ base) : Grows base' a b := ⟨x.1, fun m hm k => x.2 m (Nat.le_trans hm hb) k⟩

theorem Grows.ext {base : Nat} {h : Hp} (hb : base ≤ size h) (l : List Box) : Grows base h (ext h l) :=
  ⟨by rw [size_ext]; omega, fun m hm k b cs hlt hcs => by rw [getBox_ext_lt (by omega)] at hcs; exact k b cs hlt hcs⟩

theorem belows_of {n : Nat} : ∀ {cs : List PV}, (∀ (j : Nat) (x : PV), cs[j]? = some x → below n x = true) → belows n cs = true
  | [], _ => rfl
  | c :: cs, h => by
    simp only [belows, Bool.and_eq_true]
    exact ⟨h 0 c rfl, belows_of fun j x hx => h (j + 1) x (by simpa using hx)⟩

theorem belows_mem' {n : Nat} : ∀ {cs : List PV}, belows n cs = true → ∀ (j : Nat) (x : PV), cs[j]? = some x → below n x = true
  | [], _, j, x, h => by simp at h
  | c :: cs, hb, 0, x, h => by simp [belows] at hb h; exact h ▸ hb.1
  | c :: cs, hb, j + 1, x, h => by
    simp only [belows, Bool.and_eq_true] at hb
    exact belows_mem' hb.2 j x (by simpa using h)

mutual
theorem below_le' {n m : Nat} (hnm : n ≤ m) : ∀ (v : PV), below n v = true → below m v = true
  | .ptr b _, h => by simp [below] at *; omega
  | .bsl _ b _ _ _, h => by simp [below] at *; omega
  | .it b, h => by simp [below] at *; omega
  | .ep e _, h => by simp only [below] at *; exact belows_le' hnm e h
  | .sl o _ es, h => by
    simp only [below, Bool.and_eq_true] at *
    refine ⟨?_, belows_le' hnm es h.2⟩
    have h1 := h.1
    cases o with
    | tok t => simp [Own.below] at *; omega
    | _ => rfl
  | .iface _ v, h => by simp only [below] at *; exact below_le' hnm v h
  | .fn _ c, h => by simp only [below] at *; exact belows_le' hnm c h
  | .agg c, h => by simp only [below] at *; exact belows_le' hnm c h
  | .tup c, h => by simp only [below] at *; exact belows_le' hnm c h
  | .undef, _ => rfl
  | .bool _, _ => rfl
  | .int _ _, _ => rfl
  | .str _, _ => rfl
  | .nilp, _ => rfl
  | .bnil _, _ => rfl
  | .nils, _ => rfl
  | .nilif, _ => rfl
  | .nilf, _ => rfl
theorem belows_le' {n m : Nat} (hnm : n ≤ m) : ∀ (vs : List PV), belows n vs = true → belows m vs = true
  | [], _ => rfl
  | v :: vs, h => by
    simp only [belows, Bool.and_eq_true] at *
    exact ⟨below_le' hnm v h.1, belows_le' hnm vs h.2⟩
end

mutual
theorem below_strip {n : Nat} : ∀ {v : PV}, below n v = true → below n (strip v) = true
  | .sl o z e, h => by
    simp only [strip, below, Bool.and_eq_true] at *
    exact ⟨obelow_strip n o, h.2⟩
  | .agg cs, h => by simp only [strip, below] at *; exact belows_strips h
  | .tup cs, h => by simp only [strip, below] at *; exact belows_strips h
  | .fn f cs, h => by simp only [strip, below] at *; exact belows_strips h
  | .iface t v, h => by simp only [strip, below] at *; exact below_strip h
  | .undef, _ | .bool _, _ | .int _ _, _ | .str _, _ | .nilp, _ | .bnil _, _ | .nils, _ | .nilif, _ | .nilf, _ => rfl
  | .ptr _ _, h | .ep _ _, h | .bsl _ _ _ _ _, h | .it _, h => h
theorem belows_strips {n : Nat} : ∀ {vs : List PV}, belows n vs = true → belows n (strips vs) = true
  | [], _ => rfl
  | v :: vs, h => by
    simp only [strips, belows, Bool.and_eq_true] at *
    exact ⟨below_strip h.1, belows_strips h.2⟩
end

theorem setRange_mem : ∀ (vs : List PV) (cs : List PV) (off : Nat) (j : Nat) (x : PV), (setRange cs off vs)[j]? = some x → (∃ i : Nat, vs[i]? = some x) ∨ cs[j]? = some x
  | [], cs, off, j, x, h => .inr h
  | v :: vs, cs, off, j, x, h => by
    simp only [setRange] at h
    rcases setRange_mem vs _ _ j x h with ⟨i, hi⟩ | hc
    · exact .inl ⟨i + 1, by simpa using hi⟩
    · by_cases hj : off = j
      · subst hj
        by_cases hlt : off < cs.length
        · rw [List.getElem?_set_self hlt] at hc
          exact .inl ⟨0, by simpa using hc⟩
        · rw [List.getElem?_eq_none (by simp; omega)] at hc; cases hc
      · rw [List.getElem?_set_ne hj] at hc; exact .inr hc

theorem Grows.set {base : Nat} {h : Hp} {b : Nat} {cs : List PV} (hb : getBox h b = some cs) {cs' : List PV} (hx : ∀ (j : Nat) (x : PV), cs'[j]? = some x → cs[j]? = some x ∨ (b < base → below 0 x = true)) : Grows base h (setBox h b cs') := by
  refine ⟨by rw [size_setBox]; exact Nat.le_refl _, fun m hm k c ds hlt hds j x hj => ?_⟩
  by_cases hbc : b = c
  · subst hbc
    rw [getBox_set_eq hb] at hds
    simp only [Option.some.injEq] at hds
    subst hds
    rcases hx j x hj with h1 | h1
    · exact k b cs hlt hb j x h1
    · exact below_le' (Nat.zero_le _) x (h1 (by omega))
  · rw [setBox, getBox_set_ne hbc] at hds
    exact k c ds hlt hds j x hj

theorem Grows.other {base : Nat} {h : Hp} {b : Nat} {y : Box} (hb : b < size h) (hy : cellsOf y = none) : Grows base h (setBx h b y) := by
  refine ⟨by rw [size_setBx]; exact Nat.le_refl _, fun m hm k c ds hlt hds j x hj => ?_⟩
  by_cases hbc : b = c
  · subst hbc
    rw [getBox, box_set_eq hb] at hds
    simp only [Option.bnd_some, hy] at hds
    cases hds
  · rw [getBox_set_ne hbc] at hds
    exact k c ds hlt hds j x hj

theorem Grows.growT {base : Nat} {h : Hp} (hb : base ≤ size h) {T sz : Nat} {v : PV} {xs : List PV} : AllR (fun r => Grows base h r.2) (Go.Am.growT h T sz v xs) := by
  unfold Go.Am.growT
  refine AllR.ite ?_ AllR.none
  split
  · refine AllR.ite (AllR.some ?_) AllR.none
    split
    · exact Grows.refl _ _
    · exact Grows.ext hb _
  · refine AllR.ite (AllR.some ?_) AllR.none
    split
    · exact Grows.refl _ _
    · exact Grows.ext hb _
  · intro r hr
    simp only [Option.bnd_eq_some_iff] at hr
    obtain ⟨n, hn, hr⟩ := hr
    split at hr
    · simp only [Option.some.injEq] at hr
      subst hr
      exact Grows.other (lt_of_getTok hn) rfl
    · cases hr
  · exact AllR.none

theorem step_grows {orc : Orc} {base : Nat} {draw : Bool} {op : AOp} {e : Env} {h : Hp} (hb : base ≤ size h) (horc : ∀ f vs r, orc f vs h = some r → Grows base h r.2) :
    AllR (fun x => Grows base h x.2.2) (step orc base draw op e h) := by
  cases op <;> simp only [step]
  case call f args =>
    refine AllR.bnd fun vs => ?_
    intro x hx
    simp only [Option.bnd_eq_some_iff] at hx
    obtain ⟨r, hr, hx⟩ := hx
    have := horc _ _ _ hr
    split at hx
    · split at hx
      · simp only [Option.some.injEq] at hx; subst hx; exact Grows.refl _ _
      · cases hx
    · simp only [Option.some.injEq] at hx; subst hx; exact this
  case callQ f args =>
    refine AllR.bnd fun vs => ?_
    refine AllR.bnd fun r => ?_
    exact AllR.ite (AllR.some (Grows.refl _ _)) AllR.none
  case callv x args =>
    refine AllR.bnd fun v => ?_
    cases v <;> try exact AllR.none
    refine AllR.bnd fun vs => ?_
    intro x hx
    simp only [Option.bnd_eq_some_iff] at hx
    obtain ⟨r, hr, hx⟩ := hx
    have := horc _ _ _ hr
    split at hx
    · split at hx
      · simp only [Option.some.injEq] at hx; subst hx; exact Grows.refl _ _
      · cases hx
    · simp only [Option.some.injEq] at hx; subst hx; exact this
  case loadN t n g x =>
    refine AllR.bnd fun q => AllR.bnd fun v => ?_
    split
    · exact AllR.ite AllR.none (AllR.bnd fun cs => AllR.bnd fun r => AllR.some (Grows.refl _ _))
    · exact AllR.bnd fun r => AllR.some (Grows.refl _ _)
    · exact AllR.none
  case storeN t n x y =>
    refine AllR.bnd fun q => AllR.bnd fun v => AllR.bnd fun u => ?_
    split
    · rename_i c oc b off
      refine AllR.ite ?_ AllR.none
      intro z hz
      simp only [Option.bnd_eq_some_iff] at hz
      obtain ⟨cs, hcs, hz⟩ := hz
      split at hz
      · rename_i hc
        simp only [Option.some.injEq] at hz
        subst hz
        refine Grows.set hcs fun j q hq => ?_
        rcases setRange_mem _ _ _ _ _ hq with ⟨i, hi⟩ | hq
        · right
          intro hlt
          rw [if_pos hlt] at hi
          exact belows_mem' (hc.2.2.2 hlt) i q hi
        · exact .inl hq
      · cases hz
    · exact AllR.none
  case store n x y =>
    refine AllR.bnd fun v => AllR.bnd fun u => ?_
    cases v <;> try exact AllR.none
    rename_i b off
    intro z hz
    simp only [Option.bnd_eq_some_iff] at hz
    obtain ⟨cs, hcs, hz⟩ := hz
    split at hz
    · rename_i hc
      simp only [Option.some.injEq] at hz
      subst hz
      refine Grows.set hcs fun j q hq => ?_
      rcases setRange_mem _ _ _ _ _ hq with ⟨i, hi⟩ | hq
      · right
        intro hlt
        rw [if_pos hlt] at hi
        exact belows_mem' (hc.2.2.2 hlt) i q hi
      · exact .inl hq
    · cases hz
  case copyB x y =>
    refine AllR.bnd fun v => AllR.bnd fun u => AllR.bnd fun xs => ?_
    cases v <;> try exact AllR.none
    · exact AllR.some (Grows.refl _ _)
    rename_i f b off len sz
    intro z hz
    simp only [Option.bnd_eq_some_iff] at hz
    obtain ⟨cs, hcs, hz⟩ := hz
    split at hz
    · rename_i hc
      simp only [Option.some.injEq] at hz
      subst hz
      refine Grows.set hcs fun j q hq => ?_
      rcases setRange_mem _ _ _ _ _ hq with ⟨i, hi⟩ | hq
      · exact .inr fun hlt => belows_mem' (hc.2.2.2 hlt) i q hi
      · exact .inl hq
    · cases hz
  case next x =>
    refine AllR.bnd fun v => ?_
    cases v <;> try exact AllR.none
    intro z hz
    simp only [Option.bnd_eq_some_iff] at hz
    obtain ⟨⟨s, p⟩, hp, hz⟩ := hz
    split at hz
    · simp only [Option.some.injEq] at hz
      subst hz
      exact Grows.other (lt_of_box (box_of_iter hp)) rfl
    · simp only [Option.some.injEq] at hz
      subst hz
      exact Grows.refl _ _
  case appendT T z x y =>
    refine AllR.bnd fun v => AllR.bnd fun u => AllR.bnd fun xs => ?_
    intro r hr
    simp only [Option.bnd_eq_some_iff, Option.some.injEq] at hr
    obtain ⟨r', hr', rfl⟩ := hr
    exact Grows.growT hb r' hr'
  all_goals
    repeat' (first
      | exact AllR.some (Grows.refl _ _)
      | exact AllR.some (Grows.ext hb _)
      | exact AllR.none
      | (refine AllR.bnd fun _ => ?_)
      | (refine AllR.ite ?_ ?_)
      | (refine AllR.cond ?_ ?_)
      | split)

theorem execOps_grows {orc : Orc} {base : Nat} {draw : Bool} (horc : ∀ h f vs r, base ≤ size h → orc f vs h = some r → Grows base h r.2) : ∀ (l : List AOper) (e : Env) (h : Hp), base ≤ size h →
    AllR (fun x => Grows base h x.2) (execOps orc base draw l e h)
  | [], e, h, hb => AllR.some (Grows.refl _ _)
  | o :: l, e, h, hb => by
    rw [execOps_eq]
    intro x hx
    simp only [Option.bnd_eq_some_iff] at hx
    obtain ⟨⟨e1, h1⟩, h2, h3⟩ := hx
    have hg : Grows base h h1 := by
      unfold exec1 at h2
      simp only [Option.bnd_eq_some_iff] at h2
      obtain ⟨w, _, h2⟩ := h2
      cases w with
      | false => simp only [Bool.false_eq_true, if_false, Option.some.injEq, Prod.mk.injEq] at h2; rw [← h2.2]; exact Grows.refl _ _
      | true =>
        simp only [if_true, Option.bnd_eq_some_iff, Option.some.injEq, Prod.mk.injEq] at h2
        obtain ⟨z, hz, _, rfl⟩ := h2
        exact step_grows hb (fun f vs r => horc h f vs r hb) z hz
    exact hg.trans (execOps_grows horc l e1 h1 (Nat.le_trans hb hg.1) x h3)

theorem box_trunc {h : Hp} {n b : Nat} (hb : b < n) : box? (trunc h n) b = box? h b := by simp [box?, trunc, hb]
theorem getBox_trunc {h : Hp} {n b : Nat} (hb : b < n) : getBox (trunc h n) b = getBox h b := by rw [getBox, box_trunc hb]; rfl
theorem box_trunc_none {h : Hp} {n b : Nat} (hb : n ≤ b) : box? (trunc h n) b = none := by simp [box?, trunc]; omega
theorem getBox_trunc_none {h : Hp} {n b : Nat} (hb : n ≤ b) : getBox (trunc h n) b = none := by rw [getBox, box_trunc_none hb]; rfl
theorem size_trunc {h : Hp} {n : Nat} (hn : n ≤ size h) : size (trunc h n) = n := by simp only [size, trunc, List.length_take] at *; omega

theorem grows_trunc {base : Nat} {h h1 : Hp} (hb : base ≤ size h) (g : Grows base h h1) : Grows base h (trunc h1 (size h)) := by
  refine ⟨by rw [size_trunc g.1]; exact Nat.le_refl _, fun m hm k b cs hlt hcs => ?_⟩
  rw [getBox_trunc (by omega)] at hcs
  exact g.2 m hm k b cs hlt hcs
theorem grows_ownEnd {base : Nat} {h h1 : Hp} (hb : base ≤ size h) (g : Grows base h h1) {vs : List PV} : AllR (fun r => Grows base h r.2) (ownEnd (size h) h1 vs) := by
  have g1 := grows_trunc hb g
  have g2 : ∀ l, Grows base h (Go.Am.ext (trunc h1 (size h)) l) := fun l => g1.trans (Grows.ext (by rw [size_trunc g.1]; exact hb) l)
  unfold ownEnd
  split
  · exact AllR.ite (AllR.ite (AllR.some g1) (AllR.bnd fun n => AllR.some (g2 _))) AllR.none
  · exact AllR.ite (AllR.ite (AllR.some g1) AllR.none) (AllR.bnd fun cs => AllR.ite (AllR.some (g2 _)) AllR.none)
  · exact AllR.bnd fun vs => AllR.ite (AllR.some g1) AllR.none

theorem grows_all {T : Table} : ∀ n, (∀ c base e h, base ≤ size h → AllR (fun x => Grows base h x.2.2) (exec T n c base e h)) ∧
    (∀ base f vs h, base ≤ size h → AllR (fun x => Grows base h x.2) (call T n base f vs h))
  | 0 => ⟨fun _ _ _ _ _ => by simp only [exec]; exact AllR.none, fun _ _ _ _ _ => by simp only [call]; exact AllR.none⟩
  | n + 1 => by
    obtain ⟨ih, ihc⟩ := grows_all (T := T) n
    refine ⟨fun c base e h hb => ?_, fun base f vs h hb => ?_⟩
    · cases c with
      | skip => rw [exec]; exact AllR.some (Grows.refl _ _)
      | exit id => rw [exec]; exact AllR.some (Grows.refl _ _)
      | ret => rw [exec]; exact AllR.some (Grows.refl _ _)
      | ops l draw keep =>
        rw [exec]
        intro x hx
        simp only [Option.bnd_eq_some_iff, Option.some.injEq] at hx
        obtain ⟨y, hy, rfl⟩ := hx
        exact execOps_grows (fun h f vs r hb hr => ihc base f vs h hb r hr) l e h hb y hy
      | seq a b =>
        rw [exec]
        intro x hx
        simp only [Option.bnd_eq_some_iff] at hx
        obtain ⟨⟨y, e1, h1⟩, hy, hx⟩ := hx
        have g1 := ih a base e h hb _ hy
        split at hx
        · rename_i heq
          simp only [Prod.mk.injEq] at heq
          obtain ⟨_, rfl, rfl⟩ := heq
          exact Grows.trans g1 (ih b base _ _ (Nat.le_trans hb g1.1) x hx)
        · simp only [Option.some.injEq] at hx; subst hx; exact g1
      | cond v a b =>
        rw [exec]
        exact AllR.bnd fun _ => AllR.cond (ih a base e h hb) (ih b base e h hb)
      | block id a =>
        rw [exec]
        intro x hx
        simp only [Option.bnd_eq_some_iff] at hx
        obtain ⟨⟨y, e1, h1⟩, hy, hx⟩ := hx
        have g1 := ih a base e h hb _ hy
        split at hx
        · rename_i heq
          simp only [Prod.mk.injEq] at heq
          obtain ⟨_, rfl, rfl⟩ := heq
          split at hx <;> (simp only [Option.some.injEq] at hx; subst hx; exact g1)
        · simp only [Option.some.injEq] at hx; subst hx; exact g1
      | loop a =>
        rw [exec]
        intro x hx
        simp only [Option.bnd_eq_some_iff] at hx
        obtain ⟨⟨y, e1, h1⟩, hy, hx⟩ := hx
        have g1 := ih a base e h hb _ hy
        split at hx
        · rename_i heq
          simp only [Prod.mk.injEq] at heq
          obtain ⟨_, rfl, rfl⟩ := heq
          exact Grows.trans g1 (ih (.loop a) base _ _ (Nat.le_trans hb g1.1) x hx)
        · simp only [Option.some.injEq] at hx; subst hx; exact g1
      | scope a => rw [exec]; exact ih a base e h hb
    · rw [call]
      split
      · exact AllR.none
      · refine AllR.bnd fun r => ?_
        obtain ⟨v, m⟩ := r
        cases m with
        | none => exact AllR.some (Grows.refl _ _)
        | some q =>
          obtain ⟨b, cs⟩ := q
          simp only [primEnd]
          intro x hx
          split at hx
          · rename_i hc
            simp only [Option.some.injEq] at hx
            subst hx
            obtain ⟨hb1, hb2⟩ := hc
            obtain ⟨cs0, hcs0⟩ := Option.isSome_iff_exists.1 hb1
            exact Grows.set hcs0 fun j y hy => .inr fun hlt => belows_mem' (hb2 hlt) j y hy
          · cases hx
      · rename_i fn hf
        intro x hx
        simp only [Option.bnd_eq_some_iff] at hx
        obtain ⟨⟨y, e1, h1⟩, hy, hx⟩ := hx
        have hbase : (if fn.keep then base else size h) ≤ size h := by split <;> omega
        have hle : base ≤ (if fn.keep then base else size h) := by split <;> omega
        have g1 := (ih fn.body _ _ h hbase _ hy).mono hle
        have hx' : finish fn (size h) e1 h1 = some x := by
          cases y with
          | exit i => cases hx
          | norm => exact hx
          | ret => exact hx
        unfold finish at hx'
        simp only [Option.bnd_eq_some_iff] at hx'
        obtain ⟨vs', _, hx'⟩ := hx'
        split at hx'
        · simp only [Option.some.injEq] at hx'; subst hx'; exact g1
        · split at hx'
          · simp only [Option.bnd_eq_some_iff, Option.some.injEq] at hx'
            obtain ⟨r, hr, rfl⟩ := hx'
            exact grows_ownEnd hb g1 r hr
          · simp only [Option.bnd_eq_some_iff] at hx'
            obtain ⟨vs2, _, hx'⟩ := hx'
            split at hx'
            · simp only [Option.some.injEq] at hx'
              subst hx'
              exact grows_trunc hb g1
            · cases hx'
end Go.Am
