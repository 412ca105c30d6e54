/- 'Am': old boxes never point at younger ones.
   By the session's AI agent. -/
import Derived.Test.YtlmfmjmpfcaliaaAm13
namespace Go.Am
set_option linter.unusedVariables false
set_option linter.unusedSimpArgs false

/-- The first m boxes point at none behind them. -/
def Clo (m : Nat) (h : Hp) : Prop := ∀ b cs, b < m → getBox h b = some cs → ∀ (j : Nat) (x : PV), cs[j]? = some x → below m x = true

def Grows (base : Nat) (h h' : Hp) : Prop := size h ≤ size h' ∧ ∀ m, m ≤ base → Clo m h → Clo m h'
theorem Grows.refl (base : Nat) (h : Hp) : Grows base h h := ⟨Nat.le_refl _, fun _ _ c => c⟩
theorem Grows.trans {base : Nat} {a b c : Hp} (x : Grows base a b) (y : Grows base b c) : Grows base a c := ⟨Nat.le_trans x.1 y.1, fun m hm k => y.2 m hm (x.2 m hm k)⟩
theorem Grows.mono {base base' : Nat} {a b : Hp} (x : Grows base a b) (hb : base' ≤ base) : Grows base' a b := ⟨x.1, fun m hm k => x.2 m (Nat.le_trans hm hb) k⟩

theorem Grows.ext {base : Nat} {h : Hp} (hb : base ≤ size h) (l : List Box) : Grows base h (ext h l) :=
  ⟨by rw [size_ext]; omega, fun m hm k b cs hlt hcs => by rw [getBox_ext_lt (by omega)] at hcs; exact k b cs hlt hcs⟩

theorem belows_of {n : Nat} : ∀ {cs : List PV}, (∀ (j : Nat) (x : PV), cs[j]? = some x → below n x = true) → belows n cs = true
  | [], _ => rfl
  | c :: cs, h => by
    simp only [belows, Bool.and_eq_true]
    exact ⟨h 0 c rfl, belows_of fun j x hx => h (j + 1) x (by simpa using hx)⟩

theorem belows_mem' {n : Nat} : ∀ {cs : List PV}, belows n cs = true → ∀ (j : Nat) (x : PV), cs[j]? = some x → below n x = true
  | [], _, j, x, h => by simp at h
  | c :: cs, hb, 0, x, h => by simp [belows] at hb h; exact h ▸ hb.1
  | c :: cs, hb, j + 1, x, h => by
    simp only [belows, Bool.and_eq_true] at hb
    exact belows_mem' hb.2 j x (by simpa using h)

mutual
theorem below_le' {n m : Nat} (hnm : n ≤ m) : ∀ (v : PV), below n v = true → below m v = true
  | .ptr b _, h => by simp [below] at *; omega
  | .bsl b _ _ _, h => by simp [below] at *; omega
  | .ep e _, h => by simp only [below] at *; exact belows_le' hnm e h
  | .sl _ _ es, h => by simp only [below] at *; exact belows_le' hnm es h
  | .iface _ v, h => by simp only [below] at *; exact below_le' hnm v h
  | .fn _ c, h => by simp only [below] at *; exact belows_le' hnm c h
  | .agg c, h => by simp only [below] at *; exact belows_le' hnm c h
  | .tup c, h => by simp only [below] at *; exact belows_le' hnm c h
  | .undef, _ => rfl
  | .bool _, _ => rfl
  | .int _ _, _ => rfl
  | .str _, _ => rfl
  | .nilp, _ => rfl
  | .nils, _ => rfl
  | .nilif, _ => rfl
  | .nilf, _ => rfl
theorem belows_le' {n m : Nat} (hnm : n ≤ m) : ∀ (vs : List PV), belows n vs = true → belows m vs = true
  | [], _ => rfl
  | v :: vs, h => by
    simp only [belows, Bool.and_eq_true] at *
    exact ⟨below_le' hnm v h.1, belows_le' hnm vs h.2⟩
end

theorem below_strip {n : Nat} {v : PV} (h : below n v = true) : below n (strip v) = true := by
  cases v with
  | sl o z e => cases o <;> exact h
  | _ => exact h

theorem setRange_mem : ∀ (vs : List PV) (cs : List PV) (off : Nat) (j : Nat) (x : PV), (setRange cs off vs)[j]? = some x → (∃ i : Nat, vs[i]? = some x) ∨ cs[j]? = some x
  | [], cs, off, j, x, h => .inr h
  | v :: vs, cs, off, j, x, h => by
    simp only [setRange] at h
    rcases setRange_mem vs _ _ j x h with ⟨i, hi⟩ | hc
    · exact .inl ⟨i + 1, by simpa using hi⟩
    · by_cases hj : off = j
      · subst hj
        by_cases hlt : off < cs.length
        · rw [List.getElem?_set_self hlt] at hc
          exact .inl ⟨0, by simpa using hc⟩
        · rw [List.getElem?_eq_none (by simp; omega)] at hc; cases hc
      · rw [List.getElem?_set_ne hj] at hc; exact .inr hc

theorem Grows.set {base : Nat} {h : Hp} {b : Nat} {cs : Box} (hb : getBox h b = some cs) {cs' : Box} (hx : ∀ (j : Nat) (x : PV), cs'[j]? = some x → cs[j]? = some x ∨ (b < base → below 0 x = true)) : Grows base h (setBox h b cs') := by
  refine ⟨by rw [size_setBox]; exact Nat.le_refl _, fun m hm k c ds hlt hds j x hj => ?_⟩
  by_cases hbc : b = c
  · subst hbc
    rw [getBox_set_eq hb] at hds
    simp only [Option.some.injEq] at hds
    subst hds
    rcases hx j x hj with h1 | h1
    · exact k b cs hlt hb j x h1
    · exact below_le' (Nat.zero_le _) x (h1 (by omega))
  · rw [getBox_set_ne hbc] at hds
    exact k c ds hlt hds j x hj

theorem step_grows {orc : Orc} {base : Nat} {draw : Bool} {op : AOp} (ht : noTake op = true) {e : Env} {h : Hp} (hb : base ≤ size h) (horc : ∀ f vs r, orc f vs h = some r → Grows base h r.2) :
    AllR (fun x => Grows base h x.2.2) (step orc base draw op e h) := by
  cases op <;> simp only [noTake] at ht <;> (try cases ht) <;> simp only [step]
  case call f args =>
    refine AllR.bnd fun vs => ?_
    intro x hx
    simp only [Option.bnd_eq_some_iff] at hx
    obtain ⟨r, hr, hx⟩ := hx
    have := horc _ _ _ hr
    split at hx
    · split at hx
      · simp only [Option.some.injEq] at hx; subst hx; exact Grows.refl _ _
      · cases hx
    · simp only [Option.some.injEq] at hx; subst hx; exact this
  case callQ f args =>
    refine AllR.bnd fun vs => ?_
    refine AllR.bnd fun r => ?_
    exact AllR.ite (AllR.some (Grows.refl _ _)) AllR.none
  case callv x args =>
    refine AllR.bnd fun v => ?_
    cases v <;> try exact AllR.none
    refine AllR.bnd fun vs => ?_
    intro x hx
    simp only [Option.bnd_eq_some_iff] at hx
    obtain ⟨r, hr, hx⟩ := hx
    have := horc _ _ _ hr
    split at hx
    · split at hx
      · simp only [Option.some.injEq] at hx; subst hx; exact Grows.refl _ _
      · cases hx
    · simp only [Option.some.injEq] at hx; subst hx; exact this
  case store n x y =>
    refine AllR.bnd fun v => AllR.bnd fun u => ?_
    cases v <;> try exact AllR.none
    rename_i b off
    intro z hz
    simp only [Option.bnd_eq_some_iff] at hz
    obtain ⟨cs, hcs, hz⟩ := hz
    split at hz
    · rename_i hc
      simp only [Option.some.injEq] at hz
      subst hz
      refine Grows.set hcs fun j q hq => ?_
      rcases setRange_mem _ _ _ _ _ hq with ⟨i, hi⟩ | hq
      · right
        intro hlt
        rw [List.getElem?_map, Option.map_eq_some_iff] at hi
        obtain ⟨c0, hc0, rfl⟩ := hi
        exact below_strip (belows_mem' (hc.2.2.2 hlt) i c0 hc0)
      · exact .inl hq
    · cases hz
  all_goals
    repeat' (first
      | exact AllR.some (Grows.refl _ _)
      | exact AllR.some (Grows.ext hb _)
      | exact AllR.none
      | (refine AllR.bnd fun _ => ?_)
      | (refine AllR.ite ?_ ?_)
      | (refine AllR.cond ?_ ?_)
      | split)

theorem execOps_grows {orc : Orc} {base : Nat} {draw : Bool} (horc : ∀ h f vs r, base ≤ size h → orc f vs h = some r → Grows base h r.2) : ∀ (l : List AOper) (ht : ∀ o ∈ l, noTake o.op = true) (e : Env) (h : Hp), base ≤ size h →
    AllR (fun x => Grows base h x.2) (execOps orc base draw l e h)
  | [], _, e, h, hb => AllR.some (Grows.refl _ _)
  | o :: l, ht, e, h, hb => by
    rw [execOps_eq]
    intro x hx
    simp only [Option.bnd_eq_some_iff] at hx
    obtain ⟨⟨e1, h1⟩, h2, h3⟩ := hx
    have hg : Grows base h h1 := by
      unfold exec1 at h2
      simp only [Option.bnd_eq_some_iff] at h2
      obtain ⟨w, _, h2⟩ := h2
      cases w with
      | false => simp only [Bool.false_eq_true, if_false, Option.some.injEq, Prod.mk.injEq] at h2; rw [← h2.2]; exact Grows.refl _ _
      | true =>
        simp only [if_true, Option.bnd_eq_some_iff, Option.some.injEq, Prod.mk.injEq] at h2
        obtain ⟨z, hz, _, rfl⟩ := h2
        exact step_grows (ht o (by simp)) hb (fun f vs r => horc h f vs r hb) z hz
    exact hg.trans (execOps_grows horc l (fun o ho => ht o (by simp [ho])) e1 h1 (Nat.le_trans hb hg.1) x h3)

def noTakeC : ACode → Bool
  | .ops l _ _ => l.all fun o => noTake o.op
  | .seq a b => noTakeC a && noTakeC b
  | .cond _ a b => noTakeC a && noTakeC b
  | .block _ a | .loop a | .scope a => noTakeC a
  | _ => true

def noTakeT (T : Table) : Prop := ∀ f fn, T f = some (.code fn) → noTakeC fn.body = true

theorem getBox_trunc {h : Hp} {n b : Nat} (hb : b < n) : getBox (trunc h n) b = getBox h b := by simp [getBox, trunc, hb]
theorem getBox_trunc_none {h : Hp} {n b : Nat} (hb : n ≤ b) : getBox (trunc h n) b = none := by simp [getBox, trunc]; omega
theorem size_trunc {h : Hp} {n : Nat} (hn : n ≤ size h) : size (trunc h n) = n := by simp only [size, trunc, List.length_take] at *; omega

theorem grows_all {T : Table} (hT : noTakeT T) : ∀ n, (∀ c base e h, noTakeC c = true → base ≤ size h → AllR (fun x => Grows base h x.2.2) (exec T n c base e h)) ∧
    (∀ base f vs h, base ≤ size h → AllR (fun x => Grows base h x.2) (call T n base f vs h))
  | 0 => ⟨fun _ _ _ _ _ _ => by simp only [exec]; exact AllR.none, fun _ _ _ _ _ => by simp only [call]; exact AllR.none⟩
  | n + 1 => by
    obtain ⟨ih, ihc⟩ := grows_all hT n
    refine ⟨fun c base e h hc hb => ?_, fun base f vs h hb => ?_⟩
    · cases c with
      | skip => rw [exec]; exact AllR.some (Grows.refl _ _)
      | exit id => rw [exec]; exact AllR.some (Grows.refl _ _)
      | ret => rw [exec]; exact AllR.some (Grows.refl _ _)
      | ops l draw keep =>
        rw [exec]
        intro x hx
        simp only [Option.bnd_eq_some_iff, Option.some.injEq] at hx
        obtain ⟨y, hy, rfl⟩ := hx
        simp only [noTakeC, List.all_eq_true] at hc
        exact execOps_grows (fun h f vs r hb hr => ihc base f vs h hb r hr) l hc e h hb y hy
      | seq a b =>
        rw [exec]
        simp only [noTakeC, Bool.and_eq_true] at hc
        intro x hx
        simp only [Option.bnd_eq_some_iff] at hx
        obtain ⟨⟨y, e1, h1⟩, hy, hx⟩ := hx
        have g1 := ih a base e h hc.1 hb _ hy
        split at hx
        · rename_i heq
          simp only [Prod.mk.injEq] at heq
          obtain ⟨_, rfl, rfl⟩ := heq
          exact Grows.trans g1 (ih b base _ _ hc.2 (Nat.le_trans hb g1.1) x hx)
        · simp only [Option.some.injEq] at hx; subst hx; exact g1
      | cond v a b =>
        rw [exec]
        simp only [noTakeC, Bool.and_eq_true] at hc
        exact AllR.bnd fun _ => AllR.cond (ih a base e h hc.1 hb) (ih b base e h hc.2 hb)
      | block id a =>
        rw [exec]
        simp only [noTakeC] at hc
        intro x hx
        simp only [Option.bnd_eq_some_iff] at hx
        obtain ⟨⟨y, e1, h1⟩, hy, hx⟩ := hx
        have g1 := ih a base e h hc hb _ hy
        split at hx
        · rename_i heq
          simp only [Prod.mk.injEq] at heq
          obtain ⟨_, rfl, rfl⟩ := heq
          split at hx <;> (simp only [Option.some.injEq] at hx; subst hx; exact g1)
        · simp only [Option.some.injEq] at hx; subst hx; exact g1
      | loop a =>
        rw [exec]
        simp only [noTakeC] at hc
        intro x hx
        simp only [Option.bnd_eq_some_iff] at hx
        obtain ⟨⟨y, e1, h1⟩, hy, hx⟩ := hx
        have g1 := ih a base e h hc hb _ hy
        split at hx
        · rename_i heq
          simp only [Prod.mk.injEq] at heq
          obtain ⟨_, rfl, rfl⟩ := heq
          exact Grows.trans g1 (ih (.loop a) base _ _ hc (Nat.le_trans hb g1.1) x hx)
        · simp only [Option.some.injEq] at hx; subst hx; exact g1
      | scope a => rw [exec]; exact ih a base e h hc hb
    · rw [call]
      split
      · exact AllR.none
      · exact AllR.bnd fun _ => AllR.some (Grows.refl _ _)
      · rename_i fn hf
        intro x hx
        simp only [Option.bnd_eq_some_iff] at hx
        obtain ⟨⟨y, e1, h1⟩, hy, hx⟩ := hx
        have hbase : (if fn.keep then base else size h) ≤ size h := by split <;> omega
        have hle : base ≤ (if fn.keep then base else size h) := by split <;> omega
        have g1 := (ih fn.body _ _ h (hT f fn hf) hbase _ hy).mono hle
        have hx' : finish fn (size h) e1 h1 = some x := by
          cases y with
          | exit i => cases hx
          | norm => exact hx
          | ret => exact hx
        unfold finish at hx'
        simp only [Option.bnd_eq_some_iff] at hx'
        obtain ⟨vs', _, hx'⟩ := hx'
        split at hx'
        · simp only [Option.some.injEq] at hx'; subst hx'; exact g1
        · split at hx'
          · simp only [Option.some.injEq] at hx'
            subst hx'
            have hsz : size h ≤ size h1 := g1.1
            refine ⟨by rw [size_trunc hsz]; exact Nat.le_refl _, fun m hm k b cs hlt hcs => ?_⟩
            rw [getBox_trunc (by omega)] at hcs
            exact g1.2 m hm k b cs hlt hcs
          · cases hx'
end Go.Am
