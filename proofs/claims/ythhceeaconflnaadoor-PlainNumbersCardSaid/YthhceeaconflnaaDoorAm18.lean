/- 'Am': regions as a whole.
   By the session's AI agent. -/
import Derived.Test.YthhceeaconflnaaDoorAm17
namespace Go.Am
open Go.RowKit (Below)
set_option linter.unusedVariables false
set_option linter.unusedSimpArgs false
set_option linter.unusedSectionVars false

section
variable {N0 : Nat} {P : Program} {w0 : World} {g : G} {e : Env} {a : Act} {h : Hp} {w : World} {gl : Globs}

theorem look_lt {tm : Array Value} (k : Ok (N0 := N0) w0 g e tm h w) {t : Nat} {b : Bool} (hl : look e t = some (.bool b)) : tm[t]? = some (.bool b) := by
  have hr := k.env t _ hl
  have := rv_bool hr
  rw [Array.getD_eq_getD_getElem?] at this
  cases hq : tm[t]? with
  | none => rw [hq] at this; simp [Go.undef] at this
  | some u => rw [hq] at this; simpa using this

/-- An operation is asked for just where the machine's is. -/
theorem wanted_rv (k : Ok (N0 := N0) w0 g e a.tmps h w) {ops : Array Oper} {o : Oper} {gd : Option (Nat × Bool)} (hg : cGuard ops o.guard = some gd) {b : Bool} (hw : wanted e gd = some b) :
    Region.wanted o (yielded ops a.tmps) = b := by
  cases hog : o.guard with
  | none =>
    rw [hog] at hg
    simp only [cGuard, Option.some.injEq] at hg
    subst hg
    simp only [wanted, Option.some.injEq] at hw
    subst hw
    simp [Region.wanted, hog]
  | some q =>
    obtain ⟨j, want⟩ := q
    rw [hog] at hg
    simp only [cGuard, Option.map_eq_some_iff] at hg
    obtain ⟨d, hd, rfl⟩ := hg
    simp only [wanted, Option.bnd_eq_some_iff] at hw
    obtain ⟨v, hv, hw⟩ := hw
    cases v <;> simp only at hw <;> (try cases hw)
    case some.bool.refl b' =>
      have hy : yielded ops a.tmps j = some b' := by
        unfold yielded
        rw [hd]
        simp only [Option.bind_some, look_lt k hv]
      simp only [Region.wanted, hog, hy]
      cases b' <;> cases want <;> rfl
    case some.undef.refl =>
      have hr := k.env d _ hv
      cases hr with
      | undef u hu =>
        simp only [Region.wanted, hog]
        have : ∀ b', yielded ops a.tmps j ≠ some b' := by
          intro b' hq
          unfold yielded at hq
          rw [hd] at hq
          simp only [Option.bind_some] at hq
          split at hq
          · rename_i b2 heq
            refine hu b2 ?_
            rw [Array.getD_eq_getD_getElem?, heq]; rfl
          · cases hq
        cases hq : yielded ops a.tmps j with
        | none => rfl
        | some b' => exact (this b' hq).elim

theorem quieten_get {ops : Array Oper} {l : List AOper} : ∀ (r : List AOper) (i : Nat), (quieten ops l i r).length = r.length ∧ ∀ (j : Nat) (x : AOper), r[j]? = some x → ∃ y, (quieten ops l i r)[j]? = some y ∧ (y = x ∨ ∃ f xs, x.op = .call f xs ∧ y = { x with op := .callQ f xs })
  | [], i => ⟨rfl, fun j x hx => by simp at hx⟩
  | x :: r, i => by
    obtain ⟨h1, h2⟩ := quieten_get (ops := ops) (l := l) r (i + 1)
    refine ⟨by simp [quieten, h1], fun j y hy => ?_⟩
    cases j with
    | zero =>
      simp at hy
      subst hy
      refine ⟨_, rfl, ?_⟩
      split
      · rename_i f xs hq
        split
        · exact .inl rfl
        · exact .inr ⟨f, xs, hq, rfl⟩
      · exact .inl rfl
    | succ j => simpa [quieten] using h2 j y (by simpa using hy)
theorem made_quiet {nt : Nat} {ops : Array Oper} {o : Oper} {x y : AOper} (hm : Made P gl nt ops o x) (h : y = x ∨ ∃ f xs, x.op = .call f xs ∧ y = { x with op := .callQ f xs }) : Made P gl nt ops o y := by
  rcases h with rfl | ⟨f, xs, hq, rfl⟩
  · exact hm
  · obtain ⟨h1, h2, h3, h4, h6⟩ := hm
    exact ⟨by rw [hq] at h1; exact h1, h2, h3, h4, fun _ => h6 (by rw [hq]; rfl)⟩

theorem uq_part (t : Nat) (a : AOp) : uq (partOp t a) = uq a := by cases a <;> rfl
theorem isCall_part (t : Nat) (a : AOp) : isCall (partOp t a) = isCall a := by cases a <;> rfl
theorem made_parts {an : Ann} {id nt : Nat} {ops : Array Oper} {l : List AOper} (h : ∀ (j : Nat) (o : Oper), ops[j]? = some o → ∃ ao, l[j]? = some ao ∧ Made P gl nt ops o ao) :
    (partOps an id l).length = l.length ∧ ∀ (j : Nat) (o : Oper), ops[j]? = some o → ∃ ao, (partOps an id l)[j]? = some ao ∧ Made P gl nt ops o ao := by
  unfold partOps
  split
  · exact ⟨rfl, h⟩
  · rename_i t _
    refine ⟨by simp, fun j o ho => ?_⟩
    obtain ⟨ao, h1, h2⟩ := h j o ho
    exact ⟨{ ao with op := partOp t ao.op }, by simp [h1], ⟨by simp only [uq_part]; exact h2.op, h2.guard, h2.dst, h2.ok, by simp only [isCall_part]; exact h2.call⟩⟩

/-- One operation, asked for or not. -/
theorem sim_one (hgl : GlobOk gl N0 w0) (k : Ok (N0 := N0) w0 g e a.tmps h w) {nt : Nat} {ops : Array Oper} {i : Nat} {o : Oper} {ao : AOper} (hio : ops[i]? = some o) (hm : Made P gl nt ops o ao) (hsz : nt ≤ a.tmps.size) (hd : a.defers = []) {orc : Orc} {base : Nat} {draw : Bool}
    (horc : OrcSim N0 P w0 base orc) (hbs : base ≤ size h) {e' : Env} {h' : Hp} (hs : exec1 orc base draw ao e h = some (e', h')) {K : Act → World → Prop} {Q : Exit → Act → World → Prop}
    (hK : ∀ g' a' w', Ext N0 g w g' w' → Ok (N0 := N0) w0 g' e' a'.tmps h' w' → nt ≤ a'.tmps.size → a'.defers = [] → K a' w') : wpOp P ops Q i K a w := by
  unfold exec1 at hs
  simp only [Option.bnd_eq_some_iff] at hs
  obtain ⟨b, hb, hs⟩ := hs
  unfold wpOp
  rw [hio]
  simp only [wanted_rv k hm.guard hb]
  cases b with
  | true =>
    simp only [if_true, Option.bnd_eq_some_iff, Option.some.injEq, Prod.mk.injEq] at hs ⊢
    obtain ⟨⟨v, e1, h1⟩, hst, rfl, rfl⟩ := hs
    exact .inl (sim_op hgl k hm hsz hd horc hbs hst hK)
  | false =>
    simp only [Bool.false_eq_true, if_false, Option.some.injEq, Prod.mk.injEq] at hs ⊢
    obtain ⟨rfl, rfl⟩ := hs
    have hdst := hm.dst
    have hokd := hm.ok
    cases hod : o.dst with
    | none =>
      rw [hod] at hdst
      refine hK g _ w (Ext.refl _ _ _) ?_ hsz hd
      rw [hdst]; exact k
    | some d =>
      rw [hod] at hdst hokd
      simp only [okDst, decide_eq_true_eq] at hokd
      refine hK g _ w (Ext.refl _ _ _) ?_ (by simp only [Act.put, Array.size_setIfInBounds]; exact hsz) hd
      rw [hdst]
      exact k.put (Nat.lt_of_lt_of_le hokd hsz) (.undef _ (by intro b; simp [Go.undef]))

/-- Operations one behind the other. -/
theorem sim_ops (hgl : GlobOk gl N0 w0) {nt : Nat} {ops : Array Oper} {aops : List AOper} (hmade : ∀ (j : Nat) (o : Oper), ops[j]? = some o → ∃ ao, aops[j]? = some ao ∧ Made P gl nt ops o ao) {orc : Orc} {base : Nat} {draw : Bool} (horc : OrcSim N0 P w0 base orc)
    (hgrow : ∀ h f vs r, base ≤ size h → orc f vs h = some r → Grows base h r.2) {Q : Exit → Act → World → Prop} {e' : Env} {h' : Hp} : ∀ (l : List Nat) (g : G) (e : Env) (a : Act) (h : Hp) (w : World), (∀ i ∈ l, i < ops.size) → aops.length = ops.size →
    Ok (N0 := N0) w0 g e a.tmps h w → nt ≤ a.tmps.size → a.defers = [] → base ≤ size h → execOps orc base draw (l.map fun i => aops.getD i ⟨none, none, .alloc []⟩) e h = some (e', h') →
    (∀ g' a' w', Ext N0 g w g' w' → Ok (N0 := N0) w0 g' e' a'.tmps h' w' → nt ≤ a'.tmps.size → a'.defers = [] → Q .normal a' w') → wpOps P ops Q l a w
  | [], g, e, a, h, w, hl, hlen, k, hsz, hd, hbs, hs, hQ => by
    simp only [List.map_nil, execOps, Option.some.injEq, Prod.mk.injEq] at hs
    obtain ⟨rfl, rfl⟩ := hs
    exact hQ g a w (Ext.refl _ _ _) k hsz hd
  | i :: l, g, e, a, h, w, hl, hlen, k, hsz, hd, hbs, hs, hQ => by
    have hi : i < ops.size := hl i (by simp)
    obtain ⟨ao, hao, hm⟩ := hmade i ops[i] (by simp [hi])
    rw [List.map_cons, execOps_eq, Option.bnd_eq_some_iff] at hs
    obtain ⟨⟨e1, h1⟩, hs1, hs2⟩ := hs
    rw [List.getD_eq_getElem?_getD, hao, Option.getD_some] at hs1
    rw [wpOps_cons]
    refine sim_one hgl k (by simp [hi]) hm hsz hd horc hbs hs1 fun g1 a1 w1 hx1 k1 hsz1 hd1 => ?_
    have hg1 : Grows base h h1 := by
      have := execOps_grows (draw := draw) hgrow [ao] e h hbs (e1, h1) (by rw [execOps_eq, hs1]; rfl)
      exact this
    exact sim_ops hgl hmade horc hgrow l g1 e1 a1 h1 w1 (fun j hj => hl j (by simp [hj])) hlen k1 hsz1 hd1 (Nat.le_trans hbs hg1.1) hs2 fun g' a' w' hx' => hQ g' a' w' (hx1.trans hx')

/-! ### Whatever order -/

/-- What is listed is listed with all that must come before it. -/
def Down (ops : Array Oper) (listed : Array Bool) : Prop := ∀ i, listed.getD i false = true → ∀ m ∈ dirsAt ops i, listed.getD m false = true

theorem ordB_listed {ops : Array Oper} {listed : Array Bool} (hd : Down ops listed) : ∀ (n y i : Nat), ordB ops n y i = true → (∀ m ∈ dirsAt ops i, listed.getD m false = true) → listed.getD y false = true
  | 0, y, i, h, _ => by simp [ordB] at h
  | n + 1, y, i, h, hi => by
    simp only [ordB, List.any_eq_true, Bool.or_eq_true, beq_iff_eq] at h
    obtain ⟨m, hm, h⟩ := h
    rcases h with rfl | h
    · exact hi m hm
    · exact ordB_listed hd n y m h (hd m (hi m hm))

theorem ready_iff {ops : Array Oper} {listed : Array Bool} {i : Nat} (hi : i ∈ Region.ready .any ops listed) : i < ops.size ∧ listed.getD i true = false ∧ ∀ m ∈ dirsAt ops i, listed.getD m false = true := by
  unfold Region.ready at hi
  simp only [List.mem_filter, List.mem_range, Bool.and_eq_true, Bool.not_eq_true'] at hi
  obtain ⟨h1, h2, h3⟩ := hi
  refine ⟨h1, h2, fun m hm => ?_⟩
  simp only [dirsAt, dirs, Array.getElem?_eq_getElem h1, Option.map_some, Option.getD_some, List.mem_filterMap] at hm h3
  obtain ⟨ed, hed, hm⟩ := hm
  split at hm
  · rename_i hb
    simp only [Option.some.injEq] at hm
    subst hm
    have := (Array.all_eq_true_iff_forall_mem.1 h3) ed (by simpa using hed)
    simpa [hb] using this
  · cases hm

theorem ready_of {ops : Array Oper} {listed : Array Bool} {i : Nat} (h1 : i < ops.size) (h2 : listed.getD i true = false) (h3 : ∀ m ∈ dirsAt ops i, listed.getD m false = true) : i ∈ Region.ready .any ops listed := by
  unfold Region.ready
  simp only [List.mem_filter, List.mem_range, Bool.and_eq_true, Bool.not_eq_true']
  refine ⟨h1, h2, ?_⟩
  simp only [Array.getElem?_eq_getElem h1, Option.map_some, Option.getD_some]
  rw [Array.all_eq_true_iff_forall_mem]
  intro ed hed
  cases hb : Region.binds .any ed with
  | false => simp
  | true =>
    have := h3 ed.on (by
      simp only [dirsAt, dirs, Array.getElem?_eq_getElem h1, Option.map_some, Option.getD_some, List.mem_filterMap]
      exact ⟨ed, by simpa using hed, by simp [hb]⟩)
    simpa using this

/-- The operations that are not listed yet, in the order of the text. -/
def rest (n : Nat) (listed : Array Bool) : List Nat := (List.range n).filter fun i => !listed.getD i true

theorem split_rest {n : Nat} {listed : Array Bool} {i : Nat} (hi : i < n) (hl : listed.getD i true = false) (hs : listed.size = n) : ∃ l1 l2, rest n listed = l1 ++ i :: l2 ∧ (∀ y ∈ l1, y < i ∧ listed.getD y true = false) ∧ rest n (listed.setIfInBounds i true) = l1 ++ l2 := by
  have hr : List.range n = List.range i ++ i :: (List.range' (i + 1) (n - (i + 1))) := by
    rw [List.range_eq_range', List.range_eq_range', show n = i + ((n - (i + 1)) + 1) by omega, ← List.range'_append]
    simp [List.range'_succ]
    omega
  refine ⟨(List.range i).filter fun j => !listed.getD j true, (List.range' (i + 1) (n - (i + 1))).filter fun j => !listed.getD j true, ?_, ?_, ?_⟩
  · unfold rest
    rw [hr, List.filter_append, List.filter_cons, if_pos (by simp [hl])]
  · intro y hy
    simp only [List.mem_filter, List.mem_range, Bool.not_eq_true'] at hy
    exact hy
  · have hne : ∀ j, j ≠ i → (listed.setIfInBounds i true).getD j true = listed.getD j true := by
      intro j hj
      simp [Array.getD_eq_getD_getElem?, Array.getElem?_setIfInBounds, Ne.symm hj]
    unfold rest
    rw [hr, List.filter_append, List.filter_cons, if_neg (by simp [Array.getD_eq_getD_getElem?, hs, hi])]
    congr 1
    · apply List.filter_congr
      intro j hj
      rw [hne j (by simp at hj; omega)]
    · apply List.filter_congr
      intro j hj
      rw [hne j (by simp [List.mem_range'] at hj; omega)]

theorem sim_draw (hgl : GlobOk gl N0 w0) {nt : Nat} {ops : Array Oper} {aops : List AOper} (hmade : ∀ (j : Nat) (o : Oper), ops[j]? = some o → ∃ ao, aops[j]? = some ao ∧ Made P gl nt ops o ao) (hlen : aops.length = ops.size) {draw : Bool} (hdraw : drawOk draw ops aops = true) {orc : Orc} {base : Nat}
    (horc : OrcSim N0 P w0 base orc) (hgrow : ∀ h f vs r, base ≤ size h → orc f vs h = some r → Grows base h r.2) {Q : Exit → Act → World → Prop} {e9 : Env} {h' : Hp} :
    ∀ (fuel : Nat) (listed : Array Bool) (g : G) (e : Env) (a : Act) (h : Hp) (w : World), listed.size = ops.size → Down ops listed → (rest ops.size listed).length ≤ fuel →
    Ok (N0 := N0) w0 g e a.tmps h w → nt ≤ a.tmps.size → a.defers = [] → base ≤ size h →
    (∃ e', Eqv e9 e' ∧ execOps orc base draw ((rest ops.size listed).map fun i => aops.getD i ⟨none, none, .alloc []⟩) e h = some (e', h')) →
    (∀ g' a' w' e', Eqv e9 e' → Ext N0 g w g' w' → Ok (N0 := N0) w0 g' e' a'.tmps h' w' → nt ≤ a'.tmps.size → a'.defers = [] → Q .normal a' w') → wpAny P .any ops Q fuel listed a w := by
  simp only [drawOk, List.all_eq_true, List.mem_range, Bool.and_eq_true, decide_eq_true_eq] at hdraw
  -- where nothing is ready nothing is left
  have none_left : ∀ listed : Array Bool, listed.size = ops.size → Region.ready .any ops listed = [] → rest ops.size listed = [] := by
    intro listed hs hr
    have : ∀ i, i < ops.size → listed.getD i true = true := by
      intro i
      induction i using Nat.strongRecOn with
      | _ i ih =>
        intro hi
        cases hq : listed.getD i true with
        | true => rfl
        | false =>
          have : i ∈ Region.ready .any ops listed := ready_of hi hq fun m hm => by
            have hlt := (hdraw i (by omega)).1 m hm
            have := ih m hlt (by omega)
            have hms : m < listed.size := by omega
            simpa [Array.getD_eq_getD_getElem?, hms] using this
          rw [hr] at this
          cases this
    unfold rest
    rw [List.filter_eq_nil_iff]
    intro i hi
    simp only [List.mem_range] at hi
    simp [this i hi]
  have done : ∀ (listed : Array Bool) (g : G) (e : Env) (a : Act) (h : Hp) (w : World), listed.size = ops.size → Region.ready .any ops listed = [] → Ok (N0 := N0) w0 g e a.tmps h w → nt ≤ a.tmps.size → a.defers = [] →
      (∃ e', Eqv e9 e' ∧ execOps orc base draw ((rest ops.size listed).map fun i => aops.getD i ⟨none, none, .alloc []⟩) e h = some (e', h')) →
      (∀ g' a' w' e', Eqv e9 e' → Ext N0 g w g' w' → Ok (N0 := N0) w0 g' e' a'.tmps h' w' → nt ≤ a'.tmps.size → a'.defers = [] → Q .normal a' w') → Q .normal a w := by
    rintro listed g e a h w hs hr k hsz hd ⟨e', he', hx⟩ hQ
    rw [none_left listed hs hr] at hx
    simp only [List.map_nil, execOps, Option.some.injEq, Prod.mk.injEq] at hx
    obtain ⟨rfl, rfl⟩ := hx
    exact hQ g a w e he' (Ext.refl _ _ _) k hsz hd
  intro fuel
  induction fuel with
  | zero =>
    intro listed g e a h w hs hdown hfuel k hsz hd hbs hx hQ
    have hrest : rest ops.size listed = [] := List.eq_nil_of_length_eq_zero (by omega)
    have hr : Region.ready .any ops listed = [] := by
      cases hq : Region.ready .any ops listed with
      | nil => rfl
      | cons i l =>
        obtain ⟨h1, h2, _⟩ := ready_iff (ops := ops) (listed := listed) (i := i) (by rw [hq]; simp)
        have : i ∈ rest ops.size listed := by
          unfold rest
          rw [List.mem_filter]
          exact ⟨List.mem_range.2 h1, by rw [h2]; rfl⟩
        rw [hrest] at this
        cases this
    exact ⟨hr, done listed g e a h w hs hr k hsz hd hx hQ⟩
  | succ fuel ih =>
    intro listed g e a h w hs hdown hfuel k hsz hd hbs hx hQ
    refine ⟨fun hr => done listed g e a h w hs hr k hsz hd hx hQ, fun i hi => ?_⟩
    obtain ⟨h1, h2, h3⟩ := ready_iff hi
    obtain ⟨l1, l2, r1, r2, r3⟩ := split_rest h1 h2 hs
    obtain ⟨e', he', hx⟩ := hx
    have hget : ∀ j, j < ops.size → ∃ ao, aops[j]? = some ao ∧ aops.getD j ⟨none, none, .alloc []⟩ = ao := by
      intro j hj
      obtain ⟨ao, q1, q2⟩ := hmade j ops[j] (by simp [hj])
      exact ⟨ao, q1, by rw [List.getD_eq_getElem?_getD, q1]; rfl⟩
    have hrestlt : ∀ j ∈ rest ops.size listed, j < ops.size := by
      intro j hj
      unfold rest at hj
      simp at hj
      exact hj.1
    rw [r1] at hx hrestlt
    rw [List.map_append, List.map_cons] at hx
    obtain ⟨aoi, a1, a2⟩ := hget i h1
    have hap : ∀ y ∈ (l1.map fun i => aops.getD i ⟨none, none, .alloc []⟩), apartB draw y (aops.getD i ⟨none, none, .alloc []⟩) = true := by
      intro y hy
      simp only [List.mem_map] at hy
      obtain ⟨j, hj, rfl⟩ := hy
      obtain ⟨q1, q2⟩ := r2 j hj
      have hp := (hdraw i (by omega)).2 j q1
      unfold pairOk at hp
      obtain ⟨aoj, b1, b2⟩ := hget j (by omega)
      rw [b1, a1] at hp
      simp only [Bool.or_eq_true] at hp
      rw [b2, a2]
      rcases hp with hp | hp
      · exact hp
      · exfalso
        have := ordB_listed hdown _ _ _ hp h3
        have hjs : j < listed.size := by omega
        simp [Array.getD_eq_getD_getElem?, hjs] at this q2
        rw [this] at q2
        cases q2
    obtain ⟨e2, he2, hx2⟩ := swap_front _ hap hx
    rw [execOps_eq, Option.bnd_eq_some_iff] at hx2
    obtain ⟨⟨e3, h3'⟩, hx3, hx4⟩ := hx2
    rw [a2] at hx3
    have hio : ops[i]? = some ops[i] := by simp [h1]
    obtain ⟨ao', c1, hm⟩ := hmade i ops[i] hio
    rw [a1] at c1
    cases c1
    refine sim_one hgl k hio hm hsz hd horc hbs hx3 fun g1 w1a w1 hx1 k1 hsz1 hd1 => ?_
    have hg1 : Grows base h h3' := by
      have := execOps_grows (draw := draw) hgrow [aoi] e h hbs (e3, h3') (by rw [execOps_eq, hx3]; rfl)
      exact this
    refine ih (listed.setIfInBounds i true) g1 e3 w1a h3' w1 (by simp [hs]) ?_ ?_ k1 hsz1 hd1 (Nat.le_trans hbs hg1.1) ⟨e2, he'.trans he2, ?_⟩ fun g' a' w' e' q1 q2 => hQ g' a' w' e' q1 (hx1.trans q2)
    · intro j hj m hm'
      by_cases hji : i = j
      · subst hji
        have := h3 m hm'
        by_cases hmi : i = m
        · subst hmi; simp [Array.getD_eq_getD_getElem?, hs, h1]
        · simpa [Array.getD_eq_getD_getElem?, Array.getElem?_setIfInBounds, hmi] using this
      · have hj' : listed.getD j false = true := by simpa [Array.getD_eq_getD_getElem?, Array.getElem?_setIfInBounds, hji] using hj
        have := hdown j hj' m hm'
        by_cases hmi : i = m
        · subst hmi; simp [Array.getD_eq_getD_getElem?, hs, h1]
        · simpa [Array.getD_eq_getD_getElem?, Array.getElem?_setIfInBounds, hmi] using this
    · rw [r3]
      rw [r1] at hfuel
      simp only [List.length_append, List.length_cons] at hfuel ⊢
      omega
    · rw [r3, List.map_append]; exact hx4
end
end Go.Am
