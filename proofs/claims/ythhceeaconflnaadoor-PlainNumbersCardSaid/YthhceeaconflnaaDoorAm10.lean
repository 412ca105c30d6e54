/- 'Am': the operations, one by one (fourth part): slices and structs that are made.
   By the session's AI agent. -/
import Derived.Test.YthhceeaconflnaaDoorAm9
namespace Go.Am
open Go.RowKit (Below)
set_option linter.unusedVariables false
set_option linter.unusedSimpArgs false
set_option linter.unusedSectionVars false

section
variable {N0 : Nat} {P : Program} {w0 : World} {g : G} {e : Env} {a : Act} {h : Hp} {w : World}
variable {o : Oper} {md : Nat} {orc : Orc} {base : Nat} {draw : Bool} {aop : AOp} {v : PV} {e' : Env} {h' : Hp} {gl : Globs} (hgl : GlobOk gl N0 w0)
include hgl

theorem bd_rv (k : Ok (N0 := N0) w0 g e a.tmps h w) {n dflt i : Nat} {x : Operand} {x' : Opnd} (hx : cOpnd gl x = some x') (hb : bd e n dflt (some x') = some i) :
    i ≤ n ∧ ∀ (m : Nat) (code : BoundsCode), n ≤ m → (Instr.sliceBound (a.eval x) m code).run P w = .ok i w := by
  simp only [bd, Option.bnd_eq_some_iff] at hb
  obtain ⟨p, hp, hb⟩ := hb
  have hr := rv_ev hgl k hx hp
  generalize a.eval x = A at hr
  cases hr <;> simp only at hb <;> (try cases hb)
  rename_i kk q
  split at hb
  · rename_i hq
    simp only [Option.some.injEq] at hb
    subst hb
    refine ⟨by omega, fun m code hm => ?_⟩
    have hq' : 0 ≤ q ∧ q ≤ (m : Int) := ⟨hq.1, by omega⟩
    simp only [Instr.sliceBound, asIntOf, Sem.run_bind, Sem.run_pure, Result.andThen, if_pos hq']
  · cases hb

/-- The bounds of a slice expression; 'len', 'cap' as the program has them, the machine knowing no more than its length. -/
theorem bounds_rv (k : Ok (N0 := N0) w0 g e a.tmps h w) {isS : Bool} {len cap : Nat} (hlc : len ≤ cap) {lo hi mx : Option Operand} {lo' hi' mx' : Option Opnd} (h1 : cOpt gl lo = some lo') (h2 : cOpt gl hi = some hi')
    (h3 : cOpt gl mx = some mx') (hmh : mx = none ∨ hi ≠ none) {m hh l : Nat} (b1 : bd e len len mx' = some m) (b2 : bd e m len hi' = some hh) (b3 : bd e hh 0 lo' = some l) :
    l ≤ hh ∧ hh ≤ len ∧ ∃ mc, hh ≤ mc ∧ mc ≤ cap ∧ (mx ≠ none → mc = m) ∧ (mx = none → mc = cap) ∧ (Instr.sliceBounds isS len cap (lo.map a.eval) (hi.map a.eval) (mx.map a.eval)).run P w = .ok (l, hh, mc) w := by
  have opt : ∀ (z : Option Operand) (z' : Option Opnd), cOpt gl z = some z' → (z = none ∧ z' = none) ∨ ∃ y y', z = some y ∧ z' = some y' ∧ cOpnd gl y = some y' := by
    intro z z' hz
    cases z with
    | none => simp [cOpt] at hz; exact .inl ⟨rfl, hz.symm⟩
    | some y =>
      simp only [cOpt, Option.map_eq_some_iff] at hz
      obtain ⟨y', hy, rfl⟩ := hz
      exact .inr ⟨y, y', rfl, rfl, hy⟩
  have low : ∀ (hh l : Nat), bd e hh 0 lo' = some l → l ≤ hh ∧ ((lo = none ∧ l = 0) ∨ ∃ y, lo = some y ∧ ∀ code, (Instr.sliceBound (a.eval y) hh code).run P w = .ok l w) := by
    intro hh l hb
    rcases opt lo lo' h1 with ⟨rfl, rfl⟩ | ⟨y, y', rfl, rfl, hy⟩
    · simp only [bd, Option.some.injEq] at hb; subst hb; exact ⟨Nat.zero_le _, .inl ⟨rfl, rfl⟩⟩
    · obtain ⟨hle, hrun⟩ := bd_rv (P := P) hgl k hy hb
      exact ⟨hle, .inr ⟨y, rfl, fun code => hrun hh code (Nat.le_refl _)⟩⟩
  rcases opt mx mx' h3 with ⟨rfl, rfl⟩ | ⟨ym, ym', rfl, rfl, hym⟩
  · simp only [bd, Option.some.injEq] at b1
    subst b1
    rcases opt hi hi' h2 with ⟨rfl, rfl⟩ | ⟨yh, yh', rfl, rfl, hyh⟩
    · simp only [bd, Option.some.injEq] at b2
      subst b2
      obtain ⟨l1, l2⟩ := low len l b3
      refine ⟨l1, Nat.le_refl _, cap, hlc, Nat.le_refl _, fun hq => (hq rfl).elim, fun _ => rfl, ?_⟩
      rcases l2 with ⟨rfl, rfl⟩ | ⟨y, rfl, hy⟩
      · simp only [Instr.sliceBounds, Option.map_none, Sem.run_bind, Sem.run_pure, Result.andThen, Option.isSome_none]
      · simp only [Instr.sliceBounds, Option.map_none, Option.map_some, Sem.run_bind, Sem.run_pure, Result.andThen, Option.isSome_none, hy]
    · obtain ⟨m1, m2⟩ := bd_rv (P := P) hgl k hyh b2
      obtain ⟨l1, l2⟩ := low hh l b3
      refine ⟨l1, m1, cap, by omega, Nat.le_refl _, fun hq => (hq rfl).elim, fun _ => rfl, ?_⟩
      rcases l2 with ⟨rfl, rfl⟩ | ⟨y, rfl, hy⟩
      · simp only [Instr.sliceBounds, Option.map_none, Option.map_some, Sem.run_bind, Sem.run_pure, Result.andThen, m2 cap _ hlc, Option.isSome_none]
      · simp only [Instr.sliceBounds, Option.map_none, Option.map_some, Sem.run_bind, Sem.run_pure, Result.andThen, m2 cap _ hlc, Option.isSome_none, hy]
  · obtain ⟨m1, m2⟩ := bd_rv (P := P) hgl k hym b1
    rcases opt hi hi' h2 with ⟨rfl, rfl⟩ | ⟨yh, yh', rfl, rfl, hyh⟩
    · rcases hmh with hq | hq
      · cases hq
      · exact (hq rfl).elim
    · obtain ⟨n1, n2⟩ := bd_rv (P := P) hgl k hyh b2
      obtain ⟨l1, l2⟩ := low hh l b3
      refine ⟨l1, by omega, m, n1, by omega, fun _ => rfl, (fun hq => by cases hq), ?_⟩
      rcases l2 with ⟨rfl, rfl⟩ | ⟨y, rfl, hy⟩
      · simp only [Instr.sliceBounds, Option.map_some, Option.map_none, Sem.run_bind, Sem.run_pure, Result.andThen, m2 cap _ hlc, n2 m _ (Nat.le_refl _), Option.isSome_some]
      · simp only [Instr.sliceBounds, Option.map_some, Sem.run_bind, Sem.run_pure, Result.andThen, m2 cap _ hlc, n2 m _ (Nat.le_refl _), Option.isSome_some, hy]

theorem g_slice (k : Ok (N0 := N0) w0 g e a.tmps h w) {t : TypeId} {x : Operand} {lo hi mx : Option Operand} (ho : o.op = .slice t x lo hi mx) (hc : cOp P gl md o = some aop)
    (hs : step orc base draw aop e h = some (v, e', h')) : Gives N0 P w0 g a w (execOp a.eval o) v e' h' := by
  simp only [cOp, ho] at hc
  by_cases hmh0 : (mx.isSome && hi.isNone) = true
  · rw [if_pos hmh0] at hc; cases hc
  rw [if_neg hmh0] at hc
  have hmh : mx = none ∨ hi ≠ none := by
    cases mx with
    | none => exact .inl rfl
    | some y => cases hi with
      | none => simp at hmh0
      | some z => exact .inr (by simp)
  split at hc
  · -- a string
    rename_i hu
    simp only [Option.bind_eq_some_iff, Option.map_eq_some_iff] at hc
    obtain ⟨x', hx, lo', hlo, hi', hhi, mx', hmx, rfl⟩ := hc
    simp only [step, Option.bnd_eq_some_iff, Option.some.injEq, Prod.mk.injEq] at hs
    obtain ⟨p, hp, r, hr, rfl, rfl, rfl⟩ := hs
    have h1 := rv_ev hgl k hx hp
    generalize hA : a.eval x = A at h1
    cases h1 <;> simp only [sliceOf] at hr
    case str l s hl =>
      split at hr
      · cases hr
      · rename_i hq
        simp only [Option.bnd_eq_some_iff, Option.some.injEq] at hr
        obtain ⟨hh, b2, ll, b3, rfl⟩ := hr
        have hlen : l.length = s.size := by rw [← hl]; simp
        have hmx0 : mx' = none := by cases mx' <;> simp at hq ⊢
        subst hmx0
        have hm0 : mx = none := by
          cases mx with
          | none => rfl
          | some y => simp [cOpt] at hmx
        subst hm0
        obtain ⟨c1, c2, mc, c3, c4, c5, c6, c7⟩ := bounds_rv (P := P) (isS := false) hgl k (Nat.le_refl l.length) hlo hhi hmx hmh (m := l.length) rfl b2 b3
        rw [hlen] at c7
        refine gives_pure (u := .string (s.extract ll hh)) k ?_ (.str _ _ ?_)
        · simp only [execOp, ho, hA, Instr.sliceAt, Instr.slice, Sem.run_bind, run_underlying hu, Result.andThen, Option.map_none, Option.isSome_none, Bool.false_eq_true, if_false, Sem.run_pure]
          simp only [Option.map_none] at c7
          rw [c7]
        · rw [← hl]
          simp [List.take_drop, List.extract_eq_take_drop] 
    all_goals (simp at hr)
  · rename_i el hu
    simp only [Option.bind_eq_some_iff, Option.map_eq_some_iff] at hc
    obtain ⟨n, hn, x', hx, lo', hlo, hi', hhi, mx', hmx, rfl⟩ := hc
    simp only [step, Option.bnd_eq_some_iff, Option.some.injEq, Prod.mk.injEq] at hs
    obtain ⟨p, hp, r, hr, rfl, rfl, rfl⟩ := hs
    have h1 := rv_ev hgl k hx hp
    generalize hA : a.eval x = A at h1
    have hmxs : mx'.isSome = true → mx ≠ none := by
      intro hq hq2
      subst hq2
      simp [cOpt] at hmx
      subst hmx
      simp at hq
    have hmxn : mx'.isNone = true → mx = none := by
      intro hq
      cases mx with
      | none => rfl
      | some y =>
        simp only [cOpt, Option.map_eq_some_iff] at hmx
        obtain ⟨z, _, rfl⟩ := hmx
        simp at hq
    have run : ∀ (A0 : Option Addr) (len cap l hh mc : Nat), A = .slice A0 len cap → (Instr.sliceBounds true len cap (lo.map a.eval) (hi.map a.eval) (mx.map a.eval)).run P w = .ok (l, hh, mc) w →
        (execOp a.eval o).run P w = .ok (.value (.slice (if mc = l then A0 else A0.map (·.add (l * n))) (hh - l) (mc - l))) w := by
      rintro A0 len cap l hh mc rfl hb
      simp only [execOp, ho, hA, Instr.sliceAt, Instr.slice, Sem.run_bind, run_underlying hu, Result.andThen, Sem.run_pure, hb, run_sizeOf' hn]
    cases h1 <;> simp only [sliceOf] at hr
    case nils =>
      split at hr
      · simp only [Option.bnd_eq_some_iff, Option.some.injEq] at hr
        obtain ⟨m, b1, hh, b2, ll, b3, rfl⟩ := hr
        have hm0 : m = 0 := by
          cases mx' with
          | none => simp only [bd, Option.some.injEq] at b1; exact b1.symm
          | some y =>
            cases mx with
            | none => simp [cOpt] at hmx
            | some z => simp only [cOpt, Option.map_eq_some_iff] at hmx; obtain ⟨q, hq, hq2⟩ := hmx; cases hq2; have := (bd_rv (P := P) hgl k hq b1).1; omega
        subst hm0
        have hh0 : hh = 0 := by
          cases hi' with
          | none => simp only [bd, Option.some.injEq] at b2; exact b2.symm
          | some y =>
            cases hi with
            | none => simp [cOpt] at hhi
            | some z => simp only [cOpt, Option.map_eq_some_iff] at hhi; obtain ⟨q, hq, hq2⟩ := hhi; cases hq2; have := (bd_rv (P := P) hgl k hq b2).1; omega
        subst hh0
        obtain ⟨c1, c2, mc, c3, c4, c5, c6, c7⟩ := bounds_rv (P := P) (isS := true) hgl k (Nat.le_refl 0) hlo hhi hmx hmh b1 b2 b3
        refine gives_pure k (run none 0 0 ll 0 mc rfl c7) ?_
        obtain rfl : ll = 0 := by omega
        obtain rfl : mc = 0 := by omega
        exact .nils
      · cases hr
    case sl ow sz es c off cap u q1 q2 q3 q4 q5 q6 q7 q8 q9 =>
      split at hr
      · rename_i hsz
        simp only [Option.some.injEq] at hsz
        subst hsz
        simp only [Option.bnd_eq_some_iff, Option.some.injEq] at hr
        obtain ⟨m, b1, hh, b2, ll, b3, rfl⟩ := hr
        obtain ⟨c1, c2, mc, c3, c4, c5, c6, c7⟩ := bounds_rv (P := P) (isS := true) hgl k q1 hlo hhi hmx hmh b1 b2 b3
        refine gives_pure k (run _ _ _ ll hh mc rfl c7) ?_
        by_cases hes : es = []
        · subst hes
          simp only [List.length_nil] at *
          obtain rfl : ll = 0 := by omega
          obtain rfl : hh = 0 := by omega
          have hv : (Value.slice (if mc = 0 then some ⟨c, off, q7⟩ else Option.map (fun x : Addr => x.add (0 * n)) (some ⟨c, off, q7⟩)) (0 - 0) (mc - 0)) = Value.slice (some ⟨c, off, q7⟩) 0 mc := by simp [Addr.add]
          rw [hv]
          simp only [List.drop_nil, List.take_nil]
          refine RV.sl (N0 := N0) (g := g) (w := w) _ n [] c off mc (fun _ _ => Go.undef) (by simp) ?_ (by simp) (by simp) (by simp) (by simp) q7 (by simp) (by intro t ht; split at ht <;> (try split at ht) <;> cases ht)
          intro hfull
          split at hfull
          · rename_i hq
            simp only [Bool.and_eq_true, beq_iff_eq] at hq
            have := c5 (hmxs hq.1)
            simp; omega
          · split at hfull
            · rename_i hq
              simp only [Bool.and_eq_true, beq_iff_eq] at hq
              have h1 := c6 (hmxn hq.1.1)
              have h2 : cap = 0 := by
                apply q2
                cases ow <;> simp [isFull] at hq ⊢
              simp; omega
            · cases hfull
        obtain rfl := q8 hes
        have hlen : ((es.drop ll).take (hh - ll)).length = hh - ll := by simp; omega
        have hget : ∀ i e, ((es.drop ll).take (hh - ll))[i]? = some e → i < hh - ll ∧ es[ll + i]? = some e := by
          intro i e he
          have hi : i < hh - ll := by rw [← hlen]; exact (List.getElem?_eq_some_iff.1 he).1
          rw [List.getElem?_take, if_pos hi, List.getElem?_drop] at he
          exact ⟨hi, he⟩
        have hmk : ∀ off', (hh - ll = 0 ∨ off' = off + ll * n) → RV N0 g w (.sl (if mx'.isSome && m == hh then .full else if mx'.isNone && isFull ow && hh == es.length then .full else .no) n ((es.drop ll).take (hh - ll)))
            (.slice (some ⟨c, off', none⟩) (hh - ll) (mc - ll)) := by
          intro off' hoff
          have := RV.sl (N0 := N0) (g := g) (w := w) (if mx'.isSome && m == hh then .full else if mx'.isNone && isFull ow && hh == es.length then .full else .no) n
            ((es.drop ll).take (hh - ll)) c off' (mc - ll) (fun i j => u (ll + i) j) (by rw [hlen]; omega) ?_ (fun i e he => q3 _ _ (hget i e he).2) ?_ (fun i j e z he hz => q5 _ j e z (hget i e he).2 hz) ?_ none (fun _ => rfl) (by intro t ht; split at ht <;> (try split at ht) <;> cases ht)
          · rw [hlen] at this; exact this
          · intro hfull
            rw [hlen]
            split at hfull
            · rename_i hq
              simp only [Bool.and_eq_true, beq_iff_eq] at hq
              have := c5 (hmxs hq.1)
              omega
            · split at hfull
              · rename_i hq
                simp only [Bool.and_eq_true, beq_iff_eq] at hq
                have h1 := c6 (hmxn hq.1.1)
                have h2 : cap = es.length := by
                  apply q2
                  cases ow <;> simp [isFull] at hq ⊢
                omega
              · cases hfull
          · intro i j hi hj
            rw [hlen] at hi
            rcases hoff with hoff | hoff
            · omega
            · have := q4 (ll + i) j (by omega) hj
              rw [hoff, show off + ll * n + (i * n + j) = off + ((ll + i) * n + j) by rw [Nat.add_mul]; omega]
              exact this
          · intro hne
            have hpos : 0 < hh - ll := by
              rw [← hlen]
              exact List.length_pos_iff.2 hne
            have hoff' : off' = off + ll * n := hoff.resolve_left (by omega)
            rw [hlen, hoff']
            have hle : ll * n + (hh - ll) * n ≤ es.length * n := by rw [← Nat.add_mul]; exact Nat.mul_le_mul_right _ (by omega)
            rcases q6 (by rintro rfl; simp at c2; omega) with q6 | ⟨m', hm', hle'⟩
            · exact .inl q6
            · exact .inr ⟨m', hm', by omega⟩
        by_cases hml : mc = ll
        · rw [if_pos hml]
          exact hmk off (.inl (by omega))
        · rw [if_neg hml]
          simp only [Option.map_some, add_addr]
          exact hmk _ (.inr rfl)
      · cases hr
    case bsl fl b off len sz cap hb hl hfl =>
      split at hr
      · rename_i hsz
        simp only [Option.some.injEq] at hsz
        subst hsz
        simp only [Option.bnd_eq_some_iff] at hr
        obtain ⟨m, b1, hh, b2, ll, b3, hr⟩ := hr
        obtain ⟨c1, c2, mc, c3, c4, c5, c6, c7⟩ := bounds_rv (P := P) (isS := true) hgl k hl hlo hhi hmx hmh b1 b2 b3
        by_cases h0 : hh - ll = 0
        · rw [if_pos h0] at hr
          simp only [Option.some.injEq] at hr
          subst hr
          refine gives_pure k (run _ _ _ ll hh mc rfl c7) ?_
          have hmk : ∀ off', RV N0 g w (.sl (if mx'.isSome && m == hh then .full else .no) n []) (.slice (some ⟨g.ι b, off', none⟩) 0 (mc - ll)) := by
            intro off'
            refine RV.sl (N0 := N0) (g := g) (w := w) _ n [] (g.ι b) off' (mc - ll) (fun _ _ => Go.undef) (by simp) ?_ (by simp) (by simp) (by simp) (by simp) none (fun _ => rfl) (by intro t ht; split at ht <;> cases ht)
            intro hfull
            split at hfull
            · rename_i hq
              simp only [Bool.and_eq_true, beq_iff_eq] at hq
              have := c5 (hmxs hq.1)
              simp
              omega
            · cases hfull
          rw [h0]
          by_cases hml : mc = ll
          · rw [if_pos hml]; exact hmk off
          · rw [if_neg hml]; simp only [Option.map_some, add_addr]; exact hmk _
        · rw [if_neg h0] at hr
          simp only [Option.some.injEq] at hr
          subst hr
          refine gives_pure k (run _ _ _ ll hh mc rfl c7) ?_
          rw [if_neg (show ¬ mc = ll by omega)]
          simp only [Option.map_some, add_addr]
          refine .bsl _ b _ _ n _ hb (by omega) fun hfull => ?_
          split at hfull
          · rename_i hq
            simp only [Bool.and_eq_true, beq_iff_eq] at hq
            have := c5 (hmxs hq.1)
            omega
          · simp only [Bool.and_eq_true, beq_iff_eq] at hfull
            have h1 := c6 (hmxn hfull.1.1)
            have h2 := hfl hfull.1.2
            omega
      · cases hr
    all_goals first | cases hr | (simp at hr)
  · cases hc
end
end Go.Am
