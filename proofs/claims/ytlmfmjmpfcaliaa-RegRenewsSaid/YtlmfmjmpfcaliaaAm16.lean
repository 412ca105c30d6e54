/- 'Am': the operations together; regions, code, calls.
   By the session's AI agent. -/
import Derived.Test.YtlmfmjmpfcaliaaAm14
import Derived.Test.YtlmfmjmpfcaliaaAm15
import Derived.Orders
namespace Go.Am
open Go.RowKit (Below)
set_option linter.unusedVariables false
set_option linter.unusedSimpArgs false

section
variable {N0 : Nat} {P : Program} {w0 : World} {g : G} {e : Env} {a : Act} {h : Hp} {w : World}
variable {o : Oper} {box : Bool} {orc : Orc} {base : Nat} {draw : Bool} {aop : AOp} {v : PV} {e' : Env} {h' : Hp}

theorem g_toInt (k : Ok (N0 := N0) w0 g e a.tmps h w) {s d : TypeId} {x : Operand} {j kk : IntKind} (ho : o.op = .convert s d x) (hs0 : P.underlying s = some (.int j)) (hd : P.underlying d = some (.int kk)) {x' : Opnd} (hx : cOpnd x = some x')
    (hs : step orc base draw (.toInt kk x') e h = some (v, e', h')) : Gives N0 P w0 g a w (execOp a.eval o) v e' h' := by
  simp only [step, Option.bnd_eq_some_iff] at hs
  obtain ⟨p, hp, hs⟩ := hs
  have h1 := rv_ev k hx hp
  generalize hA : a.eval x = A at h1
  cases h1 <;> (try simp only at hs) <;> (try cases hs)
  rename_i q n
  refine gives_pure k ?_ (.int _ _)
  have hrun : (convert s d (.int q n)).run P w = .ok (.int kk (kk.wrap n)) w := by
    simp only [convert, Sem.run_bind, run_underlying hs0, run_underlying hd, Result.andThen, Conv.intToInt, Sem.run_pure]
  simp only [execOp, ho, hA, Sem.run_bind, hrun, Result.andThen, Sem.run_pure]

theorem g_all (k : Ok (N0 := N0) w0 g e a.tmps h w) (hc : cOp P box o = some aop) (hn : isCall aop = false)
    (hs : step orc base draw aop e h = some (v, e', h')) : Gives N0 P w0 g a w (execOp a.eval o) v e' h' := by
  cases ho : o.op with
  | move x => exact g_mov k (.inl ho) hc hs
  | assign x => exact g_mov k (.inr ho) hc hs
  | pick c x y => exact g_pick k ho hc hs
  | alloc t => exact g_alloc k ho hc hs
  | box t x => exact g_box k ho hc hs
  | build t ps => exact g_build k ho hc hs
  | buildSlice t l ps => exact g_buildSl k ho hc hs
  | load t x => exact g_load k ho hc hs
  | store t x y => exact g_store k ho hc hs
  | nilCheck x => exact g_nilck k ho hc hs
  | binOp op t x y t' =>
    simp only [cOp, ho] at hc
    split at hc
    · simp only [Option.bind_eq_some_iff, Option.map_eq_some_iff] at hc
      obtain ⟨x', hx, y', hy, rfl⟩ := hc
      exact g_bin k ho ⟨x', y', hx, hy, rfl⟩ hs
    · simp only [Option.bind_eq_some_iff, Option.map_eq_some_iff] at hc
      obtain ⟨x', hx, y', hy, rfl⟩ := hc
      exact g_bin k ho ⟨x', y', hx, hy, rfl⟩ hs
    · rename_i hu
      split at hc
      · rename_i hop
        simp only [Option.bind_eq_some_iff, Option.map_eq_some_iff] at hc
        obtain ⟨x', hx, y', hy, rfl⟩ := hc
        exact g_binB k ho hu hop ⟨x', y', hx, hy, rfl⟩ hs
      · cases hc
    · rename_i d hu _ _ _
      split at hc
      · rename_i hop
        simp only [Option.bind_eq_some_iff] at hc
        obtain ⟨kd, hkd, hc⟩ := hc
        split at hc
        · rename_i hny
          simp only [Option.map_eq_some_iff] at hc
          obtain ⟨x', hx, rfl⟩ := hc
          exact g_isnil k ho ‹P.underlying t = some _› hop hkd (.inl ⟨hny, x', hx, rfl⟩) hs
        · split at hc
          · rename_i hnx
            simp only [Option.map_eq_some_iff] at hc
            obtain ⟨y', hy, rfl⟩ := hc
            exact g_isnil k ho ‹P.underlying t = some _› hop hkd (.inr ⟨hnx, y', hy, rfl⟩) hs
          · cases hc
      · cases hc
    · cases hc
  | unOp op t x => exact g_un k ho hc hs
  | convert s d x =>
    simp only [cOp, ho] at hc
    split at hc
    · simp only [Option.map_eq_some_iff] at hc
      obtain ⟨x', hx, rfl⟩ := hc
      exact g_toInt k ho ‹P.underlying s = _› ‹P.underlying d = _› hx hs
    · simp only [Option.map_eq_some_iff] at hc
      obtain ⟨x', hx, rfl⟩ := hc
      have hus := ‹P.underlying s = _›
      have hud := ‹P.underlying d = _›
      simp only [step, Option.bnd_eq_some_iff, Option.some.injEq, Prod.mk.injEq] at hs
      obtain ⟨p, hp, r, hr, rfl, rfl, rfl⟩ := hs
      have h1 := rv_ev k hx hp
      generalize hA : a.eval x = A at h1
      cases h1 <;> simp only [sliceOf] at hr
      case str l q hl =>
        simp [bd, Option.bnd] at hr
        subst hr
        refine gives_pure k ?_ (.str _ _ hl)
        have hrun : (convert s d (.string q)).run P w = .ok (.string q) w := by
          simp only [convert, Sem.run_bind, run_underlying hus, run_underlying hud, Result.andThen, Sem.run_pure]
        simp only [execOp, ho, hA, Sem.run_bind, hrun, Result.andThen, Sem.run_pure]
      all_goals (simp at hr)
    · cases hc
  | makeInterface t x => exact g_mkif k ho hc hs
  | slice t x lo hi mx => exact g_slice k ho hc hs
  | fieldAddr t x f => exact g_fieldA k ho hc hs
  | field t x f => exact g_field k ho hc hs
  | indexAddr t x y => exact g_idxA k ho hc hs
  | index t x y => exact g_idx k ho hc hs
  | extract x i => exact g_extract k ho hc hs
  | call c =>
    have hc' : cCall P box c o.type = some aop := by simpa only [cOp, ho] using hc
    cases hcal : c.callee with
    | value f =>
      simp only [cCall, hcal] at hc'
      cases f <;> simp only at hc' <;> (try cases hc')
      all_goals
        simp only [Option.map_eq_some_iff] at hc'
        obtain ⟨xs, _, rfl⟩ := hc'
        simp [isCall] at hn
    | invoke r m => simp only [cCall, hcal] at hc'; cases hc'
    | builtin b =>
      cases b <;> (try (simp only [cCall, hcal] at hc'; cases hc'; done))
      case len => exact g_len k ho hcal hc' hs
      case max =>
        simp only [cCall, hcal, Option.map_eq_some_iff] at hc'
        obtain ⟨xs, hxs, rfl⟩ := hc'
        exact g_minmax (mx := true) k ho hcal ⟨xs, hxs, rfl⟩ hs
      case min =>
        simp only [cCall, hcal, Option.map_eq_some_iff] at hc'
        obtain ⟨xs, hxs, rfl⟩ := hc'
        exact g_minmax (mx := false) k ho hcal ⟨xs, hxs, rfl⟩ hs
      case append =>
        simp only [cCall, hcal] at hc'
        split at hc'
        · rename_i s x t u hax hat
          have hargs : c.args = #[s, x] := by rw [← Array.toList_inj, hax]
          have htys : c.argTypes = #[t, u] := by rw [← Array.toList_inj, hat]
          have fin : ∀ el, P.underlying t = some (.slice el) → (P.underlying u = some .string ∨ ∃ el', P.underlying u = some (.slice el')) →
              ((sizeOf P el).bind fun sz => if (smallBytes P el && sz != 0 && (zeroOf P el).isSome) = true then (cOpnd x).bind fun x' => (cOpnd s).map fun s' => if box = true then AOp.appendBox sz s' x' else AOp.append sz s' x' else none) = some aop →
              Gives N0 P w0 g a w (execOp a.eval o) v e' h' := by
            intro el ht hu hq
            simp only [Option.bind_eq_some_iff] at hq
            obtain ⟨sz, hsz, hq⟩ := hq
            split at hq
            · rename_i hcond
              simp only [Bool.and_eq_true, bne_iff_ne, ne_eq] at hcond
              obtain ⟨⟨hsm, hpos⟩, hz⟩ := hcond
              obtain ⟨z, hz⟩ := Option.isSome_iff_exists.1 hz
              simp only [Option.bind_eq_some_iff, Option.map_eq_some_iff] at hq
              obtain ⟨x', hx, s', hs', rfl⟩ := hq
              cases box with
              | true => exact g_appendBox k ho hcal hargs htys ht hu hsz hsm hpos hz hs' hx hs
              | false => exact g_append k ho hcal hargs htys ht hu hsz hsm hpos hz hs' hx hs
            · cases hq
          split at hc'
          · exact fin _ ‹P.underlying t = _› (.inr ⟨_, ‹P.underlying u = _›⟩) hc'
          · exact fin _ ‹P.underlying t = _› (.inl ‹P.underlying u = _›) hc'
          · cases hc'
        · cases hc'
  | _ => simp only [cOp, ho] at hc; cases hc
end
end Go.Am
