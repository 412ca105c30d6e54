/- 'Am': the operations together; regions, code, calls.
   By the session's AI agent. -/
import Derived.Test.YthhceeaconflnaaDoorAm14
import Derived.Test.YthhceeaconflnaaDoorAm15
import Derived.Test.YthhceeaconflnaaDoorAm23
import Derived.Orders
namespace Go.Am
open Go.RowKit (Below)
set_option linter.unusedVariables false
set_option linter.unusedSimpArgs false
set_option linter.unusedSectionVars false

section
variable {N0 : Nat} {P : Program} {w0 : World} {g : G} {e : Env} {a : Act} {h : Hp} {w : World}
variable {o : Oper} {md : Nat} {orc : Orc} {base : Nat} {draw : Bool} {aop : AOp} {v : PV} {e' : Env} {h' : Hp} {gl : Globs} (hgl : GlobOk gl N0 w0)
include hgl

theorem g_toInt (k : Ok (N0 := N0) w0 g e a.tmps h w) {s d : TypeId} {x : Operand} {j kk : IntKind} (ho : o.op = .convert s d x) (hs0 : P.underlying s = some (.int j)) (hd : P.underlying d = some (.int kk)) {x' : Opnd} (hx : cOpnd gl x = some x')
    (hs : step orc base draw (.toInt kk x') e h = some (v, e', h')) : Gives N0 P w0 g a w (execOp a.eval o) v e' h' := by
  simp only [step, Option.bnd_eq_some_iff] at hs
  obtain ⟨p, hp, hs⟩ := hs
  have h1 := rv_ev hgl k hx hp
  generalize hA : a.eval x = A at h1
  cases h1 <;> (try simp only at hs) <;> (try cases hs)
  rename_i q n
  refine gives_pure k ?_ (.int _ _)
  have hrun : (convert s d (.int q n)).run P w = .ok (.int kk (kk.wrap n)) w := by
    simp only [convert, Sem.run_bind, run_underlying hs0, run_underlying hd, Result.andThen, Conv.intToInt, Sem.run_pure]
  simp only [execOp, ho, hA, Sem.run_bind, hrun, Result.andThen, Sem.run_pure]

theorem g_all (k : Ok (N0 := N0) w0 g e a.tmps h w) (hc : cOp P gl md o = some aop) (hn : isCall aop = false)
    (hs : step orc base draw aop e h = some (v, e', h')) : Gives N0 P w0 g a w (execOp a.eval o) v e' h' := by
  cases ho : o.op with
  | move x => exact g_mov hgl k (.inl ho) hc hs
  | assign x => exact g_mov hgl k (.inr ho) hc hs
  | pick c x y => exact g_pick hgl k ho hc hs
  | alloc t => exact g_alloc hgl k ho hc hs
  | box t x => exact g_box hgl k ho hc hs
  | build t ps => exact g_build hgl k ho hc hs
  | buildSlice t l ps => exact g_buildSl hgl k ho hc hs
  | load t x => exact g_load hgl k ho hc hs
  | store t x y => exact g_store hgl k ho hc hs
  | nilCheck x => exact g_nilck hgl k ho hc hs
  | binOp op t x y t' =>
    simp only [cOp, ho] at hc
    split at hc
    · simp only [Option.bind_eq_some_iff, Option.map_eq_some_iff] at hc
      obtain ⟨x', hx, y', hy, rfl⟩ := hc
      exact g_bin hgl k ho ⟨x', y', hx, hy, rfl⟩ hs
    · simp only [Option.bind_eq_some_iff, Option.map_eq_some_iff] at hc
      obtain ⟨x', hx, y', hy, rfl⟩ := hc
      exact g_bin hgl k ho ⟨x', y', hx, hy, rfl⟩ hs
    · rename_i hu
      split at hc
      · rename_i hop
        simp only [Bool.and_eq_true, Bool.not_eq_true'] at hop
        simp only [Option.bind_eq_some_iff, Option.map_eq_some_iff] at hc
        obtain ⟨ks, hks, x', hx, y', hy, rfl⟩ := hc
        exact g_eqv hgl k ho hu hop.1.1 hop.1.2 hop.2 hks hx hy hs
      · cases hc
    · rename_i hu
      split at hc
      · rename_i hop
        simp only [Option.bind_eq_some_iff, Option.map_eq_some_iff] at hc
        obtain ⟨x', hx, y', hy, rfl⟩ := hc
        exact g_binB hgl k ho hu hop ⟨x', y', hx, hy, rfl⟩ hs
      · cases hc
    · rename_i d hu _ _ _ _
      split at hc
      · rename_i hop
        simp only [Option.bind_eq_some_iff] at hc
        obtain ⟨kd, hkd, hc⟩ := hc
        split at hc
        · rename_i hny
          simp only [Option.map_eq_some_iff] at hc
          obtain ⟨x', hx, rfl⟩ := hc
          exact g_isnil hgl k ho ‹P.underlying t = some _› hop hkd (.inl ⟨hny, x', hx, rfl⟩) hs
        · split at hc
          · rename_i hnx
            simp only [Option.map_eq_some_iff] at hc
            obtain ⟨y', hy, rfl⟩ := hc
            exact g_isnil hgl k ho ‹P.underlying t = some _› hop hkd (.inr ⟨hnx, y', hy, rfl⟩) hs
          · cases hc
      · cases hc
    · cases hc
  | unOp op t x => exact g_un hgl k ho hc hs
  | convert s d x =>
    simp only [cOp, ho] at hc
    split at hc
    · simp only [Option.map_eq_some_iff] at hc
      obtain ⟨x', hx, rfl⟩ := hc
      exact g_toInt hgl k ho ‹P.underlying s = _› ‹P.underlying d = _› hx hs
    · simp only [Option.map_eq_some_iff] at hc
      obtain ⟨x', hx, rfl⟩ := hc
      have hus := ‹P.underlying s = _›
      have hud := ‹P.underlying d = _›
      simp only [step, Option.bnd_eq_some_iff, Option.some.injEq, Prod.mk.injEq] at hs
      obtain ⟨p, hp, r, hr, rfl, rfl, rfl⟩ := hs
      have h1 := rv_ev hgl k hx hp
      generalize hA : a.eval x = A at h1
      cases h1 <;> simp only [sliceOf] at hr
      case str l q hl =>
        simp [bd, Option.bnd] at hr
        subst hr
        refine gives_pure k ?_ (.str _ _ hl)
        have hrun : (convert s d (.string q)).run P w = .ok (.string q) w := by
          simp only [convert, Sem.run_bind, run_underlying hus, run_underlying hud, Result.andThen, Sem.run_pure]
        simp only [execOp, ho, hA, Sem.run_bind, hrun, Result.andThen, Sem.run_pure]
      all_goals (simp at hr)
    · split at hc
      · simp only [Option.map_eq_some_iff] at hc
        obtain ⟨x', hx, rfl⟩ := hc
        exact g_strBytes hgl k ho ‹P.underlying s = _› ‹P.underlying d = _› ‹P.underlying _ = some (.int .u8)› hx hs
      · cases hc
    · split at hc
      · simp only [Option.map_eq_some_iff] at hc
        obtain ⟨x', hx, rfl⟩ := hc
        exact g_bytesStr hgl k ho ‹P.underlying s = _› ‹P.underlying _ = some (.int .u8)› ‹P.underlying d = _› hx hs
      · cases hc
    · cases hc
  | makeFunc f first cap =>
    cases f <;> simp only [cOp, ho] at hc <;> (try cases hc)
    split at hc
    · rename_i hf
      simp only [Option.map_eq_some_iff] at hc
      obtain ⟨xs, hxs, rfl⟩ := hc
      exact g_mkfn hgl k ho hf hxs hs
    · cases hc
  | makeSlice t len cap =>
    simp only [cOp, ho] at hc
    split at hc
    · rename_i el hu
      simp only [Option.bind_eq_some_iff] at hc
      obtain ⟨nn, hnn, gg, hg, z, hz, hc⟩ := hc
      split at hc
      · rename_i hcond
        simp only [Bool.and_eq_true, bne_iff_ne, ne_eq, beq_iff_eq] at hcond
        obtain ⟨⟨⟨⟨hsm, hn0⟩, hzl⟩, hzs⟩, hg1⟩ := hcond
        simp only [Option.bind_eq_some_iff, Option.map_eq_some_iff] at hc
        obtain ⟨l', hl, c', hcc, rfl⟩ := hc
        exact g_makeSl hgl k ho hu hnn hsm hn0 hz hzl hl hcc hs
      · cases hc
    · cases hc
  | range t x =>
    simp only [cOp, ho] at hc
    split at hc
    · simp only [Option.map_eq_some_iff] at hc
      obtain ⟨x', hx, rfl⟩ := hc
      exact g_range hgl k ho ‹_› hx hs
    · cases hc
  | next x b =>
    simp only [cOp, ho] at hc
    split at hc
    · rename_i hb
      subst hb
      simp only [Option.map_eq_some_iff] at hc
      obtain ⟨x', hx, rfl⟩ := hc
      exact g_next hgl k ho hx hs
    · cases hc
  | typeAssert x xt t ok =>
    simp only [cOp, ho] at hc
    split at hc
    · cases hc
    · rename_i d hd hu
      simp only [Option.bind_eq_some_iff, Option.map_eq_some_iff] at hc
      obtain ⟨z, hz, x', hx, rfl⟩ := hc
      exact g_tassert hgl k ho hu (fun ms hq => by subst hq; exact hd _ rfl) hz hx hs
    · cases hc
  | makeInterface t x => exact g_mkif hgl k ho hc hs
  | slice t x lo hi mx => exact g_slice hgl k ho hc hs
  | fieldAddr t x f => exact g_fieldA hgl k ho hc hs
  | field t x f => exact g_field hgl k ho hc hs
  | indexAddr t x y => exact g_idxA hgl k ho hc hs
  | index t x y => exact g_idx hgl k ho hc hs
  | extract x i => exact g_extract hgl k ho hc hs
  | call c =>
    have hc' : cCall P gl md c o.type = some aop := by simpa only [cOp, ho] using hc
    cases hcal : c.callee with
    | value f =>
      simp only [cCall, hcal] at hc'
      cases f <;> simp only at hc' <;> (try cases hc')
      all_goals
        simp only [Option.map_eq_some_iff] at hc'
        obtain ⟨xs, _, rfl⟩ := hc'
        simp [isCall] at hn
    | invoke r m => simp only [cCall, hcal] at hc'; cases hc'
    | builtin b =>
      cases b <;> (try (simp only [cCall, hcal] at hc'; cases hc'; done))
      case len => exact g_len hgl k ho hcal hc' hs
      case max =>
        simp only [cCall, hcal, Option.map_eq_some_iff] at hc'
        obtain ⟨xs, hxs, rfl⟩ := hc'
        exact g_minmax (mx := true) hgl k ho hcal ⟨xs, hxs, rfl⟩ hs
      case min =>
        simp only [cCall, hcal, Option.map_eq_some_iff] at hc'
        obtain ⟨xs, hxs, rfl⟩ := hc'
        exact g_minmax (mx := false) hgl k ho hcal ⟨xs, hxs, rfl⟩ hs
      case append =>
        simp only [cCall, hcal] at hc'
        split at hc'
        · rename_i s x t u hax hat
          have hargs : c.args = #[s, x] := by rw [← Array.toList_inj, hax]
          have htys : c.argTypes = #[t, u] := by rw [← Array.toList_inj, hat]
          have fin : ∀ el, P.underlying t = some (.slice el) → (P.underlying u = some .string ∨ ∃ el', P.underlying u = some (.slice el')) →
              ((sizeOf P el).bind fun sz => if (smallBytes P el && sz != 0 && (zeroOf P el).any (fun z => z.length == sz)) = true then (cOpnd gl x).bind fun x' => (cOpnd gl s).map fun s' => if md = 1 then AOp.appendBox sz s' x' else if md = 2 then AOp.append sz s' x' else AOp.appendT el sz s' x' else none) = some aop →
              Gives N0 P w0 g a w (execOp a.eval o) v e' h' := by
            intro el ht hu hq
            simp only [Option.bind_eq_some_iff] at hq
            obtain ⟨sz, hsz, hq⟩ := hq
            split at hq
            · rename_i hcond
              simp only [Bool.and_eq_true, bne_iff_ne, ne_eq] at hcond
              obtain ⟨⟨hsm, hpos⟩, hz⟩ := hcond
              obtain ⟨z, hz, hzl⟩ : ∃ z, zeroOf P el = some z ∧ z.length = sz := by
                cases hq0 : zeroOf P el with
                | none => rw [hq0] at hz; simp at hz
                | some z => rw [hq0] at hz; simp at hz; exact ⟨z, rfl, hz⟩
              simp only [Option.bind_eq_some_iff, Option.map_eq_some_iff] at hq
              obtain ⟨x', hx, s', hs', rfl⟩ := hq
              by_cases h1 : md = 1
              · rw [if_pos h1] at hs
                exact g_appendBox hgl k ho hcal hargs htys ht hu hsz hsm hpos hz hs' hx hs
              · rw [if_neg h1] at hs
                by_cases h2 : md = 2
                · rw [if_pos h2] at hs
                  exact g_append hgl k ho hcal hargs htys ht hu hsz hsm hpos hz hzl hs' hx hs
                · rw [if_neg h2] at hs
                  exact g_appendT hgl k ho hcal hargs htys ht hu hsz hsm hpos hz hzl hs' hx hs
            · cases hq
          split at hc'
          · exact fin _ ‹P.underlying t = _› (.inr ⟨_, ‹P.underlying u = _›⟩) hc'
          · exact fin _ ‹P.underlying t = _› (.inl ‹P.underlying u = _›) hc'
          · cases hc'
        · cases hc'
  | _ => simp only [cOp, ho] at hc; cases hc
end
end Go.Am
