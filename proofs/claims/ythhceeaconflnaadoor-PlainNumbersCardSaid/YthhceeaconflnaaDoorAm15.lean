/- 'Am': the operations, one by one (seventh part): the others.
   By the session's AI agent. -/
import Derived.Test.YthhceeaconflnaaDoorAm12
namespace Go.Am
open Go.RowKit (Below)
set_option linter.unusedVariables false
set_option linter.unusedSimpArgs false
set_option linter.unusedSectionVars false

section
variable {N0 : Nat} {P : Program} {w0 : World} {g : G} {e : Env} {a : Act} {h : Hp} {w : World}
variable {o : Oper} {md : Nat} {orc : Orc} {base : Nat} {draw : Bool} {aop : AOp} {v : PV} {e' : Env} {h' : Hp} {gl : Globs} (hgl : GlobOk gl N0 w0)
include hgl

omit hgl in
theorem ext_drew (g : G) (w : World) : Ext N0 g w g w.drew := ⟨Nat.le_refl _, fun _ _ => rfl, fun c m h => ⟨m, h, Nat.le_refl _⟩, fun _ _ _ _ _ => rfl, fun _ _ _ => rfl, fun _ _ => ⟨Nat.le_refl _, fun _ => rfl⟩⟩

omit hgl in
theorem ok_drew (k : Ok (N0 := N0) w0 g e a.tmps h w) : Ok (N0 := N0) w0 g e a.tmps h w.drew :=
  k.world (ext_drew g w) rfl ((Below.refl _ _).drew) (fun _ _ _ => ⟨rfl, rfl⟩) (fun _ _ => rfl) k.arr

theorem g_appendBox (k : Ok (N0 := N0) w0 g e a.tmps h w) {c : Go.Call} (ho : o.op = .call c) (hb : c.callee = .builtin .append) {s x : Operand} {t u el : TypeId} (hargs : c.args = #[s, x]) (htys : c.argTypes = #[t, u])
    (ht : P.underlying t = some (.slice el)) (hu : P.underlying u = some .string ∨ ∃ el', P.underlying u = some (.slice el')) {sz : Nat} (hsz : sizeOf P el = some sz) (hsm : smallBytes P el = true) (hpos : sz ≠ 0) {z : List PV} (hz : zeroOf P el = some z)
    {s' x' : Opnd} (hs' : cOpnd gl s = some s') (hx' : cOpnd gl x = some x')
    (hs : step orc base draw (.appendBox sz s' x') e h = some (v, e', h')) : Gives N0 P w0 g a w (execOp a.eval o) v e' h' := by
  simp only [step, Option.bnd_eq_some_iff] at hs
  obtain ⟨p, hp, q, hq, xs, hxs, hs⟩ := hs
  obtain ⟨i, zv, hi, hiz, hzsz, _⟩ := rv_zero (N0 := N0) hz
  have hisz : i.size = sz := by simp only [sizeOf, Option.map_eq_some_iff] at hsz; obtain ⟨i', e1, e2⟩ := hsz; rw [hi] at e1; cases e1; exact e2
  have hbytes : i.bytes ≤ 4096 := by simp only [smallBytes, hi, decide_eq_true_eq] at hsm; exact hsm
  split at hs
  · rename_i hall
    obtain ⟨hs1, hall, hx0, hlim, hscal⟩ := hall
    obtain ⟨h1, hlen, ⟨news, hnew, hold2⟩, hrun⟩ := append_args hgl k ho hb hargs htys hpos hs' hx' hp hq hxs hall
    unfold lim2 at hlim
    have some_ : ∀ (b : Option Addr), a.eval s = .slice b 0 0 → Gives N0 P w0 g a w (execOp a.eval o) (.bsl false (size h) 0 xs.length sz) e (ext h [.cells xs]) := by
      intro b hA
      have hfit : Builtin.nextslicecap (0 + xs.length) 0 * i.bytes ≤ 281474976710656 := by
        apply growslice_fits (by omega)
        have : (0 + xs.length) * i.bytes ≤ 17179869184 * 4096 := Nat.mul_le_mul (by omega) hbytes
        omega
      have hr := append_grow (ty := o.type) ht hu hi hiz b 0 0 (a.eval x) xs.length (by omega) hlen #[] news (fun w1 _ => by cases b <;> simp [Builtin.firstCells, loadCells, loadCellsFrom]) (by rw [hisz]; exact hnew) (by omega) hfit
      let us : Array Value := #[] ++ news ++ Builtin.zeroCells zv.cells (grownCap w (0 + xs.length) 0 el - (0 + xs.length))
      have hcap : 0 + xs.length ≤ grownCap w (0 + xs.length) 0 el := grown_le _ _ _ _
      have e2 := hold2.1
      rw [hs1, Nat.mul_one] at e2
      obtain ⟨g', hx1, hok, hn, hι⟩ := ok_alloc k us el xs (by simp only [us, Array.size_append, e2]; simp) (fun j y hc0 => by
        have hj : j < xs.length := (List.getElem?_eq_some_iff.1 hc0).1
        have hval : us.getD j Go.undef = news.getD j Go.undef := by
          simp only [us, Array.getD_eq_getD_getElem?]
          rw [Array.append_assoc, Array.getElem?_append_right (by simp), Array.getElem?_append_left (by simp [e2]; exact hj)]
          simp
        rw [hval]
        have hcell : y.cells = [y] := elem_of_scalar (List.all_eq_true.1 hscal y (List.mem_of_getElem? hc0))
        have := hold2.2.2 j 0 y y hc0 (by rw [hcell]; rfl)
        rw [hs1, Nat.mul_one, Nat.add_zero] at this
        exact this) (fun T' hT => (nb_scalar hscal 0 T' hT).elim) (lo := 0) (hi := 0) (by simp) (.inr rfl)
      refine ⟨_, .slice (some ⟨w.heap.size, 0, none⟩) (0 + xs.length) (grownCap w (0 + xs.length) 0 el), _, g', ?_, .inl rfl, hx1, hok, ?_⟩
      · exact hrun _ _ (by rw [hA]; exact hr)
      · rw [Nat.zero_add] at hcap ⊢
        have := RV.bsl (N0 := N0) (g := g') (w := w.drew.alloc (.cells us el)) false (size h) 0 xs.length sz (grownCap w xs.length 0 el) (by omega) hcap (by simp)
        rw [hι] at this
        exact this
    generalize hA : a.eval s = A at h1 some_
    cases h1 <;> (try simp only at hs) <;> (try cases hs)
    case isTrue.nils.refl => exact some_ none rfl
    case isTrue.sl ow sz' es c' o' cap uu q1 q2 q3 q4 q5 q6 q7 q8 q9 =>
      cases ow <;> cases es <;> (try simp only at hs) <;> (try cases hs)
      have := q2 rfl
      simp at this
      subst this
      exact some_ _ rfl
  · cases hs

theorem g_mkif (k : Ok (N0 := N0) w0 g e a.tmps h w) {t : TypeId} {x : Operand} (ho : o.op = .makeInterface t x) (hc : cOp P gl md o = some aop)
    (hs : step orc base draw aop e h = some (v, e', h')) : Gives N0 P w0 g a w (execOp a.eval o) v e' h' := by
  simp only [cOp, ho] at hc
  split at hc
  · cases hc
  · rename_i d hd hu
    simp only [Option.map_eq_some_iff] at hc
    obtain ⟨x', hx, rfl⟩ := hc
    simp only [step, Option.bnd_eq_some_iff, Option.some.injEq, Prod.mk.injEq] at hs
    obtain ⟨p, hp, rfl, rfl, rfl⟩ := hs
    refine gives_pure k ?_ (.iface t _ _ ((rv_ev hgl k hx hp)))
    have hrun : (Instr.makeInterface t (a.eval x)).run P w = .ok (.iface t (a.eval x)) w := by
      unfold Instr.makeInterface
      simp only [Sem.run_bind, run_underlying hu, Result.andThen]
      cases d <;> first | rfl | exact (hd _ rfl).elim
    simp only [execOp, ho, Sem.run_bind, hrun, Result.andThen, Sem.run_pure]
  · cases hc

omit hgl in
theorem run_part {t : TypeId} {n : Nat} {gg : Bool} (hn : sizeOf P t = some n) (hg : aggOf P t = some gg) {us : Array Value} {cs : List PV} (hs : us.size = cs.length) (hr : ∀ (j : Nat) (x : PV), cs[j]? = some x → RV N0 g w x (us.getD j Go.undef))
    {off : Nat} {r : PV} (hp : part cs off n gg = some r) : ∃ u, (Go.part t us off).run P w = .ok u w ∧ RV N0 g w r u := by
  unfold Go.part
  simp only [Sem.run_bind, run_isAgg' hg, Result.andThen]
  cases gg with
  | true =>
    simp only [part, if_true] at hp ⊢
    split at hp
    · rename_i hle
      simp only [Option.some.injEq] at hp
      subst hp
      refine ⟨.agg (us.extract off (off + n)), by simp only [Sem.run_bind, run_sizeOf' hn, Result.andThen, Sem.run_pure], .agg _ _ (by simp; omega) fun j x hx => ?_⟩
      have hy := hx
      have hj : j < n := by
        rcases Nat.lt_or_ge j n with h' | h'
        · exact h'
        · rw [List.getElem?_eq_none (by simp; omega)] at hy; cases hy
      rw [List.getElem?_take, if_pos hj, List.getElem?_drop] at hy
      have := hr _ _ hy
      have e1 : (us.extract off (off + n)).getD j Go.undef = us.getD (off + j) Go.undef := by
        simp only [Array.getD_eq_getD_getElem?, Array.getElem?_extract]
        rw [if_pos (by omega)]
      rw [e1]; exact this
    · cases hp
  | false =>
    simp only [part, Bool.false_eq_true, if_false] at hp ⊢
    have hy := hp
    have hlt : off < us.size := by rw [hs]; exact (List.getElem?_eq_some_iff.1 hy).1
    have e1 : us[off]? = some (us.getD off Go.undef) := by simp [Array.getD_eq_getD_getElem?, hlt]
    exact ⟨us.getD off Go.undef, by rw [e1]; rfl, hr _ _ hy⟩

theorem g_field (k : Ok (N0 := N0) w0 g e a.tmps h w) {t : TypeId} {x : Operand} {f : Nat} (ho : o.op = .field t x f) (hc : cOp P gl md o = some aop)
    (hs : step orc base draw aop e h = some (v, e', h')) : Gives N0 P w0 g a w (execOp a.eval o) v e' h' := by
  simp only [cOp, ho] at hc
  split at hc
  · rename_i fs hu
    simp only [Option.bind_eq_some_iff, Option.map_eq_some_iff] at hc
    obtain ⟨fd, hfd, n, hn, gg, hg, x', hx, rfl⟩ := hc
    simp only [step, Option.bnd_eq_some_iff] at hs
    obtain ⟨p, hp, hs⟩ := hs
    have h1 := rv_ev hgl k hx hp
    generalize hA : a.eval x = A at h1
    cases h1 <;> (try simp only at hs) <;> (try cases hs)
    rename_i cs us hsz hr
    simp only [Option.bnd_eq_some_iff, Option.some.injEq, Prod.mk.injEq] at hs
    obtain ⟨r, hr', rfl, rfl, rfl⟩ := hs
    obtain ⟨u, hu1, hu2⟩ := run_part (P := P) hn hg hsz hr hr'
    refine gives_pure k ?_ hu2
    simp only [execOp, ho, hA, Instr.field, asAgg, Sem.run_bind, run_underlying hu, Result.andThen, hfd, Sem.run_pure, hu1]
  · cases hc

theorem g_idx (k : Ok (N0 := N0) w0 g e a.tmps h w) {t : TypeId} {x y : Operand} (ho : o.op = .index t x y) (hc : cOp P gl md o = some aop)
    (hs : step orc base draw aop e h = some (v, e', h')) : Gives N0 P w0 g a w (execOp a.eval o) v e' h' := by
  simp only [cOp, ho] at hc
  split at hc
  · rename_i hu
    simp only [Option.bind_eq_some_iff, Option.map_eq_some_iff] at hc
    obtain ⟨x', hx, y', hy, rfl⟩ := hc
    simp only [step, Option.bnd_eq_some_iff] at hs
    obtain ⟨p, hp, q, hq, hs⟩ := hs
    have h1 := rv_ev hgl k hx hp
    have h2 := rv_ev hgl k hy hq
    generalize hA : a.eval x = A at h1
    generalize hB : a.eval y = B at h2
    cases h1 <;> (try simp only at hs) <;> (try cases hs)
    rename_i l s hl
    simp only [Option.bnd_eq_some_iff, Option.some.injEq, Prod.mk.injEq] at hs
    obtain ⟨i, hi, c, hc, rfl, rfl, rfl⟩ := hs
    obtain ⟨kk, m, rfl, h0, hm, hmi⟩ := ix_rv h2 hi
    refine gives_pure k ?_ (.int _ _)
    have hget : s[m.toNat]? = some c := by
      rw [hmi, ← hc, ← hl, Array.getElem?_toList]
      by_cases hq : i < s.size
      · rw [getElem?_pos s i hq, getElem?_pos s.data i hq]; rfl
      · rw [getElem?_neg s i hq, getElem?_neg s.data i hq]
    simp only [execOp, ho, hA, hB, Instr.index, asIntOf, Sem.run_bind, Sem.run_pure, Result.andThen, run_underlying hu, if_pos h0, hget]
  · rename_i len el hu
    simp only [Option.bind_eq_some_iff, Option.map_eq_some_iff] at hc
    obtain ⟨n, hn, gg, hg, x', hx, y', hy, rfl⟩ := hc
    simp only [step, Option.bnd_eq_some_iff] at hs
    obtain ⟨p, hp, q, hq, hs⟩ := hs
    have h1 := rv_ev hgl k hx hp
    have h2 := rv_ev hgl k hy hq
    generalize hA : a.eval x = A at h1
    generalize hB : a.eval y = B at h2
    cases h1 <;> (try simp only at hs) <;> (try cases hs)
    rename_i cs us hsz hr
    simp only [Option.bnd_eq_some_iff, Option.some.injEq, Prod.mk.injEq] at hs
    obtain ⟨i, hi, r, hr', rfl, rfl, rfl⟩ := hs
    obtain ⟨kk, m, rfl, h0, hm, hmi⟩ := ix_rv h2 hi
    obtain ⟨u, hu1, hu2⟩ := run_part (P := P) hn hg hsz hr hr'
    refine gives_pure k ?_ hu2
    rw [← hmi] at hu1
    simp only [execOp, ho, hA, hB, Instr.index, asIntOf, Sem.run_bind, Sem.run_pure, Result.andThen, run_underlying hu, if_pos (And.intro h0 hm), run_sizeOf' hn, hu1]
  · cases hc

end
end Go.Am
