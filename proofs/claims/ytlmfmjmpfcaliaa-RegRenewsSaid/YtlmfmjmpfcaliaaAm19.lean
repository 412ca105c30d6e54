/- 'Am': code and calls: what the machine answers, the program answers.
   By the session's AI agent. -/
import Derived.Test.YtlmfmjmpfcaliaaAm18
namespace Go.Am
open Go.RowKit (Below)
set_option linter.unusedVariables false
set_option linter.unusedSimpArgs false

theorem setKeep_noTake (kp : List Nat) : ∀ c, noTakeC (setKeep kp c) = noTakeC c
  | .skip => rfl
  | .ops _ _ _ => rfl
  | .seq a b => by simp only [setKeep, noTakeC, setKeep_noTake kp a, setKeep_noTake kp b]
  | .cond _ a b => by simp only [setKeep, noTakeC, setKeep_noTake kp a, setKeep_noTake kp b]
  | .block _ a => by simp only [setKeep, noTakeC, setKeep_noTake kp a]
  | .loop a => by simp only [setKeep, noTakeC, setKeep_noTake kp a]
  | .scope a => by simp only [setKeep, noTakeC, setKeep_noTake kp a]
  | .exit _ => rfl
  | .ret => rfl

theorem cCode_noTake {P : Program} {an : Ann} {nt : Nat} : ∀ (c : Code) (ac : ACode), cCode P an nt c = some ac → noTakeC ac = true
  | .skip, ac, h => by simp [cCode] at h; subst h; rfl
  | .region id ops draw, ac, h => by
    simp only [cCode, Option.bind_eq_some_iff] at h
    obtain ⟨l, hl, h⟩ := h
    obtain ⟨h1, h2⟩ := cOps_made ops.toList 0 l hl
    have hall : l.all (fun o => noTake o.op) = true := by
      rw [List.all_eq_true]
      intro ao hao
      obtain ⟨j, hj⟩ := List.mem_iff_getElem?.1 hao
      have hlt : j < ops.toList.length := by rw [← h1]; exact (List.getElem?_eq_some_iff.1 hj).1
      obtain ⟨ao', q1, q2⟩ := h2 j _ (List.getElem?_eq_getElem hlt)
      rw [hj] at q1
      cases q1
      exact q2.noTake
    split at h
    · split at h
      · split at h
        · simp only [Option.some.injEq] at h; subst h
          show (quieten ops l 0 l).all (fun o => noTake o.op) = true
          rw [List.all_eq_true] at hall ⊢
          intro y hy
          obtain ⟨j, hj⟩ := List.mem_iff_getElem?.1 hy
          obtain ⟨hl1, hl2⟩ := quieten_get (ops := ops) (l := l) l 0
          have hlt : j < l.length := by rw [← hl1]; exact (List.getElem?_eq_some_iff.1 hj).1
          obtain ⟨z, q1, q2⟩ := hl2 j _ (List.getElem?_eq_getElem hlt)
          rw [hj] at q1
          cases q1
          rcases q2 with rfl | ⟨f, xs, hq, rfl⟩
          · exact hall _ (List.getElem_mem hlt)
          · rfl
        · cases h
      · cases h
    · simp only [Option.some.injEq] at h; subst h; exact hall
  | .seq a b, ac, h => by
    simp only [cCode, Option.bind_eq_some_iff, Option.map_eq_some_iff] at h
    obtain ⟨x, hx, y, hy, rfl⟩ := h
    simp only [noTakeC, cCode_noTake a x hx, cCode_noTake b y hy, Bool.and_self]
  | .cond c a b, ac, h => by
    simp only [cCode, Option.bind_eq_some_iff, Option.map_eq_some_iff] at h
    obtain ⟨_, _, x, hx, y, hy, rfl⟩ := h
    simp only [noTakeC, cCode_noTake a x hx, cCode_noTake b y hy, Bool.and_self]
  | .block id a, ac, h => by
    simp only [cCode, Option.map_eq_some_iff] at h
    obtain ⟨x, hx, rfl⟩ := h
    simp only [noTakeC, cCode_noTake a x hx]
  | .loop a, ac, h => by
    simp only [cCode, Option.map_eq_some_iff] at h
    obtain ⟨x, hx, rfl⟩ := h
    simp only [noTakeC, cCode_noTake a x hx]
  | .exit _, ac, h => by simp [cCode] at h; subst h; rfl
  | .ret, ac, h => by simp [cCode] at h; subst h; rfl
  | .scope _, ac, h => by simp [cCode] at h
  | .rangeFunc _ _ _ _, ac, h => by simp [cCode] at h
  | .label _, ac, h => by simp [cCode] at h
  | .goto _, ac, h => by simp [cCode] at h
  | .refuse _, ac, h => by simp [cCode] at h

/-- A function of Go's library, taken by what it gives. -/
def PrimOk (P : Program) (f : Nat) (pg : List PV → Option PV) : Prop := ∀ vs r, pg vs = some r → ∀ (N0 : Nat) (w0 : World) (g : G) (h : Hp) (us : Array Value) (w : World), OkH N0 w0 g h w → us.size = vs.length →
  (∀ (j : Nat) (x : PV), vs[j]? = some x → RV N0 g w x (us.getD j Go.undef)) → (callFunc f us).run P w = .ok (.enter f us) w ∧
    Calls P f us w fun en w' => ∃ u g', en = .returned u ∧ Ext N0 g w g' w' ∧ OkH N0 w0 g' h w' ∧ RV N0 g' w' r u

def TableOk (P : Program) (T : Table) : Prop := ∀ f it, T f = some it → match it with
  | .code fn => ∃ an fn0, P.funcs[f]? = some fn0 ∧ cFn P an fn0 = some fn
  | .prim pg => PrimOk P f pg

theorem TableOk.noTake {P : Program} {T : Table} (hT : TableOk P T) : noTakeT T := by
  intro f fn hf
  obtain ⟨an, fn0, _, hc⟩ := hT f _ hf
  simp only [cFn, Option.bind_eq_some_iff] at hc
  obtain ⟨c, _, rs, _, ac, hac, hc⟩ := hc
  split at hc
  · simp only [Option.some.injEq] at hc
    subst hc
    rw [setKeep_noTake]
    exact cCode_noTake c ac hac
  · cases hc

def exitOf : AEx → Exit
  | .norm => .normal
  | .exit i => .exit i
  | .ret => .ret

theorem wp_cond_eq {P : Program} {Q : Exit → Act → World → Prop} {a : Act} {w : World} {c : Operand} {x y : Code} {t : Bool} (hc : a.eval c = .bool t) (h : (if t then x else y).wp P Q a w) : (Code.cond c x y).wp P Q a w := wp_cond hc h

section
variable {N0 : Nat} {P : Program} {w0 : World}

theorem rv_below {g : G} {w : World} {v : PV} {u : Value} (h : RV N0 g w v u) : below g.n v = true := by
  induction h with
  | undef u hu => rfl
  | bool b => rfl
  | int k n => rfl
  | str l s h => rfl
  | nilp => rfl
  | ptr b off h => simpa [below] using h
  | ep cs off c o u hc hr hf ih => simp only [below]; exact belows_of ih
  | nils => rfl
  | sl ow sz es c o cap u hl hfull hsz hc hr hf sp hsp ih =>
    simp only [below]
    refine belows_of fun i e he => ?_
    have : ∀ (j : Nat) (x : PV), e.cells[j]? = some x → below g.n x = true := fun j x hx => ih i j e x he hx
    cases e with
    | agg cs => simp only [below]; exact belows_of this
    | _ => exact this 0 _ rfl
  | bsl b off len sz cap h hl => simpa [below] using h
  | nilif => rfl
  | iface t v u _ ih => simpa [below] using ih
  | nilf => rfl
  | fn f cap us hs _ ih => simp only [below]; exact belows_of ih
  | agg cs us hs _ ih => simp only [below]; exact belows_of ih
  | tup cs us hs _ ih => simp only [below]; exact belows_of ih

/-- Behind a frame: the boxes that were made in it are forgotten. -/
theorem ok_trunc {g : G} {h1 : Hp} {w : World} (k : OkH N0 w0 g h1 w) {n : Nat} (hn : n ≤ size h1) (hclo : Clo n h1) : OkH N0 w0 { g with n := n } (trunc h1 n) w where
  n := by rw [size_trunc hn]
  hN := k.hN
  below := k.below
  inj := fun b c hb hc he => k.inj b c (by rw [k.n]; have hb' : b < n := hb; omega) (by rw [k.n]; have hc' : c < n := hc; omega) he
  box := fun b cs hcs => by
    have hb : b < n := by
      rcases Nat.lt_or_ge b n with h' | h'
      · exact h'
      · rw [getBox_trunc_none h'] at hcs; cases hcs
    rw [getBox_trunc hb] at hcs
    obtain ⟨q1, q2, arr, T, q3, q4, q5⟩ := k.box b cs hcs
    exact ⟨q1, q2, arr, T, q3, q4, fun j x hx => rv_fewer (q5 j x hx) (hclo b cs hb hcs j x hx)⟩
  arr := k.arr
  env := fun t v hv => by simp [look] at hv

theorem ext_fewer {g g' : G} {w w' : World} (x : Ext N0 g w g' w') {n : Nat} (hn : g.n ≤ n) : Ext N0 g w { g' with n := n } w' := ⟨hn, x.ι, x.hw, x.cell, x.old⟩

theorem clo_of {g : G} {h : Hp} {w : World} (k : OkH N0 w0 g h w) : Clo (size h) h := by
  intro b cs hb hcs j x hx
  obtain ⟨_, _, arr, T, _, _, q5⟩ := k.box b cs hcs
  rw [← k.n]
  exact rv_below (q5 j x hx)

theorem look_params : ∀ (vs : List PV) (i t : Nat), look (params i vs) t = if i ≤ t then vs[t - i]? else none
  | [], i, t => by simp [params, look]
  | v :: vs, i, t => by
    simp only [params, look, look_params vs (i + 1) t]
    by_cases h1 : i = t
    · subst h1; simp
    · by_cases h2 : i ≤ t
      · rw [if_neg h1, if_pos (by omega), if_pos h2, show t - i = (t - (i + 1)) + 1 by omega, List.getElem?_cons_succ]
      · rw [if_neg h1, if_neg (by omega), if_neg h2]

/-- The results of a frame. -/
def resOne (tm : Array Value) : ResultVar → Sem Value
  | .tmp t => pure (tm.getD t Go.undef)
  | .cell x t => do loadVar t (← asAddr (tm.getD x Go.undef))
theorem result_rv {g : G} {e : Env} {a : Act} {h : Hp} {w : World} (k : Ok (N0 := N0) w0 g e a.tmps h w) {rv : ResultVar} {rs : List (Nat × Option (Nat × Bool))} (hc : cResults P [rv] = some rs) {own : Bool} {vs : List PV} (hr : resultsOf own e h rs = some vs) :
    ∃ v u, vs = [v] ∧ (resOne a.tmps rv).run P w = .ok u w ∧ RV N0 g w v u := by
  have fin : ∀ v u, RV N0 g w v u → RV N0 g w (if own then v else strip v) u := fun v u hv => by split; exact hv; exact rv_strip hv
  cases rv with
  | tmp t =>
    simp only [cResults, Option.map_some, Option.some.injEq] at hc
    subst hc
    simp only [resultsOf, resultOf, Option.bnd_eq_some_iff, Option.some.injEq] at hr
    obtain ⟨v, hv, _, rfl, rfl⟩ := hr
    exact ⟨_, _, rfl, rfl, fin _ _ (k.env t v hv)⟩
  | cell x t =>
    simp only [cResults, Option.bind_eq_some_iff, Option.map_some] at hc
    obtain ⟨n, hn, gg, hg, hc⟩ := hc
    split at hc
    · rename_i hcond
      simp only [Option.some.injEq] at hc
      subst hc
      simp only [resultsOf, resultOf, Option.bnd_eq_some_iff, Option.some.injEq] at hr
      obtain ⟨r, ⟨p, hp, hr⟩, _, rfl, rfl⟩ := hr
      have hrp := k.env x p hp
      generalize hA : a.tmps.getD x Go.undef = A at hrp
      cases hrp <;> simp only at hr <;> (try cases hr)
      rename_i b off hb
      simp only [Option.bnd_eq_some_iff] at hr
      obtain ⟨cs, hcs, hr⟩ := hr
      obtain ⟨u, h1, h2⟩ := box_cell k hcs
      obtain ⟨v, hv1, hv2⟩ := load_row1 (P := P) (o := 0) hn hg (c := g.ι b) (cs := cs) (u := u) (off := off) (fun j hj => by rw [Nat.zero_add]; exact h1 j hj) h2 (m := n) (fun _ => rfl) hr
      rw [Nat.zero_add] at hv1
      exact ⟨_, v, rfl, by simp only [resOne, hA, asAddr, Sem.run_bind, Sem.run_pure, Result.andThen, hv1], fin _ _ hv2⟩
    · cases hc

theorem results_rv {g : G} {e : Env} {a : Act} {h : Hp} {w : World} (k : Ok (N0 := N0) w0 g e a.tmps h w) {own : Bool} : ∀ (rvs : List ResultVar) (rs : List (Nat × Option (Nat × Bool))) (vs : List PV), cResults P rvs = some rs → resultsOf own e h rs = some vs →
    ∃ us : List Value, (rvs.mapM (resOne a.tmps)).run P w = .ok us w ∧ us.length = vs.length ∧ ∀ (j : Nat) (x : PV), vs[j]? = some x → RV N0 g w x (us.getD j Go.undef)
  | [], rs, vs, hc, hr => by
    simp [cResults] at hc; subst hc
    simp [resultsOf] at hr; subst hr
    exact ⟨[], by simp, rfl, fun j x hx => by simp at hx⟩
  | rv :: rvs, rs, vs, hc, hr => by
    have hsplit : ∃ r1 rs', cResults P [rv] = some [r1] ∧ cResults P rvs = some rs' ∧ rs = r1 :: rs' := by
      cases rv with
      | tmp t =>
        simp only [cResults, Option.map_eq_some_iff] at hc
        obtain ⟨rs', h1, rfl⟩ := hc
        exact ⟨(t, none), rs', rfl, h1, rfl⟩
      | cell x t =>
        simp only [cResults, Option.bind_eq_some_iff] at hc
        obtain ⟨n, hn, gg, hg, hc⟩ := hc
        split at hc
        · rename_i hcond
          simp only [Option.map_eq_some_iff] at hc
          obtain ⟨rs', h1, rfl⟩ := hc
          exact ⟨(x, some (n, gg)), rs', by simp only [cResults, hn, hg, Option.bind_some, if_pos hcond, Option.map_some], h1, rfl⟩
        · cases hc
    obtain ⟨r1, rs', hc1, hc2, rfl⟩ := hsplit
    simp only [resultsOf, Option.bnd_eq_some_iff, Option.some.injEq] at hr
    obtain ⟨v, hv, vs', hvs', rfl⟩ := hr
    obtain ⟨v', u, hv', hu, hru⟩ := result_rv (P := P) k (own := own) hc1 (vs := [if own then v else strip v]) (by simp only [resultsOf, hv, Option.bnd])
    simp only [List.cons.injEq, and_true] at hv'
    subst hv'
    obtain ⟨us, h1, h2, h3⟩ := results_rv k rvs rs' vs' hc2 hvs'
    refine ⟨u :: us, ?_, by simp [h2], fun j x hx => ?_⟩
    · simp only [List.mapM_cons, Sem.run_bind]
      rw [hu]
      simp only [Result.andThen]
      rw [h1]
      simp only [Result.andThen, Sem.run_pure]
    · cases j with
      | zero => simp at hx; subst hx; simpa using hru
      | succ j => simpa using h3 j x (by simpa using hx)

theorem results_run {g : G} {e : Env} {a : Act} {h : Hp} {w : World} (k : Ok (N0 := N0) w0 g e a.tmps h w) {own : Bool} {fn : Func} {rs : List (Nat × Option (Nat × Bool))} {vs : List PV} (hc : cResults P fn.results.toList = some rs) (hr : resultsOf own e h rs = some vs) :
    ∃ u, (results fn a.tmps).run P w = .ok u w ∧ RV N0 g w (result1 vs) u := by
  obtain ⟨us, h1, h2, h3⟩ := results_rv k fn.results.toList rs vs hc hr
  have hrun : (results fn a.tmps).run P w = .ok (if hs : us.toArray.size = 1 then us.toArray[0] else .tuple us.toArray) w := by
    have hq : results fn a.tmps = (do let vs ← fn.results.mapM (resOne a.tmps); pure (if h : vs.size = 1 then vs[0] else .tuple vs)) := rfl
    rw [hq, Array.mapM_eq_mapM_toList]
    simp [h1]
  refine ⟨_, hrun, ?_⟩
  match vs, us, h2, h3 with
  | [], [], _, _ => exact .tup [] #[] rfl (fun j x hx => by simp at hx)
  | [v], [u], _, h3 => simpa [result1] using h3 0 v rfl
  | v :: v' :: vs, u :: u' :: us, h2, h3 =>
    rw [dif_neg (by simp)]
    refine .tup (v :: v' :: vs) (u :: u' :: us).toArray (by simpa using h2) fun j x hx => ?_
    simpa [List.getD_eq_getElem?_getD, Array.getD_eq_getD_getElem?] using h3 j x hx

end
end Go.Am
