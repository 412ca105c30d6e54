/- Links as Lean values; few and right, on the abstract machine. | Right links, on the abstract machine. | Links as text, on the abstract machine. | Write and the reference's, on the abstract machine. | LinkWrites: the law on the abstract machine.
   By the session's AI agent. -/
import Derived.Test.YtdnbedldmkagmaaGreatDoorLw4
namespace Go.Am.YtdnbedldmkagmaaGreatDoor
set_option maxRecDepth 100000
set_option linter.unusedSimpArgs false
set_option linter.unusedVariables false
abbrev Pr := List UInt8 × List UInt8 × Bool
def eP (p : Pr) : PV := .agg [.str p.1, .str p.2.1, .bool p.2.2]
theorem elP : El eP 3 := ⟨fun _ => rfl, fun _ => rfl, fun _ => rfl, fun _ _ => rfl⟩
abbrev Px := {p : PV // ∃ l, Lv eI 1 p l}
abbrev Ax := {p : PV // ∃ l, Lv eP 3 p l}
abbrev Lk := Px × Ax
noncomputable def pL (k : Lk) : List Int := k.1.2.choose
noncomputable def aL (k : Lk) : List Pr := k.2.2.choose
theorem pV (k : Lk) : Lv eI 1 k.1.1 (pL k) := k.1.2.choose_spec
theorem aV (k : Lk) : Lv eP 3 k.2.1 (aL k) := k.2.2.choose_spec
def eL (k : Lk) : PV := .agg [k.1.1, k.2.1]
theorem elL : El eL 2 := by
  refine ⟨fun a => rfl, fun a => ?_, fun a => ?_, fun n a => ?_⟩
  · show List.all [a.1.1, a.2.1] scalar = true
    simp only [List.all_cons, (pV a).scalar, (aV a).scalar]; rfl
  · show PV.agg [strip a.1.1, strip a.2.1] = _
    rw [(pV a).strip, (aV a).strip]; rfl
  · show (below n a.1.1 && (below n a.2.1 && true)) = true
    rw [(pV a).below elI, (aV a).below elP]; rfl
theorem ecL (k : Lk) : (eL k).cells = [k.1.1, k.2.1] := rfl
theorem ecP (p : Pr) : (eP p).cells = [.str p.1, .str p.2.1, .bool p.2.2] := rfl
/-- A heap that has grown in a frame. -/
structure Hg (h H : Hp) : Prop where
  tr : trunc H (size h) = h
  le : size h ≤ size H
theorem Hg.refl (h : Hp) : Hg h h := ⟨by simp [trunc, size], Nat.le_refl _⟩
theorem Hg.ext {h H : Hp} (g : Hg h H) (l : List Box) : Hg h (ext H l) :=
  ⟨by rw [trunc_ext_ge _ g.le]; exact g.tr, by have := g.le; simp only [size, Go.Am.ext, List.length_append] at *; omega⟩
theorem Hg.lt {h H : Hp} (g : Hg h H) : (size H < size h) = False := by have := g.le; simp; omega
/-- Few signs. -/
def fewP (p : Pr) : Bool := decide (p.1.length ≤ 100) && decide (p.2.1.length ≤ 200)
noncomputable def fewK (k : Lk) : Bool := decide ((aL k).length ≤ 20) && decide ((pL k).length ≤ 100) && (aL k).all fewP
noncomputable def fewL (l : List Lk) : Bool := decide (l.length ≤ 80) && l.all fewK
theorem few_in {h : Hp} {b : PV} {l : List Lk} (hb : Rl eL 2 b l) (hl : l.length ≤ 80) {i : Nat} {k : Lk} (hk : l[i]? = some k) (hn : (aL k).length ≤ 20) :
    ∀ (r q : List Pr), aL k = q ++ r → P7_1 (size h) (size h) (i64 q.length) (i64 i) b h = if r.all fewP then P7_0 (size h) (size h) (i64 ((i + 1 : Nat) : Int)) b h else some (.bool false, h)
  | [], q, hp => by
    rw [P7_1_eq]
    have hi : i < l.length := by
      rcases Nat.lt_or_ge i l.length with h | h
      · exact h
      · rw [List.getElem?_eq_none h] at hk; cases hk
    have e : q.length = (aL k).length := by rw [hp]; simp
    have h1 : ((q.length : Int) < ((aL k).length : Int)) = False := by simp; omega
    have w1 : IntKind.i64.wrap ((i : Int) + 1) = ((i + 1 : Nat) : Int) := by rw [wrap_small] <;> omega
    simp only [hb.idx hk, ecL, (aV k).len, h1, w1, List.all_nil, ↓evD, evU, evL, Nat.reduceAdd, Nat.reduceSub, Nat.reduceMul, Nat.reduceLeDiff, Nat.reduceLT, Nat.reduceEqDiff, Nat.reduceBEq, reduceIte, reduceCtorEq, Int.reduceBEq, Int.reduceEq, Int.reduceLT, Int.reduceLE, Int.reduceGT, Int.reduceGE, Int.reduceAdd, Int.reduceSub, Int.reduceNeg, Int.reduceBNe, ite_true, ite_false, if_true, if_false, implies_true, forall_const]
  | x :: r, q, hp => by
    rw [P7_1_eq]
    have el : (aL k).length = q.length + (r.length + 1) := by rw [hp]; simp
    have h1 : ((q.length : Int) < ((aL k).length : Int)) = True := by simp; omega
    have hx : (aL k)[q.length]? = some x := by rw [hp]; simp
    have w1 : IntKind.i64.wrap ((q.length : Int) + 1) = (((q ++ [x]).length : Nat) : Int) := by rw [show (q ++ [x]).length = q.length + 1 by simp, wrap_small] <;> omega
    have ih := few_in (h := h) hb hl hk hn r (q ++ [x]) (by rw [hp]; simp)
    by_cases c1 : (x.1.length : Int) > 100
    · have : fewP x = false := by simp [fewP]; omega
      simp only [hb.idx hk, ecL, (aV k).len, h1, (aV k).idx hx, ecP, c1, List.all_cons, this, ↓evD, evU, evL, Nat.reduceAdd, Nat.reduceSub, Nat.reduceMul, Nat.reduceLeDiff, Nat.reduceLT, Nat.reduceEqDiff, Nat.reduceBEq, reduceIte, reduceCtorEq, Int.reduceBEq, Int.reduceEq, Int.reduceLT, Int.reduceLE, Int.reduceGT, Int.reduceGE, Int.reduceAdd, Int.reduceSub, Int.reduceNeg, Int.reduceBNe, ite_true, ite_false, if_true, if_false, implies_true, forall_const]
    by_cases c2 : (x.2.1.length : Int) > 200
    · have : fewP x = false := by simp [fewP]; omega
      simp only [hb.idx hk, ecL, (aV k).len, h1, (aV k).idx hx, ecP, c1, c2, List.all_cons, this, ↓evD, evU, evL, Nat.reduceAdd, Nat.reduceSub, Nat.reduceMul, Nat.reduceLeDiff, Nat.reduceLT, Nat.reduceEqDiff, Nat.reduceBEq, reduceIte, reduceCtorEq, Int.reduceBEq, Int.reduceEq, Int.reduceLT, Int.reduceLE, Int.reduceGT, Int.reduceGE, Int.reduceAdd, Int.reduceSub, Int.reduceNeg, Int.reduceBNe, ite_true, ite_false, if_true, if_false, implies_true, forall_const]
    have : fewP x = true := by simp [fewP]; omega
    simp only [hb.idx hk, ecL, (aV k).len, h1, (aV k).idx hx, ecP, c1, c2, w1, ih, List.all_cons, this, ↓evD, evU, evL, Nat.reduceAdd, Nat.reduceSub, Nat.reduceMul, Nat.reduceLeDiff, Nat.reduceLT, Nat.reduceEqDiff, Nat.reduceBEq, reduceIte, reduceCtorEq, Int.reduceBEq, Int.reduceEq, Int.reduceLT, Int.reduceLE, Int.reduceGT, Int.reduceGE, Int.reduceAdd, Int.reduceSub, Int.reduceNeg, Int.reduceBNe, ite_true, ite_false, if_true, if_false, implies_true, forall_const]
theorem few_loop {h : Hp} {b : PV} {l : List Lk} (hb : Rl eL 2 b l) (hl : l.length ≤ 80) : ∀ (r q : List Lk), l = q ++ r →
    P7_0 (size h) (size h) (i64 q.length) b h = some (.bool (r.all fewK), h)
  | [], q, hp => by
    rw [P7_0_eq]
    have e : q.length = l.length := by rw [hp]; simp
    have h1 : ((q.length : Int) < (l.length : Int)) = False := by simp; omega
    simp only [h1, hb.len, List.all_nil, ↓evD, evU, evL, Nat.reduceAdd, Nat.reduceSub, Nat.reduceMul, Nat.reduceLeDiff, Nat.reduceLT, Nat.reduceEqDiff, Nat.reduceBEq, reduceIte, reduceCtorEq, Int.reduceBEq, Int.reduceEq, Int.reduceLT, Int.reduceLE, Int.reduceGT, Int.reduceGE, Int.reduceAdd, Int.reduceSub, Int.reduceNeg, Int.reduceBNe, ite_true, ite_false, if_true, if_false, implies_true, forall_const]
  | x :: r, q, hp => by
    rw [P7_0_eq]
    have el : l.length = q.length + (r.length + 1) := by rw [hp]; simp
    have h1 : ((q.length : Int) < (l.length : Int)) = True := by simp; omega
    have hx : l[q.length]? = some x := by rw [hp]; simp
    by_cases c1 : ((aL x).length : Int) > 20
    · have : fewK x = false := by simp [fewK]; omega
      simp only [h1, hb.len, hb.idx hx, ecL, (aV x).len, c1, List.all_cons, this, ↓evD, evU, evL, Nat.reduceAdd, Nat.reduceSub, Nat.reduceMul, Nat.reduceLeDiff, Nat.reduceLT, Nat.reduceEqDiff, Nat.reduceBEq, reduceIte, reduceCtorEq, Int.reduceBEq, Int.reduceEq, Int.reduceLT, Int.reduceLE, Int.reduceGT, Int.reduceGE, Int.reduceAdd, Int.reduceSub, Int.reduceNeg, Int.reduceBNe, ite_true, ite_false, if_true, if_false, implies_true, forall_const]
    by_cases c2 : ((pL x).length : Int) > 100
    · have : fewK x = false := by simp [fewK]; omega
      simp only [h1, hb.len, hb.idx hx, ecL, (aV x).len, (pV x).len, c1, c2, List.all_cons, this, ↓evD, evU, evL, Nat.reduceAdd, Nat.reduceSub, Nat.reduceMul, Nat.reduceLeDiff, Nat.reduceLT, Nat.reduceEqDiff, Nat.reduceBEq, reduceIte, reduceCtorEq, Int.reduceBEq, Int.reduceEq, Int.reduceLT, Int.reduceLE, Int.reduceGT, Int.reduceGE, Int.reduceAdd, Int.reduceSub, Int.reduceNeg, Int.reduceBNe, ite_true, ite_false, if_true, if_false, implies_true, forall_const]
    have hin := few_in (h := h) hb hl hx (by omega) (aL x) [] rfl
    have ih := few_loop (h := h) hb hl r (q ++ [x]) (by rw [hp]; simp)
    rw [show (q ++ [x]).length = q.length + 1 by simp] at ih
    rw [ih] at hin
    have e3 : fewK x = (aL x).all fewP := by
      unfold fewK
      rw [decide_eq_true (by omega : (aL x).length ≤ 20), decide_eq_true (by omega : (pL x).length ≤ 100)]; rfl
    simp only [h1, hb.len, hb.idx hx, ecL, (aV x).len, (pV x).len, c1, c2, List.all_cons, e3, ↓evD, evU, evL, Nat.reduceAdd, Nat.reduceSub, Nat.reduceMul, Nat.reduceLeDiff, Nat.reduceLT, Nat.reduceEqDiff, Nat.reduceBEq, reduceIte, reduceCtorEq, Int.reduceBEq, Int.reduceEq, Int.reduceLT, Int.reduceLE, Int.reduceGT, Int.reduceGE, Int.reduceAdd, Int.reduceSub, Int.reduceNeg, Int.reduceBNe, ite_true, ite_false, if_true, if_false, implies_true, forall_const]
    refine hin.trans ?_
    cases (aL x).all fewP <;> rfl
theorem few_spec {base : Nat} {h : Hp} {b : PV} {l : List Lk} (hb : Rl eL 2 b l) : CallA T base 7 [b] h = some (.bool (fewL l), h) := by
  rw [S7]
  unfold fewL
  by_cases h3 : l.length ≤ 80
  · have h1 : ((l.length : Int) > 80) = False := by simp; omega
    have := few_loop (h := h) hb h3 l [] rfl
    rw [decide_eq_true h3]
    simp only [hb.len, h1, ↓evD, evU, evL, Nat.reduceAdd, Nat.reduceSub, Nat.reduceMul, Nat.reduceLeDiff, Nat.reduceLT, Nat.reduceEqDiff, Nat.reduceBEq, reduceIte, reduceCtorEq, Int.reduceBEq, Int.reduceEq, Int.reduceLT, Int.reduceLE, Int.reduceGT, Int.reduceGE, Int.reduceAdd, Int.reduceSub, Int.reduceNeg, Int.reduceBNe, ite_true, ite_false, if_true, if_false, implies_true, forall_const]
    exact this
  · have h1 : ((l.length : Int) > 80) = True := by simp; omega
    rw [decide_eq_false h3]
    simp only [hb.len, h1, ↓evD, evU, evL, Nat.reduceAdd, Nat.reduceSub, Nat.reduceMul, Nat.reduceLeDiff, Nat.reduceLT, Nat.reduceEqDiff, Nat.reduceBEq, reduceIte, reduceCtorEq, Int.reduceBEq, Int.reduceEq, Int.reduceLT, Int.reduceLE, Int.reduceGT, Int.reduceGE, Int.reduceAdd, Int.reduceSub, Int.reduceNeg, Int.reduceBNe, ite_true, ite_false, if_true, if_false, implies_true, forall_const]
/-- Small. -/
def SmP (p : Pr) : Prop := p.1.length ≤ 10000 ∧ p.2.1.length ≤ 10000
structure SmK (k : Lk) : Prop where
  p : (pL k).length ≤ 10000
  a : (aL k).length ≤ 10000
  s : ∀ p ∈ aL k, SmP p
theorem sm_few {l : List Lk} (h : fewL l = true) : l.length ≤ 80 ∧ ∀ k ∈ l, SmK k := by
  unfold fewL at h
  rw [Bool.and_eq_true, decide_eq_true_eq, List.all_eq_true] at h
  refine ⟨h.1, fun k hk => ?_⟩
  have := h.2 k hk
  unfold fewK at this
  rw [Bool.and_eq_true, Bool.and_eq_true, decide_eq_true_eq, decide_eq_true_eq, List.all_eq_true] at this
  refine ⟨by omega, by omega, fun p hp => ?_⟩
  have h2 := this.2 p hp
  unfold fewP at h2
  rw [Bool.and_eq_true, decide_eq_true_eq, decide_eq_true_eq] at h2
  exact ⟨by omega, by omega⟩
def prB (p : Pr) : Bool := nmB p.1 && (if p.2.2 then p.2.1 == [] else vlB p.2.1)
noncomputable def lkB (k : Lk) : Bool := rightB (pL k) && decide ((aL k).length ≤ 8) && (aL k).all prB
noncomputable def rgB (l : List Lk) : Bool := decide (l.length ≤ 64) && l.all lkB
theorem pair_spec (base : Nat) (h : Hp) {p : Pr} (hs : SmP p) : CallA T base 46 [eP p] h = some (.bool (prB p), h) := by
  have s1 : p.1.length ≤ 1000000 := by have := hs.1; omega
  have s2 : p.2.1.length ≤ 1000000 := by have := hs.2; omega
  have hn := fun b k => name_spec (base := b) (h := k) p.1 s1
  have hr := fun b k => run_spec (base := b) (h := k) pri_spec p.2.1 s2
  have ha := tw_all (q := priB) p.2.1
  have hep : eP p = .agg [.str p.1, .str p.2.1, .bool p.2.2] := rfl
  rw [S46, hep]
  unfold prB vlB
  cases hb : p.2.2 <;> cases e1 : nmB p.1 <;> rw [e1] at hn
  · simp only [hn, ↓evD, evU, evL, Nat.reduceAdd, Nat.reduceSub, Nat.reduceMul, Nat.reduceLeDiff, Nat.reduceLT, Nat.reduceEqDiff, Nat.reduceBEq, reduceIte, reduceCtorEq, Int.reduceBEq, Int.reduceEq, Int.reduceLT, Int.reduceLE, Int.reduceGT, Int.reduceGE, Int.reduceAdd, Int.reduceSub, Int.reduceNeg, Int.reduceBNe, ite_true, ite_false, if_true, if_false, implies_true, forall_const]
  · by_cases c1 : (p.2.1.length : Int) ≤ 60 <;> cases e2 : p.2.1.all priB <;> rw [e2] at ha <;> simp only [hn, hr, ha, c1, ↓evD, evU, evL, Nat.reduceAdd, Nat.reduceSub, Nat.reduceMul, Nat.reduceLeDiff, Nat.reduceLT, Nat.reduceEqDiff, Nat.reduceBEq, reduceIte, reduceCtorEq, Int.reduceBEq, Int.reduceEq, Int.reduceLT, Int.reduceLE, Int.reduceGT, Int.reduceGE, Int.reduceAdd, Int.reduceSub, Int.reduceNeg, Int.reduceBNe, ite_true, ite_false, if_true, if_false, implies_true, forall_const]
  · simp only [hn, ↓evD, evU, evL, Nat.reduceAdd, Nat.reduceSub, Nat.reduceMul, Nat.reduceLeDiff, Nat.reduceLT, Nat.reduceEqDiff, Nat.reduceBEq, reduceIte, reduceCtorEq, Int.reduceBEq, Int.reduceEq, Int.reduceLT, Int.reduceLE, Int.reduceGT, Int.reduceGE, Int.reduceAdd, Int.reduceSub, Int.reduceNeg, Int.reduceBNe, ite_true, ite_false, if_true, if_false, implies_true, forall_const]
  · cases e2 : (p.2.1 == []) <;> simp only [hn, e2, ↓evD, evU, evL, Nat.reduceAdd, Nat.reduceSub, Nat.reduceMul, Nat.reduceLeDiff, Nat.reduceLT, Nat.reduceEqDiff, Nat.reduceBEq, reduceIte, reduceCtorEq, Int.reduceBEq, Int.reduceEq, Int.reduceLT, Int.reduceLE, Int.reduceGT, Int.reduceGE, Int.reduceAdd, Int.reduceSub, Int.reduceNeg, Int.reduceBNe, ite_true, ite_false, if_true, if_false, implies_true, forall_const]
theorem npair_spec (base : Nat) (h : Hp) {p : Pr} (hs : SmP p) : CallA T base 45 [eP p] h = some (.bool (!prB p), h) := by
  have hep : eP p = .agg [.str p.1, .str p.2.1, .bool p.2.2] := rfl
  have hn := fun b k => pair_spec b k hs
  rw [hep] at hn
  rw [S45, hep]
  cases e : prB p <;> rw [e] at hn <;> simp only [hn, ↓evD, evU, evL, Nat.reduceAdd, Nat.reduceSub, Nat.reduceMul, Nat.reduceLeDiff, Nat.reduceLT, Nat.reduceEqDiff, Nat.reduceBEq, reduceIte, reduceCtorEq, Int.reduceBEq, Int.reduceEq, Int.reduceLT, Int.reduceLE, Int.reduceGT, Int.reduceGE, Int.reduceAdd, Int.reduceSub, Int.reduceNeg, Int.reduceBNe, ite_true, ite_false, if_true, if_false, implies_true, forall_const]
end Go.Am.YtdnbedldmkagmaaGreatDoor
namespace Go.Am.YtdnbedldmkagmaaGreatDoor
set_option maxRecDepth 100000
set_option linter.unusedSimpArgs false
set_option linter.unusedVariables false
theorem idxP_loop {h : Hp} {b : PV} {l : List Pr} (hb : Rl eP 3 b l) (hl : l.length ≤ 10000) (hs : ∀ p ∈ l, SmP p) : ∀ (r q : List Pr), l = q ++ r →
    ∃ n : Int, P60_0 (size h) (size h) (i64 q.length) b (.fn 45 []) (i64 l.length) h = some (i64 n, h) ∧ decide (n ≥ 0) = !(r.all prB)
  | [], q, hp => by
    have e : q.length = l.length := by rw [hp]; simp
    have h1 : ((q.length : Int) < (l.length : Int)) = False := by simp; omega
    refine ⟨-1, ?_, rfl⟩
    rw [P60_0_eq]
    simp only [h1, ↓evD, evU, evL, Nat.reduceAdd, Nat.reduceSub, Nat.reduceMul, Nat.reduceLeDiff, Nat.reduceLT, Nat.reduceEqDiff, Nat.reduceBEq, reduceIte, reduceCtorEq, Int.reduceBEq, Int.reduceEq, Int.reduceLT, Int.reduceLE, Int.reduceGT, Int.reduceGE, Int.reduceAdd, Int.reduceSub, Int.reduceNeg, Int.reduceBNe, ite_true, ite_false, if_true, if_false, implies_true, forall_const]
  | x :: r, q, hp => by
    have el : l.length = q.length + (r.length + 1) := by rw [hp]; simp
    have h1 : ((q.length : Int) < (l.length : Int)) = True := by simp; omega
    have hx : l[q.length]? = some x := by rw [hp]; simp
    have w1 : IntKind.i64.wrap ((q.length : Int) + 1) = (((q ++ [x]).length : Nat) : Int) := by rw [show (q ++ [x]).length = q.length + 1 by simp, wrap_small] <;> omega
    obtain ⟨n, i1, i2⟩ := idxP_loop (h := h) hb hl hs r (q ++ [x]) (by rw [hp]; simp)
    have hq := fun b k => npair_spec b k (hs x (by rw [hp]; simp))
    have hep : eP x = .agg [.str x.1, .str x.2.1, .bool x.2.2] := rfl
    rw [hep] at hq
    cases e : prB x <;> rw [e] at hq
    · refine ⟨q.length, ?_, ?_⟩
      · rw [P60_0_eq]
        simp only [h1, hb.idx hx, ecP, hq, List.append_nil, ↓evD, evU, evL, Nat.reduceAdd, Nat.reduceSub, Nat.reduceMul, Nat.reduceLeDiff, Nat.reduceLT, Nat.reduceEqDiff, Nat.reduceBEq, reduceIte, reduceCtorEq, Int.reduceBEq, Int.reduceEq, Int.reduceLT, Int.reduceLE, Int.reduceGT, Int.reduceGE, Int.reduceAdd, Int.reduceSub, Int.reduceNeg, Int.reduceBNe, ite_true, ite_false, if_true, if_false, implies_true, forall_const]
      · rw [List.all_cons, e]; simp
    · refine ⟨n, ?_, ?_⟩
      · rw [P60_0_eq]
        simp only [h1, hb.idx hx, ecP, hq, w1, i1, List.append_nil, ↓evD, evU, evL, Nat.reduceAdd, Nat.reduceSub, Nat.reduceMul, Nat.reduceLeDiff, Nat.reduceLT, Nat.reduceEqDiff, Nat.reduceBEq, reduceIte, reduceCtorEq, Int.reduceBEq, Int.reduceEq, Int.reduceLT, Int.reduceLE, Int.reduceGT, Int.reduceGE, Int.reduceAdd, Int.reduceSub, Int.reduceNeg, Int.reduceBNe, ite_true, ite_false, if_true, if_false, implies_true, forall_const]
      · rw [List.all_cons, e, Bool.true_and]; exact i2
theorem anyP_spec {h : Hp} {base : Nat} {b : PV} {l : List Pr} (hb : Rl eP 3 b l) (hl : l.length ≤ 10000) (hs : ∀ p ∈ l, SmP p) : CallA T base 44 [b, .fn 45 []] h = some (.bool (!(l.all prB)), h) := by
  have h60 : ∀ base h, ∃ n : Int, CallA T base 60 [b, .fn 45 []] h = some (i64 n, h) ∧ decide (n ≥ 0) = !(l.all prB) := by
    intro base h
    obtain ⟨n, h1, h2⟩ := idxP_loop (h := h) hb hl hs l [] rfl
    refine ⟨n, ?_, h2⟩
    rw [S60]
    simp only [hb.len, ↓evD, evU, evL, Nat.reduceAdd, Nat.reduceSub, Nat.reduceMul, Nat.reduceLeDiff, Nat.reduceLT, Nat.reduceEqDiff, Nat.reduceBEq, reduceIte, reduceCtorEq, Int.reduceBEq, Int.reduceEq, Int.reduceLT, Int.reduceLE, Int.reduceGT, Int.reduceGE, Int.reduceAdd, Int.reduceSub, Int.reduceNeg, Int.reduceBNe, ite_true, ite_false, if_true, if_false, implies_true, forall_const]
    exact h1
  rw [S44]
  obtain ⟨n, h1, h2⟩ := h60 (size h) h
  simp only [h1, h2, ↓evD, evU, evL, Nat.reduceAdd, Nat.reduceSub, Nat.reduceMul, Nat.reduceLeDiff, Nat.reduceLT, Nat.reduceEqDiff, Nat.reduceBEq, reduceIte, reduceCtorEq, Int.reduceBEq, Int.reduceEq, Int.reduceLT, Int.reduceLE, Int.reduceGT, Int.reduceGE, Int.reduceAdd, Int.reduceSub, Int.reduceNeg, Int.reduceBNe, ite_true, ite_false, if_true, if_false, implies_true, forall_const]
theorem link_spec (base : Nat) (h : Hp) {k : Lk} (hs : SmK k) : CallA T base 22 [eL k] h = some (.bool (lkB k), h) := by
  have hel : eL k = .agg [k.1.1, k.2.1] := rfl
  have h1 := fun b m => anyP_spec (base := b) (h := m) (aV k).rl hs.a hs.s
  have h2 := fun b m => right_spec (base := b) (h := m) (pV k).rl (by have := hs.p; omega)
  have c3 : decide (((aL k).length : Int) ≤ 8) = decide ((aL k).length ≤ 8) := by
    by_cases hq : (aL k).length ≤ 8
    · rw [decide_eq_true hq, decide_eq_true (by omega)]
    · rw [decide_eq_false hq, decide_eq_false (by omega)]
  rw [S22, hel]
  unfold lkB
  cases e1 : (aL k).all prB <;> rw [e1] at h1 <;> cases e2 : rightB (pL k) <;> rw [e2] at h2 <;> cases e3 : decide ((aL k).length ≤ 8) <;> rw [e3] at c3 <;>
    simp only [(pV k).scalar, (aV k).scalar, (aV k).len, h1, h2, c3, ↓evD, evU, evL, Nat.reduceAdd, Nat.reduceSub, Nat.reduceMul, Nat.reduceLeDiff, Nat.reduceLT, Nat.reduceEqDiff, Nat.reduceBEq, reduceIte, reduceCtorEq, Int.reduceBEq, Int.reduceEq, Int.reduceLT, Int.reduceLE, Int.reduceGT, Int.reduceGE, Int.reduceAdd, Int.reduceSub, Int.reduceNeg, Int.reduceBNe, ite_true, ite_false, if_true, if_false, implies_true, forall_const]
theorem nlink_spec (base : Nat) (h : Hp) {k : Lk} (hs : SmK k) : CallA T base 21 [eL k] h = some (.bool (!lkB k), h) := by
  have hel : eL k = .agg [k.1.1, k.2.1] := rfl
  have hn := fun b m => link_spec b m hs
  rw [hel] at hn
  rw [S21, hel]
  cases e : lkB k <;> rw [e] at hn <;> simp only [(pV k).scalar, (aV k).scalar, hn, ↓evD, evU, evL, Nat.reduceAdd, Nat.reduceSub, Nat.reduceMul, Nat.reduceLeDiff, Nat.reduceLT, Nat.reduceEqDiff, Nat.reduceBEq, reduceIte, reduceCtorEq, Int.reduceBEq, Int.reduceEq, Int.reduceLT, Int.reduceLE, Int.reduceGT, Int.reduceGE, Int.reduceAdd, Int.reduceSub, Int.reduceNeg, Int.reduceBNe, ite_true, ite_false, if_true, if_false, implies_true, forall_const]
theorem idxL_loop {h : Hp} {b : PV} {l : List Lk} (hb : Rl eL 2 b l) (hl : l.length ≤ 10000) (hs : ∀ p ∈ l, SmK p) : ∀ (r q : List Lk), l = q ++ r →
    ∃ n : Int, P43_0 (size h) (size h) (i64 q.length) b (.fn 21 []) (i64 l.length) h = some (i64 n, h) ∧ decide (n ≥ 0) = !(r.all lkB)
  | [], q, hp => by
    have e : q.length = l.length := by rw [hp]; simp
    have h1 : ((q.length : Int) < (l.length : Int)) = False := by simp; omega
    refine ⟨-1, ?_, rfl⟩
    rw [P43_0_eq]
    simp only [h1, ↓evD, evU, evL, Nat.reduceAdd, Nat.reduceSub, Nat.reduceMul, Nat.reduceLeDiff, Nat.reduceLT, Nat.reduceEqDiff, Nat.reduceBEq, reduceIte, reduceCtorEq, Int.reduceBEq, Int.reduceEq, Int.reduceLT, Int.reduceLE, Int.reduceGT, Int.reduceGE, Int.reduceAdd, Int.reduceSub, Int.reduceNeg, Int.reduceBNe, ite_true, ite_false, if_true, if_false, implies_true, forall_const]
  | x :: r, q, hp => by
    have el : l.length = q.length + (r.length + 1) := by rw [hp]; simp
    have h1 : ((q.length : Int) < (l.length : Int)) = True := by simp; omega
    have hx : l[q.length]? = some x := by rw [hp]; simp
    have w1 : IntKind.i64.wrap ((q.length : Int) + 1) = (((q ++ [x]).length : Nat) : Int) := by rw [show (q ++ [x]).length = q.length + 1 by simp, wrap_small] <;> omega
    obtain ⟨n, i1, i2⟩ := idxL_loop (h := h) hb hl hs r (q ++ [x]) (by rw [hp]; simp)
    have hq := fun b k => nlink_spec b k (hs x (by rw [hp]; simp))
    have hep : eL x = .agg [x.1.1, x.2.1] := rfl
    rw [hep] at hq
    cases e : lkB x <;> rw [e] at hq
    · refine ⟨q.length, ?_, ?_⟩
      · rw [P43_0_eq]
        simp only [h1, hb.idx hx, ecL, hq, List.append_nil, ↓evD, evU, evL, Nat.reduceAdd, Nat.reduceSub, Nat.reduceMul, Nat.reduceLeDiff, Nat.reduceLT, Nat.reduceEqDiff, Nat.reduceBEq, reduceIte, reduceCtorEq, Int.reduceBEq, Int.reduceEq, Int.reduceLT, Int.reduceLE, Int.reduceGT, Int.reduceGE, Int.reduceAdd, Int.reduceSub, Int.reduceNeg, Int.reduceBNe, ite_true, ite_false, if_true, if_false, implies_true, forall_const]
      · rw [List.all_cons, e]; simp
    · refine ⟨n, ?_, ?_⟩
      · rw [P43_0_eq]
        simp only [h1, hb.idx hx, ecL, hq, w1, i1, List.append_nil, ↓evD, evU, evL, Nat.reduceAdd, Nat.reduceSub, Nat.reduceMul, Nat.reduceLeDiff, Nat.reduceLT, Nat.reduceEqDiff, Nat.reduceBEq, reduceIte, reduceCtorEq, Int.reduceBEq, Int.reduceEq, Int.reduceLT, Int.reduceLE, Int.reduceGT, Int.reduceGE, Int.reduceAdd, Int.reduceSub, Int.reduceNeg, Int.reduceBNe, ite_true, ite_false, if_true, if_false, implies_true, forall_const]
      · rw [List.all_cons, e, Bool.true_and]; exact i2
theorem anyL_spec {h : Hp} {base : Nat} {b : PV} {l : List Lk} (hb : Rl eL 2 b l) (hl : l.length ≤ 10000) (hs : ∀ p ∈ l, SmK p) : CallA T base 20 [b, .fn 21 []] h = some (.bool (!(l.all lkB)), h) := by
  have h60 : ∀ base h, ∃ n : Int, CallA T base 43 [b, .fn 21 []] h = some (i64 n, h) ∧ decide (n ≥ 0) = !(l.all lkB) := by
    intro base h
    obtain ⟨n, h1, h2⟩ := idxL_loop (h := h) hb hl hs l [] rfl
    refine ⟨n, ?_, h2⟩
    rw [S43]
    simp only [hb.len, ↓evD, evU, evL, Nat.reduceAdd, Nat.reduceSub, Nat.reduceMul, Nat.reduceLeDiff, Nat.reduceLT, Nat.reduceEqDiff, Nat.reduceBEq, reduceIte, reduceCtorEq, Int.reduceBEq, Int.reduceEq, Int.reduceLT, Int.reduceLE, Int.reduceGT, Int.reduceGE, Int.reduceAdd, Int.reduceSub, Int.reduceNeg, Int.reduceBNe, ite_true, ite_false, if_true, if_false, implies_true, forall_const]
    exact h1
  rw [S20]
  obtain ⟨n, h1, h2⟩ := h60 (size h) h
  simp only [h1, h2, ↓evD, evU, evL, Nat.reduceAdd, Nat.reduceSub, Nat.reduceMul, Nat.reduceLeDiff, Nat.reduceLT, Nat.reduceEqDiff, Nat.reduceBEq, reduceIte, reduceCtorEq, Int.reduceBEq, Int.reduceEq, Int.reduceLT, Int.reduceLE, Int.reduceGT, Int.reduceGE, Int.reduceAdd, Int.reduceSub, Int.reduceNeg, Int.reduceBNe, ite_true, ite_false, if_true, if_false, implies_true, forall_const]
theorem rightL_spec (base : Nat) (h : Hp) {b : PV} {l : List Lk} (hb : Rl eL 2 b l) (hl : l.length ≤ 10000) (hs : ∀ p ∈ l, SmK p) : CallA T base 10 [b] h = some (.bool (rgB l), h) := by
  have h1 := fun c m => anyL_spec (base := c) (h := m) hb hl hs
  have c3 : decide ((l.length : Int) ≤ 64) = decide (l.length ≤ 64) := by
    by_cases hq : l.length ≤ 64
    · rw [decide_eq_true hq, decide_eq_true (by omega)]
    · rw [decide_eq_false hq, decide_eq_false (by omega)]
  rw [S10]
  unfold rgB
  cases e1 : l.all lkB <;> rw [e1] at h1 <;> cases e3 : decide (l.length ≤ 64) <;> rw [e3] at c3 <;> simp only [hb.len, h1, c3, ↓evD, evU, evL, Nat.reduceAdd, Nat.reduceSub, Nat.reduceMul, Nat.reduceLeDiff, Nat.reduceLT, Nat.reduceEqDiff, Nat.reduceBEq, reduceIte, reduceCtorEq, Int.reduceBEq, Int.reduceEq, Int.reduceLT, Int.reduceLE, Int.reduceGT, Int.reduceGE, Int.reduceAdd, Int.reduceSub, Int.reduceNeg, Int.reduceBNe, ite_true, ite_false, if_true, if_false, implies_true, forall_const]
/-- The reference's. -/
theorem rgR_in {h : Hp} {b : PV} {l : List Lk} (hb : Rl eL 2 b l) (hl : l.length ≤ 64) {i : Nat} {k : Lk} (hk : l[i]? = some k) (hn : (aL k).length ≤ 8) (hs : ∀ p ∈ aL k, SmP p)
    {R : Option (PV × Hp)} (hR : ∀ H, Hg h H → P11_0 (size h) (size h) (i64 ((i + 1 : Nat) : Int)) b H = R) :
    ∀ (r q : List Pr) (H : Hp), Hg h H → aL k = q ++ r → P11_1 (size h) (size h) (i64 q.length) (i64 i) b H = if r.all prB then R else some (.bool false, h)
  | [], q, H, g, hp => by
    rw [P11_1_eq]
    have hi : i < l.length := by
      rcases Nat.lt_or_ge i l.length with h | h
      · exact h
      · rw [List.getElem?_eq_none h] at hk; cases hk
    have e : q.length = (aL k).length := by rw [hp]; simp
    have h1 : ((q.length : Int) < ((aL k).length : Int)) = False := by simp; omega
    have w1 : IntKind.i64.wrap ((i : Int) + 1) = ((i + 1 : Nat) : Int) := by rw [wrap_small] <;> omega
    simp only [hb.idx hk, ecL, (aV k).len, h1, w1, List.all_nil, hR H g, ↓evD, evU, evL, Nat.reduceAdd, Nat.reduceSub, Nat.reduceMul, Nat.reduceLeDiff, Nat.reduceLT, Nat.reduceEqDiff, Nat.reduceBEq, reduceIte, reduceCtorEq, Int.reduceBEq, Int.reduceEq, Int.reduceLT, Int.reduceLE, Int.reduceGT, Int.reduceGE, Int.reduceAdd, Int.reduceSub, Int.reduceNeg, Int.reduceBNe, ite_true, ite_false, if_true, if_false, implies_true, forall_const]
  | x :: r, q, H, g, hp => by
    rw [P11_1_eq]
    have el : (aL k).length = q.length + (r.length + 1) := by rw [hp]; simp
    have h1 : ((q.length : Int) < ((aL k).length : Int)) = True := by simp; omega
    have hx : (aL k)[q.length]? = some x := by rw [hp]; simp
    have w1 : IntKind.i64.wrap ((q.length : Int) + 1) = (((q ++ [x]).length : Nat) : Int) := by rw [show (q ++ [x]).length = q.length + 1 by simp, wrap_small] <;> omega
    have g1 := g.ext [.cells [.str x.1, .str x.2.1, .bool x.2.2]]
    have ih := rgR_in hb hl hk hn hs hR r (q ++ [x]) _ g1 (by rw [hp]; simp)
    obtain ⟨s1, s2⟩ := hs x (by rw [hp]; simp)
    have hn1 := fun b m => named_spec (base := b) (h := m) x.1 (by omega)
    have hv1 := fun b m => valued_spec (base := b) (h := m) x.2.1 (by omega)
    cases e1 : nmB x.1 <;> rw [e1] at hn1
    · have : prB x = false := by unfold prB; rw [e1]; rfl
      simp only [hb.idx hk, ecL, (aV k).len, h1, (aV k).idx hx, ecP, g.lt, hn1, g1.tr, List.all_cons, this, ↓evD, evU, evL, Nat.reduceAdd, Nat.reduceSub, Nat.reduceMul, Nat.reduceLeDiff, Nat.reduceLT, Nat.reduceEqDiff, Nat.reduceBEq, reduceIte, reduceCtorEq, Int.reduceBEq, Int.reduceEq, Int.reduceLT, Int.reduceLE, Int.reduceGT, Int.reduceGE, Int.reduceAdd, Int.reduceSub, Int.reduceNeg, Int.reduceBNe, ite_true, ite_false, if_true, if_false, implies_true, forall_const]
    cases e2 : vlB x.2.1 <;> rw [e2] at hv1
    · have : prB x = false := by
        unfold prB; rw [e1, e2]
        cases e3 : x.2.2
        · rfl
        · have : (x.2.1 == []) = false := by
            cases e4 : (x.2.1 == [])
            · rfl
            · rw [beq_iff_eq] at e4; rw [e4] at e2; cases e2
          rw [this]; rfl
      simp only [hb.idx hk, ecL, (aV k).len, h1, (aV k).idx hx, ecP, g.lt, hn1, hv1, g1.tr, List.all_cons, this, ↓evD, evU, evL, Nat.reduceAdd, Nat.reduceSub, Nat.reduceMul, Nat.reduceLeDiff, Nat.reduceLT, Nat.reduceEqDiff, Nat.reduceBEq, reduceIte, reduceCtorEq, Int.reduceBEq, Int.reduceEq, Int.reduceLT, Int.reduceLE, Int.reduceGT, Int.reduceGE, Int.reduceAdd, Int.reduceSub, Int.reduceNeg, Int.reduceBNe, ite_true, ite_false, if_true, if_false, implies_true, forall_const]
    cases e3 : x.2.2
    · have : prB x = true := by unfold prB; rw [e1, e2, e3]; rfl
      simp only [e3] at g1 ih
      simp only [hb.idx hk, ecL, (aV k).len, h1, (aV k).idx hx, ecP, g.lt, hn1, hv1, e3, g1.tr, w1, ih, List.all_cons, this, ↓evD, evU, evL, Nat.reduceAdd, Nat.reduceSub, Nat.reduceMul, Nat.reduceLeDiff, Nat.reduceLT, Nat.reduceEqDiff, Nat.reduceBEq, reduceIte, reduceCtorEq, Int.reduceBEq, Int.reduceEq, Int.reduceLT, Int.reduceLE, Int.reduceGT, Int.reduceGE, Int.reduceAdd, Int.reduceSub, Int.reduceNeg, Int.reduceBNe, ite_true, ite_false, if_true, if_false, implies_true, forall_const]
    · simp only [e3] at g1 ih
      cases e4 : (x.2.1 == [])
      · have : prB x = false := by unfold prB; rw [e1, e3, e4]; rfl
        simp only [hb.idx hk, ecL, (aV k).len, h1, (aV k).idx hx, ecP, g.lt, hn1, hv1, e3, e4, bne, g1.tr, w1, ih, List.all_cons, this, ↓evD, evU, evL, Nat.reduceAdd, Nat.reduceSub, Nat.reduceMul, Nat.reduceLeDiff, Nat.reduceLT, Nat.reduceEqDiff, Nat.reduceBEq, reduceIte, reduceCtorEq, Int.reduceBEq, Int.reduceEq, Int.reduceLT, Int.reduceLE, Int.reduceGT, Int.reduceGE, Int.reduceAdd, Int.reduceSub, Int.reduceNeg, Int.reduceBNe, ite_true, ite_false, if_true, if_false, implies_true, forall_const]
      · have : prB x = true := by unfold prB; rw [e1, e3, e4]; rfl
        simp only [hb.idx hk, ecL, (aV k).len, h1, (aV k).idx hx, ecP, g.lt, hn1, hv1, e3, e4, bne, g1.tr, w1, ih, List.all_cons, this, ↓evD, evU, evL, Nat.reduceAdd, Nat.reduceSub, Nat.reduceMul, Nat.reduceLeDiff, Nat.reduceLT, Nat.reduceEqDiff, Nat.reduceBEq, reduceIte, reduceCtorEq, Int.reduceBEq, Int.reduceEq, Int.reduceLT, Int.reduceLE, Int.reduceGT, Int.reduceGE, Int.reduceAdd, Int.reduceSub, Int.reduceNeg, Int.reduceBNe, ite_true, ite_false, if_true, if_false, implies_true, forall_const]
theorem rgR_loop {h : Hp} {b : PV} {l : List Lk} (hb : Rl eL 2 b l) (hl : l.length ≤ 64) (hs : ∀ p ∈ l, SmK p) : ∀ (r q : List Lk) (H : Hp), Hg h H → l = q ++ r →
    P11_0 (size h) (size h) (i64 q.length) b H = some (.bool (r.all lkB), h)
  | [], q, H, g, hp => by
    rw [P11_0_eq]
    have e : q.length = l.length := by rw [hp]; simp
    have h1 : ((q.length : Int) < (l.length : Int)) = False := by simp; omega
    simp only [h1, hb.len, List.all_nil, g.tr, ↓evD, evU, evL, Nat.reduceAdd, Nat.reduceSub, Nat.reduceMul, Nat.reduceLeDiff, Nat.reduceLT, Nat.reduceEqDiff, Nat.reduceBEq, reduceIte, reduceCtorEq, Int.reduceBEq, Int.reduceEq, Int.reduceLT, Int.reduceLE, Int.reduceGT, Int.reduceGE, Int.reduceAdd, Int.reduceSub, Int.reduceNeg, Int.reduceBNe, ite_true, ite_false, if_true, if_false, implies_true, forall_const]
  | x :: r, q, H, g, hp => by
    rw [P11_0_eq]
    have el : l.length = q.length + (r.length + 1) := by rw [hp]; simp
    have h1 : ((q.length : Int) < (l.length : Int)) = True := by simp; omega
    have hx : l[q.length]? = some x := by rw [hp]; simp
    have sx := hs x (by rw [hp]; simp)
    have hr := fun b m => rightR_spec (base := b) (h := m) (pV x).rl (by have := sx.p; omega)
    cases e1 : rightB (pL x) <;> rw [e1] at hr
    · have : lkB x = false := by unfold lkB; rw [e1]; rfl
      simp only [h1, hb.len, hb.idx hx, ecL, hr, g.tr, List.all_cons, this, ↓evD, evU, evL, Nat.reduceAdd, Nat.reduceSub, Nat.reduceMul, Nat.reduceLeDiff, Nat.reduceLT, Nat.reduceEqDiff, Nat.reduceBEq, reduceIte, reduceCtorEq, Int.reduceBEq, Int.reduceEq, Int.reduceLT, Int.reduceLE, Int.reduceGT, Int.reduceGE, Int.reduceAdd, Int.reduceSub, Int.reduceNeg, Int.reduceBNe, ite_true, ite_false, if_true, if_false, implies_true, forall_const]
    by_cases c2 : ((aL x).length : Int) > 8
    · have : lkB x = false := by unfold lkB; rw [decide_eq_false (by omega : ¬ (aL x).length ≤ 8)]; simp
      simp only [h1, hb.len, hb.idx hx, ecL, hr, (aV x).len, c2, g.tr, List.all_cons, this, ↓evD, evU, evL, Nat.reduceAdd, Nat.reduceSub, Nat.reduceMul, Nat.reduceLeDiff, Nat.reduceLT, Nat.reduceEqDiff, Nat.reduceBEq, reduceIte, reduceCtorEq, Int.reduceBEq, Int.reduceEq, Int.reduceLT, Int.reduceLE, Int.reduceGT, Int.reduceGE, Int.reduceAdd, Int.reduceSub, Int.reduceNeg, Int.reduceBNe, ite_true, ite_false, if_true, if_false, implies_true, forall_const]
    have ih := fun H g => rgR_loop (h := h) hb hl hs r (q ++ [x]) H g (by rw [hp]; simp)
    rw [show (q ++ [x]).length = q.length + 1 by simp] at ih
    have hin := rgR_in hb hl hx (by omega) sx.s ih (aL x) [] H g rfl
    have e3 : lkB x = (aL x).all prB := by
      unfold lkB
      rw [decide_eq_true (by omega : (aL x).length ≤ 8), e1]; rfl
    simp only [h1, hb.len, hb.idx hx, ecL, hr, (aV x).len, c2, List.all_cons, e3, ↓evD, evU, evL, Nat.reduceAdd, Nat.reduceSub, Nat.reduceMul, Nat.reduceLeDiff, Nat.reduceLT, Nat.reduceEqDiff, Nat.reduceBEq, reduceIte, reduceCtorEq, Int.reduceBEq, Int.reduceEq, Int.reduceLT, Int.reduceLE, Int.reduceGT, Int.reduceGE, Int.reduceAdd, Int.reduceSub, Int.reduceNeg, Int.reduceBNe, ite_true, ite_false, if_true, if_false, implies_true, forall_const]
    refine hin.trans ?_
    cases (aL x).all prB <;> rfl
theorem rightLR_spec (base : Nat) (h : Hp) {b : PV} {l : List Lk} (hb : Rl eL 2 b l) (hs : ∀ p ∈ l, SmK p) : CallA T base 11 [b] h = some (.bool (rgB l), h) := by
  rw [S11]
  unfold rgB
  by_cases h3 : l.length ≤ 64
  · have h1 : ((l.length : Int) > 64) = False := by simp; omega
    have := rgR_loop (h := h) hb h3 hs l [] h (Hg.refl h) rfl
    rw [decide_eq_true h3]
    simp only [hb.len, h1, ↓evD, evU, evL, Nat.reduceAdd, Nat.reduceSub, Nat.reduceMul, Nat.reduceLeDiff, Nat.reduceLT, Nat.reduceEqDiff, Nat.reduceBEq, reduceIte, reduceCtorEq, Int.reduceBEq, Int.reduceEq, Int.reduceLT, Int.reduceLE, Int.reduceGT, Int.reduceGE, Int.reduceAdd, Int.reduceSub, Int.reduceNeg, Int.reduceBNe, ite_true, ite_false, if_true, if_false, implies_true, forall_const]
    exact this
  · have h1 : ((l.length : Int) > 64) = True := by simp; omega
    rw [decide_eq_false h3]
    simp only [hb.len, h1, ↓evD, evU, evL, Nat.reduceAdd, Nat.reduceSub, Nat.reduceMul, Nat.reduceLeDiff, Nat.reduceLT, Nat.reduceEqDiff, Nat.reduceBEq, reduceIte, reduceCtorEq, Int.reduceBEq, Int.reduceEq, Int.reduceLT, Int.reduceLE, Int.reduceGT, Int.reduceGE, Int.reduceAdd, Int.reduceSub, Int.reduceNeg, Int.reduceBNe, ite_true, ite_false, if_true, if_false, implies_true, forall_const]
end Go.Am.YtdnbedldmkagmaaGreatDoor
namespace Go.Am.YtdnbedldmkagmaaGreatDoor
set_option maxRecDepth 100000
set_option linter.unusedSimpArgs false
set_option linter.unusedVariables false
open Go.Lib (itoa)
def valS (s : List UInt8) : List UInt8 := if plB s then s else 34 :: (s ++ [34])
def pairT (p : Pr) : List UInt8 := 59 :: p.1 ++ (if p.2.2 then [] else 61 :: valS p.2.1)
def pairsT (l : List Pr) : List UInt8 := l.flatMap pairT
noncomputable def linkT (k : Lk) : List UInt8 := 60 :: (textS (pL k) ++ 62 :: pairsT (aL k))
noncomputable def restT (l : List Lk) : List UInt8 := l.flatMap fun k => 44 :: linkT k
noncomputable def linksT : List Lk → List UInt8
  | [] => []
  | k :: l => linkT k ++ restT l
theorem pairsT_cons (p : Pr) (l : List Pr) : pairsT (p :: l) = pairT p ++ pairsT l := rfl
theorem value_spec (base : Nat) (h : Hp) (s : List UInt8) (hs : s.length ≤ 1000000) : CallA T base 38 [.str s] h = some (.str (valS s), h) := by
  rw [S38]; unfold valS plB
  have hr := fun b k => run_spec (base := b) (h := k) sim_spec s hs
  have ha := tw_all (q := simB) s
  have l1 : 1 + s.length ≤ limS := by unfold limS; omega
  have l2 : s.length + 1 + 1 ≤ limS := by unfold limS; omega
  cases e1 : (s == [])
  · cases e2 : s.all simB <;> rw [e2] at ha <;> simp only [e1, hr, ha, l1, l2, bne, ↓evD, evU, evL, Nat.reduceAdd, Nat.reduceSub, Nat.reduceMul, Nat.reduceLeDiff, Nat.reduceLT, Nat.reduceEqDiff, Nat.reduceBEq, reduceIte, reduceCtorEq, Int.reduceBEq, Int.reduceEq, Int.reduceLT, Int.reduceLE, Int.reduceGT, Int.reduceGE, Int.reduceAdd, Int.reduceSub, Int.reduceNeg, Int.reduceBNe, ite_true, ite_false, if_true, if_false, implies_true, forall_const]
  · simp only [e1, l1, l2, bne, ↓evD, evU, evL, Nat.reduceAdd, Nat.reduceSub, Nat.reduceMul, Nat.reduceLeDiff, Nat.reduceLT, Nat.reduceEqDiff, Nat.reduceBEq, reduceIte, reduceCtorEq, Int.reduceBEq, Int.reduceEq, Int.reduceLT, Int.reduceLE, Int.reduceGT, Int.reduceGE, Int.reduceAdd, Int.reduceSub, Int.reduceNeg, Int.reduceBNe, ite_true, ite_false, if_true, if_false, implies_true, forall_const]
theorem pairs_loop {h : Hp} {b : PV} {l : List Pr} (hb : Rl eP 3 b l) (hl : l.length ≤ 10000) (hs : ∀ p ∈ l, SmP p) : ∀ (r q : List Pr) (out : List UInt8) (H : Hp), Hg h H → l = q ++ r → out.length + (pairsT r).length ≤ 1000000 →
    P17_0 (size h) (size h) (i64 q.length) (.str out) b (i64 l.length) H = some (.str (out ++ pairsT r), h)
  | [], q, out, H, g, hp, ho => by
    rw [P17_0_eq]
    have e : q.length = l.length := by rw [hp]; simp
    have h1 : ((q.length : Int) < (l.length : Int)) = False := by simp; omega
    simp only [h1, g.tr, pairsT, List.flatMap_nil, List.append_nil, ↓evD, evU, evL, Nat.reduceAdd, Nat.reduceSub, Nat.reduceMul, Nat.reduceLeDiff, Nat.reduceLT, Nat.reduceEqDiff, Nat.reduceBEq, reduceIte, reduceCtorEq, Int.reduceBEq, Int.reduceEq, Int.reduceLT, Int.reduceLE, Int.reduceGT, Int.reduceGE, Int.reduceAdd, Int.reduceSub, Int.reduceNeg, Int.reduceBNe, ite_true, ite_false, if_true, if_false, implies_true, forall_const]
  | x :: r, q, out, H, g, hp, ho => by
    rw [P17_0_eq]
    have el : l.length = q.length + (r.length + 1) := by rw [hp]; simp
    have h1 : ((q.length : Int) < (l.length : Int)) = True := by simp; omega
    have hx : l[q.length]? = some x := by rw [hp]; simp
    have w1 : IntKind.i64.wrap ((q.length : Int) + 1) = (((q ++ [x]).length : Nat) : Int) := by rw [show (q ++ [x]).length = q.length + 1 by simp, wrap_small] <;> omega
    have g1 := g.ext [.cells [.str x.1, .str x.2.1, .bool x.2.2]]
    rw [pairsT_cons, List.length_append] at ho
    have sx := hs x (by rw [hp]; simp)
    have hv := fun b m => value_spec b m x.2.1 (by have := sx.2; omega)
    have l0 : 1 + x.1.length ≤ limS := by unfold limS; have := sx.1; omega
    obtain ⟨O1, hO1, lO1⟩ : ∃ O1, out ++ 59 :: x.1 = O1 ∧ O1.length = out.length + (x.1.length + 1) := ⟨_, rfl, by simp⟩
    cases e1 : x.2.2
    · have e2 : pairT x = 59 :: x.1 ++ 61 :: valS x.2.1 := by unfold pairT; rw [e1]; rfl
      rw [e2] at ho
      simp only [List.length_append, List.length_cons] at ho
      rw [e1] at g1
      have l1 : out.length + (x.1.length + 1) ≤ limS := by unfold limS; omega
      have l2 : 1 + (valS x.2.1).length ≤ limS := by unfold limS; omega
      have l3 : O1.length + ((valS x.2.1).length + 1) ≤ limS := by unfold limS; omega
      have ih := pairs_loop hb hl hs r (q ++ [x]) (O1 ++ 61 :: valS x.2.1) _ g1 (by rw [hp]; simp) (by simp only [List.length_append, List.length_cons]; omega)
      simp only [h1, hb.idx hx, ecP, g.lt, e1, hv, l0, l1, hO1, l2, l3, w1, ih, ↓evD, evU, evL, Nat.reduceAdd, Nat.reduceSub, Nat.reduceMul, Nat.reduceLeDiff, Nat.reduceLT, Nat.reduceEqDiff, Nat.reduceBEq, reduceIte, reduceCtorEq, Int.reduceBEq, Int.reduceEq, Int.reduceLT, Int.reduceLE, Int.reduceGT, Int.reduceGE, Int.reduceAdd, Int.reduceSub, Int.reduceNeg, Int.reduceBNe, ite_true, ite_false, if_true, if_false, implies_true, forall_const]
      rw [pairsT_cons, e2, ← hO1]
      simp
    · have e2 : pairT x = 59 :: x.1 := by unfold pairT; rw [e1]; simp
      rw [e2] at ho
      simp only [List.length_cons] at ho
      rw [e1] at g1
      have l1 : out.length + (x.1.length + 1) ≤ limS := by unfold limS; omega
      have ih := pairs_loop hb hl hs r (q ++ [x]) O1 _ g1 (by rw [hp]; simp) (by omega)
      simp only [h1, hb.idx hx, ecP, g.lt, e1, l0, l1, hO1, w1, ih, ↓evD, evU, evL, Nat.reduceAdd, Nat.reduceSub, Nat.reduceMul, Nat.reduceLeDiff, Nat.reduceLT, Nat.reduceEqDiff, Nat.reduceBEq, reduceIte, reduceCtorEq, Int.reduceBEq, Int.reduceEq, Int.reduceLT, Int.reduceLE, Int.reduceGT, Int.reduceGE, Int.reduceAdd, Int.reduceSub, Int.reduceNeg, Int.reduceBNe, ite_true, ite_false, if_true, if_false, implies_true, forall_const]
      rw [pairsT_cons, e2, ← hO1]
      simp
theorem linkT_len (k : Lk) : (linkT k).length = (textS (pL k)).length + (pairsT (aL k)).length + 2 := by
  unfold linkT; simp; omega
theorem text1_spec (base : Nat) (h : Hp) {k : Lk} (hs : SmK k) (ho : (linkT k).length ≤ 1000000) : CallA T base 17 [eL k] h = some (.str (linkT k), h) := by
  have hel : eL k = .agg [k.1.1, k.2.1] := rfl
  rw [linkT_len] at ho
  have ht := fun b m => text_spec (base := b) (h := m) (pV k).rl (by have := hs.p; omega)
  have l1 : 1 + (textS (pL k)).length ≤ limS := by unfold limS; omega
  have l2 : (textS (pL k)).length + 1 + 1 ≤ limS := by unfold limS; omega
  have g := (Hg.refl h).ext [.cells [k.1.1, k.2.1]]
  have hp := pairs_loop (aV k).rl hs.a hs.s (aL k) [] (60 :: (textS (pL k) ++ [62])) _ g rfl (by simp only [List.length_append, List.length_cons, List.length_nil]; omega)
  rw [S17, hel]
  simp only [(pV k).scalar, (aV k).scalar, (aV k).len, ht, l1, l2, ↓evD, evU, evL, Nat.reduceAdd, Nat.reduceSub, Nat.reduceMul, Nat.reduceLeDiff, Nat.reduceLT, Nat.reduceEqDiff, Nat.reduceBEq, reduceIte, reduceCtorEq, Int.reduceBEq, Int.reduceEq, Int.reduceLT, Int.reduceLE, Int.reduceGT, Int.reduceGE, Int.reduceAdd, Int.reduceSub, Int.reduceNeg, Int.reduceBNe, ite_true, ite_false, if_true, if_false, implies_true, forall_const]
  refine hp.trans ?_
  unfold linkT
  simp
/-- strings.Join. -/
theorem join_text : ∀ (l : List Lk), Lib.join (l.map linkT) [44] = linksT l
  | [] => rfl
  | [k] => by simp [Lib.join, linksT, restT, List.intercalate]
  | k :: m :: l => by
    have ih := join_text (m :: l)
    simp only [Lib.join, linksT, restT, List.intercalate, List.map_cons, List.intersperse_cons_cons, List.flatten_cons, List.flatMap_cons] at *
    rw [ih]
    simp
theorem eS_strs : ∀ l : List (List UInt8), strsOf (l.map eS) = some l
  | [] => rfl
  | x :: l => by
    show (match strsOf (l.map eS) with | some l => some (x :: l) | none => none) = _
    rw [eS_strs l]
theorem join_spec (base : Nat) (k : Hp) {v : PV} {l : List (List UInt8)} (hv : (l.map eS = [] ∧ v = .nils) ∨ ∃ t, v = .sl (.tok t) 1 (l.map eS)) (hl : l.length ≤ 10000) (hn : (Lib.join l [44]).length ≤ 140737488355328) :
    CallA T base 18 [v, .str [44]] k = some (.str (Lib.join l [44]), k) := by
  rw [CallA_prim T_18]
  rcases hv with ⟨h1, rfl⟩ | ⟨t, rfl⟩
  · cases l with
    | nil => rfl
    | cons x l => cases h1
  · have main : pJoin [.sl (.tok t) 1 (l.map eS), .str [44]] = some (.str (Lib.join l [44])) := by
      simp only [pJoin, eS_strs]
      rw [if_pos ⟨by unfold lim2; omega, hn⟩]
    rw [main]; rfl
end Go.Am.YtdnbedldmkagmaaGreatDoor
namespace Go.Am.YtdnbedldmkagmaaGreatDoor
set_option maxRecDepth 100000
set_option linter.unusedSimpArgs false
set_option linter.unusedVariables false
open Go.Lib (itoa)
theorem write_loop {h : Hp} {b : PV} {l : List Lk} (hb : Rl eL 2 b l) (hl : l.length ≤ 64) (hs : ∀ p ∈ l, SmK p) (hn : (linksT l).length ≤ 1000000) (hk : ∀ k ∈ l, (linkT k).length ≤ 1000000) :
    ∀ (r q : List Lk) (v : PV) (H : Hp), l = q ++ r → GS h 9 1 .nils v ((q.map linkT).map eS) H →
    P8_0 (size h) (size h) (i64 q.length) v b (i64 l.length) H = some (.tup [.str (linksT l), i64 0], h)
  | [], q, v, H, hp, g => by
    rw [P8_0_eq]
    have e : q.length = l.length := by rw [hp]; simp
    have h1 : ((q.length : Int) < (l.length : Int)) = False := by simp; omega
    have hq : q = l := by rw [hp]; simp
    subst hq
    have hj := fun c => join_spec c H (v := v) (l := q.map linkT) (by
      rcases g.va with ⟨a1, a2⟩ | ⟨_, t, a2, _⟩
      · exact .inl ⟨a1, a2⟩
      · exact .inr ⟨t, a2⟩) (by rw [List.length_map]; omega) (by rw [join_text]; omega)
    rw [join_text] at hj
    simp only [h1, hj, g.tr, ↓evD, evU, evL, Nat.reduceAdd, Nat.reduceSub, Nat.reduceMul, Nat.reduceLeDiff, Nat.reduceLT, Nat.reduceEqDiff, Nat.reduceBEq, reduceIte, reduceCtorEq, Int.reduceBEq, Int.reduceEq, Int.reduceLT, Int.reduceLE, Int.reduceGT, Int.reduceGE, Int.reduceAdd, Int.reduceSub, Int.reduceNeg, Int.reduceBNe, ite_true, ite_false, if_true, if_false, implies_true, forall_const]
  | x :: r, q, v, H, hp, g => by
    rw [P8_0_eq]
    have el : l.length = q.length + (r.length + 1) := by rw [hp]; simp
    have h1 : ((q.length : Int) < (l.length : Int)) = True := by simp; omega
    have hx : l[q.length]? = some x := by rw [hp]; simp
    have w1 : IntKind.i64.wrap ((q.length : Int) + 1) = (((q ++ [x]).length : Nat) : Int) := by rw [show (q ++ [x]).length = q.length + 1 by simp, wrap_small] <;> omega
    have n1 : (size H < size h) = False := by have := g.le; simp; omega
    have g1 := g.ext [.cells [x.1.1, x.2.1]]
    obtain ⟨v', H', e1, g2⟩ := g1.grow (gZ_nils 1) (x := eS (linkT x)) (by simpa using elS.fits [linkT x]) (elS.st _) (by unfold lim2; simp; omega)
    have g3 : GS h 9 1 .nils v' (((q ++ [x]).map linkT).map eS) H' := by rw [List.map_append, List.map_append]; exact g2
    have ih := write_loop hb hl hs hn hk r (q ++ [x]) v' H' (by rw [hp]; simp) g3
    have ht := fun c m => text1_spec c m (hs x (by rw [hp]; simp)) (hk x (by rw [hp]; simp))
    have hel : eL x = .agg [x.1.1, x.2.1] := rfl
    rw [hel] at ht
    have e4 : eS (linkT x) = .str (linkT x) := rfl
    rw [e4] at e1
    simp only [h1, hb.idx hx, ecL, n1, (pV x).scalar, (aV x).scalar, (pV x).strip, (aV x).strip, ht, e1, w1, ih, ↓evD, evU, evL, Nat.reduceAdd, Nat.reduceSub, Nat.reduceMul, Nat.reduceLeDiff, Nat.reduceLT, Nat.reduceEqDiff, Nat.reduceBEq, reduceIte, reduceCtorEq, Int.reduceBEq, Int.reduceEq, Int.reduceLT, Int.reduceLE, Int.reduceGT, Int.reduceGE, Int.reduceAdd, Int.reduceSub, Int.reduceNeg, Int.reduceBNe, ite_true, ite_false, if_true, if_false, implies_true, forall_const]
theorem write_spec (base : Nat) (h : Hp) {b : PV} {l : List Lk} (hb : Rl eL 2 b l) (hl : l.length ≤ 10000) (hs : ∀ p ∈ l, SmK p) (hn : rgB l = true → (linksT l).length ≤ 1000000) (hk : rgB l = true → ∀ k ∈ l, (linkT k).length ≤ 1000000) :
    CallA T base 8 [b] h = some (.tup [.str (if rgB l then linksT l else []), i64 (if rgB l then 0 else 1)], h) := by
  have hr := fun c m => rightL_spec c m hb hl hs
  rw [S8]
  cases e : rgB l <;> rw [e] at hr
  · simp only [hr, ↓evD, evU, evL, Nat.reduceAdd, Nat.reduceSub, Nat.reduceMul, Nat.reduceLeDiff, Nat.reduceLT, Nat.reduceEqDiff, Nat.reduceBEq, reduceIte, reduceCtorEq, Int.reduceBEq, Int.reduceEq, Int.reduceLT, Int.reduceLE, Int.reduceGT, Int.reduceGE, Int.reduceAdd, Int.reduceSub, Int.reduceNeg, Int.reduceBNe, ite_true, ite_false, if_true, if_false, implies_true, forall_const]
  · have h64 : l.length ≤ 64 := by
      unfold rgB at e
      rw [Bool.and_eq_true, decide_eq_true_eq] at e
      exact e.1
    have := write_loop (h := h) hb h64 hs (hn e) (hk e) l [] .nils h rfl (GS.zero h 9 1 .nils)
    simp only [hr, hb.len, ↓evD, evU, evL, Nat.reduceAdd, Nat.reduceSub, Nat.reduceMul, Nat.reduceLeDiff, Nat.reduceLT, Nat.reduceEqDiff, Nat.reduceBEq, reduceIte, reduceCtorEq, Int.reduceBEq, Int.reduceEq, Int.reduceLT, Int.reduceLE, Int.reduceGT, Int.reduceGE, Int.reduceAdd, Int.reduceSub, Int.reduceNeg, Int.reduceBNe, ite_true, ite_false, if_true, if_false, implies_true, forall_const]
    exact this
/-- The reference's. -/
theorem wrR_in {h : Hp} {b : PV} {l : List Lk} (hb : Rl eL 2 b l) (hl : l.length ≤ 64) {i : Nat} {k : Lk} (hk : l[i]? = some k) (hn : (aL k).length ≤ 10000) (hs : ∀ p ∈ aL k, SmP p) {O : List UInt8} (hO : O.length ≤ 1000000)
    {R : Option (PV × Hp)} (hR : ∀ H, Hg h H → P9_0 (size h) (size h) (i64 ((i + 1 : Nat) : Int)) b (.str O) H = R) :
    ∀ (r q : List Pr) (out : List UInt8) (H : Hp), Hg h H → aL k = q ++ r → out ++ pairsT r = O → P9_2 (size h) (size h) (i64 q.length) (.str out) (i64 i) b H = R
  | [], q, out, H, g, hp, ho => by
    rw [P9_2_eq]
    have hi : i < l.length := by
      rcases Nat.lt_or_ge i l.length with h | h
      · exact h
      · rw [List.getElem?_eq_none h] at hk; cases hk
    have e : q.length = (aL k).length := by rw [hp]; simp
    have h1 : ((q.length : Int) < ((aL k).length : Int)) = False := by simp; omega
    have w1 : IntKind.i64.wrap ((i : Int) + 1) = ((i + 1 : Nat) : Int) := by rw [wrap_small] <;> omega
    have ho' : out = O := by rw [← ho]; simp [pairsT]
    subst ho'
    simp only [hb.idx hk, ecL, (aV k).len, h1, w1, hR H g, ↓evD, evU, evL, Nat.reduceAdd, Nat.reduceSub, Nat.reduceMul, Nat.reduceLeDiff, Nat.reduceLT, Nat.reduceEqDiff, Nat.reduceBEq, reduceIte, reduceCtorEq, Int.reduceBEq, Int.reduceEq, Int.reduceLT, Int.reduceLE, Int.reduceGT, Int.reduceGE, Int.reduceAdd, Int.reduceSub, Int.reduceNeg, Int.reduceBNe, ite_true, ite_false, if_true, if_false, implies_true, forall_const]
  | x :: r, q, out, H, g, hp, ho => by
    rw [P9_2_eq]
    have el : (aL k).length = q.length + (r.length + 1) := by rw [hp]; simp
    have h1 : ((q.length : Int) < ((aL k).length : Int)) = True := by simp; omega
    have hx : (aL k)[q.length]? = some x := by rw [hp]; simp
    have w1 : IntKind.i64.wrap ((q.length : Int) + 1) = (((q ++ [x]).length : Nat) : Int) := by rw [show (q ++ [x]).length = q.length + 1 by simp, wrap_small] <;> omega
    have g1 := g.ext [.cells [.str x.1, .str x.2.1, .bool x.2.2]]
    have sx := hs x (by rw [hp]; simp)
    have hv := fun b m => plain_spec (base := b) (h := m) x.2.1 (by have := sx.2; omega)
    have hlen := congrArg List.length ho
    rw [pairsT_cons] at ho hlen
    obtain ⟨A1, hA1, lA1⟩ : ∃ A, out ++ [59] = A ∧ A.length = out.length + 1 := ⟨_, rfl, by simp⟩
    obtain ⟨A2, hA2, lA2⟩ : ∃ A, A1 ++ x.1 = A ∧ A.length = A1.length + x.1.length := ⟨_, rfl, by simp⟩
    have l1 : out.length + 1 ≤ limS := by unfold limS; simp only [List.length_append] at hlen; omega
    cases e1 : x.2.2
    · cases e2 : plB x.2.1 <;> rw [e2] at hv
      · have e3 : pairT x = 59 :: x.1 ++ 61 :: 34 :: (x.2.1 ++ [34]) := by unfold pairT valS; rw [e1, e2]; rfl
        rw [e3] at ho hlen
        simp only [List.length_append, List.length_cons, List.length_nil] at hlen
        obtain ⟨A3, hA3, lA3⟩ : ∃ A, A2 ++ [61, 34] = A ∧ A.length = A2.length + 2 := ⟨_, rfl, by simp⟩
        obtain ⟨A4, hA4, lA4⟩ : ∃ A, A3 ++ x.2.1 = A ∧ A.length = A3.length + x.2.1.length := ⟨_, rfl, by simp⟩
        obtain ⟨A5, hA5, lA5⟩ : ∃ A, A4 ++ [34] = A ∧ A.length = A4.length + 1 := ⟨_, rfl, by simp⟩
        have l2 : A1.length + x.1.length ≤ limS := by unfold limS; omega
        have l3 : A2.length + 2 ≤ limS := by unfold limS; omega
        have l4 : A3.length + x.2.1.length ≤ limS := by unfold limS; omega
        have l5 : A4.length + 1 ≤ limS := by unfold limS; omega
        rw [e1] at g1
        have ih := wrR_in hb hl hk hn hs hO hR r (q ++ [x]) A5 _ g1 (by rw [hp]; simp) (by rw [← ho, ← hA5, ← hA4, ← hA3, ← hA2, ← hA1]; simp)
        simp only [hb.idx hk, ecL, (aV k).len, h1, (aV k).idx hx, ecP, g.lt, e1, hv, l1, hA1, l2, hA2, l3, hA3, l4, hA4, l5, hA5, w1, ih, ↓evD, evU, evL, Nat.reduceAdd, Nat.reduceSub, Nat.reduceMul, Nat.reduceLeDiff, Nat.reduceLT, Nat.reduceEqDiff, Nat.reduceBEq, reduceIte, reduceCtorEq, Int.reduceBEq, Int.reduceEq, Int.reduceLT, Int.reduceLE, Int.reduceGT, Int.reduceGE, Int.reduceAdd, Int.reduceSub, Int.reduceNeg, Int.reduceBNe, ite_true, ite_false, if_true, if_false, implies_true, forall_const]
      · have e3 : pairT x = 59 :: x.1 ++ 61 :: x.2.1 := by unfold pairT valS; rw [e1, e2]; rfl
        rw [e3] at ho hlen
        simp only [List.length_append, List.length_cons, List.length_nil] at hlen
        obtain ⟨A3, hA3, lA3⟩ : ∃ A, A2 ++ [61] = A ∧ A.length = A2.length + 1 := ⟨_, rfl, by simp⟩
        obtain ⟨A4, hA4, lA4⟩ : ∃ A, A3 ++ x.2.1 = A ∧ A.length = A3.length + x.2.1.length := ⟨_, rfl, by simp⟩
        have l2 : A1.length + x.1.length ≤ limS := by unfold limS; omega
        have l3 : A2.length + 1 ≤ limS := by unfold limS; omega
        have l4 : A3.length + x.2.1.length ≤ limS := by unfold limS; omega
        rw [e1] at g1
        have ih := wrR_in hb hl hk hn hs hO hR r (q ++ [x]) A4 _ g1 (by rw [hp]; simp) (by rw [← ho, ← hA4, ← hA3, ← hA2, ← hA1]; simp)
        simp only [hb.idx hk, ecL, (aV k).len, h1, (aV k).idx hx, ecP, g.lt, e1, hv, l1, hA1, l2, hA2, l3, hA3, l4, hA4, w1, ih, ↓evD, evU, evL, Nat.reduceAdd, Nat.reduceSub, Nat.reduceMul, Nat.reduceLeDiff, Nat.reduceLT, Nat.reduceEqDiff, Nat.reduceBEq, reduceIte, reduceCtorEq, Int.reduceBEq, Int.reduceEq, Int.reduceLT, Int.reduceLE, Int.reduceGT, Int.reduceGE, Int.reduceAdd, Int.reduceSub, Int.reduceNeg, Int.reduceBNe, ite_true, ite_false, if_true, if_false, implies_true, forall_const]
    · have e3 : pairT x = 59 :: x.1 := by unfold pairT; rw [e1]; simp
      rw [e3] at ho hlen
      simp only [List.length_append, List.length_cons, List.length_nil] at hlen
      have l2 : A1.length + x.1.length ≤ limS := by unfold limS; omega
      rw [e1] at g1
      have ih := wrR_in hb hl hk hn hs hO hR r (q ++ [x]) A2 _ g1 (by rw [hp]; simp) (by rw [← ho, ← hA2, ← hA1]; simp)
      simp only [hb.idx hk, ecL, (aV k).len, h1, (aV k).idx hx, ecP, g.lt, e1, l1, hA1, l2, hA2, w1, ih, ↓evD, evU, evL, Nat.reduceAdd, Nat.reduceSub, Nat.reduceMul, Nat.reduceLeDiff, Nat.reduceLT, Nat.reduceEqDiff, Nat.reduceBEq, reduceIte, reduceCtorEq, Int.reduceBEq, Int.reduceEq, Int.reduceLT, Int.reduceLE, Int.reduceGT, Int.reduceGE, Int.reduceAdd, Int.reduceSub, Int.reduceNeg, Int.reduceBNe, ite_true, ite_false, if_true, if_false, implies_true, forall_const]
noncomputable def fromT : Nat → List Lk → List UInt8
  | 0, l => linksT l
  | _ + 1, l => restT l
theorem wrR_loop {h : Hp} {b : PV} {l : List Lk} (hb : Rl eL 2 b l) (hl : l.length ≤ 64) (hs : ∀ p ∈ l, SmK p) {O : List UInt8} (hO : O.length ≤ 1000000) : ∀ (r q : List Lk) (out : List UInt8) (H : Hp), Hg h H → l = q ++ r → out ++ fromT q.length r = O →
    P9_0 (size h) (size h) (i64 q.length) b (.str out) H = some (.tup [.str O, i64 0], h)
  | [], q, out, H, g, hp, ho => by
    rw [P9_0_eq]
    have e : q.length = l.length := by rw [hp]; simp
    have h1 : ((q.length : Int) < (l.length : Int)) = False := by simp; omega
    have ho' : out = O := by rw [← ho]; cases q.length <;> simp [fromT, linksT, restT]
    subst ho'
    simp only [h1, hb.len, g.tr, ↓evD, evU, evL, Nat.reduceAdd, Nat.reduceSub, Nat.reduceMul, Nat.reduceLeDiff, Nat.reduceLT, Nat.reduceEqDiff, Nat.reduceBEq, reduceIte, reduceCtorEq, Int.reduceBEq, Int.reduceEq, Int.reduceLT, Int.reduceLE, Int.reduceGT, Int.reduceGE, Int.reduceAdd, Int.reduceSub, Int.reduceNeg, Int.reduceBNe, ite_true, ite_false, if_true, if_false, implies_true, forall_const]
  | x :: r, q, out, H, g, hp, ho => by
    have el : l.length = q.length + (r.length + 1) := by rw [hp]; simp
    have h1 : ((q.length : Int) < (l.length : Int)) = True := by simp; omega
    have hx : l[q.length]? = some x := by rw [hp]; simp
    have sx := hs x (by rw [hp]; simp)
    have ht := fun b m => textR_spec (base := b) (h := m) (pV x).rl (by have := sx.p; omega)
    have key : ∀ o, o ++ linkT x ++ restT r = O → P9_1 (size h) (size h) (i64 q.length) b (.str o) H = some (.tup [.str O, i64 0], h) := by
      intro o ho
      rw [P9_1_eq]
      have hlen := congrArg List.length ho
      simp only [List.length_append, linkT_len] at hlen
      obtain ⟨A1, hA1, lA1⟩ : ∃ A, o ++ [60] = A ∧ A.length = o.length + 1 := ⟨_, rfl, by simp⟩
      obtain ⟨A2, hA2, lA2⟩ : ∃ A, A1 ++ textS (pL x) = A ∧ A.length = A1.length + (textS (pL x)).length := ⟨_, rfl, by simp⟩
      obtain ⟨A3, hA3, lA3⟩ : ∃ A, A2 ++ [62] = A ∧ A.length = A2.length + 1 := ⟨_, rfl, by simp⟩
      have l1 : o.length + 1 ≤ limS := by unfold limS; omega
      have l2 : A1.length + (textS (pL x)).length ≤ limS := by unfold limS; omega
      have l3 : A2.length + 1 ≤ limS := by unfold limS; omega
      have ho2 : A3 ++ pairsT (aL x) ++ restT r = O := by rw [← ho, ← hA3, ← hA2, ← hA1]; simp [linkT]
      have hR : ∀ H, Hg h H → P9_0 (size h) (size h) (i64 ((q.length + 1 : Nat) : Int)) b (.str (A3 ++ pairsT (aL x))) H = some (.tup [.str O, i64 0], h) := by
        intro H g
        have := wrR_loop hb hl hs hO r (q ++ [x]) (A3 ++ pairsT (aL x)) H g (by rw [hp]; simp) (by rw [show (q ++ [x]).length = q.length + 1 by simp]; exact ho2)
        rw [show (q ++ [x]).length = q.length + 1 by simp] at this
        exact this
      have hA : (A3 ++ pairsT (aL x)).length ≤ 1000000 := by rw [List.length_append]; omega
      have hin := wrR_in hb hl hx sx.a sx.s hA hR (aL x) [] A3 H g rfl rfl
      simp only [hb.idx hx, ecL, ht, l1, hA1, l2, hA2, l3, hA3, ↓evD, evU, evL, Nat.reduceAdd, Nat.reduceSub, Nat.reduceMul, Nat.reduceLeDiff, Nat.reduceLT, Nat.reduceEqDiff, Nat.reduceBEq, reduceIte, reduceCtorEq, Int.reduceBEq, Int.reduceEq, Int.reduceLT, Int.reduceLE, Int.reduceGT, Int.reduceGE, Int.reduceAdd, Int.reduceSub, Int.reduceNeg, Int.reduceBNe, ite_true, ite_false, if_true, if_false, implies_true, forall_const]
      exact hin
    rw [P9_0_eq]
    by_cases hq : q.length = 0
    · have h2 : ((q.length : Int) > 0) = False := eq_false (by omega)
      have := key out (by rw [← ho, hq]; simp [fromT, linksT])
      simp only [h1, h2, hb.len, this, ↓evD, evU, evL, Nat.reduceAdd, Nat.reduceSub, Nat.reduceMul, Nat.reduceLeDiff, Nat.reduceLT, Nat.reduceEqDiff, Nat.reduceBEq, reduceIte, reduceCtorEq, Int.reduceBEq, Int.reduceEq, Int.reduceLT, Int.reduceLE, Int.reduceGT, Int.reduceGE, Int.reduceAdd, Int.reduceSub, Int.reduceNeg, Int.reduceBNe, ite_true, ite_false, if_true, if_false, implies_true, forall_const]
    · have h2 : ((q.length : Int) > 0) = True := eq_true (by omega)
      have e2 : fromT q.length (x :: r) = 44 :: linkT x ++ restT r := by
        obtain ⟨n, hn⟩ : ∃ n, q.length = n + 1 := ⟨q.length - 1, by omega⟩
        rw [hn]; simp [fromT, restT]
      have l1 : out.length + 1 ≤ limS := by
        have hlen := congrArg List.length ho
        rw [e2] at hlen
        simp only [List.length_append, List.length_cons] at hlen
        unfold limS; omega
      obtain ⟨A1, hA1, lA1⟩ : ∃ A, out ++ [44] = A ∧ A.length = out.length + 1 := ⟨_, rfl, by simp⟩
      have := key A1 (by rw [← ho, e2, ← hA1]; simp)
      simp only [h1, h2, hb.len, l1, hA1, this, ↓evD, evU, evL, Nat.reduceAdd, Nat.reduceSub, Nat.reduceMul, Nat.reduceLeDiff, Nat.reduceLT, Nat.reduceEqDiff, Nat.reduceBEq, reduceIte, reduceCtorEq, Int.reduceBEq, Int.reduceEq, Int.reduceLT, Int.reduceLE, Int.reduceGT, Int.reduceGE, Int.reduceAdd, Int.reduceSub, Int.reduceNeg, Int.reduceBNe, ite_true, ite_false, if_true, if_false, implies_true, forall_const]
theorem writeR_spec (base : Nat) (h : Hp) {b : PV} {l : List Lk} (hb : Rl eL 2 b l) (hs : ∀ p ∈ l, SmK p) (hn : rgB l = true → (linksT l).length ≤ 1000000) :
    CallA T base 9 [b] h = some (.tup [.str (if rgB l then linksT l else []), i64 (if rgB l then 0 else 1)], h) := by
  have hr := fun c m => rightLR_spec c m hb hs
  rw [S9]
  cases e : rgB l <;> rw [e] at hr
  · simp only [hr, ↓evD, evU, evL, Nat.reduceAdd, Nat.reduceSub, Nat.reduceMul, Nat.reduceLeDiff, Nat.reduceLT, Nat.reduceEqDiff, Nat.reduceBEq, reduceIte, reduceCtorEq, Int.reduceBEq, Int.reduceEq, Int.reduceLT, Int.reduceLE, Int.reduceGT, Int.reduceGE, Int.reduceAdd, Int.reduceSub, Int.reduceNeg, Int.reduceBNe, ite_true, ite_false, if_true, if_false, implies_true, forall_const]
  · have h64 : l.length ≤ 64 := by
      unfold rgB at e
      rw [Bool.and_eq_true, decide_eq_true_eq] at e
      exact e.1
    have := wrR_loop (h := h) hb h64 hs (hn e) l [] [] h (Hg.refl h) rfl rfl
    simp only [hr, ↓evD, evU, evL, Nat.reduceAdd, Nat.reduceSub, Nat.reduceMul, Nat.reduceLeDiff, Nat.reduceLT, Nat.reduceEqDiff, Nat.reduceBEq, reduceIte, reduceCtorEq, Int.reduceBEq, Int.reduceEq, Int.reduceLT, Int.reduceLE, Int.reduceGT, Int.reduceGE, Int.reduceAdd, Int.reduceSub, Int.reduceNeg, Int.reduceBNe, ite_true, ite_false, if_true, if_false, implies_true, forall_const]
    exact this
end Go.Am.YtdnbedldmkagmaaGreatDoor
namespace Go.Am.YtdnbedldmkagmaaGreatDoor
set_option maxRecDepth 100000
set_option linter.unusedSimpArgs false
set_option linter.unusedVariables false
open Go.Lib (itoa)
theorem segs_len : ∀ {p : List Int}, p.all numOk = true → (segsS p).length ≤ 22 * p.length
  | [], _ => by simp [segsS]
  | n :: p, h => by
    rw [List.all_cons, Bool.and_eq_true] at h
    have h1 := itoa_len (in64_ok h.1)
    have h2 := segs_len h.2
    simp only [segsS, List.cons_append, List.length_cons, List.length_append]
    omega
theorem textS_len (p : List Int) : (textS p).length ≤ 66 := by
  unfold textS
  split
  · simp
  · rename_i h
    split
    · simp
    · have : rightB p = true := by simpa using h
      unfold rightB at this
      rw [Bool.and_eq_true, decide_eq_true_eq] at this
      have := segs_len this.2
      omega
theorem pairT_len (p : Pr) : (pairT p).length ≤ p.1.length + p.2.1.length + 4 := by
  unfold pairT valS
  cases p.2.2
  · cases plB p.2.1 <;> simp <;> omega
  · simp; omega
theorem pairsT_len {n : Nat} : ∀ {l : List Pr}, (∀ p ∈ l, (pairT p).length ≤ n) → (pairsT l).length ≤ n * l.length
  | [], _ => by simp [pairsT]
  | p :: l, h => by
    have h1 := h p (by simp)
    have h2 := pairsT_len (n := n) (l := l) fun q hq => h q (by simp [hq])
    rw [pairsT_cons, List.length_append, List.length_cons, Nat.mul_succ]; omega
theorem restT_len {n : Nat} : ∀ {l : List Lk}, (∀ k ∈ l, (linkT k).length ≤ n) → (restT l).length ≤ (n + 1) * l.length
  | [], _ => by simp [restT]
  | k :: l, h => by
    have h1 := h k (by simp)
    have h2 := restT_len (n := n) (l := l) fun q hq => h q (by simp [hq])
    have : restT (k :: l) = 44 :: linkT k ++ restT l := by simp [restT]
    rw [this, List.length_append, List.length_cons, List.length_cons, Nat.mul_succ]; omega
theorem linksT_len (l : List Lk) : (linksT l).length ≤ (restT l).length := by
  cases l with
  | nil => simp [linksT]
  | cons k l => simp [linksT, restT]
theorem few_link {l : List Lk} (h : fewL l = true) : (∀ k ∈ l, (linkT k).length ≤ 6200) ∧ (linksT l).length ≤ 1000000 := by
  unfold fewL at h
  rw [Bool.and_eq_true, decide_eq_true_eq, List.all_eq_true] at h
  have hk : ∀ k ∈ l, (linkT k).length ≤ 6200 := by
    intro k hk
    have := h.2 k hk
    unfold fewK at this
    rw [Bool.and_eq_true, Bool.and_eq_true, decide_eq_true_eq, decide_eq_true_eq, List.all_eq_true] at this
    have h3 := pairsT_len (n := 304) (l := aL k) fun p hp => by
      have h2 := this.2 p hp
      unfold fewP at h2
      rw [Bool.and_eq_true, decide_eq_true_eq, decide_eq_true_eq] at h2
      have := pairT_len p
      omega
    rw [linkT_len]
    have := textS_len (pL k)
    omega
  refine ⟨hk, ?_⟩
  have h1 := restT_len hk
  have h2 := linksT_len l
  omega
theorem writes_true {b : PV} {l : List Lk} (hb : Lv eL 2 b l) : CallA T 0 3 [b] [] = some (.bool true, []) := by
  rw [S3]
  have ha := alive_spec
  have hf := fun c m => few_spec (base := c) (h := m) hb.rl
  cases e : fewL l <;> rw [e] at hf
  · simp only [ha, hf, ↓evD, evU, evL, Nat.reduceAdd, Nat.reduceSub, Nat.reduceMul, Nat.reduceLeDiff, Nat.reduceLT, Nat.reduceEqDiff, Nat.reduceBEq, reduceIte, reduceCtorEq, Int.reduceBEq, Int.reduceEq, Int.reduceLT, Int.reduceLE, Int.reduceGT, Int.reduceGE, Int.reduceAdd, Int.reduceSub, Int.reduceNeg, Int.reduceBNe, ite_true, ite_false, if_true, if_false, implies_true, forall_const]
  obtain ⟨hl, hs⟩ := sm_few e
  obtain ⟨h1, h2⟩ := few_link e
  have w1 := fun c m => write_spec c m hb.rl (by omega) hs (fun _ => h2) (fun _ k hk => by have := h1 k hk; omega)
  have w2 := fun c m => writeR_spec c m hb.rl hs (fun _ => h2)
  have r1 := fun c m => rightL_spec c m hb.rl (by omega) hs
  have r2 := fun c m => rightLR_spec c m hb.rl hs
  generalize (if rgB l = true then linksT l else []) = s at *
  generalize (if rgB l = true then (0 : Int) else 1) = n at *
  generalize rgB l = r at *
  have b1 : (s == s) = true := by simp
  have b2 : (n == n) = true := by simp
  have b3 : (r == r) = true := by simp
  simp only [ha, hf, w1, w2, r1, r2, b1, b2, b3, ↓evD, evU, evL, Nat.reduceAdd, Nat.reduceSub, Nat.reduceMul, Nat.reduceLeDiff, Nat.reduceLT, Nat.reduceEqDiff, Nat.reduceBEq, reduceIte, reduceCtorEq, Int.reduceBEq, Int.reduceEq, Int.reduceLT, Int.reduceLE, Int.reduceGT, Int.reduceGE, Int.reduceAdd, Int.reduceSub, Int.reduceNeg, Int.reduceBNe, ite_true, ite_false, if_true, if_false, implies_true, forall_const]
end Go.Am.YtdnbedldmkagmaaGreatDoor
