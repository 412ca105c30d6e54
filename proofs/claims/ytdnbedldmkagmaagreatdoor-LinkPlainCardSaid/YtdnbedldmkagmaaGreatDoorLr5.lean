/- Links as Lean values; few and right, on the abstract machine. | Right links, on the abstract machine. | Links as text, on the abstract machine. | Write and the reference's, on the abstract machine. | LinkWrites: the law on the abstract machine. | The reader of links, on the abstract machine. | The reader of links: paths and links, on the abstract machine. | The reader of links: a link, on the abstract machine. | Read, on the abstract machine. | The reference's attribute at a place, on the abstract machine. | The reference's attribute: what it answers. | The reference's Read, on the abstract machine: attributes. | The reference's Read, on the abstract machine. | Same, the reference's, on the abstract machine; LinkReads: the law. | LinkReads: the law on the abstract machine. | What is written is read as it: the plain law. | LinkPlain: the law on the abstract machine.
   By the session's AI agent. -/
import Derived.Test.YtdnbedldmkagmaaGreatDoorLr4
namespace Go.Am.YtdnbedldmkagmaaGreatDoor
set_option maxRecDepth 100000
set_option linter.unusedSimpArgs false
set_option linter.unusedVariables false
abbrev Pr := List UInt8 × List UInt8 × Bool
def eP (p : Pr) : PV := .agg [.str p.1, .str p.2.1, .bool p.2.2]
theorem elP : El eP 3 := ⟨fun _ => rfl, fun _ => rfl, fun _ => rfl, fun _ _ => rfl⟩
abbrev Px := {p : PV // ∃ l, Lv eI 1 p l}
abbrev Ax := {p : PV // ∃ l, Lv eP 3 p l}
abbrev Lk := Px × Ax
noncomputable def pL (k : Lk) : List Int := k.1.2.choose
noncomputable def aL (k : Lk) : List Pr := k.2.2.choose
theorem pV (k : Lk) : Lv eI 1 k.1.1 (pL k) := k.1.2.choose_spec
theorem aV (k : Lk) : Lv eP 3 k.2.1 (aL k) := k.2.2.choose_spec
def eL (k : Lk) : PV := .agg [k.1.1, k.2.1]
theorem elL : El eL 2 := by
  refine ⟨fun a => rfl, fun a => ?_, fun a => ?_, fun n a => ?_⟩
  · show List.all [a.1.1, a.2.1] scalar = true
    simp only [List.all_cons, (pV a).scalar, (aV a).scalar]; rfl
  · show PV.agg [strip a.1.1, strip a.2.1] = _
    rw [(pV a).strip, (aV a).strip]; rfl
  · show (below n a.1.1 && (below n a.2.1 && true)) = true
    rw [(pV a).below elI, (aV a).below elP]; rfl
theorem ecL (k : Lk) : (eL k).cells = [k.1.1, k.2.1] := rfl
theorem ecP (p : Pr) : (eP p).cells = [.str p.1, .str p.2.1, .bool p.2.2] := rfl
/-- A heap that has grown in a frame. -/
structure Hg (h H : Hp) : Prop where
  tr : trunc H (size h) = h
  le : size h ≤ size H
theorem Hg.refl (h : Hp) : Hg h h := ⟨by simp [trunc, size], Nat.le_refl _⟩
theorem Hg.ext {h H : Hp} (g : Hg h H) (l : List Box) : Hg h (ext H l) :=
  ⟨by rw [trunc_ext_ge _ g.le]; exact g.tr, by have := g.le; simp only [size, Go.Am.ext, List.length_append] at *; omega⟩
theorem Hg.lt {h H : Hp} (g : Hg h H) : (size H < size h) = False := by have := g.le; simp; omega
/-- Few signs. -/
def fewP (p : Pr) : Bool := decide (p.1.length ≤ 100) && decide (p.2.1.length ≤ 200)
noncomputable def fewK (k : Lk) : Bool := decide ((aL k).length ≤ 20) && decide ((pL k).length ≤ 100) && (aL k).all fewP
noncomputable def fewL (l : List Lk) : Bool := decide (l.length ≤ 80) && l.all fewK
theorem few_in {h : Hp} {b : PV} {l : List Lk} (hb : Rl eL 2 b l) (hl : l.length ≤ 80) {i : Nat} {k : Lk} (hk : l[i]? = some k) (hn : (aL k).length ≤ 20) :
    ∀ (r q : List Pr), aL k = q ++ r → P7_1 (size h) (size h) (i64 q.length) (i64 i) b h = if r.all fewP then P7_0 (size h) (size h) (i64 ((i + 1 : Nat) : Int)) b h else some (.bool false, h)
  | [], q, hp => by
    rw [P7_1_eq]
    have hi : i < l.length := by
      rcases Nat.lt_or_ge i l.length with h | h
      · exact h
      · rw [List.getElem?_eq_none h] at hk; cases hk
    have e : q.length = (aL k).length := by rw [hp]; simp
    have h1 : ((q.length : Int) < ((aL k).length : Int)) = False := by simp; omega
    have w1 : IntKind.i64.wrap ((i : Int) + 1) = ((i + 1 : Nat) : Int) := by rw [wrap_small] <;> omega
    simp only [hb.idx hk, ecL, (aV k).len, h1, w1, List.all_nil, ↓evD, evU, evL, Nat.reduceAdd, Nat.reduceSub, Nat.reduceMul, Nat.reduceLeDiff, Nat.reduceLT, Nat.reduceEqDiff, Nat.reduceBEq, reduceIte, reduceCtorEq, Int.reduceBEq, Int.reduceEq, Int.reduceLT, Int.reduceLE, Int.reduceGT, Int.reduceGE, Int.reduceAdd, Int.reduceSub, Int.reduceNeg, Int.reduceBNe, ite_true, ite_false, if_true, if_false, implies_true, forall_const]
  | x :: r, q, hp => by
    rw [P7_1_eq]
    have el : (aL k).length = q.length + (r.length + 1) := by rw [hp]; simp
    have h1 : ((q.length : Int) < ((aL k).length : Int)) = True := by simp; omega
    have hx : (aL k)[q.length]? = some x := by rw [hp]; simp
    have w1 : IntKind.i64.wrap ((q.length : Int) + 1) = (((q ++ [x]).length : Nat) : Int) := by rw [show (q ++ [x]).length = q.length + 1 by simp, wrap_small] <;> omega
    have ih := few_in (h := h) hb hl hk hn r (q ++ [x]) (by rw [hp]; simp)
    by_cases c1 : (x.1.length : Int) > 100
    · have : fewP x = false := by simp [fewP]; omega
      simp only [hb.idx hk, ecL, (aV k).len, h1, (aV k).idx hx, ecP, c1, List.all_cons, this, ↓evD, evU, evL, Nat.reduceAdd, Nat.reduceSub, Nat.reduceMul, Nat.reduceLeDiff, Nat.reduceLT, Nat.reduceEqDiff, Nat.reduceBEq, reduceIte, reduceCtorEq, Int.reduceBEq, Int.reduceEq, Int.reduceLT, Int.reduceLE, Int.reduceGT, Int.reduceGE, Int.reduceAdd, Int.reduceSub, Int.reduceNeg, Int.reduceBNe, ite_true, ite_false, if_true, if_false, implies_true, forall_const]
    by_cases c2 : (x.2.1.length : Int) > 200
    · have : fewP x = false := by simp [fewP]; omega
      simp only [hb.idx hk, ecL, (aV k).len, h1, (aV k).idx hx, ecP, c1, c2, List.all_cons, this, ↓evD, evU, evL, Nat.reduceAdd, Nat.reduceSub, Nat.reduceMul, Nat.reduceLeDiff, Nat.reduceLT, Nat.reduceEqDiff, Nat.reduceBEq, reduceIte, reduceCtorEq, Int.reduceBEq, Int.reduceEq, Int.reduceLT, Int.reduceLE, Int.reduceGT, Int.reduceGE, Int.reduceAdd, Int.reduceSub, Int.reduceNeg, Int.reduceBNe, ite_true, ite_false, if_true, if_false, implies_true, forall_const]
    have : fewP x = true := by simp [fewP]; omega
    simp only [hb.idx hk, ecL, (aV k).len, h1, (aV k).idx hx, ecP, c1, c2, w1, ih, List.all_cons, this, ↓evD, evU, evL, Nat.reduceAdd, Nat.reduceSub, Nat.reduceMul, Nat.reduceLeDiff, Nat.reduceLT, Nat.reduceEqDiff, Nat.reduceBEq, reduceIte, reduceCtorEq, Int.reduceBEq, Int.reduceEq, Int.reduceLT, Int.reduceLE, Int.reduceGT, Int.reduceGE, Int.reduceAdd, Int.reduceSub, Int.reduceNeg, Int.reduceBNe, ite_true, ite_false, if_true, if_false, implies_true, forall_const]
theorem few_loop {h : Hp} {b : PV} {l : List Lk} (hb : Rl eL 2 b l) (hl : l.length ≤ 80) : ∀ (r q : List Lk), l = q ++ r →
    P7_0 (size h) (size h) (i64 q.length) b h = some (.bool (r.all fewK), h)
  | [], q, hp => by
    rw [P7_0_eq]
    have e : q.length = l.length := by rw [hp]; simp
    have h1 : ((q.length : Int) < (l.length : Int)) = False := by simp; omega
    simp only [h1, hb.len, List.all_nil, ↓evD, evU, evL, Nat.reduceAdd, Nat.reduceSub, Nat.reduceMul, Nat.reduceLeDiff, Nat.reduceLT, Nat.reduceEqDiff, Nat.reduceBEq, reduceIte, reduceCtorEq, Int.reduceBEq, Int.reduceEq, Int.reduceLT, Int.reduceLE, Int.reduceGT, Int.reduceGE, Int.reduceAdd, Int.reduceSub, Int.reduceNeg, Int.reduceBNe, ite_true, ite_false, if_true, if_false, implies_true, forall_const]
  | x :: r, q, hp => by
    rw [P7_0_eq]
    have el : l.length = q.length + (r.length + 1) := by rw [hp]; simp
    have h1 : ((q.length : Int) < (l.length : Int)) = True := by simp; omega
    have hx : l[q.length]? = some x := by rw [hp]; simp
    by_cases c1 : ((aL x).length : Int) > 20
    · have : fewK x = false := by simp [fewK]; omega
      simp only [h1, hb.len, hb.idx hx, ecL, (aV x).len, c1, List.all_cons, this, ↓evD, evU, evL, Nat.reduceAdd, Nat.reduceSub, Nat.reduceMul, Nat.reduceLeDiff, Nat.reduceLT, Nat.reduceEqDiff, Nat.reduceBEq, reduceIte, reduceCtorEq, Int.reduceBEq, Int.reduceEq, Int.reduceLT, Int.reduceLE, Int.reduceGT, Int.reduceGE, Int.reduceAdd, Int.reduceSub, Int.reduceNeg, Int.reduceBNe, ite_true, ite_false, if_true, if_false, implies_true, forall_const]
    by_cases c2 : ((pL x).length : Int) > 100
    · have : fewK x = false := by simp [fewK]; omega
      simp only [h1, hb.len, hb.idx hx, ecL, (aV x).len, (pV x).len, c1, c2, List.all_cons, this, ↓evD, evU, evL, Nat.reduceAdd, Nat.reduceSub, Nat.reduceMul, Nat.reduceLeDiff, Nat.reduceLT, Nat.reduceEqDiff, Nat.reduceBEq, reduceIte, reduceCtorEq, Int.reduceBEq, Int.reduceEq, Int.reduceLT, Int.reduceLE, Int.reduceGT, Int.reduceGE, Int.reduceAdd, Int.reduceSub, Int.reduceNeg, Int.reduceBNe, ite_true, ite_false, if_true, if_false, implies_true, forall_const]
    have hin := few_in (h := h) hb hl hx (by omega) (aL x) [] rfl
    have ih := few_loop (h := h) hb hl r (q ++ [x]) (by rw [hp]; simp)
    rw [show (q ++ [x]).length = q.length + 1 by simp] at ih
    rw [ih] at hin
    have e3 : fewK x = (aL x).all fewP := by
      unfold fewK
      rw [decide_eq_true (by omega : (aL x).length ≤ 20), decide_eq_true (by omega : (pL x).length ≤ 100)]; rfl
    simp only [h1, hb.len, hb.idx hx, ecL, (aV x).len, (pV x).len, c1, c2, List.all_cons, e3, ↓evD, evU, evL, Nat.reduceAdd, Nat.reduceSub, Nat.reduceMul, Nat.reduceLeDiff, Nat.reduceLT, Nat.reduceEqDiff, Nat.reduceBEq, reduceIte, reduceCtorEq, Int.reduceBEq, Int.reduceEq, Int.reduceLT, Int.reduceLE, Int.reduceGT, Int.reduceGE, Int.reduceAdd, Int.reduceSub, Int.reduceNeg, Int.reduceBNe, ite_true, ite_false, if_true, if_false, implies_true, forall_const]
    refine hin.trans ?_
    cases (aL x).all fewP <;> rfl
theorem few_spec {base : Nat} {h : Hp} {b : PV} {l : List Lk} (hb : Rl eL 2 b l) : CallA T base 7 [b] h = some (.bool (fewL l), h) := by
  rw [S7]
  unfold fewL
  by_cases h3 : l.length ≤ 80
  · have h1 : ((l.length : Int) > 80) = False := by simp; omega
    have := few_loop (h := h) hb h3 l [] rfl
    rw [decide_eq_true h3]
    simp only [hb.len, h1, ↓evD, evU, evL, Nat.reduceAdd, Nat.reduceSub, Nat.reduceMul, Nat.reduceLeDiff, Nat.reduceLT, Nat.reduceEqDiff, Nat.reduceBEq, reduceIte, reduceCtorEq, Int.reduceBEq, Int.reduceEq, Int.reduceLT, Int.reduceLE, Int.reduceGT, Int.reduceGE, Int.reduceAdd, Int.reduceSub, Int.reduceNeg, Int.reduceBNe, ite_true, ite_false, if_true, if_false, implies_true, forall_const]
    exact this
  · have h1 : ((l.length : Int) > 80) = True := by simp; omega
    rw [decide_eq_false h3]
    simp only [hb.len, h1, ↓evD, evU, evL, Nat.reduceAdd, Nat.reduceSub, Nat.reduceMul, Nat.reduceLeDiff, Nat.reduceLT, Nat.reduceEqDiff, Nat.reduceBEq, reduceIte, reduceCtorEq, Int.reduceBEq, Int.reduceEq, Int.reduceLT, Int.reduceLE, Int.reduceGT, Int.reduceGE, Int.reduceAdd, Int.reduceSub, Int.reduceNeg, Int.reduceBNe, ite_true, ite_false, if_true, if_false, implies_true, forall_const]
/-- Small. -/
def SmP (p : Pr) : Prop := p.1.length ≤ 10000 ∧ p.2.1.length ≤ 10000
structure SmK (k : Lk) : Prop where
  p : (pL k).length ≤ 10000
  a : (aL k).length ≤ 10000
  s : ∀ p ∈ aL k, SmP p
theorem sm_few {l : List Lk} (h : fewL l = true) : l.length ≤ 80 ∧ ∀ k ∈ l, SmK k := by
  unfold fewL at h
  rw [Bool.and_eq_true, decide_eq_true_eq, List.all_eq_true] at h
  refine ⟨h.1, fun k hk => ?_⟩
  have := h.2 k hk
  unfold fewK at this
  rw [Bool.and_eq_true, Bool.and_eq_true, decide_eq_true_eq, decide_eq_true_eq, List.all_eq_true] at this
  refine ⟨by omega, by omega, fun p hp => ?_⟩
  have h2 := this.2 p hp
  unfold fewP at h2
  rw [Bool.and_eq_true, decide_eq_true_eq, decide_eq_true_eq] at h2
  exact ⟨by omega, by omega⟩
def prB (p : Pr) : Bool := nmB p.1 && (if p.2.2 then p.2.1 == [] else vlB p.2.1)
noncomputable def lkB (k : Lk) : Bool := rightB (pL k) && decide ((aL k).length ≤ 8) && (aL k).all prB
noncomputable def rgB (l : List Lk) : Bool := decide (l.length ≤ 64) && l.all lkB
theorem pair_spec (base : Nat) (h : Hp) {p : Pr} (hs : SmP p) : CallA T base 46 [eP p] h = some (.bool (prB p), h) := by
  have s1 : p.1.length ≤ 1000000 := by have := hs.1; omega
  have s2 : p.2.1.length ≤ 1000000 := by have := hs.2; omega
  have hn := fun b k => name_spec (base := b) (h := k) p.1 s1
  have hr := fun b k => run_spec (base := b) (h := k) pri_spec p.2.1 s2
  have ha := tw_all (q := priB) p.2.1
  have hep : eP p = .agg [.str p.1, .str p.2.1, .bool p.2.2] := rfl
  rw [S46, hep]
  unfold prB vlB
  cases hb : p.2.2 <;> cases e1 : nmB p.1 <;> rw [e1] at hn
  · simp only [hn, ↓evD, evU, evL, Nat.reduceAdd, Nat.reduceSub, Nat.reduceMul, Nat.reduceLeDiff, Nat.reduceLT, Nat.reduceEqDiff, Nat.reduceBEq, reduceIte, reduceCtorEq, Int.reduceBEq, Int.reduceEq, Int.reduceLT, Int.reduceLE, Int.reduceGT, Int.reduceGE, Int.reduceAdd, Int.reduceSub, Int.reduceNeg, Int.reduceBNe, ite_true, ite_false, if_true, if_false, implies_true, forall_const]
  · by_cases c1 : (p.2.1.length : Int) ≤ 60 <;> cases e2 : p.2.1.all priB <;> rw [e2] at ha <;> simp only [hn, hr, ha, c1, ↓evD, evU, evL, Nat.reduceAdd, Nat.reduceSub, Nat.reduceMul, Nat.reduceLeDiff, Nat.reduceLT, Nat.reduceEqDiff, Nat.reduceBEq, reduceIte, reduceCtorEq, Int.reduceBEq, Int.reduceEq, Int.reduceLT, Int.reduceLE, Int.reduceGT, Int.reduceGE, Int.reduceAdd, Int.reduceSub, Int.reduceNeg, Int.reduceBNe, ite_true, ite_false, if_true, if_false, implies_true, forall_const]
  · simp only [hn, ↓evD, evU, evL, Nat.reduceAdd, Nat.reduceSub, Nat.reduceMul, Nat.reduceLeDiff, Nat.reduceLT, Nat.reduceEqDiff, Nat.reduceBEq, reduceIte, reduceCtorEq, Int.reduceBEq, Int.reduceEq, Int.reduceLT, Int.reduceLE, Int.reduceGT, Int.reduceGE, Int.reduceAdd, Int.reduceSub, Int.reduceNeg, Int.reduceBNe, ite_true, ite_false, if_true, if_false, implies_true, forall_const]
  · cases e2 : (p.2.1 == []) <;> simp only [hn, e2, ↓evD, evU, evL, Nat.reduceAdd, Nat.reduceSub, Nat.reduceMul, Nat.reduceLeDiff, Nat.reduceLT, Nat.reduceEqDiff, Nat.reduceBEq, reduceIte, reduceCtorEq, Int.reduceBEq, Int.reduceEq, Int.reduceLT, Int.reduceLE, Int.reduceGT, Int.reduceGE, Int.reduceAdd, Int.reduceSub, Int.reduceNeg, Int.reduceBNe, ite_true, ite_false, if_true, if_false, implies_true, forall_const]
theorem npair_spec (base : Nat) (h : Hp) {p : Pr} (hs : SmP p) : CallA T base 45 [eP p] h = some (.bool (!prB p), h) := by
  have hep : eP p = .agg [.str p.1, .str p.2.1, .bool p.2.2] := rfl
  have hn := fun b k => pair_spec b k hs
  rw [hep] at hn
  rw [S45, hep]
  cases e : prB p <;> rw [e] at hn <;> simp only [hn, ↓evD, evU, evL, Nat.reduceAdd, Nat.reduceSub, Nat.reduceMul, Nat.reduceLeDiff, Nat.reduceLT, Nat.reduceEqDiff, Nat.reduceBEq, reduceIte, reduceCtorEq, Int.reduceBEq, Int.reduceEq, Int.reduceLT, Int.reduceLE, Int.reduceGT, Int.reduceGE, Int.reduceAdd, Int.reduceSub, Int.reduceNeg, Int.reduceBNe, ite_true, ite_false, if_true, if_false, implies_true, forall_const]
end Go.Am.YtdnbedldmkagmaaGreatDoor
namespace Go.Am.YtdnbedldmkagmaaGreatDoor
set_option maxRecDepth 100000
set_option linter.unusedSimpArgs false
set_option linter.unusedVariables false
theorem idxP_loop {h : Hp} {b : PV} {l : List Pr} (hb : Rl eP 3 b l) (hl : l.length ≤ 10000) (hs : ∀ p ∈ l, SmP p) : ∀ (r q : List Pr), l = q ++ r →
    ∃ n : Int, P60_0 (size h) (size h) (i64 q.length) b (.fn 45 []) (i64 l.length) h = some (i64 n, h) ∧ decide (n ≥ 0) = !(r.all prB)
  | [], q, hp => by
    have e : q.length = l.length := by rw [hp]; simp
    have h1 : ((q.length : Int) < (l.length : Int)) = False := by simp; omega
    refine ⟨-1, ?_, rfl⟩
    rw [P60_0_eq]
    simp only [h1, ↓evD, evU, evL, Nat.reduceAdd, Nat.reduceSub, Nat.reduceMul, Nat.reduceLeDiff, Nat.reduceLT, Nat.reduceEqDiff, Nat.reduceBEq, reduceIte, reduceCtorEq, Int.reduceBEq, Int.reduceEq, Int.reduceLT, Int.reduceLE, Int.reduceGT, Int.reduceGE, Int.reduceAdd, Int.reduceSub, Int.reduceNeg, Int.reduceBNe, ite_true, ite_false, if_true, if_false, implies_true, forall_const]
  | x :: r, q, hp => by
    have el : l.length = q.length + (r.length + 1) := by rw [hp]; simp
    have h1 : ((q.length : Int) < (l.length : Int)) = True := by simp; omega
    have hx : l[q.length]? = some x := by rw [hp]; simp
    have w1 : IntKind.i64.wrap ((q.length : Int) + 1) = (((q ++ [x]).length : Nat) : Int) := by rw [show (q ++ [x]).length = q.length + 1 by simp, wrap_small] <;> omega
    obtain ⟨n, i1, i2⟩ := idxP_loop (h := h) hb hl hs r (q ++ [x]) (by rw [hp]; simp)
    have hq := fun b k => npair_spec b k (hs x (by rw [hp]; simp))
    have hep : eP x = .agg [.str x.1, .str x.2.1, .bool x.2.2] := rfl
    rw [hep] at hq
    cases e : prB x <;> rw [e] at hq
    · refine ⟨q.length, ?_, ?_⟩
      · rw [P60_0_eq]
        simp only [h1, hb.idx hx, ecP, hq, List.append_nil, ↓evD, evU, evL, Nat.reduceAdd, Nat.reduceSub, Nat.reduceMul, Nat.reduceLeDiff, Nat.reduceLT, Nat.reduceEqDiff, Nat.reduceBEq, reduceIte, reduceCtorEq, Int.reduceBEq, Int.reduceEq, Int.reduceLT, Int.reduceLE, Int.reduceGT, Int.reduceGE, Int.reduceAdd, Int.reduceSub, Int.reduceNeg, Int.reduceBNe, ite_true, ite_false, if_true, if_false, implies_true, forall_const]
      · rw [List.all_cons, e]; simp
    · refine ⟨n, ?_, ?_⟩
      · rw [P60_0_eq]
        simp only [h1, hb.idx hx, ecP, hq, w1, i1, List.append_nil, ↓evD, evU, evL, Nat.reduceAdd, Nat.reduceSub, Nat.reduceMul, Nat.reduceLeDiff, Nat.reduceLT, Nat.reduceEqDiff, Nat.reduceBEq, reduceIte, reduceCtorEq, Int.reduceBEq, Int.reduceEq, Int.reduceLT, Int.reduceLE, Int.reduceGT, Int.reduceGE, Int.reduceAdd, Int.reduceSub, Int.reduceNeg, Int.reduceBNe, ite_true, ite_false, if_true, if_false, implies_true, forall_const]
      · rw [List.all_cons, e, Bool.true_and]; exact i2
theorem anyP_spec {h : Hp} {base : Nat} {b : PV} {l : List Pr} (hb : Rl eP 3 b l) (hl : l.length ≤ 10000) (hs : ∀ p ∈ l, SmP p) : CallA T base 44 [b, .fn 45 []] h = some (.bool (!(l.all prB)), h) := by
  have h60 : ∀ base h, ∃ n : Int, CallA T base 60 [b, .fn 45 []] h = some (i64 n, h) ∧ decide (n ≥ 0) = !(l.all prB) := by
    intro base h
    obtain ⟨n, h1, h2⟩ := idxP_loop (h := h) hb hl hs l [] rfl
    refine ⟨n, ?_, h2⟩
    rw [S60]
    simp only [hb.len, ↓evD, evU, evL, Nat.reduceAdd, Nat.reduceSub, Nat.reduceMul, Nat.reduceLeDiff, Nat.reduceLT, Nat.reduceEqDiff, Nat.reduceBEq, reduceIte, reduceCtorEq, Int.reduceBEq, Int.reduceEq, Int.reduceLT, Int.reduceLE, Int.reduceGT, Int.reduceGE, Int.reduceAdd, Int.reduceSub, Int.reduceNeg, Int.reduceBNe, ite_true, ite_false, if_true, if_false, implies_true, forall_const]
    exact h1
  rw [S44]
  obtain ⟨n, h1, h2⟩ := h60 (size h) h
  simp only [h1, h2, ↓evD, evU, evL, Nat.reduceAdd, Nat.reduceSub, Nat.reduceMul, Nat.reduceLeDiff, Nat.reduceLT, Nat.reduceEqDiff, Nat.reduceBEq, reduceIte, reduceCtorEq, Int.reduceBEq, Int.reduceEq, Int.reduceLT, Int.reduceLE, Int.reduceGT, Int.reduceGE, Int.reduceAdd, Int.reduceSub, Int.reduceNeg, Int.reduceBNe, ite_true, ite_false, if_true, if_false, implies_true, forall_const]
theorem link_spec (base : Nat) (h : Hp) {k : Lk} (hs : SmK k) : CallA T base 22 [eL k] h = some (.bool (lkB k), h) := by
  have hel : eL k = .agg [k.1.1, k.2.1] := rfl
  have h1 := fun b m => anyP_spec (base := b) (h := m) (aV k).rl hs.a hs.s
  have h2 := fun b m => right_spec (base := b) (h := m) (pV k).rl (by have := hs.p; omega)
  have c3 : decide (((aL k).length : Int) ≤ 8) = decide ((aL k).length ≤ 8) := by
    by_cases hq : (aL k).length ≤ 8
    · rw [decide_eq_true hq, decide_eq_true (by omega)]
    · rw [decide_eq_false hq, decide_eq_false (by omega)]
  rw [S22, hel]
  unfold lkB
  cases e1 : (aL k).all prB <;> rw [e1] at h1 <;> cases e2 : rightB (pL k) <;> rw [e2] at h2 <;> cases e3 : decide ((aL k).length ≤ 8) <;> rw [e3] at c3 <;>
    simp only [(pV k).scalar, (aV k).scalar, (aV k).len, h1, h2, c3, ↓evD, evU, evL, Nat.reduceAdd, Nat.reduceSub, Nat.reduceMul, Nat.reduceLeDiff, Nat.reduceLT, Nat.reduceEqDiff, Nat.reduceBEq, reduceIte, reduceCtorEq, Int.reduceBEq, Int.reduceEq, Int.reduceLT, Int.reduceLE, Int.reduceGT, Int.reduceGE, Int.reduceAdd, Int.reduceSub, Int.reduceNeg, Int.reduceBNe, ite_true, ite_false, if_true, if_false, implies_true, forall_const]
theorem nlink_spec (base : Nat) (h : Hp) {k : Lk} (hs : SmK k) : CallA T base 21 [eL k] h = some (.bool (!lkB k), h) := by
  have hel : eL k = .agg [k.1.1, k.2.1] := rfl
  have hn := fun b m => link_spec b m hs
  rw [hel] at hn
  rw [S21, hel]
  cases e : lkB k <;> rw [e] at hn <;> simp only [(pV k).scalar, (aV k).scalar, hn, ↓evD, evU, evL, Nat.reduceAdd, Nat.reduceSub, Nat.reduceMul, Nat.reduceLeDiff, Nat.reduceLT, Nat.reduceEqDiff, Nat.reduceBEq, reduceIte, reduceCtorEq, Int.reduceBEq, Int.reduceEq, Int.reduceLT, Int.reduceLE, Int.reduceGT, Int.reduceGE, Int.reduceAdd, Int.reduceSub, Int.reduceNeg, Int.reduceBNe, ite_true, ite_false, if_true, if_false, implies_true, forall_const]
theorem idxL_loop {h : Hp} {b : PV} {l : List Lk} (hb : Rl eL 2 b l) (hl : l.length ≤ 10000) (hs : ∀ p ∈ l, SmK p) : ∀ (r q : List Lk), l = q ++ r →
    ∃ n : Int, P43_0 (size h) (size h) (i64 q.length) b (.fn 21 []) (i64 l.length) h = some (i64 n, h) ∧ decide (n ≥ 0) = !(r.all lkB)
  | [], q, hp => by
    have e : q.length = l.length := by rw [hp]; simp
    have h1 : ((q.length : Int) < (l.length : Int)) = False := by simp; omega
    refine ⟨-1, ?_, rfl⟩
    rw [P43_0_eq]
    simp only [h1, ↓evD, evU, evL, Nat.reduceAdd, Nat.reduceSub, Nat.reduceMul, Nat.reduceLeDiff, Nat.reduceLT, Nat.reduceEqDiff, Nat.reduceBEq, reduceIte, reduceCtorEq, Int.reduceBEq, Int.reduceEq, Int.reduceLT, Int.reduceLE, Int.reduceGT, Int.reduceGE, Int.reduceAdd, Int.reduceSub, Int.reduceNeg, Int.reduceBNe, ite_true, ite_false, if_true, if_false, implies_true, forall_const]
  | x :: r, q, hp => by
    have el : l.length = q.length + (r.length + 1) := by rw [hp]; simp
    have h1 : ((q.length : Int) < (l.length : Int)) = True := by simp; omega
    have hx : l[q.length]? = some x := by rw [hp]; simp
    have w1 : IntKind.i64.wrap ((q.length : Int) + 1) = (((q ++ [x]).length : Nat) : Int) := by rw [show (q ++ [x]).length = q.length + 1 by simp, wrap_small] <;> omega
    obtain ⟨n, i1, i2⟩ := idxL_loop (h := h) hb hl hs r (q ++ [x]) (by rw [hp]; simp)
    have hq := fun b k => nlink_spec b k (hs x (by rw [hp]; simp))
    have hep : eL x = .agg [x.1.1, x.2.1] := rfl
    rw [hep] at hq
    cases e : lkB x <;> rw [e] at hq
    · refine ⟨q.length, ?_, ?_⟩
      · rw [P43_0_eq]
        simp only [h1, hb.idx hx, ecL, hq, List.append_nil, ↓evD, evU, evL, Nat.reduceAdd, Nat.reduceSub, Nat.reduceMul, Nat.reduceLeDiff, Nat.reduceLT, Nat.reduceEqDiff, Nat.reduceBEq, reduceIte, reduceCtorEq, Int.reduceBEq, Int.reduceEq, Int.reduceLT, Int.reduceLE, Int.reduceGT, Int.reduceGE, Int.reduceAdd, Int.reduceSub, Int.reduceNeg, Int.reduceBNe, ite_true, ite_false, if_true, if_false, implies_true, forall_const]
      · rw [List.all_cons, e]; simp
    · refine ⟨n, ?_, ?_⟩
      · rw [P43_0_eq]
        simp only [h1, hb.idx hx, ecL, hq, w1, i1, List.append_nil, ↓evD, evU, evL, Nat.reduceAdd, Nat.reduceSub, Nat.reduceMul, Nat.reduceLeDiff, Nat.reduceLT, Nat.reduceEqDiff, Nat.reduceBEq, reduceIte, reduceCtorEq, Int.reduceBEq, Int.reduceEq, Int.reduceLT, Int.reduceLE, Int.reduceGT, Int.reduceGE, Int.reduceAdd, Int.reduceSub, Int.reduceNeg, Int.reduceBNe, ite_true, ite_false, if_true, if_false, implies_true, forall_const]
      · rw [List.all_cons, e, Bool.true_and]; exact i2
theorem anyL_spec {h : Hp} {base : Nat} {b : PV} {l : List Lk} (hb : Rl eL 2 b l) (hl : l.length ≤ 10000) (hs : ∀ p ∈ l, SmK p) : CallA T base 20 [b, .fn 21 []] h = some (.bool (!(l.all lkB)), h) := by
  have h60 : ∀ base h, ∃ n : Int, CallA T base 43 [b, .fn 21 []] h = some (i64 n, h) ∧ decide (n ≥ 0) = !(l.all lkB) := by
    intro base h
    obtain ⟨n, h1, h2⟩ := idxL_loop (h := h) hb hl hs l [] rfl
    refine ⟨n, ?_, h2⟩
    rw [S43]
    simp only [hb.len, ↓evD, evU, evL, Nat.reduceAdd, Nat.reduceSub, Nat.reduceMul, Nat.reduceLeDiff, Nat.reduceLT, Nat.reduceEqDiff, Nat.reduceBEq, reduceIte, reduceCtorEq, Int.reduceBEq, Int.reduceEq, Int.reduceLT, Int.reduceLE, Int.reduceGT, Int.reduceGE, Int.reduceAdd, Int.reduceSub, Int.reduceNeg, Int.reduceBNe, ite_true, ite_false, if_true, if_false, implies_true, forall_const]
    exact h1
  rw [S20]
  obtain ⟨n, h1, h2⟩ := h60 (size h) h
  simp only [h1, h2, ↓evD, evU, evL, Nat.reduceAdd, Nat.reduceSub, Nat.reduceMul, Nat.reduceLeDiff, Nat.reduceLT, Nat.reduceEqDiff, Nat.reduceBEq, reduceIte, reduceCtorEq, Int.reduceBEq, Int.reduceEq, Int.reduceLT, Int.reduceLE, Int.reduceGT, Int.reduceGE, Int.reduceAdd, Int.reduceSub, Int.reduceNeg, Int.reduceBNe, ite_true, ite_false, if_true, if_false, implies_true, forall_const]
theorem rightL_spec (base : Nat) (h : Hp) {b : PV} {l : List Lk} (hb : Rl eL 2 b l) (hl : l.length ≤ 10000) (hs : ∀ p ∈ l, SmK p) : CallA T base 10 [b] h = some (.bool (rgB l), h) := by
  have h1 := fun c m => anyL_spec (base := c) (h := m) hb hl hs
  have c3 : decide ((l.length : Int) ≤ 64) = decide (l.length ≤ 64) := by
    by_cases hq : l.length ≤ 64
    · rw [decide_eq_true hq, decide_eq_true (by omega)]
    · rw [decide_eq_false hq, decide_eq_false (by omega)]
  rw [S10]
  unfold rgB
  cases e1 : l.all lkB <;> rw [e1] at h1 <;> cases e3 : decide (l.length ≤ 64) <;> rw [e3] at c3 <;> simp only [hb.len, h1, c3, ↓evD, evU, evL, Nat.reduceAdd, Nat.reduceSub, Nat.reduceMul, Nat.reduceLeDiff, Nat.reduceLT, Nat.reduceEqDiff, Nat.reduceBEq, reduceIte, reduceCtorEq, Int.reduceBEq, Int.reduceEq, Int.reduceLT, Int.reduceLE, Int.reduceGT, Int.reduceGE, Int.reduceAdd, Int.reduceSub, Int.reduceNeg, Int.reduceBNe, ite_true, ite_false, if_true, if_false, implies_true, forall_const]
/-- The reference's. -/
theorem rgR_in {h : Hp} {b : PV} {l : List Lk} (hb : Rl eL 2 b l) (hl : l.length ≤ 64) {i : Nat} {k : Lk} (hk : l[i]? = some k) (hn : (aL k).length ≤ 8) (hs : ∀ p ∈ aL k, SmP p)
    {R : Option (PV × Hp)} (hR : ∀ H, Hg h H → P11_0 (size h) (size h) (i64 ((i + 1 : Nat) : Int)) b H = R) :
    ∀ (r q : List Pr) (H : Hp), Hg h H → aL k = q ++ r → P11_1 (size h) (size h) (i64 q.length) (i64 i) b H = if r.all prB then R else some (.bool false, h)
  | [], q, H, g, hp => by
    rw [P11_1_eq]
    have hi : i < l.length := by
      rcases Nat.lt_or_ge i l.length with h | h
      · exact h
      · rw [List.getElem?_eq_none h] at hk; cases hk
    have e : q.length = (aL k).length := by rw [hp]; simp
    have h1 : ((q.length : Int) < ((aL k).length : Int)) = False := by simp; omega
    have w1 : IntKind.i64.wrap ((i : Int) + 1) = ((i + 1 : Nat) : Int) := by rw [wrap_small] <;> omega
    simp only [hb.idx hk, ecL, (aV k).len, h1, w1, List.all_nil, hR H g, ↓evD, evU, evL, Nat.reduceAdd, Nat.reduceSub, Nat.reduceMul, Nat.reduceLeDiff, Nat.reduceLT, Nat.reduceEqDiff, Nat.reduceBEq, reduceIte, reduceCtorEq, Int.reduceBEq, Int.reduceEq, Int.reduceLT, Int.reduceLE, Int.reduceGT, Int.reduceGE, Int.reduceAdd, Int.reduceSub, Int.reduceNeg, Int.reduceBNe, ite_true, ite_false, if_true, if_false, implies_true, forall_const]
  | x :: r, q, H, g, hp => by
    rw [P11_1_eq]
    have el : (aL k).length = q.length + (r.length + 1) := by rw [hp]; simp
    have h1 : ((q.length : Int) < ((aL k).length : Int)) = True := by simp; omega
    have hx : (aL k)[q.length]? = some x := by rw [hp]; simp
    have w1 : IntKind.i64.wrap ((q.length : Int) + 1) = (((q ++ [x]).length : Nat) : Int) := by rw [show (q ++ [x]).length = q.length + 1 by simp, wrap_small] <;> omega
    have g1 := g.ext [.cells [.str x.1, .str x.2.1, .bool x.2.2]]
    have ih := rgR_in hb hl hk hn hs hR r (q ++ [x]) _ g1 (by rw [hp]; simp)
    obtain ⟨s1, s2⟩ := hs x (by rw [hp]; simp)
    have hn1 := fun b m => named_spec (base := b) (h := m) x.1 (by omega)
    have hv1 := fun b m => valued_spec (base := b) (h := m) x.2.1 (by omega)
    cases e1 : nmB x.1 <;> rw [e1] at hn1
    · have : prB x = false := by unfold prB; rw [e1]; rfl
      simp only [hb.idx hk, ecL, (aV k).len, h1, (aV k).idx hx, ecP, g.lt, hn1, g1.tr, List.all_cons, this, ↓evD, evU, evL, Nat.reduceAdd, Nat.reduceSub, Nat.reduceMul, Nat.reduceLeDiff, Nat.reduceLT, Nat.reduceEqDiff, Nat.reduceBEq, reduceIte, reduceCtorEq, Int.reduceBEq, Int.reduceEq, Int.reduceLT, Int.reduceLE, Int.reduceGT, Int.reduceGE, Int.reduceAdd, Int.reduceSub, Int.reduceNeg, Int.reduceBNe, ite_true, ite_false, if_true, if_false, implies_true, forall_const]
    cases e2 : vlB x.2.1 <;> rw [e2] at hv1
    · have : prB x = false := by
        unfold prB; rw [e1, e2]
        cases e3 : x.2.2
        · rfl
        · have : (x.2.1 == []) = false := by
            cases e4 : (x.2.1 == [])
            · rfl
            · rw [beq_iff_eq] at e4; rw [e4] at e2; cases e2
          rw [this]; rfl
      simp only [hb.idx hk, ecL, (aV k).len, h1, (aV k).idx hx, ecP, g.lt, hn1, hv1, g1.tr, List.all_cons, this, ↓evD, evU, evL, Nat.reduceAdd, Nat.reduceSub, Nat.reduceMul, Nat.reduceLeDiff, Nat.reduceLT, Nat.reduceEqDiff, Nat.reduceBEq, reduceIte, reduceCtorEq, Int.reduceBEq, Int.reduceEq, Int.reduceLT, Int.reduceLE, Int.reduceGT, Int.reduceGE, Int.reduceAdd, Int.reduceSub, Int.reduceNeg, Int.reduceBNe, ite_true, ite_false, if_true, if_false, implies_true, forall_const]
    cases e3 : x.2.2
    · have : prB x = true := by unfold prB; rw [e1, e2, e3]; rfl
      simp only [e3] at g1 ih
      simp only [hb.idx hk, ecL, (aV k).len, h1, (aV k).idx hx, ecP, g.lt, hn1, hv1, e3, g1.tr, w1, ih, List.all_cons, this, ↓evD, evU, evL, Nat.reduceAdd, Nat.reduceSub, Nat.reduceMul, Nat.reduceLeDiff, Nat.reduceLT, Nat.reduceEqDiff, Nat.reduceBEq, reduceIte, reduceCtorEq, Int.reduceBEq, Int.reduceEq, Int.reduceLT, Int.reduceLE, Int.reduceGT, Int.reduceGE, Int.reduceAdd, Int.reduceSub, Int.reduceNeg, Int.reduceBNe, ite_true, ite_false, if_true, if_false, implies_true, forall_const]
    · simp only [e3] at g1 ih
      cases e4 : (x.2.1 == [])
      · have : prB x = false := by unfold prB; rw [e1, e3, e4]; rfl
        simp only [hb.idx hk, ecL, (aV k).len, h1, (aV k).idx hx, ecP, g.lt, hn1, hv1, e3, e4, bne, g1.tr, w1, ih, List.all_cons, this, ↓evD, evU, evL, Nat.reduceAdd, Nat.reduceSub, Nat.reduceMul, Nat.reduceLeDiff, Nat.reduceLT, Nat.reduceEqDiff, Nat.reduceBEq, reduceIte, reduceCtorEq, Int.reduceBEq, Int.reduceEq, Int.reduceLT, Int.reduceLE, Int.reduceGT, Int.reduceGE, Int.reduceAdd, Int.reduceSub, Int.reduceNeg, Int.reduceBNe, ite_true, ite_false, if_true, if_false, implies_true, forall_const]
      · have : prB x = true := by unfold prB; rw [e1, e3, e4]; rfl
        simp only [hb.idx hk, ecL, (aV k).len, h1, (aV k).idx hx, ecP, g.lt, hn1, hv1, e3, e4, bne, g1.tr, w1, ih, List.all_cons, this, ↓evD, evU, evL, Nat.reduceAdd, Nat.reduceSub, Nat.reduceMul, Nat.reduceLeDiff, Nat.reduceLT, Nat.reduceEqDiff, Nat.reduceBEq, reduceIte, reduceCtorEq, Int.reduceBEq, Int.reduceEq, Int.reduceLT, Int.reduceLE, Int.reduceGT, Int.reduceGE, Int.reduceAdd, Int.reduceSub, Int.reduceNeg, Int.reduceBNe, ite_true, ite_false, if_true, if_false, implies_true, forall_const]
theorem rgR_loop {h : Hp} {b : PV} {l : List Lk} (hb : Rl eL 2 b l) (hl : l.length ≤ 64) (hs : ∀ p ∈ l, SmK p) : ∀ (r q : List Lk) (H : Hp), Hg h H → l = q ++ r →
    P11_0 (size h) (size h) (i64 q.length) b H = some (.bool (r.all lkB), h)
  | [], q, H, g, hp => by
    rw [P11_0_eq]
    have e : q.length = l.length := by rw [hp]; simp
    have h1 : ((q.length : Int) < (l.length : Int)) = False := by simp; omega
    simp only [h1, hb.len, List.all_nil, g.tr, ↓evD, evU, evL, Nat.reduceAdd, Nat.reduceSub, Nat.reduceMul, Nat.reduceLeDiff, Nat.reduceLT, Nat.reduceEqDiff, Nat.reduceBEq, reduceIte, reduceCtorEq, Int.reduceBEq, Int.reduceEq, Int.reduceLT, Int.reduceLE, Int.reduceGT, Int.reduceGE, Int.reduceAdd, Int.reduceSub, Int.reduceNeg, Int.reduceBNe, ite_true, ite_false, if_true, if_false, implies_true, forall_const]
  | x :: r, q, H, g, hp => by
    rw [P11_0_eq]
    have el : l.length = q.length + (r.length + 1) := by rw [hp]; simp
    have h1 : ((q.length : Int) < (l.length : Int)) = True := by simp; omega
    have hx : l[q.length]? = some x := by rw [hp]; simp
    have sx := hs x (by rw [hp]; simp)
    have hr := fun b m => rightR_spec (base := b) (h := m) (pV x).rl (by have := sx.p; omega)
    cases e1 : rightB (pL x) <;> rw [e1] at hr
    · have : lkB x = false := by unfold lkB; rw [e1]; rfl
      simp only [h1, hb.len, hb.idx hx, ecL, hr, g.tr, List.all_cons, this, ↓evD, evU, evL, Nat.reduceAdd, Nat.reduceSub, Nat.reduceMul, Nat.reduceLeDiff, Nat.reduceLT, Nat.reduceEqDiff, Nat.reduceBEq, reduceIte, reduceCtorEq, Int.reduceBEq, Int.reduceEq, Int.reduceLT, Int.reduceLE, Int.reduceGT, Int.reduceGE, Int.reduceAdd, Int.reduceSub, Int.reduceNeg, Int.reduceBNe, ite_true, ite_false, if_true, if_false, implies_true, forall_const]
    by_cases c2 : ((aL x).length : Int) > 8
    · have : lkB x = false := by unfold lkB; rw [decide_eq_false (by omega : ¬ (aL x).length ≤ 8)]; simp
      simp only [h1, hb.len, hb.idx hx, ecL, hr, (aV x).len, c2, g.tr, List.all_cons, this, ↓evD, evU, evL, Nat.reduceAdd, Nat.reduceSub, Nat.reduceMul, Nat.reduceLeDiff, Nat.reduceLT, Nat.reduceEqDiff, Nat.reduceBEq, reduceIte, reduceCtorEq, Int.reduceBEq, Int.reduceEq, Int.reduceLT, Int.reduceLE, Int.reduceGT, Int.reduceGE, Int.reduceAdd, Int.reduceSub, Int.reduceNeg, Int.reduceBNe, ite_true, ite_false, if_true, if_false, implies_true, forall_const]
    have ih := fun H g => rgR_loop (h := h) hb hl hs r (q ++ [x]) H g (by rw [hp]; simp)
    rw [show (q ++ [x]).length = q.length + 1 by simp] at ih
    have hin := rgR_in hb hl hx (by omega) sx.s ih (aL x) [] H g rfl
    have e3 : lkB x = (aL x).all prB := by
      unfold lkB
      rw [decide_eq_true (by omega : (aL x).length ≤ 8), e1]; rfl
    simp only [h1, hb.len, hb.idx hx, ecL, hr, (aV x).len, c2, List.all_cons, e3, ↓evD, evU, evL, Nat.reduceAdd, Nat.reduceSub, Nat.reduceMul, Nat.reduceLeDiff, Nat.reduceLT, Nat.reduceEqDiff, Nat.reduceBEq, reduceIte, reduceCtorEq, Int.reduceBEq, Int.reduceEq, Int.reduceLT, Int.reduceLE, Int.reduceGT, Int.reduceGE, Int.reduceAdd, Int.reduceSub, Int.reduceNeg, Int.reduceBNe, ite_true, ite_false, if_true, if_false, implies_true, forall_const]
    refine hin.trans ?_
    cases (aL x).all prB <;> rfl
theorem rightLR_spec (base : Nat) (h : Hp) {b : PV} {l : List Lk} (hb : Rl eL 2 b l) (hs : ∀ p ∈ l, SmK p) : CallA T base 11 [b] h = some (.bool (rgB l), h) := by
  rw [S11]
  unfold rgB
  by_cases h3 : l.length ≤ 64
  · have h1 : ((l.length : Int) > 64) = False := by simp; omega
    have := rgR_loop (h := h) hb h3 hs l [] h (Hg.refl h) rfl
    rw [decide_eq_true h3]
    simp only [hb.len, h1, ↓evD, evU, evL, Nat.reduceAdd, Nat.reduceSub, Nat.reduceMul, Nat.reduceLeDiff, Nat.reduceLT, Nat.reduceEqDiff, Nat.reduceBEq, reduceIte, reduceCtorEq, Int.reduceBEq, Int.reduceEq, Int.reduceLT, Int.reduceLE, Int.reduceGT, Int.reduceGE, Int.reduceAdd, Int.reduceSub, Int.reduceNeg, Int.reduceBNe, ite_true, ite_false, if_true, if_false, implies_true, forall_const]
    exact this
  · have h1 : ((l.length : Int) > 64) = True := by simp; omega
    rw [decide_eq_false h3]
    simp only [hb.len, h1, ↓evD, evU, evL, Nat.reduceAdd, Nat.reduceSub, Nat.reduceMul, Nat.reduceLeDiff, Nat.reduceLT, Nat.reduceEqDiff, Nat.reduceBEq, reduceIte, reduceCtorEq, Int.reduceBEq, Int.reduceEq, Int.reduceLT, Int.reduceLE, Int.reduceGT, Int.reduceGE, Int.reduceAdd, Int.reduceSub, Int.reduceNeg, Int.reduceBNe, ite_true, ite_false, if_true, if_false, implies_true, forall_const]
end Go.Am.YtdnbedldmkagmaaGreatDoor
namespace Go.Am.YtdnbedldmkagmaaGreatDoor
set_option maxRecDepth 100000
set_option linter.unusedSimpArgs false
set_option linter.unusedVariables false
open Go.Lib (itoa)
def valS (s : List UInt8) : List UInt8 := if plB s then s else 34 :: (s ++ [34])
def pairT (p : Pr) : List UInt8 := 59 :: p.1 ++ (if p.2.2 then [] else 61 :: valS p.2.1)
def pairsT (l : List Pr) : List UInt8 := l.flatMap pairT
noncomputable def linkT (k : Lk) : List UInt8 := 60 :: (textS (pL k) ++ 62 :: pairsT (aL k))
noncomputable def restT (l : List Lk) : List UInt8 := l.flatMap fun k => 44 :: linkT k
noncomputable def linksT : List Lk → List UInt8
  | [] => []
  | k :: l => linkT k ++ restT l
theorem pairsT_cons (p : Pr) (l : List Pr) : pairsT (p :: l) = pairT p ++ pairsT l := rfl
theorem value_spec (base : Nat) (h : Hp) (s : List UInt8) (hs : s.length ≤ 1000000) : CallA T base 38 [.str s] h = some (.str (valS s), h) := by
  rw [S38]; unfold valS plB
  have hr := fun b k => run_spec (base := b) (h := k) sim_spec s hs
  have ha := tw_all (q := simB) s
  have l1 : 1 + s.length ≤ limS := by unfold limS; omega
  have l2 : s.length + 1 + 1 ≤ limS := by unfold limS; omega
  cases e1 : (s == [])
  · cases e2 : s.all simB <;> rw [e2] at ha <;> simp only [e1, hr, ha, l1, l2, bne, ↓evD, evU, evL, Nat.reduceAdd, Nat.reduceSub, Nat.reduceMul, Nat.reduceLeDiff, Nat.reduceLT, Nat.reduceEqDiff, Nat.reduceBEq, reduceIte, reduceCtorEq, Int.reduceBEq, Int.reduceEq, Int.reduceLT, Int.reduceLE, Int.reduceGT, Int.reduceGE, Int.reduceAdd, Int.reduceSub, Int.reduceNeg, Int.reduceBNe, ite_true, ite_false, if_true, if_false, implies_true, forall_const]
  · simp only [e1, l1, l2, bne, ↓evD, evU, evL, Nat.reduceAdd, Nat.reduceSub, Nat.reduceMul, Nat.reduceLeDiff, Nat.reduceLT, Nat.reduceEqDiff, Nat.reduceBEq, reduceIte, reduceCtorEq, Int.reduceBEq, Int.reduceEq, Int.reduceLT, Int.reduceLE, Int.reduceGT, Int.reduceGE, Int.reduceAdd, Int.reduceSub, Int.reduceNeg, Int.reduceBNe, ite_true, ite_false, if_true, if_false, implies_true, forall_const]
theorem pairs_loop {h : Hp} {b : PV} {l : List Pr} (hb : Rl eP 3 b l) (hl : l.length ≤ 10000) (hs : ∀ p ∈ l, SmP p) : ∀ (r q : List Pr) (out : List UInt8) (H : Hp), Hg h H → l = q ++ r → out.length + (pairsT r).length ≤ 1000000 →
    P17_0 (size h) (size h) (i64 q.length) (.str out) b (i64 l.length) H = some (.str (out ++ pairsT r), h)
  | [], q, out, H, g, hp, ho => by
    rw [P17_0_eq]
    have e : q.length = l.length := by rw [hp]; simp
    have h1 : ((q.length : Int) < (l.length : Int)) = False := by simp; omega
    simp only [h1, g.tr, pairsT, List.flatMap_nil, List.append_nil, ↓evD, evU, evL, Nat.reduceAdd, Nat.reduceSub, Nat.reduceMul, Nat.reduceLeDiff, Nat.reduceLT, Nat.reduceEqDiff, Nat.reduceBEq, reduceIte, reduceCtorEq, Int.reduceBEq, Int.reduceEq, Int.reduceLT, Int.reduceLE, Int.reduceGT, Int.reduceGE, Int.reduceAdd, Int.reduceSub, Int.reduceNeg, Int.reduceBNe, ite_true, ite_false, if_true, if_false, implies_true, forall_const]
  | x :: r, q, out, H, g, hp, ho => by
    rw [P17_0_eq]
    have el : l.length = q.length + (r.length + 1) := by rw [hp]; simp
    have h1 : ((q.length : Int) < (l.length : Int)) = True := by simp; omega
    have hx : l[q.length]? = some x := by rw [hp]; simp
    have w1 : IntKind.i64.wrap ((q.length : Int) + 1) = (((q ++ [x]).length : Nat) : Int) := by rw [show (q ++ [x]).length = q.length + 1 by simp, wrap_small] <;> omega
    have g1 := g.ext [.cells [.str x.1, .str x.2.1, .bool x.2.2]]
    rw [pairsT_cons, List.length_append] at ho
    have sx := hs x (by rw [hp]; simp)
    have hv := fun b m => value_spec b m x.2.1 (by have := sx.2; omega)
    have l0 : 1 + x.1.length ≤ limS := by unfold limS; have := sx.1; omega
    obtain ⟨O1, hO1, lO1⟩ : ∃ O1, out ++ 59 :: x.1 = O1 ∧ O1.length = out.length + (x.1.length + 1) := ⟨_, rfl, by simp⟩
    cases e1 : x.2.2
    · have e2 : pairT x = 59 :: x.1 ++ 61 :: valS x.2.1 := by unfold pairT; rw [e1]; rfl
      rw [e2] at ho
      simp only [List.length_append, List.length_cons] at ho
      rw [e1] at g1
      have l1 : out.length + (x.1.length + 1) ≤ limS := by unfold limS; omega
      have l2 : 1 + (valS x.2.1).length ≤ limS := by unfold limS; omega
      have l3 : O1.length + ((valS x.2.1).length + 1) ≤ limS := by unfold limS; omega
      have ih := pairs_loop hb hl hs r (q ++ [x]) (O1 ++ 61 :: valS x.2.1) _ g1 (by rw [hp]; simp) (by simp only [List.length_append, List.length_cons]; omega)
      simp only [h1, hb.idx hx, ecP, g.lt, e1, hv, l0, l1, hO1, l2, l3, w1, ih, ↓evD, evU, evL, Nat.reduceAdd, Nat.reduceSub, Nat.reduceMul, Nat.reduceLeDiff, Nat.reduceLT, Nat.reduceEqDiff, Nat.reduceBEq, reduceIte, reduceCtorEq, Int.reduceBEq, Int.reduceEq, Int.reduceLT, Int.reduceLE, Int.reduceGT, Int.reduceGE, Int.reduceAdd, Int.reduceSub, Int.reduceNeg, Int.reduceBNe, ite_true, ite_false, if_true, if_false, implies_true, forall_const]
      rw [pairsT_cons, e2, ← hO1]
      simp
    · have e2 : pairT x = 59 :: x.1 := by unfold pairT; rw [e1]; simp
      rw [e2] at ho
      simp only [List.length_cons] at ho
      rw [e1] at g1
      have l1 : out.length + (x.1.length + 1) ≤ limS := by unfold limS; omega
      have ih := pairs_loop hb hl hs r (q ++ [x]) O1 _ g1 (by rw [hp]; simp) (by omega)
      simp only [h1, hb.idx hx, ecP, g.lt, e1, l0, l1, hO1, w1, ih, ↓evD, evU, evL, Nat.reduceAdd, Nat.reduceSub, Nat.reduceMul, Nat.reduceLeDiff, Nat.reduceLT, Nat.reduceEqDiff, Nat.reduceBEq, reduceIte, reduceCtorEq, Int.reduceBEq, Int.reduceEq, Int.reduceLT, Int.reduceLE, Int.reduceGT, Int.reduceGE, Int.reduceAdd, Int.reduceSub, Int.reduceNeg, Int.reduceBNe, ite_true, ite_false, if_true, if_false, implies_true, forall_const]
      rw [pairsT_cons, e2, ← hO1]
      simp
theorem linkT_len (k : Lk) : (linkT k).length = (textS (pL k)).length + (pairsT (aL k)).length + 2 := by
  unfold linkT; simp; omega
theorem text1_spec (base : Nat) (h : Hp) {k : Lk} (hs : SmK k) (ho : (linkT k).length ≤ 1000000) : CallA T base 17 [eL k] h = some (.str (linkT k), h) := by
  have hel : eL k = .agg [k.1.1, k.2.1] := rfl
  rw [linkT_len] at ho
  have ht := fun b m => text_spec (base := b) (h := m) (pV k).rl (by have := hs.p; omega)
  have l1 : 1 + (textS (pL k)).length ≤ limS := by unfold limS; omega
  have l2 : (textS (pL k)).length + 1 + 1 ≤ limS := by unfold limS; omega
  have g := (Hg.refl h).ext [.cells [k.1.1, k.2.1]]
  have hp := pairs_loop (aV k).rl hs.a hs.s (aL k) [] (60 :: (textS (pL k) ++ [62])) _ g rfl (by simp only [List.length_append, List.length_cons, List.length_nil]; omega)
  rw [S17, hel]
  simp only [(pV k).scalar, (aV k).scalar, (aV k).len, ht, l1, l2, ↓evD, evU, evL, Nat.reduceAdd, Nat.reduceSub, Nat.reduceMul, Nat.reduceLeDiff, Nat.reduceLT, Nat.reduceEqDiff, Nat.reduceBEq, reduceIte, reduceCtorEq, Int.reduceBEq, Int.reduceEq, Int.reduceLT, Int.reduceLE, Int.reduceGT, Int.reduceGE, Int.reduceAdd, Int.reduceSub, Int.reduceNeg, Int.reduceBNe, ite_true, ite_false, if_true, if_false, implies_true, forall_const]
  refine hp.trans ?_
  unfold linkT
  simp
/-- strings.Join. -/
theorem join_text : ∀ (l : List Lk), Lib.join (l.map linkT) [44] = linksT l
  | [] => rfl
  | [k] => by simp [Lib.join, linksT, restT, List.intercalate]
  | k :: m :: l => by
    have ih := join_text (m :: l)
    simp only [Lib.join, linksT, restT, List.intercalate, List.map_cons, List.intersperse_cons_cons, List.flatten_cons, List.flatMap_cons] at *
    rw [ih]
    simp
theorem eS_strs : ∀ l : List (List UInt8), strsOf (l.map eS) = some l
  | [] => rfl
  | x :: l => by
    show (match strsOf (l.map eS) with | some l => some (x :: l) | none => none) = _
    rw [eS_strs l]
theorem join_spec (base : Nat) (k : Hp) {v : PV} {l : List (List UInt8)} (hv : (l.map eS = [] ∧ v = .nils) ∨ ∃ t, v = .sl (.tok t) 1 (l.map eS)) (hl : l.length ≤ 10000) (hn : (Lib.join l [44]).length ≤ 140737488355328) :
    CallA T base 18 [v, .str [44]] k = some (.str (Lib.join l [44]), k) := by
  rw [CallA_prim T_18]
  rcases hv with ⟨h1, rfl⟩ | ⟨t, rfl⟩
  · cases l with
    | nil => rfl
    | cons x l => cases h1
  · have main : pJoin [.sl (.tok t) 1 (l.map eS), .str [44]] = some (.str (Lib.join l [44])) := by
      simp only [pJoin, eS_strs]
      rw [if_pos ⟨by unfold lim2; omega, hn⟩]
    rw [main]; rfl
end Go.Am.YtdnbedldmkagmaaGreatDoor
namespace Go.Am.YtdnbedldmkagmaaGreatDoor
set_option maxRecDepth 100000
set_option linter.unusedSimpArgs false
set_option linter.unusedVariables false
open Go.Lib (itoa)
theorem write_loop {h : Hp} {b : PV} {l : List Lk} (hb : Rl eL 2 b l) (hl : l.length ≤ 64) (hs : ∀ p ∈ l, SmK p) (hn : (linksT l).length ≤ 1000000) (hk : ∀ k ∈ l, (linkT k).length ≤ 1000000) :
    ∀ (r q : List Lk) (v : PV) (H : Hp), l = q ++ r → GS h 9 1 .nils v ((q.map linkT).map eS) H →
    P8_0 (size h) (size h) (i64 q.length) v b (i64 l.length) H = some (.tup [.str (linksT l), i64 0], h)
  | [], q, v, H, hp, g => by
    rw [P8_0_eq]
    have e : q.length = l.length := by rw [hp]; simp
    have h1 : ((q.length : Int) < (l.length : Int)) = False := by simp; omega
    have hq : q = l := by rw [hp]; simp
    subst hq
    have hj := fun c => join_spec c H (v := v) (l := q.map linkT) (by
      rcases g.va with ⟨a1, a2⟩ | ⟨_, t, a2, _⟩
      · exact .inl ⟨a1, a2⟩
      · exact .inr ⟨t, a2⟩) (by rw [List.length_map]; omega) (by rw [join_text]; omega)
    rw [join_text] at hj
    simp only [h1, hj, g.tr, ↓evD, evU, evL, Nat.reduceAdd, Nat.reduceSub, Nat.reduceMul, Nat.reduceLeDiff, Nat.reduceLT, Nat.reduceEqDiff, Nat.reduceBEq, reduceIte, reduceCtorEq, Int.reduceBEq, Int.reduceEq, Int.reduceLT, Int.reduceLE, Int.reduceGT, Int.reduceGE, Int.reduceAdd, Int.reduceSub, Int.reduceNeg, Int.reduceBNe, ite_true, ite_false, if_true, if_false, implies_true, forall_const]
  | x :: r, q, v, H, hp, g => by
    rw [P8_0_eq]
    have el : l.length = q.length + (r.length + 1) := by rw [hp]; simp
    have h1 : ((q.length : Int) < (l.length : Int)) = True := by simp; omega
    have hx : l[q.length]? = some x := by rw [hp]; simp
    have w1 : IntKind.i64.wrap ((q.length : Int) + 1) = (((q ++ [x]).length : Nat) : Int) := by rw [show (q ++ [x]).length = q.length + 1 by simp, wrap_small] <;> omega
    have n1 : (size H < size h) = False := by have := g.le; simp; omega
    have g1 := g.ext [.cells [x.1.1, x.2.1]]
    obtain ⟨v', H', e1, g2⟩ := g1.grow (gZ_nils 1) (x := eS (linkT x)) (by simpa using elS.fits [linkT x]) (elS.st _) (by unfold lim2; simp; omega)
    have g3 : GS h 9 1 .nils v' (((q ++ [x]).map linkT).map eS) H' := by rw [List.map_append, List.map_append]; exact g2
    have ih := write_loop hb hl hs hn hk r (q ++ [x]) v' H' (by rw [hp]; simp) g3
    have ht := fun c m => text1_spec c m (hs x (by rw [hp]; simp)) (hk x (by rw [hp]; simp))
    have hel : eL x = .agg [x.1.1, x.2.1] := rfl
    rw [hel] at ht
    have e4 : eS (linkT x) = .str (linkT x) := rfl
    rw [e4] at e1
    simp only [h1, hb.idx hx, ecL, n1, (pV x).scalar, (aV x).scalar, (pV x).strip, (aV x).strip, ht, e1, w1, ih, ↓evD, evU, evL, Nat.reduceAdd, Nat.reduceSub, Nat.reduceMul, Nat.reduceLeDiff, Nat.reduceLT, Nat.reduceEqDiff, Nat.reduceBEq, reduceIte, reduceCtorEq, Int.reduceBEq, Int.reduceEq, Int.reduceLT, Int.reduceLE, Int.reduceGT, Int.reduceGE, Int.reduceAdd, Int.reduceSub, Int.reduceNeg, Int.reduceBNe, ite_true, ite_false, if_true, if_false, implies_true, forall_const]
theorem write_spec (base : Nat) (h : Hp) {b : PV} {l : List Lk} (hb : Rl eL 2 b l) (hl : l.length ≤ 10000) (hs : ∀ p ∈ l, SmK p) (hn : rgB l = true → (linksT l).length ≤ 1000000) (hk : rgB l = true → ∀ k ∈ l, (linkT k).length ≤ 1000000) :
    CallA T base 8 [b] h = some (.tup [.str (if rgB l then linksT l else []), i64 (if rgB l then 0 else 1)], h) := by
  have hr := fun c m => rightL_spec c m hb hl hs
  rw [S8]
  cases e : rgB l <;> rw [e] at hr
  · simp only [hr, ↓evD, evU, evL, Nat.reduceAdd, Nat.reduceSub, Nat.reduceMul, Nat.reduceLeDiff, Nat.reduceLT, Nat.reduceEqDiff, Nat.reduceBEq, reduceIte, reduceCtorEq, Int.reduceBEq, Int.reduceEq, Int.reduceLT, Int.reduceLE, Int.reduceGT, Int.reduceGE, Int.reduceAdd, Int.reduceSub, Int.reduceNeg, Int.reduceBNe, ite_true, ite_false, if_true, if_false, implies_true, forall_const]
  · have h64 : l.length ≤ 64 := by
      unfold rgB at e
      rw [Bool.and_eq_true, decide_eq_true_eq] at e
      exact e.1
    have := write_loop (h := h) hb h64 hs (hn e) (hk e) l [] .nils h rfl (GS.zero h 9 1 .nils)
    simp only [hr, hb.len, ↓evD, evU, evL, Nat.reduceAdd, Nat.reduceSub, Nat.reduceMul, Nat.reduceLeDiff, Nat.reduceLT, Nat.reduceEqDiff, Nat.reduceBEq, reduceIte, reduceCtorEq, Int.reduceBEq, Int.reduceEq, Int.reduceLT, Int.reduceLE, Int.reduceGT, Int.reduceGE, Int.reduceAdd, Int.reduceSub, Int.reduceNeg, Int.reduceBNe, ite_true, ite_false, if_true, if_false, implies_true, forall_const]
    exact this
/-- The reference's. -/
theorem wrR_in {h : Hp} {b : PV} {l : List Lk} (hb : Rl eL 2 b l) (hl : l.length ≤ 64) {i : Nat} {k : Lk} (hk : l[i]? = some k) (hn : (aL k).length ≤ 10000) (hs : ∀ p ∈ aL k, SmP p) {O : List UInt8} (hO : O.length ≤ 1000000)
    {R : Option (PV × Hp)} (hR : ∀ H, Hg h H → P9_0 (size h) (size h) (i64 ((i + 1 : Nat) : Int)) b (.str O) H = R) :
    ∀ (r q : List Pr) (out : List UInt8) (H : Hp), Hg h H → aL k = q ++ r → out ++ pairsT r = O → P9_2 (size h) (size h) (i64 q.length) (.str out) (i64 i) b H = R
  | [], q, out, H, g, hp, ho => by
    rw [P9_2_eq]
    have hi : i < l.length := by
      rcases Nat.lt_or_ge i l.length with h | h
      · exact h
      · rw [List.getElem?_eq_none h] at hk; cases hk
    have e : q.length = (aL k).length := by rw [hp]; simp
    have h1 : ((q.length : Int) < ((aL k).length : Int)) = False := by simp; omega
    have w1 : IntKind.i64.wrap ((i : Int) + 1) = ((i + 1 : Nat) : Int) := by rw [wrap_small] <;> omega
    have ho' : out = O := by rw [← ho]; simp [pairsT]
    subst ho'
    simp only [hb.idx hk, ecL, (aV k).len, h1, w1, hR H g, ↓evD, evU, evL, Nat.reduceAdd, Nat.reduceSub, Nat.reduceMul, Nat.reduceLeDiff, Nat.reduceLT, Nat.reduceEqDiff, Nat.reduceBEq, reduceIte, reduceCtorEq, Int.reduceBEq, Int.reduceEq, Int.reduceLT, Int.reduceLE, Int.reduceGT, Int.reduceGE, Int.reduceAdd, Int.reduceSub, Int.reduceNeg, Int.reduceBNe, ite_true, ite_false, if_true, if_false, implies_true, forall_const]
  | x :: r, q, out, H, g, hp, ho => by
    rw [P9_2_eq]
    have el : (aL k).length = q.length + (r.length + 1) := by rw [hp]; simp
    have h1 : ((q.length : Int) < ((aL k).length : Int)) = True := by simp; omega
    have hx : (aL k)[q.length]? = some x := by rw [hp]; simp
    have w1 : IntKind.i64.wrap ((q.length : Int) + 1) = (((q ++ [x]).length : Nat) : Int) := by rw [show (q ++ [x]).length = q.length + 1 by simp, wrap_small] <;> omega
    have g1 := g.ext [.cells [.str x.1, .str x.2.1, .bool x.2.2]]
    have sx := hs x (by rw [hp]; simp)
    have hv := fun b m => plain_spec (base := b) (h := m) x.2.1 (by have := sx.2; omega)
    have hlen := congrArg List.length ho
    rw [pairsT_cons] at ho hlen
    obtain ⟨A1, hA1, lA1⟩ : ∃ A, out ++ [59] = A ∧ A.length = out.length + 1 := ⟨_, rfl, by simp⟩
    obtain ⟨A2, hA2, lA2⟩ : ∃ A, A1 ++ x.1 = A ∧ A.length = A1.length + x.1.length := ⟨_, rfl, by simp⟩
    have l1 : out.length + 1 ≤ limS := by unfold limS; simp only [List.length_append] at hlen; omega
    cases e1 : x.2.2
    · cases e2 : plB x.2.1 <;> rw [e2] at hv
      · have e3 : pairT x = 59 :: x.1 ++ 61 :: 34 :: (x.2.1 ++ [34]) := by unfold pairT valS; rw [e1, e2]; rfl
        rw [e3] at ho hlen
        simp only [List.length_append, List.length_cons, List.length_nil] at hlen
        obtain ⟨A3, hA3, lA3⟩ : ∃ A, A2 ++ [61, 34] = A ∧ A.length = A2.length + 2 := ⟨_, rfl, by simp⟩
        obtain ⟨A4, hA4, lA4⟩ : ∃ A, A3 ++ x.2.1 = A ∧ A.length = A3.length + x.2.1.length := ⟨_, rfl, by simp⟩
        obtain ⟨A5, hA5, lA5⟩ : ∃ A, A4 ++ [34] = A ∧ A.length = A4.length + 1 := ⟨_, rfl, by simp⟩
        have l2 : A1.length + x.1.length ≤ limS := by unfold limS; omega
        have l3 : A2.length + 2 ≤ limS := by unfold limS; omega
        have l4 : A3.length + x.2.1.length ≤ limS := by unfold limS; omega
        have l5 : A4.length + 1 ≤ limS := by unfold limS; omega
        rw [e1] at g1
        have ih := wrR_in hb hl hk hn hs hO hR r (q ++ [x]) A5 _ g1 (by rw [hp]; simp) (by rw [← ho, ← hA5, ← hA4, ← hA3, ← hA2, ← hA1]; simp)
        simp only [hb.idx hk, ecL, (aV k).len, h1, (aV k).idx hx, ecP, g.lt, e1, hv, l1, hA1, l2, hA2, l3, hA3, l4, hA4, l5, hA5, w1, ih, ↓evD, evU, evL, Nat.reduceAdd, Nat.reduceSub, Nat.reduceMul, Nat.reduceLeDiff, Nat.reduceLT, Nat.reduceEqDiff, Nat.reduceBEq, reduceIte, reduceCtorEq, Int.reduceBEq, Int.reduceEq, Int.reduceLT, Int.reduceLE, Int.reduceGT, Int.reduceGE, Int.reduceAdd, Int.reduceSub, Int.reduceNeg, Int.reduceBNe, ite_true, ite_false, if_true, if_false, implies_true, forall_const]
      · have e3 : pairT x = 59 :: x.1 ++ 61 :: x.2.1 := by unfold pairT valS; rw [e1, e2]; rfl
        rw [e3] at ho hlen
        simp only [List.length_append, List.length_cons, List.length_nil] at hlen
        obtain ⟨A3, hA3, lA3⟩ : ∃ A, A2 ++ [61] = A ∧ A.length = A2.length + 1 := ⟨_, rfl, by simp⟩
        obtain ⟨A4, hA4, lA4⟩ : ∃ A, A3 ++ x.2.1 = A ∧ A.length = A3.length + x.2.1.length := ⟨_, rfl, by simp⟩
        have l2 : A1.length + x.1.length ≤ limS := by unfold limS; omega
        have l3 : A2.length + 1 ≤ limS := by unfold limS; omega
        have l4 : A3.length + x.2.1.length ≤ limS := by unfold limS; omega
        rw [e1] at g1
        have ih := wrR_in hb hl hk hn hs hO hR r (q ++ [x]) A4 _ g1 (by rw [hp]; simp) (by rw [← ho, ← hA4, ← hA3, ← hA2, ← hA1]; simp)
        simp only [hb.idx hk, ecL, (aV k).len, h1, (aV k).idx hx, ecP, g.lt, e1, hv, l1, hA1, l2, hA2, l3, hA3, l4, hA4, w1, ih, ↓evD, evU, evL, Nat.reduceAdd, Nat.reduceSub, Nat.reduceMul, Nat.reduceLeDiff, Nat.reduceLT, Nat.reduceEqDiff, Nat.reduceBEq, reduceIte, reduceCtorEq, Int.reduceBEq, Int.reduceEq, Int.reduceLT, Int.reduceLE, Int.reduceGT, Int.reduceGE, Int.reduceAdd, Int.reduceSub, Int.reduceNeg, Int.reduceBNe, ite_true, ite_false, if_true, if_false, implies_true, forall_const]
    · have e3 : pairT x = 59 :: x.1 := by unfold pairT; rw [e1]; simp
      rw [e3] at ho hlen
      simp only [List.length_append, List.length_cons, List.length_nil] at hlen
      have l2 : A1.length + x.1.length ≤ limS := by unfold limS; omega
      rw [e1] at g1
      have ih := wrR_in hb hl hk hn hs hO hR r (q ++ [x]) A2 _ g1 (by rw [hp]; simp) (by rw [← ho, ← hA2, ← hA1]; simp)
      simp only [hb.idx hk, ecL, (aV k).len, h1, (aV k).idx hx, ecP, g.lt, e1, l1, hA1, l2, hA2, w1, ih, ↓evD, evU, evL, Nat.reduceAdd, Nat.reduceSub, Nat.reduceMul, Nat.reduceLeDiff, Nat.reduceLT, Nat.reduceEqDiff, Nat.reduceBEq, reduceIte, reduceCtorEq, Int.reduceBEq, Int.reduceEq, Int.reduceLT, Int.reduceLE, Int.reduceGT, Int.reduceGE, Int.reduceAdd, Int.reduceSub, Int.reduceNeg, Int.reduceBNe, ite_true, ite_false, if_true, if_false, implies_true, forall_const]
noncomputable def fromT : Nat → List Lk → List UInt8
  | 0, l => linksT l
  | _ + 1, l => restT l
theorem wrR_loop {h : Hp} {b : PV} {l : List Lk} (hb : Rl eL 2 b l) (hl : l.length ≤ 64) (hs : ∀ p ∈ l, SmK p) {O : List UInt8} (hO : O.length ≤ 1000000) : ∀ (r q : List Lk) (out : List UInt8) (H : Hp), Hg h H → l = q ++ r → out ++ fromT q.length r = O →
    P9_0 (size h) (size h) (i64 q.length) b (.str out) H = some (.tup [.str O, i64 0], h)
  | [], q, out, H, g, hp, ho => by
    rw [P9_0_eq]
    have e : q.length = l.length := by rw [hp]; simp
    have h1 : ((q.length : Int) < (l.length : Int)) = False := by simp; omega
    have ho' : out = O := by rw [← ho]; cases q.length <;> simp [fromT, linksT, restT]
    subst ho'
    simp only [h1, hb.len, g.tr, ↓evD, evU, evL, Nat.reduceAdd, Nat.reduceSub, Nat.reduceMul, Nat.reduceLeDiff, Nat.reduceLT, Nat.reduceEqDiff, Nat.reduceBEq, reduceIte, reduceCtorEq, Int.reduceBEq, Int.reduceEq, Int.reduceLT, Int.reduceLE, Int.reduceGT, Int.reduceGE, Int.reduceAdd, Int.reduceSub, Int.reduceNeg, Int.reduceBNe, ite_true, ite_false, if_true, if_false, implies_true, forall_const]
  | x :: r, q, out, H, g, hp, ho => by
    have el : l.length = q.length + (r.length + 1) := by rw [hp]; simp
    have h1 : ((q.length : Int) < (l.length : Int)) = True := by simp; omega
    have hx : l[q.length]? = some x := by rw [hp]; simp
    have sx := hs x (by rw [hp]; simp)
    have ht := fun b m => textR_spec (base := b) (h := m) (pV x).rl (by have := sx.p; omega)
    have key : ∀ o, o ++ linkT x ++ restT r = O → P9_1 (size h) (size h) (i64 q.length) b (.str o) H = some (.tup [.str O, i64 0], h) := by
      intro o ho
      rw [P9_1_eq]
      have hlen := congrArg List.length ho
      simp only [List.length_append, linkT_len] at hlen
      obtain ⟨A1, hA1, lA1⟩ : ∃ A, o ++ [60] = A ∧ A.length = o.length + 1 := ⟨_, rfl, by simp⟩
      obtain ⟨A2, hA2, lA2⟩ : ∃ A, A1 ++ textS (pL x) = A ∧ A.length = A1.length + (textS (pL x)).length := ⟨_, rfl, by simp⟩
      obtain ⟨A3, hA3, lA3⟩ : ∃ A, A2 ++ [62] = A ∧ A.length = A2.length + 1 := ⟨_, rfl, by simp⟩
      have l1 : o.length + 1 ≤ limS := by unfold limS; omega
      have l2 : A1.length + (textS (pL x)).length ≤ limS := by unfold limS; omega
      have l3 : A2.length + 1 ≤ limS := by unfold limS; omega
      have ho2 : A3 ++ pairsT (aL x) ++ restT r = O := by rw [← ho, ← hA3, ← hA2, ← hA1]; simp [linkT]
      have hR : ∀ H, Hg h H → P9_0 (size h) (size h) (i64 ((q.length + 1 : Nat) : Int)) b (.str (A3 ++ pairsT (aL x))) H = some (.tup [.str O, i64 0], h) := by
        intro H g
        have := wrR_loop hb hl hs hO r (q ++ [x]) (A3 ++ pairsT (aL x)) H g (by rw [hp]; simp) (by rw [show (q ++ [x]).length = q.length + 1 by simp]; exact ho2)
        rw [show (q ++ [x]).length = q.length + 1 by simp] at this
        exact this
      have hA : (A3 ++ pairsT (aL x)).length ≤ 1000000 := by rw [List.length_append]; omega
      have hin := wrR_in hb hl hx sx.a sx.s hA hR (aL x) [] A3 H g rfl rfl
      simp only [hb.idx hx, ecL, ht, l1, hA1, l2, hA2, l3, hA3, ↓evD, evU, evL, Nat.reduceAdd, Nat.reduceSub, Nat.reduceMul, Nat.reduceLeDiff, Nat.reduceLT, Nat.reduceEqDiff, Nat.reduceBEq, reduceIte, reduceCtorEq, Int.reduceBEq, Int.reduceEq, Int.reduceLT, Int.reduceLE, Int.reduceGT, Int.reduceGE, Int.reduceAdd, Int.reduceSub, Int.reduceNeg, Int.reduceBNe, ite_true, ite_false, if_true, if_false, implies_true, forall_const]
      exact hin
    rw [P9_0_eq]
    by_cases hq : q.length = 0
    · have h2 : ((q.length : Int) > 0) = False := eq_false (by omega)
      have := key out (by rw [← ho, hq]; simp [fromT, linksT])
      simp only [h1, h2, hb.len, this, ↓evD, evU, evL, Nat.reduceAdd, Nat.reduceSub, Nat.reduceMul, Nat.reduceLeDiff, Nat.reduceLT, Nat.reduceEqDiff, Nat.reduceBEq, reduceIte, reduceCtorEq, Int.reduceBEq, Int.reduceEq, Int.reduceLT, Int.reduceLE, Int.reduceGT, Int.reduceGE, Int.reduceAdd, Int.reduceSub, Int.reduceNeg, Int.reduceBNe, ite_true, ite_false, if_true, if_false, implies_true, forall_const]
    · have h2 : ((q.length : Int) > 0) = True := eq_true (by omega)
      have e2 : fromT q.length (x :: r) = 44 :: linkT x ++ restT r := by
        obtain ⟨n, hn⟩ : ∃ n, q.length = n + 1 := ⟨q.length - 1, by omega⟩
        rw [hn]; simp [fromT, restT]
      have l1 : out.length + 1 ≤ limS := by
        have hlen := congrArg List.length ho
        rw [e2] at hlen
        simp only [List.length_append, List.length_cons] at hlen
        unfold limS; omega
      obtain ⟨A1, hA1, lA1⟩ : ∃ A, out ++ [44] = A ∧ A.length = out.length + 1 := ⟨_, rfl, by simp⟩
      have := key A1 (by rw [← ho, e2, ← hA1]; simp)
      simp only [h1, h2, hb.len, l1, hA1, this, ↓evD, evU, evL, Nat.reduceAdd, Nat.reduceSub, Nat.reduceMul, Nat.reduceLeDiff, Nat.reduceLT, Nat.reduceEqDiff, Nat.reduceBEq, reduceIte, reduceCtorEq, Int.reduceBEq, Int.reduceEq, Int.reduceLT, Int.reduceLE, Int.reduceGT, Int.reduceGE, Int.reduceAdd, Int.reduceSub, Int.reduceNeg, Int.reduceBNe, ite_true, ite_false, if_true, if_false, implies_true, forall_const]
theorem writeR_spec (base : Nat) (h : Hp) {b : PV} {l : List Lk} (hb : Rl eL 2 b l) (hs : ∀ p ∈ l, SmK p) (hn : rgB l = true → (linksT l).length ≤ 1000000) :
    CallA T base 9 [b] h = some (.tup [.str (if rgB l then linksT l else []), i64 (if rgB l then 0 else 1)], h) := by
  have hr := fun c m => rightLR_spec c m hb hs
  rw [S9]
  cases e : rgB l <;> rw [e] at hr
  · simp only [hr, ↓evD, evU, evL, Nat.reduceAdd, Nat.reduceSub, Nat.reduceMul, Nat.reduceLeDiff, Nat.reduceLT, Nat.reduceEqDiff, Nat.reduceBEq, reduceIte, reduceCtorEq, Int.reduceBEq, Int.reduceEq, Int.reduceLT, Int.reduceLE, Int.reduceGT, Int.reduceGE, Int.reduceAdd, Int.reduceSub, Int.reduceNeg, Int.reduceBNe, ite_true, ite_false, if_true, if_false, implies_true, forall_const]
  · have h64 : l.length ≤ 64 := by
      unfold rgB at e
      rw [Bool.and_eq_true, decide_eq_true_eq] at e
      exact e.1
    have := wrR_loop (h := h) hb h64 hs (hn e) l [] [] h (Hg.refl h) rfl rfl
    simp only [hr, ↓evD, evU, evL, Nat.reduceAdd, Nat.reduceSub, Nat.reduceMul, Nat.reduceLeDiff, Nat.reduceLT, Nat.reduceEqDiff, Nat.reduceBEq, reduceIte, reduceCtorEq, Int.reduceBEq, Int.reduceEq, Int.reduceLT, Int.reduceLE, Int.reduceGT, Int.reduceGE, Int.reduceAdd, Int.reduceSub, Int.reduceNeg, Int.reduceBNe, ite_true, ite_false, if_true, if_false, implies_true, forall_const]
    exact this
end Go.Am.YtdnbedldmkagmaaGreatDoor
namespace Go.Am.YtdnbedldmkagmaaGreatDoor
set_option maxRecDepth 100000
set_option linter.unusedSimpArgs false
set_option linter.unusedVariables false
open Go.Lib (itoa)
theorem segs_len : ∀ {p : List Int}, p.all numOk = true → (segsS p).length ≤ 22 * p.length
  | [], _ => by simp [segsS]
  | n :: p, h => by
    rw [List.all_cons, Bool.and_eq_true] at h
    have h1 := itoa_len (in64_ok h.1)
    have h2 := segs_len h.2
    simp only [segsS, List.cons_append, List.length_cons, List.length_append]
    omega
theorem textS_len (p : List Int) : (textS p).length ≤ 66 := by
  unfold textS
  split
  · simp
  · rename_i h
    split
    · simp
    · have : rightB p = true := by simpa using h
      unfold rightB at this
      rw [Bool.and_eq_true, decide_eq_true_eq] at this
      have := segs_len this.2
      omega
theorem pairT_len (p : Pr) : (pairT p).length ≤ p.1.length + p.2.1.length + 4 := by
  unfold pairT valS
  cases p.2.2
  · cases plB p.2.1 <;> simp <;> omega
  · simp; omega
theorem pairsT_len {n : Nat} : ∀ {l : List Pr}, (∀ p ∈ l, (pairT p).length ≤ n) → (pairsT l).length ≤ n * l.length
  | [], _ => by simp [pairsT]
  | p :: l, h => by
    have h1 := h p (by simp)
    have h2 := pairsT_len (n := n) (l := l) fun q hq => h q (by simp [hq])
    rw [pairsT_cons, List.length_append, List.length_cons, Nat.mul_succ]; omega
theorem restT_len {n : Nat} : ∀ {l : List Lk}, (∀ k ∈ l, (linkT k).length ≤ n) → (restT l).length ≤ (n + 1) * l.length
  | [], _ => by simp [restT]
  | k :: l, h => by
    have h1 := h k (by simp)
    have h2 := restT_len (n := n) (l := l) fun q hq => h q (by simp [hq])
    have : restT (k :: l) = 44 :: linkT k ++ restT l := by simp [restT]
    rw [this, List.length_append, List.length_cons, List.length_cons, Nat.mul_succ]; omega
theorem linksT_len (l : List Lk) : (linksT l).length ≤ (restT l).length := by
  cases l with
  | nil => simp [linksT]
  | cons k l => simp [linksT, restT]
theorem few_link {l : List Lk} (h : fewL l = true) : (∀ k ∈ l, (linkT k).length ≤ 6200) ∧ (linksT l).length ≤ 1000000 := by
  unfold fewL at h
  rw [Bool.and_eq_true, decide_eq_true_eq, List.all_eq_true] at h
  have hk : ∀ k ∈ l, (linkT k).length ≤ 6200 := by
    intro k hk
    have := h.2 k hk
    unfold fewK at this
    rw [Bool.and_eq_true, Bool.and_eq_true, decide_eq_true_eq, decide_eq_true_eq, List.all_eq_true] at this
    have h3 := pairsT_len (n := 304) (l := aL k) fun p hp => by
      have h2 := this.2 p hp
      unfold fewP at h2
      rw [Bool.and_eq_true, decide_eq_true_eq, decide_eq_true_eq] at h2
      have := pairT_len p
      omega
    rw [linkT_len]
    have := textS_len (pL k)
    omega
  refine ⟨hk, ?_⟩
  have h1 := restT_len hk
  have h2 := linksT_len l
  omega
theorem writes_true {b : PV} {l : List Lk} (hb : Lv eL 2 b l) : CallA T 0 3 [b] [] = some (.bool true, []) := by
  rw [S3]
  have ha := alive_spec
  have hf := fun c m => few_spec (base := c) (h := m) hb.rl
  cases e : fewL l <;> rw [e] at hf
  · simp only [ha, hf, ↓evD, evU, evL, Nat.reduceAdd, Nat.reduceSub, Nat.reduceMul, Nat.reduceLeDiff, Nat.reduceLT, Nat.reduceEqDiff, Nat.reduceBEq, reduceIte, reduceCtorEq, Int.reduceBEq, Int.reduceEq, Int.reduceLT, Int.reduceLE, Int.reduceGT, Int.reduceGE, Int.reduceAdd, Int.reduceSub, Int.reduceNeg, Int.reduceBNe, ite_true, ite_false, if_true, if_false, implies_true, forall_const]
  obtain ⟨hl, hs⟩ := sm_few e
  obtain ⟨h1, h2⟩ := few_link e
  have w1 := fun c m => write_spec c m hb.rl (by omega) hs (fun _ => h2) (fun _ k hk => by have := h1 k hk; omega)
  have w2 := fun c m => writeR_spec c m hb.rl hs (fun _ => h2)
  have r1 := fun c m => rightL_spec c m hb.rl (by omega) hs
  have r2 := fun c m => rightLR_spec c m hb.rl hs
  generalize (if rgB l = true then linksT l else []) = s at *
  generalize (if rgB l = true then (0 : Int) else 1) = n at *
  generalize rgB l = r at *
  have b1 : (s == s) = true := by simp
  have b2 : (n == n) = true := by simp
  have b3 : (r == r) = true := by simp
  simp only [ha, hf, w1, w2, r1, r2, b1, b2, b3, ↓evD, evU, evL, Nat.reduceAdd, Nat.reduceSub, Nat.reduceMul, Nat.reduceLeDiff, Nat.reduceLT, Nat.reduceEqDiff, Nat.reduceBEq, reduceIte, reduceCtorEq, Int.reduceBEq, Int.reduceEq, Int.reduceLT, Int.reduceLE, Int.reduceGT, Int.reduceGE, Int.reduceAdd, Int.reduceSub, Int.reduceNeg, Int.reduceBNe, ite_true, ite_false, if_true, if_false, implies_true, forall_const]
end Go.Am.YtdnbedldmkagmaaGreatDoor
namespace Go.Am.YtdnbedldmkagmaaGreatDoor
set_option maxRecDepth 100000
set_option linter.unusedSimpArgs false
set_option linter.unusedVariables false
/-- The reader's box k in heap H: what is left of the text. -/
abbrev rb (H : Hp) (k : Nat) (t : List UInt8) : Hp := setBx H k (.cells [.str t])
theorem rb_ext {H : Hp} {k : Nat} (hk : k < size H) (t : List UInt8) (l : List Box) : rb (ext H l) k t = ext (rb H k t) l := setBx_ext_lt hk
theorem rb_get {H : Hp} {k : Nat} (hk : k < size H) (t : List UInt8) : getBox (rb H k t) k = some [.str t] := getBox_set_same hk
theorem rb_gete {H : Hp} {k : Nat} (hk : k < size H) (t : List UInt8) (l : List Box) : getBox (ext (rb H k t) l) k = some [.str t] := by
  rw [getBox_ext_lt (by rw [size_setBx]; exact hk)]; exact rb_get hk t
theorem rb_rb (H : Hp) (k : Nat) (t u : List UInt8) : setBx (rb H k t) k (.cells [.str u]) = rb H k u := by
  unfold rb setBx
  exact List.set_set ..
theorem rb_trunc (H : Hp) (k : Nat) (t : List UInt8) : trunc (rb H k t) (size H) = rb H k t := by
  unfold rb setBx trunc size
  rw [List.take_of_length_le (by simp)]
theorem rb_trunce (H : Hp) (k : Nat) (t : List UInt8) (l : List Box) : trunc (ext (rb H k t) l) (size H) = rb H k t := by
  have : size H = size (rb H k t) := size_setBx.symm
  rw [this]; exact trunc_ext
def tk (c : UInt8) (t : List UInt8) : List UInt8 := if t.take 1 == [c] then t.drop 1 else t
theorem tk_len (c : UInt8) (t : List UInt8) : (tk c t).length ≤ t.length := by
  unfold tk; split
  · simp
  · exact Nat.le_refl _
theorem take_spec {H : Hp} {k : Nat} (hk : k < size H) (base : Nat) (c : UInt8) (t : List UInt8) (ht : t.length ≤ 100000) :
    CallA T base 27 [.ptr k 0, .str [c]] (rb H k t) = some (.bool (t.take 1 == [c]), rb H k (tk c t)) := by
  rw [S27]
  have hc := fun b m => cutPrefix_spec (base := b) (h := m) t [c] (by omega) (by simp)
  have n1 : (k < size H) = True := by simp [hk]
  have hz : size (rb H k t) = size H := size_setBx
  have e1 : ([c] : List UInt8).length = 1 := rfl
  rw [e1] at hc
  unfold tk
  cases e : (t.take 1 == [c]) <;> rw [e] at hc
  · simp only [hz, rb_get hk, hc, rb_trunc, Bool.false_eq_true, ↓evD, evU, evL, Nat.reduceAdd, Nat.reduceSub, Nat.reduceMul, Nat.reduceLeDiff, Nat.reduceLT, Nat.reduceEqDiff, Nat.reduceBEq, reduceIte, reduceCtorEq, Int.reduceBEq, Int.reduceEq, Int.reduceLT, Int.reduceLE, Int.reduceGT, Int.reduceGE, Int.reduceAdd, Int.reduceSub, Int.reduceNeg, Int.reduceBNe, ite_true, ite_false, if_true, if_false, implies_true, forall_const]
  · simp only [hz, rb_get hk, hc, n1, rb_rb, rb_trunc, ↓evD, evU, evL, Nat.reduceAdd, Nat.reduceSub, Nat.reduceMul, Nat.reduceLeDiff, Nat.reduceLT, Nat.reduceEqDiff, Nat.reduceBEq, reduceIte, reduceCtorEq, Int.reduceBEq, Int.reduceEq, Int.reduceLT, Int.reduceLE, Int.reduceGT, Int.reduceGE, Int.reduceAdd, Int.reduceSub, Int.reduceNeg, Int.reduceBNe, ite_true, ite_false, if_true, if_false, implies_true, forall_const]
theorem take_ext {H : Hp} {k : Nat} (hk : k < size H) (base : Nat) (c : UInt8) (t : List UInt8) (ht : t.length ≤ 100000) (l : List Box) :
    CallA T base 27 [.ptr k 0, .str [c]] (ext (rb H k t) l) = some (.bool (t.take 1 == [c]), ext (rb H k (tk c t)) l) := by
  rw [← rb_ext hk, ← rb_ext hk]
  exact take_spec (by rw [size_ext]; omega) base c t ht
theorem tw_take {q : UInt8 → Bool} : ∀ t : List UInt8, t.take (t.takeWhile q).length = t.takeWhile q ∧ t.drop (t.takeWhile q).length = t.dropWhile q
  | [] => ⟨rfl, rfl⟩
  | x :: t => by
    obtain ⟨h1, h2⟩ := tw_take (q := q) t
    rw [List.takeWhile_cons, List.dropWhile_cons]
    cases q x
    · exact ⟨rfl, rfl⟩
    · exact ⟨by simp [h1], by simp [h2]⟩
theorem tw_len {q : UInt8 → Bool} (t : List UInt8) : (t.takeWhile q).length + (t.dropWhile q).length = t.length := by
  rw [← List.length_append, List.takeWhile_append_dropWhile]
theorem while_spec {H : Hp} {k : Nat} (hk : k < size H) {f : Nat} {q : UInt8 → Bool} (hf : ∀ base h c, CallA T base f [u8i c] h = some (.bool (q c), h)) (base : Nat) (t : List UInt8) (ht : t.length ≤ 100000) :
    CallA T base 63 [.ptr k 0, .fn f []] (rb H k t) = some (.str (t.takeWhile q), rb H k (t.dropWhile q)) := by
  rw [S63]
  have hr := fun b m => run_spec (base := b) (h := m) hf t (by omega)
  have n1 : (k < size H) = True := by simp [hk]
  have hz : size (rb H k t) = size H := size_setBx
  obtain ⟨h1, h2⟩ := tw_take (q := q) t
  have hl := tw_len (q := q) t
  generalize t.takeWhile q = a at *
  generalize t.dropWhile q = d at *
  have hb := bdV_nat t.length .i64 a.length (by omega)
  have h3 : (t.drop a.length).take (t.length - a.length) = d := by rw [h2]; exact List.take_of_length_le (by omega)
  simp only [hz, rb_get hk, hr, hb, n1, List.drop_zero, Nat.sub_zero, h1, h3, rb_rb, rb_trunc, ↓evD, evU, evL, Nat.reduceAdd, Nat.reduceSub, Nat.reduceMul, Nat.reduceLeDiff, Nat.reduceLT, Nat.reduceEqDiff, Nat.reduceBEq, reduceIte, reduceCtorEq, Int.reduceBEq, Int.reduceEq, Int.reduceLT, Int.reduceLE, Int.reduceGT, Int.reduceGE, Int.reduceAdd, Int.reduceSub, Int.reduceNeg, Int.reduceBNe, ite_true, ite_false, if_true, if_false, implies_true, forall_const]
theorem while_ext {H : Hp} {k : Nat} (hk : k < size H) {f : Nat} {q : UInt8 → Bool} (hf : ∀ base h c, CallA T base f [u8i c] h = some (.bool (q c), h)) (base : Nat) (t : List UInt8) (ht : t.length ≤ 100000) (l : List Box) :
    CallA T base 63 [.ptr k 0, .fn f []] (ext (rb H k t) l) = some (.str (t.takeWhile q), ext (rb H k (t.dropWhile q)) l) := by
  rw [← rb_ext hk, ← rb_ext hk]
  exact while_spec (by rw [size_ext]; omega) hf base t ht
/-- A value. -/
def valF (t : List UInt8) : List UInt8 × Bool × List UInt8 :=
  if t.take 1 == [34] then
    ((t.drop 1).takeWhile priB, decide ((((t.drop 1).takeWhile priB).length : Int) ≤ 60) && (((t.drop 1).dropWhile priB).take 1 == [34]),
      if decide ((((t.drop 1).takeWhile priB).length : Int) ≤ 60) then tk 34 ((t.drop 1).dropWhile priB) else (t.drop 1).dropWhile priB)
  else (t.takeWhile simB, !(t.takeWhile simB == []) && decide (((t.takeWhile simB).length : Int) ≤ 60), t.dropWhile simB)
theorem val_spec {H : Hp} {k : Nat} (hk : k < size H) (base : Nat) (t : List UInt8) (ht : t.length ≤ 100000) :
    CallA T base 67 [.ptr k 0] (rb H k t) = some (.tup [.str (valF t).1, .bool (valF t).2.1], rb H k (valF t).2.2) := by
  rw [S67]
  have hz : size (rb H k t) = size H := size_setBx
  have h1 := fun b => take_spec hk b 34 t ht
  unfold valF
  unfold tk at h1
  cases e : (t.take 1 == [34]) <;> rw [e] at h1
  · have h2 := fun b => while_spec hk sim_spec b t ht
    generalize t.takeWhile simB = a at *
    generalize t.dropWhile simB = d at *
    simp only [Bool.false_eq_true, if_false] at h1 h2 ⊢
    cases e1 : (a == [])
    · by_cases c1 : ((a.length : Int) ≤ 60) <;> simp only [hz, h1, h2, e1, c1, bne, rb_trunc, ↓evD, evU, evL, Nat.reduceAdd, Nat.reduceSub, Nat.reduceMul, Nat.reduceLeDiff, Nat.reduceLT, Nat.reduceEqDiff, Nat.reduceBEq, reduceIte, reduceCtorEq, Int.reduceBEq, Int.reduceEq, Int.reduceLT, Int.reduceLE, Int.reduceGT, Int.reduceGE, Int.reduceAdd, Int.reduceSub, Int.reduceNeg, Int.reduceBNe, ite_true, ite_false, if_true, if_false, implies_true, forall_const]
    · simp only [hz, h1, h2, e1, bne, rb_trunc, ↓evD, evU, evL, Nat.reduceAdd, Nat.reduceSub, Nat.reduceMul, Nat.reduceLeDiff, Nat.reduceLT, Nat.reduceEqDiff, Nat.reduceBEq, reduceIte, reduceCtorEq, Int.reduceBEq, Int.reduceEq, Int.reduceLT, Int.reduceLE, Int.reduceGT, Int.reduceGE, Int.reduceAdd, Int.reduceSub, Int.reduceNeg, Int.reduceBNe, ite_true, ite_false, if_true, if_false, implies_true, forall_const]
  · have hd : (t.drop 1).length ≤ 100000 := by rw [List.length_drop]; omega
    simp only [if_true] at h1 ⊢
    generalize t.drop 1 = s at *
    have h2 := fun b => while_spec hk pri_spec b s hd
    have hl := tw_len (q := priB) s
    generalize s.takeWhile priB = a at *
    generalize s.dropWhile priB = d at *
    have h3 := fun b => take_spec hk b 34 d (by omega)
    by_cases c1 : ((a.length : Int) ≤ 60)
    · simp only [hz, h1, h2, h3, c1, rb_trunc, ↓evD, evU, evL, Nat.reduceAdd, Nat.reduceSub, Nat.reduceMul, Nat.reduceLeDiff, Nat.reduceLT, Nat.reduceEqDiff, Nat.reduceBEq, reduceIte, reduceCtorEq, Int.reduceBEq, Int.reduceEq, Int.reduceLT, Int.reduceLE, Int.reduceGT, Int.reduceGE, Int.reduceAdd, Int.reduceSub, Int.reduceNeg, Int.reduceBNe, ite_true, ite_false, if_true, if_false, implies_true, forall_const]
    · simp only [hz, h1, h2, c1, rb_trunc, ↓evD, evU, evL, Nat.reduceAdd, Nat.reduceSub, Nat.reduceMul, Nat.reduceLeDiff, Nat.reduceLT, Nat.reduceEqDiff, Nat.reduceBEq, reduceIte, reduceCtorEq, Int.reduceBEq, Int.reduceEq, Int.reduceLT, Int.reduceLE, Int.reduceGT, Int.reduceGE, Int.reduceAdd, Int.reduceSub, Int.reduceNeg, Int.reduceBNe, ite_true, ite_false, if_true, if_false, implies_true, forall_const]
theorem val_ext {H : Hp} {k : Nat} (hk : k < size H) (base : Nat) (t : List UInt8) (ht : t.length ≤ 100000) (l : List Box) :
    CallA T base 67 [.ptr k 0] (ext (rb H k t) l) = some (.tup [.str (valF t).1, .bool (valF t).2.1], ext (rb H k (valF t).2.2) l) := by
  rw [← rb_ext hk, ← rb_ext hk]
  exact val_spec (by rw [size_ext]; omega) base t ht
/-- An attribute. -/
def attrF (t : List UInt8) : Pr × Bool × List UInt8 :=
  if nmB (t.takeWhile lowB) then
    if (t.dropWhile lowB).take 1 == [61] then ((t.takeWhile lowB, (valF ((t.dropWhile lowB).drop 1)).1, false), (valF ((t.dropWhile lowB).drop 1)).2.1, (valF ((t.dropWhile lowB).drop 1)).2.2)
    else ((t.takeWhile lowB, [], true), true, t.dropWhile lowB)
  else ((t.takeWhile lowB, [], false), false, t.dropWhile lowB)
theorem attr_spec {H : Hp} {k : Nat} (hk : k < size H) (base : Nat) (t : List UInt8) (ht : t.length ≤ 100000) :
    CallA T base 51 [.ptr k 0] (rb H k t) = some (.tup [eP (attrF t).1, .bool (attrF t).2.1], rb H k (attrF t).2.2) := by
  rw [S51]
  have hz : size (rb H k t) = size H := size_setBx
  have h1 := fun b l => while_ext hk low_spec b t ht l
  have hl := tw_len (q := lowB) t
  unfold attrF
  generalize t.takeWhile lowB = a at *
  generalize t.dropWhile lowB = d at *
  have h2 := fun b m => name_spec (base := b) (h := m) a (by omega)
  have h3 := fun b l => take_ext hk b 61 d (by omega) l
  unfold tk at h3
  have hep : ∀ a b c, eP (a, b, c) = .agg [.str a, .str b, .bool c] := fun _ _ _ => rfl
  cases e1 : nmB a <;> rw [e1] at h2
  · simp only [hz, h1, h2, hep, rb_trunce, Bool.false_eq_true, ↓evD, evU, evL, Nat.reduceAdd, Nat.reduceSub, Nat.reduceMul, Nat.reduceLeDiff, Nat.reduceLT, Nat.reduceEqDiff, Nat.reduceBEq, reduceIte, reduceCtorEq, Int.reduceBEq, Int.reduceEq, Int.reduceLT, Int.reduceLE, Int.reduceGT, Int.reduceGE, Int.reduceAdd, Int.reduceSub, Int.reduceNeg, Int.reduceBNe, ite_true, ite_false, if_true, if_false, implies_true, forall_const]
  cases e2 : (d.take 1 == [61]) <;> rw [e2] at h3
  · simp only [Bool.false_eq_true, if_false] at h3
    simp only [hz, h1, h2, h3, hep, rb_trunce, Bool.false_eq_true, ↓evD, evU, evL, Nat.reduceAdd, Nat.reduceSub, Nat.reduceMul, Nat.reduceLeDiff, Nat.reduceLT, Nat.reduceEqDiff, Nat.reduceBEq, reduceIte, reduceCtorEq, Int.reduceBEq, Int.reduceEq, Int.reduceLT, Int.reduceLE, Int.reduceGT, Int.reduceGE, Int.reduceAdd, Int.reduceSub, Int.reduceNeg, Int.reduceBNe, ite_true, ite_false, if_true, if_false, implies_true, forall_const]
  · simp only [if_true] at h3 ⊢
    have hd : (d.drop 1).length ≤ 100000 := by rw [List.length_drop]; omega
    generalize d.drop 1 = s at *
    have h4 := fun b l => val_ext hk b s hd l
    generalize valF s = v at *
    obtain ⟨v1, v2, v3⟩ := v
    simp only [hz, h1, h2, h3, h4, hep, rb_trunce, ↓evD, evU, evL, Nat.reduceAdd, Nat.reduceSub, Nat.reduceMul, Nat.reduceLeDiff, Nat.reduceLT, Nat.reduceEqDiff, Nat.reduceBEq, reduceIte, reduceCtorEq, Int.reduceBEq, Int.reduceEq, Int.reduceLT, Int.reduceLE, Int.reduceGT, Int.reduceGE, Int.reduceAdd, Int.reduceSub, Int.reduceNeg, Int.reduceBNe, ite_true, ite_false, if_true, if_false, implies_true, forall_const]
end Go.Am.YtdnbedldmkagmaaGreatDoor
namespace Go.Am.YtdnbedldmkagmaaGreatDoor
set_option maxRecDepth 100000
set_option linter.unusedSimpArgs false
set_option linter.unusedVariables false
theorem GS_low {h X : Hp} {T sz : Nat} {z v : PV} {es : List PV} (g : GS h T sz z v es X) {k : Nat} (hk : k < size h) (x : Box) : GS (setBx h k x) T sz z v es (setBx X k x) := by
  refine ⟨?_, by rw [size_setBx, size_setBx]; exact g.le, ?_⟩
  · rw [size_setBx]
    have := g.tr
    simp only [trunc, setBx, size] at *
    rw [List.take_set, this]
  · rcases g.va with a | ⟨a, t, q, c, d, e⟩
    · exact .inl a
    · refine .inr ⟨a, t, q, by rw [size_setBx]; exact c, by rw [size_setBx]; exact d, ?_⟩
      have hne : k ≠ t := by omega
      unfold getTok at *
      rw [box_set_ne hne]; exact e
theorem grow_box {H H' : Hp} {T sz : Nat} {v v' : PV} {xs : List PV} (e : growT H T sz v xs = some (v', H')) :
    size H ≤ size H' ∧ ∀ b cs, getBox H b = some cs → getBox H' b = some cs := by
  have hx : ∀ l : List Box, size H ≤ size (ext H l) ∧ ∀ b cs, getBox H b = some cs → getBox (ext H l) b = some cs := fun l =>
    ⟨by rw [size_ext]; omega, fun b cs hb => by rw [getBox_ext_lt (lt_of_box (box_of_get hb))]; exact hb⟩
  unfold growT at e
  split at e
  · split at e
    · split at e
      · split at e <;> cases e
        · exact ⟨Nat.le_refl _, fun _ _ h => h⟩
        · exact hx _
      · cases e
    · split at e
      · split at e <;> cases e
        · exact ⟨Nat.le_refl _, fun _ _ h => h⟩
        · exact hx _
      · cases e
    · rename_i t sz' es
      cases ht : getTok H t with
      | none => rw [ht] at e; cases e
      | some n =>
        rw [ht, Option.bnd_some] at e
        split at e
        · cases e
          refine ⟨by rw [size_setBx]; exact Nat.le_refl _, fun b cs hb => ?_⟩
          rw [getBox_set_ne]
          · exact hb
          · rintro rfl
            have h1 := box_of_get hb
            have h2 := box_of_tok ht
            rw [h1] at h2; cases h2
        · cases e
    · cases e
  · cases e
/-- A path. -/
def pathF (t : List UInt8) : Option (List Int × List UInt8) :=
  if t.take 1 == [60] then match readO ((t.drop 1).takeWhile ngtB) with
    | none => none
    | some p => if ((t.drop 1).dropWhile ngtB).take 1 == [62] then some (p, ((t.drop 1).dropWhile ngtB).drop 1) else none
  else none
theorem path_spec {H : Hp} {k : Nat} (hk : k < size H) (t : List UInt8) (ht : t.length ≤ 100000) :
    match pathF t with
    | some (p, r) => ∀ base l, CallA T base 50 [.ptr k 0] (ext (rb H k t) l) = some (.tup [gD .nils 1 (p.map eI), .bool true], ext (rb H k r) l)
    | none => ∃ V r, (V = .nils ∨ ∃ p : List Int, V = gD .nils 1 (p.map eI)) ∧ r.length ≤ t.length ∧ ∀ base l, CallA T base 50 [.ptr k 0] (ext (rb H k t) l) = some (.tup [V, .bool false], ext (rb H k r) l) := by
  have up : ∀ {R : PV} {r : List UInt8}, (∀ (H : Hp), k < size H → ∀ base, CallA T base 50 [.ptr k 0] (rb H k t) = some (R, rb H k r)) → ∀ base l, CallA T base 50 [.ptr k 0] (ext (rb H k t) l) = some (R, ext (rb H k r) l) := by
    intro R r h base l
    rw [← rb_ext hk, ← rb_ext hk]
    exact h _ (by rw [size_ext]; omega) base
  have hz : ∀ (H : Hp) t, size (rb H k t) = size H := fun _ _ => size_setBx
  unfold pathF
  cases e1 : (t.take 1 == [60])
  · simp only [Bool.false_eq_true, if_false]
    refine ⟨.nils, t, .inl rfl, Nat.le_refl _, up fun H hk base => ?_⟩
    have h1 := fun b => take_spec hk b 60 t ht
    unfold tk at h1
    rw [e1] at h1
    rw [S50]
    simp only [Bool.false_eq_true, if_false] at h1
    simp only [hz, h1, rb_trunc, ↓evD, evU, evL, Nat.reduceAdd, Nat.reduceSub, Nat.reduceMul, Nat.reduceLeDiff, Nat.reduceLT, Nat.reduceEqDiff, Nat.reduceBEq, reduceIte, reduceCtorEq, Int.reduceBEq, Int.reduceEq, Int.reduceLT, Int.reduceLE, Int.reduceGT, Int.reduceGE, Int.reduceAdd, Int.reduceSub, Int.reduceNeg, Int.reduceBNe, ite_true, ite_false, if_true, if_false, implies_true, forall_const]
  · simp only [if_true]
    have hd : (t.drop 1).length ≤ t.length := by rw [List.length_drop]; omega
    have e0 : tk 60 t = t.drop 1 := by unfold tk; rw [e1]; rfl
    generalize t.drop 1 = s at *
    have hl := tw_len (q := ngtB) s
    generalize ha : s.takeWhile ngtB = a at *
    generalize hb : s.dropWhile ngtB = d at *
    cases e2 : readO a with
    | none =>
      refine ⟨.nils, d, .inl rfl, by omega, up fun H hk base => ?_⟩
      have h1 := fun b => take_spec hk b 60 t ht
      rw [e0, e1] at h1
      have h2 := fun b => while_spec hk ngt_spec b s (by omega)
      have h3 := fun b m => read_spec (base := b) (h := m) a (by omega)
      rw [ha, hb] at h2
      rw [e2] at h3
      have eo : outV .nils none = .tup [.nils, i64 20] := rfl
      rw [eo] at h3
      rw [S50]
      simp only [hz, h1, h2, h3, rb_trunc, ↓evD, evU, evL, Nat.reduceAdd, Nat.reduceSub, Nat.reduceMul, Nat.reduceLeDiff, Nat.reduceLT, Nat.reduceEqDiff, Nat.reduceBEq, reduceIte, reduceCtorEq, Int.reduceBEq, Int.reduceEq, Int.reduceLT, Int.reduceLE, Int.reduceGT, Int.reduceGE, Int.reduceAdd, Int.reduceSub, Int.reduceNeg, Int.reduceBNe, ite_true, ite_false, if_true, if_false, implies_true, forall_const]
    | some p =>
      have key : ∀ (b : Bool) (H : Hp), (d.take 1 == [62]) = b → k < size H → ∀ base, CallA T base 50 [.ptr k 0] (rb H k t) = some (.tup [gD .nils 1 (p.map eI), .bool b], rb H k (tk 62 d)) := by
        intro b H e3 hk base
        have h1 := fun b => take_spec hk b 60 t ht
        rw [e0, e1] at h1
        have h2 := fun b => while_spec hk ngt_spec b s (by omega)
        have h3 := fun b m => read_spec (base := b) (h := m) a (by omega)
        have h4 := fun b => take_spec hk b 62 d (by omega)
        rw [ha, hb] at h2
        rw [e2] at h3
        rw [e3] at h4
        have eo : outV .nils (some p) = .tup [gD .nils 1 (p.map eI), i64 0] := rfl
        rw [eo] at h3
        have lv := Lv.done (e := eI) (gZ_nils 1) p
        have f1 := fun n k => lv.frz n k
        have f2 := fun n => lv.below elI n
        generalize gD .nils 1 (p.map eI) = V at *
        rw [S50]
        simp only [hz, h1, h2, h3, h4, f1, f2, rb_trunc, ↓evD, evU, evL, Nat.reduceAdd, Nat.reduceSub, Nat.reduceMul, Nat.reduceLeDiff, Nat.reduceLT, Nat.reduceEqDiff, Nat.reduceBEq, reduceIte, reduceCtorEq, Int.reduceBEq, Int.reduceEq, Int.reduceLT, Int.reduceLE, Int.reduceGT, Int.reduceGE, Int.reduceAdd, Int.reduceSub, Int.reduceNeg, Int.reduceBNe, ite_true, ite_false, if_true, if_false, implies_true, forall_const]
      simp only
      cases e3 : (d.take 1 == [62])
      · simp only [Bool.false_eq_true, if_false]
        exact ⟨_, tk 62 d, .inr ⟨p, rfl⟩, by have := tk_len 62 d; omega, up (fun H hk base => key false H e3 hk base)⟩
      · simp only [if_true]
        have : tk 62 d = d.drop 1 := by unfold tk; rw [e3]; rfl
        rw [← this]
        exact up (fun H hk base => key true H e3 hk base)
theorem val_len (t : List UInt8) : (valF t).2.2.length ≤ t.length := by
  have h1 := tw_len (q := simB) t
  have h2 := tw_len (q := priB) (t.drop 1)
  have h3 := tk_len 34 ((t.drop 1).dropWhile priB)
  have h4 : (t.drop 1).length ≤ t.length := by rw [List.length_drop]; omega
  unfold valF
  split
  · simp only; split <;> omega
  · simp only; omega
theorem attr_len (t : List UInt8) : (attrF t).2.2.length ≤ t.length := by
  have h1 := tw_len (q := lowB) t
  have h2 := val_len ((t.dropWhile lowB).drop 1)
  have h4 : ((t.dropWhile lowB).drop 1).length ≤ (t.dropWhile lowB).length := by rw [List.length_drop]; omega
  unfold attrF
  split
  · split <;> simp only <;> omega
  · simp only; omega
theorem attr_ext {H : Hp} {k : Nat} (hk : k < size H) (base : Nat) (t : List UInt8) (ht : t.length ≤ 100000) (l : List Box) :
    CallA T base 51 [.ptr k 0] (ext (rb H k t) l) = some (.tup [eP (attrF t).1, .bool (attrF t).2.1], ext (rb H k (attrF t).2.2) l) := by
  rw [← rb_ext hk, ← rb_ext hk]
  exact attr_spec (by rw [size_ext]; omega) base t ht
/-- The attributes; n: how many more there may be. -/
def attrsO : Nat → List UInt8 → Option (List Pr × List UInt8)
  | 0, t => if t.take 1 == [59] then none else some ([], t)
  | n + 1, t => if t.take 1 == [59] then
      if (attrF (t.drop 1)).2.1 then match attrsO n (attrF (t.drop 1)).2.2 with
        | some x => some ((attrF (t.drop 1)).1 :: x.1, x.2)
        | none => none
      else none
    else some ([], t)
structure PvOk (p : PV) : Prop where
  sc : scalar p = true
  fr : ∀ n k, frz n k p = some p
  be : ∀ n, below n p = true
theorem Lv.ok {α : Type} {e : α → PV} {sz : Nat} {b : PV} {l : List α} (he : El e sz) (h : Lv e sz b l) : PvOk b := ⟨h.scalar, fun n k => h.frz n k, fun n => h.below he n⟩
structure LS (H : Hp) (k : Nat) (t : List UInt8) (p : PV) (aa : List Pr) (v : PV) (X : Hp) : Prop where
  g : GS (rb H k t) 38 3 .nils v (aa.map eP) X
  kb : getBox X k = some [.str t]
  b0 : getBox X (size H) = some [.nils, .nils]
  b1 : getBox X (size H + 1) = some [p, v]
  le : size H + 1 < size X
section
variable {H X : Hp} {k : Nat} {t : List UInt8} {p v : PV} {aa : List Pr}
theorem LS.low (s : LS H k t p aa v X) (hk : k < size H) (u : List UInt8) : LS H k u p aa v (rb X k u) := by
  have g := GS_low s.g (k := k) (by rw [size_setBx]; exact hk) (.cells [.str u])
  rw [rb_rb] at g
  have := s.le
  exact ⟨g, rb_get (by omega) u, by rw [getBox_set_ne (by omega)]; exact s.b0, by rw [getBox_set_ne (by omega)]; exact s.b1, by rw [size_setBx]; exact s.le⟩
theorem LS.ext (s : LS H k t p aa v X) (hk : k < size H) (l : List Box) : LS H k t p aa v (Go.Am.ext X l) := by
  have := s.le
  exact ⟨s.g.ext l, by rw [getBox_ext_lt (by omega)]; exact s.kb, by rw [getBox_ext_lt (by omega)]; exact s.b0, by rw [getBox_ext_lt (by omega)]; exact s.b1, by rw [size_ext]; omega⟩
theorem rb_self (h : getBox X k = some [.str t]) : X = rb X k t := by
  have := setBox_self h
  rw [setBox_eq] at this
  exact this.symm
theorem LS.end (s : LS H k t p aa v X) (hk : k < size H) (hp : PvOk p) (b : Bool) (hb : b = true → (t.take 1 == [59]) = false) (ht : t.length ≤ 100000) :
    P26_0 (size H) (size H) (.ptr (size H) 0) (.ptr (size H + 1) 0) (.ptr k 0) (.bool b) X = some (.tup [.agg [p, gD .nils 3 (aa.map eP)], .bool b], rb H k t) := by
  have hle := s.le
  have hX := rb_self s.kb
  have h27 := fun base => take_spec (H := X) (by omega : k < size X) base 59 t ht
  rw [← hX] at h27
  have n3 : (size H < size H) = False := by simp
  have hs : ∀ cs, getBox (setBx X (size H) (.cells cs)) (size H) = some cs := fun cs => getBox_set_same (by omega)
  have f1 := fun n m => s.g.frz (gZ_nils 3) n m
  have f2 := fun n => below_gD (gZ_nils 3) n _ (elP.belows n aa)
  have f3 := hp.fr
  have f4 := hp.be
  have f5 := hp.sc
  have f6 : scalar v = true := by
    rcases s.g.va with ⟨_, rfl⟩ | ⟨_, _, rfl, _⟩ <;> rfl
  have tr : ∀ x, trunc (setBx X (size H) x) (size H) = rb H k t := by
    intro x
    have h1 := s.g.tr
    rw [size_setBx] at h1
    rw [← h1]
    simp only [trunc, setBx, size]
    rw [List.take_set_of_le (Nat.le_refl _)]
  rw [P26_0_eq]
  cases b
  · simp only [s.b0, s.b1, n3, hs, f1, f2, f3, f4, f5, f6, tr, ↓evD, evU, evL, Nat.reduceAdd, Nat.reduceSub, Nat.reduceMul, Nat.reduceLeDiff, Nat.reduceLT, Nat.reduceEqDiff, Nat.reduceBEq, reduceIte, reduceCtorEq, Int.reduceBEq, Int.reduceEq, Int.reduceLT, Int.reduceLE, Int.reduceGT, Int.reduceGE, Int.reduceAdd, Int.reduceSub, Int.reduceNeg, Int.reduceBNe, ite_true, ite_false, if_true, if_false, implies_true, forall_const]
  · have e0 := hb rfl
    have e1 : tk 59 t = t := by unfold tk; rw [e0]; rfl
    rw [e0, e1, ← hX] at h27
    simp only [h27, s.b0, s.b1, n3, hs, f1, f2, f3, f4, f5, f6, tr, ↓evD, evU, evL, Nat.reduceAdd, Nat.reduceSub, Nat.reduceMul, Nat.reduceLeDiff, Nat.reduceLT, Nat.reduceEqDiff, Nat.reduceBEq, reduceIte, reduceCtorEq, Int.reduceBEq, Int.reduceEq, Int.reduceLT, Int.reduceLE, Int.reduceGT, Int.reduceGE, Int.reduceAdd, Int.reduceSub, Int.reduceNeg, Int.reduceBNe, ite_true, ite_false, if_true, if_false, implies_true, forall_const]
end
end Go.Am.YtdnbedldmkagmaaGreatDoor
namespace Go.Am.YtdnbedldmkagmaaGreatDoor
set_option maxRecDepth 100000
set_option linter.unusedSimpArgs false
set_option linter.unusedVariables false
section
variable {H X : Hp} {k : Nat} {t : List UInt8} {p v : PV} {aa : List Pr}
/-- One attribute more. -/
theorem LS.grow (s : LS H k t p aa v X) (a : Pr) (ha : aa.length ≤ 8) :
    ∃ v' Z, growT X 38 3 v [.agg [.str a.1, .str a.2.1, .bool a.2.2]] = some (v', Z) ∧ getBox Z (size H + 1) = some [p, v] ∧ LS H k t p (aa ++ [a]) v' (setBx Z (size H + 1) (.cells [p, v'])) := by
  obtain ⟨v', Z, e1, g2⟩ := s.g.grow (gZ_nils 3) (x := eP a) (by simpa using elP.fits [a]) (elP.st _) (by unfold lim2; simp; omega)
  obtain ⟨z1, z2⟩ := grow_box e1
  have hle := s.le
  have hb1 := z2 _ _ s.b1
  have g3 := g2.set hb1 (cs' := [p, v']) (by rw [size_setBx]; omega)
  rw [setBox_eq] at g3
  refine ⟨v', Z, e1, hb1, ?_, ?_, ?_, ?_, ?_⟩
  · rw [List.map_append]; exact g3
  · rw [getBox_set_ne]
    · exact z2 _ _ s.kb
    · rintro rfl
      have h1 := s.kb
      rw [s.b1] at h1
      cases h1
  · rw [getBox_set_ne (by omega)]; exact z2 _ _ s.b0
  · exact getBox_set_same (by omega)
  · rw [size_setBx]; omega
/-- What is read of the attributes. -/
def AttrR (H : Hp) (k : Nat) (p : PV) (aa : List Pr) (n0 : Nat) (R : Option (PV × Hp)) : Option (List Pr × List UInt8) → Prop
  | some (bs, r) => R = some (.tup [.agg [p, gD .nils 3 ((aa ++ bs).map eP)], .bool true], rb H k r) ∧ r.length ≤ n0
  | none => ∃ (bs : List Pr) (r : List UInt8), r.length ≤ n0 ∧ R = some (.tup [.agg [p, gD .nils 3 (bs.map eP)], .bool false], rb H k r)
theorem LS.len (s : LS H k t p aa v X) : lenB false v = some (i64 aa.length) := (s.g.rl (gZ_nils 3)).len
theorem attrs_stop (s : LS H k t p aa v X) (hk : k < size H) (hp : PvOk p) (ht : t.length ≤ 100000) (e : (t.take 1 == [59]) = false) (n : Nat) :
    AttrR H k p aa t.length (P26_0 (size H) (size H) (.ptr (size H) 0) (.ptr (size H + 1) 0) (.ptr k 0) (.bool true) X) (attrsO n t) := by
  have h0 : attrsO n t = some ([], t) := by cases n <;> simp only [attrsO, e, Bool.false_eq_true, if_false]
  rw [h0]
  refine ⟨?_, Nat.le_refl _⟩
  rw [List.append_nil]
  exact s.end hk hp true (fun _ => e) ht
theorem attrs_loop (hk : k < size H) (hp : PvOk p) : ∀ (n : Nat) (t : List UInt8) (aa : List Pr) (v : PV) (X : Hp), LS H k t p aa v X → aa.length + n = 8 → t.length ≤ 100000 →
    AttrR H k p aa t.length (P26_0 (size H) (size H) (.ptr (size H) 0) (.ptr (size H + 1) 0) (.ptr k 0) (.bool true) X) (attrsO n t)
  | 0, t, aa, v, X, s, hn, ht => by
    cases e : (t.take 1 == [59])
    · exact attrs_stop s hk hp ht e 0
    · have hle := s.le
      have hX := rb_self s.kb
      have h27 := fun base => take_spec (H := X) (by omega : k < size X) base 59 t ht
      rw [← hX] at h27
      have e1 : tk 59 t = t.drop 1 := by unfold tk; rw [e]; rfl
      rw [e, e1] at h27
      have s1 := s.low hk (t.drop 1)
      generalize hX1 : rb X k (t.drop 1) = X1 at *
      have hd : (t.drop 1).length ≤ t.length := by rw [List.length_drop]; omega
      have h0 : attrsO 0 t = none := by simp only [attrsO, e, if_true]
      rw [h0]
      refine ⟨aa, t.drop 1, hd, ?_⟩
      have e8 : ((aa.length : Int) == 8) = true := by rw [beq_iff_eq]; omega
      have hle1 := s1.le
      have n3 : (size H < size H) = False := by simp
      have hs : ∀ cs, getBox (setBx X1 (size H) (.cells cs)) (size H) = some cs := fun cs => getBox_set_same (by omega)
      have f1 := fun n m => s1.g.frz (gZ_nils 3) n m
      have f2 := fun n => below_gD (gZ_nils 3) n _ (elP.belows n aa)
      have f3 := hp.fr
      have f4 := hp.be
      have f5 := hp.sc
      have f6 : scalar v = true := by rcases s.g.va with ⟨_, rfl⟩ | ⟨_, _, rfl, _⟩ <;> rfl
      have tr : ∀ x, trunc (setBx X1 (size H) x) (size H) = rb H k (t.drop 1) := by
        intro x
        have h1 := s1.g.tr
        rw [size_setBx] at h1
        rw [← h1]
        simp only [trunc, setBx, size]
        rw [List.take_set_of_le (Nat.le_refl _)]
      rw [P26_0_eq]
      simp only [h27, s1.b0, s1.b1, s.len, e8, n3, hs, f1, f2, f3, f4, f5, f6, tr, ↓evD, evU, evL, Nat.reduceAdd, Nat.reduceSub, Nat.reduceMul, Nat.reduceLeDiff, Nat.reduceLT, Nat.reduceEqDiff, Nat.reduceBEq, reduceIte, reduceCtorEq, Int.reduceBEq, Int.reduceEq, Int.reduceLT, Int.reduceLE, Int.reduceGT, Int.reduceGE, Int.reduceAdd, Int.reduceSub, Int.reduceNeg, Int.reduceBNe, ite_true, ite_false, if_true, if_false, implies_true, forall_const]
  | n + 1, t, aa, v, X, s, hn, ht => by
    cases e : (t.take 1 == [59])
    · exact attrs_stop s hk hp ht e (n + 1)
    · have hle := s.le
      have hX := rb_self s.kb
      have hkX : k < size X := by omega
      have h27 := fun base => take_spec (H := X) hkX base 59 t ht
      rw [← hX] at h27
      have e1 : tk 59 t = t.drop 1 := by unfold tk; rw [e]; rfl
      rw [e, e1] at h27
      have hd : (t.drop 1).length ≤ t.length := by rw [List.length_drop]; omega
      have hO : attrsO (n + 1) t = if (attrF (t.drop 1)).2.1 then match attrsO n (attrF (t.drop 1)).2.2 with
        | some x => some ((attrF (t.drop 1)).1 :: x.1, x.2)
        | none => none
        else none := by simp only [attrsO, e, if_true] <;> rfl
      rw [hO]
      generalize t.drop 1 = u at *
      have hl := attr_len u
      have ha := fun b l => attr_ext hkX b u (by omega) l
      generalize attrF u = w at *
      obtain ⟨a, b, r⟩ := w
      simp only at hl ha ⊢
      have e8 : ((aa.length : Int) == 8) = false := by rw [beq_eq_false_iff_ne]; omega
      have s0 := s.low hk u
      have s1 := (s.low hk r).ext hk [.cells [.str a.1, .str a.2.1, .bool a.2.2]]
      obtain ⟨v', Z, g1, g2, s2⟩ := s1.grow a (by omega)
      have n1 : (size X < size H) = False := by simp; omega
      have n2 : (size H + 1 < size H) = False := by simp
      have hep : eP a = .agg [.str a.1, .str a.2.1, .bool a.2.2] := rfl
      rw [hep] at ha
      have b1 : ∀ cs, getBox (ext (rb X k r) [.cells cs]) (size H + 1) = some [p, v] := fun cs => ((s.low hk r).ext hk [.cells cs]).b1
      have key : P26_0 (size H) (size H) (.ptr (size H) 0) (.ptr (size H + 1) 0) (.ptr k 0) (.bool true) X = P26_0 (size H) (size H) (.ptr (size H) 0) (.ptr (size H + 1) 0) (.ptr k 0) (.bool b) (setBx Z (size H + 1) (.cells [p, v'])) := by
        refine (P26_0_eq ..).trans ?_
        have i1 := s0.b1
        have c1 : v'.cells = [v'] := by rcases s2.g.va with ⟨_, rfl⟩ | ⟨_, _, rfl, _⟩ <;> rfl
        have c2 : scalar v' = true := by rcases s2.g.va with ⟨_, rfl⟩ | ⟨_, _, rfl, _⟩ <;> rfl
        simp only [h27, i1, c1, c2, s.len, e8, n1, n2, ha, b1, g1, g2, ↓evD, evU, evL, Nat.reduceAdd, Nat.reduceSub, Nat.reduceMul, Nat.reduceLeDiff, Nat.reduceLT, Nat.reduceEqDiff, Nat.reduceBEq, reduceIte, reduceCtorEq, Int.reduceBEq, Int.reduceEq, Int.reduceLT, Int.reduceLE, Int.reduceGT, Int.reduceGE, Int.reduceAdd, Int.reduceSub, Int.reduceNeg, Int.reduceBNe, ite_true, ite_false, if_true, if_false, implies_true, forall_const]
      rw [key]
      cases b
      · simp only [Bool.false_eq_true, if_false]
        exact ⟨aa ++ [a], r, by omega, s2.end hk hp false (fun h => by cases h) (by omega)⟩
      · simp only [if_true]
        have ih := attrs_loop hk hp n r (aa ++ [a]) v' _ s2 (by simp; omega) (by omega)
        cases h : attrsO n r with
        | none =>
          rw [h] at ih
          obtain ⟨bs, r', h1, h2⟩ := ih
          exact ⟨bs, r', by omega, h2⟩
        | some x =>
          rw [h] at ih
          obtain ⟨h1, h2⟩ := ih
          refine ⟨?_, by omega⟩
          rw [h1, List.append_assoc]; rfl
end
/-- A link. -/
def linkO (t : List UInt8) : Option ((List Int × List Pr) × List UInt8) := match pathF t with
  | none => none
  | some (p, r) => match attrsO 8 r with
    | none => none
    | some (as', r') => some ((p, as'), r')
def vP (p : List Int) : PV := gD .nils 1 (p.map eI)
def vA (a : List Pr) : PV := gD .nils 3 (a.map eP)
theorem vP_lv (p : List Int) : Lv eI 1 (vP p) p := Lv.done (gZ_nils 1) p
theorem vA_lv (a : List Pr) : Lv eP 3 (vA a) a := Lv.done (gZ_nils 3) a
theorem path_len {t r : List UInt8} {p : List Int} (h : pathF t = some (p, r)) : r.length ≤ t.length := by
  have h1 := tw_len (q := ngtB) (t.drop 1)
  have h4 : (t.drop 1).length ≤ t.length := by rw [List.length_drop]; omega
  unfold pathF at h
  split at h
  · split at h
    · cases h
    · split at h
      · cases h
        rw [List.length_drop]; omega
      · cases h
  · cases h
theorem link1_spec {H : Hp} {k : Nat} (hk : k < size H) (t : List UInt8) (ht : t.length ≤ 100000) (base : Nat) :
    match linkO t with
    | some ((p, a), r) => CallA T base 26 [.ptr k 0] (rb H k t) = some (.tup [.agg [vP p, vA a], .bool true], rb H k r) ∧ r.length ≤ t.length
    | none => ∃ p a r, CallA T base 26 [.ptr k 0] (rb H k t) = some (.tup [.agg [vP p, vA a], .bool false], rb H k r) ∧ r.length ≤ t.length := by
  have hp := path_spec hk t ht
  have hz : ∀ t, size (rb H k t) = size H := fun _ => size_setBx
  have start : ∀ (p : List Int) (r : List UInt8) (b : Bool), (∀ base l, CallA T base 50 [.ptr k 0] (ext (rb H k t) l) = some (.tup [vP p, .bool b], ext (rb H k r) l)) →
      ∃ X, LS H k r (vP p) [] .nils X ∧ CallA T base 26 [.ptr k 0] (rb H k t) = P26_0 (size H) (size H) (.ptr (size H) 0) (.ptr (size H + 1) 0) (.ptr k 0) (.bool b) X := by
    intro p r b h
    have ok := Lv.ok elI (vP_lv p)
    have f1 := ok.sc
    have f0 := (vP_lv p).cells
    refine ⟨ext (rb H k r) [.cells [.nils, .nils], .cells [vP p, .nils]], ⟨?_, rb_gete hk r _, ?_, ?_, ?_⟩, ?_⟩
    · exact (GS.zero (rb H k r) 38 3 .nils).ext _
    · have : size H = size (rb H k r) := size_setBx.symm
      rw [this]; exact getBox_ext_0
    · have : size H = size (rb H k r) := size_setBx.symm
      rw [this]; exact getBox_ext_n
    · rw [size_ext, hz]; simp
    · rw [S26]
      have n1 : (size H + 1 < size H) = False := by simp
      generalize vP p = V at *
      simp only [hz, h, f0, f1, n1, ↓evD, evU, evL, Nat.reduceAdd, Nat.reduceSub, Nat.reduceMul, Nat.reduceLeDiff, Nat.reduceLT, Nat.reduceEqDiff, Nat.reduceBEq, reduceIte, reduceCtorEq, Int.reduceBEq, Int.reduceEq, Int.reduceLT, Int.reduceLE, Int.reduceGT, Int.reduceGE, Int.reduceAdd, Int.reduceSub, Int.reduceNeg, Int.reduceBNe, ite_true, ite_false, if_true, if_false, implies_true, forall_const]
  unfold linkO
  cases e : pathF t with
  | none =>
    rw [e] at hp
    obtain ⟨V, r, hV, hl, h⟩ := hp
    obtain ⟨p, rfl⟩ : ∃ p : List Int, V = vP p := by
      rcases hV with rfl | ⟨p, rfl⟩
      · exact ⟨[], rfl⟩
      · exact ⟨p, rfl⟩
    obtain ⟨X, s, hX⟩ := start p r false h
    refine ⟨p, [], r, ?_, hl⟩
    rw [hX]
    exact s.end hk (Lv.ok elI (vP_lv p)) false (fun h => by cases h) (by omega)
  | some x =>
    obtain ⟨p, r⟩ := x
    rw [e] at hp
    have hl := path_len e
    obtain ⟨X, s, hX⟩ := start p r true hp
    have := attrs_loop hk (Lv.ok elI (vP_lv p)) 8 r [] .nils X s rfl (by omega)
    rw [← hX] at this
    simp only
    cases e2 : attrsO 8 r with
    | none =>
      rw [e2] at this
      obtain ⟨bs, r', h1, h2⟩ := this
      exact ⟨p, bs, r', h2, by omega⟩
    | some y =>
      rw [e2] at this
      obtain ⟨h1, h2⟩ := this
      exact ⟨h1, by omega⟩
end Go.Am.YtdnbedldmkagmaaGreatDoor
namespace Go.Am.YtdnbedldmkagmaaGreatDoor
set_option maxRecDepth 100000
set_option linter.unusedSimpArgs false
set_option linter.unusedVariables false
abbrev Ln := List Int × List Pr
def mkL (x : Ln) : Lk := (⟨vP x.1, x.1, vP_lv x.1⟩, ⟨vA x.2, x.2, vA_lv x.2⟩)
def mkE (x : Ln) : PV := eL (mkL x)
theorem mkE_eq (x : Ln) : mkE x = .agg [vP x.1, vA x.2] := rfl
theorem elE : El mkE 2 := ⟨fun a => elL.len _, fun a => elL.sc _, fun a => elL.st _, fun n a => elL.be n _⟩
inductive Rs where
  | ok (l : List Ln)
  | many
  | form
def linksO : Nat → List UInt8 → Rs
  | 0, _ => .many
  | n + 1, t => match linkO t with
    | none => .form
    | some (x, r) => if r == [] then .ok [x] else if r.take 1 == [44] then (match linksO n (r.drop 1) with
      | .ok l => .ok (x :: l)
      | e => e) else .form
def readS (t : List UInt8) : Rs := if t == [] then .ok [] else linksO 64 t
def rsV (z : PV) (ks : List Ln) : Rs → PV
  | .ok l => .tup [gD z 2 ((ks ++ l).map mkE), i64 0]
  | .many => .tup [.nils, i64 3]
  | .form => .tup [.nils, i64 20]
theorem gs_sc {h H : Hp} {T sz : Nat} {v : PV} {es : List PV} (g : GS h T sz .nils v es H) : v.cells = [v] ∧ scalar v = true := by
  rcases g.va with ⟨_, rfl⟩ | ⟨_, _, rfl, _⟩ <;> exact ⟨rfl, rfl⟩
theorem read_loop {h : Hp} : ∀ (n : Nat) (t : List UInt8) (ks : List Ln) (v : PV) (X : Hp), GS h 41 2 .nils v (ks.map mkE) X → getBox X (size h) = some [.str t] → ks.length + n = 64 → t.length ≤ 100000 →
    P12_0 (size h) (size h) (.ptr (size h) 0) v X = some (rsV .nils ks (linksO n t), h)
  | 0, t, ks, v, X, g, hb, hn, ht => by
    have e8 : ((ks.length : Int) == 64) = true := by rw [beq_iff_eq]; omega
    rw [P12_0_eq]
    simp only [(g.rl (gZ_nils 2)).len, e8, g.tr, linksO, rsV, ↓evD, evU, evL, Nat.reduceAdd, Nat.reduceSub, Nat.reduceMul, Nat.reduceLeDiff, Nat.reduceLT, Nat.reduceEqDiff, Nat.reduceBEq, reduceIte, reduceCtorEq, Int.reduceBEq, Int.reduceEq, Int.reduceLT, Int.reduceLE, Int.reduceGT, Int.reduceGE, Int.reduceAdd, Int.reduceSub, Int.reduceNeg, Int.reduceBNe, ite_true, ite_false, if_true, if_false, implies_true, forall_const]
  | n + 1, t, ks, v, X, g, hb, hn, ht => by
    have e8 : ((ks.length : Int) == 64) = false := by rw [beq_eq_false_iff_ne]; omega
    have hk : size h < size X := lt_of_box (box_of_get hb)
    have hX := rb_self hb
    have hl := link1_spec hk t ht (size h)
    rw [← hX] at hl
    have n1 : (size X < size h) = False := by simp; omega
    have glow : ∀ r, GS h 41 2 .nils v (ks.map mkE) (rb X (size h) r) := by
      intro r
      have := g.set hb (cs' := [.str r]) (Nat.le_refl _)
      rw [setBox_eq] at this
      exact this
    cases e : linkO t with
    | none =>
      rw [e] at hl
      obtain ⟨p, a, r, h1, h2⟩ := hl
      have c1 := (vP_lv p).cells
      have c2 := (vA_lv a).cells
      have c3 := (vP_lv p).scalar
      have c4 := (vA_lv a).scalar
      have tr : ∀ l, trunc (ext (rb X (size h) r) l) (size h) = h := fun l => ((glow r).ext l).tr
      rw [P12_0_eq]
      simp only [(g.rl (gZ_nils 2)).len, e8, h1, n1, c1, c2, c3, c4, tr, linksO, e, rsV, ↓evD, evU, evL, Nat.reduceAdd, Nat.reduceSub, Nat.reduceMul, Nat.reduceLeDiff, Nat.reduceLT, Nat.reduceEqDiff, Nat.reduceBEq, reduceIte, reduceCtorEq, Int.reduceBEq, Int.reduceEq, Int.reduceLT, Int.reduceLE, Int.reduceGT, Int.reduceGE, Int.reduceAdd, Int.reduceSub, Int.reduceNeg, Int.reduceBNe, ite_true, ite_false, if_true, if_false, implies_true, forall_const]
    | some y =>
      obtain ⟨⟨p, a⟩, r⟩ := y
      rw [e] at hl
      obtain ⟨h1, h2⟩ := hl
      have c1 := (vP_lv p).cells
      have c2 := (vA_lv a).cells
      have c3 := (vP_lv p).scalar
      have c4 := (vA_lv a).scalar
      have c5 := (vP_lv p).strip
      have c6 := (vA_lv a).strip
      have g1 := (glow r).ext [.cells [vP p, vA a]]
      obtain ⟨v', Z, e1, g2⟩ := g1.grow (gZ_nils 2) (x := mkE (p, a)) (by simpa using elE.fits [(p, a)]) (elE.st _) (by unfold lim2; simp; omega)
      obtain ⟨z1, z2⟩ := grow_box e1
      have hbZ := z2 _ _ (rb_gete hk r _)
      have hkZ := lt_of_box (box_of_get hbZ)
      have hZ := rb_self hbZ
      have g3 : GS h 41 2 .nils v' ((ks ++ [(p, a)]).map mkE) Z := by rw [List.map_append]; exact g2
      rw [mkE_eq] at e1
      have f1 := fun n m => g3.frz (gZ_nils 2) n m
      have f2 := fun n => below_gD (gZ_nils 2) n _ (elE.belows n (ks ++ [(p, a)]))
      have f3 := g3.tr
      have hz : size (rb X (size h) r) = size X := size_setBx
      cases e2 : (r == [])
      · have h3 := fun b => take_spec hkZ b 44 r (by omega)
        rw [← hZ] at h3
        have gz : ∀ u, GS h 41 2 .nils v' ((ks ++ [(p, a)]).map mkE) (rb Z (size h) u) := by
          intro u
          have := g3.set hbZ (cs' := [.str u]) (Nat.le_refl _)
          rw [setBox_eq] at this
          exact this
        cases e3 : (r.take 1 == [44])
        · have tr2 := (gz (tk 44 r)).tr
          rw [e3] at h3
          rw [P12_0_eq]
          simp only [(g.rl (gZ_nils 2)).len, e8, h1, n1, c1, c2, c3, c4, c5, c6, e1, hbZ, e2, h3, tr2, linksO, e, e3, rsV, hz, Bool.false_eq_true, ↓evD, evU, evL, Nat.reduceAdd, Nat.reduceSub, Nat.reduceMul, Nat.reduceLeDiff, Nat.reduceLT, Nat.reduceEqDiff, Nat.reduceBEq, reduceIte, reduceCtorEq, Int.reduceBEq, Int.reduceEq, Int.reduceLT, Int.reduceLE, Int.reduceGT, Int.reduceGE, Int.reduceAdd, Int.reduceSub, Int.reduceNeg, Int.reduceBNe, ite_true, ite_false, if_true, if_false, implies_true, forall_const]
        · have hd : (r.drop 1).length ≤ r.length := by rw [List.length_drop]; omega
          have e4 : tk 44 r = r.drop 1 := by unfold tk; rw [e3]; rfl
          rw [e3, e4] at h3
          have ih := read_loop n (r.drop 1) (ks ++ [(p, a)]) v' (rb Z (size h) (r.drop 1)) (gz _) (rb_get hkZ _) (by simp; omega) (by omega)
          have e5 : rsV .nils ks (linksO (n + 1) t) = rsV .nils (ks ++ [(p, a)]) (linksO n (r.drop 1)) := by
            simp only [linksO, e, e2, e3, Bool.false_eq_true, if_false, if_true]
            cases linksO n (r.drop 1) <;> simp [rsV]
          rw [e5, ← ih]
          refine (P12_0_eq ..).trans ?_
          simp only [(g.rl (gZ_nils 2)).len, e8, h1, n1, c1, c2, c3, c4, c5, c6, e1, hbZ, e2, h3, hz, ↓evD, evU, evL, Nat.reduceAdd, Nat.reduceSub, Nat.reduceMul, Nat.reduceLeDiff, Nat.reduceLT, Nat.reduceEqDiff, Nat.reduceBEq, reduceIte, reduceCtorEq, Int.reduceBEq, Int.reduceEq, Int.reduceLT, Int.reduceLE, Int.reduceGT, Int.reduceGE, Int.reduceAdd, Int.reduceSub, Int.reduceNeg, Int.reduceBNe, ite_true, ite_false, if_true, if_false, implies_true, forall_const]
      · rw [P12_0_eq]
        simp only [(g.rl (gZ_nils 2)).len, e8, h1, n1, c1, c2, c3, c4, c5, c6, e1, hbZ, e2, f1, f2, f3, linksO, e, rsV, hz, ↓evD, evU, evL, Nat.reduceAdd, Nat.reduceSub, Nat.reduceMul, Nat.reduceLeDiff, Nat.reduceLT, Nat.reduceEqDiff, Nat.reduceBEq, reduceIte, reduceCtorEq, Int.reduceBEq, Int.reduceEq, Int.reduceLT, Int.reduceLE, Int.reduceGT, Int.reduceGE, Int.reduceAdd, Int.reduceSub, Int.reduceNeg, Int.reduceBNe, ite_true, ite_false, if_true, if_false, implies_true, forall_const]
theorem readL_spec (base : Nat) (h : Hp) (t : List UInt8) (ht : t.length ≤ 100000) : CallA T base 12 [.str t] h = some (rsV .nils [] (readS t), h) := by
  rw [S12]
  unfold readS
  cases e : (t == [])
  · have := read_loop (h := h) 64 t [] .nils (ext h [.cells [.str t]]) ((GS.zero h 41 2 .nils).ext _) getBox_ext_0 rfl ht
    simp only [e, Bool.false_eq_true, if_false, ↓evD, evU, evL, Nat.reduceAdd, Nat.reduceSub, Nat.reduceMul, Nat.reduceLeDiff, Nat.reduceLT, Nat.reduceEqDiff, Nat.reduceBEq, reduceIte, reduceCtorEq, Int.reduceBEq, Int.reduceEq, Int.reduceLT, Int.reduceLE, Int.reduceGT, Int.reduceGE, Int.reduceAdd, Int.reduceSub, Int.reduceNeg, Int.reduceBNe, ite_true, ite_false, if_true, if_false, implies_true, forall_const]
    exact this
  · simp only [e, if_true, rsV, List.append_nil, List.map_nil, ↓evD, evU, evL, Nat.reduceAdd, Nat.reduceSub, Nat.reduceMul, Nat.reduceLeDiff, Nat.reduceLT, Nat.reduceEqDiff, Nat.reduceBEq, reduceIte, reduceCtorEq, Int.reduceBEq, Int.reduceEq, Int.reduceLT, Int.reduceLE, Int.reduceGT, Int.reduceGE, Int.reduceAdd, Int.reduceSub, Int.reduceNeg, Int.reduceBNe, ite_true, ite_false, if_true, if_false, implies_true, forall_const]
    rfl
end Go.Am.YtdnbedldmkagmaaGreatDoor
namespace Go.Am.YtdnbedldmkagmaaGreatDoor
set_option maxRecDepth 100000
set_option linter.unusedSimpArgs false
set_option linter.unusedVariables false
/-- What is left of a text at a place. -/
structure At (S : List UInt8) (i : Nat) (w : List UInt8) : Prop where
  d : S.drop i = w
  l : i ≤ S.length
section
variable {S w : List UInt8} {i : Nat} {x : UInt8}
theorem At.len (a : At S i w) : i + w.length = S.length := by
  have := congrArg List.length a.d
  rw [List.length_drop] at this
  have := a.l
  omega
theorem At.get (a : At S i (x :: w)) : S[i]? = some x := by
  have := congrArg (fun l => l[0]?) a.d
  simpa using this
theorem At.next (a : At S i (x :: w)) : At S (i + 1) w := by
  have h := a.len
  refine ⟨?_, by rw [List.length_cons] at h; omega⟩
  rw [← List.drop_drop, a.d]; rfl
theorem At.add (a : At S i w) {u v : List UInt8} (h : w = u ++ v) : At S (i + u.length) v := by
  have h1 := a.len
  subst h
  refine ⟨?_, by rw [List.length_append] at h1; omega⟩
  rw [← List.drop_drop, a.d]; simp
theorem At.tw (a : At S i w) (q : UInt8 → Bool) : At S (i + (w.takeWhile q).length) (w.dropWhile q) := a.add List.takeWhile_append_dropWhile.symm
theorem At.part (a : At S i w) {u v : List UInt8} (h : w = u ++ v) : (S.drop i).take (i + u.length - i) = u := by
  rw [a.d, h, Nat.add_sub_cancel_left]; simp
end
theorem dw_stop {q : UInt8 → Bool} : ∀ {w : List UInt8} {y : UInt8} {d : List UInt8}, w.dropWhile q = y :: d → q y = false
  | [], y, d, h => by cases h
  | x :: w, y, d, h => by
    rw [List.dropWhile_cons] at h
    cases e : q x
    · rw [e] at h; cases h; exact e
    · rw [e] at h; exact dw_stop h
theorem tw_mem {q : UInt8 → Bool} : ∀ {w : List UInt8} {x : UInt8}, x ∈ w.takeWhile q → q x = true
  | [], x, h => by simp at h
  | y :: w, x, h => by
    rw [List.takeWhile_cons] at h
    cases e : q y
    · rw [e] at h; simp at h
    · rw [e] at h
      rcases List.mem_cons.1 h with rfl | h
      · exact e
      · exact tw_mem h
theorem sim_pri {c : UInt8} (h : simB c = true) : priB c = true := by
  unfold simB lowB at h
  unfold priB
  simp only [Bool.or_eq_true, Bool.and_eq_true, decide_eq_true_eq, beq_iff_eq, Bool.not_eq_true', beq_eq_false_iff_ne] at *
  omega
section
variable {h : Hp} {S : List UInt8} (hS : S.length ≤ 100000)
include hS
theorem scan0 : ∀ (w : List UInt8) (i : Nat) (v4 v7 : PV) (H : Hp), At S i w → P29_0 (size h) (size h) (i64 i) v4 (.str S) v7 H = P29_0 (size h) (size h) (i64 ((i + (w.takeWhile lowB).length : Nat) : Int)) v4 (.str S) v7 H
  | [], i, v4, v7, H, a => rfl
  | x :: w, i, v4, v7, H, a => by
    rw [List.takeWhile_cons]
    cases e : lowB x
    · rfl
    · have hl := a.len
      rw [List.length_cons] at hl
      have ih := scan0 w (i + 1) v4 v7 H a.next
      have e1 : i + 1 + (w.takeWhile lowB).length = i + (x :: w.takeWhile lowB).length := by rw [List.length_cons]; omega
      rw [e1] at ih
      have h1 : ((i : Int) < (S.length : Int)) = True := by simp; omega
      have hix := ix_nat .i64 i S.length (by omega)
      have hx := a.get
      have hq := fun b m => lowR_spec b m x
      rw [e] at hq
      have w1 : IntKind.i64.wrap ((i : Int) + 1) = ((i + 1 : Nat) : Int) := by rw [wrap_small] <;> omega
      simp only [if_true]
      rw [← ih]
      refine (P29_0_eq ..).trans ?_
      simp only [h1, hix, hx, hq, w1, ↓evD, evU, evL, Nat.reduceAdd, Nat.reduceSub, Nat.reduceMul, Nat.reduceLeDiff, Nat.reduceLT, Nat.reduceEqDiff, Nat.reduceBEq, reduceIte, reduceCtorEq, Int.reduceBEq, Int.reduceEq, Int.reduceLT, Int.reduceLE, Int.reduceGT, Int.reduceGE, Int.reduceAdd, Int.reduceSub, Int.reduceNeg, Int.reduceBNe, ite_true, ite_false, if_true, if_false, implies_true, forall_const]
theorem scan1 : ∀ (w : List UInt8) (i : Nat) (v4 v8 v7 : PV) (H : Hp), At S i w → P29_1 (size h) (size h) (i64 i) v4 v8 (.str S) v7 H = P29_1 (size h) (size h) (i64 ((i + (w.takeWhile priB).length : Nat) : Int)) v4 v8 (.str S) v7 H
  | [], i, v4, v8, v7, H, a => rfl
  | x :: w, i, v4, v8, v7, H, a => by
    rw [List.takeWhile_cons]
    cases e : priB x
    · rfl
    · have hl := a.len
      rw [List.length_cons] at hl
      have ih := scan1 w (i + 1) v4 v8 v7 H a.next
      have e1 : i + 1 + (w.takeWhile priB).length = i + (x :: w.takeWhile priB).length := by rw [List.length_cons]; omega
      rw [e1] at ih
      have h1 : ((i : Int) < (S.length : Int)) = True := by simp; omega
      have hix := ix_nat .i64 i S.length (by omega)
      have hx := a.get
      have hq := fun b m => priR_spec b m x
      rw [e] at hq
      have w1 : IntKind.i64.wrap ((i : Int) + 1) = ((i + 1 : Nat) : Int) := by rw [wrap_small] <;> omega
      simp only [if_true]
      rw [← ih]
      refine (P29_1_eq ..).trans ?_
      simp only [h1, hix, hx, hq, w1, ↓evD, evU, evL, Nat.reduceAdd, Nat.reduceSub, Nat.reduceMul, Nat.reduceLeDiff, Nat.reduceLT, Nat.reduceEqDiff, Nat.reduceBEq, reduceIte, reduceCtorEq, Int.reduceBEq, Int.reduceEq, Int.reduceLT, Int.reduceLE, Int.reduceGT, Int.reduceGE, Int.reduceAdd, Int.reduceSub, Int.reduceNeg, Int.reduceBNe, ite_true, ite_false, if_true, if_false, implies_true, forall_const]
theorem scan2 : ∀ (w : List UInt8) (i : Nat) (v4 v8 v7 : PV) (H : Hp), At S i w → P29_2 (size h) (size h) (i64 i) v4 v8 v7 (.str S) H = P29_2 (size h) (size h) (i64 ((i + (w.takeWhile simB).length : Nat) : Int)) v4 v8 v7 (.str S) H
  | [], i, v4, v8, v7, H, a => rfl
  | x :: w, i, v4, v8, v7, H, a => by
    rw [List.takeWhile_cons]
    cases e : simB x
    · rfl
    · have hl := a.len
      rw [List.length_cons] at hl
      have ih := scan2 w (i + 1) v4 v8 v7 H a.next
      have e1 : i + 1 + (w.takeWhile simB).length = i + (x :: w.takeWhile simB).length := by rw [List.length_cons]; omega
      rw [e1] at ih
      have h1 : ((i : Int) < (S.length : Int)) = True := by simp; omega
      have hix := ix_nat .i64 i S.length (by omega)
      have hx := a.get
      have hq := fun b m => simR_spec b m x
      rw [e] at hq
      have w1 : IntKind.i64.wrap ((i : Int) + 1) = ((i + 1 : Nat) : Int) := by rw [wrap_small] <;> omega
      simp only [if_true]
      rw [← ih]
      refine (P29_2_eq ..).trans ?_
      simp only [h1, hix, hx, hq, w1, ↓evD, evU, evL, Nat.reduceAdd, Nat.reduceSub, Nat.reduceMul, Nat.reduceLeDiff, Nat.reduceLT, Nat.reduceEqDiff, Nat.reduceBEq, reduceIte, reduceCtorEq, Int.reduceBEq, Int.reduceEq, Int.reduceLT, Int.reduceLE, Int.reduceGT, Int.reduceGE, Int.reduceAdd, Int.reduceSub, Int.reduceNeg, Int.reduceBNe, ite_true, ite_false, if_true, if_false, implies_true, forall_const]
/-- The value between quotes. -/
theorem quoted {i : Nat} {w a : List UInt8} (ha : At S i w) :
    P29_1 (size h) (size h) (i64 i) (.ptr (size h) 0) (.ptr (size h + 1) 0) (.str S) (i64 i) (ext h [.cells [.str [], .str [], .bool false], .cells [.str a, .str [], .bool false]]) =
      some (.tup [eP (a, w.takeWhile priB, false), i64 ((i + (w.takeWhile priB).length + 1 : Nat) : Int), .bool (decide (((w.takeWhile priB).length : Int) ≤ 60) && ((w.dropWhile priB).take 1 == [34]))], h) := by
  rw [scan1 (h := h) hS w i _ _ _ _ ha]
  have hb := ha.tw priB
  have hv := fun b m => valued_spec (base := b) (h := m) (w.takeWhile priB) (by have := ha.len; have := tw_len (q := priB) w; omega)
  have hall : (w.takeWhile priB).all priB = true := by rw [List.all_eq_true]; intro x hx; exact (tw_mem hx)
  have ev : vlB (w.takeWhile priB) = decide (((w.takeWhile priB).length : Int) ≤ 60) := by unfold vlB; rw [hall]; rfl
  rw [ev] at hv
  have hp := ha.part (u := w.takeWhile priB) (v := w.dropWhile priB) List.takeWhile_append_dropWhile.symm
  have hst : ∀ {y d}, w.dropWhile priB = y :: d → priB y = false := fun h => dw_stop h
  have hl := hb.len
  generalize w.takeWhile priB = u at *
  generalize w.dropWhile priB = d at *
  have hj : i + u.length ≤ S.length := hb.l
  have b1 := bdV_nat S.length .i64 (i + u.length) hj
  have b2 := bdV_nat (i + u.length) .i64 i (by omega)
  have w1 : IntKind.i64.wrap (((i + u.length : Nat) : Int) + 1) = ((i + u.length + 1 : Nat) : Int) := by rw [wrap_small] <;> omega
  have hep : ∀ a b c, eP (a, b, c) = .agg [.str a, .str b, .bool c] := fun _ _ _ => rfl
  have n1 : (size h + 1 < size h) = False := by simp
  have n2 : (size h < size h) = False := by simp
  rw [P29_1_eq]
  cases d with
  | nil =>
    rw [List.length_nil] at hl
    have h1 : (((i + u.length : Nat) : Int) < (S.length : Int)) = False := by simp only [eq_iff_iff, iff_false]; omega
    have e3 : (([] : List UInt8) == [34]) = false := rfl
    generalize i + u.length = j at *
    simp only [h1, b1, b2, hp, w1, n1, n2, hep, e3, Bool.and_false, ↓evD, evU, evL, Nat.reduceAdd, Nat.reduceSub, Nat.reduceMul, Nat.reduceLeDiff, Nat.reduceLT, Nat.reduceEqDiff, Nat.reduceBEq, reduceIte, reduceCtorEq, Int.reduceBEq, Int.reduceEq, Int.reduceLT, Int.reduceLE, Int.reduceGT, Int.reduceGE, Int.reduceAdd, Int.reduceSub, Int.reduceNeg, Int.reduceBNe, ite_true, ite_false, if_true, if_false, implies_true, forall_const]
  | cons y d =>
    rw [List.length_cons] at hl
    have h1 : (((i + u.length : Nat) : Int) < (S.length : Int)) = True := by simp only [eq_iff_iff, iff_true]; omega
    have hix := ix_nat .i64 (i + u.length) S.length (by omega)
    have hx := hb.get
    have hq := fun b m => priR_spec b m y
    rw [hst rfl] at hq
    have e34 := u8_beq y 34
    have z34 : (((34 : UInt8).toNat : Nat) : Int) = 34 := rfl
    rw [z34] at e34
    have e3 : ((y :: d).take 1 == [34]) = (y == 34) := by simp
    rw [e3]
    generalize i + u.length = j at *
    cases e : (y == 34) <;> rw [e] at e34
    · simp only [h1, hix, hx, hq, b1, b2, hp, w1, n1, n2, hep, e34, Bool.and_false, ↓evD, evU, evL, Nat.reduceAdd, Nat.reduceSub, Nat.reduceMul, Nat.reduceLeDiff, Nat.reduceLT, Nat.reduceEqDiff, Nat.reduceBEq, reduceIte, reduceCtorEq, Int.reduceBEq, Int.reduceEq, Int.reduceLT, Int.reduceLE, Int.reduceGT, Int.reduceGE, Int.reduceAdd, Int.reduceSub, Int.reduceNeg, Int.reduceBNe, ite_true, ite_false, if_true, if_false, implies_true, forall_const]
    · by_cases c : ((u.length : Int) ≤ 60)
      · simp only [h1, hix, hx, hq, b1, b2, hp, w1, n1, n2, hep, e34, hv, c, ↓evD, evU, evL, Nat.reduceAdd, Nat.reduceSub, Nat.reduceMul, Nat.reduceLeDiff, Nat.reduceLT, Nat.reduceEqDiff, Nat.reduceBEq, reduceIte, reduceCtorEq, Int.reduceBEq, Int.reduceEq, Int.reduceLT, Int.reduceLE, Int.reduceGT, Int.reduceGE, Int.reduceAdd, Int.reduceSub, Int.reduceNeg, Int.reduceBNe, ite_true, ite_false, if_true, if_false, implies_true, forall_const]
      · simp only [h1, hix, hx, hq, b1, b2, hp, w1, n1, n2, hep, e34, hv, c, ↓evD, evU, evL, Nat.reduceAdd, Nat.reduceSub, Nat.reduceMul, Nat.reduceLeDiff, Nat.reduceLT, Nat.reduceEqDiff, Nat.reduceBEq, reduceIte, reduceCtorEq, Int.reduceBEq, Int.reduceEq, Int.reduceLT, Int.reduceLE, Int.reduceGT, Int.reduceGE, Int.reduceAdd, Int.reduceSub, Int.reduceNeg, Int.reduceBNe, ite_true, ite_false, if_true, if_false, implies_true, forall_const]
/-- The value without. -/
theorem unquoted {i : Nat} {w a : List UInt8} (ha : At S i w) :
    P29_2 (size h) (size h) (i64 i) (.ptr (size h) 0) (.ptr (size h + 1) 0) (i64 i) (.str S) (ext h [.cells [.str [], .str [], .bool false], .cells [.str a, .str [], .bool false]]) =
      some (.tup [eP (a, w.takeWhile simB, false), i64 ((i + (w.takeWhile simB).length : Nat) : Int), .bool (!(w.takeWhile simB == []) && decide (((w.takeWhile simB).length : Int) ≤ 60))], h) := by
  rw [scan2 (h := h) hS w i _ _ _ _ ha]
  have hb := ha.tw simB
  have hle : (w.takeWhile simB).length ≤ 1000000 := by have := ha.len; have := tw_len (q := simB) w; omega
  have hv := fun b m => valued_spec (base := b) (h := m) (w.takeWhile simB) hle
  have hpl := fun b m => plain_spec (base := b) (h := m) (w.takeWhile simB) hle
  have hall : (w.takeWhile simB).all simB = true := by rw [List.all_eq_true]; intro x hx; exact (tw_mem hx)
  have hall2 : (w.takeWhile simB).all priB = true := by rw [List.all_eq_true]; intro x hx; exact sim_pri (tw_mem hx)
  have ev : vlB (w.takeWhile simB) = decide (((w.takeWhile simB).length : Int) ≤ 60) := by unfold vlB; rw [hall2]; rfl
  have ep : plB (w.takeWhile simB) = !(w.takeWhile simB == []) := by unfold plB; rw [hall, Bool.and_true]
  rw [ev] at hv
  rw [ep] at hpl
  have hp := ha.part (u := w.takeWhile simB) (v := w.dropWhile simB) List.takeWhile_append_dropWhile.symm
  have hst : ∀ {y d}, w.dropWhile simB = y :: d → simB y = false := fun h => dw_stop h
  have hl := hb.len
  generalize w.takeWhile simB = u at *
  generalize w.dropWhile simB = d at *
  have hj : i + u.length ≤ S.length := hb.l
  have b1 := bdV_nat S.length .i64 (i + u.length) hj
  have b2 := bdV_nat (i + u.length) .i64 i (by omega)
  have hep : ∀ a b c, eP (a, b, c) = .agg [.str a, .str b, .bool c] := fun _ _ _ => rfl
  have n1 : (size h + 1 < size h) = False := by simp
  have n2 : (size h < size h) = False := by simp
  rw [P29_2_eq]
  cases d with
  | nil =>
    rw [List.length_nil] at hl
    have h1 : (((i + u.length : Nat) : Int) < (S.length : Int)) = False := by simp only [eq_iff_iff, iff_false]; omega
    generalize i + u.length = j at *
    cases e : (u == []) <;> rw [e] at hpl
    · simp only [h1, b1, b2, hp, n1, n2, hep, hv, hpl, ↓evD, evU, evL, Nat.reduceAdd, Nat.reduceSub, Nat.reduceMul, Nat.reduceLeDiff, Nat.reduceLT, Nat.reduceEqDiff, Nat.reduceBEq, reduceIte, reduceCtorEq, Int.reduceBEq, Int.reduceEq, Int.reduceLT, Int.reduceLE, Int.reduceGT, Int.reduceGE, Int.reduceAdd, Int.reduceSub, Int.reduceNeg, Int.reduceBNe, ite_true, ite_false, if_true, if_false, implies_true, forall_const]
    · simp only [h1, b1, b2, hp, n1, n2, hep, hv, hpl, ↓evD, evU, evL, Nat.reduceAdd, Nat.reduceSub, Nat.reduceMul, Nat.reduceLeDiff, Nat.reduceLT, Nat.reduceEqDiff, Nat.reduceBEq, reduceIte, reduceCtorEq, Int.reduceBEq, Int.reduceEq, Int.reduceLT, Int.reduceLE, Int.reduceGT, Int.reduceGE, Int.reduceAdd, Int.reduceSub, Int.reduceNeg, Int.reduceBNe, ite_true, ite_false, if_true, if_false, implies_true, forall_const]
  | cons y d =>
    rw [List.length_cons] at hl
    have h1 : (((i + u.length : Nat) : Int) < (S.length : Int)) = True := by simp only [eq_iff_iff, iff_true]; omega
    have hix := ix_nat .i64 (i + u.length) S.length (by omega)
    have hx := hb.get
    have hq := fun b m => simR_spec b m y
    rw [hst rfl] at hq
    generalize i + u.length = j at *
    cases e : (u == []) <;> rw [e] at hpl
    · simp only [h1, hix, hx, hq, b1, b2, hp, n1, n2, hep, hv, hpl, ↓evD, evU, evL, Nat.reduceAdd, Nat.reduceSub, Nat.reduceMul, Nat.reduceLeDiff, Nat.reduceLT, Nat.reduceEqDiff, Nat.reduceBEq, reduceIte, reduceCtorEq, Int.reduceBEq, Int.reduceEq, Int.reduceLT, Int.reduceLE, Int.reduceGT, Int.reduceGE, Int.reduceAdd, Int.reduceSub, Int.reduceNeg, Int.reduceBNe, ite_true, ite_false, if_true, if_false, implies_true, forall_const]
    · simp only [h1, hix, hx, hq, b1, b2, hp, n1, n2, hep, hv, hpl, ↓evD, evU, evL, Nat.reduceAdd, Nat.reduceSub, Nat.reduceMul, Nat.reduceLeDiff, Nat.reduceLT, Nat.reduceEqDiff, Nat.reduceBEq, reduceIte, reduceCtorEq, Int.reduceBEq, Int.reduceEq, Int.reduceLT, Int.reduceLE, Int.reduceGT, Int.reduceGE, Int.reduceAdd, Int.reduceSub, Int.reduceNeg, Int.reduceBNe, ite_true, ite_false, if_true, if_false, implies_true, forall_const]
end
end Go.Am.YtdnbedldmkagmaaGreatDoor
namespace Go.Am.YtdnbedldmkagmaaGreatDoor
set_option maxRecDepth 100000
set_option linter.unusedSimpArgs false
set_option linter.unusedVariables false
theorem attrR_spec (base : Nat) (h : Hp) {S : List UInt8} (hS : S.length ≤ 100000) {i : Nat} {t : List UInt8} (ha : At S i t) :
    ∃ (p : Pr) (j : Nat), CallA T base 29 [.str S, i64 i] h = some (.tup [eP p, i64 j, .bool (attrF t).2.1], h) ∧ ((attrF t).2.1 = true → p = (attrF t).1 ∧ At S j (attrF t).2.2) := by
  have hb := ha.tw lowB
  have hn := fun b m => named_spec (base := b) (h := m) (t.takeWhile lowB) (by have := ha.len; have := tw_len (q := lowB) t; omega)
  have hp := ha.part (u := t.takeWhile lowB) (v := t.dropWhile lowB) List.takeWhile_append_dropWhile.symm
  have hst : ∀ {y d}, t.dropWhile lowB = y :: d → lowB y = false := fun h => dw_stop h
  have hS29 : ∀ base, CallA T base 29 [.str S, i64 i] h = P29_0 (size h) (size h) (i64 ((i + (t.takeWhile lowB).length : Nat) : Int)) (.ptr (size h) 0) (.str S) (i64 i) (ext h [.cells [.str [], .str [], .bool false]]) := by
    intro base
    rw [S29, ← scan0 (h := h) hS t i _ _ _ ha]
    simp only [↓evD, evU, evL, Nat.reduceAdd, Nat.reduceSub, Nat.reduceMul, Nat.reduceLeDiff, Nat.reduceLT, Nat.reduceEqDiff, Nat.reduceBEq, reduceIte, reduceCtorEq, Int.reduceBEq, Int.reduceEq, Int.reduceLT, Int.reduceLE, Int.reduceGT, Int.reduceGE, Int.reduceAdd, Int.reduceSub, Int.reduceNeg, Int.reduceBNe, ite_true, ite_false, if_true, if_false, implies_true, forall_const]
  rw [hS29]
  have hl := hb.len
  unfold attrF
  generalize t.takeWhile lowB = a at *
  generalize t.dropWhile lowB = d at *
  have hj : i + a.length ≤ S.length := hb.l
  have b1 := bdV_nat S.length .i64 (i + a.length) hj
  have b2 := bdV_nat (i + a.length) .i64 i (by omega)
  have hep : ∀ a b c, eP (a, b, c) = .agg [.str a, .str b, .bool c] := fun _ _ _ => rfl
  have n1 : (size h + 1 < size h) = False := by simp
  have n2 : (size h < size h) = False := by simp
  cases d with
  | nil =>
    rw [List.length_nil] at hl
    have h1 : (((i + a.length : Nat) : Int) < (S.length : Int)) = False := by simp only [eq_iff_iff, iff_false]; omega
    have h2 : (((i + a.length : Nat) : Int) == (S.length : Int)) = true := by rw [beq_iff_eq]; omega
    have e3 : (([] : List UInt8).take 1 == [61]) = false := rfl
    refine ⟨(a, [], true), i + a.length, ?_, ?_⟩
    · rw [P29_0_eq, e3]
      generalize i + a.length = j at *
      cases e1 : nmB a <;> rw [e1] at hn <;> simp only [h1, h2, b1, b2, hp, n1, n2, hn, hep, Bool.false_eq_true, ↓evD, evU, evL, Nat.reduceAdd, Nat.reduceSub, Nat.reduceMul, Nat.reduceLeDiff, Nat.reduceLT, Nat.reduceEqDiff, Nat.reduceBEq, reduceIte, reduceCtorEq, Int.reduceBEq, Int.reduceEq, Int.reduceLT, Int.reduceLE, Int.reduceGT, Int.reduceGE, Int.reduceAdd, Int.reduceSub, Int.reduceNeg, Int.reduceBNe, ite_true, ite_false, if_true, if_false, implies_true, forall_const]
    · rw [e3]
      cases e1 : nmB a
      · intro h; cases h
      · intro _; exact ⟨rfl, hb⟩
  | cons y d =>
    rw [List.length_cons] at hl
    have h1 : (((i + a.length : Nat) : Int) < (S.length : Int)) = True := by simp only [eq_iff_iff, iff_true]; omega
    have h2 : (((i + a.length : Nat) : Int) == (S.length : Int)) = false := by rw [beq_eq_false_iff_ne]; omega
    have hix := ix_nat .i64 (i + a.length) S.length (by omega)
    have hx := hb.get
    have hq := fun b m => lowR_spec b m y
    rw [hst rfl] at hq
    have e61 := u8_beq y 61
    have z61 : (((61 : UInt8).toNat : Nat) : Int) = 61 := rfl
    rw [z61] at e61
    have e3 : ((y :: d).take 1 == [61]) = (y == 61) := by simp
    have e4 : (y :: d).drop 1 = d := rfl
    rw [e3, e4]
    cases e1 : nmB a <;> rw [e1] at hn
    · refine ⟨(a, [], true), i + a.length, ?_, fun h => by cases h⟩
      rw [P29_0_eq]
      generalize i + a.length = j at *
      simp only [h1, h2, hix, hx, hq, b1, b2, hp, n1, n2, hn, hep, Bool.false_eq_true, ↓evD, evU, evL, Nat.reduceAdd, Nat.reduceSub, Nat.reduceMul, Nat.reduceLeDiff, Nat.reduceLT, Nat.reduceEqDiff, Nat.reduceBEq, reduceIte, reduceCtorEq, Int.reduceBEq, Int.reduceEq, Int.reduceLT, Int.reduceLE, Int.reduceGT, Int.reduceGE, Int.reduceAdd, Int.reduceSub, Int.reduceNeg, Int.reduceBNe, ite_true, ite_false, if_true, if_false, implies_true, forall_const]
    cases e2 : (y == 61) <;> rw [e2] at e61
    · refine ⟨(a, [], true), i + a.length, ?_, fun _ => ⟨rfl, hb⟩⟩
      rw [P29_0_eq]
      generalize i + a.length = j at *
      simp only [h1, h2, hix, hx, hq, b1, b2, hp, n1, n2, hn, hep, e61, bne, Bool.false_eq_true, ↓evD, evU, evL, Nat.reduceAdd, Nat.reduceSub, Nat.reduceMul, Nat.reduceLeDiff, Nat.reduceLT, Nat.reduceEqDiff, Nat.reduceBEq, reduceIte, reduceCtorEq, Int.reduceBEq, Int.reduceEq, Int.reduceLT, Int.reduceLE, Int.reduceGT, Int.reduceGE, Int.reduceAdd, Int.reduceSub, Int.reduceNeg, Int.reduceBNe, ite_true, ite_false, if_true, if_false, implies_true, forall_const]
    · have hc := hb.next
      have w1 : IntKind.i64.wrap (((i + a.length : Nat) : Int) + 1) = ((i + a.length + 1 : Nat) : Int) := by rw [wrap_small] <;> omega
      simp only [if_true]
      have hlc := hc.len
      have hU := unquoted (h := h) hS (a := a) hc
      unfold valF
      cases d with
      | nil =>
        rw [List.length_nil] at hlc
        have h3 : (((i + a.length + 1 : Nat) : Int) < (S.length : Int)) = False := by simp only [eq_iff_iff, iff_false]; omega
        have e5 : (([] : List UInt8).take 1 == [34]) = false := rfl
        rw [e5]
        simp only [Bool.false_eq_true, if_false]
        refine ⟨_, _, ?_, fun _ => ⟨rfl, hc.tw simB⟩⟩
        rw [P29_0_eq]
        generalize i + a.length = j at *
        simp only [h1, h2, hix, hx, hq, b1, b2, hp, n1, n2, hn, e61, w1, h3, bne, ↓evD, evU, evL, Nat.reduceAdd, Nat.reduceSub, Nat.reduceMul, Nat.reduceLeDiff, Nat.reduceLT, Nat.reduceEqDiff, Nat.reduceBEq, reduceIte, reduceCtorEq, Int.reduceBEq, Int.reduceEq, Int.reduceLT, Int.reduceLE, Int.reduceGT, Int.reduceGE, Int.reduceAdd, Int.reduceSub, Int.reduceNeg, Int.reduceBNe, ite_true, ite_false, if_true, if_false, implies_true, forall_const]
        exact hU
      | cons z d =>
        rw [List.length_cons] at hlc
        have h3 : (((i + a.length + 1 : Nat) : Int) < (S.length : Int)) = True := by simp only [eq_iff_iff, iff_true]; omega
        have hix2 := ix_nat .i64 (i + a.length + 1) S.length (by omega)
        have hx2 := hc.get
        have e34 := u8_beq z 34
        have z34 : (((34 : UInt8).toNat : Nat) : Int) = 34 := rfl
        rw [z34] at e34
        have e5 : ((z :: d).take 1 == [34]) = (z == 34) := by simp
        have e6 : (z :: d).drop 1 = d := rfl
        rw [e5, e6]
        have w2 : IntKind.i64.wrap (((i + a.length + 1 : Nat) : Int) + 1) = ((i + a.length + 1 + 1 : Nat) : Int) := by rw [wrap_small] <;> omega
        cases e7 : (z == 34) <;> rw [e7] at e34
        · simp only [Bool.false_eq_true, if_false]
          refine ⟨_, _, ?_, fun _ => ⟨rfl, hc.tw simB⟩⟩
          rw [P29_0_eq]
          generalize i + a.length = j at *
          simp only [h1, h2, hix, hx, hq, b1, b2, hp, n1, n2, hn, e61, w1, h3, hix2, hx2, e34, bne, ↓evD, evU, evL, Nat.reduceAdd, Nat.reduceSub, Nat.reduceMul, Nat.reduceLeDiff, Nat.reduceLT, Nat.reduceEqDiff, Nat.reduceBEq, reduceIte, reduceCtorEq, Int.reduceBEq, Int.reduceEq, Int.reduceLT, Int.reduceLE, Int.reduceGT, Int.reduceGE, Int.reduceAdd, Int.reduceSub, Int.reduceNeg, Int.reduceBNe, ite_true, ite_false, if_true, if_false, implies_true, forall_const]
          exact hU
        · simp only [if_true]
          have hQ := quoted (h := h) hS (a := a) hc.next
          refine ⟨_, i + a.length + 1 + 1 + (d.takeWhile priB).length + 1, ?_, fun hok => ⟨rfl, ?_⟩⟩
          · rw [P29_0_eq]
            generalize i + a.length = j at *
            simp only [h1, h2, hix, hx, hq, b1, b2, hp, n1, n2, hn, e61, w1, w2, h3, hix2, hx2, e34, bne, ↓evD, evU, evL, Nat.reduceAdd, Nat.reduceSub, Nat.reduceMul, Nat.reduceLeDiff, Nat.reduceLT, Nat.reduceEqDiff, Nat.reduceBEq, reduceIte, reduceCtorEq, Int.reduceBEq, Int.reduceEq, Int.reduceLT, Int.reduceLE, Int.reduceGT, Int.reduceGE, Int.reduceAdd, Int.reduceSub, Int.reduceNeg, Int.reduceBNe, ite_true, ite_false, if_true, if_false, implies_true, forall_const]
            exact hQ
          · rw [Bool.and_eq_true] at hok
            rw [if_pos hok.1]
            have ht := hc.next.tw priB
            generalize d.dropWhile priB = r at *
            cases r with
            | nil => exact absurd hok.2 (by decide)
            | cons u r =>
              have : tk 34 (u :: r) = r := by unfold tk; rw [hok.2]; rfl
              rw [this]
              exact ht.next
end Go.Am.YtdnbedldmkagmaaGreatDoor
namespace Go.Am.YtdnbedldmkagmaaGreatDoor
set_option maxRecDepth 100000
set_option linter.unusedSimpArgs false
set_option linter.unusedVariables false
theorem trunc_up {h X0 X : Hp} (h1 : trunc X0 (size h) = h) (h2 : size h ≤ size X0) (h3 : trunc X (size X0) = X0) : trunc X (size h) = h := by
  have : trunc (trunc X (size X0)) (size h) = trunc X (size h) := by unfold trunc; rw [List.take_take, Nat.min_eq_left h2]
  rw [← this, h3]; exact h1
theorem GS_up {h X0 X : Hp} {T sz : Nat} {z v : PV} {es : List PV} (g : GS h T sz z v es X0) (tr : trunc X (size X0) = X0) (le : size X0 ≤ size X) : GS h T sz z v es X := by
  refine ⟨trunc_up g.tr g.le tr, Nat.le_trans g.le le, ?_⟩
  rcases g.va with a | ⟨a, t, q, c, d, e⟩
  · exact .inl a
  · refine .inr ⟨a, t, q, c, by omega, ?_⟩
    rw [← tr] at e
    unfold getTok at *
    have : box? (trunc X (size X0)) t = box? X t := by
      unfold box? trunc
      rw [List.getElem?_take, if_pos d]
    rw [this] at e
    exact e
theorem gs_strip {h X : Hp} {T sz : Nat} {v : PV} {es : List PV} (g : GS h T sz .nils v es X) : strip v = gD .nils sz es := by
  rcases g.va with ⟨rfl, rfl⟩ | ⟨hne, t, rfl, _⟩
  · rfl
  · cases es with
    | nil => exact (hne rfl).elim
    | cons x xs => rfl
structure LR (X0 : Hp) (p : PV) (aa : List Pr) (v : PV) (X : Hp) : Prop where
  g : GS X0 38 3 .nils v (aa.map eP) X
  b : getBox X (size X0) = some [p, v]
  le : size X0 < size X
section
variable {X0 X : Hp} {p v : PV} {aa : List Pr}
theorem LR.ext (s : LR X0 p aa v X) (l : List Box) : LR X0 p aa v (Go.Am.ext X l) :=
  ⟨s.g.ext l, by rw [getBox_ext_lt s.le]; exact s.b, by rw [size_ext]; have := s.le; omega⟩
theorem LR.grow (s : LR X0 p aa v X) (a : Pr) (ha : aa.length ≤ 8) :
    ∃ v' Z, growT X 38 3 v [.agg [.str a.1, .str a.2.1, .bool a.2.2]] = some (v', Z) ∧ getBox Z (size X0) = some [p, v] ∧ LR X0 p (aa ++ [a]) v' (setBx Z (size X0) (.cells [p, v'])) := by
  obtain ⟨v', Z, e1, g2⟩ := s.g.grow (gZ_nils 3) (x := eP a) (by simpa using elP.fits [a]) (elP.st _) (by unfold lim2; simp; omega)
  obtain ⟨z1, z2⟩ := grow_box e1
  have hle := s.le
  have hb1 := z2 _ _ s.b
  have g3 := g2.set hb1 (cs' := [p, v']) (Nat.le_refl _)
  rw [setBox_eq] at g3
  refine ⟨v', Z, e1, hb1, ?_, ?_, ?_⟩
  · rw [List.map_append]; exact g3
  · exact getBox_set_same (by omega)
  · rw [size_setBx]; omega
theorem LR.len (s : LR X0 p aa v X) : lenB false v = some (i64 aa.length) := (s.g.rl (gZ_nils 3)).len
end
theorem attrsR_loop {h X0 : Hp} {S : List UInt8} (hS : S.length ≤ 100000) (htr : trunc X0 (size h) = h) (hsz : size h ≤ size X0) {p : PV} : ∀ (n : Nat) (t : List UInt8) (aa : List Pr) (v : PV) (X : Hp) (i : Nat),
    LR X0 p aa v X → aa.length + n = 8 → At S i t →
    match attrsO n t with
    | none => ∀ v4, P13_2 (size h) (size h) (.ptr (size X0) 0) (i64 i) (.str S) v4 X = some (.tup [.nils, i64 20], h)
    | some (bs, r) => ∃ (X' : Hp) (v' : PV) (j : Nat), LR X0 p (aa ++ bs) v' X' ∧ At S j r ∧ (r.take 1 == [59]) = false ∧ ∀ v4, P13_2 (size h) (size h) (.ptr (size X0) 0) (i64 i) (.str S) v4 X = P13_2 (size h) (size h) (.ptr (size X0) 0) (i64 j) (.str S) v4 X' := by
  intro n
  induction n with
  | zero =>
    intro t aa v X i s hn ha
    cases e : (t.take 1 == [59])
    · have h0 : attrsO 0 t = some ([], t) := by simp only [attrsO, e, Bool.false_eq_true, if_false]
      rw [h0]
      exact ⟨X, v, i, by rw [List.append_nil]; exact s, ha, e, fun _ => rfl⟩
    · have h0 : attrsO 0 t = none := by simp only [attrsO, e, if_true]
      rw [h0]
      intro v4
      cases t with
      | nil => cases e
      | cons y u =>
        have hy : y = 59 := by simpa using e
        subst hy
        have hl := ha.len
        rw [List.length_cons] at hl
        have h1 : ((i : Int) < (S.length : Int)) = True := by simp; omega
        have hix := ix_nat .i64 i S.length (by omega)
        have hx := ha.get
        have z59 : (((59 : UInt8).toNat : Nat) : Int) = 59 := rfl
        have w1 : IntKind.i64.wrap ((i : Int) + 1) = ((i + 1 : Nat) : Int) := by rw [wrap_small] <;> omega
        obtain ⟨a, j, hc, _⟩ := attrR_spec (size h) X hS ha.next
        have hep : eP a = .agg [.str a.1, .str a.2.1, .bool a.2.2] := rfl
        rw [hep] at hc
        have hle := s.le
        have n1 : (size X < size h) = False := by simp; omega
        have e8 : ((aa.length : Int) == 8) = true := by rw [beq_iff_eq]; omega
        have sx := fun cs => s.ext [.cells cs]
        have tr : ∀ cs, trunc (ext X [.cells cs]) (size h) = h := fun cs => trunc_up htr hsz (sx cs).g.tr
        have b1 := fun cs => (sx cs).b
        rw [P13_2_eq]
        cases e1 : (attrF u).2.1 <;> rw [e1] at hc <;> simp only [h1, hix, hx, z59, w1, hc, n1, b1, s.len, e8, tr, ↓evD, evU, evL, Nat.reduceAdd, Nat.reduceSub, Nat.reduceMul, Nat.reduceLeDiff, Nat.reduceLT, Nat.reduceEqDiff, Nat.reduceBEq, reduceIte, reduceCtorEq, Int.reduceBEq, Int.reduceEq, Int.reduceLT, Int.reduceLE, Int.reduceGT, Int.reduceGE, Int.reduceAdd, Int.reduceSub, Int.reduceNeg, Int.reduceBNe, ite_true, ite_false, if_true, if_false, implies_true, forall_const]
  | succ n ih =>
    intro t aa v X i s hn ha
    cases e : (t.take 1 == [59])
    · have h0 : attrsO (n + 1) t = some ([], t) := by simp only [attrsO, e, Bool.false_eq_true, if_false]
      rw [h0]
      exact ⟨X, v, i, by rw [List.append_nil]; exact s, ha, e, fun _ => rfl⟩
    · cases t with
      | nil => cases e
      | cons y u =>
        have hy : y = 59 := by simpa using e
        subst hy
        have hO : attrsO (n + 1) (59 :: u) = if (attrF u).2.1 then match attrsO n (attrF u).2.2 with
          | some x => some ((attrF u).1 :: x.1, x.2)
          | none => none
          else none := rfl
        rw [hO]
        have hl := ha.len
        rw [List.length_cons] at hl
        have h1 : ((i : Int) < (S.length : Int)) = True := by simp; omega
        have hix := ix_nat .i64 i S.length (by omega)
        have hx := ha.get
        have z59 : (((59 : UInt8).toNat : Nat) : Int) = 59 := rfl
        have w1 : IntKind.i64.wrap ((i : Int) + 1) = ((i + 1 : Nat) : Int) := by rw [wrap_small] <;> omega
        obtain ⟨a, j, hc, hok⟩ := attrR_spec (size h) X hS ha.next
        have hep : eP a = .agg [.str a.1, .str a.2.1, .bool a.2.2] := rfl
        rw [hep] at hc
        have hle := s.le
        have n1 : (size X < size h) = False := by simp; omega
        have n2 : (size X0 < size h) = False := by simp; omega
        have e8 : ((aa.length : Int) == 8) = false := by rw [beq_eq_false_iff_ne]; omega
        have sx := fun cs => s.ext [.cells cs]
        have tr : ∀ cs, trunc (ext X [.cells cs]) (size h) = h := fun cs => trunc_up htr hsz (sx cs).g.tr
        have b1 := fun cs => (sx cs).b
        cases e1 : (attrF u).2.1
        · rw [e1] at hc
          simp only [Bool.false_eq_true, if_false]
          intro v4
          rw [P13_2_eq]
          simp only [h1, hix, hx, z59, w1, hc, n1, tr, ↓evD, evU, evL, Nat.reduceAdd, Nat.reduceSub, Nat.reduceMul, Nat.reduceLeDiff, Nat.reduceLT, Nat.reduceEqDiff, Nat.reduceBEq, reduceIte, reduceCtorEq, Int.reduceBEq, Int.reduceEq, Int.reduceLT, Int.reduceLE, Int.reduceGT, Int.reduceGE, Int.reduceAdd, Int.reduceSub, Int.reduceNeg, Int.reduceBNe, ite_true, ite_false, if_true, if_false, implies_true, forall_const]
        · rw [e1] at hc
          obtain ⟨rfl, hj⟩ := hok e1
          simp only [if_true]
          obtain ⟨v', Z, g1, g2, s2⟩ := (sx [.str (attrF u).1.1, .str (attrF u).1.2.1, .bool (attrF u).1.2.2]).grow (attrF u).1 (by omega)
          obtain ⟨c1, c2⟩ := gs_sc s2.g
          have key : ∀ v4, P13_2 (size h) (size h) (.ptr (size X0) 0) (i64 i) (.str S) v4 X = P13_2 (size h) (size h) (.ptr (size X0) 0) (i64 j) (.str S) v4 (setBx Z (size X0) (.cells [p, v'])) := by
            intro v4
            refine (P13_2_eq ..).trans ?_
            generalize (attrF u).1 = a at *
            simp only [h1, hix, hx, z59, w1, hc, n1, n2, b1, s.len, e8, g1, g2, c1, c2, ↓evD, evU, evL, Nat.reduceAdd, Nat.reduceSub, Nat.reduceMul, Nat.reduceLeDiff, Nat.reduceLT, Nat.reduceEqDiff, Nat.reduceBEq, reduceIte, reduceCtorEq, Int.reduceBEq, Int.reduceEq, Int.reduceLT, Int.reduceLE, Int.reduceGT, Int.reduceGE, Int.reduceAdd, Int.reduceSub, Int.reduceNeg, Int.reduceBNe, ite_true, ite_false, if_true, if_false, implies_true, forall_const]
          have hi := ih (attrF u).2.2 (aa ++ [(attrF u).1]) v' _ j s2 (by simp; omega) hj
          cases e2 : attrsO n (attrF u).2.2 with
          | none =>
            rw [e2] at hi
            intro v4
            rw [key]; exact hi v4
          | some x =>
            obtain ⟨bs, r⟩ := x
            rw [e2] at hi
            obtain ⟨X', v'', j', q1, q2, q3, q4⟩ := hi
            rw [List.append_assoc] at q1
            exact ⟨X', v'', j', q1, q2, q3, fun v4 => (key v4).trans (q4 v4)⟩
theorem scan3 {h : Hp} {S : List UInt8} (hS : S.length ≤ 100000) : ∀ (w : List UInt8) (i : Nat) (v4 v5 : PV) (H : Hp), At S i w → P13_1 (size h) (size h) (i64 i) (.str S) v4 v5 H = P13_1 (size h) (size h) (i64 ((i + (w.takeWhile ngtB).length : Nat) : Int)) (.str S) v4 v5 H
  | [], i, v4, v5, H, a => rfl
  | x :: w, i, v4, v5, H, a => by
    rw [List.takeWhile_cons]
    cases e : ngtB x
    · rfl
    · have hl := a.len
      rw [List.length_cons] at hl
      have ih := scan3 (h := h) hS w (i + 1) v4 v5 H a.next
      have e1 : i + 1 + (w.takeWhile ngtB).length = i + (x :: w.takeWhile ngtB).length := by rw [List.length_cons]; omega
      rw [e1] at ih
      have h1 : ((i : Int) < (S.length : Int)) = True := by simp; omega
      have hix := ix_nat .i64 i S.length (by omega)
      have hx := a.get
      have e2 : ((x.toNat : Int) == 62) = false := by
        unfold ngtB at e
        simpa using e
      have w1 : IntKind.i64.wrap ((i : Int) + 1) = ((i + 1 : Nat) : Int) := by rw [wrap_small] <;> omega
      simp only [if_true]
      rw [← ih]
      refine (P13_1_eq ..).trans ?_
      simp only [h1, hix, hx, bne, e2, w1, ↓evD, evU, evL, Nat.reduceAdd, Nat.reduceSub, Nat.reduceMul, Nat.reduceLeDiff, Nat.reduceLT, Nat.reduceEqDiff, Nat.reduceBEq, reduceIte, reduceCtorEq, Int.reduceBEq, Int.reduceEq, Int.reduceLT, Int.reduceLE, Int.reduceGT, Int.reduceGE, Int.reduceAdd, Int.reduceSub, Int.reduceNeg, Int.reduceBNe, ite_true, ite_false, if_true, if_false, implies_true, forall_const]
end Go.Am.YtdnbedldmkagmaaGreatDoor
namespace Go.Am.YtdnbedldmkagmaaGreatDoor
set_option maxRecDepth 100000
set_option linter.unusedSimpArgs false
set_option linter.unusedVariables false
def vZ (p : List Int) : PV := gD zF 1 (p.map eI)
theorem vZ_lv (p : List Int) : Lv eI 1 (vZ p) p := Lv.done (gZ_full 1) p
def mkLR (x : Ln) : Lk := (⟨vZ x.1, x.1, vZ_lv x.1⟩, ⟨vA x.2, x.2, vA_lv x.2⟩)
def mkR (x : Ln) : PV := eL (mkLR x)
theorem mkR_eq (x : Ln) : mkR x = .agg [vZ x.1, vA x.2] := rfl
theorem elR : El mkR 2 := ⟨fun a => elL.len _, fun a => elL.sc _, fun a => elL.st _, fun n a => elL.be n _⟩
abbrev zF2 : PV := .sl .full 2 []
def rsW (ks : List Ln) : Rs → PV
  | .ok l => .tup [gD zF2 2 ((ks ++ l).map mkR), i64 0]
  | .many => .tup [.nils, i64 3]
  | .form => .tup [.nils, i64 20]
theorem readLR_loop {h : Hp} {S : List UInt8} (hS : S.length ≤ 100000) : ∀ (n : Nat) (t : List UInt8) (ks : List Ln) (v : PV) (X : Hp) (i : Nat), GS h 41 2 zF2 v (ks.map mkR) X → At S i t → ks.length + n = 64 → (t ≠ [] ∨ ks ≠ []) →
    P13_0 (size h) (size h) (.str S) v (i64 i) X = some (rsW ks (linksO n t), h) := by
  intro n
  induction n with
  | zero =>
    intro t ks v X i g ha hn ht
    have e8 : ((ks.length : Int) == 64) = true := by rw [beq_iff_eq]; omega
    have hlen := (g.rl (gZ_full 2)).len
    have h2 : ((ks.length : Int) > 0) = True := by simp only [eq_iff_iff, iff_true]; omega
    rw [P13_0_eq]
    by_cases c1 : ((i : Int) < (S.length : Int)) <;> simp only [c1, h2, hlen, e8, g.tr, linksO, rsW, ↓evD, evU, evL, Nat.reduceAdd, Nat.reduceSub, Nat.reduceMul, Nat.reduceLeDiff, Nat.reduceLT, Nat.reduceEqDiff, Nat.reduceBEq, reduceIte, reduceCtorEq, Int.reduceBEq, Int.reduceEq, Int.reduceLT, Int.reduceLE, Int.reduceGT, Int.reduceGE, Int.reduceAdd, Int.reduceSub, Int.reduceNeg, Int.reduceBNe, ite_true, ite_false, if_true, if_false, implies_true, forall_const]
  | succ n ih =>
    intro t ks v X i g ha hn ht
    have e8 : ((ks.length : Int) == 64) = false := by rw [beq_eq_false_iff_ne]; omega
    have hlen := (g.rl (gZ_full 2)).len
    have hl := ha.len
    have form : rsW ks .form = .tup [.nils, i64 20] := rfl
    cases t with
    | nil =>
      rw [List.length_nil] at hl
      have c1 : ((i : Int) < (S.length : Int)) = False := by simp only [eq_iff_iff, iff_false]; omega
      have c2 : ((i : Int) ≥ (S.length : Int)) = True := by simp only [eq_iff_iff, iff_true]; omega
      have hks : 0 < ks.length := List.length_pos_iff.2 (by simpa using ht)
      have h2 : ((ks.length : Int) > 0) = True := by simp only [eq_iff_iff, iff_true]; omega
      have e0 : linksO (n + 1) [] = .form := rfl
      rw [P13_0_eq, e0, form]
      simp only [c1, c2, h2, hlen, e8, g.tr, ↓evD, evU, evL, Nat.reduceAdd, Nat.reduceSub, Nat.reduceMul, Nat.reduceLeDiff, Nat.reduceLT, Nat.reduceEqDiff, Nat.reduceBEq, reduceIte, reduceCtorEq, Int.reduceBEq, Int.reduceEq, Int.reduceLT, Int.reduceLE, Int.reduceGT, Int.reduceGE, Int.reduceAdd, Int.reduceSub, Int.reduceNeg, Int.reduceBNe, ite_true, ite_false, if_true, if_false, implies_true, forall_const]
    | cons y u =>
      rw [List.length_cons] at hl
      have c1 : ((i : Int) < (S.length : Int)) = True := by simp only [eq_iff_iff, iff_true]; omega
      have c2 : ((i : Int) ≥ (S.length : Int)) = False := by simp only [eq_iff_iff, iff_false]; omega
      have hix := ix_nat .i64 i S.length (by omega)
      have hx := ha.get
      have e60 := u8_beq y 60
      have z60 : (((60 : UInt8).toNat : Nat) : Int) = 60 := rfl
      rw [z60] at e60
      have w1 : IntKind.i64.wrap ((i : Int) + 1) = ((i + 1 : Nat) : Int) := by rw [wrap_small] <;> omega
      have ey : ((y :: u).take 1 == [60]) = (y == 60) := by simp
      have eu : (y :: u).drop 1 = u := rfl
      cases e : (y == 60) <;> rw [e] at e60 ey
      · have e0 : linksO (n + 1) (y :: u) = .form := by
          simp only [linksO, linkO, pathF, ey, Bool.false_eq_true, if_false]
        rw [P13_0_eq, e0, form]
        simp only [c1, c2, hlen, e8, hix, hx, e60, bne, g.tr, ↓evD, evU, evL, Nat.reduceAdd, Nat.reduceSub, Nat.reduceMul, Nat.reduceLeDiff, Nat.reduceLT, Nat.reduceEqDiff, Nat.reduceBEq, reduceIte, reduceCtorEq, Int.reduceBEq, Int.reduceEq, Int.reduceLT, Int.reduceLE, Int.reduceGT, Int.reduceGE, Int.reduceAdd, Int.reduceSub, Int.reduceNeg, Int.reduceBNe, ite_true, ite_false, if_true, if_false, implies_true, forall_const]
      have q0 : P13_0 (size h) (size h) (.str S) v (i64 i) X = P13_1 (size h) (size h) (i64 ((i + 1 : Nat) : Int)) (.str S) v (i64 i) X := by
        refine (P13_0_eq ..).trans ?_
        simp only [c1, c2, hlen, e8, hix, hx, e60, bne, w1, ↓evD, evU, evL, Nat.reduceAdd, Nat.reduceSub, Nat.reduceMul, Nat.reduceLeDiff, Nat.reduceLT, Nat.reduceEqDiff, Nat.reduceBEq, reduceIte, reduceCtorEq, Int.reduceBEq, Int.reduceEq, Int.reduceLT, Int.reduceLE, Int.reduceGT, Int.reduceGE, Int.reduceAdd, Int.reduceSub, Int.reduceNeg, Int.reduceBNe, ite_true, ite_false, if_true, if_false, implies_true, forall_const]
      rw [q0, scan3 hS u (i + 1) v (i64 i) X ha.next]
      have hb := ha.next.tw ngtB
      have hp := ha.next.part (u := u.takeWhile ngtB) (v := u.dropWhile ngtB) List.takeWhile_append_dropWhile.symm
      have hst : ∀ {y d}, u.dropWhile ngtB = y :: d → ngtB y = false := fun h => dw_stop h
      have hlu := tw_len (q := ngtB) u
      have hbl := hb.len
      have eO : pathF (y :: u) = match readO (u.takeWhile ngtB) with
          | none => none
          | some p => if (u.dropWhile ngtB).take 1 == [62] then some (p, (u.dropWhile ngtB).drop 1) else none := by
        unfold pathF; rw [ey, eu] <;> rfl
      have hrd := fun b m => readR_spec (base := b) (h := m) (u.takeWhile ngtB) (by omega)
      generalize u.takeWhile ngtB = a at *
      generalize u.dropWhile ngtB = d at *
      have b1 := bdV_nat S.length .i64 (i + 1 + a.length) hb.l
      have b2 := bdV_nat (i + 1 + a.length) .i64 (i + 1) (by omega)
      cases hr : readO a with
      | none =>
        rw [hr] at hrd eO
        have eo : outV zF none = .tup [.nils, i64 20] := rfl
        rw [eo] at hrd
        have e0 : linksO (n + 1) (y :: u) = .form := by simp only [linksO, linkO, eO]
        rw [P13_1_eq, e0, form]
        cases d with
        | nil =>
          rw [List.length_nil] at hbl
          have h3 : (((i + 1 + a.length : Nat) : Int) < (S.length : Int)) = False := by simp only [eq_iff_iff, iff_false]; omega
          generalize i + 1 + a.length = j at *
          simp only [h3, w1, b1, b2, hp, hrd, g.tr, ↓evD, evU, evL, Nat.reduceAdd, Nat.reduceSub, Nat.reduceMul, Nat.reduceLeDiff, Nat.reduceLT, Nat.reduceEqDiff, Nat.reduceBEq, reduceIte, reduceCtorEq, Int.reduceBEq, Int.reduceEq, Int.reduceLT, Int.reduceLE, Int.reduceGT, Int.reduceGE, Int.reduceAdd, Int.reduceSub, Int.reduceNeg, Int.reduceBNe, ite_true, ite_false, if_true, if_false, implies_true, forall_const]
        | cons z d =>
          rw [List.length_cons] at hbl
          have h3 : (((i + 1 + a.length : Nat) : Int) < (S.length : Int)) = True := by simp only [eq_iff_iff, iff_true]; omega
          have hix2 := ix_nat .i64 (i + 1 + a.length) S.length (by omega)
          have hx2 := hb.get
          have ez : ((z.toNat : Int) == 62) = true := by have := hst rfl; unfold ngtB at this; simpa using this
          generalize i + 1 + a.length = j at *
          simp only [h3, hix2, hx2, ez, bne, w1, b1, b2, hp, hrd, g.tr, ↓evD, evU, evL, Nat.reduceAdd, Nat.reduceSub, Nat.reduceMul, Nat.reduceLeDiff, Nat.reduceLT, Nat.reduceEqDiff, Nat.reduceBEq, reduceIte, reduceCtorEq, Int.reduceBEq, Int.reduceEq, Int.reduceLT, Int.reduceLE, Int.reduceGT, Int.reduceGE, Int.reduceAdd, Int.reduceSub, Int.reduceNeg, Int.reduceBNe, ite_true, ite_false, if_true, if_false, implies_true, forall_const]
      | some p =>
        rw [hr] at hrd eO
        have eo : outV zF (some p) = .tup [vZ p, i64 0] := rfl
        rw [eo] at hrd
        cases d with
        | nil =>
          rw [List.length_nil] at hbl
          have h3 : (((i + 1 + a.length : Nat) : Int) < (S.length : Int)) = False := by simp only [eq_iff_iff, iff_false]; omega
          have h4 : (((i + 1 + a.length : Nat) : Int) == (S.length : Int)) = true := by rw [beq_iff_eq]; omega
          have e0 : linksO (n + 1) (y :: u) = .form := by simp only [linksO, linkO, eO]; rfl
          rw [P13_1_eq, e0, form]
          generalize i + 1 + a.length = j at *
          simp only [h3, h4, w1, b1, b2, hp, hrd, g.tr, ↓evD, evU, evL, Nat.reduceAdd, Nat.reduceSub, Nat.reduceMul, Nat.reduceLeDiff, Nat.reduceLT, Nat.reduceEqDiff, Nat.reduceBEq, reduceIte, reduceCtorEq, Int.reduceBEq, Int.reduceEq, Int.reduceLT, Int.reduceLE, Int.reduceGT, Int.reduceGE, Int.reduceAdd, Int.reduceSub, Int.reduceNeg, Int.reduceBNe, ite_true, ite_false, if_true, if_false, implies_true, forall_const]
        | cons z d =>
          rw [List.length_cons] at hbl
          have h3 : (((i + 1 + a.length : Nat) : Int) < (S.length : Int)) = True := by simp only [eq_iff_iff, iff_true]; omega
          have h4 : (((i + 1 + a.length : Nat) : Int) == (S.length : Int)) = false := by rw [beq_eq_false_iff_ne]; omega
          have hix2 := ix_nat .i64 (i + 1 + a.length) S.length (by omega)
          have hx2 := hb.get
          have ez : ((z.toNat : Int) == 62) = true := by have := hst rfl; unfold ngtB at this; simpa using this
          have hz62 : z = 62 := by
            have := u8_beq z 62
            rw [show (((62 : UInt8).toNat : Nat) : Int) = 62 from rfl, ez] at this
            simpa using this.symm
          subst hz62
          have w2 : IntKind.i64.wrap (((i + 1 + a.length : Nat) : Int) + 1) = ((i + 1 + a.length + 1 : Nat) : Int) := by rw [wrap_small] <;> omega
          have eO2 : pathF (y :: u) = some (p, d) := by rw [eO]; rfl
          have hn1 : (size X < size h) = False := by have := g.le; simp; omega
          have cz := (vZ_lv p).cells
          have sz := (vZ_lv p).scalar
          have stz := (vZ_lv p).strip
          have q1 : P13_1 (size h) (size h) (i64 ((i + 1 + a.length : Nat) : Int)) (.str S) v (i64 i) X = P13_2 (size h) (size h) (.ptr (size X) 0) (i64 ((i + 1 + a.length + 1 : Nat) : Int)) (.str S) v (ext X [.cells [vZ p, .nils]]) := by
            refine (P13_1_eq ..).trans ?_
            generalize i + 1 + a.length = j at *
            simp only [h3, h4, hix2, hx2, ez, bne, w1, w2, b1, b2, hp, hrd, hn1, cz, sz, ↓evD, evU, evL, Nat.reduceAdd, Nat.reduceSub, Nat.reduceMul, Nat.reduceLeDiff, Nat.reduceLT, Nat.reduceEqDiff, Nat.reduceBEq, reduceIte, reduceCtorEq, Int.reduceBEq, Int.reduceEq, Int.reduceLT, Int.reduceLE, Int.reduceGT, Int.reduceGE, Int.reduceAdd, Int.reduceSub, Int.reduceNeg, Int.reduceBNe, ite_true, ite_false, if_true, if_false, implies_true, forall_const]
          rw [q1]
          have s0 : LR X (vZ p) [] .nils (ext X [.cells [vZ p, .nils]]) := ⟨(GS.zero X 38 3 .nils).ext _, getBox_ext_0, by rw [size_ext]; simp⟩
          have hA := attrsR_loop hS g.tr g.le 8 d [] .nils _ (i + 1 + a.length + 1) s0 rfl hb.next
          cases e2 : attrsO 8 d with
          | none =>
            rw [e2] at hA
            have e0 : linksO (n + 1) (y :: u) = .form := by simp only [linksO, linkO, eO2, e2]
            rw [e0, form]
            exact hA v
          | some w =>
            obtain ⟨bs, r⟩ := w
            rw [e2] at hA
            obtain ⟨X', v', j, s, hj, hne, hq⟩ := hA
            rw [hq, List.nil_append] at *
            have eL : linkO (y :: u) = some ((p, bs), r) := by simp only [linkO, eO2, e2]
            have g' := GS_up g s.g.tr s.g.le
            have hjl := hj.len
            have hjS := hj.l
            obtain ⟨v2, Z, e1, g2⟩ := g'.grow (gZ_full 2) (x := mkR (p, bs)) (by simpa using elR.fits [(p, bs)]) (elR.st _) (by unfold lim2; simp; omega)
            have g3 : GS h 41 2 zF2 v2 ((ks ++ [(p, bs)]).map mkR) Z := by rw [List.map_append]; exact g2
            have e1 : growT X' 41 2 v [.agg [vZ p, vA bs]] = some (v2, Z) := e1
            have sv : strip v' = vA bs := gs_strip s.g
            have scv := (vA_lv bs).scalar
            have f1 := fun n m => g3.frz (gZ_full 2) n m
            have f2 := fun n => below_gD (gZ_full 2) n _ (elR.belows n (ks ++ [(p, bs)]))
            cases r with
            | nil =>
              rw [List.length_nil] at hjl
              have h5 : ((j : Int) < (S.length : Int)) = False := by simp only [eq_iff_iff, iff_false]; omega
              have h6 : ((j : Int) == (S.length : Int)) = true := by rw [beq_iff_eq]; omega
              have e0 : linksO (n + 1) (y :: u) = .ok [(p, bs)] := by simp only [linksO, eL]; rfl
              rw [P13_2_eq, e0]
              simp only [h5, h6, s.b, stz, sv, sz, scv, e1, f1, f2, g3.tr, rsW, ↓evD, evU, evL, Nat.reduceAdd, Nat.reduceSub, Nat.reduceMul, Nat.reduceLeDiff, Nat.reduceLT, Nat.reduceEqDiff, Nat.reduceBEq, reduceIte, reduceCtorEq, Int.reduceBEq, Int.reduceEq, Int.reduceLT, Int.reduceLE, Int.reduceGT, Int.reduceGE, Int.reduceAdd, Int.reduceSub, Int.reduceNeg, Int.reduceBNe, ite_true, ite_false, if_true, if_false, implies_true, forall_const]
            | cons c r =>
              rw [List.length_cons] at hjl
              have h5 : ((j : Int) < (S.length : Int)) = True := by simp only [eq_iff_iff, iff_true]; omega
              have h6 : ((j : Int) == (S.length : Int)) = false := by rw [beq_eq_false_iff_ne]; omega
              have hix3 := ix_nat .i64 j S.length (by omega)
              have hx3 := hj.get
              have e59 := u8_beq c 59
              rw [show (((59 : UInt8).toNat : Nat) : Int) = 59 from rfl] at e59
              have hc59 : (c == 59) = false := by
                have : ((c :: r).take 1 == [59]) = (c == 59) := by simp
                rw [← this]; exact hne
              rw [hc59] at e59
              have e44 := u8_beq c 44
              rw [show (((44 : UInt8).toNat : Nat) : Int) = 44 from rfl] at e44
              have ec : ((c :: r).take 1 == [44]) = (c == 44) := by simp
              have en : ((c :: r) == []) = false := rfl
              have ed : (c :: r).drop 1 = r := rfl
              have w3 : IntKind.i64.wrap ((j : Int) + 1) = ((j + 1 : Nat) : Int) := by rw [wrap_small] <;> omega
              cases e3 : (c == 44) <;> rw [e3] at e44 ec
              · have e0 : linksO (n + 1) (y :: u) = .form := by simp only [linksO, eL, en, ec, Bool.false_eq_true, if_false]
                rw [P13_2_eq, e0, form]
                simp only [h5, h6, hix3, hx3, e59, e44, bne, s.b, stz, sv, sz, scv, e1, g3.tr, ↓evD, evU, evL, Nat.reduceAdd, Nat.reduceSub, Nat.reduceMul, Nat.reduceLeDiff, Nat.reduceLT, Nat.reduceEqDiff, Nat.reduceBEq, reduceIte, reduceCtorEq, Int.reduceBEq, Int.reduceEq, Int.reduceLT, Int.reduceLE, Int.reduceGT, Int.reduceGE, Int.reduceAdd, Int.reduceSub, Int.reduceNeg, Int.reduceBNe, ite_true, ite_false, if_true, if_false, implies_true, forall_const]
              · have hi := ih r (ks ++ [(p, bs)]) v2 Z (j + 1) g3 hj.next (by simp; omega) (.inr (by simp))
                have e5 : rsW ks (linksO (n + 1) (y :: u)) = rsW (ks ++ [(p, bs)]) (linksO n r) := by
                  simp only [linksO, eL, en, ec, ed, Bool.false_eq_true, if_false, if_true]
                  cases linksO n r <;> simp [rsW]
                rw [e5, ← hi]
                refine (P13_2_eq ..).trans ?_
                simp only [h5, h6, hix3, hx3, e59, e44, bne, s.b, stz, sv, sz, scv, e1, w3, ↓evD, evU, evL, Nat.reduceAdd, Nat.reduceSub, Nat.reduceMul, Nat.reduceLeDiff, Nat.reduceLT, Nat.reduceEqDiff, Nat.reduceBEq, reduceIte, reduceCtorEq, Int.reduceBEq, Int.reduceEq, Int.reduceLT, Int.reduceLE, Int.reduceGT, Int.reduceGE, Int.reduceAdd, Int.reduceSub, Int.reduceNeg, Int.reduceBNe, ite_true, ite_false, if_true, if_false, implies_true, forall_const]
theorem readLR_spec (base : Nat) (h : Hp) (t : List UInt8) (ht : t.length ≤ 100000) : CallA T base 13 [.str t] h = some (rsW [] (readS t), h) := by
  rw [S13]
  unfold readS
  cases e : (t == [])
  · have hne : t ≠ [] := by simpa using e
    have := readLR_loop (h := h) ht 64 t [] zF2 h 0 (GS.zero h 41 2 zF2) ⟨rfl, Nat.zero_le _⟩ rfl (.inl hne)
    simp only [Bool.false_eq_true, if_false, ↓evD, evU, evL, Nat.reduceAdd, Nat.reduceSub, Nat.reduceMul, Nat.reduceLeDiff, Nat.reduceLT, Nat.reduceEqDiff, Nat.reduceBEq, reduceIte, reduceCtorEq, Int.reduceBEq, Int.reduceEq, Int.reduceLT, Int.reduceLE, Int.reduceGT, Int.reduceGE, Int.reduceAdd, Int.reduceSub, Int.reduceNeg, Int.reduceBNe, ite_true, ite_false, if_true, if_false, implies_true, forall_const]
    exact this
  · have : t = [] := by simpa using e
    subst this
    have h1 : ((0 : Int) < 0) = False := by simp
    have h2 : ((0 : Int) > 0) = False := by simp
    simp only [if_true, rsW, List.append_nil, List.map_nil, ↓evD, evU, evL, Nat.reduceAdd, Nat.reduceSub, Nat.reduceMul, Nat.reduceLeDiff, Nat.reduceLT, Nat.reduceEqDiff, Nat.reduceBEq, reduceIte, reduceCtorEq, Int.reduceBEq, Int.reduceEq, Int.reduceLT, Int.reduceLE, Int.reduceGT, Int.reduceGE, Int.reduceAdd, Int.reduceSub, Int.reduceNeg, Int.reduceBNe, ite_true, ite_false, if_true, if_false, implies_true, forall_const]
    rw [P13_0_eq]
    simp only [↓evD, evU, evL, Nat.reduceAdd, Nat.reduceSub, Nat.reduceMul, Nat.reduceLeDiff, Nat.reduceLT, Nat.reduceEqDiff, Nat.reduceBEq, reduceIte, reduceCtorEq, Int.reduceBEq, Int.reduceEq, Int.reduceLT, Int.reduceLE, Int.reduceGT, Int.reduceGE, Int.reduceAdd, Int.reduceSub, Int.reduceNeg, Int.reduceBNe, ite_true, ite_false, if_true, if_false, implies_true, forall_const]
    rfl
end Go.Am.YtdnbedldmkagmaaGreatDoor
namespace Go.Am.YtdnbedldmkagmaaGreatDoor
set_option maxRecDepth 100000
set_option linter.unusedSimpArgs false
set_option linter.unusedVariables false
theorem sameI_loop {h : Hp} {a b : PV} {l m : List Int} (ha : Rl eI 1 a l) (hb : Rl eI 1 b m) (hl : l.length ≤ 1000000) : ∀ (r s q q' : List Int), l = q ++ r → m = q' ++ s → q.length = q'.length → r.length = s.length →
    P30_0 (size h) (size h) (i64 q.length) b a h = some (.bool (r == s), h)
  | [], [], q, q', h1, h2, h3, h4 => by
    rw [P30_0_eq]
    have e : q.length = l.length := by rw [h1]; simp
    have c1 : ((q.length : Int) < (l.length : Int)) = False := by simp; omega
    have e2 : (([] : List Int) == []) = true := rfl
    simp only [c1, ha.len, e2, ↓evD, evU, evL, Nat.reduceAdd, Nat.reduceSub, Nat.reduceMul, Nat.reduceLeDiff, Nat.reduceLT, Nat.reduceEqDiff, Nat.reduceBEq, reduceIte, reduceCtorEq, Int.reduceBEq, Int.reduceEq, Int.reduceLT, Int.reduceLE, Int.reduceGT, Int.reduceGE, Int.reduceAdd, Int.reduceSub, Int.reduceNeg, Int.reduceBNe, ite_true, ite_false, if_true, if_false, implies_true, forall_const]
  | [], _ :: _, q, q', h1, h2, h3, h4 => by cases h4
  | _ :: _, [], q, q', h1, h2, h3, h4 => by cases h4
  | x :: r, y :: s, q, q', h1, h2, h3, h4 => by
    rw [P30_0_eq]
    have el : l.length = q.length + (r.length + 1) := by rw [h1]; simp
    have c1 : ((q.length : Int) < (l.length : Int)) = True := by simp; omega
    have hx : l[q.length]? = some x := by rw [h1]; simp
    have hy : m[q.length]? = some y := by rw [h2, h3]; simp
    have hec : ∀ x, (eI x).cells = [i64 x] := fun _ => rfl
    have w1 : IntKind.i64.wrap ((q.length : Int) + 1) = (((q ++ [x]).length : Nat) : Int) := by rw [show (q ++ [x]).length = q.length + 1 by simp, wrap_small] <;> omega
    have ih := sameI_loop (h := h) ha hb hl r s (q ++ [x]) (q' ++ [y]) (by rw [h1]; simp) (by rw [h2]; simp) (by simp; omega) (by simpa using h4)
    have e2 : (x :: r == y :: s) = (x == y && r == s) := rfl
    rw [e2]
    cases e : (x == y) <;> simp only [c1, ha.len, ha.idx hx, hb.idx hy, hec, bne, e, w1, ih, Bool.false_and, Bool.true_and, ↓evD, evU, evL, Nat.reduceAdd, Nat.reduceSub, Nat.reduceMul, Nat.reduceLeDiff, Nat.reduceLT, Nat.reduceEqDiff, Nat.reduceBEq, reduceIte, reduceCtorEq, Int.reduceBEq, Int.reduceEq, Int.reduceLT, Int.reduceLE, Int.reduceGT, Int.reduceGE, Int.reduceAdd, Int.reduceSub, Int.reduceNeg, Int.reduceBNe, ite_true, ite_false, if_true, if_false, implies_true, forall_const]
theorem sameI_spec (base : Nat) (h : Hp) {a b : PV} {l m : List Int} (ha : Rl eI 1 a l) (hb : Rl eI 1 b m) (hl : l.length ≤ 1000000) : CallA T base 30 [a, b] h = some (.bool (l == m), h) := by
  rw [S30]
  by_cases e : l.length = m.length
  · have h1 : ((l.length : Int) == (m.length : Int)) = true := by rw [beq_iff_eq]; omega
    have := sameI_loop (h := h) ha hb hl l m [] [] rfl rfl rfl e
    simp only [ha.len, hb.len, bne, h1, ↓evD, evU, evL, Nat.reduceAdd, Nat.reduceSub, Nat.reduceMul, Nat.reduceLeDiff, Nat.reduceLT, Nat.reduceEqDiff, Nat.reduceBEq, reduceIte, reduceCtorEq, Int.reduceBEq, Int.reduceEq, Int.reduceLT, Int.reduceLE, Int.reduceGT, Int.reduceGE, Int.reduceAdd, Int.reduceSub, Int.reduceNeg, Int.reduceBNe, ite_true, ite_false, if_true, if_false, implies_true, forall_const]
    exact this
  · have h1 : ((l.length : Int) == (m.length : Int)) = false := by rw [beq_eq_false_iff_ne]; omega
    have e2 : (l == m) = false := by rw [beq_eq_false_iff_ne]; rintro rfl; exact e rfl
    simp only [ha.len, hb.len, bne, h1, e2, ↓evD, evU, evL, Nat.reduceAdd, Nat.reduceSub, Nat.reduceMul, Nat.reduceLeDiff, Nat.reduceLT, Nat.reduceEqDiff, Nat.reduceBEq, reduceIte, reduceCtorEq, Int.reduceBEq, Int.reduceEq, Int.reduceLT, Int.reduceLE, Int.reduceGT, Int.reduceGE, Int.reduceAdd, Int.reduceSub, Int.reduceNeg, Int.reduceBNe, ite_true, ite_false, if_true, if_false, implies_true, forall_const]
theorem sameP_loop {h : Hp} {a b : PV} {l m : List Pr} (ha : Rl eP 3 a l) (hb : Rl eP 3 b m) (hl : l.length ≤ 1000000) : ∀ (r s q q' : List Pr), l = q ++ r → m = q' ++ s → q.length = q'.length → r.length = s.length →
    P31_0 (size h) (size h) (i64 q.length) b a h = some (.bool (r == s), h)
  | [], [], q, q', h1, h2, h3, h4 => by
    rw [P31_0_eq]
    have e : q.length = l.length := by rw [h1]; simp
    have c1 : ((q.length : Int) < (l.length : Int)) = False := by simp; omega
    have e2 : (([] : List Pr) == []) = true := rfl
    simp only [c1, ha.len, e2, ↓evD, evU, evL, Nat.reduceAdd, Nat.reduceSub, Nat.reduceMul, Nat.reduceLeDiff, Nat.reduceLT, Nat.reduceEqDiff, Nat.reduceBEq, reduceIte, reduceCtorEq, Int.reduceBEq, Int.reduceEq, Int.reduceLT, Int.reduceLE, Int.reduceGT, Int.reduceGE, Int.reduceAdd, Int.reduceSub, Int.reduceNeg, Int.reduceBNe, ite_true, ite_false, if_true, if_false, implies_true, forall_const]
  | [], _ :: _, q, q', h1, h2, h3, h4 => by cases h4
  | _ :: _, [], q, q', h1, h2, h3, h4 => by cases h4
  | x :: r, y :: s, q, q', h1, h2, h3, h4 => by
    rw [P31_0_eq]
    have el : l.length = q.length + (r.length + 1) := by rw [h1]; simp
    have c1 : ((q.length : Int) < (l.length : Int)) = True := by simp; omega
    have hx : l[q.length]? = some x := by rw [h1]; simp
    have hy : m[q.length]? = some y := by rw [h2, h3]; simp
    have w1 : IntKind.i64.wrap ((q.length : Int) + 1) = (((q ++ [x]).length : Nat) : Int) := by rw [show (q ++ [x]).length = q.length + 1 by simp, wrap_small] <;> omega
    have ih := sameP_loop (h := h) ha hb hl r s (q ++ [x]) (q' ++ [y]) (by rw [h1]; simp) (by rw [h2]; simp) (by simp; omega) (by simpa using h4)
    have e2 : (x :: r == y :: s) = ((x.1 == y.1 && (x.2.1 == y.2.1 && x.2.2 == y.2.2)) && r == s) := rfl
    rw [e2]
    obtain ⟨x1, x2, x3⟩ := x
    obtain ⟨y1, y2, y3⟩ := y
    have t1 : (true == true) = true := rfl
    have t2 : (true == false) = false := rfl
    have t3 : (false == true) = false := rfl
    have t4 : (false == false) = true := rfl
    cases e3 : (x1 == y1) <;> cases e4 : (x2 == y2) <;> cases x3 <;> cases y3 <;>
      simp only [c1, ha.len, ha.idx hx, hb.idx hy, ecP, bne, e3, e4, w1, ih, Bool.false_and, Bool.true_and, Bool.and_true, Bool.and_false, t1, t2, t3, t4, ↓evD, evU, evL, Nat.reduceAdd, Nat.reduceSub, Nat.reduceMul, Nat.reduceLeDiff, Nat.reduceLT, Nat.reduceEqDiff, Nat.reduceBEq, reduceIte, reduceCtorEq, Int.reduceBEq, Int.reduceEq, Int.reduceLT, Int.reduceLE, Int.reduceGT, Int.reduceGE, Int.reduceAdd, Int.reduceSub, Int.reduceNeg, Int.reduceBNe, ite_true, ite_false, if_true, if_false, implies_true, forall_const]
theorem sameP_spec (base : Nat) (h : Hp) {a b : PV} {l m : List Pr} (ha : Rl eP 3 a l) (hb : Rl eP 3 b m) (hl : l.length ≤ 1000000) : CallA T base 31 [a, b] h = some (.bool (l == m), h) := by
  rw [S31]
  by_cases e : l.length = m.length
  · have h1 : ((l.length : Int) == (m.length : Int)) = true := by rw [beq_iff_eq]; omega
    have := sameP_loop (h := h) ha hb hl l m [] [] rfl rfl rfl e
    simp only [ha.len, hb.len, bne, h1, ↓evD, evU, evL, Nat.reduceAdd, Nat.reduceSub, Nat.reduceMul, Nat.reduceLeDiff, Nat.reduceLT, Nat.reduceEqDiff, Nat.reduceBEq, reduceIte, reduceCtorEq, Int.reduceBEq, Int.reduceEq, Int.reduceLT, Int.reduceLE, Int.reduceGT, Int.reduceGE, Int.reduceAdd, Int.reduceSub, Int.reduceNeg, Int.reduceBNe, ite_true, ite_false, if_true, if_false, implies_true, forall_const]
    exact this
  · have h1 : ((l.length : Int) == (m.length : Int)) = false := by rw [beq_eq_false_iff_ne]; omega
    have e2 : (l == m) = false := by rw [beq_eq_false_iff_ne]; rintro rfl; exact e rfl
    simp only [ha.len, hb.len, bne, h1, e2, ↓evD, evU, evL, Nat.reduceAdd, Nat.reduceSub, Nat.reduceMul, Nat.reduceLeDiff, Nat.reduceLT, Nat.reduceEqDiff, Nat.reduceBEq, reduceIte, reduceCtorEq, Int.reduceBEq, Int.reduceEq, Int.reduceLT, Int.reduceLE, Int.reduceGT, Int.reduceGE, Int.reduceAdd, Int.reduceSub, Int.reduceNeg, Int.reduceBNe, ite_true, ite_false, if_true, if_false, implies_true, forall_const]
/-- A link's content. -/
noncomputable def cL (k : Lk) : Ln := (pL k, aL k)
theorem sameL_loop {h : Hp} {a b : PV} {l m : List Lk} (ha : Rl eL 2 a l) (hb : Rl eL 2 b m) (hl : l.length ≤ 1000000) (hs : ∀ k ∈ l, (pL k).length ≤ 10000 ∧ (aL k).length ≤ 10000) : ∀ (r s q q' : List Lk), l = q ++ r → m = q' ++ s → q.length = q'.length → r.length = s.length →
    P14_0 (size h) (size h) (i64 q.length) b a h = some (.bool (r.map cL == s.map cL), h)
  | [], [], q, q', h1, h2, h3, h4 => by
    rw [P14_0_eq]
    have e : q.length = l.length := by rw [h1]; simp
    have c1 : ((q.length : Int) < (l.length : Int)) = False := by simp; omega
    have e2 : ((([] : List Lk).map cL) == (([] : List Lk).map cL)) = true := rfl
    rw [e2]
    simp only [c1, ha.len, ↓evD, evU, evL, Nat.reduceAdd, Nat.reduceSub, Nat.reduceMul, Nat.reduceLeDiff, Nat.reduceLT, Nat.reduceEqDiff, Nat.reduceBEq, reduceIte, reduceCtorEq, Int.reduceBEq, Int.reduceEq, Int.reduceLT, Int.reduceLE, Int.reduceGT, Int.reduceGE, Int.reduceAdd, Int.reduceSub, Int.reduceNeg, Int.reduceBNe, ite_true, ite_false, if_true, if_false, implies_true, forall_const]
  | [], _ :: _, q, q', h1, h2, h3, h4 => by cases h4
  | _ :: _, [], q, q', h1, h2, h3, h4 => by cases h4
  | x :: r, y :: s, q, q', h1, h2, h3, h4 => by
    rw [P14_0_eq]
    have el : l.length = q.length + (r.length + 1) := by rw [h1]; simp
    have c1 : ((q.length : Int) < (l.length : Int)) = True := by simp; omega
    have hx : l[q.length]? = some x := by rw [h1]; simp
    have hy : m[q.length]? = some y := by rw [h2, h3]; simp
    have w1 : IntKind.i64.wrap ((q.length : Int) + 1) = (((q ++ [x]).length : Nat) : Int) := by rw [show (q ++ [x]).length = q.length + 1 by simp, wrap_small] <;> omega
    have ih := sameL_loop (h := h) ha hb hl hs r s (q ++ [x]) (q' ++ [y]) (by rw [h1]; simp) (by rw [h2]; simp) (by simp; omega) (by simpa using h4)
    have sx := hs x (by rw [h1]; simp)
    have i1 := fun b m => sameI_spec b m (pV x).rl (pV y).rl (by have := sx.1; omega)
    have i2 := fun b m => sameP_spec b m (aV x).rl (aV y).rl (by have := sx.2; omega)
    have e2 : ((x :: r).map cL == (y :: s).map cL) = ((pL x == pL y && aL x == aL y) && r.map cL == s.map cL) := rfl
    rw [e2]
    cases e3 : (pL x == pL y) <;> rw [e3] at i1 <;> cases e4 : (aL x == aL y) <;> rw [e4] at i2 <;>
      simp only [c1, ha.len, ha.idx hx, hb.idx hy, ecL, i1, i2, w1, ih, Bool.false_and, Bool.true_and, Bool.and_true, Bool.and_false, ↓evD, evU, evL, Nat.reduceAdd, Nat.reduceSub, Nat.reduceMul, Nat.reduceLeDiff, Nat.reduceLT, Nat.reduceEqDiff, Nat.reduceBEq, reduceIte, reduceCtorEq, Int.reduceBEq, Int.reduceEq, Int.reduceLT, Int.reduceLE, Int.reduceGT, Int.reduceGE, Int.reduceAdd, Int.reduceSub, Int.reduceNeg, Int.reduceBNe, ite_true, ite_false, if_true, if_false, implies_true, forall_const]
theorem sameL_spec (base : Nat) (h : Hp) {a b : PV} {l m : List Lk} (ha : Rl eL 2 a l) (hb : Rl eL 2 b m) (hl : l.length ≤ 1000000) (hs : ∀ k ∈ l, (pL k).length ≤ 10000 ∧ (aL k).length ≤ 10000) : CallA T base 14 [a, b] h = some (.bool (l.map cL == m.map cL), h) := by
  rw [S14]
  by_cases e : l.length = m.length
  · have h1 : ((l.length : Int) == (m.length : Int)) = true := by rw [beq_iff_eq]; omega
    have := sameL_loop (h := h) ha hb hl hs l m [] [] rfl rfl rfl e
    simp only [ha.len, hb.len, bne, h1, ↓evD, evU, evL, Nat.reduceAdd, Nat.reduceSub, Nat.reduceMul, Nat.reduceLeDiff, Nat.reduceLT, Nat.reduceEqDiff, Nat.reduceBEq, reduceIte, reduceCtorEq, Int.reduceBEq, Int.reduceEq, Int.reduceLT, Int.reduceLE, Int.reduceGT, Int.reduceGE, Int.reduceAdd, Int.reduceSub, Int.reduceNeg, Int.reduceBNe, ite_true, ite_false, if_true, if_false, implies_true, forall_const]
    exact this
  · have h1 : ((l.length : Int) == (m.length : Int)) = false := by rw [beq_eq_false_iff_ne]; omega
    have e2 : (l.map cL == m.map cL) = false := by
      rw [beq_eq_false_iff_ne]; intro q
      have := congrArg List.length q
      rw [List.length_map, List.length_map] at this
      exact e this
    simp only [ha.len, hb.len, bne, h1, e2, ↓evD, evU, evL, Nat.reduceAdd, Nat.reduceSub, Nat.reduceMul, Nat.reduceLeDiff, Nat.reduceLT, Nat.reduceEqDiff, Nat.reduceBEq, reduceIte, reduceCtorEq, Int.reduceBEq, Int.reduceEq, Int.reduceLT, Int.reduceLE, Int.reduceGT, Int.reduceGE, Int.reduceAdd, Int.reduceSub, Int.reduceNeg, Int.reduceBNe, ite_true, ite_false, if_true, if_false, implies_true, forall_const]
end Go.Am.YtdnbedldmkagmaaGreatDoor
namespace Go.Am.YtdnbedldmkagmaaGreatDoor
set_option maxRecDepth 100000
set_option linter.unusedSimpArgs false
set_option linter.unusedVariables false
theorem lvI_inj {b : PV} {l m : List Int} (h1 : Lv eI 1 b l) (h2 : Lv eI 1 b m) : l = m := by
  have e := h1.elems []
  rw [h2.elems []] at e
  exact ((List.map_inj_right fun x y h => by cases h; rfl).1 (Option.some.inj e)).symm
theorem lvP_inj {b : PV} {l m : List Pr} (h1 : Lv eP 3 b l) (h2 : Lv eP 3 b m) : l = m := by
  have e := h1.elems []
  rw [h2.elems []] at e
  exact ((List.map_inj_right fun x y h => by
    obtain ⟨x1, x2, x3⟩ := x
    obtain ⟨y1, y2, y3⟩ := y
    cases h; rfl).1 (Option.some.inj e)).symm
theorem cL_mkL (x : Ln) : cL (mkL x) = x := Prod.ext (lvI_inj (pV (mkL x)) (vP_lv x.1)) (lvP_inj (aV (mkL x)) (vA_lv x.2))
theorem cL_mkLR (x : Ln) : cL (mkLR x) = x := Prod.ext (lvI_inj (pV (mkLR x)) (vZ_lv x.1)) (lvP_inj (aV (mkLR x)) (vA_lv x.2))
theorem map_cL (l : List Ln) : (l.map mkL).map cL = l := by
  rw [List.map_map]; exact (List.map_congr_left fun x _ => cL_mkL x).trans (List.map_id _)
theorem map_cLR (l : List Ln) : (l.map mkLR).map cL = l := by
  rw [List.map_map]; exact (List.map_congr_left fun x _ => cL_mkLR x).trans (List.map_id _)
theorem read_rl (l : List Ln) : Lv eL 2 (gD .nils 2 (l.map mkE)) (l.map mkL) := by
  have : l.map mkE = (l.map mkL).map eL := by rw [List.map_map]; rfl
  rw [this]; exact Lv.done (gZ_nils 2) _
theorem readR_rl (l : List Ln) : Lv eL 2 (gD zF2 2 (l.map mkR)) (l.map mkLR) := by
  have : l.map mkR = (l.map mkLR).map eL := by rw [List.map_map]; rfl
  rw [this]; exact Lv.done (gZ_full 2) _
theorem readO_len {s : List UInt8} {p : List Int} (h : readO s = some p) : p.length ≤ 3 := by
  unfold readO at h
  split at h
  · cases h
  · split at h
    · cases h; simp
    · unfold few at h
      split at h
      · cases h
      · have := numsO_len h
        omega
theorem attrsO_len : ∀ {n : Nat} {t : List UInt8} {x : List Pr × List UInt8}, attrsO n t = some x → x.1.length ≤ n
  | 0, t, x, h => by
    unfold attrsO at h
    split at h
    · cases h
    · cases h; simp
  | n + 1, t, x, h => by
    unfold attrsO at h
    split at h
    · split at h
      · split at h
        · rename_i y hy
          cases h
          have := attrsO_len hy
          simp only [List.length_cons]; omega
        · cases h
      · cases h
    · cases h; simp
theorem linkO_len {t : List UInt8} {x : Ln} {r : List UInt8} (h : linkO t = some (x, r)) : x.1.length ≤ 3 ∧ x.2.length ≤ 8 := by
  unfold linkO at h
  split at h
  · cases h
  · rename_i p r1 hp
    split at h
    · cases h
    · rename_i bs r2 ha
      cases h
      refine ⟨?_, attrsO_len ha⟩
      unfold pathF at hp
      split at hp
      · split at hp
        · cases hp
        · rename_i q hq
          split at hp
          · cases hp; exact readO_len hq
          · cases hp
      · cases hp
theorem linksO_len : ∀ {n : Nat} {t : List UInt8} {l : List Ln}, linksO n t = .ok l → l.length ≤ n ∧ ∀ x ∈ l, x.1.length ≤ 3 ∧ x.2.length ≤ 8
  | 0, t, l, h => by cases h
  | n + 1, t, l, h => by
    unfold linksO at h
    split at h
    · cases h
    · rename_i x r hx
      have h1 := linkO_len hx
      split at h
      · cases h
        exact ⟨by simp, fun y hy => by simp at hy; subst hy; exact h1⟩
      · split at h
        · split at h
          · rename_i m hm
            cases h
            obtain ⟨h2, h3⟩ := linksO_len hm
            refine ⟨by simp only [List.length_cons]; omega, fun y hy => ?_⟩
            rcases List.mem_cons.1 hy with rfl | hy
            · exact h1
            · exact h3 y hy
          · rename_i e hne
            exact (hne _ h).elim
        · cases h
theorem readS_len {t : List UInt8} {l : List Ln} (h : readS t = .ok l) : l.length ≤ 64 ∧ ∀ x ∈ l, x.1.length ≤ 3 ∧ x.2.length ≤ 8 := by
  unfold readS at h
  split at h
  · cases h; exact ⟨by simp, by simp⟩
  · exact linksO_len h
theorem read_sm {l : List Ln} (h : ∀ x ∈ l, x.1.length ≤ 3 ∧ x.2.length ≤ 8) : ∀ k ∈ l.map mkL, (pL k).length ≤ 10000 ∧ (aL k).length ≤ 10000 := by
  intro k hk
  obtain ⟨x, hx, rfl⟩ := List.mem_map.1 hk
  have h1 : pL (mkL x) = x.1 := congrArg Prod.fst (cL_mkL x)
  have h2 : aL (mkL x) = x.2 := congrArg Prod.snd (cL_mkL x)
  have := h x hx
  rw [h1, h2]; omega
theorem reads_at {h : Hp} (hal : CallA T (size h) 6 [] h = some (.bool true, h)) (base : Nat) (s : List UInt8) : CallA T base 4 [.str s] h = some (.bool true, h) := by
  rw [S4]
  by_cases h1 : ((s.length : Int) > 4000)
  · simp only [hal, h1, ↓evD, evU, evL, Nat.reduceAdd, Nat.reduceSub, Nat.reduceMul, Nat.reduceLeDiff, Nat.reduceLT, Nat.reduceEqDiff, Nat.reduceBEq, reduceIte, reduceCtorEq, Int.reduceBEq, Int.reduceEq, Int.reduceLT, Int.reduceLE, Int.reduceGT, Int.reduceGE, Int.reduceAdd, Int.reduceSub, Int.reduceNeg, Int.reduceBNe, ite_true, ite_false, if_true, if_false, implies_true, forall_const]
  have r1 := fun b m => readL_spec b m s (by omega)
  have r2 := fun b m => readLR_spec b m s (by omega)
  have b0 : ((0 : Int) == 0) = true := rfl
  have b3 : ((3 : Int) == 3) = true := rfl
  have b20 : ((20 : Int) == 20) = true := rfl
  cases e : readS s with
  | ok l =>
    obtain ⟨l1, l2⟩ := readS_len e
    have hs := fun b m => sameL_spec b m (read_rl l).rl (readR_rl l).rl (by rw [List.length_map]; omega) (read_sm l2)
    rw [map_cL, map_cLR, show (l == l) = true by simp] at hs
    rw [e] at r1 r2
    simp only [rsV, rsW, List.nil_append] at r1 r2
    simp only [hal, h1, r1, r2, b0, hs, ↓evD, evU, evL, Nat.reduceAdd, Nat.reduceSub, Nat.reduceMul, Nat.reduceLeDiff, Nat.reduceLT, Nat.reduceEqDiff, Nat.reduceBEq, reduceIte, reduceCtorEq, Int.reduceBEq, Int.reduceEq, Int.reduceLT, Int.reduceLE, Int.reduceGT, Int.reduceGE, Int.reduceAdd, Int.reduceSub, Int.reduceNeg, Int.reduceBNe, ite_true, ite_false, if_true, if_false, implies_true, forall_const]
  | many =>
    have hs := fun b m => sameL_spec b m (rl_nils (e := eL) (sz := 2)) (rl_nils (e := eL) (sz := 2)) (by simp) (by simp)
    rw [show ((([] : List Lk).map cL) == (([] : List Lk).map cL)) = true from rfl] at hs
    rw [e] at r1 r2
    simp only [rsV, rsW] at r1 r2
    simp only [hal, h1, r1, r2, b3, hs, ↓evD, evU, evL, Nat.reduceAdd, Nat.reduceSub, Nat.reduceMul, Nat.reduceLeDiff, Nat.reduceLT, Nat.reduceEqDiff, Nat.reduceBEq, reduceIte, reduceCtorEq, Int.reduceBEq, Int.reduceEq, Int.reduceLT, Int.reduceLE, Int.reduceGT, Int.reduceGE, Int.reduceAdd, Int.reduceSub, Int.reduceNeg, Int.reduceBNe, ite_true, ite_false, if_true, if_false, implies_true, forall_const]
  | form =>
    have hs := fun b m => sameL_spec b m (rl_nils (e := eL) (sz := 2)) (rl_nils (e := eL) (sz := 2)) (by simp) (by simp)
    rw [show ((([] : List Lk).map cL) == (([] : List Lk).map cL)) = true from rfl] at hs
    rw [e] at r1 r2
    simp only [rsV, rsW] at r1 r2
    simp only [hal, h1, r1, r2, b20, hs, ↓evD, evU, evL, Nat.reduceAdd, Nat.reduceSub, Nat.reduceMul, Nat.reduceLeDiff, Nat.reduceLT, Nat.reduceEqDiff, Nat.reduceBEq, reduceIte, reduceCtorEq, Int.reduceBEq, Int.reduceEq, Int.reduceLT, Int.reduceLE, Int.reduceGT, Int.reduceGE, Int.reduceAdd, Int.reduceSub, Int.reduceNeg, Int.reduceBNe, ite_true, ite_false, if_true, if_false, implies_true, forall_const]
theorem reads_true (s : List UInt8) : CallA T 0 4 [.str s] [] = some (.bool true, []) := reads_at alive_spec 0 s
end Go.Am.YtdnbedldmkagmaaGreatDoor
namespace Go.Am.YtdnbedldmkagmaaGreatDoor
set_option maxRecDepth 100000
set_option linter.unusedSimpArgs false
set_option linter.unusedVariables false
open Go.Lib (decDigits itoa)
theorem itoa_no47 {n : Int} (hn : numOk n = true) : 47 ∉ itoa n ∧ numN (itoa n) 65535 = some n.toNat ∧ (n.toNat : Int) = n := by
  simp [numOk] at hn
  obtain ⟨u, rfl⟩ : ∃ u : Nat, n = u := ⟨n.toNat, by omega⟩
  rw [itoa_nat]
  refine ⟨fun hm => ?_, ?_, by simp⟩
  · have := digits_mem u 47 hm
    have z : (47 : UInt8).toNat = 47 := rfl
    omega
  · rw [Int.toNat_natCast]
    exact (numN_iff (by omega)).2 ⟨by omega, rfl⟩
theorem split_segs : ∀ {p : List Int} {n : Int}, (n :: p).all numOk = true → splitL 47 (itoa n ++ segsS p) = (n :: p).map itoa
  | [], n, h => by
    simp at h
    rw [segsS, List.append_nil, splitL_none (itoa_no47 h).1]; rfl
  | m :: p, n, h => by
    rw [List.all_cons, Bool.and_eq_true] at h
    rw [segsS, List.cons_append, splitL_app _ (itoa_no47 h.1).1, split_segs h.2]; rfl
theorem nums_itoa : ∀ {p : List Int}, p.all numOk = true → numsO (p.map itoa) = some p
  | [], _ => rfl
  | n :: p, h => by
    rw [List.all_cons, Bool.and_eq_true] at h
    obtain ⟨_, h2, h3⟩ := itoa_no47 h.1
    rw [List.map_cons, numsO, h2, nums_itoa h.2]
    show some ((n.toNat : Int) :: p) = _
    rw [h3]
theorem read_text {p : List Int} (h : rightB p = true) : readO (textS p) = some p := by
  unfold textS
  rw [if_neg (by rw [h]; simp)]
  unfold rightB at h
  rw [Bool.and_eq_true, decide_eq_true_eq] at h
  cases p with
  | nil => rfl
  | cons n p =>
    rw [if_neg (by simp)]
    have e : segsS (n :: p) = 47 :: (itoa n ++ segsS p) := rfl
    rw [e]
    unfold readO few
    have hne : itoa n ++ segsS p ≠ [] := by
      intro q
      exact itoa_ne n (List.append_eq_nil_iff.1 q).1
    have ht : (47 :: (itoa n ++ segsS p)).take 1 = [47] := rfl
    have hd : (47 :: (itoa n ++ segsS p)).drop 1 = itoa n ++ segsS p := rfl
    rw [ht, hd, if_neg (fun q => q rfl), if_neg hne, split_segs h.2, nums_itoa h.2]
    have := h.1
    rw [if_neg (by simp at this ⊢; omega)]
theorem tw_app {q : UInt8 → Bool} : ∀ {a d : List UInt8}, a.all q = true → (∀ c r, d = c :: r → q c = false) → (a ++ d).takeWhile q = a ∧ (a ++ d).dropWhile q = d
  | [], d, _, h => by
    cases d with
    | nil => exact ⟨rfl, rfl⟩
    | cons c r => rw [List.nil_append, List.takeWhile_cons, List.dropWhile_cons, h c r rfl]; exact ⟨rfl, rfl⟩
  | x :: a, d, h1, h => by
    rw [List.all_cons, Bool.and_eq_true] at h1
    obtain ⟨h2, h3⟩ := tw_app h1.2 h
    rw [List.cons_append, List.takeWhile_cons, List.dropWhile_cons, h1.1]
    exact ⟨by simp [h2], by simp [h3]⟩
/-- What may stand behind an attribute. -/
def Sep (r : List UInt8) : Prop := ∀ c s, r = c :: s → c = 44 ∨ c = 59
theorem val_text {v r : List UInt8} (hv : vlB v = true) (hr : Sep r) : valF (valS v ++ r) = (v, true, r) := by
  unfold vlB at hv
  rw [Bool.and_eq_true, decide_eq_true_eq] at hv
  unfold valS
  cases hp : plB v
  · have e1 : (34 :: (v ++ [34])) ++ r = 34 :: (v ++ 34 :: r) := by simp
    simp only [Bool.false_eq_true, if_false]
    rw [e1]
    unfold valF
    have t1 : ((34 :: (v ++ 34 :: r)).take 1 == [34]) = true := by simp
    have t2 : (34 :: (v ++ 34 :: r)).drop 1 = v ++ 34 :: r := rfl
    rw [if_pos t1, t2]
    obtain ⟨h1, h2⟩ := tw_app (q := priB) (a := v) (d := 34 :: r) hv.1 (fun c s h => by cases h; rfl)
    rw [h1, h2, decide_eq_true hv.2]
    have t3 : ((34 :: r).take 1 == [34]) = true := by simp
    rw [t3]
    simp only [if_true, Bool.and_true]
    unfold tk
    rw [t3]; rfl
  · simp only [if_true]
    unfold plB at hp
    rw [Bool.and_eq_true] at hp
    unfold valF
    have t1 : ((v ++ r).take 1 == [34]) = false := by
      cases v with
      | nil => exact absurd hp.1 (by decide)
      | cons c v =>
        rw [beq_eq_false_iff_ne]
        intro h
        have : c = 34 := by simpa using h
        subst this
        have := hp.2
        rw [List.all_cons] at this
        exact absurd this (by rw [show simB 34 = false from rfl]; simp)
    rw [if_neg (by rw [t1]; simp)]
    obtain ⟨h1, h2⟩ := tw_app (q := simB) (a := v) (d := r) hp.2 (fun c s h => by
      rcases hr c s h with rfl | rfl <;> rfl)
    rw [h1, h2, hp.1, decide_eq_true hv.2]; rfl
theorem attr_text {p : Pr} {r : List UInt8} (hp : prB p = true) (hr : Sep r) : attrF ((pairT p).drop 1 ++ r) = (p, true, r) := by
  obtain ⟨nm, v, b⟩ := p
  unfold prB at hp
  rw [Bool.and_eq_true] at hp
  obtain ⟨hn, hv⟩ := hp
  have hall : nm.all lowB = true := by
    simp only [nmB, Bool.and_eq_true] at hn
    exact hn.2
  unfold pairT
  simp only at hn hv hall ⊢
  cases b
  · simp only [Bool.false_eq_true, if_false] at hv ⊢
    have e1 : (59 :: nm ++ 61 :: valS v).drop 1 ++ r = nm ++ 61 :: (valS v ++ r) := by simp
    rw [e1]
    obtain ⟨h1, h2⟩ := tw_app (q := lowB) (a := nm) (d := 61 :: (valS v ++ r)) hall (fun c s h => by cases h; rfl)
    unfold attrF
    rw [h1, h2, if_pos hn, if_pos (by simp), List.drop_succ_cons, List.drop_zero, val_text hv hr]
  · simp only [if_true] at hv ⊢
    have hve : v = [] := by simpa using hv
    subst hve
    have e1 : (59 :: nm ++ []).drop 1 ++ r = nm ++ r := by simp
    rw [e1]
    obtain ⟨h1, h2⟩ := tw_app (q := lowB) (a := nm) (d := r) hall (fun c s h => by rcases hr c s h with rfl | rfl <;> rfl)
    unfold attrF
    rw [h1, h2, if_pos hn, if_neg]
    intro h
    cases r with
    | nil => cases h
    | cons c s =>
      have : c = 61 := by simpa using h
      rcases hr c s rfl with rfl | rfl <;> cases this
theorem attrs_text : ∀ {n : Nat} {l : List Pr} {r : List UInt8}, l.length ≤ n → l.all prB = true → (∀ c s, r = c :: s → c = 44) → attrsO n (pairsT l ++ r) = some (l, r)
  | n, [], r, hn, hp, hr => by
    have h : (r.take 1 == [59]) = false := by
      cases r with
      | nil => rfl
      | cons c s => rw [hr c s rfl]; rfl
    have e : pairsT [] ++ r = r := rfl
    rw [e]
    cases n <;> simp only [attrsO, h, Bool.false_eq_true, if_false]
  | 0, p :: l, r, hn, hp, hr => by simp at hn
  | n + 1, p :: l, r, hn, hp, hr => by
    rw [List.all_cons, Bool.and_eq_true] at hp
    have ih := attrs_text (n := n) (l := l) (r := r) (by simpa using hn) hp.2 hr
    have hs : Sep (pairsT l ++ r) := by
      intro c s h
      cases l with
      | nil => exact .inl (hr c s h)
      | cons q l =>
        have : pairsT (q :: l) ++ r = 59 :: ((pairT q).drop 1 ++ pairsT l ++ r) := by rw [pairsT_cons]; unfold pairT; simp
        rw [this] at h
        cases h; exact .inr rfl
    have e1 : pairsT (p :: l) ++ r = 59 :: ((pairT p).drop 1 ++ (pairsT l ++ r)) := by rw [pairsT_cons]; unfold pairT; simp
    rw [e1, attrsO, if_pos (by simp), List.drop_succ_cons, List.drop_zero, attr_text hp.1 hs, if_pos rfl, ih]
theorem textS_mem {p : List Int} (h : rightB p = true) : ∀ c ∈ textS p, 47 ≤ c.toNat ∧ c.toNat ≤ 57 := by
  have key : ∀ {p : List Int}, p.all numOk = true → ∀ c ∈ segsS p, 47 ≤ c.toNat ∧ c.toNat ≤ 57 := by
    intro p
    induction p with
    | nil => intro _ c hc; simp [segsS] at hc
    | cons n p ih =>
      intro hp c hc
      rw [List.all_cons, Bool.and_eq_true] at hp
      have e : segsS (n :: p) = 47 :: itoa n ++ segsS p := rfl
      rw [e] at hc
      rcases List.mem_append.1 hc with hc | hc
      · rcases List.mem_cons.1 hc with rfl | hc
        · exact ⟨by decide, by decide⟩
        · have hn := hp.1
          simp [numOk] at hn
          obtain ⟨u, rfl⟩ : ∃ u : Nat, n = u := ⟨n.toNat, by omega⟩
          rw [itoa_nat] at hc
          have := digits_mem u c hc
          omega
      · exact ih hp.2 c hc
  unfold textS
  rw [if_neg (by rw [h]; simp)]
  split
  · intro c hc; simp at hc; subst hc; exact ⟨by decide, by decide⟩
  · unfold rightB at h
    rw [Bool.and_eq_true] at h
    exact key h.2
theorem link_text {k : Lk} {r : List UInt8} (hk : lkB k = true) (hr : ∀ c s, r = c :: s → c = 44) : linkO (linkT k ++ r) = some (cL k, r) := by
  unfold lkB at hk
  rw [Bool.and_eq_true, Bool.and_eq_true, decide_eq_true_eq] at hk
  obtain ⟨⟨h1, h2⟩, h3⟩ := hk
  have e1 : linkT k ++ r = 60 :: (textS (pL k) ++ 62 :: (pairsT (aL k) ++ r)) := by unfold linkT; simp
  have hall : (textS (pL k)).all ngtB = true := by
    rw [List.all_eq_true]
    intro c hc
    have := textS_mem h1 c hc
    unfold ngtB
    rw [Bool.not_eq_true', beq_eq_false_iff_ne]; omega
  obtain ⟨q1, q2⟩ := tw_app (q := ngtB) (a := textS (pL k)) (d := 62 :: (pairsT (aL k) ++ r)) hall (fun c s h => by cases h; rfl)
  have hp : pathF (60 :: (textS (pL k) ++ 62 :: (pairsT (aL k) ++ r))) = some (pL k, pairsT (aL k) ++ r) := by
    unfold pathF
    rw [if_pos (by simp), List.drop_succ_cons, List.drop_zero, q1, q2, read_text h1]
    simp
  rw [e1]
  unfold linkO
  rw [hp]
  simp only [attrs_text h2 h3 hr]
  rfl
theorem links_text : ∀ {n : Nat} {l : List Lk}, l.length ≤ n → l ≠ [] → l.all lkB = true → linksO n (linksT l) = .ok (l.map cL)
  | n, [], hn, h0, h => (h0 rfl).elim
  | 0, k :: l, hn, h0, h => by simp at hn
  | n + 1, k :: l, hn, h0, h => by
    rw [List.all_cons, Bool.and_eq_true] at h
    have e1 : linksT (k :: l) = linkT k ++ restT l := rfl
    have hl := link_text (r := restT l) h.1 (fun c s hc => by
      cases l with
      | nil => cases hc
      | cons m l =>
        have : restT (m :: l) = 44 :: (linkT m ++ restT l) := by simp [restT]
        rw [this] at hc
        cases hc; rfl)
    rw [e1, linksO, hl]
    cases l with
    | nil =>
      have : restT [] = [] := rfl
      simp only [this]
      rfl
    | cons m l =>
      have e2 : restT (m :: l) = 44 :: linksT (m :: l) := by simp [restT, linksT]
      have ih := links_text (n := n) (l := m :: l) (by simpa using hn) (by simp) h.2
      simp only [e2]
      have t1 : ((44 :: linksT (m :: l)) == []) = false := rfl
      have t2 : ((44 :: linksT (m :: l)).take 1 == [44]) = true := by simp
      rw [t1, t2, List.drop_succ_cons, List.drop_zero, ih]
      rfl
theorem read_write {l : List Lk} (h : rgB l = true) : readS (linksT l) = .ok (l.map cL) := by
  unfold rgB at h
  rw [Bool.and_eq_true, decide_eq_true_eq] at h
  unfold readS
  cases l with
  | nil => rfl
  | cons k l =>
    have : (linksT (k :: l) == []) = false := by
      rw [beq_eq_false_iff_ne]
      intro q
      have := congrArg List.length q
      simp [linksT, linkT] at this
    rw [this]
    exact links_text h.1 (by simp) h.2
end Go.Am.YtdnbedldmkagmaaGreatDoor
namespace Go.Am.YtdnbedldmkagmaaGreatDoor
set_option maxRecDepth 100000
set_option linter.unusedSimpArgs false
set_option linter.unusedVariables false
def kOf {b : PV} {p : List Int} (hb : Lv eI 1 b p) (nm vl : List UInt8) : Lk := (⟨b, p, hb⟩, ⟨.sl .full 3 [eP (nm, vl, false)], [(nm, vl, false)], Lv.full [(nm, vl, false)]⟩)
section
variable {b : PV} {p : List Int} (hb : Lv eI 1 b p) (nm vl : List UInt8)
theorem kOf_p : pL (kOf hb nm vl) = p := lvI_inj (pV (kOf hb nm vl)) hb
theorem kOf_a : aL (kOf hb nm vl) = [(nm, vl, false)] := lvP_inj (aV (kOf hb nm vl)) (Lv.full [(nm, vl, false)])
theorem kOf_e : eL (kOf hb nm vl) = .agg [b, .sl .full 3 [.agg [.str nm, .str vl, .bool false]]] := rfl
end
theorem count_no {q : UInt8 → Bool} (h0 : q 34 = false) : ∀ {l : List UInt8}, l.all q = true → l.count 34 = 0
  | [], _ => rfl
  | x :: l, h => by
    rw [List.all_cons, Bool.and_eq_true] at h
    rw [List.count_cons, count_no h0 h.2]
    have : (x == 34) = false := by
      rw [beq_eq_false_iff_ne]
      rintro rfl
      rw [h0] at h; exact absurd h.1 (by simp)
    rw [this]; rfl
theorem quotes_count {b : PV} {p : List Int} (hb : Lv eI 1 b p) (nm vl : List UInt8) (h : lkB (kOf hb nm vl) = true) : (linkT (kOf hb nm vl)).count 34 = if plB vl then 0 else 2 := by
  unfold lkB at h
  rw [kOf_p, kOf_a] at h
  rw [Bool.and_eq_true, Bool.and_eq_true] at h
  obtain ⟨⟨h1, _⟩, h3⟩ := h
  rw [List.all_cons, Bool.and_eq_true] at h3
  have hpr := h3.1
  unfold prB at hpr
  simp only [Bool.false_eq_true, if_false] at hpr
  rw [Bool.and_eq_true] at hpr
  have hn : nm.all lowB = true := by
    have := hpr.1
    simp only [nmB, Bool.and_eq_true] at this
    exact this.2
  have hv : vl.all priB = true := by
    have := hpr.2
    simp only [vlB, Bool.and_eq_true] at this
    exact this.1
  have ht : (textS p).count 34 = 0 := by
    rw [List.count_eq_zero]
    intro hm
    have := textS_mem h1 34 hm
    have z : (34 : UInt8).toNat = 34 := rfl
    omega
  have e : linkT (kOf hb nm vl) = 60 :: (textS p ++ 62 :: (59 :: nm ++ 61 :: valS vl)) := by
    unfold linkT
    rw [kOf_p, kOf_a]
    simp [pairsT, pairT]
  have c1 := count_no (q := lowB) rfl hn
  have c2 := count_no (q := priB) rfl hv
  rw [e]
  unfold valS
  cases plB vl <;> simp [List.count_append, List.count_cons, ht, c1, c2]
theorem quotes_loop {h : Hp} {s : List UInt8} (hs : s.length ≤ 100000) (v2 v7 v9 : PV) : ∀ (r q : List UInt8) (c : Nat), s = q ++ r → c ≤ q.length →
    P5_0 (size h) (size h) (i64 q.length) (i64 c) (.str s) v2 v7 v9 h = P5_0 (size h) (size h) (i64 s.length) (i64 ((c + r.count 34 : Nat) : Int)) (.str s) v2 v7 v9 h
  | [], q, c, hp, hc => by
    have e : q.length = s.length := by rw [hp]; simp
    rw [e]; rfl
  | x :: r, q, c, hp, hc => by
    have el : s.length = q.length + (r.length + 1) := by rw [hp]; simp
    have h1 : ((q.length : Int) < (s.length : Int)) = True := by simp; omega
    have hx : s[q.length]? = some x := by rw [hp]; simp
    have hix := ix_nat .i64 q.length s.length (by omega)
    have w1 : IntKind.i64.wrap ((q.length : Int) + 1) = (((q ++ [x]).length : Nat) : Int) := by rw [show (q ++ [x]).length = q.length + 1 by simp, wrap_small] <;> omega
    have e34 := u8_beq x 34
    rw [show (((34 : UInt8).toNat : Nat) : Int) = 34 from rfl] at e34
    cases e : (x == 34) <;> rw [e] at e34
    · have ih := quotes_loop (h := h) hs v2 v7 v9 r (q ++ [x]) c (by rw [hp]; simp) (by simp; omega)
      have e2 : (x :: r).count 34 = r.count 34 := by rw [List.count_cons, e]; rfl
      rw [e2, ← ih]
      refine (P5_0_eq ..).trans ?_
      simp only [h1, hix, hx, e34, w1, ↓evD, evU, evL, Nat.reduceAdd, Nat.reduceSub, Nat.reduceMul, Nat.reduceLeDiff, Nat.reduceLT, Nat.reduceEqDiff, Nat.reduceBEq, reduceIte, reduceCtorEq, Int.reduceBEq, Int.reduceEq, Int.reduceLT, Int.reduceLE, Int.reduceGT, Int.reduceGE, Int.reduceAdd, Int.reduceSub, Int.reduceNeg, Int.reduceBNe, ite_true, ite_false, if_true, if_false, implies_true, forall_const]
    · have w2 : IntKind.i64.wrap ((c : Int) + 1) = ((c + 1 : Nat) : Int) := by rw [wrap_small] <;> omega
      have ih := quotes_loop (h := h) hs v2 v7 v9 r (q ++ [x]) (c + 1) (by rw [hp]; simp) (by simp; omega)
      have e2 : c + (x :: r).count 34 = c + 1 + r.count 34 := by rw [List.count_cons, e]; simp; omega
      rw [e2, ← ih]
      refine (P5_0_eq ..).trans ?_
      simp only [h1, hix, hx, e34, w1, w2, ↓evD, evU, evL, Nat.reduceAdd, Nat.reduceSub, Nat.reduceMul, Nat.reduceLeDiff, Nat.reduceLT, Nat.reduceEqDiff, Nat.reduceBEq, reduceIte, reduceCtorEq, Int.reduceBEq, Int.reduceEq, Int.reduceLT, Int.reduceLE, Int.reduceGT, Int.reduceGE, Int.reduceAdd, Int.reduceSub, Int.reduceNeg, Int.reduceBNe, ite_true, ite_false, if_true, if_false, implies_true, forall_const]
theorem plain_at {h : Hp} (hal : CallA T (size h) 6 [] h = some (.bool true, h)) (base : Nat) {b : PV} {p : List Int} (hb : Lv eI 1 b p) (nm vl : List UInt8) : CallA T base 5 [b, .str nm, .str vl] h = some (.bool true, h) := by
  rw [S5]
  by_cases h1 : ((vl.length : Int) > 100)
  · simp only [hal, h1, ↓evD, evU, evL, Nat.reduceAdd, Nat.reduceSub, Nat.reduceMul, Nat.reduceLeDiff, Nat.reduceLT, Nat.reduceEqDiff, Nat.reduceBEq, reduceIte, reduceCtorEq, Int.reduceBEq, Int.reduceEq, Int.reduceLT, Int.reduceLE, Int.reduceGT, Int.reduceGE, Int.reduceAdd, Int.reduceSub, Int.reduceNeg, Int.reduceBNe, ite_true, ite_false, if_true, if_false, implies_true, forall_const]
  by_cases h2 : ((nm.length : Int) > 100)
  · simp only [hal, h1, h2, ↓evD, evU, evL, Nat.reduceAdd, Nat.reduceSub, Nat.reduceMul, Nat.reduceLeDiff, Nat.reduceLT, Nat.reduceEqDiff, Nat.reduceBEq, reduceIte, reduceCtorEq, Int.reduceBEq, Int.reduceEq, Int.reduceLT, Int.reduceLE, Int.reduceGT, Int.reduceGE, Int.reduceAdd, Int.reduceSub, Int.reduceNeg, Int.reduceBNe, ite_true, ite_false, if_true, if_false, implies_true, forall_const]
  by_cases h3 : ((p.length : Int) > 10)
  · simp only [hal, h1, h2, hb.len, h3, ↓evD, evU, evL, Nat.reduceAdd, Nat.reduceSub, Nat.reduceMul, Nat.reduceLeDiff, Nat.reduceLT, Nat.reduceEqDiff, Nat.reduceBEq, reduceIte, reduceCtorEq, Int.reduceBEq, Int.reduceEq, Int.reduceLT, Int.reduceLE, Int.reduceGT, Int.reduceGE, Int.reduceAdd, Int.reduceSub, Int.reduceNeg, Int.reduceBNe, ite_true, ite_false, if_true, if_false, implies_true, forall_const]
  have hk : SmK (kOf hb nm vl) := by
    refine ⟨by rw [kOf_p]; omega, by rw [kOf_a]; simp, ?_⟩
    rw [kOf_a]
    intro q hq
    simp at hq
    subst hq
    exact ⟨by show nm.length ≤ 10000; omega, by show vl.length ≤ 10000; omega⟩
  have hrl : Rl eL 2 (.sl .full 2 [eL (kOf hb nm vl)]) [kOf hb nm vl] := rl_sl .full [kOf hb nm vl]
  have hsm : ∀ q ∈ [kOf hb nm vl], SmK q := by intro q hq; simp at hq; subst hq; exact hk
  have hlen : (linkT (kOf hb nm vl)).length ≤ 500 := by
    rw [linkT_len, kOf_p, kOf_a]
    have h4 := textS_len p
    have h5 := pairT_len (nm, vl, false)
    have h6 : pairsT [(nm, vl, false)] = pairT (nm, vl, false) := by simp [pairsT]
    rw [h6]
    simp only at h5
    omega
  have hlt : linksT [kOf hb nm vl] = linkT (kOf hb nm vl) := by simp [linksT, restT]
  have w1 := fun c m => write_spec c m hrl (by simp) hsm (fun _ => by rw [hlt]; omega) (fun _ q hq => by simp at hq; subst hq; omega)
  have w2 := fun c m => rightLR_spec c m hrl hsm
  rw [hlt] at w1
  have sc := hb.scalar
  have ce := hb.cells
  have st := hb.strip
  have hq := quotes_count hb nm vl
  have hrw := read_write (l := [kOf hb nm vl])
  rw [hlt] at hrw
  have hrg : rgB [kOf hb nm vl] = lkB (kOf hb nm vl) := by unfold rgB; simp
  rw [← hrg] at hq
  rw [kOf_e] at w1 w2
  cases e : rgB [kOf hb nm vl] <;> rw [e] at w1 w2
  · have b1 : ((1 : Int) == 1) = true := rfl
    have b2 : (([] : List UInt8) == []) = true := rfl
    simp only [Bool.false_eq_true, if_false] at w1
    simp only [hal, h1, h2, hb.len, h3, sc, ce, st, w1, w2, b1, b2, ↓evD, evU, evL, Nat.reduceAdd, Nat.reduceSub, Nat.reduceMul, Nat.reduceLeDiff, Nat.reduceLT, Nat.reduceEqDiff, Nat.reduceBEq, reduceIte, reduceCtorEq, Int.reduceBEq, Int.reduceEq, Int.reduceLT, Int.reduceLE, Int.reduceGT, Int.reduceGE, Int.reduceAdd, Int.reduceSub, Int.reduceNeg, Int.reduceBNe, ite_true, ite_false, if_true, if_false, implies_true, forall_const]
  · have hrw := hrw e
    have hq := hq e
    simp only [if_true] at w1
    have r1 := fun c m => readL_spec c m (linkT (kOf hb nm vl)) (by omega)
    rw [hrw] at r1
    have s1 := fun c m => sameL_spec c m (read_rl [cL (kOf hb nm vl)]).rl hrl (by simp) (by
      intro q hq
      have := read_sm (l := [cL (kOf hb nm vl)]) (by
        intro x hx
        simp at hx
        subst hx
        have := readS_len hrw
        exact this.2 _ (by simp))
      exact this q hq)
    rw [map_cL, show ([cL (kOf hb nm vl)] == [kOf hb nm vl].map cL) = true by simp, kOf_e] at s1
    have r1 : ∀ c m, CallA T c 12 [.str (linkT (kOf hb nm vl))] m = some (.tup [gD .nils 2 ([cL (kOf hb nm vl)].map mkE), i64 0], m) := r1
    have p1 := fun c m => plain_spec (base := c) (h := m) vl (by omega)
    generalize linkT (kOf hb nm vl) = s at *
    have hl := quotes_loop (h := h) (s := s) (by omega) (.str vl) (.sl .full 2 [.agg [b, .sl .full 3 [.agg [.str nm, .str vl, .bool false]]]]) (i64 0) s [] 0 rfl (Nat.le_refl _)
    rw [hq] at hl
    generalize gD .nils 2 ([cL (kOf hb nm vl)].map mkE) = R at *
    have start : P5_0 (size h) (size h) (i64 0) (i64 0) (.str s) (.str vl) (.sl .full 2 [.agg [b, .sl .full 3 [.agg [.str nm, .str vl, .bool false]]]]) (i64 0) h = some (.bool true, h) := by
      refine hl.trans ?_
      have c1 : ((s.length : Int) < (s.length : Int)) = False := by simp
      have b0 : ((0 : Int) == 0) = true := rfl
      have b20 : ((2 : Int) == 0) = false := rfl
      have b22 : ((2 : Int) == 2) = true := rfl
      have t1 : (true == true) = true := rfl
      have t4 : (false == false) = true := rfl
      rw [P5_0_eq]
      cases e5 : plB vl <;> rw [e5] at p1
      · have e6 : ((0 + (if false = true then 0 else 2) : Nat) : Int) = 2 := rfl
        rw [e6]
        simp only [c1, r1, s1, p1, b0, b20, b22, t1, t4, ↓evD, evU, evL, Nat.reduceAdd, Nat.reduceSub, Nat.reduceMul, Nat.reduceLeDiff, Nat.reduceLT, Nat.reduceEqDiff, Nat.reduceBEq, reduceIte, reduceCtorEq, Int.reduceBEq, Int.reduceEq, Int.reduceLT, Int.reduceLE, Int.reduceGT, Int.reduceGE, Int.reduceAdd, Int.reduceSub, Int.reduceNeg, Int.reduceBNe, ite_true, ite_false, if_true, if_false, implies_true, forall_const]
      · have e6 : ((0 + (if true = true then 0 else 2) : Nat) : Int) = 0 := rfl
        rw [e6]
        simp only [c1, r1, s1, p1, b0, b20, b22, t1, t4, ↓evD, evU, evL, Nat.reduceAdd, Nat.reduceSub, Nat.reduceMul, Nat.reduceLeDiff, Nat.reduceLT, Nat.reduceEqDiff, Nat.reduceBEq, reduceIte, reduceCtorEq, Int.reduceBEq, Int.reduceEq, Int.reduceLT, Int.reduceLE, Int.reduceGT, Int.reduceGE, Int.reduceAdd, Int.reduceSub, Int.reduceNeg, Int.reduceBNe, ite_true, ite_false, if_true, if_false, implies_true, forall_const]
    simp only [hal, h1, h2, hb.len, h3, sc, ce, st, w1, w2, ↓evD, evU, evL, Nat.reduceAdd, Nat.reduceSub, Nat.reduceMul, Nat.reduceLeDiff, Nat.reduceLT, Nat.reduceEqDiff, Nat.reduceBEq, reduceIte, reduceCtorEq, Int.reduceBEq, Int.reduceEq, Int.reduceLT, Int.reduceLE, Int.reduceGT, Int.reduceGE, Int.reduceAdd, Int.reduceSub, Int.reduceNeg, Int.reduceBNe, ite_true, ite_false, if_true, if_false, implies_true, forall_const]
    exact start
theorem plain_true {b : PV} {p : List Int} (hb : Lv eI 1 b p) (nm vl : List UInt8) : CallA T 0 5 [b, .str nm, .str vl] [] = some (.bool true, []) := plain_at alive_spec 0 hb nm vl
end Go.Am.YtdnbedldmkagmaaGreatDoor
