/- Paths read, and PathTexts, on the abstract machine.
   By the session's AI agent. -/
import Derived.Test.YtikgjdmdcpomlaaDoorPa4
namespace Go.Am.YtikgjdmdcpomlaaDoor
set_option maxRecDepth 100000
set_option linter.unusedSimpArgs false
set_option linter.unusedVariables false
theorem nums_spec {base : Nat} {h : Hp} {b : PV} {l : List (List UInt8)} (hb : Rl eS 1 b l) (hs : ∀ s ∈ l, s.length ≤ 1000000) : CallA T base 30 [b] h = some (numsV .nils l, h) := by
  rw [S30]
  unfold numsV
  by_cases h3 : 3 < l.length
  · have h1 : ((l.length : Int) > 3) = True := by simp; omega
    simp only [hb.len, h1, h3, ↓evD, evU, Nat.reduceAdd, Nat.reduceSub, Nat.reduceMul, Nat.reduceLeDiff, Nat.reduceLT, Nat.reduceEqDiff, Nat.reduceBEq, reduceIte, reduceCtorEq, Int.reduceBEq, Int.reduceEq, Int.reduceLT, Int.reduceLE, Int.reduceGT, Int.reduceGE, Int.reduceAdd, Int.reduceSub, Int.reduceNeg, Int.reduceBNe, List.all_cons, List.all_nil, List.getElem?_cons_zero, List.getElem?_cons_succ, List.getElem?_nil, Option.map_some, List.length_cons, List.length_nil, List.set_cons_zero, List.set_cons_succ, List.map_cons, List.map_nil, List.drop_zero, List.drop_succ_cons, List.drop_nil, List.take_zero, List.take_succ_cons, List.take_nil, ite_true, ite_false, if_true, if_false, implies_true, forall_const, beq_self_eq_true, List.replicate_succ, List.replicate_zero, List.headD_cons, List.cons_append, List.nil_append, bne_self_eq_false]
  · have h1 : ((l.length : Int) > 3) = False := by simp; omega
    have := nums_loop (h := h) hb (by omega) hs l [] [] rfl (by simp)
    rw [List.map_nil, gV_nil, gH_nil] at this
    simp only [hb.len, h1, h3, ↓evD, evU, Nat.reduceAdd, Nat.reduceSub, Nat.reduceMul, Nat.reduceLeDiff, Nat.reduceLT, Nat.reduceEqDiff, Nat.reduceBEq, reduceIte, reduceCtorEq, Int.reduceBEq, Int.reduceEq, Int.reduceLT, Int.reduceLE, Int.reduceGT, Int.reduceGE, Int.reduceAdd, Int.reduceSub, Int.reduceNeg, Int.reduceBNe, List.all_cons, List.all_nil, List.getElem?_cons_zero, List.getElem?_cons_succ, List.getElem?_nil, Option.map_some, List.length_cons, List.length_nil, List.set_cons_zero, List.set_cons_succ, List.map_cons, List.map_nil, List.drop_zero, List.drop_succ_cons, List.drop_nil, List.take_zero, List.take_succ_cons, List.take_nil, ite_true, ite_false, if_true, if_false, implies_true, forall_const, beq_self_eq_true, List.replicate_succ, List.replicate_zero, List.headD_cons, List.cons_append, List.nil_append, bne_self_eq_false]
    refine Eq.trans this ?_
    cases numsO l <;> rfl
abbrev zF : PV := .sl .full 1 []
theorem numsR_loop {h : Hp} {b : PV} {l : List (List UInt8)} (hb : Rl eS 1 b l) (hl : l.length ≤ 3) (hs : ∀ s ∈ l, s.length ≤ 1000000) : ∀ (r q : List (List UInt8)) (out : List Int), l = q ++ r → out.length ≤ q.length →
    P32_0 (size h) (size h) (i64 q.length) (gV h zF 1 (out.map eI)) b (gH h 3 (out.map eI)) =
      some (match numsO r with | none => .tup [.nils, i64 20] | some p => .tup [gD zF 1 ((out ++ p).map eI), i64 0], h)
  | [], q, out, hp, hout => by
    rw [P32_0_eq]
    have e : q.length = l.length := by rw [hp]; simp
    have h1 : ((q.length : Int) < (l.length : Int)) = False := by simp; omega
    have gz := gZ_full 1
    simp only [hb.len, h1, numsO, frz_gV gz, below_gD gz _ _ (elI.belows _ _), trunc_gH, List.append_nil, ↓evD, evU, Nat.reduceAdd, Nat.reduceSub, Nat.reduceMul, Nat.reduceLeDiff, Nat.reduceLT, Nat.reduceEqDiff, Nat.reduceBEq, reduceIte, reduceCtorEq, Int.reduceBEq, Int.reduceEq, Int.reduceLT, Int.reduceLE, Int.reduceGT, Int.reduceGE, Int.reduceAdd, Int.reduceSub, Int.reduceNeg, Int.reduceBNe, List.all_cons, List.all_nil, List.getElem?_cons_zero, List.getElem?_cons_succ, List.getElem?_nil, Option.map_some, List.length_cons, List.length_nil, List.set_cons_zero, List.set_cons_succ, List.map_cons, List.map_nil, List.drop_zero, List.drop_succ_cons, List.drop_nil, List.take_zero, List.take_succ_cons, List.take_nil, ite_true, ite_false, if_true, if_false, implies_true, forall_const, beq_self_eq_true, List.replicate_succ, List.replicate_zero, List.headD_cons, List.cons_append, List.nil_append, bne_self_eq_false]
  | s :: r, q, out, hp, hout => by
    rw [P32_0_eq]
    have el : l.length = q.length + (r.length + 1) := by rw [hp]; simp
    have h1 : ((q.length : Int) < (l.length : Int)) = True := by simp; omega
    have hx : l[q.length]? = some s := by rw [hp]; simp
    have hec : (eS s).cells = [.str s] := rfl
    have w1 : IntKind.i64.wrap ((q.length : Int) + 1) = (((q ++ [s]).length : Nat) : Int) := by rw [show (q ++ [s]).length = q.length + 1 by simp, wrap_small] <;> omega
    have hv : ∀ base h, _ := fun base h => numberR_spec (base := base) (h := h) s 65535
    have z5 : (((65535 : Nat)) : Int) = 65535 := rfl
    rw [z5] at hv
    unfold numV at hv
    cases hn : numN s 65535 with
    | none =>
      have hN := hv
      rw [hn] at hN
      simp only at hN
      simp only [hb.len, h1, hb.idx hx, hec, hN, numsO, hn, trunc_gH, Option.isSome_none, ↓evD, evU, Nat.reduceAdd, Nat.reduceSub, Nat.reduceMul, Nat.reduceLeDiff, Nat.reduceLT, Nat.reduceEqDiff, Nat.reduceBEq, reduceIte, reduceCtorEq, Int.reduceBEq, Int.reduceEq, Int.reduceLT, Int.reduceLE, Int.reduceGT, Int.reduceGE, Int.reduceAdd, Int.reduceSub, Int.reduceNeg, Int.reduceBNe, List.all_cons, List.all_nil, List.getElem?_cons_zero, List.getElem?_cons_succ, List.getElem?_nil, Option.map_some, List.length_cons, List.length_nil, List.set_cons_zero, List.set_cons_succ, List.map_cons, List.map_nil, List.drop_zero, List.drop_succ_cons, List.drop_nil, List.take_zero, List.take_succ_cons, List.take_nil, ite_true, ite_false, if_true, if_false, implies_true, forall_const, beq_self_eq_true, List.replicate_succ, List.replicate_zero, List.headD_cons, List.cons_append, List.nil_append, bne_self_eq_false]
    | some u =>
      have hN := hv
      rw [hn] at hN
      simp only at hN
      have gz := gZ_full 1
      have gg := gOneL (h := h) (T := 3) elI gz out (u : Int) (by unfold lim2; omega)
      have e1 : (eI (u : Int)) = i64 u := rfl
      rw [e1] at gg
      have ih := numsR_loop (h := h) hb hl hs r (q ++ [s]) (out ++ [(u : Int)]) (by rw [hp]; simp) (by simp; omega)
      simp only [hb.len, h1, hb.idx hx, hec, hN, numsO, hn, gg, w1, ih, Option.isSome_some, ↓evD, evU, Nat.reduceAdd, Nat.reduceSub, Nat.reduceMul, Nat.reduceLeDiff, Nat.reduceLT, Nat.reduceEqDiff, Nat.reduceBEq, reduceIte, reduceCtorEq, Int.reduceBEq, Int.reduceEq, Int.reduceLT, Int.reduceLE, Int.reduceGT, Int.reduceGE, Int.reduceAdd, Int.reduceSub, Int.reduceNeg, Int.reduceBNe, List.all_cons, List.all_nil, List.getElem?_cons_zero, List.getElem?_cons_succ, List.getElem?_nil, Option.map_some, List.length_cons, List.length_nil, List.set_cons_zero, List.set_cons_succ, List.map_cons, List.map_nil, List.drop_zero, List.drop_succ_cons, List.drop_nil, List.take_zero, List.take_succ_cons, List.take_nil, ite_true, ite_false, if_true, if_false, implies_true, forall_const, beq_self_eq_true, List.replicate_succ, List.replicate_zero, List.headD_cons, List.cons_append, List.nil_append, bne_self_eq_false]
      cases numsO r with
      | none => rfl
      | some p => simp
theorem numsR_spec {base : Nat} {h : Hp} {b : PV} {l : List (List UInt8)} (hb : Rl eS 1 b l) (hs : ∀ s ∈ l, s.length ≤ 1000000) : CallA T base 32 [b] h = some (numsV zF l, h) := by
  rw [S32]
  unfold numsV
  by_cases h3 : 3 < l.length
  · have h1 : ((l.length : Int) > 3) = True := by simp; omega
    simp only [hb.len, h1, h3, ↓evD, evU, Nat.reduceAdd, Nat.reduceSub, Nat.reduceMul, Nat.reduceLeDiff, Nat.reduceLT, Nat.reduceEqDiff, Nat.reduceBEq, reduceIte, reduceCtorEq, Int.reduceBEq, Int.reduceEq, Int.reduceLT, Int.reduceLE, Int.reduceGT, Int.reduceGE, Int.reduceAdd, Int.reduceSub, Int.reduceNeg, Int.reduceBNe, List.all_cons, List.all_nil, List.getElem?_cons_zero, List.getElem?_cons_succ, List.getElem?_nil, Option.map_some, List.length_cons, List.length_nil, List.set_cons_zero, List.set_cons_succ, List.map_cons, List.map_nil, List.drop_zero, List.drop_succ_cons, List.drop_nil, List.take_zero, List.take_succ_cons, List.take_nil, ite_true, ite_false, if_true, if_false, implies_true, forall_const, beq_self_eq_true, List.replicate_succ, List.replicate_zero, List.headD_cons, List.cons_append, List.nil_append, bne_self_eq_false]
  · have h1 : ((l.length : Int) > 3) = False := by simp; omega
    have := numsR_loop (h := h) hb (by omega) hs l [] [] rfl (by simp)
    rw [List.map_nil, gV_nil, gH_nil] at this
    simp only [hb.len, h1, h3, ↓evD, evU, Nat.reduceAdd, Nat.reduceSub, Nat.reduceMul, Nat.reduceLeDiff, Nat.reduceLT, Nat.reduceEqDiff, Nat.reduceBEq, reduceIte, reduceCtorEq, Int.reduceBEq, Int.reduceEq, Int.reduceLT, Int.reduceLE, Int.reduceGT, Int.reduceGE, Int.reduceAdd, Int.reduceSub, Int.reduceNeg, Int.reduceBNe, List.all_cons, List.all_nil, List.getElem?_cons_zero, List.getElem?_cons_succ, List.getElem?_nil, Option.map_some, List.length_cons, List.length_nil, List.set_cons_zero, List.set_cons_succ, List.map_cons, List.map_nil, List.drop_zero, List.drop_succ_cons, List.drop_nil, List.take_zero, List.take_succ_cons, List.take_nil, ite_true, ite_false, if_true, if_false, implies_true, forall_const, beq_self_eq_true, List.replicate_succ, List.replicate_zero, List.headD_cons, List.cons_append, List.nil_append, bne_self_eq_false]
    refine Eq.trans this ?_
    cases numsO l <;> rfl
def outV (z : PV) : Option (List Int) → PV
  | none => .tup [.nils, i64 20]
  | some p => .tup [gD z 1 (p.map eI), i64 0]
def few (l : List (List UInt8)) : Option (List Int) := if 3 < l.length then none else numsO l
def readO (s : List UInt8) : Option (List Int) := if s.take 1 ≠ [47] then none else if s.drop 1 = [] then some [] else few (splitL 47 (s.drop 1))
theorem split_small {c : UInt8} {n : Nat} : ∀ (s : List UInt8), s.length ≤ n → ∀ x ∈ splitL c s, x.length ≤ n
  | [], _, x, hx => by simp [splitL] at hx; subst hx; simp
  | y :: r, hs, x, hx => by
    simp at hs
    have ih := split_small (c := c) (n := n) r (by omega)
    rw [splitL] at hx
    split at hx
    · rcases List.mem_cons.1 hx with rfl | hx
      · simp
      · exact ih x hx
    · have hlen : ∀ z ∈ splitL c r, z.length ≤ r.length := fun z hz => split_small (n := r.length) r (Nat.le_refl _) z hz
      split at hx
      · rename_i z zs hq
        rw [hq] at hlen ih
        rcases List.mem_cons.1 hx with rfl | hx
        · have := hlen z (by simp)
          simp; omega
        · exact ih x (by simp [hx])
      · simp at hx; subst hx; simp; omega
theorem read_spec {base : Nat} {h : Hp} (s : List UInt8) (hs : s.length ≤ 100000) : CallA T base 8 [.str s] h = some (outV .nils (readO s), h) := by
  rw [S8]
  have hC : ∀ base h, _ := fun base h => cutPrefix_spec (base := base) (h := h) s [47] (by omega) (by simp)
  have e1 : ([47] : List UInt8).length = 1 := rfl
  rw [e1] at hC
  unfold readO
  cases hq : (s.take 1 == [47])
  · rw [hq] at hC
    have hne : s.take 1 ≠ [47] := by simpa using hq
    rw [if_pos hne]
    simp only [hC, outV, ↓evD, evU, Nat.reduceAdd, Nat.reduceSub, Nat.reduceMul, Nat.reduceLeDiff, Nat.reduceLT, Nat.reduceEqDiff, Nat.reduceBEq, reduceIte, reduceCtorEq, Int.reduceBEq, Int.reduceEq, Int.reduceLT, Int.reduceLE, Int.reduceGT, Int.reduceGE, Int.reduceAdd, Int.reduceSub, Int.reduceNeg, Int.reduceBNe, List.all_cons, List.all_nil, List.getElem?_cons_zero, List.getElem?_cons_succ, List.getElem?_nil, Option.map_some, List.length_cons, List.length_nil, List.set_cons_zero, List.set_cons_succ, List.map_cons, List.map_nil, List.drop_zero, List.drop_succ_cons, List.drop_nil, List.take_zero, List.take_succ_cons, List.take_nil, ite_true, ite_false, if_true, if_false, implies_true, forall_const, beq_self_eq_true, List.replicate_succ, List.replicate_zero, List.headD_cons, List.cons_append, List.nil_append, bne_self_eq_false]
  · rw [hq] at hC
    have he : s.take 1 = [47] := by simpa using hq
    have hne : ¬ (s.take 1 ≠ [47]) := fun h => h he
    rw [if_neg hne]
    have hdl : (s.drop 1).length ≤ s.length := by simp
    generalize s.drop 1 = d at *
    by_cases hd : d = []
    · have hd' : (d == []) = true := by simp [hd]
      rw [if_pos hd]
      simp only [hC, hd', outV, ↓evD, evU, Nat.reduceAdd, Nat.reduceSub, Nat.reduceMul, Nat.reduceLeDiff, Nat.reduceLT, Nat.reduceEqDiff, Nat.reduceBEq, reduceIte, reduceCtorEq, Int.reduceBEq, Int.reduceEq, Int.reduceLT, Int.reduceLE, Int.reduceGT, Int.reduceGE, Int.reduceAdd, Int.reduceSub, Int.reduceNeg, Int.reduceBNe, List.all_cons, List.all_nil, List.getElem?_cons_zero, List.getElem?_cons_succ, List.getElem?_nil, Option.map_some, List.length_cons, List.length_nil, List.set_cons_zero, List.set_cons_succ, List.map_cons, List.map_nil, List.drop_zero, List.drop_succ_cons, List.drop_nil, List.take_zero, List.take_succ_cons, List.take_nil, ite_true, ite_false, if_true, if_false, implies_true, forall_const, beq_self_eq_true, List.replicate_succ, List.replicate_zero, List.headD_cons, List.cons_append, List.nil_append, bne_self_eq_false]
      rfl
    · have hd' : (d == []) = false := by simp [hd]
      rw [if_neg hd]
      have hS : ∀ base h, _ := fun base h => split_spec (base := base) (h := h) d 47 (by omega)
      have hN : ∀ base h, _ := fun base h => nums_spec (base := base) (h := h) (rl_sl (e := eS) (sz := 1) .full (splitL 47 d)) (split_small (n := 1000000) d (by omega))
      unfold numsV at hN
      unfold few
      generalize splitL 47 d = X at *
      by_cases h3 : 3 < X.length
      · simp only [h3, if_true] at hN
        simp only [hC, hd', hS, hN, h3, outV, ↓evD, evU, Nat.reduceAdd, Nat.reduceSub, Nat.reduceMul, Nat.reduceLeDiff, Nat.reduceLT, Nat.reduceEqDiff, Nat.reduceBEq, reduceIte, reduceCtorEq, Int.reduceBEq, Int.reduceEq, Int.reduceLT, Int.reduceLE, Int.reduceGT, Int.reduceGE, Int.reduceAdd, Int.reduceSub, Int.reduceNeg, Int.reduceBNe, List.all_cons, List.all_nil, List.getElem?_cons_zero, List.getElem?_cons_succ, List.getElem?_nil, Option.map_some, List.length_cons, List.length_nil, List.set_cons_zero, List.set_cons_succ, List.map_cons, List.map_nil, List.drop_zero, List.drop_succ_cons, List.drop_nil, List.take_zero, List.take_succ_cons, List.take_nil, ite_true, ite_false, if_true, if_false, implies_true, forall_const, beq_self_eq_true, List.replicate_succ, List.replicate_zero, List.headD_cons, List.cons_append, List.nil_append, bne_self_eq_false]
      · simp only [h3, if_false] at hN
        cases hO : numsO X with
        | none =>
          rw [hO] at hN
          simp only at hN
          simp only [hC, hd', hS, hN, h3, hO, outV, ↓evD, evU, Nat.reduceAdd, Nat.reduceSub, Nat.reduceMul, Nat.reduceLeDiff, Nat.reduceLT, Nat.reduceEqDiff, Nat.reduceBEq, reduceIte, reduceCtorEq, Int.reduceBEq, Int.reduceEq, Int.reduceLT, Int.reduceLE, Int.reduceGT, Int.reduceGE, Int.reduceAdd, Int.reduceSub, Int.reduceNeg, Int.reduceBNe, List.all_cons, List.all_nil, List.getElem?_cons_zero, List.getElem?_cons_succ, List.getElem?_nil, Option.map_some, List.length_cons, List.length_nil, List.set_cons_zero, List.set_cons_succ, List.map_cons, List.map_nil, List.drop_zero, List.drop_succ_cons, List.drop_nil, List.take_zero, List.take_succ_cons, List.take_nil, ite_true, ite_false, if_true, if_false, implies_true, forall_const, beq_self_eq_true, List.replicate_succ, List.replicate_zero, List.headD_cons, List.cons_append, List.nil_append, bne_self_eq_false]
        | some p =>
          rw [hO] at hN
          simp only at hN
          have gz := gZ_nils 1
          have hL := Lv.done (e := eI) gz p
          simp only [hC, hd', hS, hN, h3, hO, outV, hL.frz, hL.below elI, ↓evD, evU, Nat.reduceAdd, Nat.reduceSub, Nat.reduceMul, Nat.reduceLeDiff, Nat.reduceLT, Nat.reduceEqDiff, Nat.reduceBEq, reduceIte, reduceCtorEq, Int.reduceBEq, Int.reduceEq, Int.reduceLT, Int.reduceLE, Int.reduceGT, Int.reduceGE, Int.reduceAdd, Int.reduceSub, Int.reduceNeg, Int.reduceBNe, List.all_cons, List.all_nil, List.getElem?_cons_zero, List.getElem?_cons_succ, List.getElem?_nil, Option.map_some, List.length_cons, List.length_nil, List.set_cons_zero, List.set_cons_succ, List.map_cons, List.map_nil, List.drop_zero, List.drop_succ_cons, List.drop_nil, List.take_zero, List.take_succ_cons, List.take_nil, ite_true, ite_false, if_true, if_false, implies_true, forall_const, beq_self_eq_true, List.replicate_succ, List.replicate_zero, List.headD_cons, List.cons_append, List.nil_append, bne_self_eq_false]
theorem readR_end {h : Hp} (s : List UInt8) (done : List (List UInt8)) (hd : ∀ x ∈ done, x.length ≤ 1000000) (hs : s.length ≤ 100000) (v : PV) :
    P9_0 (size h) (size h) (i64 ((s.length + 1 : Nat) : Int)) v (.str s) (gV h zF 1 (done.map eS)) (gH h 9 (done.map eS)) = some (outV zF (few done), h) := by
  rw [P9_0_eq]
  have h1 : (((s.length + 1 : Nat) : Int) ≤ (s.length : Int)) = False := by simp; omega
  have hN : ∀ base h', _ := fun base h' => numsR_spec (base := base) (h := h') (gV_rl (e := eS) (gZ_full 1) h done) hd
  unfold numsV at hN
  unfold few
  by_cases h3 : 3 < done.length
  · simp only [h3, if_true] at hN
    simp only [h1, hN, h3, outV, trunc_gH, ↓evD, evU, Nat.reduceAdd, Nat.reduceSub, Nat.reduceMul, Nat.reduceLeDiff, Nat.reduceLT, Nat.reduceEqDiff, Nat.reduceBEq, reduceIte, reduceCtorEq, Int.reduceBEq, Int.reduceEq, Int.reduceLT, Int.reduceLE, Int.reduceGT, Int.reduceGE, Int.reduceAdd, Int.reduceSub, Int.reduceNeg, Int.reduceBNe, List.all_cons, List.all_nil, List.getElem?_cons_zero, List.getElem?_cons_succ, List.getElem?_nil, Option.map_some, List.length_cons, List.length_nil, List.set_cons_zero, List.set_cons_succ, List.map_cons, List.map_nil, List.drop_zero, List.drop_succ_cons, List.drop_nil, List.take_zero, List.take_succ_cons, List.take_nil, ite_true, ite_false, if_true, if_false, implies_true, forall_const, beq_self_eq_true, List.replicate_succ, List.replicate_zero, List.headD_cons, List.cons_append, List.nil_append, bne_self_eq_false]
  · simp only [h3, if_false] at hN
    cases hO : numsO done with
    | none =>
      rw [hO] at hN
      simp only at hN
      simp only [h1, hN, h3, hO, outV, trunc_gH, ↓evD, evU, Nat.reduceAdd, Nat.reduceSub, Nat.reduceMul, Nat.reduceLeDiff, Nat.reduceLT, Nat.reduceEqDiff, Nat.reduceBEq, reduceIte, reduceCtorEq, Int.reduceBEq, Int.reduceEq, Int.reduceLT, Int.reduceLE, Int.reduceGT, Int.reduceGE, Int.reduceAdd, Int.reduceSub, Int.reduceNeg, Int.reduceBNe, List.all_cons, List.all_nil, List.getElem?_cons_zero, List.getElem?_cons_succ, List.getElem?_nil, Option.map_some, List.length_cons, List.length_nil, List.set_cons_zero, List.set_cons_succ, List.map_cons, List.map_nil, List.drop_zero, List.drop_succ_cons, List.drop_nil, List.take_zero, List.take_succ_cons, List.take_nil, ite_true, ite_false, if_true, if_false, implies_true, forall_const, beq_self_eq_true, List.replicate_succ, List.replicate_zero, List.headD_cons, List.cons_append, List.nil_append, bne_self_eq_false]
    | some p =>
      rw [hO] at hN
      simp only at hN
      have gz := gZ_full 1
      have hL := Lv.done (e := eI) gz p
      simp only [h1, hN, h3, hO, outV, hL.frz, hL.below elI, trunc_gH, ↓evD, evU, Nat.reduceAdd, Nat.reduceSub, Nat.reduceMul, Nat.reduceLeDiff, Nat.reduceLT, Nat.reduceEqDiff, Nat.reduceBEq, reduceIte, reduceCtorEq, Int.reduceBEq, Int.reduceEq, Int.reduceLT, Int.reduceLE, Int.reduceGT, Int.reduceGE, Int.reduceAdd, Int.reduceSub, Int.reduceNeg, Int.reduceBNe, List.all_cons, List.all_nil, List.getElem?_cons_zero, List.getElem?_cons_succ, List.getElem?_nil, Option.map_some, List.length_cons, List.length_nil, List.set_cons_zero, List.set_cons_succ, List.map_cons, List.map_nil, List.drop_zero, List.drop_succ_cons, List.drop_nil, List.take_zero, List.take_succ_cons, List.take_nil, ite_true, ite_false, if_true, if_false, implies_true, forall_const, beq_self_eq_true, List.replicate_succ, List.replicate_zero, List.headD_cons, List.cons_append, List.nil_append, bne_self_eq_false]
theorem readR_loop {h : Hp} (s : List UInt8) (hs : s.length ≤ 100000) : ∀ (r pre cur : List UInt8) (done : List (List UInt8)), s = pre ++ cur ++ r → 47 ∉ cur → (∀ x ∈ done, x.length ≤ 1000000) → done.length ≤ pre.length + cur.length →
    P9_0 (size h) (size h) (i64 ((pre ++ cur).length : Nat)) (i64 pre.length) (.str s) (gV h zF 1 (done.map eS)) (gH h 9 (done.map eS)) = some (outV zF (few (done ++ splitL 47 (cur ++ r))), h)
  | [], pre, cur, done, hp, hc, hd, hdl => by
    rw [P9_0_eq]
    have el : (pre ++ cur).length = s.length := by rw [hp]; simp
    have elp : (pre ++ cur).length = pre.length + cur.length := by simp
    rw [el]
    have h1 : ((s.length : Int) ≤ (s.length : Int)) = True := by simp
    have h2 : ((s.length : Int) == (s.length : Int)) = true := by simp
    have hb1 := bdV_nat s.length .i64 s.length (Nat.le_refl _)
    have hb2 := bdV_nat s.length .i64 pre.length (by omega)
    have ht : (s.drop pre.length).take (s.length - pre.length) = cur := by
      rw [List.take_of_length_le (by simp), hp]; simp
    have w1 : IntKind.i64.wrap ((s.length : Int) + 1) = ((s.length + 1 : Nat) : Int) := by rw [wrap_small] <;> omega
    have gg := gOneL (h := h) (T := 9) elS (gZ_full 1) done cur (by unfold lim2; omega)
    have e1 : eS cur = .str cur := rfl
    rw [e1] at gg
    have ih := readR_end (h := h) s (done ++ [cur]) (by
      intro x hx
      rcases List.mem_append.1 hx with hx | hx
      · exact hd x hx
      · simp at hx; subst hx; omega) hs (i64 ((s.length + 1 : Nat) : Int))
    have e3 : splitL 47 (cur ++ []) = [cur] := by rw [List.append_nil]; exact splitL_none hc
    rw [e3]
    simp only [h1, h2, hb1, hb2, ht, w1, gg, ih, ↓evD, evU, Nat.reduceAdd, Nat.reduceSub, Nat.reduceMul, Nat.reduceLeDiff, Nat.reduceLT, Nat.reduceEqDiff, Nat.reduceBEq, reduceIte, reduceCtorEq, Int.reduceBEq, Int.reduceEq, Int.reduceLT, Int.reduceLE, Int.reduceGT, Int.reduceGE, Int.reduceAdd, Int.reduceSub, Int.reduceNeg, Int.reduceBNe, List.all_cons, List.all_nil, List.getElem?_cons_zero, List.getElem?_cons_succ, List.getElem?_nil, Option.map_some, List.length_cons, List.length_nil, List.set_cons_zero, List.set_cons_succ, List.map_cons, List.map_nil, List.drop_zero, List.drop_succ_cons, List.drop_nil, List.take_zero, List.take_succ_cons, List.take_nil, ite_true, ite_false, if_true, if_false, implies_true, forall_const, beq_self_eq_true, List.replicate_succ, List.replicate_zero, List.headD_cons, List.cons_append, List.nil_append, bne_self_eq_false]
  | x :: r, pre, cur, done, hp, hc, hd, hdl => by
    rw [P9_0_eq]
    have elp : (pre ++ cur).length = pre.length + cur.length := by simp
    have el : s.length = (pre ++ cur).length + (r.length + 1) := by rw [hp]; simp; omega
    have hx : s[(pre ++ cur).length]? = some x := by rw [hp]; simp
    have hh1 : (pre ++ cur).length < s.length := by omega
    have ht : (s.drop pre.length).take ((pre ++ cur).length - pre.length) = cur := by
      rw [elp, hp, Nat.add_sub_cancel_left]; simp
    have e48 := u8_beq x 47
    have z48 : (((47 : UInt8).toNat : Nat) : Int) = 47 := rfl
    rw [z48] at e48
    have hb1 := bdV_nat s.length .i64 (pre ++ cur).length (by omega)
    have hb2 := bdV_nat (pre ++ cur).length .i64 pre.length (by omega)
    have hix := ix_nat .i64 (pre ++ cur).length s.length hh1
    have h1 : (((pre ++ cur).length : Int) ≤ (s.length : Int)) = True := by simp only [eq_iff_iff, iff_true]; omega
    have h2 : (((pre ++ cur).length : Int) == (s.length : Int)) = false := by rw [beq_eq_false_iff_ne]; omega
    cases hq : (x == 47)
    · rw [hq] at e48
      have hne : ¬ x = 47 := by simpa using hq
      have w1 : IntKind.i64.wrap (((pre ++ cur).length : Int) + 1) = (((pre ++ (cur ++ [x])).length : Nat) : Int) := by rw [show (pre ++ (cur ++ [x])).length = (pre ++ cur).length + 1 by simp; omega, wrap_small] <;> omega
      have ih := readR_loop (h := h) s hs r pre (cur ++ [x]) done (by rw [hp]; simp) (by simp [hc]; exact fun h => hne h.symm) hd (by simp; omega)
      have e3 : cur ++ [x] ++ r = cur ++ x :: r := by simp
      rw [e3] at ih
      generalize (pre ++ (cur ++ [x])).length = N at *
      generalize (pre ++ cur).length = M at *
      simp only [h1, h2, hix, hx, e48, w1, ih, ↓evD, evU, Nat.reduceAdd, Nat.reduceSub, Nat.reduceMul, Nat.reduceLeDiff, Nat.reduceLT, Nat.reduceEqDiff, Nat.reduceBEq, reduceIte, reduceCtorEq, Int.reduceBEq, Int.reduceEq, Int.reduceLT, Int.reduceLE, Int.reduceGT, Int.reduceGE, Int.reduceAdd, Int.reduceSub, Int.reduceNeg, Int.reduceBNe, List.all_cons, List.all_nil, List.getElem?_cons_zero, List.getElem?_cons_succ, List.getElem?_nil, Option.map_some, List.length_cons, List.length_nil, List.set_cons_zero, List.set_cons_succ, List.map_cons, List.map_nil, List.drop_zero, List.drop_succ_cons, List.drop_nil, List.take_zero, List.take_succ_cons, List.take_nil, ite_true, ite_false, if_true, if_false, implies_true, forall_const, beq_self_eq_true, List.replicate_succ, List.replicate_zero, List.headD_cons, List.cons_append, List.nil_append, bne_self_eq_false]
    · rw [hq] at e48
      have hxe : x = 47 := by simpa using hq
      subst hxe
      have w1 : IntKind.i64.wrap (((pre ++ cur).length : Int) + 1) = (((pre ++ cur ++ [47]).length : Nat) : Int) := by rw [show (pre ++ cur ++ [(47 : UInt8)]).length = (pre ++ cur).length + 1 by simp; omega, wrap_small] <;> omega
      have gg := gOneL (h := h) (T := 9) elS (gZ_full 1) done cur (by unfold lim2; omega)
      have e1 : eS cur = .str cur := rfl
      rw [e1] at gg
      have ih := readR_loop (h := h) s hs r (pre ++ cur ++ [47]) [] (done ++ [cur]) (by rw [hp]; simp) (by simp) (by
        intro x hx
        rcases List.mem_append.1 hx with hx | hx
        · exact hd x hx
        · simp at hx; subst hx; omega) (by simp; omega)
      have e4 : done ++ [cur] ++ splitL 47 ([] ++ r) = done ++ splitL 47 (cur ++ 47 :: r) := by rw [splitL_app r hc]; simp
      rw [List.append_nil, e4] at ih
      generalize (pre ++ cur ++ [(47 : UInt8)]).length = N at *
      generalize (pre ++ cur).length = M at *
      simp only [h1, h2, hix, hx, e48, hb1, hb2, ht, gg, w1, ih, ↓evD, evU, Nat.reduceAdd, Nat.reduceSub, Nat.reduceMul, Nat.reduceLeDiff, Nat.reduceLT, Nat.reduceEqDiff, Nat.reduceBEq, reduceIte, reduceCtorEq, Int.reduceBEq, Int.reduceEq, Int.reduceLT, Int.reduceLE, Int.reduceGT, Int.reduceGE, Int.reduceAdd, Int.reduceSub, Int.reduceNeg, Int.reduceBNe, List.all_cons, List.all_nil, List.getElem?_cons_zero, List.getElem?_cons_succ, List.getElem?_nil, Option.map_some, List.length_cons, List.length_nil, List.set_cons_zero, List.set_cons_succ, List.map_cons, List.map_nil, List.drop_zero, List.drop_succ_cons, List.drop_nil, List.take_zero, List.take_succ_cons, List.take_nil, ite_true, ite_false, if_true, if_false, implies_true, forall_const, beq_self_eq_true, List.replicate_succ, List.replicate_zero, List.headD_cons, List.cons_append, List.nil_append, bne_self_eq_false]
theorem readR_spec {base : Nat} {h : Hp} (s : List UInt8) (hs : s.length ≤ 100000) : CallA T base 9 [.str s] h = some (outV zF (readO s), h) := by
  rw [S9]
  unfold readO
  cases s with
  | nil =>
    have z1 : (([] : List UInt8) == [47]) = false := rfl
    have z2 : (([] : List UInt8) == []) = true := rfl
    have z3 : ([] : List UInt8).take 1 ≠ [47] := by simp
    rw [if_pos z3]
    simp only [z1, z2, outV, ↓evD, evU, Nat.reduceAdd, Nat.reduceSub, Nat.reduceMul, Nat.reduceLeDiff, Nat.reduceLT, Nat.reduceEqDiff, Nat.reduceBEq, reduceIte, reduceCtorEq, Int.reduceBEq, Int.reduceEq, Int.reduceLT, Int.reduceLE, Int.reduceGT, Int.reduceGE, Int.reduceAdd, Int.reduceSub, Int.reduceNeg, Int.reduceBNe, List.all_cons, List.all_nil, List.getElem?_cons_zero, List.getElem?_cons_succ, List.getElem?_nil, Option.map_some, List.length_cons, List.length_nil, List.set_cons_zero, List.set_cons_succ, List.map_cons, List.map_nil, List.drop_zero, List.drop_succ_cons, List.drop_nil, List.take_zero, List.take_succ_cons, List.take_nil, ite_true, ite_false, if_true, if_false, implies_true, forall_const, beq_self_eq_true, List.replicate_succ, List.replicate_zero, List.headD_cons, List.cons_append, List.nil_append, bne_self_eq_false]
  | cons c r =>
    have ht : (c :: r).take 1 = [c] := rfl
    have hd : (c :: r).drop 1 = r := rfl
    rw [ht, hd]
    have e48 := u8_bne c 47
    have z48 : (((47 : UInt8).toNat : Nat) : Int) = 47 := rfl
    rw [z48] at e48
    have hix : ix (.int .i64 0) (r.length + 1) = some 0 := by simp [ix]
    have z2 : (c :: r == []) = false := rfl
    by_cases hc : c = 47
    · subst hc
      have hne : ¬ (([47] : List UInt8) ≠ [47]) := fun h => h rfl
      rw [if_neg hne]
      have e49 : ((47 : UInt8) != 47) = false := rfl
      rw [e49] at e48
      cases r with
      | nil =>
        have z1 : ([47] == ([47] : List UInt8)) = true := rfl
        simp only [z1, outV, ↓evD, evU, Nat.reduceAdd, Nat.reduceSub, Nat.reduceMul, Nat.reduceLeDiff, Nat.reduceLT, Nat.reduceEqDiff, Nat.reduceBEq, reduceIte, reduceCtorEq, Int.reduceBEq, Int.reduceEq, Int.reduceLT, Int.reduceLE, Int.reduceGT, Int.reduceGE, Int.reduceAdd, Int.reduceSub, Int.reduceNeg, Int.reduceBNe, List.all_cons, List.all_nil, List.getElem?_cons_zero, List.getElem?_cons_succ, List.getElem?_nil, Option.map_some, List.length_cons, List.length_nil, List.set_cons_zero, List.set_cons_succ, List.map_cons, List.map_nil, List.drop_zero, List.drop_succ_cons, List.drop_nil, List.take_zero, List.take_succ_cons, List.take_nil, ite_true, ite_false, if_true, if_false, implies_true, forall_const, beq_self_eq_true, List.replicate_succ, List.replicate_zero, List.headD_cons, List.cons_append, List.nil_append, bne_self_eq_false]
        rfl
      | cons d r =>
        have z1 : (47 :: d :: r == ([47] : List UInt8)) = false := by simp
        have hl := readR_loop (h := h) (47 :: d :: r) hs (d :: r) [47] [] [] rfl (by simp) (by simp) (by simp)
        have hg : ¬ (d :: r = []) := by simp
        rw [if_neg hg]
        generalize hD : d :: r = D at *
        simp only [z1, z2, e48, hix, List.length_cons, List.getElem?_cons_zero, ↓evD, evU, Nat.reduceAdd, Nat.reduceSub, Nat.reduceMul, Nat.reduceLeDiff, Nat.reduceLT, Nat.reduceEqDiff, Nat.reduceBEq, reduceIte, reduceCtorEq, Int.reduceBEq, Int.reduceEq, Int.reduceLT, Int.reduceLE, Int.reduceGT, Int.reduceGE, Int.reduceAdd, Int.reduceSub, Int.reduceNeg, Int.reduceBNe, List.all_cons, List.all_nil, List.getElem?_cons_zero, List.getElem?_cons_succ, List.getElem?_nil, Option.map_some, List.length_cons, List.length_nil, List.set_cons_zero, List.set_cons_succ, List.map_cons, List.map_nil, List.drop_zero, List.drop_succ_cons, List.drop_nil, List.take_zero, List.take_succ_cons, List.take_nil, ite_true, ite_false, if_true, if_false, implies_true, forall_const, beq_self_eq_true, List.replicate_succ, List.replicate_zero, List.headD_cons, List.cons_append, List.nil_append, bne_self_eq_false]
        exact hl
    · have hne : ([c] : List UInt8) ≠ [47] := by simpa using hc
      have z1 : (c :: r == ([47] : List UInt8)) = false := by simp [hc]
      have e49 : (c != 47) = true := by simpa using hc
      rw [e49] at e48
      rw [if_pos hne]
      simp only [z1, z2, e48, hix, List.length_cons, List.getElem?_cons_zero, outV, ↓evD, evU, Nat.reduceAdd, Nat.reduceSub, Nat.reduceMul, Nat.reduceLeDiff, Nat.reduceLT, Nat.reduceEqDiff, Nat.reduceBEq, reduceIte, reduceCtorEq, Int.reduceBEq, Int.reduceEq, Int.reduceLT, Int.reduceLE, Int.reduceGT, Int.reduceGE, Int.reduceAdd, Int.reduceSub, Int.reduceNeg, Int.reduceBNe, List.all_cons, List.all_nil, List.getElem?_cons_zero, List.getElem?_cons_succ, List.getElem?_nil, Option.map_some, List.length_cons, List.length_nil, List.set_cons_zero, List.set_cons_succ, List.map_cons, List.map_nil, List.drop_zero, List.drop_succ_cons, List.drop_nil, List.take_zero, List.take_succ_cons, List.take_nil, ite_true, ite_false, if_true, if_false, implies_true, forall_const, beq_self_eq_true, List.replicate_succ, List.replicate_zero, List.headD_cons, List.cons_append, List.nil_append, bne_self_eq_false]
theorem beqs (n : Int) : (n == n) = true := by simp
theorem beqS (s : List UInt8) : (s == s) = true := by simp
theorem beqB (b : Bool) : (b == b) = true := by simp
theorem texts_at {h : Hp} (ha : CallA T (size h) 7 [] h = some (.bool true, h)) {b : PV} {p : List Int} (hb : Lv eI 1 b p) (s : List UInt8) : CallA T 0 3 [b, .str s] h = some (.bool true, h) := by
  rw [S3]
  by_cases h1 : (p.length : Int) > 100
  · simp only [ha, hb.len, h1, ↓evD, evU, Nat.reduceAdd, Nat.reduceSub, Nat.reduceMul, Nat.reduceLeDiff, Nat.reduceLT, Nat.reduceEqDiff, Nat.reduceBEq, reduceIte, reduceCtorEq, Int.reduceBEq, Int.reduceEq, Int.reduceLT, Int.reduceLE, Int.reduceGT, Int.reduceGE, Int.reduceAdd, Int.reduceSub, Int.reduceNeg, Int.reduceBNe, List.all_cons, List.all_nil, List.getElem?_cons_zero, List.getElem?_cons_succ, List.getElem?_nil, Option.map_some, List.length_cons, List.length_nil, List.set_cons_zero, List.set_cons_succ, List.map_cons, List.map_nil, List.drop_zero, List.drop_succ_cons, List.drop_nil, List.take_zero, List.take_succ_cons, List.take_nil, ite_true, ite_false, if_true, if_false, implies_true, forall_const, beq_self_eq_true, List.replicate_succ, List.replicate_zero, List.headD_cons, List.cons_append, List.nil_append, bne_self_eq_false]
  by_cases h2 : (s.length : Int) > 1000
  · simp only [ha, hb.len, h1, h2, ↓evD, evU, Nat.reduceAdd, Nat.reduceSub, Nat.reduceMul, Nat.reduceLeDiff, Nat.reduceLT, Nat.reduceEqDiff, Nat.reduceBEq, reduceIte, reduceCtorEq, Int.reduceBEq, Int.reduceEq, Int.reduceLT, Int.reduceLE, Int.reduceGT, Int.reduceGE, Int.reduceAdd, Int.reduceSub, Int.reduceNeg, Int.reduceBNe, List.all_cons, List.all_nil, List.getElem?_cons_zero, List.getElem?_cons_succ, List.getElem?_nil, Option.map_some, List.length_cons, List.length_nil, List.set_cons_zero, List.set_cons_succ, List.map_cons, List.map_nil, List.drop_zero, List.drop_succ_cons, List.drop_nil, List.take_zero, List.take_succ_cons, List.take_nil, ite_true, ite_false, if_true, if_false, implies_true, forall_const, beq_self_eq_true, List.replicate_succ, List.replicate_zero, List.headD_cons, List.cons_append, List.nil_append, bne_self_eq_false]
  have hR : ∀ base h, _ := fun base h => right_spec (base := base) (h := h) hb.rl (by omega)
  have hR2 : ∀ base h, _ := fun base h => rightR_spec (base := base) (h := h) hb.rl (by omega)
  have hT : ∀ base h, _ := fun base h => text_spec (base := base) (h := h) hb.rl (by omega)
  have hT2 : ∀ base h, _ := fun base h => textR_spec (base := base) (h := h) hb.rl (by omega)
  have hD : ∀ base h, _ := fun base h => read_spec (base := base) (h := h) s (by omega)
  have hD2 : ∀ base h, _ := fun base h => readR_spec (base := base) (h := h) s (by omega)
  cases hq : readO s with
  | none =>
    rw [hq] at hD hD2
    have hI : ∀ base h, _ := fun base h => ints_spec (base := base) (h := h) (a := .nils) (b := .nils) (l := []) (m := []) rl_nils rl_nils (by simp)
    have e0 : (([] : List Int) == []) = true := rfl
    simp only [ha, hb.len, h1, h2, hR, hR2, hT, hT2, hD, hD2, hI, outV, beqs, beqS, beqB, e0, ↓evD, evU, Nat.reduceAdd, Nat.reduceSub, Nat.reduceMul, Nat.reduceLeDiff, Nat.reduceLT, Nat.reduceEqDiff, Nat.reduceBEq, reduceIte, reduceCtorEq, Int.reduceBEq, Int.reduceEq, Int.reduceLT, Int.reduceLE, Int.reduceGT, Int.reduceGE, Int.reduceAdd, Int.reduceSub, Int.reduceNeg, Int.reduceBNe, List.all_cons, List.all_nil, List.getElem?_cons_zero, List.getElem?_cons_succ, List.getElem?_nil, Option.map_some, List.length_cons, List.length_nil, List.set_cons_zero, List.set_cons_succ, List.map_cons, List.map_nil, List.drop_zero, List.drop_succ_cons, List.drop_nil, List.take_zero, List.take_succ_cons, List.take_nil, ite_true, ite_false, if_true, if_false, implies_true, forall_const, beq_self_eq_true, List.replicate_succ, List.replicate_zero, List.headD_cons, List.cons_append, List.nil_append, bne_self_eq_false]
  | some q =>
    rw [hq] at hD hD2
    have l1 := Lv.done (e := eI) (gZ_nils 1) q
    have l2 := Lv.done (e := eI) (gZ_full 1) q
    have hql : q.length ≤ 1000000 := by
      unfold readO few at hq
      split at hq
      · cases hq
      · split at hq
        · cases hq; simp
        · split at hq
          · cases hq
          · rw [numsO_len hq]; omega
    have hI : ∀ base h, _ := fun base h => ints_spec (base := base) (h := h) l1.rl l2.rl hql
    have e0 : (q == q) = true := by simp
    simp only [ha, hb.len, h1, h2, hR, hR2, hT, hT2, hD, hD2, hI, outV, beqs, beqS, beqB, e0, ↓evD, evU, Nat.reduceAdd, Nat.reduceSub, Nat.reduceMul, Nat.reduceLeDiff, Nat.reduceLT, Nat.reduceEqDiff, Nat.reduceBEq, reduceIte, reduceCtorEq, Int.reduceBEq, Int.reduceEq, Int.reduceLT, Int.reduceLE, Int.reduceGT, Int.reduceGE, Int.reduceAdd, Int.reduceSub, Int.reduceNeg, Int.reduceBNe, List.all_cons, List.all_nil, List.getElem?_cons_zero, List.getElem?_cons_succ, List.getElem?_nil, Option.map_some, List.length_cons, List.length_nil, List.set_cons_zero, List.set_cons_succ, List.map_cons, List.map_nil, List.drop_zero, List.drop_succ_cons, List.drop_nil, List.take_zero, List.take_succ_cons, List.take_nil, ite_true, ite_false, if_true, if_false, implies_true, forall_const, beq_self_eq_true, List.replicate_succ, List.replicate_zero, List.headD_cons, List.cons_append, List.nil_append, bne_self_eq_false]
theorem texts_true {b : PV} {p : List Int} (hb : Lv eI 1 b p) (s : List UInt8) : CallA T 0 3 [b, .str s] [] = some (.bool true, []) := texts_at alive_spec hb s
end Go.Am.YtikgjdmdcpomlaaDoor
