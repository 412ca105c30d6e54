/- Paths read, and PathTexts, on the abstract machine. | A slice that grows, in a heap where boxes come between. | Options and pairs, on the abstract machine. | Texts and pairs of options, on the abstract machine. | Pairs of options, signed numbers, on the abstract machine. | Conditions, on the abstract machine. | A condition takes a pair, on the abstract machine. | Conditions of options, on the abstract machine. | Pairs and texts as options; numbers as texts; on the abstract machine. | PathBack, on the abstract machine. | PathBack: the law, on the abstract machine.
   By the session's AI agent. -/
import Derived.Test.YtikgjdmdcpomlaaDoorPd4
import Derived.Lib.IndexBytes
namespace Go.Am.YtikgjdmdcpomlaaDoor
set_option maxRecDepth 100000
set_option linter.unusedSimpArgs false
set_option linter.unusedVariables false
theorem nums_spec {base : Nat} {h : Hp} {b : PV} {l : List (List UInt8)} (hb : Rl eS 1 b l) (hs : ∀ s ∈ l, s.length ≤ 1000000) : CallA T base 30 [b] h = some (numsV .nils l, h) := by
  rw [S30]
  unfold numsV
  by_cases h3 : 3 < l.length
  · have h1 : ((l.length : Int) > 3) = True := by simp; omega
    simp only [hb.len, h1, h3, ↓evD, evU, Nat.reduceAdd, Nat.reduceSub, Nat.reduceMul, Nat.reduceLeDiff, Nat.reduceLT, Nat.reduceEqDiff, Nat.reduceBEq, reduceIte, reduceCtorEq, Int.reduceBEq, Int.reduceEq, Int.reduceLT, Int.reduceLE, Int.reduceGT, Int.reduceGE, Int.reduceAdd, Int.reduceSub, Int.reduceNeg, Int.reduceBNe, List.all_cons, List.all_nil, List.getElem?_cons_zero, List.getElem?_cons_succ, List.getElem?_nil, Option.map_some, List.length_cons, List.length_nil, List.set_cons_zero, List.set_cons_succ, List.map_cons, List.map_nil, List.drop_zero, List.drop_succ_cons, List.drop_nil, List.take_zero, List.take_succ_cons, List.take_nil, ite_true, ite_false, if_true, if_false, implies_true, forall_const, beq_self_eq_true, List.replicate_succ, List.replicate_zero, List.headD_cons, List.cons_append, List.nil_append, bne_self_eq_false]
  · have h1 : ((l.length : Int) > 3) = False := by simp; omega
    have := nums_loop (h := h) hb (by omega) hs l [] [] rfl (by simp)
    rw [List.map_nil, gV_nil, gH_nil] at this
    simp only [hb.len, h1, h3, ↓evD, evU, Nat.reduceAdd, Nat.reduceSub, Nat.reduceMul, Nat.reduceLeDiff, Nat.reduceLT, Nat.reduceEqDiff, Nat.reduceBEq, reduceIte, reduceCtorEq, Int.reduceBEq, Int.reduceEq, Int.reduceLT, Int.reduceLE, Int.reduceGT, Int.reduceGE, Int.reduceAdd, Int.reduceSub, Int.reduceNeg, Int.reduceBNe, List.all_cons, List.all_nil, List.getElem?_cons_zero, List.getElem?_cons_succ, List.getElem?_nil, Option.map_some, List.length_cons, List.length_nil, List.set_cons_zero, List.set_cons_succ, List.map_cons, List.map_nil, List.drop_zero, List.drop_succ_cons, List.drop_nil, List.take_zero, List.take_succ_cons, List.take_nil, ite_true, ite_false, if_true, if_false, implies_true, forall_const, beq_self_eq_true, List.replicate_succ, List.replicate_zero, List.headD_cons, List.cons_append, List.nil_append, bne_self_eq_false]
    refine Eq.trans this ?_
    cases numsO l <;> rfl
abbrev zF : PV := .sl .full 1 []
theorem numsR_loop {h : Hp} {b : PV} {l : List (List UInt8)} (hb : Rl eS 1 b l) (hl : l.length ≤ 3) (hs : ∀ s ∈ l, s.length ≤ 1000000) : ∀ (r q : List (List UInt8)) (out : List Int), l = q ++ r → out.length ≤ q.length →
    P32_0 (size h) (size h) (i64 q.length) (gV h zF 1 (out.map eI)) b (gH h 3 (out.map eI)) =
      some (match numsO r with | none => .tup [.nils, i64 20] | some p => .tup [gD zF 1 ((out ++ p).map eI), i64 0], h)
  | [], q, out, hp, hout => by
    rw [P32_0_eq]
    have e : q.length = l.length := by rw [hp]; simp
    have h1 : ((q.length : Int) < (l.length : Int)) = False := by simp; omega
    have gz := gZ_full 1
    simp only [hb.len, h1, numsO, frz_gV gz, below_gD gz _ _ (elI.belows _ _), trunc_gH, List.append_nil, ↓evD, evU, Nat.reduceAdd, Nat.reduceSub, Nat.reduceMul, Nat.reduceLeDiff, Nat.reduceLT, Nat.reduceEqDiff, Nat.reduceBEq, reduceIte, reduceCtorEq, Int.reduceBEq, Int.reduceEq, Int.reduceLT, Int.reduceLE, Int.reduceGT, Int.reduceGE, Int.reduceAdd, Int.reduceSub, Int.reduceNeg, Int.reduceBNe, List.all_cons, List.all_nil, List.getElem?_cons_zero, List.getElem?_cons_succ, List.getElem?_nil, Option.map_some, List.length_cons, List.length_nil, List.set_cons_zero, List.set_cons_succ, List.map_cons, List.map_nil, List.drop_zero, List.drop_succ_cons, List.drop_nil, List.take_zero, List.take_succ_cons, List.take_nil, ite_true, ite_false, if_true, if_false, implies_true, forall_const, beq_self_eq_true, List.replicate_succ, List.replicate_zero, List.headD_cons, List.cons_append, List.nil_append, bne_self_eq_false]
  | s :: r, q, out, hp, hout => by
    rw [P32_0_eq]
    have el : l.length = q.length + (r.length + 1) := by rw [hp]; simp
    have h1 : ((q.length : Int) < (l.length : Int)) = True := by simp; omega
    have hx : l[q.length]? = some s := by rw [hp]; simp
    have hec : (eS s).cells = [.str s] := rfl
    have w1 : IntKind.i64.wrap ((q.length : Int) + 1) = (((q ++ [s]).length : Nat) : Int) := by rw [show (q ++ [s]).length = q.length + 1 by simp, wrap_small] <;> omega
    have hv : ∀ base h, _ := fun base h => numberR_spec (base := base) (h := h) s 65535
    have z5 : (((65535 : Nat)) : Int) = 65535 := rfl
    rw [z5] at hv
    unfold numV at hv
    cases hn : numN s 65535 with
    | none =>
      have hN := hv
      rw [hn] at hN
      simp only at hN
      simp only [hb.len, h1, hb.idx hx, hec, hN, numsO, hn, trunc_gH, Option.isSome_none, ↓evD, evU, Nat.reduceAdd, Nat.reduceSub, Nat.reduceMul, Nat.reduceLeDiff, Nat.reduceLT, Nat.reduceEqDiff, Nat.reduceBEq, reduceIte, reduceCtorEq, Int.reduceBEq, Int.reduceEq, Int.reduceLT, Int.reduceLE, Int.reduceGT, Int.reduceGE, Int.reduceAdd, Int.reduceSub, Int.reduceNeg, Int.reduceBNe, List.all_cons, List.all_nil, List.getElem?_cons_zero, List.getElem?_cons_succ, List.getElem?_nil, Option.map_some, List.length_cons, List.length_nil, List.set_cons_zero, List.set_cons_succ, List.map_cons, List.map_nil, List.drop_zero, List.drop_succ_cons, List.drop_nil, List.take_zero, List.take_succ_cons, List.take_nil, ite_true, ite_false, if_true, if_false, implies_true, forall_const, beq_self_eq_true, List.replicate_succ, List.replicate_zero, List.headD_cons, List.cons_append, List.nil_append, bne_self_eq_false]
    | some u =>
      have hN := hv
      rw [hn] at hN
      simp only at hN
      have gz := gZ_full 1
      have gg := gOneL (h := h) (T := 3) elI gz out (u : Int) (by unfold lim2; omega)
      have e1 : (eI (u : Int)) = i64 u := rfl
      rw [e1] at gg
      have ih := numsR_loop (h := h) hb hl hs r (q ++ [s]) (out ++ [(u : Int)]) (by rw [hp]; simp) (by simp; omega)
      simp only [hb.len, h1, hb.idx hx, hec, hN, numsO, hn, gg, w1, ih, Option.isSome_some, ↓evD, evU, Nat.reduceAdd, Nat.reduceSub, Nat.reduceMul, Nat.reduceLeDiff, Nat.reduceLT, Nat.reduceEqDiff, Nat.reduceBEq, reduceIte, reduceCtorEq, Int.reduceBEq, Int.reduceEq, Int.reduceLT, Int.reduceLE, Int.reduceGT, Int.reduceGE, Int.reduceAdd, Int.reduceSub, Int.reduceNeg, Int.reduceBNe, List.all_cons, List.all_nil, List.getElem?_cons_zero, List.getElem?_cons_succ, List.getElem?_nil, Option.map_some, List.length_cons, List.length_nil, List.set_cons_zero, List.set_cons_succ, List.map_cons, List.map_nil, List.drop_zero, List.drop_succ_cons, List.drop_nil, List.take_zero, List.take_succ_cons, List.take_nil, ite_true, ite_false, if_true, if_false, implies_true, forall_const, beq_self_eq_true, List.replicate_succ, List.replicate_zero, List.headD_cons, List.cons_append, List.nil_append, bne_self_eq_false]
      cases numsO r with
      | none => rfl
      | some p => simp
theorem numsR_spec {base : Nat} {h : Hp} {b : PV} {l : List (List UInt8)} (hb : Rl eS 1 b l) (hs : ∀ s ∈ l, s.length ≤ 1000000) : CallA T base 32 [b] h = some (numsV zF l, h) := by
  rw [S32]
  unfold numsV
  by_cases h3 : 3 < l.length
  · have h1 : ((l.length : Int) > 3) = True := by simp; omega
    simp only [hb.len, h1, h3, ↓evD, evU, Nat.reduceAdd, Nat.reduceSub, Nat.reduceMul, Nat.reduceLeDiff, Nat.reduceLT, Nat.reduceEqDiff, Nat.reduceBEq, reduceIte, reduceCtorEq, Int.reduceBEq, Int.reduceEq, Int.reduceLT, Int.reduceLE, Int.reduceGT, Int.reduceGE, Int.reduceAdd, Int.reduceSub, Int.reduceNeg, Int.reduceBNe, List.all_cons, List.all_nil, List.getElem?_cons_zero, List.getElem?_cons_succ, List.getElem?_nil, Option.map_some, List.length_cons, List.length_nil, List.set_cons_zero, List.set_cons_succ, List.map_cons, List.map_nil, List.drop_zero, List.drop_succ_cons, List.drop_nil, List.take_zero, List.take_succ_cons, List.take_nil, ite_true, ite_false, if_true, if_false, implies_true, forall_const, beq_self_eq_true, List.replicate_succ, List.replicate_zero, List.headD_cons, List.cons_append, List.nil_append, bne_self_eq_false]
  · have h1 : ((l.length : Int) > 3) = False := by simp; omega
    have := numsR_loop (h := h) hb (by omega) hs l [] [] rfl (by simp)
    rw [List.map_nil, gV_nil, gH_nil] at this
    simp only [hb.len, h1, h3, ↓evD, evU, Nat.reduceAdd, Nat.reduceSub, Nat.reduceMul, Nat.reduceLeDiff, Nat.reduceLT, Nat.reduceEqDiff, Nat.reduceBEq, reduceIte, reduceCtorEq, Int.reduceBEq, Int.reduceEq, Int.reduceLT, Int.reduceLE, Int.reduceGT, Int.reduceGE, Int.reduceAdd, Int.reduceSub, Int.reduceNeg, Int.reduceBNe, List.all_cons, List.all_nil, List.getElem?_cons_zero, List.getElem?_cons_succ, List.getElem?_nil, Option.map_some, List.length_cons, List.length_nil, List.set_cons_zero, List.set_cons_succ, List.map_cons, List.map_nil, List.drop_zero, List.drop_succ_cons, List.drop_nil, List.take_zero, List.take_succ_cons, List.take_nil, ite_true, ite_false, if_true, if_false, implies_true, forall_const, beq_self_eq_true, List.replicate_succ, List.replicate_zero, List.headD_cons, List.cons_append, List.nil_append, bne_self_eq_false]
    refine Eq.trans this ?_
    cases numsO l <;> rfl
def outV (z : PV) : Option (List Int) → PV
  | none => .tup [.nils, i64 20]
  | some p => .tup [gD z 1 (p.map eI), i64 0]
def few (l : List (List UInt8)) : Option (List Int) := if 3 < l.length then none else numsO l
def readO (s : List UInt8) : Option (List Int) := if s.take 1 ≠ [47] then none else if s.drop 1 = [] then some [] else few (splitL 47 (s.drop 1))
theorem split_small {c : UInt8} {n : Nat} : ∀ (s : List UInt8), s.length ≤ n → ∀ x ∈ splitL c s, x.length ≤ n
  | [], _, x, hx => by simp [splitL] at hx; subst hx; simp
  | y :: r, hs, x, hx => by
    simp at hs
    have ih := split_small (c := c) (n := n) r (by omega)
    rw [splitL] at hx
    split at hx
    · rcases List.mem_cons.1 hx with rfl | hx
      · simp
      · exact ih x hx
    · have hlen : ∀ z ∈ splitL c r, z.length ≤ r.length := fun z hz => split_small (n := r.length) r (Nat.le_refl _) z hz
      split at hx
      · rename_i z zs hq
        rw [hq] at hlen ih
        rcases List.mem_cons.1 hx with rfl | hx
        · have := hlen z (by simp)
          simp; omega
        · exact ih x (by simp [hx])
      · simp at hx; subst hx; simp; omega
theorem read_spec {base : Nat} {h : Hp} (s : List UInt8) (hs : s.length ≤ 100000) : CallA T base 8 [.str s] h = some (outV .nils (readO s), h) := by
  rw [S8]
  have hC : ∀ base h, _ := fun base h => cutPrefix_spec (base := base) (h := h) s [47] (by omega) (by simp)
  have e1 : ([47] : List UInt8).length = 1 := rfl
  rw [e1] at hC
  unfold readO
  cases hq : (s.take 1 == [47])
  · rw [hq] at hC
    have hne : s.take 1 ≠ [47] := by simpa using hq
    rw [if_pos hne]
    simp only [hC, outV, ↓evD, evU, Nat.reduceAdd, Nat.reduceSub, Nat.reduceMul, Nat.reduceLeDiff, Nat.reduceLT, Nat.reduceEqDiff, Nat.reduceBEq, reduceIte, reduceCtorEq, Int.reduceBEq, Int.reduceEq, Int.reduceLT, Int.reduceLE, Int.reduceGT, Int.reduceGE, Int.reduceAdd, Int.reduceSub, Int.reduceNeg, Int.reduceBNe, List.all_cons, List.all_nil, List.getElem?_cons_zero, List.getElem?_cons_succ, List.getElem?_nil, Option.map_some, List.length_cons, List.length_nil, List.set_cons_zero, List.set_cons_succ, List.map_cons, List.map_nil, List.drop_zero, List.drop_succ_cons, List.drop_nil, List.take_zero, List.take_succ_cons, List.take_nil, ite_true, ite_false, if_true, if_false, implies_true, forall_const, beq_self_eq_true, List.replicate_succ, List.replicate_zero, List.headD_cons, List.cons_append, List.nil_append, bne_self_eq_false]
  · rw [hq] at hC
    have he : s.take 1 = [47] := by simpa using hq
    have hne : ¬ (s.take 1 ≠ [47]) := fun h => h he
    rw [if_neg hne]
    have hdl : (s.drop 1).length ≤ s.length := by simp
    generalize s.drop 1 = d at *
    by_cases hd : d = []
    · have hd' : (d == []) = true := by simp [hd]
      rw [if_pos hd]
      simp only [hC, hd', outV, ↓evD, evU, Nat.reduceAdd, Nat.reduceSub, Nat.reduceMul, Nat.reduceLeDiff, Nat.reduceLT, Nat.reduceEqDiff, Nat.reduceBEq, reduceIte, reduceCtorEq, Int.reduceBEq, Int.reduceEq, Int.reduceLT, Int.reduceLE, Int.reduceGT, Int.reduceGE, Int.reduceAdd, Int.reduceSub, Int.reduceNeg, Int.reduceBNe, List.all_cons, List.all_nil, List.getElem?_cons_zero, List.getElem?_cons_succ, List.getElem?_nil, Option.map_some, List.length_cons, List.length_nil, List.set_cons_zero, List.set_cons_succ, List.map_cons, List.map_nil, List.drop_zero, List.drop_succ_cons, List.drop_nil, List.take_zero, List.take_succ_cons, List.take_nil, ite_true, ite_false, if_true, if_false, implies_true, forall_const, beq_self_eq_true, List.replicate_succ, List.replicate_zero, List.headD_cons, List.cons_append, List.nil_append, bne_self_eq_false]
      rfl
    · have hd' : (d == []) = false := by simp [hd]
      rw [if_neg hd]
      have hS : ∀ base h, _ := fun base h => split_spec (base := base) (h := h) d 47 (by omega)
      have hN : ∀ base h, _ := fun base h => nums_spec (base := base) (h := h) (rl_sl (e := eS) (sz := 1) .full (splitL 47 d)) (split_small (n := 1000000) d (by omega))
      unfold numsV at hN
      unfold few
      generalize splitL 47 d = X at *
      by_cases h3 : 3 < X.length
      · simp only [h3, if_true] at hN
        simp only [hC, hd', hS, hN, h3, outV, ↓evD, evU, Nat.reduceAdd, Nat.reduceSub, Nat.reduceMul, Nat.reduceLeDiff, Nat.reduceLT, Nat.reduceEqDiff, Nat.reduceBEq, reduceIte, reduceCtorEq, Int.reduceBEq, Int.reduceEq, Int.reduceLT, Int.reduceLE, Int.reduceGT, Int.reduceGE, Int.reduceAdd, Int.reduceSub, Int.reduceNeg, Int.reduceBNe, List.all_cons, List.all_nil, List.getElem?_cons_zero, List.getElem?_cons_succ, List.getElem?_nil, Option.map_some, List.length_cons, List.length_nil, List.set_cons_zero, List.set_cons_succ, List.map_cons, List.map_nil, List.drop_zero, List.drop_succ_cons, List.drop_nil, List.take_zero, List.take_succ_cons, List.take_nil, ite_true, ite_false, if_true, if_false, implies_true, forall_const, beq_self_eq_true, List.replicate_succ, List.replicate_zero, List.headD_cons, List.cons_append, List.nil_append, bne_self_eq_false]
      · simp only [h3, if_false] at hN
        cases hO : numsO X with
        | none =>
          rw [hO] at hN
          simp only at hN
          simp only [hC, hd', hS, hN, h3, hO, outV, ↓evD, evU, Nat.reduceAdd, Nat.reduceSub, Nat.reduceMul, Nat.reduceLeDiff, Nat.reduceLT, Nat.reduceEqDiff, Nat.reduceBEq, reduceIte, reduceCtorEq, Int.reduceBEq, Int.reduceEq, Int.reduceLT, Int.reduceLE, Int.reduceGT, Int.reduceGE, Int.reduceAdd, Int.reduceSub, Int.reduceNeg, Int.reduceBNe, List.all_cons, List.all_nil, List.getElem?_cons_zero, List.getElem?_cons_succ, List.getElem?_nil, Option.map_some, List.length_cons, List.length_nil, List.set_cons_zero, List.set_cons_succ, List.map_cons, List.map_nil, List.drop_zero, List.drop_succ_cons, List.drop_nil, List.take_zero, List.take_succ_cons, List.take_nil, ite_true, ite_false, if_true, if_false, implies_true, forall_const, beq_self_eq_true, List.replicate_succ, List.replicate_zero, List.headD_cons, List.cons_append, List.nil_append, bne_self_eq_false]
        | some p =>
          rw [hO] at hN
          simp only at hN
          have gz := gZ_nils 1
          have hL := Lv.done (e := eI) gz p
          simp only [hC, hd', hS, hN, h3, hO, outV, hL.frz, hL.below elI, ↓evD, evU, Nat.reduceAdd, Nat.reduceSub, Nat.reduceMul, Nat.reduceLeDiff, Nat.reduceLT, Nat.reduceEqDiff, Nat.reduceBEq, reduceIte, reduceCtorEq, Int.reduceBEq, Int.reduceEq, Int.reduceLT, Int.reduceLE, Int.reduceGT, Int.reduceGE, Int.reduceAdd, Int.reduceSub, Int.reduceNeg, Int.reduceBNe, List.all_cons, List.all_nil, List.getElem?_cons_zero, List.getElem?_cons_succ, List.getElem?_nil, Option.map_some, List.length_cons, List.length_nil, List.set_cons_zero, List.set_cons_succ, List.map_cons, List.map_nil, List.drop_zero, List.drop_succ_cons, List.drop_nil, List.take_zero, List.take_succ_cons, List.take_nil, ite_true, ite_false, if_true, if_false, implies_true, forall_const, beq_self_eq_true, List.replicate_succ, List.replicate_zero, List.headD_cons, List.cons_append, List.nil_append, bne_self_eq_false]
theorem readR_end {h : Hp} (s : List UInt8) (done : List (List UInt8)) (hd : ∀ x ∈ done, x.length ≤ 1000000) (hs : s.length ≤ 100000) (v : PV) :
    P9_0 (size h) (size h) (i64 ((s.length + 1 : Nat) : Int)) v (.str s) (gV h zF 1 (done.map eS)) (gH h 9 (done.map eS)) = some (outV zF (few done), h) := by
  rw [P9_0_eq]
  have h1 : (((s.length + 1 : Nat) : Int) ≤ (s.length : Int)) = False := by simp; omega
  have hN : ∀ base h', _ := fun base h' => numsR_spec (base := base) (h := h') (gV_rl (e := eS) (gZ_full 1) h done) hd
  unfold numsV at hN
  unfold few
  by_cases h3 : 3 < done.length
  · simp only [h3, if_true] at hN
    simp only [h1, hN, h3, outV, trunc_gH, ↓evD, evU, Nat.reduceAdd, Nat.reduceSub, Nat.reduceMul, Nat.reduceLeDiff, Nat.reduceLT, Nat.reduceEqDiff, Nat.reduceBEq, reduceIte, reduceCtorEq, Int.reduceBEq, Int.reduceEq, Int.reduceLT, Int.reduceLE, Int.reduceGT, Int.reduceGE, Int.reduceAdd, Int.reduceSub, Int.reduceNeg, Int.reduceBNe, List.all_cons, List.all_nil, List.getElem?_cons_zero, List.getElem?_cons_succ, List.getElem?_nil, Option.map_some, List.length_cons, List.length_nil, List.set_cons_zero, List.set_cons_succ, List.map_cons, List.map_nil, List.drop_zero, List.drop_succ_cons, List.drop_nil, List.take_zero, List.take_succ_cons, List.take_nil, ite_true, ite_false, if_true, if_false, implies_true, forall_const, beq_self_eq_true, List.replicate_succ, List.replicate_zero, List.headD_cons, List.cons_append, List.nil_append, bne_self_eq_false]
  · simp only [h3, if_false] at hN
    cases hO : numsO done with
    | none =>
      rw [hO] at hN
      simp only at hN
      simp only [h1, hN, h3, hO, outV, trunc_gH, ↓evD, evU, Nat.reduceAdd, Nat.reduceSub, Nat.reduceMul, Nat.reduceLeDiff, Nat.reduceLT, Nat.reduceEqDiff, Nat.reduceBEq, reduceIte, reduceCtorEq, Int.reduceBEq, Int.reduceEq, Int.reduceLT, Int.reduceLE, Int.reduceGT, Int.reduceGE, Int.reduceAdd, Int.reduceSub, Int.reduceNeg, Int.reduceBNe, List.all_cons, List.all_nil, List.getElem?_cons_zero, List.getElem?_cons_succ, List.getElem?_nil, Option.map_some, List.length_cons, List.length_nil, List.set_cons_zero, List.set_cons_succ, List.map_cons, List.map_nil, List.drop_zero, List.drop_succ_cons, List.drop_nil, List.take_zero, List.take_succ_cons, List.take_nil, ite_true, ite_false, if_true, if_false, implies_true, forall_const, beq_self_eq_true, List.replicate_succ, List.replicate_zero, List.headD_cons, List.cons_append, List.nil_append, bne_self_eq_false]
    | some p =>
      rw [hO] at hN
      simp only at hN
      have gz := gZ_full 1
      have hL := Lv.done (e := eI) gz p
      simp only [h1, hN, h3, hO, outV, hL.frz, hL.below elI, trunc_gH, ↓evD, evU, Nat.reduceAdd, Nat.reduceSub, Nat.reduceMul, Nat.reduceLeDiff, Nat.reduceLT, Nat.reduceEqDiff, Nat.reduceBEq, reduceIte, reduceCtorEq, Int.reduceBEq, Int.reduceEq, Int.reduceLT, Int.reduceLE, Int.reduceGT, Int.reduceGE, Int.reduceAdd, Int.reduceSub, Int.reduceNeg, Int.reduceBNe, List.all_cons, List.all_nil, List.getElem?_cons_zero, List.getElem?_cons_succ, List.getElem?_nil, Option.map_some, List.length_cons, List.length_nil, List.set_cons_zero, List.set_cons_succ, List.map_cons, List.map_nil, List.drop_zero, List.drop_succ_cons, List.drop_nil, List.take_zero, List.take_succ_cons, List.take_nil, ite_true, ite_false, if_true, if_false, implies_true, forall_const, beq_self_eq_true, List.replicate_succ, List.replicate_zero, List.headD_cons, List.cons_append, List.nil_append, bne_self_eq_false]
theorem readR_loop {h : Hp} (s : List UInt8) (hs : s.length ≤ 100000) : ∀ (r pre cur : List UInt8) (done : List (List UInt8)), s = pre ++ cur ++ r → 47 ∉ cur → (∀ x ∈ done, x.length ≤ 1000000) → done.length ≤ pre.length + cur.length →
    P9_0 (size h) (size h) (i64 ((pre ++ cur).length : Nat)) (i64 pre.length) (.str s) (gV h zF 1 (done.map eS)) (gH h 9 (done.map eS)) = some (outV zF (few (done ++ splitL 47 (cur ++ r))), h)
  | [], pre, cur, done, hp, hc, hd, hdl => by
    rw [P9_0_eq]
    have el : (pre ++ cur).length = s.length := by rw [hp]; simp
    have elp : (pre ++ cur).length = pre.length + cur.length := by simp
    rw [el]
    have h1 : ((s.length : Int) ≤ (s.length : Int)) = True := by simp
    have h2 : ((s.length : Int) == (s.length : Int)) = true := by simp
    have hb1 := bdV_nat s.length .i64 s.length (Nat.le_refl _)
    have hb2 := bdV_nat s.length .i64 pre.length (by omega)
    have ht : (s.drop pre.length).take (s.length - pre.length) = cur := by
      rw [List.take_of_length_le (by simp), hp]; simp
    have w1 : IntKind.i64.wrap ((s.length : Int) + 1) = ((s.length + 1 : Nat) : Int) := by rw [wrap_small] <;> omega
    have gg := gOneL (h := h) (T := 9) elS (gZ_full 1) done cur (by unfold lim2; omega)
    have e1 : eS cur = .str cur := rfl
    rw [e1] at gg
    have ih := readR_end (h := h) s (done ++ [cur]) (by
      intro x hx
      rcases List.mem_append.1 hx with hx | hx
      · exact hd x hx
      · simp at hx; subst hx; omega) hs (i64 ((s.length + 1 : Nat) : Int))
    have e3 : splitL 47 (cur ++ []) = [cur] := by rw [List.append_nil]; exact splitL_none hc
    rw [e3]
    simp only [h1, h2, hb1, hb2, ht, w1, gg, ih, ↓evD, evU, Nat.reduceAdd, Nat.reduceSub, Nat.reduceMul, Nat.reduceLeDiff, Nat.reduceLT, Nat.reduceEqDiff, Nat.reduceBEq, reduceIte, reduceCtorEq, Int.reduceBEq, Int.reduceEq, Int.reduceLT, Int.reduceLE, Int.reduceGT, Int.reduceGE, Int.reduceAdd, Int.reduceSub, Int.reduceNeg, Int.reduceBNe, List.all_cons, List.all_nil, List.getElem?_cons_zero, List.getElem?_cons_succ, List.getElem?_nil, Option.map_some, List.length_cons, List.length_nil, List.set_cons_zero, List.set_cons_succ, List.map_cons, List.map_nil, List.drop_zero, List.drop_succ_cons, List.drop_nil, List.take_zero, List.take_succ_cons, List.take_nil, ite_true, ite_false, if_true, if_false, implies_true, forall_const, beq_self_eq_true, List.replicate_succ, List.replicate_zero, List.headD_cons, List.cons_append, List.nil_append, bne_self_eq_false]
  | x :: r, pre, cur, done, hp, hc, hd, hdl => by
    rw [P9_0_eq]
    have elp : (pre ++ cur).length = pre.length + cur.length := by simp
    have el : s.length = (pre ++ cur).length + (r.length + 1) := by rw [hp]; simp; omega
    have hx : s[(pre ++ cur).length]? = some x := by rw [hp]; simp
    have hh1 : (pre ++ cur).length < s.length := by omega
    have ht : (s.drop pre.length).take ((pre ++ cur).length - pre.length) = cur := by
      rw [elp, hp, Nat.add_sub_cancel_left]; simp
    have e48 := u8_beq x 47
    have z48 : (((47 : UInt8).toNat : Nat) : Int) = 47 := rfl
    rw [z48] at e48
    have hb1 := bdV_nat s.length .i64 (pre ++ cur).length (by omega)
    have hb2 := bdV_nat (pre ++ cur).length .i64 pre.length (by omega)
    have hix := ix_nat .i64 (pre ++ cur).length s.length hh1
    have h1 : (((pre ++ cur).length : Int) ≤ (s.length : Int)) = True := by simp only [eq_iff_iff, iff_true]; omega
    have h2 : (((pre ++ cur).length : Int) == (s.length : Int)) = false := by rw [beq_eq_false_iff_ne]; omega
    cases hq : (x == 47)
    · rw [hq] at e48
      have hne : ¬ x = 47 := by simpa using hq
      have w1 : IntKind.i64.wrap (((pre ++ cur).length : Int) + 1) = (((pre ++ (cur ++ [x])).length : Nat) : Int) := by rw [show (pre ++ (cur ++ [x])).length = (pre ++ cur).length + 1 by simp; omega, wrap_small] <;> omega
      have ih := readR_loop (h := h) s hs r pre (cur ++ [x]) done (by rw [hp]; simp) (by simp [hc]; exact fun h => hne h.symm) hd (by simp; omega)
      have e3 : cur ++ [x] ++ r = cur ++ x :: r := by simp
      rw [e3] at ih
      generalize (pre ++ (cur ++ [x])).length = N at *
      generalize (pre ++ cur).length = M at *
      simp only [h1, h2, hix, hx, e48, w1, ih, ↓evD, evU, Nat.reduceAdd, Nat.reduceSub, Nat.reduceMul, Nat.reduceLeDiff, Nat.reduceLT, Nat.reduceEqDiff, Nat.reduceBEq, reduceIte, reduceCtorEq, Int.reduceBEq, Int.reduceEq, Int.reduceLT, Int.reduceLE, Int.reduceGT, Int.reduceGE, Int.reduceAdd, Int.reduceSub, Int.reduceNeg, Int.reduceBNe, List.all_cons, List.all_nil, List.getElem?_cons_zero, List.getElem?_cons_succ, List.getElem?_nil, Option.map_some, List.length_cons, List.length_nil, List.set_cons_zero, List.set_cons_succ, List.map_cons, List.map_nil, List.drop_zero, List.drop_succ_cons, List.drop_nil, List.take_zero, List.take_succ_cons, List.take_nil, ite_true, ite_false, if_true, if_false, implies_true, forall_const, beq_self_eq_true, List.replicate_succ, List.replicate_zero, List.headD_cons, List.cons_append, List.nil_append, bne_self_eq_false]
    · rw [hq] at e48
      have hxe : x = 47 := by simpa using hq
      subst hxe
      have w1 : IntKind.i64.wrap (((pre ++ cur).length : Int) + 1) = (((pre ++ cur ++ [47]).length : Nat) : Int) := by rw [show (pre ++ cur ++ [(47 : UInt8)]).length = (pre ++ cur).length + 1 by simp; omega, wrap_small] <;> omega
      have gg := gOneL (h := h) (T := 9) elS (gZ_full 1) done cur (by unfold lim2; omega)
      have e1 : eS cur = .str cur := rfl
      rw [e1] at gg
      have ih := readR_loop (h := h) s hs r (pre ++ cur ++ [47]) [] (done ++ [cur]) (by rw [hp]; simp) (by simp) (by
        intro x hx
        rcases List.mem_append.1 hx with hx | hx
        · exact hd x hx
        · simp at hx; subst hx; omega) (by simp; omega)
      have e4 : done ++ [cur] ++ splitL 47 ([] ++ r) = done ++ splitL 47 (cur ++ 47 :: r) := by rw [splitL_app r hc]; simp
      rw [List.append_nil, e4] at ih
      generalize (pre ++ cur ++ [(47 : UInt8)]).length = N at *
      generalize (pre ++ cur).length = M at *
      simp only [h1, h2, hix, hx, e48, hb1, hb2, ht, gg, w1, ih, ↓evD, evU, Nat.reduceAdd, Nat.reduceSub, Nat.reduceMul, Nat.reduceLeDiff, Nat.reduceLT, Nat.reduceEqDiff, Nat.reduceBEq, reduceIte, reduceCtorEq, Int.reduceBEq, Int.reduceEq, Int.reduceLT, Int.reduceLE, Int.reduceGT, Int.reduceGE, Int.reduceAdd, Int.reduceSub, Int.reduceNeg, Int.reduceBNe, List.all_cons, List.all_nil, List.getElem?_cons_zero, List.getElem?_cons_succ, List.getElem?_nil, Option.map_some, List.length_cons, List.length_nil, List.set_cons_zero, List.set_cons_succ, List.map_cons, List.map_nil, List.drop_zero, List.drop_succ_cons, List.drop_nil, List.take_zero, List.take_succ_cons, List.take_nil, ite_true, ite_false, if_true, if_false, implies_true, forall_const, beq_self_eq_true, List.replicate_succ, List.replicate_zero, List.headD_cons, List.cons_append, List.nil_append, bne_self_eq_false]
theorem readR_spec {base : Nat} {h : Hp} (s : List UInt8) (hs : s.length ≤ 100000) : CallA T base 9 [.str s] h = some (outV zF (readO s), h) := by
  rw [S9]
  unfold readO
  cases s with
  | nil =>
    have z1 : (([] : List UInt8) == [47]) = false := rfl
    have z2 : (([] : List UInt8) == []) = true := rfl
    have z3 : ([] : List UInt8).take 1 ≠ [47] := by simp
    rw [if_pos z3]
    simp only [z1, z2, outV, ↓evD, evU, Nat.reduceAdd, Nat.reduceSub, Nat.reduceMul, Nat.reduceLeDiff, Nat.reduceLT, Nat.reduceEqDiff, Nat.reduceBEq, reduceIte, reduceCtorEq, Int.reduceBEq, Int.reduceEq, Int.reduceLT, Int.reduceLE, Int.reduceGT, Int.reduceGE, Int.reduceAdd, Int.reduceSub, Int.reduceNeg, Int.reduceBNe, List.all_cons, List.all_nil, List.getElem?_cons_zero, List.getElem?_cons_succ, List.getElem?_nil, Option.map_some, List.length_cons, List.length_nil, List.set_cons_zero, List.set_cons_succ, List.map_cons, List.map_nil, List.drop_zero, List.drop_succ_cons, List.drop_nil, List.take_zero, List.take_succ_cons, List.take_nil, ite_true, ite_false, if_true, if_false, implies_true, forall_const, beq_self_eq_true, List.replicate_succ, List.replicate_zero, List.headD_cons, List.cons_append, List.nil_append, bne_self_eq_false]
  | cons c r =>
    have ht : (c :: r).take 1 = [c] := rfl
    have hd : (c :: r).drop 1 = r := rfl
    rw [ht, hd]
    have e48 := u8_bne c 47
    have z48 : (((47 : UInt8).toNat : Nat) : Int) = 47 := rfl
    rw [z48] at e48
    have hix : ix (.int .i64 0) (r.length + 1) = some 0 := by simp [ix]
    have z2 : (c :: r == []) = false := rfl
    by_cases hc : c = 47
    · subst hc
      have hne : ¬ (([47] : List UInt8) ≠ [47]) := fun h => h rfl
      rw [if_neg hne]
      have e49 : ((47 : UInt8) != 47) = false := rfl
      rw [e49] at e48
      cases r with
      | nil =>
        have z1 : ([47] == ([47] : List UInt8)) = true := rfl
        simp only [z1, outV, ↓evD, evU, Nat.reduceAdd, Nat.reduceSub, Nat.reduceMul, Nat.reduceLeDiff, Nat.reduceLT, Nat.reduceEqDiff, Nat.reduceBEq, reduceIte, reduceCtorEq, Int.reduceBEq, Int.reduceEq, Int.reduceLT, Int.reduceLE, Int.reduceGT, Int.reduceGE, Int.reduceAdd, Int.reduceSub, Int.reduceNeg, Int.reduceBNe, List.all_cons, List.all_nil, List.getElem?_cons_zero, List.getElem?_cons_succ, List.getElem?_nil, Option.map_some, List.length_cons, List.length_nil, List.set_cons_zero, List.set_cons_succ, List.map_cons, List.map_nil, List.drop_zero, List.drop_succ_cons, List.drop_nil, List.take_zero, List.take_succ_cons, List.take_nil, ite_true, ite_false, if_true, if_false, implies_true, forall_const, beq_self_eq_true, List.replicate_succ, List.replicate_zero, List.headD_cons, List.cons_append, List.nil_append, bne_self_eq_false]
        rfl
      | cons d r =>
        have z1 : (47 :: d :: r == ([47] : List UInt8)) = false := by simp
        have hl := readR_loop (h := h) (47 :: d :: r) hs (d :: r) [47] [] [] rfl (by simp) (by simp) (by simp)
        have hg : ¬ (d :: r = []) := by simp
        rw [if_neg hg]
        generalize hD : d :: r = D at *
        simp only [z1, z2, e48, hix, List.length_cons, List.getElem?_cons_zero, ↓evD, evU, Nat.reduceAdd, Nat.reduceSub, Nat.reduceMul, Nat.reduceLeDiff, Nat.reduceLT, Nat.reduceEqDiff, Nat.reduceBEq, reduceIte, reduceCtorEq, Int.reduceBEq, Int.reduceEq, Int.reduceLT, Int.reduceLE, Int.reduceGT, Int.reduceGE, Int.reduceAdd, Int.reduceSub, Int.reduceNeg, Int.reduceBNe, List.all_cons, List.all_nil, List.getElem?_cons_zero, List.getElem?_cons_succ, List.getElem?_nil, Option.map_some, List.length_cons, List.length_nil, List.set_cons_zero, List.set_cons_succ, List.map_cons, List.map_nil, List.drop_zero, List.drop_succ_cons, List.drop_nil, List.take_zero, List.take_succ_cons, List.take_nil, ite_true, ite_false, if_true, if_false, implies_true, forall_const, beq_self_eq_true, List.replicate_succ, List.replicate_zero, List.headD_cons, List.cons_append, List.nil_append, bne_self_eq_false]
        exact hl
    · have hne : ([c] : List UInt8) ≠ [47] := by simpa using hc
      have z1 : (c :: r == ([47] : List UInt8)) = false := by simp [hc]
      have e49 : (c != 47) = true := by simpa using hc
      rw [e49] at e48
      rw [if_pos hne]
      simp only [z1, z2, e48, hix, List.length_cons, List.getElem?_cons_zero, outV, ↓evD, evU, Nat.reduceAdd, Nat.reduceSub, Nat.reduceMul, Nat.reduceLeDiff, Nat.reduceLT, Nat.reduceEqDiff, Nat.reduceBEq, reduceIte, reduceCtorEq, Int.reduceBEq, Int.reduceEq, Int.reduceLT, Int.reduceLE, Int.reduceGT, Int.reduceGE, Int.reduceAdd, Int.reduceSub, Int.reduceNeg, Int.reduceBNe, List.all_cons, List.all_nil, List.getElem?_cons_zero, List.getElem?_cons_succ, List.getElem?_nil, Option.map_some, List.length_cons, List.length_nil, List.set_cons_zero, List.set_cons_succ, List.map_cons, List.map_nil, List.drop_zero, List.drop_succ_cons, List.drop_nil, List.take_zero, List.take_succ_cons, List.take_nil, ite_true, ite_false, if_true, if_false, implies_true, forall_const, beq_self_eq_true, List.replicate_succ, List.replicate_zero, List.headD_cons, List.cons_append, List.nil_append, bne_self_eq_false]
theorem beqs (n : Int) : (n == n) = true := by simp
theorem beqS (s : List UInt8) : (s == s) = true := by simp
theorem beqB (b : Bool) : (b == b) = true := by simp
theorem texts_at {h : Hp} (ha : CallA T (size h) 7 [] h = some (.bool true, h)) {b : PV} {p : List Int} (hb : Lv eI 1 b p) (s : List UInt8) : CallA T 0 3 [b, .str s] h = some (.bool true, h) := by
  rw [S3]
  by_cases h1 : (p.length : Int) > 100
  · simp only [ha, hb.len, h1, ↓evD, evU, Nat.reduceAdd, Nat.reduceSub, Nat.reduceMul, Nat.reduceLeDiff, Nat.reduceLT, Nat.reduceEqDiff, Nat.reduceBEq, reduceIte, reduceCtorEq, Int.reduceBEq, Int.reduceEq, Int.reduceLT, Int.reduceLE, Int.reduceGT, Int.reduceGE, Int.reduceAdd, Int.reduceSub, Int.reduceNeg, Int.reduceBNe, List.all_cons, List.all_nil, List.getElem?_cons_zero, List.getElem?_cons_succ, List.getElem?_nil, Option.map_some, List.length_cons, List.length_nil, List.set_cons_zero, List.set_cons_succ, List.map_cons, List.map_nil, List.drop_zero, List.drop_succ_cons, List.drop_nil, List.take_zero, List.take_succ_cons, List.take_nil, ite_true, ite_false, if_true, if_false, implies_true, forall_const, beq_self_eq_true, List.replicate_succ, List.replicate_zero, List.headD_cons, List.cons_append, List.nil_append, bne_self_eq_false]
  by_cases h2 : (s.length : Int) > 1000
  · simp only [ha, hb.len, h1, h2, ↓evD, evU, Nat.reduceAdd, Nat.reduceSub, Nat.reduceMul, Nat.reduceLeDiff, Nat.reduceLT, Nat.reduceEqDiff, Nat.reduceBEq, reduceIte, reduceCtorEq, Int.reduceBEq, Int.reduceEq, Int.reduceLT, Int.reduceLE, Int.reduceGT, Int.reduceGE, Int.reduceAdd, Int.reduceSub, Int.reduceNeg, Int.reduceBNe, List.all_cons, List.all_nil, List.getElem?_cons_zero, List.getElem?_cons_succ, List.getElem?_nil, Option.map_some, List.length_cons, List.length_nil, List.set_cons_zero, List.set_cons_succ, List.map_cons, List.map_nil, List.drop_zero, List.drop_succ_cons, List.drop_nil, List.take_zero, List.take_succ_cons, List.take_nil, ite_true, ite_false, if_true, if_false, implies_true, forall_const, beq_self_eq_true, List.replicate_succ, List.replicate_zero, List.headD_cons, List.cons_append, List.nil_append, bne_self_eq_false]
  have hR : ∀ base h, _ := fun base h => right_spec (base := base) (h := h) hb.rl (by omega)
  have hR2 : ∀ base h, _ := fun base h => rightR_spec (base := base) (h := h) hb.rl (by omega)
  have hT : ∀ base h, _ := fun base h => text_spec (base := base) (h := h) hb.rl (by omega)
  have hT2 : ∀ base h, _ := fun base h => textR_spec (base := base) (h := h) hb.rl (by omega)
  have hD : ∀ base h, _ := fun base h => read_spec (base := base) (h := h) s (by omega)
  have hD2 : ∀ base h, _ := fun base h => readR_spec (base := base) (h := h) s (by omega)
  cases hq : readO s with
  | none =>
    rw [hq] at hD hD2
    have hI : ∀ base h, _ := fun base h => ints_spec (base := base) (h := h) (a := .nils) (b := .nils) (l := []) (m := []) rl_nils rl_nils (by simp)
    have e0 : (([] : List Int) == []) = true := rfl
    simp only [ha, hb.len, h1, h2, hR, hR2, hT, hT2, hD, hD2, hI, outV, beqs, beqS, beqB, e0, ↓evD, evU, Nat.reduceAdd, Nat.reduceSub, Nat.reduceMul, Nat.reduceLeDiff, Nat.reduceLT, Nat.reduceEqDiff, Nat.reduceBEq, reduceIte, reduceCtorEq, Int.reduceBEq, Int.reduceEq, Int.reduceLT, Int.reduceLE, Int.reduceGT, Int.reduceGE, Int.reduceAdd, Int.reduceSub, Int.reduceNeg, Int.reduceBNe, List.all_cons, List.all_nil, List.getElem?_cons_zero, List.getElem?_cons_succ, List.getElem?_nil, Option.map_some, List.length_cons, List.length_nil, List.set_cons_zero, List.set_cons_succ, List.map_cons, List.map_nil, List.drop_zero, List.drop_succ_cons, List.drop_nil, List.take_zero, List.take_succ_cons, List.take_nil, ite_true, ite_false, if_true, if_false, implies_true, forall_const, beq_self_eq_true, List.replicate_succ, List.replicate_zero, List.headD_cons, List.cons_append, List.nil_append, bne_self_eq_false]
  | some q =>
    rw [hq] at hD hD2
    have l1 := Lv.done (e := eI) (gZ_nils 1) q
    have l2 := Lv.done (e := eI) (gZ_full 1) q
    have hql : q.length ≤ 1000000 := by
      unfold readO few at hq
      split at hq
      · cases hq
      · split at hq
        · cases hq; simp
        · split at hq
          · cases hq
          · rw [numsO_len hq]; omega
    have hI : ∀ base h, _ := fun base h => ints_spec (base := base) (h := h) l1.rl l2.rl hql
    have e0 : (q == q) = true := by simp
    simp only [ha, hb.len, h1, h2, hR, hR2, hT, hT2, hD, hD2, hI, outV, beqs, beqS, beqB, e0, ↓evD, evU, Nat.reduceAdd, Nat.reduceSub, Nat.reduceMul, Nat.reduceLeDiff, Nat.reduceLT, Nat.reduceEqDiff, Nat.reduceBEq, reduceIte, reduceCtorEq, Int.reduceBEq, Int.reduceEq, Int.reduceLT, Int.reduceLE, Int.reduceGT, Int.reduceGE, Int.reduceAdd, Int.reduceSub, Int.reduceNeg, Int.reduceBNe, List.all_cons, List.all_nil, List.getElem?_cons_zero, List.getElem?_cons_succ, List.getElem?_nil, Option.map_some, List.length_cons, List.length_nil, List.set_cons_zero, List.set_cons_succ, List.map_cons, List.map_nil, List.drop_zero, List.drop_succ_cons, List.drop_nil, List.take_zero, List.take_succ_cons, List.take_nil, ite_true, ite_false, if_true, if_false, implies_true, forall_const, beq_self_eq_true, List.replicate_succ, List.replicate_zero, List.headD_cons, List.cons_append, List.nil_append, bne_self_eq_false]
theorem texts_true {b : PV} {p : List Int} (hb : Lv eI 1 b p) (s : List UInt8) : CallA T 0 3 [b, .str s] [] = some (.bool true, []) := texts_at alive_spec hb s
end Go.Am.YtikgjdmdcpomlaaDoor
namespace Go.Am
set_option linter.unusedVariables false
set_option linter.unusedSimpArgs false
structure GS (h : Hp) (T sz : Nat) (z v : PV) (es : List PV) (H : Hp) : Prop where
  tr : trunc H (size h) = h
  le : size h ≤ size H
  va : (es = [] ∧ v = z) ∨ (es ≠ [] ∧ ∃ t, v = .sl (.tok t) sz es ∧ size h ≤ t ∧ t < size H ∧ getTok H t = some (es.length, T))
section
variable {h H : Hp} {T sz : Nat} {z v : PV} {es : List PV}
theorem GS.zero (h : Hp) (T sz : Nat) (z : PV) : GS h T sz z z [] h := ⟨by simp [trunc, size], Nat.le_refl _, .inl ⟨rfl, rfl⟩⟩
theorem box_ext (H l : Hp) {t : Nat} (ht : t < size H) : box? (ext H l) t = box? H t := by
  simp only [box?, ext, size] at *
  rw [List.getElem?_append_left ht]
theorem GS.ext (g : GS h T sz z v es H) (l : List Box) : GS h T sz z v es (ext H l) := by
  refine ⟨by rw [trunc_ext_ge l g.le]; exact g.tr, by have := g.le; simp only [size, Go.Am.ext, List.length_append] at *; omega, ?_⟩
  rcases g.va with a | ⟨a, t, b, c, d, e⟩
  · exact .inl a
  · refine .inr ⟨a, t, b, c, by simp only [size, Go.Am.ext, List.length_append] at *; omega, ?_⟩
    unfold getTok at *
    rw [box_ext H l d]; exact e
theorem GS.set (g : GS h T sz z v es H) {b : Nat} {cs cs' : List PV} (hb : getBox H b = some cs) (hn : size h ≤ b) : GS h T sz z v es (setBox H b cs') := by
  refine ⟨by have := g.tr; simp only [trunc, setBox, setBx] at *; rw [List.take_set_of_le hn]; exact this, by have := g.le; simp only [size, setBox, setBx, List.length_set] at *; exact this, ?_⟩
  rcases g.va with a | ⟨a, t, q, c, d, e⟩
  · exact .inl a
  · refine .inr ⟨a, t, q, c, by simpa only [size, setBox, setBx, List.length_set] using d, ?_⟩
    have hne : b ≠ t := by
      rintro rfl
      unfold getTok at e
      unfold getBox at hb
      cases hq : box? H b with
      | none => rw [hq] at hb; cases hb
      | some x =>
        rw [hq] at hb e
        cases x <;> simp [Option.bnd, cellsOf, tokOf] at hb e
    unfold getTok at *
    simp only [box?, setBox, setBx] at *
    rw [List.getElem?_set_ne hne]; exact e
theorem GS.grow (g : GS h T sz z v es H) (hz : gZ sz z) {x : PV} (hf : fits sz x = true) (hs : strip x = x) (hl : es.length + 1 ≤ lim2) :
    ∃ v' H', growT H T sz v [x] = some (v', H') ∧ GS h T sz z v' (es ++ [x]) H' := by
  have hff : [x].all (fits sz) = true := by simp [hf]
  have hss : strips [x] = [x] := by rw [strips, hs]; rfl
  rcases g.va with ⟨rfl, rfl⟩ | ⟨hne, t, rfl, c, d, e⟩
  · refine ⟨.sl (.tok (size H)) sz [x], Go.Am.ext H [.tok 1 T], ?_, ?_⟩
    · unfold growT
      rw [if_pos hff]
      simp only [List.length_nil] at hl
      rcases hz with rfl | rfl
      · simp only
        rw [if_pos (by simpa using hl), hss]; rfl
      · simp only
        rw [if_pos (by simpa using hl), hss]; rfl
    · refine ⟨by rw [trunc_ext_ge _ g.le]; exact g.tr, by have := g.le; simp only [size, Go.Am.ext, List.length_append] at *; omega, .inr ⟨by simp, size H, rfl, g.le, by simp [size, Go.Am.ext], ?_⟩⟩
      simp [getTok, box?, size, Go.Am.ext, Option.bnd, tokOf]
  · refine ⟨.sl (.tok t) sz (es ++ [x]), setBx H t (.tok (es.length + 1) T), ?_, ?_⟩
    · unfold growT
      rw [if_pos hff]
      simp only [e, Option.bnd]
      rw [if_pos (by simpa using hl), hss]; rfl
    · refine ⟨by have := g.tr; simp only [trunc, setBx] at *; rw [List.take_set_of_le c]; exact this, by have := g.le; simp only [size, setBx, List.length_set] at *; exact this, .inr ⟨by simp, t, rfl, c, by simpa only [size, setBx, List.length_set] using d, ?_⟩⟩
      have hd : t < H.length := d
      simp [getTok, box?, setBx, List.getElem?_set_self hd, Option.bnd, tokOf]
theorem GS.frz (g : GS h T sz z v es H) (hz : gZ sz z) (n : Nat) (k : Hp) : frz n k v = some (gD z sz es) := by
  rcases g.va with ⟨rfl, rfl⟩ | ⟨hne, t, rfl, _⟩
  · rcases hz with rfl | rfl <;> rfl
  · cases es with
    | nil => exact (hne rfl).elim
    | cons x xs => rfl
end
theorem GS.rl {α : Type} {e : α → PV} {h H : Hp} {T sz : Nat} {z v : PV} {l : List α} (g : GS h T sz z v (l.map e) H) (hz : gZ sz z) : Rl e sz v l := by
  rcases g.va with ⟨a, rfl⟩ | ⟨hne, t, rfl, _⟩
  · have : l = [] := by simpa using a
    subst this
    rcases hz with rfl | rfl
    · exact rl_nils
    · exact rl_sl .full []
  · exact rl_sl _ _
end Go.Am
namespace Go.Am.YtikgjdmdcpomlaaDoor
set_option maxRecDepth 100000
set_option linter.unusedSimpArgs false
set_option linter.unusedVariables false
/-- A bytes value. -/
abbrev Bx := {p : PV // ∃ l, Bv p l}
noncomputable def bxL (b : Bx) : List UInt8 := b.2.choose
theorem bxV (b : Bx) : Bv b.1 (bxL b) := b.2.choose_spec
theorem u8s_inj : ∀ {l m : List UInt8}, u8s l = u8s m → l = m
  | [], [], _ => rfl
  | [], _ :: _, h => by simp [u8s] at h
  | _ :: _, [], h => by simp [u8s] at h
  | x :: l, y :: m, h => by
    rw [Bu.cons, Bu.cons] at h
    injection h with h1 h2
    injection h1 with _ h3
    have e1 : l = m := u8s_inj h2
    have e2 : x = y := UInt8.toNat_inj.1 (by omega)
    rw [e1, e2]
theorem bv_inj {p : PV} {l m : List UInt8} (h1 : Bv p l) (h2 : Bv p m) : l = m := by
  have e1 := h1.elems []
  rw [h2.elems []] at e1
  exact (u8s_inj (Option.some.inj e1)).symm
theorem bxL_of {p : PV} {l : List UInt8} (h : Bv p l) : bxL ⟨p, l, h⟩ = l := bv_inj (bxV ⟨p, l, h⟩) h
abbrev Op := Int × Bx
abbrev Pr := List UInt8 × List UInt8 × Bool
def eX (b : Bx) : PV := b.1
def eO (o : Op) : PV := .agg [i64 o.1, o.2.1]
def eP (p : Pr) : PV := .agg [.str p.1, .str p.2.1, .bool p.2.2]
theorem elX : El eX 1 := by
  refine ⟨fun a => ?_, fun a => ?_, fun a => (bxV a).strip, fun n a => (bxV a).below n⟩
  · show a.1.cells.length = 1
    rw [(bxV a).cells]; rfl
  · show a.1.cells.all scalar = true
    rw [(bxV a).cells]
    simp [(bxV a).scalar]
theorem elO : El eO 2 := by
  refine ⟨fun a => rfl, fun a => ?_, fun a => ?_, fun n a => ?_⟩
  · show List.all [i64 a.1, a.2.1] scalar = true
    simp only [List.all_cons, (bxV a.2).scalar]; rfl
  · show PV.agg [i64 a.1, strip a.2.1] = _
    rw [(bxV a.2).strip]; rfl
  · show (true && (below n a.2.1 && true)) = true
    rw [(bxV a.2).below]; rfl
theorem elP : El eP 3 := ⟨fun _ => rfl, fun _ => rfl, fun _ => rfl, fun _ _ => rfl⟩
noncomputable def fewB (l : List Op) : Bool := decide (l.length ≤ 40) && l.all fun o => decide ((bxL o.2).length ≤ 400)
theorem few_loop {h : Hp} {b : PV} {l : List Op} (hb : Rl eO 2 b l) (hl : l.length ≤ 40) : ∀ (r q : List Op), l = q ++ r →
    P15_0 (size h) (size h) (i64 q.length) b h = some (.bool (r.all fun o => decide ((bxL o.2).length ≤ 400)), h)
  | [], q, hp => by
    rw [P15_0_eq]
    have e : q.length = l.length := by rw [hp]; simp
    have h1 : ((q.length : Int) < (l.length : Int)) = False := by simp; omega
    simp only [h1, hb.len, ↓evD, evU, Nat.reduceAdd, Nat.reduceSub, Nat.reduceMul, Nat.reduceLeDiff, Nat.reduceLT, Nat.reduceEqDiff, Nat.reduceBEq, reduceIte, reduceCtorEq, Int.reduceBEq, Int.reduceEq, Int.reduceLT, Int.reduceLE, Int.reduceGT, Int.reduceGE, Int.reduceAdd, Int.reduceSub, Int.reduceNeg, Int.reduceBNe, List.all_cons, List.all_nil, List.getElem?_cons_zero, List.getElem?_cons_succ, List.getElem?_nil, Option.map_some, List.length_cons, List.length_nil, List.set_cons_zero, List.set_cons_succ, List.map_cons, List.map_nil, List.drop_zero, List.drop_succ_cons, List.drop_nil, List.take_zero, List.take_succ_cons, List.take_nil, ite_true, ite_false, if_true, if_false, implies_true, forall_const, beq_self_eq_true, List.replicate_succ, List.replicate_zero, List.headD_cons, List.cons_append, List.nil_append, bne_self_eq_false]
  | x :: r, q, hp => by
    rw [P15_0_eq]
    have el : l.length = q.length + (r.length + 1) := by rw [hp]; simp
    have h1 : ((q.length : Int) < (l.length : Int)) = True := by simp; omega
    have hx : l[q.length]? = some x := by rw [hp]; simp
    have hec : (eO x).cells = [i64 x.1, x.2.1] := rfl
    have w1 : IntKind.i64.wrap ((q.length : Int) + 1) = (((q ++ [x]).length : Nat) : Int) := by rw [show (q ++ [x]).length = q.length + 1 by simp, wrap_small] <;> omega
    have ih := few_loop (h := h) hb hl r (q ++ [x]) (by rw [hp]; simp)
    by_cases c1 : ((bxL x.2).length : Int) > 400
    · have : decide ((bxL x.2).length ≤ 400) = false := by simp; omega
      simp only [h1, hb.len, hb.idx hx, hec, (bxV x.2).len, c1, this, ↓evD, evU, Nat.reduceAdd, Nat.reduceSub, Nat.reduceMul, Nat.reduceLeDiff, Nat.reduceLT, Nat.reduceEqDiff, Nat.reduceBEq, reduceIte, reduceCtorEq, Int.reduceBEq, Int.reduceEq, Int.reduceLT, Int.reduceLE, Int.reduceGT, Int.reduceGE, Int.reduceAdd, Int.reduceSub, Int.reduceNeg, Int.reduceBNe, List.all_cons, List.all_nil, List.getElem?_cons_zero, List.getElem?_cons_succ, List.getElem?_nil, Option.map_some, List.length_cons, List.length_nil, List.set_cons_zero, List.set_cons_succ, List.map_cons, List.map_nil, List.drop_zero, List.drop_succ_cons, List.drop_nil, List.take_zero, List.take_succ_cons, List.take_nil, ite_true, ite_false, if_true, if_false, implies_true, forall_const, beq_self_eq_true, List.replicate_succ, List.replicate_zero, List.headD_cons, List.cons_append, List.nil_append, bne_self_eq_false]
    have : decide ((bxL x.2).length ≤ 400) = true := by simp; omega
    simp only [h1, hb.len, hb.idx hx, hec, (bxV x.2).len, c1, this, w1, ih, ↓evD, evU, Nat.reduceAdd, Nat.reduceSub, Nat.reduceMul, Nat.reduceLeDiff, Nat.reduceLT, Nat.reduceEqDiff, Nat.reduceBEq, reduceIte, reduceCtorEq, Int.reduceBEq, Int.reduceEq, Int.reduceLT, Int.reduceLE, Int.reduceGT, Int.reduceGE, Int.reduceAdd, Int.reduceSub, Int.reduceNeg, Int.reduceBNe, List.all_cons, List.all_nil, List.getElem?_cons_zero, List.getElem?_cons_succ, List.getElem?_nil, Option.map_some, List.length_cons, List.length_nil, List.set_cons_zero, List.set_cons_succ, List.map_cons, List.map_nil, List.drop_zero, List.drop_succ_cons, List.drop_nil, List.take_zero, List.take_succ_cons, List.take_nil, ite_true, ite_false, if_true, if_false, implies_true, forall_const, beq_self_eq_true, List.replicate_succ, List.replicate_zero, List.headD_cons, List.cons_append, List.nil_append, bne_self_eq_false]
theorem few_spec {base : Nat} {h : Hp} {b : PV} {l : List Op} (hb : Rl eO 2 b l) : CallA T base 15 [b] h = some (.bool (fewB l), h) := by
  rw [S15]
  unfold fewB
  by_cases h3 : l.length ≤ 40
  · have h1 : ((l.length : Int) > 40) = False := by simp; omega
    have := few_loop (h := h) hb h3 l [] rfl
    rw [decide_eq_true h3]
    simp only [hb.len, h1, ↓evD, evU, Nat.reduceAdd, Nat.reduceSub, Nat.reduceMul, Nat.reduceLeDiff, Nat.reduceLT, Nat.reduceEqDiff, Nat.reduceBEq, reduceIte, reduceCtorEq, Int.reduceBEq, Int.reduceEq, Int.reduceLT, Int.reduceLE, Int.reduceGT, Int.reduceGE, Int.reduceAdd, Int.reduceSub, Int.reduceNeg, Int.reduceBNe, List.all_cons, List.all_nil, List.getElem?_cons_zero, List.getElem?_cons_succ, List.getElem?_nil, Option.map_some, List.length_cons, List.length_nil, List.set_cons_zero, List.set_cons_succ, List.map_cons, List.map_nil, List.drop_zero, List.drop_succ_cons, List.drop_nil, List.take_zero, List.take_succ_cons, List.take_nil, ite_true, ite_false, if_true, if_false, implies_true, forall_const, beq_self_eq_true, List.replicate_succ, List.replicate_zero, List.headD_cons, List.cons_append, List.nil_append, bne_self_eq_false]
    exact this
  · have h1 : ((l.length : Int) > 40) = True := by simp; omega
    rw [decide_eq_false h3]
    simp only [hb.len, h1, ↓evD, evU, Nat.reduceAdd, Nat.reduceSub, Nat.reduceMul, Nat.reduceLeDiff, Nat.reduceLT, Nat.reduceEqDiff, Nat.reduceBEq, reduceIte, reduceCtorEq, Int.reduceBEq, Int.reduceEq, Int.reduceLT, Int.reduceLE, Int.reduceGT, Int.reduceGE, Int.reduceAdd, Int.reduceSub, Int.reduceNeg, Int.reduceBNe, List.all_cons, List.all_nil, List.getElem?_cons_zero, List.getElem?_cons_succ, List.getElem?_nil, Option.map_some, List.length_cons, List.length_nil, List.set_cons_zero, List.set_cons_succ, List.map_cons, List.map_nil, List.drop_zero, List.drop_succ_cons, List.drop_nil, List.take_zero, List.take_succ_cons, List.take_nil, ite_true, ite_false, if_true, if_false, implies_true, forall_const, beq_self_eq_true, List.replicate_succ, List.replicate_zero, List.headD_cons, List.cons_append, List.nil_append, bne_self_eq_false]
/-- slices.Clone. -/
noncomputable def clP (b : Bx) : PV := if b.1 = .nils then .nils else gD zF 1 (u8s (bxL b))
theorem clP_bv (b : Bx) : Bv (clP b) (bxL b) := by
  unfold clP
  split
  · rename_i h
    have := bxV b
    rw [h] at this
    exact this
  · exact Bv.done (gZ_full 1) _
noncomputable def clX (b : Bx) : Bx := ⟨clP b, bxL b, clP_bv b⟩
theorem bxL_clX (b : Bx) : bxL (clX b) = bxL b := bxL_of (clP_bv b)
theorem clone_spec {base : Nat} {h : Hp} (b : Bx) (hl : (bxL b).length ≤ 1000000) : CallA T base 50 [b.1] h = some ((clX b).1, h) := by
  show _ = some (clP b, h)
  rw [S50]
  unfold clP
  rcases bxV b with ⟨h1, h2⟩ | h1 | h1
  · rw [h1]
    simp only [↓evD, evU, Nat.reduceAdd, Nat.reduceSub, Nat.reduceMul, Nat.reduceLeDiff, Nat.reduceLT, Nat.reduceEqDiff, Nat.reduceBEq, reduceIte, reduceCtorEq, Int.reduceBEq, Int.reduceEq, Int.reduceLT, Int.reduceLE, Int.reduceGT, Int.reduceGE, Int.reduceAdd, Int.reduceSub, Int.reduceNeg, Int.reduceBNe, List.all_cons, List.all_nil, List.getElem?_cons_zero, List.getElem?_cons_succ, List.getElem?_nil, Option.map_some, List.length_cons, List.length_nil, List.set_cons_zero, List.set_cons_succ, List.map_cons, List.map_nil, List.drop_zero, List.drop_succ_cons, List.drop_nil, List.take_zero, List.take_succ_cons, List.take_nil, ite_true, ite_false, if_true, if_false, implies_true, forall_const, beq_self_eq_true, List.replicate_succ, List.replicate_zero, List.headD_cons, List.cons_append, List.nil_append, bne_self_eq_false]
  · have hne : ¬ b.1 = .nils := by rw [h1]; simp
    rw [if_neg hne, h1]
    have hg := gGrow (h := h) (T := 5) (gZ_full 1) [] (u8s (bxL b)) (Bu.fits _) (Bu.strips _) (by unfold lim2; simp only [List.length_nil, Bu.len]; omega)
    rw [gV_nil, gH_nil, List.nil_append] at hg
    simp only [hg, frz_gV (gZ_full 1), below_gD (gZ_full 1) _ _ (Bu.below _ _), trunc_gH, ↓evD, evU, Nat.reduceAdd, Nat.reduceSub, Nat.reduceMul, Nat.reduceLeDiff, Nat.reduceLT, Nat.reduceEqDiff, Nat.reduceBEq, reduceIte, reduceCtorEq, Int.reduceBEq, Int.reduceEq, Int.reduceLT, Int.reduceLE, Int.reduceGT, Int.reduceGE, Int.reduceAdd, Int.reduceSub, Int.reduceNeg, Int.reduceBNe, List.all_cons, List.all_nil, List.getElem?_cons_zero, List.getElem?_cons_succ, List.getElem?_nil, Option.map_some, List.length_cons, List.length_nil, List.set_cons_zero, List.set_cons_succ, List.map_cons, List.map_nil, List.drop_zero, List.drop_succ_cons, List.drop_nil, List.take_zero, List.take_succ_cons, List.take_nil, ite_true, ite_false, if_true, if_false, implies_true, forall_const, beq_self_eq_true, List.replicate_succ, List.replicate_zero, List.headD_cons, List.cons_append, List.nil_append, bne_self_eq_false]
  · have hne : ¬ b.1 = .nils := by rw [h1]; simp
    rw [if_neg hne, h1]
    have hg := gGrow (h := h) (T := 5) (gZ_full 1) [] (u8s (bxL b)) (Bu.fits _) (Bu.strips _) (by unfold lim2; simp only [List.length_nil, Bu.len]; omega)
    rw [gV_nil, gH_nil, List.nil_append] at hg
    simp only [hg, frz_gV (gZ_full 1), below_gD (gZ_full 1) _ _ (Bu.below _ _), trunc_gH, ↓evD, evU, Nat.reduceAdd, Nat.reduceSub, Nat.reduceMul, Nat.reduceLeDiff, Nat.reduceLT, Nat.reduceEqDiff, Nat.reduceBEq, reduceIte, reduceCtorEq, Int.reduceBEq, Int.reduceEq, Int.reduceLT, Int.reduceLE, Int.reduceGT, Int.reduceGE, Int.reduceAdd, Int.reduceSub, Int.reduceNeg, Int.reduceBNe, List.all_cons, List.all_nil, List.getElem?_cons_zero, List.getElem?_cons_succ, List.getElem?_nil, Option.map_some, List.length_cons, List.length_nil, List.set_cons_zero, List.set_cons_succ, List.map_cons, List.map_nil, List.drop_zero, List.drop_succ_cons, List.drop_nil, List.take_zero, List.take_succ_cons, List.take_nil, ite_true, ite_false, if_true, if_false, implies_true, forall_const, beq_self_eq_true, List.replicate_succ, List.replicate_zero, List.headD_cons, List.cons_append, List.nil_append, bne_self_eq_false]
noncomputable def allX (n : Int) : List Op → List Bx
  | [] => []
  | o :: l => if o.1 == n then clX o.2 :: allX n l else allX n l
def allR (n : Int) : List Op → List Bx
  | [] => []
  | o :: l => if o.1 == n then o.2 :: allR n l else allR n l
theorem all_loop {h : Hp} {b : PV} {l : List Op} (n : Int) (hb : Rl eO 2 b l) (hl : l.length ≤ 1000000) (hs : ∀ o ∈ l, (bxL o.2).length ≤ 1000000) : ∀ (r q : List Op) (out : List Bx) (v : PV) (H : Hp), l = q ++ r → out.length ≤ q.length → GS h 62 1 .nils v (out.map eX) H →
    P39_0 (size h) (size h) (i64 q.length) v (i64 n) b (i64 l.length) H = some (gD .nils 1 ((out ++ allX n r).map eX), h)
  | [], q, out, v, H, hp, ho, g => by
    rw [P39_0_eq]
    have e : q.length = l.length := by rw [hp]; simp
    have h1 : ((q.length : Int) < (l.length : Int)) = False := by simp; omega
    simp only [h1, allX, List.append_nil, g.frz (gZ_nils 1), below_gD (gZ_nils 1) _ _ (elX.belows _ _), g.tr, ↓evD, evU, Nat.reduceAdd, Nat.reduceSub, Nat.reduceMul, Nat.reduceLeDiff, Nat.reduceLT, Nat.reduceEqDiff, Nat.reduceBEq, reduceIte, reduceCtorEq, Int.reduceBEq, Int.reduceEq, Int.reduceLT, Int.reduceLE, Int.reduceGT, Int.reduceGE, Int.reduceAdd, Int.reduceSub, Int.reduceNeg, Int.reduceBNe, List.all_cons, List.all_nil, List.getElem?_cons_zero, List.getElem?_cons_succ, List.getElem?_nil, Option.map_some, List.length_cons, List.length_nil, List.set_cons_zero, List.set_cons_succ, List.map_cons, List.map_nil, List.drop_zero, List.drop_succ_cons, List.drop_nil, List.take_zero, List.take_succ_cons, List.take_nil, ite_true, ite_false, if_true, if_false, implies_true, forall_const, beq_self_eq_true, List.replicate_succ, List.replicate_zero, List.headD_cons, List.cons_append, List.nil_append, bne_self_eq_false]
  | x :: r, q, out, v, H, hp, ho, g => by
    rw [P39_0_eq]
    have el : l.length = q.length + (r.length + 1) := by rw [hp]; simp
    have h1 : ((q.length : Int) < (l.length : Int)) = True := by simp; omega
    have hx : l[q.length]? = some x := by rw [hp]; simp
    have hec : (eO x).cells = [i64 x.1, x.2.1] := rfl
    have w1 : IntKind.i64.wrap ((q.length : Int) + 1) = (((q ++ [x]).length : Nat) : Int) := by rw [show (q ++ [x]).length = q.length + 1 by simp, wrap_small] <;> omega
    have n1 : (size H < size h) = False := by have := g.le; simp; omega
    have g1 := g.ext [.cells [i64 x.1, x.2.1]]
    have hc : ∀ base h, _ := fun base h => clone_spec (base := base) (h := h) x.2 (hs x (by rw [hp]; simp))
    have st : strip (clX x.2).1 = (clX x.2).1 := (bxV (clX x.2)).strip
    have cel : (clX x.2).1.cells = [(clX x.2).1] := (bxV (clX x.2)).cells
    have sc := (bxV (clX x.2)).scalar
    have bs := (bxV x.2).scalar
    have bc := (bxV x.2).cells
    cases hq : (x.1 == n)
    · have ih := all_loop (h := h) n hb hl hs r (q ++ [x]) out v _ (by rw [hp]; simp) (by simp; omega) g1
      simp only [h1, hb.idx hx, hec, bs, bc, n1, hq, w1, ih, allX, ↓evD, evU, Nat.reduceAdd, Nat.reduceSub, Nat.reduceMul, Nat.reduceLeDiff, Nat.reduceLT, Nat.reduceEqDiff, Nat.reduceBEq, reduceIte, reduceCtorEq, Int.reduceBEq, Int.reduceEq, Int.reduceLT, Int.reduceLE, Int.reduceGT, Int.reduceGE, Int.reduceAdd, Int.reduceSub, Int.reduceNeg, Int.reduceBNe, List.all_cons, List.all_nil, List.getElem?_cons_zero, List.getElem?_cons_succ, List.getElem?_nil, Option.map_some, List.length_cons, List.length_nil, List.set_cons_zero, List.set_cons_succ, List.map_cons, List.map_nil, List.drop_zero, List.drop_succ_cons, List.drop_nil, List.take_zero, List.take_succ_cons, List.take_nil, ite_true, ite_false, if_true, if_false, implies_true, forall_const, beq_self_eq_true, List.replicate_succ, List.replicate_zero, List.headD_cons, List.cons_append, List.nil_append, bne_self_eq_false]
    · obtain ⟨v', H', e1, g2⟩ := g1.grow (gZ_nils 1) (x := (clX x.2).1) (elX.fits [clX x.2] |> fun h => by simpa [eX] using h) st (by unfold lim2; simp; omega)
      have g3 : GS h 62 1 .nils v' ((out ++ [clX x.2]).map eX) H' := by rw [List.map_append]; exact g2
      have ih := all_loop (h := h) n hb hl hs r (q ++ [x]) (out ++ [clX x.2]) v' H' (by rw [hp]; simp) (by simp; omega) g3
      have e3 : out ++ [clX x.2] ++ allX n r = out ++ clX x.2 :: allX n r := by simp
      rw [e3] at ih
      simp only [h1, hb.idx hx, hec, bs, bc, n1, hq, hc, st, cel, sc, e1, w1, ih, allX, ↓evD, evU, Nat.reduceAdd, Nat.reduceSub, Nat.reduceMul, Nat.reduceLeDiff, Nat.reduceLT, Nat.reduceEqDiff, Nat.reduceBEq, reduceIte, reduceCtorEq, Int.reduceBEq, Int.reduceEq, Int.reduceLT, Int.reduceLE, Int.reduceGT, Int.reduceGE, Int.reduceAdd, Int.reduceSub, Int.reduceNeg, Int.reduceBNe, List.all_cons, List.all_nil, List.getElem?_cons_zero, List.getElem?_cons_succ, List.getElem?_nil, Option.map_some, List.length_cons, List.length_nil, List.set_cons_zero, List.set_cons_succ, List.map_cons, List.map_nil, List.drop_zero, List.drop_succ_cons, List.drop_nil, List.take_zero, List.take_succ_cons, List.take_nil, ite_true, ite_false, if_true, if_false, implies_true, forall_const, beq_self_eq_true, List.replicate_succ, List.replicate_zero, List.headD_cons, List.cons_append, List.nil_append, bne_self_eq_false]
theorem all_spec {base : Nat} {h : Hp} {b : PV} {l : List Op} (n : Int) (hb : Rl eO 2 b l) (hl : l.length ≤ 1000000) (hs : ∀ o ∈ l, (bxL o.2).length ≤ 1000000) : CallA T base 39 [b, i64 n] h = some (gD .nils 1 ((allX n l).map eX), h) := by
  rw [S39]
  have := all_loop (h := h) n hb hl hs l [] [] .nils h rfl (by simp) (GS.zero h 62 1 .nils)
  simp only [hb.len, ↓evD, evU, Nat.reduceAdd, Nat.reduceSub, Nat.reduceMul, Nat.reduceLeDiff, Nat.reduceLT, Nat.reduceEqDiff, Nat.reduceBEq, reduceIte, reduceCtorEq, Int.reduceBEq, Int.reduceEq, Int.reduceLT, Int.reduceLE, Int.reduceGT, Int.reduceGE, Int.reduceAdd, Int.reduceSub, Int.reduceNeg, Int.reduceBNe, List.all_cons, List.all_nil, List.getElem?_cons_zero, List.getElem?_cons_succ, List.getElem?_nil, Option.map_some, List.length_cons, List.length_nil, List.set_cons_zero, List.set_cons_succ, List.map_cons, List.map_nil, List.drop_zero, List.drop_succ_cons, List.drop_nil, List.take_zero, List.take_succ_cons, List.take_nil, ite_true, ite_false, if_true, if_false, implies_true, forall_const, beq_self_eq_true, List.replicate_succ, List.replicate_zero, List.headD_cons, List.cons_append, List.nil_append, bne_self_eq_false]
  exact this
theorem allR_loop {h : Hp} {b : PV} {l : List Op} (n : Int) (hb : Rl eO 2 b l) (hl : l.length ≤ 1000000) : ∀ (r q : List Op) (out : List Bx), l = q ++ r → out.length ≤ q.length →
    P40_0 (size h) (size h) (i64 q.length) b (gV h zF 1 (out.map eX)) (i64 n) (gH h 62 (out.map eX)) = some (gD zF 1 ((out ++ allR n r).map eX), h)
  | [], q, out, hp, ho => by
    rw [P40_0_eq]
    have e : q.length = l.length := by rw [hp]; simp
    have h1 : ((q.length : Int) < (l.length : Int)) = False := by simp; omega
    have gz := gZ_full 1
    simp only [hb.len, h1, allR, List.append_nil, frz_gV gz, below_gD gz _ _ (elX.belows _ _), trunc_gH, ↓evD, evU, Nat.reduceAdd, Nat.reduceSub, Nat.reduceMul, Nat.reduceLeDiff, Nat.reduceLT, Nat.reduceEqDiff, Nat.reduceBEq, reduceIte, reduceCtorEq, Int.reduceBEq, Int.reduceEq, Int.reduceLT, Int.reduceLE, Int.reduceGT, Int.reduceGE, Int.reduceAdd, Int.reduceSub, Int.reduceNeg, Int.reduceBNe, List.all_cons, List.all_nil, List.getElem?_cons_zero, List.getElem?_cons_succ, List.getElem?_nil, Option.map_some, List.length_cons, List.length_nil, List.set_cons_zero, List.set_cons_succ, List.map_cons, List.map_nil, List.drop_zero, List.drop_succ_cons, List.drop_nil, List.take_zero, List.take_succ_cons, List.take_nil, ite_true, ite_false, if_true, if_false, implies_true, forall_const, beq_self_eq_true, List.replicate_succ, List.replicate_zero, List.headD_cons, List.cons_append, List.nil_append, bne_self_eq_false]
  | x :: r, q, out, hp, ho => by
    rw [P40_0_eq]
    have el : l.length = q.length + (r.length + 1) := by rw [hp]; simp
    have h1 : ((q.length : Int) < (l.length : Int)) = True := by simp; omega
    have hx : l[q.length]? = some x := by rw [hp]; simp
    have hec : (eO x).cells = [i64 x.1, x.2.1] := rfl
    have w1 : IntKind.i64.wrap ((q.length : Int) + 1) = (((q ++ [x]).length : Nat) : Int) := by rw [show (q ++ [x]).length = q.length + 1 by simp, wrap_small] <;> omega
    have st := (bxV x.2).strip
    have bs := (bxV x.2).scalar
    have bc := (bxV x.2).cells
    cases hq : (x.1 == n)
    · have ih := allR_loop (h := h) n hb hl r (q ++ [x]) out (by rw [hp]; simp) (by simp; omega)
      simp only [hb.len, h1, hb.idx hx, hec, hq, w1, ih, allR, ↓evD, evU, Nat.reduceAdd, Nat.reduceSub, Nat.reduceMul, Nat.reduceLeDiff, Nat.reduceLT, Nat.reduceEqDiff, Nat.reduceBEq, reduceIte, reduceCtorEq, Int.reduceBEq, Int.reduceEq, Int.reduceLT, Int.reduceLE, Int.reduceGT, Int.reduceGE, Int.reduceAdd, Int.reduceSub, Int.reduceNeg, Int.reduceBNe, List.all_cons, List.all_nil, List.getElem?_cons_zero, List.getElem?_cons_succ, List.getElem?_nil, Option.map_some, List.length_cons, List.length_nil, List.set_cons_zero, List.set_cons_succ, List.map_cons, List.map_nil, List.drop_zero, List.drop_succ_cons, List.drop_nil, List.take_zero, List.take_succ_cons, List.take_nil, ite_true, ite_false, if_true, if_false, implies_true, forall_const, beq_self_eq_true, List.replicate_succ, List.replicate_zero, List.headD_cons, List.cons_append, List.nil_append, bne_self_eq_false]
    · have gg := gOneL (h := h) (T := 62) elX (gZ_full 1) out x.2 (by unfold lim2; omega)
      have e1 : eX x.2 = x.2.1 := rfl
      rw [e1] at gg
      have ih := allR_loop (h := h) n hb hl r (q ++ [x]) (out ++ [x.2]) (by rw [hp]; simp) (by simp; omega)
      have e3 : out ++ [x.2] ++ allR n r = out ++ x.2 :: allR n r := by simp
      rw [e3] at ih
      simp only [hb.len, h1, hb.idx hx, hec, hq, st, bs, bc, gg, w1, ih, allR, ↓evD, evU, Nat.reduceAdd, Nat.reduceSub, Nat.reduceMul, Nat.reduceLeDiff, Nat.reduceLT, Nat.reduceEqDiff, Nat.reduceBEq, reduceIte, reduceCtorEq, Int.reduceBEq, Int.reduceEq, Int.reduceLT, Int.reduceLE, Int.reduceGT, Int.reduceGE, Int.reduceAdd, Int.reduceSub, Int.reduceNeg, Int.reduceBNe, List.all_cons, List.all_nil, List.getElem?_cons_zero, List.getElem?_cons_succ, List.getElem?_nil, Option.map_some, List.length_cons, List.length_nil, List.set_cons_zero, List.set_cons_succ, List.map_cons, List.map_nil, List.drop_zero, List.drop_succ_cons, List.drop_nil, List.take_zero, List.take_succ_cons, List.take_nil, ite_true, ite_false, if_true, if_false, implies_true, forall_const, beq_self_eq_true, List.replicate_succ, List.replicate_zero, List.headD_cons, List.cons_append, List.nil_append, bne_self_eq_false]
theorem allR_spec {base : Nat} {h : Hp} {b : PV} {l : List Op} (n : Int) (hb : Rl eO 2 b l) (hl : l.length ≤ 1000000) : CallA T base 40 [b, i64 n] h = some (gD zF 1 ((allR n l).map eX), h) := by
  rw [S40]
  have := allR_loop (h := h) n hb hl l [] [] rfl (by simp)
  rw [List.map_nil, gV_nil, gH_nil] at this
  simp only [↓evD, evU, Nat.reduceAdd, Nat.reduceSub, Nat.reduceMul, Nat.reduceLeDiff, Nat.reduceLT, Nat.reduceEqDiff, Nat.reduceBEq, reduceIte, reduceCtorEq, Int.reduceBEq, Int.reduceEq, Int.reduceLT, Int.reduceLE, Int.reduceGT, Int.reduceGE, Int.reduceAdd, Int.reduceSub, Int.reduceNeg, Int.reduceBNe, List.all_cons, List.all_nil, List.getElem?_cons_zero, List.getElem?_cons_succ, List.getElem?_nil, Option.map_some, List.length_cons, List.length_nil, List.set_cons_zero, List.set_cons_succ, List.map_cons, List.map_nil, List.drop_zero, List.drop_succ_cons, List.drop_nil, List.take_zero, List.take_succ_cons, List.take_nil, ite_true, ite_false, if_true, if_false, implies_true, forall_const, beq_self_eq_true, List.replicate_succ, List.replicate_zero, List.headD_cons, List.cons_append, List.nil_append, bne_self_eq_false]
  exact this
end Go.Am.YtikgjdmdcpomlaaDoor
namespace Go.Am.YtikgjdmdcpomlaaDoor
set_option maxRecDepth 100000
set_option linter.unusedSimpArgs false
set_option linter.unusedVariables false
theorem bv_str {b : PV} {l : List UInt8} (hb : Bv b l) (h : Hp) : bytesStrB h b = some (.str l) := by
  rcases hb with ⟨rfl, rfl⟩ | rfl | rfl
  · rfl
  · show (bytesOf (u8s l)).bnd _ = _
    rw [Bu.bytesOf]; rfl
  · show (bytesOf (u8s l)).bnd _ = _
    rw [Bu.bytesOf]; rfl
theorem segs_loop {h : Hp} {b : PV} {l : List Bx} (hb : Rl eX 1 b l) (hl : l.length ≤ 1000000) : ∀ (r q : List Bx) (out : List (List UInt8)), l = q ++ r → out.length ≤ q.length →
    P21_0 (size h) (size h) (i64 q.length) (gV h .nils 1 (out.map eS)) b (i64 l.length) (gH h 9 (out.map eS)) = some (gD .nils 1 ((out ++ r.map bxL).map eS), h)
  | [], q, out, hp, ho => by
    rw [P21_0_eq]
    have e : q.length = l.length := by rw [hp]; simp
    have h1 : ((q.length : Int) < (l.length : Int)) = False := by simp; omega
    have gz := gZ_nils 1
    simp only [h1, List.map_nil, List.append_nil, frz_gV gz, below_gD gz _ _ (elS.belows _ _), trunc_gH, ↓evD, evU, Nat.reduceAdd, Nat.reduceSub, Nat.reduceMul, Nat.reduceLeDiff, Nat.reduceLT, Nat.reduceEqDiff, Nat.reduceBEq, reduceIte, reduceCtorEq, Int.reduceBEq, Int.reduceEq, Int.reduceLT, Int.reduceLE, Int.reduceGT, Int.reduceGE, Int.reduceAdd, Int.reduceSub, Int.reduceNeg, Int.reduceBNe, List.all_cons, List.all_nil, List.getElem?_cons_zero, List.getElem?_cons_succ, List.getElem?_nil, Option.map_some, List.length_cons, List.length_nil, List.set_cons_zero, List.set_cons_succ, List.map_cons, List.map_nil, List.drop_zero, List.drop_succ_cons, List.drop_nil, List.take_zero, List.take_succ_cons, List.take_nil, ite_true, ite_false, if_true, if_false, implies_true, forall_const, beq_self_eq_true, List.replicate_succ, List.replicate_zero, List.headD_cons, List.cons_append, List.nil_append, bne_self_eq_false]
  | x :: r, q, out, hp, ho => by
    rw [P21_0_eq]
    have el : l.length = q.length + (r.length + 1) := by rw [hp]; simp
    have h1 : ((q.length : Int) < (l.length : Int)) = True := by simp; omega
    have hx : l[q.length]? = some x := by rw [hp]; simp
    have hec : (eX x).cells = [x.1] := (bxV x).cells
    have w1 : IntKind.i64.wrap ((q.length : Int) + 1) = (((q ++ [x]).length : Nat) : Int) := by rw [show (q ++ [x]).length = q.length + 1 by simp, wrap_small] <;> omega
    have gg := gOneL (h := h) (T := 9) elS (gZ_nils 1) out (bxL x) (by unfold lim2; omega)
    have e1 : eS (bxL x) = .str (bxL x) := rfl
    rw [e1] at gg
    have ih := segs_loop (h := h) hb hl r (q ++ [x]) (out ++ [bxL x]) (by rw [hp]; simp) (by simp; omega)
    have e3 : out ++ [bxL x] ++ r.map bxL = out ++ (x :: r).map bxL := by simp
    rw [e3] at ih
    simp only [h1, hb.idx hx, hec, bv_str (bxV x), gg, w1, ih, ↓evD, evU, Nat.reduceAdd, Nat.reduceSub, Nat.reduceMul, Nat.reduceLeDiff, Nat.reduceLT, Nat.reduceEqDiff, Nat.reduceBEq, reduceIte, reduceCtorEq, Int.reduceBEq, Int.reduceEq, Int.reduceLT, Int.reduceLE, Int.reduceGT, Int.reduceGE, Int.reduceAdd, Int.reduceSub, Int.reduceNeg, Int.reduceBNe, List.all_cons, List.all_nil, List.getElem?_cons_zero, List.getElem?_cons_succ, List.getElem?_nil, Option.map_some, List.length_cons, List.length_nil, List.set_cons_zero, List.set_cons_succ, List.map_cons, List.map_nil, List.drop_zero, List.drop_succ_cons, List.drop_nil, List.take_zero, List.take_succ_cons, List.take_nil, ite_true, ite_false, if_true, if_false, implies_true, forall_const, beq_self_eq_true, List.replicate_succ, List.replicate_zero, List.headD_cons, List.cons_append, List.nil_append, bne_self_eq_false]
noncomputable def segX (l : List Op) : List (List UInt8) := (allX 11 l).map bxL
noncomputable def segR (l : List Op) : List (List UInt8) := (allR 11 l).map bxL
theorem allX_map (n : Int) : ∀ l : List Op, (allX n l).map bxL = (allR n l).map bxL
  | [] => rfl
  | o :: l => by
    rw [allX, allR]
    split
    · rw [List.map_cons, List.map_cons, allX_map n l, bxL_clX]
    · exact allX_map n l
theorem allX_len (n : Int) : ∀ l : List Op, (allX n l).length ≤ l.length
  | [] => Nat.le_refl _
  | o :: l => by
    have := allX_len n l
    rw [allX]
    split <;> simp <;> omega
theorem allR_len (n : Int) : ∀ l : List Op, (allR n l).length ≤ l.length
  | [] => Nat.le_refl _
  | o :: l => by
    have := allR_len n l
    rw [allR]
    split <;> simp <;> omega
theorem allR_mem {n : Int} {P : Bx → Prop} : ∀ {l : List Op}, (∀ o ∈ l, P o.2) → ∀ x ∈ allR n l, P x
  | [], _, x, hx => by simp [allR] at hx
  | o :: l, hs, x, hx => by
    have ih := allR_mem (n := n) (P := P) (l := l) fun o ho => hs o (by simp [ho])
    rw [allR] at hx
    split at hx
    · rcases List.mem_cons.1 hx with rfl | hx
      · exact hs o (by simp)
      · exact ih x hx
    · exact ih x hx
theorem segX_eq (l : List Op) : segX l = segR l := allX_map 11 l
theorem segX_mem {l : List Op} {k : Nat} (hs : ∀ o ∈ l, (bxL o.2).length ≤ k) : ∀ s ∈ segX l, s.length ≤ k := by
  intro s hq
  rw [segX_eq] at hq
  obtain ⟨x, hx, rfl⟩ := List.mem_map.1 hq
  exact allR_mem (P := fun x => (bxL x).length ≤ k) hs x hx
theorem segs_spec {base : Nat} {h : Hp} {b : PV} {l : List Op} (hb : Rl eO 2 b l) (hl : l.length ≤ 1000000) (hs : ∀ o ∈ l, (bxL o.2).length ≤ 1000000) : CallA T base 21 [b] h = some (gD .nils 1 ((segX l).map eS), h) := by
  rw [S21]
  have hA : ∀ base h, _ := fun base h => all_spec (base := base) (h := h) 11 hb hl hs
  have hr := (Lv.done (e := eX) (gZ_nils 1) (allX 11 l)).rl
  have := segs_loop (h := h) hr (by have := allX_len 11 l; omega) (allX 11 l) [] [] rfl (by simp)
  rw [List.map_nil, gV_nil, gH_nil] at this
  simp only [hA, hr.len, ↓evD, evU, Nat.reduceAdd, Nat.reduceSub, Nat.reduceMul, Nat.reduceLeDiff, Nat.reduceLT, Nat.reduceEqDiff, Nat.reduceBEq, reduceIte, reduceCtorEq, Int.reduceBEq, Int.reduceEq, Int.reduceLT, Int.reduceLE, Int.reduceGT, Int.reduceGE, Int.reduceAdd, Int.reduceSub, Int.reduceNeg, Int.reduceBNe, List.all_cons, List.all_nil, List.getElem?_cons_zero, List.getElem?_cons_succ, List.getElem?_nil, Option.map_some, List.length_cons, List.length_nil, List.set_cons_zero, List.set_cons_succ, List.map_cons, List.map_nil, List.drop_zero, List.drop_succ_cons, List.drop_nil, List.take_zero, List.take_succ_cons, List.take_nil, ite_true, ite_false, if_true, if_false, implies_true, forall_const, beq_self_eq_true, List.replicate_succ, List.replicate_zero, List.headD_cons, List.cons_append, List.nil_append, bne_self_eq_false]
  exact this
theorem segsR_loop {h : Hp} {b : PV} {l : List Bx} (hb : Rl eX 1 b l) (hl : l.length ≤ 1000000) : ∀ (r q : List Bx) (out : List (List UInt8)), l = q ++ r → out.length ≤ q.length →
    P22_0 (size h) (size h) (i64 q.length) b (gV h zF 1 (out.map eS)) (gH h 9 (out.map eS)) = some (gD zF 1 ((out ++ r.map bxL).map eS), h)
  | [], q, out, hp, ho => by
    rw [P22_0_eq]
    have e : q.length = l.length := by rw [hp]; simp
    have h1 : ((q.length : Int) < (l.length : Int)) = False := by simp; omega
    have gz := gZ_full 1
    simp only [hb.len, h1, List.map_nil, List.append_nil, frz_gV gz, below_gD gz _ _ (elS.belows _ _), trunc_gH, ↓evD, evU, Nat.reduceAdd, Nat.reduceSub, Nat.reduceMul, Nat.reduceLeDiff, Nat.reduceLT, Nat.reduceEqDiff, Nat.reduceBEq, reduceIte, reduceCtorEq, Int.reduceBEq, Int.reduceEq, Int.reduceLT, Int.reduceLE, Int.reduceGT, Int.reduceGE, Int.reduceAdd, Int.reduceSub, Int.reduceNeg, Int.reduceBNe, List.all_cons, List.all_nil, List.getElem?_cons_zero, List.getElem?_cons_succ, List.getElem?_nil, Option.map_some, List.length_cons, List.length_nil, List.set_cons_zero, List.set_cons_succ, List.map_cons, List.map_nil, List.drop_zero, List.drop_succ_cons, List.drop_nil, List.take_zero, List.take_succ_cons, List.take_nil, ite_true, ite_false, if_true, if_false, implies_true, forall_const, beq_self_eq_true, List.replicate_succ, List.replicate_zero, List.headD_cons, List.cons_append, List.nil_append, bne_self_eq_false]
  | x :: r, q, out, hp, ho => by
    rw [P22_0_eq]
    have el : l.length = q.length + (r.length + 1) := by rw [hp]; simp
    have h1 : ((q.length : Int) < (l.length : Int)) = True := by simp; omega
    have hx : l[q.length]? = some x := by rw [hp]; simp
    have hec : (eX x).cells = [x.1] := (bxV x).cells
    have w1 : IntKind.i64.wrap ((q.length : Int) + 1) = (((q ++ [x]).length : Nat) : Int) := by rw [show (q ++ [x]).length = q.length + 1 by simp, wrap_small] <;> omega
    have gg := gOneL (h := h) (T := 9) elS (gZ_full 1) out (bxL x) (by unfold lim2; omega)
    have e1 : eS (bxL x) = .str (bxL x) := rfl
    rw [e1] at gg
    have ih := segsR_loop (h := h) hb hl r (q ++ [x]) (out ++ [bxL x]) (by rw [hp]; simp) (by simp; omega)
    have e3 : out ++ [bxL x] ++ r.map bxL = out ++ (x :: r).map bxL := by simp
    rw [e3] at ih
    simp only [hb.len, h1, hb.idx hx, hec, bv_str (bxV x), gg, w1, ih, ↓evD, evU, Nat.reduceAdd, Nat.reduceSub, Nat.reduceMul, Nat.reduceLeDiff, Nat.reduceLT, Nat.reduceEqDiff, Nat.reduceBEq, reduceIte, reduceCtorEq, Int.reduceBEq, Int.reduceEq, Int.reduceLT, Int.reduceLE, Int.reduceGT, Int.reduceGE, Int.reduceAdd, Int.reduceSub, Int.reduceNeg, Int.reduceBNe, List.all_cons, List.all_nil, List.getElem?_cons_zero, List.getElem?_cons_succ, List.getElem?_nil, Option.map_some, List.length_cons, List.length_nil, List.set_cons_zero, List.set_cons_succ, List.map_cons, List.map_nil, List.drop_zero, List.drop_succ_cons, List.drop_nil, List.take_zero, List.take_succ_cons, List.take_nil, ite_true, ite_false, if_true, if_false, implies_true, forall_const, beq_self_eq_true, List.replicate_succ, List.replicate_zero, List.headD_cons, List.cons_append, List.nil_append, bne_self_eq_false]
theorem segsR_spec {base : Nat} {h : Hp} {b : PV} {l : List Op} (hb : Rl eO 2 b l) (hl : l.length ≤ 1000000) : CallA T base 22 [b] h = some (gD zF 1 ((segR l).map eS), h) := by
  rw [S22]
  have hA : ∀ base h, _ := fun base h => allR_spec (base := base) (h := h) 11 hb hl
  have hr := (Lv.done (e := eX) (gZ_full 1) (allR 11 l)).rl
  have := segsR_loop (h := h) hr (by have := allR_len 11 l; omega) (allR 11 l) [] [] rfl (by simp)
  rw [List.map_nil, gV_nil, gH_nil] at this
  simp only [hA, ↓evD, evU, Nat.reduceAdd, Nat.reduceSub, Nat.reduceMul, Nat.reduceLeDiff, Nat.reduceLT, Nat.reduceEqDiff, Nat.reduceBEq, reduceIte, reduceCtorEq, Int.reduceBEq, Int.reduceEq, Int.reduceLT, Int.reduceLE, Int.reduceGT, Int.reduceGE, Int.reduceAdd, Int.reduceSub, Int.reduceNeg, Int.reduceBNe, List.all_cons, List.all_nil, List.getElem?_cons_zero, List.getElem?_cons_succ, List.getElem?_nil, Option.map_some, List.length_cons, List.length_nil, List.set_cons_zero, List.set_cons_succ, List.map_cons, List.map_nil, List.drop_zero, List.drop_succ_cons, List.drop_nil, List.take_zero, List.take_succ_cons, List.take_nil, ite_true, ite_false, if_true, if_false, implies_true, forall_const, beq_self_eq_true, List.replicate_succ, List.replicate_zero, List.headD_cons, List.cons_append, List.nil_append, bne_self_eq_false]
  exact this
theorem of_spec {base : Nat} {h : Hp} {b : PV} {l : List Op} (hb : Rl eO 2 b l) (hl : l.length ≤ 1000000) (hs : ∀ o ∈ l, (bxL o.2).length ≤ 1000000) : CallA T base 16 [b] h = some (numsV .nils (segX l), h) := by
  rw [S16]
  have hA : ∀ base h, _ := fun base h => segs_spec (base := base) (h := h) hb hl hs
  have hN : ∀ base h, _ := fun base h => nums_spec (base := base) (h := h) (Lv.done (e := eS) (gZ_nils 1) (segX l)).rl (segX_mem hs)
  unfold numsV at hN ⊢
  generalize segX l = X at *
  by_cases h3 : 3 < X.length
  · simp only [h3, if_true] at hN
    simp only [hA, hN, h3, ↓evD, evU, Nat.reduceAdd, Nat.reduceSub, Nat.reduceMul, Nat.reduceLeDiff, Nat.reduceLT, Nat.reduceEqDiff, Nat.reduceBEq, reduceIte, reduceCtorEq, Int.reduceBEq, Int.reduceEq, Int.reduceLT, Int.reduceLE, Int.reduceGT, Int.reduceGE, Int.reduceAdd, Int.reduceSub, Int.reduceNeg, Int.reduceBNe, List.all_cons, List.all_nil, List.getElem?_cons_zero, List.getElem?_cons_succ, List.getElem?_nil, Option.map_some, List.length_cons, List.length_nil, List.set_cons_zero, List.set_cons_succ, List.map_cons, List.map_nil, List.drop_zero, List.drop_succ_cons, List.drop_nil, List.take_zero, List.take_succ_cons, List.take_nil, ite_true, ite_false, if_true, if_false, implies_true, forall_const, beq_self_eq_true, List.replicate_succ, List.replicate_zero, List.headD_cons, List.cons_append, List.nil_append, bne_self_eq_false]
  · simp only [h3, if_false] at hN
    cases hO : numsO X with
    | none =>
      rw [hO] at hN
      simp only at hN
      simp only [hA, hN, h3, hO, ↓evD, evU, Nat.reduceAdd, Nat.reduceSub, Nat.reduceMul, Nat.reduceLeDiff, Nat.reduceLT, Nat.reduceEqDiff, Nat.reduceBEq, reduceIte, reduceCtorEq, Int.reduceBEq, Int.reduceEq, Int.reduceLT, Int.reduceLE, Int.reduceGT, Int.reduceGE, Int.reduceAdd, Int.reduceSub, Int.reduceNeg, Int.reduceBNe, List.all_cons, List.all_nil, List.getElem?_cons_zero, List.getElem?_cons_succ, List.getElem?_nil, Option.map_some, List.length_cons, List.length_nil, List.set_cons_zero, List.set_cons_succ, List.map_cons, List.map_nil, List.drop_zero, List.drop_succ_cons, List.drop_nil, List.take_zero, List.take_succ_cons, List.take_nil, ite_true, ite_false, if_true, if_false, implies_true, forall_const, beq_self_eq_true, List.replicate_succ, List.replicate_zero, List.headD_cons, List.cons_append, List.nil_append, bne_self_eq_false]
    | some p =>
      rw [hO] at hN
      simp only at hN
      have hL := Lv.done (e := eI) (gZ_nils 1) p
      simp only [hA, hN, h3, hO, hL.frz, hL.below elI, ↓evD, evU, Nat.reduceAdd, Nat.reduceSub, Nat.reduceMul, Nat.reduceLeDiff, Nat.reduceLT, Nat.reduceEqDiff, Nat.reduceBEq, reduceIte, reduceCtorEq, Int.reduceBEq, Int.reduceEq, Int.reduceLT, Int.reduceLE, Int.reduceGT, Int.reduceGE, Int.reduceAdd, Int.reduceSub, Int.reduceNeg, Int.reduceBNe, List.all_cons, List.all_nil, List.getElem?_cons_zero, List.getElem?_cons_succ, List.getElem?_nil, Option.map_some, List.length_cons, List.length_nil, List.set_cons_zero, List.set_cons_succ, List.map_cons, List.map_nil, List.drop_zero, List.drop_succ_cons, List.drop_nil, List.take_zero, List.take_succ_cons, List.take_nil, ite_true, ite_false, if_true, if_false, implies_true, forall_const, beq_self_eq_true, List.replicate_succ, List.replicate_zero, List.headD_cons, List.cons_append, List.nil_append, bne_self_eq_false]
theorem ofR_spec {base : Nat} {h : Hp} {b : PV} {l : List Op} (hb : Rl eO 2 b l) (hl : l.length ≤ 1000000) (hs : ∀ o ∈ l, (bxL o.2).length ≤ 1000000) : CallA T base 17 [b] h = some (numsV zF (segX l), h) := by
  rw [S17]
  have hA : ∀ base h, _ := fun base h => segsR_spec (base := base) (h := h) hb hl
  rw [← segX_eq] at hA
  have hN : ∀ base h, _ := fun base h => numsR_spec (base := base) (h := h) (Lv.done (e := eS) (gZ_full 1) (segX l)).rl (segX_mem hs)
  unfold numsV at hN ⊢
  generalize segX l = X at *
  by_cases h3 : 3 < X.length
  · simp only [h3, if_true] at hN
    simp only [hA, hN, h3, ↓evD, evU, Nat.reduceAdd, Nat.reduceSub, Nat.reduceMul, Nat.reduceLeDiff, Nat.reduceLT, Nat.reduceEqDiff, Nat.reduceBEq, reduceIte, reduceCtorEq, Int.reduceBEq, Int.reduceEq, Int.reduceLT, Int.reduceLE, Int.reduceGT, Int.reduceGE, Int.reduceAdd, Int.reduceSub, Int.reduceNeg, Int.reduceBNe, List.all_cons, List.all_nil, List.getElem?_cons_zero, List.getElem?_cons_succ, List.getElem?_nil, Option.map_some, List.length_cons, List.length_nil, List.set_cons_zero, List.set_cons_succ, List.map_cons, List.map_nil, List.drop_zero, List.drop_succ_cons, List.drop_nil, List.take_zero, List.take_succ_cons, List.take_nil, ite_true, ite_false, if_true, if_false, implies_true, forall_const, beq_self_eq_true, List.replicate_succ, List.replicate_zero, List.headD_cons, List.cons_append, List.nil_append, bne_self_eq_false]
  · simp only [h3, if_false] at hN
    cases hO : numsO X with
    | none =>
      rw [hO] at hN
      simp only at hN
      simp only [hA, hN, h3, hO, ↓evD, evU, Nat.reduceAdd, Nat.reduceSub, Nat.reduceMul, Nat.reduceLeDiff, Nat.reduceLT, Nat.reduceEqDiff, Nat.reduceBEq, reduceIte, reduceCtorEq, Int.reduceBEq, Int.reduceEq, Int.reduceLT, Int.reduceLE, Int.reduceGT, Int.reduceGE, Int.reduceAdd, Int.reduceSub, Int.reduceNeg, Int.reduceBNe, List.all_cons, List.all_nil, List.getElem?_cons_zero, List.getElem?_cons_succ, List.getElem?_nil, Option.map_some, List.length_cons, List.length_nil, List.set_cons_zero, List.set_cons_succ, List.map_cons, List.map_nil, List.drop_zero, List.drop_succ_cons, List.drop_nil, List.take_zero, List.take_succ_cons, List.take_nil, ite_true, ite_false, if_true, if_false, implies_true, forall_const, beq_self_eq_true, List.replicate_succ, List.replicate_zero, List.headD_cons, List.cons_append, List.nil_append, bne_self_eq_false]
    | some p =>
      rw [hO] at hN
      simp only at hN
      have hL := Lv.done (e := eI) (gZ_full 1) p
      simp only [hA, hN, h3, hO, hL.frz, hL.below elI, ↓evD, evU, Nat.reduceAdd, Nat.reduceSub, Nat.reduceMul, Nat.reduceLeDiff, Nat.reduceLT, Nat.reduceEqDiff, Nat.reduceBEq, reduceIte, reduceCtorEq, Int.reduceBEq, Int.reduceEq, Int.reduceLT, Int.reduceLE, Int.reduceGT, Int.reduceGE, Int.reduceAdd, Int.reduceSub, Int.reduceNeg, Int.reduceBNe, List.all_cons, List.all_nil, List.getElem?_cons_zero, List.getElem?_cons_succ, List.getElem?_nil, Option.map_some, List.length_cons, List.length_nil, List.set_cons_zero, List.set_cons_succ, List.map_cons, List.map_nil, List.drop_zero, List.drop_succ_cons, List.drop_nil, List.take_zero, List.take_succ_cons, List.take_nil, ite_true, ite_false, if_true, if_false, implies_true, forall_const, beq_self_eq_true, List.replicate_succ, List.replicate_zero, List.headD_cons, List.cons_append, List.nil_append, bne_self_eq_false]
theorem sameT_loop {h : Hp} {a b : PV} {l m : List (List UInt8)} (ha : Rl eS 1 a l) (hb : Rl eS 1 b m) (hl : l.length ≤ 1000000) : ∀ (r q s : List (List UInt8)), l = q ++ r → m = q ++ s → r.length = s.length →
    P20_0 (size h) (size h) (i64 q.length) b a h = some (.bool (r == s), h)
  | [], q, s, hp, hp2, hrs => by
    rw [P20_0_eq]
    have : s = [] := by cases s with | nil => rfl | cons y s => simp at hrs
    subst this
    have e : q.length = l.length := by rw [hp]; simp
    have h1 : ((q.length : Int) < (l.length : Int)) = False := by simp; omega
    have e0 : (([] : List (List UInt8)) == []) = true := rfl
    simp only [ha.len, h1, e0, ↓evD, evU, Nat.reduceAdd, Nat.reduceSub, Nat.reduceMul, Nat.reduceLeDiff, Nat.reduceLT, Nat.reduceEqDiff, Nat.reduceBEq, reduceIte, reduceCtorEq, Int.reduceBEq, Int.reduceEq, Int.reduceLT, Int.reduceLE, Int.reduceGT, Int.reduceGE, Int.reduceAdd, Int.reduceSub, Int.reduceNeg, Int.reduceBNe, List.all_cons, List.all_nil, List.getElem?_cons_zero, List.getElem?_cons_succ, List.getElem?_nil, Option.map_some, List.length_cons, List.length_nil, List.set_cons_zero, List.set_cons_succ, List.map_cons, List.map_nil, List.drop_zero, List.drop_succ_cons, List.drop_nil, List.take_zero, List.take_succ_cons, List.take_nil, ite_true, ite_false, if_true, if_false, implies_true, forall_const, beq_self_eq_true, List.replicate_succ, List.replicate_zero, List.headD_cons, List.cons_append, List.nil_append, bne_self_eq_false]
  | x :: r, q, [], hp, hp2, hrs => by simp at hrs
  | x :: r, q, y :: s, hp, hp2, hrs => by
    rw [P20_0_eq]
    have el : l.length = q.length + (r.length + 1) := by rw [hp]; simp
    have h1 : ((q.length : Int) < (l.length : Int)) = True := by simp; omega
    have hx : l[q.length]? = some x := by rw [hp]; simp
    have hy : m[q.length]? = some y := by rw [hp2]; simp
    have hec : ∀ x, (eS x).cells = [.str x] := fun _ => rfl
    have w1 : IntKind.i64.wrap ((q.length : Int) + 1) = (((q ++ [x]).length : Nat) : Int) := by rw [show (q ++ [x]).length = q.length + 1 by simp, wrap_small] <;> omega
    by_cases hq : x = y
    · subst hq
      have hq' : (x != x) = false := by simp
      have e3 : (x :: r == x :: s) = (r == s) := by rw [List.cons_beq_cons]; simp
      have ih := sameT_loop (h := h) ha hb hl r (q ++ [x]) s (by rw [hp]; simp) (by rw [hp2]; simp) (by simpa using hrs)
      simp only [ha.len, ha.idx hx, hb.idx hy, hec, h1, hq', e3, w1, ih, ↓evD, evU, Nat.reduceAdd, Nat.reduceSub, Nat.reduceMul, Nat.reduceLeDiff, Nat.reduceLT, Nat.reduceEqDiff, Nat.reduceBEq, reduceIte, reduceCtorEq, Int.reduceBEq, Int.reduceEq, Int.reduceLT, Int.reduceLE, Int.reduceGT, Int.reduceGE, Int.reduceAdd, Int.reduceSub, Int.reduceNeg, Int.reduceBNe, List.all_cons, List.all_nil, List.getElem?_cons_zero, List.getElem?_cons_succ, List.getElem?_nil, Option.map_some, List.length_cons, List.length_nil, List.set_cons_zero, List.set_cons_succ, List.map_cons, List.map_nil, List.drop_zero, List.drop_succ_cons, List.drop_nil, List.take_zero, List.take_succ_cons, List.take_nil, ite_true, ite_false, if_true, if_false, implies_true, forall_const, beq_self_eq_true, List.replicate_succ, List.replicate_zero, List.headD_cons, List.cons_append, List.nil_append, bne_self_eq_false]
    · have hq' : (x != y) = true := by simpa using hq
      have e3 : (x :: r == y :: s) = false := by simp [hq]
      simp only [ha.len, ha.idx hx, hb.idx hy, hec, h1, hq', e3, ↓evD, evU, Nat.reduceAdd, Nat.reduceSub, Nat.reduceMul, Nat.reduceLeDiff, Nat.reduceLT, Nat.reduceEqDiff, Nat.reduceBEq, reduceIte, reduceCtorEq, Int.reduceBEq, Int.reduceEq, Int.reduceLT, Int.reduceLE, Int.reduceGT, Int.reduceGE, Int.reduceAdd, Int.reduceSub, Int.reduceNeg, Int.reduceBNe, List.all_cons, List.all_nil, List.getElem?_cons_zero, List.getElem?_cons_succ, List.getElem?_nil, Option.map_some, List.length_cons, List.length_nil, List.set_cons_zero, List.set_cons_succ, List.map_cons, List.map_nil, List.drop_zero, List.drop_succ_cons, List.drop_nil, List.take_zero, List.take_succ_cons, List.take_nil, ite_true, ite_false, if_true, if_false, implies_true, forall_const, beq_self_eq_true, List.replicate_succ, List.replicate_zero, List.headD_cons, List.cons_append, List.nil_append, bne_self_eq_false]
theorem sameT_spec {base : Nat} {h : Hp} {a b : PV} {l : List (List UInt8)} (ha : Rl eS 1 a l) (hb : Rl eS 1 b l) (hl : l.length ≤ 1000000) : CallA T base 20 [a, b] h = some (.bool true, h) := by
  rw [S20]
  have e1 : ((l.length : Int) != (l.length : Int)) = false := by simp
  have := sameT_loop (h := h) ha hb hl l [] l rfl rfl rfl
  have e0 : (l == l) = true := by simp
  rw [e0] at this
  simp only [ha.len, hb.len, e1, ↓evD, evU, Nat.reduceAdd, Nat.reduceSub, Nat.reduceMul, Nat.reduceLeDiff, Nat.reduceLT, Nat.reduceEqDiff, Nat.reduceBEq, reduceIte, reduceCtorEq, Int.reduceBEq, Int.reduceEq, Int.reduceLT, Int.reduceLE, Int.reduceGT, Int.reduceGE, Int.reduceAdd, Int.reduceSub, Int.reduceNeg, Int.reduceBNe, List.all_cons, List.all_nil, List.getElem?_cons_zero, List.getElem?_cons_succ, List.getElem?_nil, Option.map_some, List.length_cons, List.length_nil, List.set_cons_zero, List.set_cons_succ, List.map_cons, List.map_nil, List.drop_zero, List.drop_succ_cons, List.drop_nil, List.take_zero, List.take_succ_cons, List.take_nil, ite_true, ite_false, if_true, if_false, implies_true, forall_const, beq_self_eq_true, List.replicate_succ, List.replicate_zero, List.headD_cons, List.cons_append, List.nil_append, bne_self_eq_false]
  exact this
theorem samePs_loop {h : Hp} {a b : PV} {l : List Pr} (ha : Rl eP 3 a l) (hb : Rl eP 3 b l) (hl : l.length ≤ 1000000) : ∀ (r q : List Pr), l = q ++ r →
    P23_0 (size h) (size h) (i64 q.length) b a h = some (.bool true, h)
  | [], q, hp => by
    rw [P23_0_eq]
    have e : q.length = l.length := by rw [hp]; simp
    have h1 : ((q.length : Int) < (l.length : Int)) = False := by simp; omega
    simp only [ha.len, h1, ↓evD, evU, Nat.reduceAdd, Nat.reduceSub, Nat.reduceMul, Nat.reduceLeDiff, Nat.reduceLT, Nat.reduceEqDiff, Nat.reduceBEq, reduceIte, reduceCtorEq, Int.reduceBEq, Int.reduceEq, Int.reduceLT, Int.reduceLE, Int.reduceGT, Int.reduceGE, Int.reduceAdd, Int.reduceSub, Int.reduceNeg, Int.reduceBNe, List.all_cons, List.all_nil, List.getElem?_cons_zero, List.getElem?_cons_succ, List.getElem?_nil, Option.map_some, List.length_cons, List.length_nil, List.set_cons_zero, List.set_cons_succ, List.map_cons, List.map_nil, List.drop_zero, List.drop_succ_cons, List.drop_nil, List.take_zero, List.take_succ_cons, List.take_nil, ite_true, ite_false, if_true, if_false, implies_true, forall_const, beq_self_eq_true, List.replicate_succ, List.replicate_zero, List.headD_cons, List.cons_append, List.nil_append, bne_self_eq_false]
  | x :: r, q, hp => by
    rw [P23_0_eq]
    have el : l.length = q.length + (r.length + 1) := by rw [hp]; simp
    have h1 : ((q.length : Int) < (l.length : Int)) = True := by simp; omega
    have hx : l[q.length]? = some x := by rw [hp]; simp
    have hec : (eP x).cells = [.str x.1, .str x.2.1, .bool x.2.2] := rfl
    have w1 : IntKind.i64.wrap ((q.length : Int) + 1) = (((q ++ [x]).length : Nat) : Int) := by rw [show (q ++ [x]).length = q.length + 1 by simp, wrap_small] <;> omega
    have e1 : (x.1 != x.1) = false := by simp
    have e2 : (x.2.1 != x.2.1) = false := by simp
    have e3 : (x.2.2 != x.2.2) = false := by simp
    have ih := samePs_loop (h := h) ha hb hl r (q ++ [x]) (by rw [hp]; simp)
    simp only [ha.len, ha.idx hx, hb.idx hx, hec, h1, e1, e2, e3, w1, ih, ↓evD, evU, Nat.reduceAdd, Nat.reduceSub, Nat.reduceMul, Nat.reduceLeDiff, Nat.reduceLT, Nat.reduceEqDiff, Nat.reduceBEq, reduceIte, reduceCtorEq, Int.reduceBEq, Int.reduceEq, Int.reduceLT, Int.reduceLE, Int.reduceGT, Int.reduceGE, Int.reduceAdd, Int.reduceSub, Int.reduceNeg, Int.reduceBNe, List.all_cons, List.all_nil, List.getElem?_cons_zero, List.getElem?_cons_succ, List.getElem?_nil, Option.map_some, List.length_cons, List.length_nil, List.set_cons_zero, List.set_cons_succ, List.map_cons, List.map_nil, List.drop_zero, List.drop_succ_cons, List.drop_nil, List.take_zero, List.take_succ_cons, List.take_nil, ite_true, ite_false, if_true, if_false, implies_true, forall_const, beq_self_eq_true, List.replicate_succ, List.replicate_zero, List.headD_cons, List.cons_append, List.nil_append, bne_self_eq_false]
theorem samePs_spec {base : Nat} {h : Hp} {a b : PV} {l : List Pr} (ha : Rl eP 3 a l) (hb : Rl eP 3 b l) (hl : l.length ≤ 1000000) : CallA T base 23 [a, b] h = some (.bool true, h) := by
  rw [S23]
  have e1 : ((l.length : Int) != (l.length : Int)) = false := by simp
  have := samePs_loop (h := h) ha hb hl l [] rfl
  simp only [ha.len, hb.len, e1, ↓evD, evU, Nat.reduceAdd, Nat.reduceSub, Nat.reduceMul, Nat.reduceLeDiff, Nat.reduceLT, Nat.reduceEqDiff, Nat.reduceBEq, reduceIte, reduceCtorEq, Int.reduceBEq, Int.reduceEq, Int.reduceLT, Int.reduceLE, Int.reduceGT, Int.reduceGE, Int.reduceAdd, Int.reduceSub, Int.reduceNeg, Int.reduceBNe, List.all_cons, List.all_nil, List.getElem?_cons_zero, List.getElem?_cons_succ, List.getElem?_nil, Option.map_some, List.length_cons, List.length_nil, List.set_cons_zero, List.set_cons_succ, List.map_cons, List.map_nil, List.drop_zero, List.drop_succ_cons, List.drop_nil, List.take_zero, List.take_succ_cons, List.take_nil, ite_true, ite_false, if_true, if_false, implies_true, forall_const, beq_self_eq_true, List.replicate_succ, List.replicate_zero, List.headD_cons, List.cons_append, List.nil_append, bne_self_eq_false]
  exact this
end Go.Am.YtikgjdmdcpomlaaDoor
namespace Go.Am.YtikgjdmdcpomlaaDoor
set_option maxRecDepth 100000
set_option linter.unusedSimpArgs false
set_option linter.unusedVariables false
def cutP (s : List UInt8) : Pr := ((Lib.cut s [61]).1, (Lib.cut s [61]).2.1, !(Lib.cut s [61]).2.2)
theorem cutP_miss {s : List UInt8} (h : 61 ∉ s) : cutP s = (s, [], true) := by
  unfold cutP Lib.cut
  rw [Lib.index_one]
  rcases index_split 61 s with ⟨h1, h2⟩ | ⟨a, b, rfl, _, _⟩
  · rw [h2]; rfl
  · simp at h
theorem cutP_hit {a : List UInt8} (b : List UInt8) (h : 61 ∉ a) : cutP (a ++ 61 :: b) = (a, b, false) := by
  unfold cutP Lib.cut
  rw [Lib.index_one]
  rcases index_split 61 (a ++ 61 :: b) with ⟨h1, h2⟩ | ⟨a', b', h1, h2, h3⟩
  · simp at h1
  · have e : a' = a := by
      have q1 := splitL_app b h
      have q2 := splitL_app b' h2
      rw [h1, q2] at q1
      injection q1
    subst e
    rw [h3, if_pos (by omega)]
    have e1 : ((a'.length : Int)).toNat = a'.length := by simp
    rw [e1]
    have e2 : (a' ++ 61 :: b).drop (a'.length + 1) = b := by rw [← List.drop_drop, List.drop_left]; rfl
    simp [e2]
theorem cutc_spec {base : Nat} {h : Hp} (s : List UInt8) (hs : s.length ≤ 1000000) : CallA T base 41 [.str s, .str [61]] h = some (.tup [.str (cutP s).1, .str (cutP s).2.1, .bool (!(cutP s).2.2)], h) := by
  rw [CallA_prim T_41]
  have : s.length < 4294967281 := by omega
  simp [pCut, this, primEnd, Option.bnd, cutP]
theorem qry_loop {h : Hp} {b : PV} {l : List Bx} (hb : Rl eX 1 b l) (hl : l.length ≤ 1000000) (hs : ∀ x ∈ l, (bxL x).length ≤ 1000000) : ∀ (r q : List Bx) (out : List Pr), l = q ++ r → out.length ≤ q.length →
    P24_0 (size h) (size h) (i64 q.length) (gV h .nils 3 (out.map eP)) b (i64 l.length) (gH h 51 (out.map eP)) = some (gD .nils 3 ((out ++ r.map fun x => cutP (bxL x)).map eP), h)
  | [], q, out, hp, ho => by
    rw [P24_0_eq]
    have e : q.length = l.length := by rw [hp]; simp
    have h1 : ((q.length : Int) < (l.length : Int)) = False := by simp; omega
    have gz := gZ_nils 3
    simp only [h1, List.map_nil, List.append_nil, frz_gV gz, below_gD gz _ _ (elP.belows _ _), trunc_gH, ↓evD, evU, Nat.reduceAdd, Nat.reduceSub, Nat.reduceMul, Nat.reduceLeDiff, Nat.reduceLT, Nat.reduceEqDiff, Nat.reduceBEq, reduceIte, reduceCtorEq, Int.reduceBEq, Int.reduceEq, Int.reduceLT, Int.reduceLE, Int.reduceGT, Int.reduceGE, Int.reduceAdd, Int.reduceSub, Int.reduceNeg, Int.reduceBNe, List.all_cons, List.all_nil, List.getElem?_cons_zero, List.getElem?_cons_succ, List.getElem?_nil, Option.map_some, List.length_cons, List.length_nil, List.set_cons_zero, List.set_cons_succ, List.map_cons, List.map_nil, List.drop_zero, List.drop_succ_cons, List.drop_nil, List.take_zero, List.take_succ_cons, List.take_nil, ite_true, ite_false, if_true, if_false, implies_true, forall_const, beq_self_eq_true, List.replicate_succ, List.replicate_zero, List.headD_cons, List.cons_append, List.nil_append, bne_self_eq_false]
  | x :: r, q, out, hp, ho => by
    rw [P24_0_eq]
    have el : l.length = q.length + (r.length + 1) := by rw [hp]; simp
    have h1 : ((q.length : Int) < (l.length : Int)) = True := by simp; omega
    have hx : l[q.length]? = some x := by rw [hp]; simp
    have hec : (eX x).cells = [x.1] := (bxV x).cells
    have w1 : IntKind.i64.wrap ((q.length : Int) + 1) = (((q ++ [x]).length : Nat) : Int) := by rw [show (q ++ [x]).length = q.length + 1 by simp, wrap_small] <;> omega
    have hC : ∀ base h, _ := fun base h => cutc_spec (base := base) (h := h) (bxL x) (hs x (by rw [hp]; simp))
    have ih := qry_loop (h := h) hb hl hs r (q ++ [x]) (out ++ [cutP (bxL x)]) (by rw [hp]; simp) (by simp; omega)
    have e3 : out ++ [cutP (bxL x)] ++ (r.map fun x => cutP (bxL x)) = out ++ (x :: r).map fun x => cutP (bxL x) := by simp
    rw [e3] at ih
    generalize cutP (bxL x) = p at *
    have gg := gOneL (h := h) (T := 51) elP (gZ_nils 3) out p (by unfold lim2; omega)
    have e1 : eP p = .agg [.str p.1, .str p.2.1, .bool p.2.2] := rfl
    rw [e1] at gg
    simp only [h1, hb.idx hx, hec, bv_str (bxV x), hC, Bool.not_not, gg, w1, ih, ↓evD, evU, Nat.reduceAdd, Nat.reduceSub, Nat.reduceMul, Nat.reduceLeDiff, Nat.reduceLT, Nat.reduceEqDiff, Nat.reduceBEq, reduceIte, reduceCtorEq, Int.reduceBEq, Int.reduceEq, Int.reduceLT, Int.reduceLE, Int.reduceGT, Int.reduceGE, Int.reduceAdd, Int.reduceSub, Int.reduceNeg, Int.reduceBNe, List.all_cons, List.all_nil, List.getElem?_cons_zero, List.getElem?_cons_succ, List.getElem?_nil, Option.map_some, List.length_cons, List.length_nil, List.set_cons_zero, List.set_cons_succ, List.map_cons, List.map_nil, List.drop_zero, List.drop_succ_cons, List.drop_nil, List.take_zero, List.take_succ_cons, List.take_nil, ite_true, ite_false, if_true, if_false, implies_true, forall_const, beq_self_eq_true, List.replicate_succ, List.replicate_zero, List.headD_cons, List.cons_append, List.nil_append, bne_self_eq_false]
noncomputable def qryX (l : List Op) : List Pr := (allR 15 l).map fun x => cutP (bxL x)
theorem qryX_eq (l : List Op) : ((allX 15 l).map fun x => cutP (bxL x)) = qryX l := by
  have := congrArg (List.map cutP) (allX_map 15 l)
  rw [List.map_map, List.map_map] at this
  exact this
theorem qryX_len (l : List Op) : (qryX l).length ≤ l.length := by
  unfold qryX
  rw [List.length_map]
  exact allR_len 15 l
theorem allX_mem {n : Int} {k : Nat} : ∀ {l : List Op}, (∀ o ∈ l, (bxL o.2).length ≤ k) → ∀ x ∈ allX n l, (bxL x).length ≤ k
  | [], _, x, hx => by simp [allX] at hx
  | o :: l, hs, x, hx => by
    have ih := allX_mem (n := n) (k := k) (l := l) fun o ho => hs o (by simp [ho])
    rw [allX] at hx
    split at hx
    · rcases List.mem_cons.1 hx with rfl | hx
      · rw [bxL_clX]; exact hs o (by simp)
      · exact ih x hx
    · exact ih x hx
theorem query_spec {base : Nat} {h : Hp} {b : PV} {l : List Op} (hb : Rl eO 2 b l) (hl : l.length ≤ 1000000) (hs : ∀ o ∈ l, (bxL o.2).length ≤ 1000000) : CallA T base 24 [b] h = some (gD .nils 3 ((qryX l).map eP), h) := by
  rw [S24]
  have hA : ∀ base h, _ := fun base h => all_spec (base := base) (h := h) 15 hb hl hs
  have hr := (Lv.done (e := eX) (gZ_nils 1) (allX 15 l)).rl
  have := qry_loop (h := h) hr (by have := allX_len 15 l; omega) (allX_mem hs) (allX 15 l) [] [] rfl (by simp)
  rw [List.map_nil, gV_nil, gH_nil, List.nil_append, qryX_eq] at this
  simp only [hA, hr.len, ↓evD, evU, Nat.reduceAdd, Nat.reduceSub, Nat.reduceMul, Nat.reduceLeDiff, Nat.reduceLT, Nat.reduceEqDiff, Nat.reduceBEq, reduceIte, reduceCtorEq, Int.reduceBEq, Int.reduceEq, Int.reduceLT, Int.reduceLE, Int.reduceGT, Int.reduceGE, Int.reduceAdd, Int.reduceSub, Int.reduceNeg, Int.reduceBNe, List.all_cons, List.all_nil, List.getElem?_cons_zero, List.getElem?_cons_succ, List.getElem?_nil, Option.map_some, List.length_cons, List.length_nil, List.set_cons_zero, List.set_cons_succ, List.map_cons, List.map_nil, List.drop_zero, List.drop_succ_cons, List.drop_nil, List.take_zero, List.take_succ_cons, List.take_nil, ite_true, ite_false, if_true, if_false, implies_true, forall_const, beq_self_eq_true, List.replicate_succ, List.replicate_zero, List.headD_cons, List.cons_append, List.nil_append, bne_self_eq_false]
  exact this
/-- The reference's: a box for each pair. -/
theorem cut_loop {h H : Hp} (hle : size h ≤ size H) (s : List UInt8) (hs : s.length ≤ 1000000) (b i v : PV) : ∀ (r p : List UInt8), s = p ++ r → 61 ∉ p →
    P25_1 (size h) (size h) (i64 p.length) (.ptr (size H) 0) (.str s) b i v (ext H [.cells [.str s, .str [], .bool true]]) =
      P25_1 (size h) (size h) (i64 s.length) (.ptr (size H) 0) (.str s) b i v (ext H [.cells [.str (cutP s).1, .str (cutP s).2.1, .bool (cutP s).2.2]])
  | [], p, hp, hn => by
    have e : s = p := by rw [hp]; simp
    rw [cutP_miss (by rw [e]; exact hn), e]
  | x :: r, p, hp, hn => by
    rw [P25_1_eq]
    have el : s.length = p.length + (r.length + 1) := by rw [hp]; simp
    have h1 : ((p.length : Int) < (s.length : Int)) = True := by simp; omega
    have hx : s[p.length]? = some x := by rw [hp]; simp
    have hix := ix_nat .i64 p.length s.length (by omega)
    have e48 := u8_beq x 61
    have z48 : (((61 : UInt8).toNat : Nat) : Int) = 61 := rfl
    rw [z48] at e48
    have n1 : (size H < size h) = False := by simp; omega
    cases hq : (x == 61)
    · rw [hq] at e48
      have hne : ¬ x = 61 := by simpa using hq
      have w1 : IntKind.i64.wrap ((p.length : Int) + 1) = (((p ++ [x]).length : Nat) : Int) := by rw [show (p ++ [x]).length = p.length + 1 by simp, wrap_small] <;> omega
      have ih := cut_loop hle s hs b i v r (p ++ [x]) (by rw [hp]; simp) (by simp [hn]; exact fun h => hne h.symm)
      rw [← ih]
      generalize hN : (p ++ [x]).length = N at *
      simp only [h1, hix, hx, e48, w1, ↓evD, evU, Nat.reduceAdd, Nat.reduceSub, Nat.reduceMul, Nat.reduceLeDiff, Nat.reduceLT, Nat.reduceEqDiff, Nat.reduceBEq, reduceIte, reduceCtorEq, Int.reduceBEq, Int.reduceEq, Int.reduceLT, Int.reduceLE, Int.reduceGT, Int.reduceGE, Int.reduceAdd, Int.reduceSub, Int.reduceNeg, Int.reduceBNe, List.all_cons, List.all_nil, List.getElem?_cons_zero, List.getElem?_cons_succ, List.getElem?_nil, Option.map_some, List.length_cons, List.length_nil, List.set_cons_zero, List.set_cons_succ, List.map_cons, List.map_nil, List.drop_zero, List.drop_succ_cons, List.drop_nil, List.take_zero, List.take_succ_cons, List.take_nil, ite_true, ite_false, if_true, if_false, implies_true, forall_const, beq_self_eq_true, List.replicate_succ, List.replicate_zero, List.headD_cons, List.cons_append, List.nil_append, bne_self_eq_false]
    · rw [hq] at e48
      have hxe : x = 61 := by simpa using hq
      subst hxe
      have w1 : IntKind.i64.wrap ((p.length : Int) + 1) = ((p.length + 1 : Nat) : Int) := by rw [wrap_small] <;> omega
      have hb1 := bdV_nat s.length .i64 p.length (by omega)
      have ht1 : s.take p.length = p := by rw [hp]; simp
      have hb2 := bdV_nat s.length .i64 (p.length + 1) (by omega)
      have ht2 : (s.drop (p.length + 1)).take (s.length - (p.length + 1)) = r := by
        rw [List.take_of_length_le (by simp), hp, ← List.drop_drop, List.drop_left]; rfl
      have hcut : cutP s = (p, r, false) := by rw [hp]; exact cutP_hit r hn
      rw [hcut]
      have h2 : ((s.length : Int) < (s.length : Int)) = False := by simp
      have hE := P25_1_eq (size h) (size h) (i64 ((p.length + 1 : Nat) : Int)) (.ptr (size H) 0) (.str s) b i v (ext H [.cells [.str p, .str r, .bool false]])
      have hE2 := P25_1_eq (size h) (size h) (i64 s.length) (.ptr (size H) 0) (.str s) b i v (ext H [.cells [.str p, .str r, .bool false]])
      by_cases h3 : ((p.length + 1 : Nat) : Int) < (s.length : Int)
      · simp only [h2, h3, ↓evD, evU, Nat.reduceAdd, Nat.reduceSub, Nat.reduceMul, Nat.reduceLeDiff, Nat.reduceLT, Nat.reduceEqDiff, Nat.reduceBEq, reduceIte, reduceCtorEq, Int.reduceBEq, Int.reduceEq, Int.reduceLT, Int.reduceLE, Int.reduceGT, Int.reduceGE, Int.reduceAdd, Int.reduceSub, Int.reduceNeg, Int.reduceBNe, List.all_cons, List.all_nil, List.getElem?_cons_zero, List.getElem?_cons_succ, List.getElem?_nil, Option.map_some, List.length_cons, List.length_nil, List.set_cons_zero, List.set_cons_succ, List.map_cons, List.map_nil, List.drop_zero, List.drop_succ_cons, List.drop_nil, List.take_zero, List.take_succ_cons, List.take_nil, ite_true, ite_false, if_true, if_false, implies_true, forall_const, beq_self_eq_true, List.replicate_succ, List.replicate_zero, List.headD_cons, List.cons_append, List.nil_append, bne_self_eq_false] at hE hE2
        simp only [h1, hix, hx, e48, w1, hb1, ht1, hb2, ht2, n1, List.drop_zero, Nat.sub_zero, ↓evD, evU, Nat.reduceAdd, Nat.reduceSub, Nat.reduceMul, Nat.reduceLeDiff, Nat.reduceLT, Nat.reduceEqDiff, Nat.reduceBEq, reduceIte, reduceCtorEq, Int.reduceBEq, Int.reduceEq, Int.reduceLT, Int.reduceLE, Int.reduceGT, Int.reduceGE, Int.reduceAdd, Int.reduceSub, Int.reduceNeg, Int.reduceBNe, List.all_cons, List.all_nil, List.getElem?_cons_zero, List.getElem?_cons_succ, List.getElem?_nil, Option.map_some, List.length_cons, List.length_nil, List.set_cons_zero, List.set_cons_succ, List.map_cons, List.map_nil, List.drop_zero, List.drop_succ_cons, List.drop_nil, List.take_zero, List.take_succ_cons, List.take_nil, ite_true, ite_false, if_true, if_false, implies_true, forall_const, beq_self_eq_true, List.replicate_succ, List.replicate_zero, List.headD_cons, List.cons_append, List.nil_append, bne_self_eq_false]
        rw [hE, hE2]
      · simp only [h2, h3, ↓evD, evU, Nat.reduceAdd, Nat.reduceSub, Nat.reduceMul, Nat.reduceLeDiff, Nat.reduceLT, Nat.reduceEqDiff, Nat.reduceBEq, reduceIte, reduceCtorEq, Int.reduceBEq, Int.reduceEq, Int.reduceLT, Int.reduceLE, Int.reduceGT, Int.reduceGE, Int.reduceAdd, Int.reduceSub, Int.reduceNeg, Int.reduceBNe, List.all_cons, List.all_nil, List.getElem?_cons_zero, List.getElem?_cons_succ, List.getElem?_nil, Option.map_some, List.length_cons, List.length_nil, List.set_cons_zero, List.set_cons_succ, List.map_cons, List.map_nil, List.drop_zero, List.drop_succ_cons, List.drop_nil, List.take_zero, List.take_succ_cons, List.take_nil, ite_true, ite_false, if_true, if_false, implies_true, forall_const, beq_self_eq_true, List.replicate_succ, List.replicate_zero, List.headD_cons, List.cons_append, List.nil_append, bne_self_eq_false] at hE hE2
        simp only [h1, hix, hx, e48, w1, hb1, ht1, hb2, ht2, n1, List.drop_zero, Nat.sub_zero, ↓evD, evU, Nat.reduceAdd, Nat.reduceSub, Nat.reduceMul, Nat.reduceLeDiff, Nat.reduceLT, Nat.reduceEqDiff, Nat.reduceBEq, reduceIte, reduceCtorEq, Int.reduceBEq, Int.reduceEq, Int.reduceLT, Int.reduceLE, Int.reduceGT, Int.reduceGE, Int.reduceAdd, Int.reduceSub, Int.reduceNeg, Int.reduceBNe, List.all_cons, List.all_nil, List.getElem?_cons_zero, List.getElem?_cons_succ, List.getElem?_nil, Option.map_some, List.length_cons, List.length_nil, List.set_cons_zero, List.set_cons_succ, List.map_cons, List.map_nil, List.drop_zero, List.drop_succ_cons, List.drop_nil, List.take_zero, List.take_succ_cons, List.take_nil, ite_true, ite_false, if_true, if_false, implies_true, forall_const, beq_self_eq_true, List.replicate_succ, List.replicate_zero, List.headD_cons, List.cons_append, List.nil_append, bne_self_eq_false]
        rw [hE, hE2]
abbrev zF3 : PV := .sl .full 3 []
theorem qryR_loop {h : Hp} {b : PV} {l : List Bx} (hb : Rl eX 1 b l) (hl : l.length ≤ 1000000) (hs : ∀ x ∈ l, (bxL x).length ≤ 1000000) : ∀ (r q : List Bx) (out : List Pr) (v : PV) (H : Hp), l = q ++ r → out.length ≤ q.length → GS h 51 3 zF3 v (out.map eP) H →
    P25_0 (size h) (size h) (i64 q.length) v b H = some (gD zF3 3 ((out ++ r.map fun x => cutP (bxL x)).map eP), h)
  | [], q, out, v, H, hp, ho, g => by
    rw [P25_0_eq]
    have e : q.length = l.length := by rw [hp]; simp
    have h1 : ((q.length : Int) < (l.length : Int)) = False := by simp; omega
    simp only [hb.len, h1, List.map_nil, List.append_nil, g.frz (gZ_full 3), below_gD (gZ_full 3) _ _ (elP.belows _ _), g.tr, ↓evD, evU, Nat.reduceAdd, Nat.reduceSub, Nat.reduceMul, Nat.reduceLeDiff, Nat.reduceLT, Nat.reduceEqDiff, Nat.reduceBEq, reduceIte, reduceCtorEq, Int.reduceBEq, Int.reduceEq, Int.reduceLT, Int.reduceLE, Int.reduceGT, Int.reduceGE, Int.reduceAdd, Int.reduceSub, Int.reduceNeg, Int.reduceBNe, List.all_cons, List.all_nil, List.getElem?_cons_zero, List.getElem?_cons_succ, List.getElem?_nil, Option.map_some, List.length_cons, List.length_nil, List.set_cons_zero, List.set_cons_succ, List.map_cons, List.map_nil, List.drop_zero, List.drop_succ_cons, List.drop_nil, List.take_zero, List.take_succ_cons, List.take_nil, ite_true, ite_false, if_true, if_false, implies_true, forall_const, beq_self_eq_true, List.replicate_succ, List.replicate_zero, List.headD_cons, List.cons_append, List.nil_append, bne_self_eq_false]
  | x :: r, q, out, v, H, hp, ho, g => by
    rw [P25_0_eq]
    have el : l.length = q.length + (r.length + 1) := by rw [hp]; simp
    have h1 : ((q.length : Int) < (l.length : Int)) = True := by simp; omega
    have hx : l[q.length]? = some x := by rw [hp]; simp
    have hec : (eX x).cells = [x.1] := (bxV x).cells
    have w1 : IntKind.i64.wrap ((q.length : Int) + 1) = (((q ++ [x]).length : Nat) : Int) := by rw [show (q ++ [x]).length = q.length + 1 by simp, wrap_small] <;> omega
    have n1 : (size H < size h) = False := by have := g.le; simp; omega
    have hC := cut_loop (h := h) (H := H) g.le (bxL x) (hs x (by rw [hp]; simp)) b (i64 q.length) v (bxL x) [] rfl (by simp)
    have z0 : ((([] : List UInt8).length : Nat) : Int) = 0 := rfl
    rw [z0] at hC
    have g1 := g.ext [.cells [.str (cutP (bxL x)).1, .str (cutP (bxL x)).2.1, .bool (cutP (bxL x)).2.2]]
    obtain ⟨v', H', e1, g2⟩ := g1.grow (gZ_full 3) (x := eP (cutP (bxL x))) (by rfl) (by rfl) (by unfold lim2; simp; omega)
    have g3 : GS h 51 3 zF3 v' ((out ++ [cutP (bxL x)]).map eP) H' := by rw [List.map_append]; exact g2
    have ih := qryR_loop (h := h) hb hl hs r (q ++ [x]) (out ++ [cutP (bxL x)]) v' H' (by rw [hp]; simp) (by simp; omega) g3
    have e3 : out ++ [cutP (bxL x)] ++ (r.map fun x => cutP (bxL x)) = out ++ (x :: r).map fun x => cutP (bxL x) := by simp
    rw [e3] at ih
    rw [P25_1_eq (v8 := i64 (bxL x).length)] at hC
    have h2 : (((bxL x).length : Int) < ((bxL x).length : Int)) = False := by simp
    have e4 : eP (cutP (bxL x)) = .agg [.str (cutP (bxL x)).1, .str (cutP (bxL x)).2.1, .bool (cutP (bxL x)).2.2] := rfl
    rw [e4] at e1
    generalize cutP (bxL x) = p at *
    simp only [h2, e1, w1, ih, ↓evD, evU, Nat.reduceAdd, Nat.reduceSub, Nat.reduceMul, Nat.reduceLeDiff, Nat.reduceLT, Nat.reduceEqDiff, Nat.reduceBEq, reduceIte, reduceCtorEq, Int.reduceBEq, Int.reduceEq, Int.reduceLT, Int.reduceLE, Int.reduceGT, Int.reduceGE, Int.reduceAdd, Int.reduceSub, Int.reduceNeg, Int.reduceBNe, List.all_cons, List.all_nil, List.getElem?_cons_zero, List.getElem?_cons_succ, List.getElem?_nil, Option.map_some, List.length_cons, List.length_nil, List.set_cons_zero, List.set_cons_succ, List.map_cons, List.map_nil, List.drop_zero, List.drop_succ_cons, List.drop_nil, List.take_zero, List.take_succ_cons, List.take_nil, ite_true, ite_false, if_true, if_false, implies_true, forall_const, beq_self_eq_true, List.replicate_succ, List.replicate_zero, List.headD_cons, List.cons_append, List.nil_append, bne_self_eq_false] at hC
    simp only [hb.len, h1, hb.idx hx, hec, bv_str (bxV x), n1, hC, ↓evD, evU, Nat.reduceAdd, Nat.reduceSub, Nat.reduceMul, Nat.reduceLeDiff, Nat.reduceLT, Nat.reduceEqDiff, Nat.reduceBEq, reduceIte, reduceCtorEq, Int.reduceBEq, Int.reduceEq, Int.reduceLT, Int.reduceLE, Int.reduceGT, Int.reduceGE, Int.reduceAdd, Int.reduceSub, Int.reduceNeg, Int.reduceBNe, List.all_cons, List.all_nil, List.getElem?_cons_zero, List.getElem?_cons_succ, List.getElem?_nil, Option.map_some, List.length_cons, List.length_nil, List.set_cons_zero, List.set_cons_succ, List.map_cons, List.map_nil, List.drop_zero, List.drop_succ_cons, List.drop_nil, List.take_zero, List.take_succ_cons, List.take_nil, ite_true, ite_false, if_true, if_false, implies_true, forall_const, beq_self_eq_true, List.replicate_succ, List.replicate_zero, List.headD_cons, List.cons_append, List.nil_append, bne_self_eq_false]
end Go.Am.YtikgjdmdcpomlaaDoor
namespace Go.Am.YtikgjdmdcpomlaaDoor
set_option maxRecDepth 100000
set_option linter.unusedSimpArgs false
set_option linter.unusedVariables false
open Go.Lib (decDigits itoa)
theorem queryR_spec {base : Nat} {h : Hp} {b : PV} {l : List Op} (hb : Rl eO 2 b l) (hl : l.length ≤ 1000000) (hs : ∀ o ∈ l, (bxL o.2).length ≤ 1000000) : CallA T base 25 [b] h = some (gD zF3 3 ((qryX l).map eP), h) := by
  rw [S25]
  have hA : ∀ base h, _ := fun base h => allR_spec (base := base) (h := h) 15 hb hl
  have hr := (Lv.done (e := eX) (gZ_full 1) (allR 15 l)).rl
  have := qryR_loop (h := h) hr (by have := allR_len 15 l; omega) (allR_mem (P := fun x => (bxL x).length ≤ 1000000) hs) (allR 15 l) [] [] zF3 h rfl (by simp) (GS.zero h 51 3 zF3)
  simp only [hA, ↓evD, evU, Nat.reduceAdd, Nat.reduceSub, Nat.reduceMul, Nat.reduceLeDiff, Nat.reduceLT, Nat.reduceEqDiff, Nat.reduceBEq, reduceIte, reduceCtorEq, Int.reduceBEq, Int.reduceEq, Int.reduceLT, Int.reduceLE, Int.reduceGT, Int.reduceGE, Int.reduceAdd, Int.reduceSub, Int.reduceNeg, Int.reduceBNe, List.all_cons, List.all_nil, List.getElem?_cons_zero, List.getElem?_cons_succ, List.getElem?_nil, Option.map_some, List.length_cons, List.length_nil, List.set_cons_zero, List.set_cons_succ, List.map_cons, List.map_nil, List.drop_zero, List.drop_succ_cons, List.drop_nil, List.take_zero, List.take_succ_cons, List.take_nil, ite_true, ite_false, if_true, if_false, implies_true, forall_const, beq_self_eq_true, List.replicate_succ, List.replicate_zero, List.headD_cons, List.cons_append, List.nil_append, bne_self_eq_false]
  exact this
/-- The number of a text that may be below 0. -/
def signG : List UInt8 → Option Int
  | [] => none
  | c :: r => if c = 45 then (match numN r 2147483647 with
      | none => none
      | some u => if u = 0 then none else some (-(u : Int)))
    else (numN (c :: r) 2147483647).map Int.ofNat
def sgV (s : List UInt8) : Int := (signG s).getD 0
theorem numN_le {s : List UInt8} {m u : Nat} (h : numN s m = some u) : u ≤ m := by
  unfold numN at h
  split at h
  · cases h
  · split at h
    · cases h
    · split at h
      · cases h
      · cases h; omega
theorem neg_wrap {u : Nat} (h : u ≤ 2147483647) : IntKind.i64.wrap (-(u : Int)) = -(u : Int) := by
  rw [wrap_small] <;> omega
theorem signed_spec {base : Nat} {h : Hp} (s : List UInt8) (hs : s.length ≤ 1000000) : CallA T base 49 [.str s] h = some (.tup [i64 (sgV s), .bool (signG s).isSome], h) := by
  rw [S49]
  have hC : ∀ base h, _ := fun base h => cutPrefix_spec (base := base) (h := h) s [45] (by omega) (by simp)
  have e1 : ([45] : List UInt8).length = 1 := rfl
  rw [e1] at hC
  have z5 : (((2147483647 : Nat)) : Int) = 2147483647 := rfl
  unfold sgV
  cases s with
  | nil =>
    have q : ((([] : List UInt8).take 1) == [45]) = false := rfl
    rw [q] at hC
    have hN : ∀ base h, _ := fun base h => number_spec (base := base) (h := h) (s := []) (by simp) (most := 2147483647) (by omega)
    have e : numN [] 2147483647 = none := rfl
    rw [e, z5] at hN
    simp only [hC, hN, signG, Option.isSome_none, Option.getD_none, ↓evD, evU, Nat.reduceAdd, Nat.reduceSub, Nat.reduceMul, Nat.reduceLeDiff, Nat.reduceLT, Nat.reduceEqDiff, Nat.reduceBEq, reduceIte, reduceCtorEq, Int.reduceBEq, Int.reduceEq, Int.reduceLT, Int.reduceLE, Int.reduceGT, Int.reduceGE, Int.reduceAdd, Int.reduceSub, Int.reduceNeg, Int.reduceBNe, List.all_cons, List.all_nil, List.getElem?_cons_zero, List.getElem?_cons_succ, List.getElem?_nil, Option.map_some, List.length_cons, List.length_nil, List.set_cons_zero, List.set_cons_succ, List.map_cons, List.map_nil, List.drop_zero, List.drop_succ_cons, List.drop_nil, List.take_zero, List.take_succ_cons, List.take_nil, ite_true, ite_false, if_true, if_false, implies_true, forall_const, beq_self_eq_true, List.replicate_succ, List.replicate_zero, List.headD_cons, List.cons_append, List.nil_append, bne_self_eq_false]
  | cons c r =>
    have hdr : (c :: r).drop 1 = r := rfl
    have htk : (c :: r).take 1 = [c] := rfl
    rw [hdr, htk] at hC
    simp only [List.length_cons] at hs
    by_cases hc : c = 45
    · have q : ([c] == ([45] : List UInt8)) = true := by simp [hc]
      rw [q] at hC
      have hN : ∀ base h, _ := fun base h => number_spec (base := base) (h := h) (s := r) (by omega) (most := 2147483647) (by omega)
      rw [z5] at hN
      rw [signG, if_pos hc]
      cases hn : numN r 2147483647 with
      | none =>
        rw [hn] at hN
        simp only [hC, hN, Option.isSome_none, Option.getD_none, ↓evD, evU, Nat.reduceAdd, Nat.reduceSub, Nat.reduceMul, Nat.reduceLeDiff, Nat.reduceLT, Nat.reduceEqDiff, Nat.reduceBEq, reduceIte, reduceCtorEq, Int.reduceBEq, Int.reduceEq, Int.reduceLT, Int.reduceLE, Int.reduceGT, Int.reduceGE, Int.reduceAdd, Int.reduceSub, Int.reduceNeg, Int.reduceBNe, List.all_cons, List.all_nil, List.getElem?_cons_zero, List.getElem?_cons_succ, List.getElem?_nil, Option.map_some, List.length_cons, List.length_nil, List.set_cons_zero, List.set_cons_succ, List.map_cons, List.map_nil, List.drop_zero, List.drop_succ_cons, List.drop_nil, List.take_zero, List.take_succ_cons, List.take_nil, ite_true, ite_false, if_true, if_false, implies_true, forall_const, beq_self_eq_true, List.replicate_succ, List.replicate_zero, List.headD_cons, List.cons_append, List.nil_append, bne_self_eq_false]
      | some u =>
        rw [hn, atoV_of (by omega) hn] at hN
        have hw := neg_wrap (numN_le hn)
        by_cases hu : u = 0
        · have hu' : ((u : Int) == 0) = true := by simp [hu]
          have hu2 : (u = 0) = True := by simp [hu]
          simp only [hC, hN, hu', hu2, Option.isSome_some, Option.isSome_none, Option.getD_none, ↓evD, evU, Nat.reduceAdd, Nat.reduceSub, Nat.reduceMul, Nat.reduceLeDiff, Nat.reduceLT, Nat.reduceEqDiff, Nat.reduceBEq, reduceIte, reduceCtorEq, Int.reduceBEq, Int.reduceEq, Int.reduceLT, Int.reduceLE, Int.reduceGT, Int.reduceGE, Int.reduceAdd, Int.reduceSub, Int.reduceNeg, Int.reduceBNe, List.all_cons, List.all_nil, List.getElem?_cons_zero, List.getElem?_cons_succ, List.getElem?_nil, Option.map_some, List.length_cons, List.length_nil, List.set_cons_zero, List.set_cons_succ, List.map_cons, List.map_nil, List.drop_zero, List.drop_succ_cons, List.drop_nil, List.take_zero, List.take_succ_cons, List.take_nil, ite_true, ite_false, if_true, if_false, implies_true, forall_const, beq_self_eq_true, List.replicate_succ, List.replicate_zero, List.headD_cons, List.cons_append, List.nil_append, bne_self_eq_false]
        · have hu' : ((u : Int) == 0) = false := by simp [hu]
          have hu2 : (u = 0) = False := by simp [hu]
          simp only [hC, hN, hu', Int.zero_sub, hw, hu2, Option.isSome_some, Option.getD_some, ↓evD, evU, Nat.reduceAdd, Nat.reduceSub, Nat.reduceMul, Nat.reduceLeDiff, Nat.reduceLT, Nat.reduceEqDiff, Nat.reduceBEq, reduceIte, reduceCtorEq, Int.reduceBEq, Int.reduceEq, Int.reduceLT, Int.reduceLE, Int.reduceGT, Int.reduceGE, Int.reduceAdd, Int.reduceSub, Int.reduceNeg, Int.reduceBNe, List.all_cons, List.all_nil, List.getElem?_cons_zero, List.getElem?_cons_succ, List.getElem?_nil, Option.map_some, List.length_cons, List.length_nil, List.set_cons_zero, List.set_cons_succ, List.map_cons, List.map_nil, List.drop_zero, List.drop_succ_cons, List.drop_nil, List.take_zero, List.take_succ_cons, List.take_nil, ite_true, ite_false, if_true, if_false, implies_true, forall_const, beq_self_eq_true, List.replicate_succ, List.replicate_zero, List.headD_cons, List.cons_append, List.nil_append, bne_self_eq_false]
    · have q : ([c] == ([45] : List UInt8)) = false := by simp [hc]
      rw [q] at hC
      have hN : ∀ base h, _ := fun base h => number_spec (base := base) (h := h) (s := c :: r) (by simp; omega) (most := 2147483647) (by omega)
      rw [z5] at hN
      rw [signG, if_neg hc]
      cases hn : numN (c :: r) 2147483647 with
      | none =>
        rw [hn] at hN
        simp only [hC, hN, Option.map_none, Option.isSome_none, Option.getD_none, ↓evD, evU, Nat.reduceAdd, Nat.reduceSub, Nat.reduceMul, Nat.reduceLeDiff, Nat.reduceLT, Nat.reduceEqDiff, Nat.reduceBEq, reduceIte, reduceCtorEq, Int.reduceBEq, Int.reduceEq, Int.reduceLT, Int.reduceLE, Int.reduceGT, Int.reduceGE, Int.reduceAdd, Int.reduceSub, Int.reduceNeg, Int.reduceBNe, List.all_cons, List.all_nil, List.getElem?_cons_zero, List.getElem?_cons_succ, List.getElem?_nil, Option.map_some, List.length_cons, List.length_nil, List.set_cons_zero, List.set_cons_succ, List.map_cons, List.map_nil, List.drop_zero, List.drop_succ_cons, List.drop_nil, List.take_zero, List.take_succ_cons, List.take_nil, ite_true, ite_false, if_true, if_false, implies_true, forall_const, beq_self_eq_true, List.replicate_succ, List.replicate_zero, List.headD_cons, List.cons_append, List.nil_append, bne_self_eq_false]
      | some u =>
        rw [hn, atoV_of (by omega) hn] at hN
        simp only [hC, hN, Option.map_some, Option.isSome_some, Option.getD_some, Int.ofNat_eq_natCast, ↓evD, evU, Nat.reduceAdd, Nat.reduceSub, Nat.reduceMul, Nat.reduceLeDiff, Nat.reduceLT, Nat.reduceEqDiff, Nat.reduceBEq, reduceIte, reduceCtorEq, Int.reduceBEq, Int.reduceEq, Int.reduceLT, Int.reduceLE, Int.reduceGT, Int.reduceGE, Int.reduceAdd, Int.reduceSub, Int.reduceNeg, Int.reduceBNe, List.all_cons, List.all_nil, List.getElem?_cons_zero, List.getElem?_cons_succ, List.getElem?_nil, Option.map_some, List.length_cons, List.length_nil, List.set_cons_zero, List.set_cons_succ, List.map_cons, List.map_nil, List.drop_zero, List.drop_succ_cons, List.drop_nil, List.take_zero, List.take_succ_cons, List.take_nil, ite_true, ite_false, if_true, if_false, implies_true, forall_const, beq_self_eq_true, List.replicate_succ, List.replicate_zero, List.headD_cons, List.cons_append, List.nil_append, bne_self_eq_false]
theorem numN_minus (r : List UInt8) (m : Nat) : numN (45 :: r) m = none := by
  unfold numN
  split
  · rfl
  · have : digs (45 :: r) 0 = none := by
      rw [digs]; rfl
    rw [this]
theorem signedR_spec {base : Nat} {h : Hp} (s : List UInt8) (hs : s.length ≤ 1000000) : CallA T base 38 [.str s] h = some (.tup [i64 (sgV s), .bool (signG s).isSome], h) := by
  rw [S38]
  have z5 : (((2147483647 : Nat)) : Int) = 2147483647 := rfl
  have hN : ∀ (s : List UInt8) base h, _ := fun s base h => numberR_spec (base := base) (h := h) s 2147483647
  rw [z5] at hN
  have plainc : signG s = (numN s 2147483647).map Int.ofNat → (some (PV.tup [i64 (numV s 2147483647), .bool (numN s 2147483647).isSome], h) = some (PV.tup [i64 (sgV s), .bool (signG s).isSome], h)) := by
    intro hq
    unfold sgV numV
    rw [hq]
    cases numN s 2147483647 <;> rfl
  cases s with
  | nil =>
    have hz : ((0 : Int) > 1) = False := by simp
    have hp := plainc rfl
    simp only [Int.ofNat_zero, Int.natCast_zero, hz, hN, hp, ↓evD, evU, Nat.reduceAdd, Nat.reduceSub, Nat.reduceMul, Nat.reduceLeDiff, Nat.reduceLT, Nat.reduceEqDiff, Nat.reduceBEq, reduceIte, reduceCtorEq, Int.reduceBEq, Int.reduceEq, Int.reduceLT, Int.reduceLE, Int.reduceGT, Int.reduceGE, Int.reduceAdd, Int.reduceSub, Int.reduceNeg, Int.reduceBNe, List.all_cons, List.all_nil, List.getElem?_cons_zero, List.getElem?_cons_succ, List.getElem?_nil, Option.map_some, List.length_cons, List.length_nil, List.set_cons_zero, List.set_cons_succ, List.map_cons, List.map_nil, List.drop_zero, List.drop_succ_cons, List.drop_nil, List.take_zero, List.take_succ_cons, List.take_nil, ite_true, ite_false, if_true, if_false, implies_true, forall_const, beq_self_eq_true, List.replicate_succ, List.replicate_zero, List.headD_cons, List.cons_append, List.nil_append, bne_self_eq_false]
  | cons c r =>
    simp only [List.length_cons] at hs
    by_cases h1 : ((r.length + 1 : Nat) : Int) > 1
    · have hix : ix (.int .i64 0) (r.length + 1) = some 0 := by simp [ix]
      have hix1 : ix (.int .i64 1) (r.length + 1) = some 1 := ix_nat .i64 1 _ (by omega)
      have e48 := u8_beq c 45
      have z48 : (((45 : UInt8).toNat : Nat) : Int) = 45 := rfl
      rw [z48] at e48
      cases r with
      | nil => simp at h1
      | cons d t =>
        simp only [List.length_cons] at h1 hix hix1
        by_cases hc : c = 45
        · have q1 : (c == 45) = true := by simp [hc]
          rw [q1] at e48
          have e49 := u8_bne d 48
          have z49 : (((48 : UInt8).toNat : Nat) : Int) = 48 := rfl
          rw [z49] at e49
          by_cases hd : d = 48
          · have q2 : (d != 48) = false := by simp [hd]
            rw [q2] at e49
            have hp := plainc (by
              subst hc hd
              rw [signG, if_pos rfl, numN_minus]
              cases hn : numN (48 :: t) 2147483647 with
              | none => rfl
              | some u =>
                obtain ⟨k1, k2⟩ := (numN_iff (by omega)).1 hn
                obtain ⟨c', r', k3, k4⟩ := digits_head u
                rw [k2] at k3
                injection k3 with k5 k6
                have := k4.1 (by rw [← k5]; rfl)
                simp [this])
            simp only [h1, hix, hix1, e48, e49, hN, hp, List.length_cons, ↓evD, evU, Nat.reduceAdd, Nat.reduceSub, Nat.reduceMul, Nat.reduceLeDiff, Nat.reduceLT, Nat.reduceEqDiff, Nat.reduceBEq, reduceIte, reduceCtorEq, Int.reduceBEq, Int.reduceEq, Int.reduceLT, Int.reduceLE, Int.reduceGT, Int.reduceGE, Int.reduceAdd, Int.reduceSub, Int.reduceNeg, Int.reduceBNe, List.all_cons, List.all_nil, List.getElem?_cons_zero, List.getElem?_cons_succ, List.getElem?_nil, Option.map_some, List.length_cons, List.length_nil, List.set_cons_zero, List.set_cons_succ, List.map_cons, List.map_nil, List.drop_zero, List.drop_succ_cons, List.drop_nil, List.take_zero, List.take_succ_cons, List.take_nil, ite_true, ite_false, if_true, if_false, implies_true, forall_const, beq_self_eq_true, List.replicate_succ, List.replicate_zero, List.headD_cons, List.cons_append, List.nil_append, bne_self_eq_false]
          · have q2 : (d != 48) = true := by simpa using hd
            rw [q2] at e49
            have hb := bdV_nat (t.length + 1 + 1) .i64 1 (by omega)
            have z1 : (((1 : Nat)) : Int) = 1 := rfl
            rw [z1] at hb
            have ht : (d :: t).take (t.length + 1 + 1 - 1) = d :: t := List.take_of_length_le (by simp)
            have hfin : some (PV.tup [i64 (IntKind.i64.wrap (0 - numV (d :: t) 2147483647)), .bool (numN (d :: t) 2147483647).isSome], h) = some (PV.tup [i64 (sgV (c :: d :: t)), .bool (signG (c :: d :: t)).isSome], h) := by
              unfold sgV
              rw [signG, if_pos hc]
              unfold numV
              cases hn : numN (d :: t) 2147483647 with
              | none => rfl
              | some u =>
                have hu : ¬ u = 0 := by
                  rintro rfl
                  obtain ⟨k1, k2⟩ := (numN_iff (by omega)).1 hn
                  rw [decDigits, dif_pos (by omega)] at k2
                  injection k2 with k3 k4
                  exact hd k3.symm
                have hu2 : (u = 0) = False := by simp [hu]
                simp only [Option.isSome_some, Option.getD_some, Int.zero_sub, hu2, if_false, neg_wrap (numN_le hn)]
            simp only [h1, hix, hix1, e48, e49, hN, hb, ht, hfin, List.length_cons, List.drop_succ_cons, List.drop_zero, ↓evD, evU, Nat.reduceAdd, Nat.reduceSub, Nat.reduceMul, Nat.reduceLeDiff, Nat.reduceLT, Nat.reduceEqDiff, Nat.reduceBEq, reduceIte, reduceCtorEq, Int.reduceBEq, Int.reduceEq, Int.reduceLT, Int.reduceLE, Int.reduceGT, Int.reduceGE, Int.reduceAdd, Int.reduceSub, Int.reduceNeg, Int.reduceBNe, List.all_cons, List.all_nil, List.getElem?_cons_zero, List.getElem?_cons_succ, List.getElem?_nil, Option.map_some, List.length_cons, List.length_nil, List.set_cons_zero, List.set_cons_succ, List.map_cons, List.map_nil, List.drop_zero, List.drop_succ_cons, List.drop_nil, List.take_zero, List.take_succ_cons, List.take_nil, ite_true, ite_false, if_true, if_false, implies_true, forall_const, beq_self_eq_true, List.replicate_succ, List.replicate_zero, List.headD_cons, List.cons_append, List.nil_append, bne_self_eq_false]
        · have q1 : (c == 45) = false := by simp [hc]
          rw [q1] at e48
          have hp := plainc (by rw [signG, if_neg hc])
          simp only [h1, hix, e48, hN, hp, List.length_cons, ↓evD, evU, Nat.reduceAdd, Nat.reduceSub, Nat.reduceMul, Nat.reduceLeDiff, Nat.reduceLT, Nat.reduceEqDiff, Nat.reduceBEq, reduceIte, reduceCtorEq, Int.reduceBEq, Int.reduceEq, Int.reduceLT, Int.reduceLE, Int.reduceGT, Int.reduceGE, Int.reduceAdd, Int.reduceSub, Int.reduceNeg, Int.reduceBNe, List.all_cons, List.all_nil, List.getElem?_cons_zero, List.getElem?_cons_succ, List.getElem?_nil, Option.map_some, List.length_cons, List.length_nil, List.set_cons_zero, List.set_cons_succ, List.map_cons, List.map_nil, List.drop_zero, List.drop_succ_cons, List.drop_nil, List.take_zero, List.take_succ_cons, List.take_nil, ite_true, ite_false, if_true, if_false, implies_true, forall_const, beq_self_eq_true, List.replicate_succ, List.replicate_zero, List.headD_cons, List.cons_append, List.nil_append, bne_self_eq_false]
    · have hp := plainc (by
        have : r = [] := by
          cases r with
          | nil => rfl
          | cons d t => simp at h1; omega
        subst this
        by_cases hc : c = 45
        · subst hc
          rw [signG, if_pos rfl, numN_minus]; rfl
        · rw [signG, if_neg hc])
      simp only [h1, hN, hp, List.length_cons, ↓evD, evU, Nat.reduceAdd, Nat.reduceSub, Nat.reduceMul, Nat.reduceLeDiff, Nat.reduceLT, Nat.reduceEqDiff, Nat.reduceBEq, reduceIte, reduceCtorEq, Int.reduceBEq, Int.reduceEq, Int.reduceLT, Int.reduceLE, Int.reduceGT, Int.reduceGE, Int.reduceAdd, Int.reduceSub, Int.reduceNeg, Int.reduceBNe, List.all_cons, List.all_nil, List.getElem?_cons_zero, List.getElem?_cons_succ, List.getElem?_nil, Option.map_some, List.length_cons, List.length_nil, List.set_cons_zero, List.set_cons_succ, List.map_cons, List.map_nil, List.drop_zero, List.drop_succ_cons, List.drop_nil, List.take_zero, List.take_succ_cons, List.take_nil, ite_true, ite_false, if_true, if_false, implies_true, forall_const, beq_self_eq_true, List.replicate_succ, List.replicate_zero, List.headD_cons, List.cons_append, List.nil_append, bne_self_eq_false]
end Go.Am.YtikgjdmdcpomlaaDoor
namespace Go.Am.YtikgjdmdcpomlaaDoor
set_option maxRecDepth 100000
set_option linter.unusedSimpArgs false
set_option linter.unusedVariables false
structure Cd where
  pmin : Int
  pmax : Int
  hmin : Bool
  hmax : Bool
  gt : Int
  lt : Int
  st : Int
  hgt : Bool
  hlt : Bool
  hst : Bool
def cnd (c : Cd) : List PV := [i64 c.pmin, i64 c.pmax, .bool c.hmin, .bool c.hmax, i64 c.gt, i64 c.lt, i64 c.st, .bool c.hgt, .bool c.hlt, .bool c.hst]
def cd0 : Cd := ⟨0, 0, false, false, 0, 0, 0, false, false, false⟩
def valP (p : Pr) : List UInt8 := if p.2.2 then [] else p.2.1
def nP (p : Pr) : Int := sgV (valP p)
def rP (p : Pr) : Bool := (signG (valP p)).isSome
def perB (p : Pr) : Bool := rP p && decide (nP p ≥ 0) && decide (nP p ≤ 65535)
def takeC (c : Cd) (p : Pr) : Cd :=
  if p.1 == [112, 109, 105, 110] then { c with pmin := nP p, hmin := true } else
  if p.1 == [112, 109, 97, 120] then { c with pmax := nP p, hmax := true } else
  if p.1 == [103, 116] then { c with gt := nP p, hgt := true } else
  if p.1 == [108, 116] then { c with lt := nP p, hlt := true } else
  if p.1 == [115, 116] then { c with st := nP p, hst := true } else c
def cntB (p : Pr) : Bool := p.1 == [112, 109, 105, 110] || p.1 == [112, 109, 97, 120] || p.1 == [103, 116] || p.1 == [108, 116] || p.1 == [115, 116]
def okB (p : Pr) : Bool :=
  if p.1 == [112, 109, 105, 110] then perB p else
  if p.1 == [112, 109, 97, 120] then perB p else
  if p.1 == [103, 116] then rP p else
  if p.1 == [108, 116] then rP p else
  if p.1 == [115, 116] then rP p else true
theorem set_ext {H l : Hp} {k : Nat} (x : Box) (hk : k < size H) : setBx (ext H l) k x = ext (setBx H k x) l := by
  simp only [setBx, ext, size] at *
  exact List.set_append_left _ _ hk
theorem take_at {H : Hp} {k : Nat} {c : Cd} (hk : getBox H k = some (cnd c)) (hlt : k < size H) (p : Pr) (hl : (valP p).length ≤ 1000000) (b : Bool) :
    P37_0 (size H) (size H) (.ptr k 0) (.ptr (size H) 0) (ext H [.cells [.str p.1, .str (valP p), .bool b]]) = some (.tup [.bool (cntB p), .bool (okB p)], setBx H k (.cells (cnd (takeC c p)))) := by
  rw [P37_0_eq]
  have hS : ∀ base h, _ := fun base h => signed_spec (base := base) (h := h) (valP p) hl
  have e1 : sgV (valP p) = nP p := rfl
  have e2 : (signG (valP p)).isSome = rP p := rfl
  rw [e1, e2] at hS
  have n1 : (k < size H) = True := by simp [hlt]
  have hk' : ∀ l, getBox (ext H l) k = some (cnd c) := fun l => by rw [getBox_ext_lt hlt]; exact hk
  have hg : ∀ l X, getBox (setBx (ext H l) k (.cells X)) k = some X := fun l X => getBox_set_same (by rw [size_ext]; omega)
  have ht : ∀ l x, trunc (setBx (ext H l) k x) (size H) = setBx H k x := fun l x => by
    rw [set_ext x hlt]
    have : size H = size (setBx H k x) := size_setBx.symm
    rw [this]; exact trunc_ext
  have hself : H = setBx H k (.cells (cnd c)) := by
    have := setBox_self hk
    rw [setBox_eq] at this
    exact this.symm
  have hperd : perB p = (rP p && decide (nP p ≥ 0) && decide (nP p ≤ 65535)) := rfl
  unfold takeC okB cntB
  rw [hperd]
  clear hperd
  generalize hv : valP p = v at *
  generalize nP p = n at *
  generalize rP p = r at *
  unfold cnd at *
  by_cases c1 : n ≥ 0 <;> by_cases c2 : n ≤ 65535 <;> cases r
  all_goals
    cases q1 : (p.1 == [112, 109, 105, 110])
    · cases q2 : (p.1 == [112, 109, 97, 120])
      · cases q3 : (p.1 == [103, 116])
        · cases q4 : (p.1 == [108, 116])
          · cases q5 : (p.1 == [115, 116])
            · simp only [hS, hk', hg, ht, n1, c1, c2, q1, q2, q3, q4, q5, decide_true, decide_false, Bool.and_true, Bool.and_false, Bool.true_and, Bool.false_and, Bool.or_false, Bool.or_true, Bool.true_or, Bool.false_or, Bool.false_eq_true, ↓evD, evU, Nat.reduceAdd, Nat.reduceSub, Nat.reduceMul, Nat.reduceLeDiff, Nat.reduceLT, Nat.reduceEqDiff, Nat.reduceBEq, reduceIte, reduceCtorEq, Int.reduceBEq, Int.reduceEq, Int.reduceLT, Int.reduceLE, Int.reduceGT, Int.reduceGE, Int.reduceAdd, Int.reduceSub, Int.reduceNeg, Int.reduceBNe, List.all_cons, List.all_nil, List.getElem?_cons_zero, List.getElem?_cons_succ, List.getElem?_nil, Option.map_some, List.length_cons, List.length_nil, List.set_cons_zero, List.set_cons_succ, List.map_cons, List.map_nil, List.drop_zero, List.drop_succ_cons, List.drop_nil, List.take_zero, List.take_succ_cons, List.take_nil, ite_true, ite_false, if_true, if_false, implies_true, forall_const, beq_self_eq_true, List.replicate_succ, List.replicate_zero, List.headD_cons, List.cons_append, List.nil_append, bne_self_eq_false]
              exact congrArg (fun H => some (PV.tup [.bool false, .bool true], H)) hself
            · simp only [hS, hk', hg, ht, n1, c1, c2, q1, q2, q3, q4, q5, decide_true, decide_false, Bool.and_true, Bool.and_false, Bool.true_and, Bool.false_and, Bool.or_false, Bool.or_true, Bool.true_or, Bool.false_or, Bool.false_eq_true, ↓evD, evU, Nat.reduceAdd, Nat.reduceSub, Nat.reduceMul, Nat.reduceLeDiff, Nat.reduceLT, Nat.reduceEqDiff, Nat.reduceBEq, reduceIte, reduceCtorEq, Int.reduceBEq, Int.reduceEq, Int.reduceLT, Int.reduceLE, Int.reduceGT, Int.reduceGE, Int.reduceAdd, Int.reduceSub, Int.reduceNeg, Int.reduceBNe, List.all_cons, List.all_nil, List.getElem?_cons_zero, List.getElem?_cons_succ, List.getElem?_nil, Option.map_some, List.length_cons, List.length_nil, List.set_cons_zero, List.set_cons_succ, List.map_cons, List.map_nil, List.drop_zero, List.drop_succ_cons, List.drop_nil, List.take_zero, List.take_succ_cons, List.take_nil, ite_true, ite_false, if_true, if_false, implies_true, forall_const, beq_self_eq_true, List.replicate_succ, List.replicate_zero, List.headD_cons, List.cons_append, List.nil_append, bne_self_eq_false]
          · simp only [hS, hk', hg, ht, n1, c1, c2, q1, q2, q3, q4, decide_true, decide_false, Bool.and_true, Bool.and_false, Bool.true_and, Bool.false_and, Bool.or_false, Bool.or_true, Bool.true_or, Bool.false_or, Bool.false_eq_true, ↓evD, evU, Nat.reduceAdd, Nat.reduceSub, Nat.reduceMul, Nat.reduceLeDiff, Nat.reduceLT, Nat.reduceEqDiff, Nat.reduceBEq, reduceIte, reduceCtorEq, Int.reduceBEq, Int.reduceEq, Int.reduceLT, Int.reduceLE, Int.reduceGT, Int.reduceGE, Int.reduceAdd, Int.reduceSub, Int.reduceNeg, Int.reduceBNe, List.all_cons, List.all_nil, List.getElem?_cons_zero, List.getElem?_cons_succ, List.getElem?_nil, Option.map_some, List.length_cons, List.length_nil, List.set_cons_zero, List.set_cons_succ, List.map_cons, List.map_nil, List.drop_zero, List.drop_succ_cons, List.drop_nil, List.take_zero, List.take_succ_cons, List.take_nil, ite_true, ite_false, if_true, if_false, implies_true, forall_const, beq_self_eq_true, List.replicate_succ, List.replicate_zero, List.headD_cons, List.cons_append, List.nil_append, bne_self_eq_false]
        · simp only [hS, hk', hg, ht, n1, c1, c2, q1, q2, q3, decide_true, decide_false, Bool.and_true, Bool.and_false, Bool.true_and, Bool.false_and, Bool.or_false, Bool.or_true, Bool.true_or, Bool.false_or, Bool.false_eq_true, ↓evD, evU, Nat.reduceAdd, Nat.reduceSub, Nat.reduceMul, Nat.reduceLeDiff, Nat.reduceLT, Nat.reduceEqDiff, Nat.reduceBEq, reduceIte, reduceCtorEq, Int.reduceBEq, Int.reduceEq, Int.reduceLT, Int.reduceLE, Int.reduceGT, Int.reduceGE, Int.reduceAdd, Int.reduceSub, Int.reduceNeg, Int.reduceBNe, List.all_cons, List.all_nil, List.getElem?_cons_zero, List.getElem?_cons_succ, List.getElem?_nil, Option.map_some, List.length_cons, List.length_nil, List.set_cons_zero, List.set_cons_succ, List.map_cons, List.map_nil, List.drop_zero, List.drop_succ_cons, List.drop_nil, List.take_zero, List.take_succ_cons, List.take_nil, ite_true, ite_false, if_true, if_false, implies_true, forall_const, beq_self_eq_true, List.replicate_succ, List.replicate_zero, List.headD_cons, List.cons_append, List.nil_append, bne_self_eq_false]
      · simp only [hS, hk', hg, ht, n1, c1, c2, q1, q2, decide_true, decide_false, Bool.and_true, Bool.and_false, Bool.true_and, Bool.false_and, Bool.or_false, Bool.or_true, Bool.true_or, Bool.false_or, Bool.false_eq_true, ↓evD, evU, Nat.reduceAdd, Nat.reduceSub, Nat.reduceMul, Nat.reduceLeDiff, Nat.reduceLT, Nat.reduceEqDiff, Nat.reduceBEq, reduceIte, reduceCtorEq, Int.reduceBEq, Int.reduceEq, Int.reduceLT, Int.reduceLE, Int.reduceGT, Int.reduceGE, Int.reduceAdd, Int.reduceSub, Int.reduceNeg, Int.reduceBNe, List.all_cons, List.all_nil, List.getElem?_cons_zero, List.getElem?_cons_succ, List.getElem?_nil, Option.map_some, List.length_cons, List.length_nil, List.set_cons_zero, List.set_cons_succ, List.map_cons, List.map_nil, List.drop_zero, List.drop_succ_cons, List.drop_nil, List.take_zero, List.take_succ_cons, List.take_nil, ite_true, ite_false, if_true, if_false, implies_true, forall_const, beq_self_eq_true, List.replicate_succ, List.replicate_zero, List.headD_cons, List.cons_append, List.nil_append, bne_self_eq_false]
    · simp only [hS, hk', hg, ht, n1, c1, c2, q1, decide_true, decide_false, Bool.and_true, Bool.and_false, Bool.true_and, Bool.false_and, Bool.or_false, Bool.or_true, Bool.true_or, Bool.false_or, Bool.false_eq_true, ↓evD, evU, Nat.reduceAdd, Nat.reduceSub, Nat.reduceMul, Nat.reduceLeDiff, Nat.reduceLT, Nat.reduceEqDiff, Nat.reduceBEq, reduceIte, reduceCtorEq, Int.reduceBEq, Int.reduceEq, Int.reduceLT, Int.reduceLE, Int.reduceGT, Int.reduceGE, Int.reduceAdd, Int.reduceSub, Int.reduceNeg, Int.reduceBNe, List.all_cons, List.all_nil, List.getElem?_cons_zero, List.getElem?_cons_succ, List.getElem?_nil, Option.map_some, List.length_cons, List.length_nil, List.set_cons_zero, List.set_cons_succ, List.map_cons, List.map_nil, List.drop_zero, List.drop_succ_cons, List.drop_nil, List.take_zero, List.take_succ_cons, List.take_nil, ite_true, ite_false, if_true, if_false, implies_true, forall_const, beq_self_eq_true, List.replicate_succ, List.replicate_zero, List.headD_cons, List.cons_append, List.nil_append, bne_self_eq_false]
theorem take_spec {base : Nat} {H : Hp} {k : Nat} {c : Cd} (hk : getBox H k = some (cnd c)) (hlt : k < size H) (p : Pr) (hl : (valP p).length ≤ 1000000) :
    CallA T base 37 [.ptr k 0, .agg [.str p.1, .str p.2.1, .bool p.2.2]] H = some (.tup [.bool (cntB p), .bool (okB p)], setBx H k (.cells (cnd (takeC c p)))) := by
  rw [S37]
  have h1 := take_at hk hlt p hl
  have n2 : (size H < size H) = False := by simp
  cases hb : p.2.2
  · have e : valP p = p.2.1 := by unfold valP; rw [hb]; rfl
    rw [e] at h1
    simp only [n2, h1, ↓evD, evU, Nat.reduceAdd, Nat.reduceSub, Nat.reduceMul, Nat.reduceLeDiff, Nat.reduceLT, Nat.reduceEqDiff, Nat.reduceBEq, reduceIte, reduceCtorEq, Int.reduceBEq, Int.reduceEq, Int.reduceLT, Int.reduceLE, Int.reduceGT, Int.reduceGE, Int.reduceAdd, Int.reduceSub, Int.reduceNeg, Int.reduceBNe, List.all_cons, List.all_nil, List.getElem?_cons_zero, List.getElem?_cons_succ, List.getElem?_nil, Option.map_some, List.length_cons, List.length_nil, List.set_cons_zero, List.set_cons_succ, List.map_cons, List.map_nil, List.drop_zero, List.drop_succ_cons, List.drop_nil, List.take_zero, List.take_succ_cons, List.take_nil, ite_true, ite_false, if_true, if_false, implies_true, forall_const, beq_self_eq_true, List.replicate_succ, List.replicate_zero, List.headD_cons, List.cons_append, List.nil_append, bne_self_eq_false]
  · have e : valP p = [] := by unfold valP; rw [hb]; rfl
    rw [e] at h1
    simp only [n2, h1, ↓evD, evU, Nat.reduceAdd, Nat.reduceSub, Nat.reduceMul, Nat.reduceLeDiff, Nat.reduceLT, Nat.reduceEqDiff, Nat.reduceBEq, reduceIte, reduceCtorEq, Int.reduceBEq, Int.reduceEq, Int.reduceLT, Int.reduceLE, Int.reduceGT, Int.reduceGE, Int.reduceAdd, Int.reduceSub, Int.reduceNeg, Int.reduceBNe, List.all_cons, List.all_nil, List.getElem?_cons_zero, List.getElem?_cons_succ, List.getElem?_nil, Option.map_some, List.length_cons, List.length_nil, List.set_cons_zero, List.set_cons_succ, List.map_cons, List.map_nil, List.drop_zero, List.drop_succ_cons, List.drop_nil, List.take_zero, List.take_succ_cons, List.take_nil, ite_true, ite_false, if_true, if_false, implies_true, forall_const, beq_self_eq_true, List.replicate_succ, List.replicate_zero, List.headD_cons, List.cons_append, List.nil_append, bne_self_eq_false]
end Go.Am.YtikgjdmdcpomlaaDoor
namespace Go.Am.YtikgjdmdcpomlaaDoor
set_option maxRecDepth 100000
set_option linter.unusedSimpArgs false
set_option linter.unusedVariables false
def condF : Cd → Bool → List Pr → Option (Cd × Bool)
  | c, s, [] => some (c, s)
  | c, s, p :: r => if okB p then condF (takeC c p) (s || cntB p) r else none
def badC (c : Cd) : Bool := c.hmin && c.hmax && decide (c.pmax < c.pmin) || c.hst && decide (c.st ≤ 0)
def outC (c : Cd) (s : Bool) : PV := if badC c then .tup [.agg (cnd cd0), .bool false, i64 1] else .tup [.agg (cnd c), .bool s, i64 0]
def condT (c : Cd) (s : Bool) (l : List Pr) : PV := match condF c s l with
  | none => .tup [.agg (cnd cd0), .bool false, i64 20]
  | some (c, s) => outC c s
structure CH (h H : Hp) (c : Cd) : Prop where
  tr : trunc H (size h) = h
  le : size h + 1 < size H
  b0 : getBox H (size h) = some (cnd cd0)
  b1 : getBox H (size h + 1) = some (cnd c)
theorem CH.g0 {h H : Hp} {c : Cd} (g : CH h H c) (X : List PV) : getBox (setBx H (size h) (.cells X)) (size h) = some X := getBox_set_same (by have := g.le; omega)
theorem trunc_setge {h H : Hp} (x : Box) {k : Nat} (hk : size h ≤ k) : trunc (setBx H k x) (size h) = trunc H (size h) := by
  simp only [trunc, setBx, size] at *
  rw [List.take_set_of_le hk]
theorem CH.t0 {h H : Hp} {c : Cd} (g : CH h H c) (x : Box) : trunc (setBx H (size h) x) (size h) = h := by rw [trunc_setge x (Nat.le_refl _)]; exact g.tr
theorem CH.take {h H : Hp} {c : Cd} (g : CH h H c) (p : Pr) (hl : (valP p).length ≤ 1000000) (x : Box) :
    ∃ H', CallA T (size h) 37 [.ptr (size h + 1) 0, .agg [.str p.1, .str p.2.1, .bool p.2.2]] (ext H [x]) = some (.tup [.bool (cntB p), .bool (okB p)], H') ∧ CH h H' (takeC c p) := by
  have hlt : size h + 1 < size (ext H [x]) := by rw [size_ext]; have := g.le; omega
  have hk : getBox (ext H [x]) (size h + 1) = some (cnd c) := by rw [getBox_ext_lt g.le]; exact g.b1
  refine ⟨_, take_spec hk hlt p hl, ?_⟩
  have h2 := g.le
  refine ⟨?_, ?_, ?_, ?_⟩
  · rw [trunc_setge _ (by omega), trunc_ext_ge _ (by omega)]; exact g.tr
  · rw [size_setBx, size_ext]; omega
  · rw [getBox_set_ne (by omega), getBox_ext_lt (by omega)]; exact g.b0
  · exact getBox_set_same hlt
theorem cond_end {h H : Hp} {c : Cd} (g : CH h H c) (s : Bool) (b : PV) (n : Int) :
    P18_0 (size h) (size h) (.ptr (size h) 0) (i64 n) (.bool s) (.ptr (size h + 1) 0) b (i64 n) H = some (outC c s, h) := by
  rw [P18_0_eq]
  have h1 : (n < n) = False := by simp
  have hb0 := g.b0
  have hb1 := g.b1
  have hg := g.g0
  have ht := g.t0
  unfold outC badC cd0
  unfold cnd cd0 at *
  obtain ⟨pmin, pmax, hmin, hmax, gt, lt, st, hgt, hlt, hst⟩ := c
  simp only at *
  by_cases c1 : pmax < pmin <;> by_cases c2 : st ≤ 0 <;> cases hmin <;> cases hmax <;> cases hst <;>
    simp only [h1, hb0, hb1, hg, ht, c1, c2, decide_true, decide_false, Bool.and_true, Bool.and_false, Bool.true_and, Bool.false_and, Bool.or_false, Bool.or_true, Bool.true_or, Bool.false_or, Bool.false_eq_true, ↓evD, evU, Nat.reduceAdd, Nat.reduceSub, Nat.reduceMul, Nat.reduceLeDiff, Nat.reduceLT, Nat.reduceEqDiff, Nat.reduceBEq, reduceIte, reduceCtorEq, Int.reduceBEq, Int.reduceEq, Int.reduceLT, Int.reduceLE, Int.reduceGT, Int.reduceGE, Int.reduceAdd, Int.reduceSub, Int.reduceNeg, Int.reduceBNe, List.all_cons, List.all_nil, List.getElem?_cons_zero, List.getElem?_cons_succ, List.getElem?_nil, Option.map_some, List.length_cons, List.length_nil, List.set_cons_zero, List.set_cons_succ, List.map_cons, List.map_nil, List.drop_zero, List.drop_succ_cons, List.drop_nil, List.take_zero, List.take_succ_cons, List.take_nil, ite_true, ite_false, if_true, if_false, implies_true, forall_const, beq_self_eq_true, List.replicate_succ, List.replicate_zero, List.headD_cons, List.cons_append, List.nil_append, bne_self_eq_false]
theorem cond_loop {h : Hp} {b : PV} {l : List Pr} (hb : Rl eP 3 b l) (hl : l.length ≤ 1000000) (hs : ∀ p ∈ l, (valP p).length ≤ 1000000) : ∀ (r q : List Pr) (c : Cd) (s : Bool) (H : Hp), l = q ++ r → CH h H c →
    P18_0 (size h) (size h) (.ptr (size h) 0) (i64 q.length) (.bool s) (.ptr (size h + 1) 0) b (i64 l.length) H = some (condT c s r, h)
  | [], q, c, s, H, hp, g => by
    have e : q.length = l.length := by rw [hp]; simp
    rw [e]
    exact cond_end g s b l.length
  | p :: r, q, c, s, H, hp, g => by
    rw [P18_0_eq]
    have el : l.length = q.length + (r.length + 1) := by rw [hp]; simp
    have h1 : ((q.length : Int) < (l.length : Int)) = True := by simp; omega
    have hx : l[q.length]? = some p := by rw [hp]; simp
    have hec : (eP p).cells = [.str p.1, .str p.2.1, .bool p.2.2] := rfl
    have w1 : IntKind.i64.wrap ((q.length : Int) + 1) = (((q ++ [p]).length : Nat) : Int) := by rw [show (q ++ [p]).length = q.length + 1 by simp, wrap_small] <;> omega
    have n1 : (size H < size h) = False := by have := g.le; simp; omega
    have n0 : (size h < size h) = False := by simp
    obtain ⟨H', hT, g'⟩ := g.take p (hs p (by rw [hp]; simp)) (.cells [.str p.1, .str p.2.1, .bool p.2.2])
    have hb0 := g'.b0
    have hg := g'.g0
    have ht := g'.t0
    cases ho : okB p
    · rw [ho] at hT
      have e : condT c s (p :: r) = .tup [.agg (cnd cd0), .bool false, i64 20] := by
        unfold condT
        rw [condF, ho]; rfl
      rw [e]
      unfold cnd cd0 at *
      simp only [h1, hb.idx hx, hec, n1, n0, hT, hb0, hg, ht, ↓evD, evU, Nat.reduceAdd, Nat.reduceSub, Nat.reduceMul, Nat.reduceLeDiff, Nat.reduceLT, Nat.reduceEqDiff, Nat.reduceBEq, reduceIte, reduceCtorEq, Int.reduceBEq, Int.reduceEq, Int.reduceLT, Int.reduceLE, Int.reduceGT, Int.reduceGE, Int.reduceAdd, Int.reduceSub, Int.reduceNeg, Int.reduceBNe, List.all_cons, List.all_nil, List.getElem?_cons_zero, List.getElem?_cons_succ, List.getElem?_nil, Option.map_some, List.length_cons, List.length_nil, List.set_cons_zero, List.set_cons_succ, List.map_cons, List.map_nil, List.drop_zero, List.drop_succ_cons, List.drop_nil, List.take_zero, List.take_succ_cons, List.take_nil, ite_true, ite_false, if_true, if_false, implies_true, forall_const, beq_self_eq_true, List.replicate_succ, List.replicate_zero, List.headD_cons, List.cons_append, List.nil_append, bne_self_eq_false]
    · rw [ho] at hT
      have e : condT c s (p :: r) = condT (takeC c p) (s || cntB p) r := by
        unfold condT
        rw [condF, ho]; rfl
      have ih := cond_loop (h := h) hb hl hs r (q ++ [p]) (takeC c p) (s || cntB p) H' (by rw [hp]; simp) g'
      rw [e]
      cases s
      · rw [Bool.false_or] at ih ⊢
        simp only [h1, hb.idx hx, hec, n1, n0, hT, w1, ih, ↓evD, evU, Nat.reduceAdd, Nat.reduceSub, Nat.reduceMul, Nat.reduceLeDiff, Nat.reduceLT, Nat.reduceEqDiff, Nat.reduceBEq, reduceIte, reduceCtorEq, Int.reduceBEq, Int.reduceEq, Int.reduceLT, Int.reduceLE, Int.reduceGT, Int.reduceGE, Int.reduceAdd, Int.reduceSub, Int.reduceNeg, Int.reduceBNe, List.all_cons, List.all_nil, List.getElem?_cons_zero, List.getElem?_cons_succ, List.getElem?_nil, Option.map_some, List.length_cons, List.length_nil, List.set_cons_zero, List.set_cons_succ, List.map_cons, List.map_nil, List.drop_zero, List.drop_succ_cons, List.drop_nil, List.take_zero, List.take_succ_cons, List.take_nil, ite_true, ite_false, if_true, if_false, implies_true, forall_const, beq_self_eq_true, List.replicate_succ, List.replicate_zero, List.headD_cons, List.cons_append, List.nil_append, bne_self_eq_false]
      · rw [Bool.true_or] at ih ⊢
        simp only [h1, hb.idx hx, hec, n1, n0, hT, w1, ih, ↓evD, evU, Nat.reduceAdd, Nat.reduceSub, Nat.reduceMul, Nat.reduceLeDiff, Nat.reduceLT, Nat.reduceEqDiff, Nat.reduceBEq, reduceIte, reduceCtorEq, Int.reduceBEq, Int.reduceEq, Int.reduceLT, Int.reduceLE, Int.reduceGT, Int.reduceGE, Int.reduceAdd, Int.reduceSub, Int.reduceNeg, Int.reduceBNe, List.all_cons, List.all_nil, List.getElem?_cons_zero, List.getElem?_cons_succ, List.getElem?_nil, Option.map_some, List.length_cons, List.length_nil, List.set_cons_zero, List.set_cons_succ, List.map_cons, List.map_nil, List.drop_zero, List.drop_succ_cons, List.drop_nil, List.take_zero, List.take_succ_cons, List.take_nil, ite_true, ite_false, if_true, if_false, implies_true, forall_const, beq_self_eq_true, List.replicate_succ, List.replicate_zero, List.headD_cons, List.cons_append, List.nil_append, bne_self_eq_false]
theorem qryX_val {l : List Op} {k : Nat} (hs : ∀ o ∈ l, (bxL o.2).length ≤ k) : ∀ p ∈ qryX l, p.2.1.length ≤ k ∧ (valP p).length ≤ k := by
  intro p hp
  obtain ⟨x, hx, rfl⟩ := List.mem_map.1 hp
  have h1 := allR_mem (P := fun x => (bxL x).length ≤ k) hs x hx
  have h2 : (cutP (bxL x)).2.1.length ≤ (bxL x).length := by
    unfold cutP Lib.cut
    split
    · simp
    · simp
  refine ⟨by omega, ?_⟩
  unfold valP
  split
  · simp
  · omega
theorem cond_spec {base : Nat} {h : Hp} {b : PV} {l : List Op} (hb : Rl eO 2 b l) (hl : l.length ≤ 1000000) (hs : ∀ o ∈ l, (bxL o.2).length ≤ 1000000) : CallA T base 18 [b] h = some (condT cd0 false (qryX l), h) := by
  rw [S18]
  have hA : ∀ base h, _ := fun base h => query_spec (base := base) (h := h) hb hl hs
  have hr := (Lv.done (e := eP) (gZ_nils 3) (qryX l)).rl
  have g : CH h (ext h [.cells (cnd cd0), .cells (cnd cd0)]) cd0 := by
    refine ⟨trunc_ext, by simp only [size_ext, List.length_cons, List.length_nil]; omega, ?_, ?_⟩
    · rw [getBox_ext_0]; rfl
    · rw [getBox_ext_n]; rfl
  have := cond_loop (h := h) hr (by have := qryX_len l; omega) (fun p hp => (qryX_val hs p hp).2) (qryX l) [] cd0 false _ rfl g
  simp only [hA, hr.len, ↓evD, evU, Nat.reduceAdd, Nat.reduceSub, Nat.reduceMul, Nat.reduceLeDiff, Nat.reduceLT, Nat.reduceEqDiff, Nat.reduceBEq, reduceIte, reduceCtorEq, Int.reduceBEq, Int.reduceEq, Int.reduceLT, Int.reduceLE, Int.reduceGT, Int.reduceGE, Int.reduceAdd, Int.reduceSub, Int.reduceNeg, Int.reduceBNe, List.all_cons, List.all_nil, List.getElem?_cons_zero, List.getElem?_cons_succ, List.getElem?_nil, Option.map_some, List.length_cons, List.length_nil, List.set_cons_zero, List.set_cons_succ, List.map_cons, List.map_nil, List.drop_zero, List.drop_succ_cons, List.drop_nil, List.take_zero, List.take_succ_cons, List.take_nil, ite_true, ite_false, if_true, if_false, implies_true, forall_const, beq_self_eq_true, List.replicate_succ, List.replicate_zero, List.headD_cons, List.cons_append, List.nil_append, bne_self_eq_false]
  exact this
end Go.Am.YtikgjdmdcpomlaaDoor
namespace Go.Am.YtikgjdmdcpomlaaDoor
set_option maxRecDepth 100000
set_option linter.unusedSimpArgs false
set_option linter.unusedVariables false
open Go.Lib (decDigits itoa)
def bxN (l : List UInt8) : Bx := ⟨.sl .no 1 (u8s l), l, Bv.no l⟩
theorem bxL_bxN (l : List UInt8) : bxL (bxN l) = l := bxL_of (Bv.no l)
def joinP (p : Pr) : List UInt8 := if p.2.2 then p.1 else p.1 ++ 61 :: p.2.1
def optP (p : Pr) : Op := (15, bxN (joinP p))
def optS (s : List UInt8) : Op := (11, bxN s)
theorem queries_loop {h : Hp} {b : PV} {l : List Pr} (hb : Rl eP 3 b l) (hl : l.length ≤ 1000000) (hs : ∀ p ∈ l, p.1.length ≤ 1000 ∧ p.2.1.length ≤ 1000) : ∀ (r q : List Pr) (out : List Op) (v : PV) (H : Hp), l = q ++ r → out.length ≤ q.length → GS h 73 2 .nils v (out.map eO) H →
    P27_0 (size h) (size h) (i64 q.length) v b (i64 l.length) H = some (gD .nils 2 ((out ++ r.map optP).map eO), h)
  | [], q, out, v, H, hp, ho, g => by
    rw [P27_0_eq]
    have e : q.length = l.length := by rw [hp]; simp
    have h1 : ((q.length : Int) < (l.length : Int)) = False := by simp; omega
    simp only [h1, List.map_nil, List.append_nil, g.frz (gZ_nils 2), below_gD (gZ_nils 2) _ _ (elO.belows _ _), g.tr, ↓evD, evU, Nat.reduceAdd, Nat.reduceSub, Nat.reduceMul, Nat.reduceLeDiff, Nat.reduceLT, Nat.reduceEqDiff, Nat.reduceBEq, reduceIte, reduceCtorEq, Int.reduceBEq, Int.reduceEq, Int.reduceLT, Int.reduceLE, Int.reduceGT, Int.reduceGE, Int.reduceAdd, Int.reduceSub, Int.reduceNeg, Int.reduceBNe, List.all_cons, List.all_nil, List.getElem?_cons_zero, List.getElem?_cons_succ, List.getElem?_nil, Option.map_some, List.length_cons, List.length_nil, List.set_cons_zero, List.set_cons_succ, List.map_cons, List.map_nil, List.drop_zero, List.drop_succ_cons, List.drop_nil, List.take_zero, List.take_succ_cons, List.take_nil, ite_true, ite_false, if_true, if_false, implies_true, forall_const, beq_self_eq_true, List.replicate_succ, List.replicate_zero, List.headD_cons, List.cons_append, List.nil_append, bne_self_eq_false]
  | p :: r, q, out, v, H, hp, ho, g => by
    rw [P27_0_eq]
    have el : l.length = q.length + (r.length + 1) := by rw [hp]; simp
    have h1 : ((q.length : Int) < (l.length : Int)) = True := by simp; omega
    have hx : l[q.length]? = some p := by rw [hp]; simp
    have hec : (eP p).cells = [.str p.1, .str p.2.1, .bool p.2.2] := rfl
    have w1 : IntKind.i64.wrap ((q.length : Int) + 1) = (((q ++ [p]).length : Nat) : Int) := by rw [show (q ++ [p]).length = q.length + 1 by simp, wrap_small] <;> omega
    have n1 : (size H < size h) = False := by have := g.le; simp; omega
    have g1 := g.ext [.cells [.str p.1, .str p.2.1, .bool p.2.2]]
    obtain ⟨v', H', e1, g2⟩ := g1.grow (gZ_nils 2) (x := eO (optP p)) (by simpa using elO.fits [optP p]) (elO.st _) (by unfold lim2; simp; omega)
    have g3 : GS h 73 2 .nils v' ((out ++ [optP p]).map eO) H' := by rw [List.map_append]; exact g2
    have ih := queries_loop (h := h) hb hl hs r (q ++ [p]) (out ++ [optP p]) v' H' (by rw [hp]; simp) (by simp; omega) g3
    have e3 : out ++ [optP p] ++ r.map optP = out ++ (p :: r).map optP := by simp
    rw [e3] at ih
    obtain ⟨s1, s2⟩ := hs p (by rw [hp]; simp)
    have hel : ∀ s : List UInt8, (s.map fun c => PV.int .u8 (c.toNat : Int)) = u8s s := fun _ => rfl
    have e4 : eO (optP p) = .agg [i64 15, .sl .no 1 (u8s (joinP p))] := rfl
    rw [e4] at e1
    cases hbb : p.2.2
    · rw [hbb] at e1
      have hj : joinP p = p.1 ++ 61 :: p.2.1 := by unfold joinP; rw [hbb]; rfl
      rw [hj] at e1
      have l0 : 1 + p.2.1.length ≤ limS := by unfold limS; omega
      have l1 : p.1.length + (p.2.1.length + 1) ≤ limS := by unfold limS; omega
      have l2 : (p.1 ++ 61 :: p.2.1).length ≤ limS := by unfold limS; simp; omega
      generalize hJ : p.1 ++ 61 :: p.2.1 = J at *
      have a1 : ([61] : List UInt8) ++ p.2.1 = 61 :: p.2.1 := rfl
      simp only [h1, hb.idx hx, hec, n1, hbb, l0, a1, l1, hJ, l2, strBytesB_val _ _ l2, hel, e1, w1, ih, ↓evD, evU, Nat.reduceAdd, Nat.reduceSub, Nat.reduceMul, Nat.reduceLeDiff, Nat.reduceLT, Nat.reduceEqDiff, Nat.reduceBEq, reduceIte, reduceCtorEq, Int.reduceBEq, Int.reduceEq, Int.reduceLT, Int.reduceLE, Int.reduceGT, Int.reduceGE, Int.reduceAdd, Int.reduceSub, Int.reduceNeg, Int.reduceBNe, List.all_cons, List.all_nil, List.getElem?_cons_zero, List.getElem?_cons_succ, List.getElem?_nil, Option.map_some, List.length_cons, List.length_nil, List.set_cons_zero, List.set_cons_succ, List.map_cons, List.map_nil, List.drop_zero, List.drop_succ_cons, List.drop_nil, List.take_zero, List.take_succ_cons, List.take_nil, ite_true, ite_false, if_true, if_false, implies_true, forall_const, beq_self_eq_true, List.replicate_succ, List.replicate_zero, List.headD_cons, List.cons_append, List.nil_append, bne_self_eq_false]
    · rw [hbb] at e1
      have hj : joinP p = p.1 := by unfold joinP; rw [hbb]; rfl
      rw [hj] at e1
      have l2 : p.1.length ≤ limS := by unfold limS; omega
      simp only [h1, hb.idx hx, hec, n1, hbb, l2, strBytesB_val _ _ l2, hel, e1, w1, ih, ↓evD, evU, Nat.reduceAdd, Nat.reduceSub, Nat.reduceMul, Nat.reduceLeDiff, Nat.reduceLT, Nat.reduceEqDiff, Nat.reduceBEq, reduceIte, reduceCtorEq, Int.reduceBEq, Int.reduceEq, Int.reduceLT, Int.reduceLE, Int.reduceGT, Int.reduceGE, Int.reduceAdd, Int.reduceSub, Int.reduceNeg, Int.reduceBNe, List.all_cons, List.all_nil, List.getElem?_cons_zero, List.getElem?_cons_succ, List.getElem?_nil, Option.map_some, List.length_cons, List.length_nil, List.set_cons_zero, List.set_cons_succ, List.map_cons, List.map_nil, List.drop_zero, List.drop_succ_cons, List.drop_nil, List.take_zero, List.take_succ_cons, List.take_nil, ite_true, ite_false, if_true, if_false, implies_true, forall_const, beq_self_eq_true, List.replicate_succ, List.replicate_zero, List.headD_cons, List.cons_append, List.nil_append, bne_self_eq_false]
theorem queries_spec {base : Nat} {h : Hp} {b : PV} {l : List Pr} (hb : Rl eP 3 b l) (hl : l.length ≤ 1000000) (hs : ∀ p ∈ l, p.1.length ≤ 1000 ∧ p.2.1.length ≤ 1000) : CallA T base 27 [b] h = some (gD .nils 2 ((l.map optP).map eO), h) := by
  rw [S27]
  have := queries_loop (h := h) hb hl hs l [] [] .nils h rfl (by simp) (GS.zero h 73 2 .nils)
  simp only [hb.len, ↓evD, evU, Nat.reduceAdd, Nat.reduceSub, Nat.reduceMul, Nat.reduceLeDiff, Nat.reduceLT, Nat.reduceEqDiff, Nat.reduceBEq, reduceIte, reduceCtorEq, Int.reduceBEq, Int.reduceEq, Int.reduceLT, Int.reduceLE, Int.reduceGT, Int.reduceGE, Int.reduceAdd, Int.reduceSub, Int.reduceNeg, Int.reduceBNe, List.all_cons, List.all_nil, List.getElem?_cons_zero, List.getElem?_cons_succ, List.getElem?_nil, Option.map_some, List.length_cons, List.length_nil, List.set_cons_zero, List.set_cons_succ, List.map_cons, List.map_nil, List.drop_zero, List.drop_succ_cons, List.drop_nil, List.take_zero, List.take_succ_cons, List.take_nil, ite_true, ite_false, if_true, if_false, implies_true, forall_const, beq_self_eq_true, List.replicate_succ, List.replicate_zero, List.headD_cons, List.cons_append, List.nil_append, bne_self_eq_false]
  exact this
theorem opts_loop {h : Hp} {b : PV} {l : List (List UInt8)} (hb : Rl eS 1 b l) (hl : l.length ≤ 1000000) (hs : ∀ s ∈ l, s.length ≤ 1000) : ∀ (r q : List (List UInt8)) (out : List Op), l = q ++ r → out.length ≤ q.length →
    P26_0 (size h) (size h) (i64 q.length) (gV h .nils 2 (out.map eO)) b (i64 l.length) (gH h 73 (out.map eO)) = some (gD .nils 2 ((out ++ r.map optS).map eO), h)
  | [], q, out, hp, ho => by
    rw [P26_0_eq]
    have e : q.length = l.length := by rw [hp]; simp
    have h1 : ((q.length : Int) < (l.length : Int)) = False := by simp; omega
    have gz := gZ_nils 2
    simp only [h1, List.map_nil, List.append_nil, frz_gV gz, below_gD gz _ _ (elO.belows _ _), trunc_gH, ↓evD, evU, Nat.reduceAdd, Nat.reduceSub, Nat.reduceMul, Nat.reduceLeDiff, Nat.reduceLT, Nat.reduceEqDiff, Nat.reduceBEq, reduceIte, reduceCtorEq, Int.reduceBEq, Int.reduceEq, Int.reduceLT, Int.reduceLE, Int.reduceGT, Int.reduceGE, Int.reduceAdd, Int.reduceSub, Int.reduceNeg, Int.reduceBNe, List.all_cons, List.all_nil, List.getElem?_cons_zero, List.getElem?_cons_succ, List.getElem?_nil, Option.map_some, List.length_cons, List.length_nil, List.set_cons_zero, List.set_cons_succ, List.map_cons, List.map_nil, List.drop_zero, List.drop_succ_cons, List.drop_nil, List.take_zero, List.take_succ_cons, List.take_nil, ite_true, ite_false, if_true, if_false, implies_true, forall_const, beq_self_eq_true, List.replicate_succ, List.replicate_zero, List.headD_cons, List.cons_append, List.nil_append, bne_self_eq_false]
  | s :: r, q, out, hp, ho => by
    rw [P26_0_eq]
    have el : l.length = q.length + (r.length + 1) := by rw [hp]; simp
    have h1 : ((q.length : Int) < (l.length : Int)) = True := by simp; omega
    have hx : l[q.length]? = some s := by rw [hp]; simp
    have hec : (eS s).cells = [.str s] := rfl
    have w1 : IntKind.i64.wrap ((q.length : Int) + 1) = (((q ++ [s]).length : Nat) : Int) := by rw [show (q ++ [s]).length = q.length + 1 by simp, wrap_small] <;> omega
    have gg := gOneL (h := h) (T := 73) elO (gZ_nils 2) out (optS s) (by unfold lim2; omega)
    have e4 : eO (optS s) = .agg [i64 11, .sl .no 1 (u8s s)] := rfl
    rw [e4] at gg
    have ih := opts_loop (h := h) hb hl hs r (q ++ [s]) (out ++ [optS s]) (by rw [hp]; simp) (by simp; omega)
    have e3 : out ++ [optS s] ++ r.map optS = out ++ (s :: r).map optS := by simp
    rw [e3] at ih
    have hel : ∀ s : List UInt8, (s.map fun c => PV.int .u8 (c.toNat : Int)) = u8s s := fun _ => rfl
    have l2 : s.length ≤ limS := by have := hs s (by rw [hp]; simp); unfold limS; omega
    simp only [h1, hb.idx hx, hec, l2, strBytesB_val _ _ l2, hel, gg, w1, ih, ↓evD, evU, Nat.reduceAdd, Nat.reduceSub, Nat.reduceMul, Nat.reduceLeDiff, Nat.reduceLT, Nat.reduceEqDiff, Nat.reduceBEq, reduceIte, reduceCtorEq, Int.reduceBEq, Int.reduceEq, Int.reduceLT, Int.reduceLE, Int.reduceGT, Int.reduceGE, Int.reduceAdd, Int.reduceSub, Int.reduceNeg, Int.reduceBNe, List.all_cons, List.all_nil, List.getElem?_cons_zero, List.getElem?_cons_succ, List.getElem?_nil, Option.map_some, List.length_cons, List.length_nil, List.set_cons_zero, List.set_cons_succ, List.map_cons, List.map_nil, List.drop_zero, List.drop_succ_cons, List.drop_nil, List.take_zero, List.take_succ_cons, List.take_nil, ite_true, ite_false, if_true, if_false, implies_true, forall_const, beq_self_eq_true, List.replicate_succ, List.replicate_zero, List.headD_cons, List.cons_append, List.nil_append, bne_self_eq_false]
theorem optsS_spec {base : Nat} {h : Hp} {b : PV} {l : List (List UInt8)} (hb : Rl eS 1 b l) (hl : l.length ≤ 1000000) (hs : ∀ s ∈ l, s.length ≤ 1000) : CallA T base 26 [b] h = some (gD .nils 2 ((l.map optS).map eO), h) := by
  rw [S26]
  have := opts_loop (h := h) hb hl hs l [] [] rfl (by simp)
  rw [List.map_nil, gV_nil, gH_nil] at this
  simp only [hb.len, ↓evD, evU, Nat.reduceAdd, Nat.reduceSub, Nat.reduceMul, Nat.reduceLeDiff, Nat.reduceLT, Nat.reduceEqDiff, Nat.reduceBEq, reduceIte, reduceCtorEq, Int.reduceBEq, Int.reduceEq, Int.reduceLT, Int.reduceLE, Int.reduceGT, Int.reduceGE, Int.reduceAdd, Int.reduceSub, Int.reduceNeg, Int.reduceBNe, List.all_cons, List.all_nil, List.getElem?_cons_zero, List.getElem?_cons_succ, List.getElem?_nil, Option.map_some, List.length_cons, List.length_nil, List.set_cons_zero, List.set_cons_succ, List.map_cons, List.map_nil, List.drop_zero, List.drop_succ_cons, List.drop_nil, List.take_zero, List.take_succ_cons, List.take_nil, ite_true, ite_false, if_true, if_false, implies_true, forall_const, beq_self_eq_true, List.replicate_succ, List.replicate_zero, List.headD_cons, List.cons_append, List.nil_append, bne_self_eq_false]
  exact this
theorem allR_optP : ∀ l : List Pr, allR 15 (l.map optP) = l.map fun p => bxN (joinP p)
  | [] => rfl
  | p :: l => by
    rw [List.map_cons, allR, allR_optP l]; rfl
theorem allR_optS : ∀ l : List (List UInt8), allR 11 (l.map optS) = l.map bxN
  | [] => rfl
  | p :: l => by
    rw [List.map_cons, allR, allR_optS l]; rfl
theorem qry_optP (l : List Pr) : qryX (l.map optP) = l.map fun p => cutP (joinP p) := by
  unfold qryX
  rw [allR_optP, List.map_map]
  congr 1
  funext p
  show cutP (bxL (bxN (joinP p))) = _
  rw [bxL_bxN]
theorem seg_optS (l : List (List UInt8)) : segX (l.map optS) = l := by
  rw [segX_eq]
  unfold segR
  rw [allR_optS, List.map_map]
  have : (bxL ∘ bxN) = id := by funext s; exact bxL_bxN s
  rw [this, List.map_id]
/-- A pair whose name has no sign is read as it, without a value where it is bare. -/
def cleanP (p : Pr) : Pr := (p.1, if p.2.2 then [] else p.2.1, p.2.2)
theorem cut_join {p : Pr} (h : 61 ∉ p.1) : cutP (joinP p) = cleanP p := by
  obtain ⟨a, b, c⟩ := p
  cases c
  · exact cutP_hit b h
  · exact cutP_miss h
theorem num_spec {base : Nat} {h : Hp} (n : Int) (hn : in64 n) : CallA T base 28 [i64 n] h = some (.str (itoa n), h) := by
  have h54 : ∀ base h, CallA T base 54 [i64 n, i64 10] h = some (.str (itoa n), h) := by
    intro base h
    rw [CallA_prim T_54]
    unfold in64 at hn
    simp [pFormat, hn, primEnd, Option.bnd]
  have h52 : ∀ base h, CallA T base 52 [.agg [i64 1, i64 n, .str [], .nils, i64 0, i64 0]] h = some (.bool true, h) := by
    intro base h
    rw [S52]
    have e : ∀ (v1 v56 : PV) (h : Hp), P52_0 (size h) (size h) (.bool true) v1 v56 (ext h [.cells [i64 1, i64 n, .str [], .nils, i64 0, i64 0]]) = some (.bool true, h) := by
      intro v1 v56 h
      rw [P52_0_eq]
      simp only [↓evD, evU, Nat.reduceAdd, Nat.reduceSub, Nat.reduceMul, Nat.reduceLeDiff, Nat.reduceLT, Nat.reduceEqDiff, Nat.reduceBEq, reduceIte, reduceCtorEq, Int.reduceBEq, Int.reduceEq, Int.reduceLT, Int.reduceLE, Int.reduceGT, Int.reduceGE, Int.reduceAdd, Int.reduceSub, Int.reduceNeg, Int.reduceBNe, List.all_cons, List.all_nil, List.getElem?_cons_zero, List.getElem?_cons_succ, List.getElem?_nil, Option.map_some, List.length_cons, List.length_nil, List.set_cons_zero, List.set_cons_succ, List.map_cons, List.map_nil, List.drop_zero, List.drop_succ_cons, List.drop_nil, List.take_zero, List.take_succ_cons, List.take_nil, ite_true, ite_false, if_true, if_false, implies_true, forall_const, beq_self_eq_true, List.replicate_succ, List.replicate_zero, List.headD_cons, List.cons_append, List.nil_append, bne_self_eq_false]
    have z : (([] : List UInt8) != []) = false := rfl
    simp only [e, z, ↓evD, evU, Nat.reduceAdd, Nat.reduceSub, Nat.reduceMul, Nat.reduceLeDiff, Nat.reduceLT, Nat.reduceEqDiff, Nat.reduceBEq, reduceIte, reduceCtorEq, Int.reduceBEq, Int.reduceEq, Int.reduceLT, Int.reduceLE, Int.reduceGT, Int.reduceGE, Int.reduceAdd, Int.reduceSub, Int.reduceNeg, Int.reduceBNe, List.all_cons, List.all_nil, List.getElem?_cons_zero, List.getElem?_cons_succ, List.getElem?_nil, Option.map_some, List.length_cons, List.length_nil, List.set_cons_zero, List.set_cons_succ, List.map_cons, List.map_nil, List.drop_zero, List.drop_succ_cons, List.drop_nil, List.take_zero, List.take_succ_cons, List.take_nil, ite_true, ite_false, if_true, if_false, implies_true, forall_const, beq_self_eq_true, List.replicate_succ, List.replicate_zero, List.headD_cons, List.cons_append, List.nil_append, bne_self_eq_false]
  have h42 : ∀ base h, CallA T base 42 [.agg [i64 1, i64 n, .str [], .nils, i64 0, i64 0]] h = some (.tup [.str (itoa n), i64 0], h) := by
    intro base h
    rw [S42]
    simp only [h52, h54, ↓evD, evU, Nat.reduceAdd, Nat.reduceSub, Nat.reduceMul, Nat.reduceLeDiff, Nat.reduceLT, Nat.reduceEqDiff, Nat.reduceBEq, reduceIte, reduceCtorEq, Int.reduceBEq, Int.reduceEq, Int.reduceLT, Int.reduceLE, Int.reduceGT, Int.reduceGE, Int.reduceAdd, Int.reduceSub, Int.reduceNeg, Int.reduceBNe, List.all_cons, List.all_nil, List.getElem?_cons_zero, List.getElem?_cons_succ, List.getElem?_nil, Option.map_some, List.length_cons, List.length_nil, List.set_cons_zero, List.set_cons_succ, List.map_cons, List.map_nil, List.drop_zero, List.drop_succ_cons, List.drop_nil, List.take_zero, List.take_succ_cons, List.take_nil, ite_true, ite_false, if_true, if_false, implies_true, forall_const, beq_self_eq_true, List.replicate_succ, List.replicate_zero, List.headD_cons, List.cons_append, List.nil_append, bne_self_eq_false]
  rw [S28]
  simp only [h42, ↓evD, evU, Nat.reduceAdd, Nat.reduceSub, Nat.reduceMul, Nat.reduceLeDiff, Nat.reduceLT, Nat.reduceEqDiff, Nat.reduceBEq, reduceIte, reduceCtorEq, Int.reduceBEq, Int.reduceEq, Int.reduceLT, Int.reduceLE, Int.reduceGT, Int.reduceGE, Int.reduceAdd, Int.reduceSub, Int.reduceNeg, Int.reduceBNe, List.all_cons, List.all_nil, List.getElem?_cons_zero, List.getElem?_cons_succ, List.getElem?_nil, Option.map_some, List.length_cons, List.length_nil, List.set_cons_zero, List.set_cons_succ, List.map_cons, List.map_nil, List.drop_zero, List.drop_succ_cons, List.drop_nil, List.take_zero, List.take_succ_cons, List.take_nil, ite_true, ite_false, if_true, if_false, implies_true, forall_const, beq_self_eq_true, List.replicate_succ, List.replicate_zero, List.headD_cons, List.cons_append, List.nil_append, bne_self_eq_false]
end Go.Am.YtikgjdmdcpomlaaDoor
namespace Go.Am.YtikgjdmdcpomlaaDoor
set_option maxRecDepth 100000
set_option linter.unusedSimpArgs false
set_option linter.unusedVariables false
open Go.Lib (decDigits itoa)
theorem itoa_no47 {n : Int} (hn : numOk n = true) : 47 ∉ itoa n ∧ numN (itoa n) 65535 = some n.toNat ∧ (n.toNat : Int) = n := by
  simp [numOk] at hn
  obtain ⟨u, rfl⟩ : ∃ u : Nat, n = u := ⟨n.toNat, by omega⟩
  rw [itoa_nat]
  refine ⟨fun hm => ?_, ?_, by simp⟩
  · have := digits_mem u 47 hm
    have z : (47 : UInt8).toNat = 47 := rfl
    omega
  · rw [Int.toNat_natCast]
    exact (numN_iff (by omega)).2 ⟨by omega, rfl⟩
theorem split_segs : ∀ {p : List Int} {n : Int}, (n :: p).all numOk = true → splitL 47 (itoa n ++ segsS p) = (n :: p).map itoa
  | [], n, h => by
    simp at h
    rw [segsS, List.append_nil, splitL_none (itoa_no47 h).1]; rfl
  | m :: p, n, h => by
    rw [List.all_cons, Bool.and_eq_true] at h
    rw [segsS, List.cons_append, splitL_app _ (itoa_no47 h.1).1, split_segs h.2]; rfl
theorem nums_itoa : ∀ {p : List Int}, p.all numOk = true → numsO (p.map itoa) = some p
  | [], _ => rfl
  | n :: p, h => by
    rw [List.all_cons, Bool.and_eq_true] at h
    obtain ⟨_, h2, h3⟩ := itoa_no47 h.1
    rw [List.map_cons, numsO, h2, nums_itoa h.2]
    show some ((n.toNat : Int) :: p) = _
    rw [h3]
theorem read_text {p : List Int} (h : rightB p = true) : readO (textS p) = some p := by
  unfold textS
  rw [if_neg (by rw [h]; simp)]
  unfold rightB at h
  rw [Bool.and_eq_true, decide_eq_true_eq] at h
  cases p with
  | nil => rfl
  | cons n p =>
    rw [if_neg (by simp)]
    have e : segsS (n :: p) = 47 :: (itoa n ++ segsS p) := rfl
    rw [e]
    unfold readO few
    have hne : itoa n ++ segsS p ≠ [] := by
      intro q
      exact itoa_ne n (List.append_eq_nil_iff.1 q).1
    have ht : (47 :: (itoa n ++ segsS p)).take 1 = [47] := rfl
    have hd : (47 :: (itoa n ++ segsS p)).drop 1 = itoa n ++ segsS p := rfl
    rw [ht, hd, if_neg (fun q => q rfl), if_neg hne, split_segs h.2, nums_itoa h.2]
    have := h.1
    rw [if_neg (by simp at this ⊢; omega)]
theorem segsS_len : ∀ {p : List Int}, p.all numOk = true → (segsS p).length ≤ 22 * p.length
  | [], _ => by simp [segsS]
  | n :: p, h => by
    rw [List.all_cons, Bool.and_eq_true] at h
    have h1 := itoa_len (in64_ok h.1)
    have h2 := segsS_len h.2
    simp [segsS]; omega
theorem text_len {p : List Int} (h : rightB p = true) : (textS p).length ≤ 100 := by
  unfold textS
  rw [if_neg (by rw [h]; simp)]
  unfold rightB at h
  rw [Bool.and_eq_true, decide_eq_true_eq] at h
  have := segsS_len h.2
  split
  · simp
  · omega
/-- The pairs. -/
def okName (p : Pr) : Prop := p.1.length ≤ 100 ∧ p.2.1.length ≤ 100 ∧ 61 ∉ p.1
theorem name_loop {h H : Hp} (g : trunc H (size h) = h) (hle : size h ≤ size H) (p : Pr) (hp1 : p.1.length ≤ 100) (a b c i v : PV) : ∀ (r q : List UInt8), p.1 = q ++ r → 61 ∉ q →
    P5_3 (size h) (size h) (i64 q.length) (.ptr (size H) 0) a b c i v (ext H [.cells [.str p.1, .str p.2.1, .bool p.2.2]]) =
      if 61 ∈ r then some (.bool true, h) else P5_3 (size h) (size h) (i64 p.1.length) (.ptr (size H) 0) a b c i v (ext H [.cells [.str p.1, .str p.2.1, .bool p.2.2]])
  | [], q, hp, hn => by
    have e : p.1 = q := by rw [hp]; simp
    rw [if_neg (by simp), e]
  | x :: r, q, hp, hn => by
    have el : p.1.length = q.length + (r.length + 1) := by rw [hp]; simp
    have h1 : ((q.length : Int) < (p.1.length : Int)) = True := by simp; omega
    have hx : p.1[q.length]? = some x := by rw [hp]; simp
    have hix := ix_nat .i64 q.length p.1.length (by omega)
    have e48 := u8_beq x 61
    have z48 : (((61 : UInt8).toNat : Nat) : Int) = 61 := rfl
    rw [z48] at e48
    have ht : ∀ l, trunc (ext H l) (size h) = h := fun l => by rw [trunc_ext_ge l hle]; exact g
    cases hq : (x == 61)
    · rw [hq] at e48
      have hne : ¬ x = 61 := by simpa using hq
      have w1 : IntKind.i64.wrap ((q.length : Int) + 1) = (((q ++ [x]).length : Nat) : Int) := by rw [show (q ++ [x]).length = q.length + 1 by simp, wrap_small] <;> omega
      have ih := name_loop g hle p hp1 a b c i v r (q ++ [x]) (by rw [hp]; simp) (by simp [hn]; exact fun h => hne h.symm)
      have em : (61 ∈ x :: r) = (61 ∈ r) := by
        simp only [List.mem_cons, eq_iff_iff]
        exact ⟨fun q => q.elim (fun q => (hne q.symm).elim) id, .inr⟩
      have hE := P5_3_eq (size h) (size h) (i64 q.length) (.ptr (size H) 0) a b c i v (ext H [.cells [.str p.1, .str p.2.1, .bool p.2.2]])
      simp only [em]
      rw [← ih, hE]
      generalize hN : (q ++ [x]).length = N at *
      simp only [h1, hix, hx, e48, w1, ↓evD, evU, Nat.reduceAdd, Nat.reduceSub, Nat.reduceMul, Nat.reduceLeDiff, Nat.reduceLT, Nat.reduceEqDiff, Nat.reduceBEq, reduceIte, reduceCtorEq, Int.reduceBEq, Int.reduceEq, Int.reduceLT, Int.reduceLE, Int.reduceGT, Int.reduceGE, Int.reduceAdd, Int.reduceSub, Int.reduceNeg, Int.reduceBNe, List.all_cons, List.all_nil, List.getElem?_cons_zero, List.getElem?_cons_succ, List.getElem?_nil, Option.map_some, List.length_cons, List.length_nil, List.set_cons_zero, List.set_cons_succ, List.map_cons, List.map_nil, List.drop_zero, List.drop_succ_cons, List.drop_nil, List.take_zero, List.take_succ_cons, List.take_nil, ite_true, ite_false, if_true, if_false, implies_true, forall_const, beq_self_eq_true, List.replicate_succ, List.replicate_zero, List.headD_cons, List.cons_append, List.nil_append, bne_self_eq_false]
    · rw [hq] at e48
      have hxe : x = 61 := by simpa using hq
      subst hxe
      rw [if_pos (by simp), P5_3_eq]
      simp only [h1, hix, hx, e48, ht, ↓evD, evU, Nat.reduceAdd, Nat.reduceSub, Nat.reduceMul, Nat.reduceLeDiff, Nat.reduceLT, Nat.reduceEqDiff, Nat.reduceBEq, reduceIte, reduceCtorEq, Int.reduceBEq, Int.reduceEq, Int.reduceLT, Int.reduceLE, Int.reduceGT, Int.reduceGE, Int.reduceAdd, Int.reduceSub, Int.reduceNeg, Int.reduceBNe, List.all_cons, List.all_nil, List.getElem?_cons_zero, List.getElem?_cons_succ, List.getElem?_nil, Option.map_some, List.length_cons, List.length_nil, List.set_cons_zero, List.set_cons_succ, List.map_cons, List.map_nil, List.drop_zero, List.drop_succ_cons, List.drop_nil, List.take_zero, List.take_succ_cons, List.take_nil, ite_true, ite_false, if_true, if_false, implies_true, forall_const, beq_self_eq_true, List.replicate_succ, List.replicate_zero, List.headD_cons, List.cons_append, List.nil_append, bne_self_eq_false]
theorem wants_loop {h : Hp} {b : PV} {l : List Pr} (hb : Rl eP 3 b l) (hl : l.length ≤ 20) : ∀ (r q : List Pr) (v : PV) (H : Hp), l = q ++ r → (∀ p ∈ q, okName p) → GS h 51 3 zF3 v ((q.map cleanP).map eP) H →
    P5_2 (size h) (size h) (i64 q.length) v b b (i64 l.length) H = some (.bool true, h)
  | [], q, v, H, hp, hq, g => by
    rw [P5_2_eq]
    have e : l = q := by rw [hp]; simp
    have h1 : ((q.length : Int) < (l.length : Int)) = False := by rw [e]; simp
    have hQ : ∀ base h, _ := fun base h => queries_spec (base := base) (h := h) hb (by omega) (fun p hp => by have := hq p (by rw [← e]; exact hp); unfold okName at this; omega)
    have hos : ∀ o ∈ l.map optP, (bxL o.2).length ≤ 1000000 := by
      intro o ho
      obtain ⟨p, hp, rfl⟩ := List.mem_map.1 ho
      have := hq p (by rw [← e]; exact hp)
      unfold okName at this
      show (bxL (bxN (joinP p))).length ≤ _
      rw [bxL_bxN]
      unfold joinP
      split
      · omega
      · simp; omega
    have hC : ∀ base h, _ := fun base h => query_spec (base := base) (h := h) (Lv.done (e := eO) (gZ_nils 2) (l.map optP)).rl (by rw [List.length_map]; omega) hos
    have hcl : qryX (l.map optP) = q.map cleanP := by
      rw [qry_optP, e]
      refine List.map_congr_left fun p hp => ?_
      exact cut_join (hq p hp).2.2
    rw [hcl] at hC
    have hS : ∀ base h, _ := fun base h => samePs_spec (base := base) (h := h) (Lv.done (e := eP) (gZ_nils 3) (q.map cleanP)).rl (g.rl (gZ_full 3)) (by rw [List.length_map, ← e]; omega)
    generalize gD .nils 2 ((l.map optP).map eO) = v1 at *
    generalize gD .nils 3 ((q.map cleanP).map eP) = v2 at *
    simp only [h1, hQ, hC, hS, g.tr, ↓evD, evU, Nat.reduceAdd, Nat.reduceSub, Nat.reduceMul, Nat.reduceLeDiff, Nat.reduceLT, Nat.reduceEqDiff, Nat.reduceBEq, reduceIte, reduceCtorEq, Int.reduceBEq, Int.reduceEq, Int.reduceLT, Int.reduceLE, Int.reduceGT, Int.reduceGE, Int.reduceAdd, Int.reduceSub, Int.reduceNeg, Int.reduceBNe, List.all_cons, List.all_nil, List.getElem?_cons_zero, List.getElem?_cons_succ, List.getElem?_nil, Option.map_some, List.length_cons, List.length_nil, List.set_cons_zero, List.set_cons_succ, List.map_cons, List.map_nil, List.drop_zero, List.drop_succ_cons, List.drop_nil, List.take_zero, List.take_succ_cons, List.take_nil, ite_true, ite_false, if_true, if_false, implies_true, forall_const, beq_self_eq_true, List.replicate_succ, List.replicate_zero, List.headD_cons, List.cons_append, List.nil_append, bne_self_eq_false]
  | p :: r, q, v, H, hp, hq, g => by
    rw [P5_2_eq]
    have el : l.length = q.length + (r.length + 1) := by rw [hp]; simp
    have h1 : ((q.length : Int) < (l.length : Int)) = True := by simp; omega
    have hx : l[q.length]? = some p := by rw [hp]; simp
    have hec : (eP p).cells = [.str p.1, .str p.2.1, .bool p.2.2] := rfl
    have w1 : IntKind.i64.wrap ((q.length : Int) + 1) = (((q ++ [p]).length : Nat) : Int) := by rw [show (q ++ [p]).length = q.length + 1 by simp, wrap_small] <;> omega
    have n1 : (size H < size h) = False := by have := g.le; simp; omega
    have ht : ∀ l, trunc (ext H l) (size h) = h := fun l => (g.ext l).tr
    by_cases c1 : (p.1.length : Int) > 100
    · simp only [h1, hb.idx hx, hec, n1, c1, ht, ↓evD, evU, Nat.reduceAdd, Nat.reduceSub, Nat.reduceMul, Nat.reduceLeDiff, Nat.reduceLT, Nat.reduceEqDiff, Nat.reduceBEq, reduceIte, reduceCtorEq, Int.reduceBEq, Int.reduceEq, Int.reduceLT, Int.reduceLE, Int.reduceGT, Int.reduceGE, Int.reduceAdd, Int.reduceSub, Int.reduceNeg, Int.reduceBNe, List.all_cons, List.all_nil, List.getElem?_cons_zero, List.getElem?_cons_succ, List.getElem?_nil, Option.map_some, List.length_cons, List.length_nil, List.set_cons_zero, List.set_cons_succ, List.map_cons, List.map_nil, List.drop_zero, List.drop_succ_cons, List.drop_nil, List.take_zero, List.take_succ_cons, List.take_nil, ite_true, ite_false, if_true, if_false, implies_true, forall_const, beq_self_eq_true, List.replicate_succ, List.replicate_zero, List.headD_cons, List.cons_append, List.nil_append, bne_self_eq_false]
    by_cases c2 : (p.2.1.length : Int) > 100
    · simp only [h1, hb.idx hx, hec, n1, c1, c2, ht, ↓evD, evU, Nat.reduceAdd, Nat.reduceSub, Nat.reduceMul, Nat.reduceLeDiff, Nat.reduceLT, Nat.reduceEqDiff, Nat.reduceBEq, reduceIte, reduceCtorEq, Int.reduceBEq, Int.reduceEq, Int.reduceLT, Int.reduceLE, Int.reduceGT, Int.reduceGE, Int.reduceAdd, Int.reduceSub, Int.reduceNeg, Int.reduceBNe, List.all_cons, List.all_nil, List.getElem?_cons_zero, List.getElem?_cons_succ, List.getElem?_nil, Option.map_some, List.length_cons, List.length_nil, List.set_cons_zero, List.set_cons_succ, List.map_cons, List.map_nil, List.drop_zero, List.drop_succ_cons, List.drop_nil, List.take_zero, List.take_succ_cons, List.take_nil, ite_true, ite_false, if_true, if_false, implies_true, forall_const, beq_self_eq_true, List.replicate_succ, List.replicate_zero, List.headD_cons, List.cons_append, List.nil_append, bne_self_eq_false]
    have hN := name_loop (h := h) g.tr g.le p (by omega) b b (i64 l.length) (i64 q.length) v p.1 [] rfl (by simp)
    have z0 : ((([] : List UInt8).length : Nat) : Int) = 0 := rfl
    rw [z0] at hN
    by_cases c3 : 61 ∈ p.1
    · rw [if_pos c3] at hN
      simp only [h1, hb.idx hx, hec, n1, c1, c2, hN, ↓evD, evU, Nat.reduceAdd, Nat.reduceSub, Nat.reduceMul, Nat.reduceLeDiff, Nat.reduceLT, Nat.reduceEqDiff, Nat.reduceBEq, reduceIte, reduceCtorEq, Int.reduceBEq, Int.reduceEq, Int.reduceLT, Int.reduceLE, Int.reduceGT, Int.reduceGE, Int.reduceAdd, Int.reduceSub, Int.reduceNeg, Int.reduceBNe, List.all_cons, List.all_nil, List.getElem?_cons_zero, List.getElem?_cons_succ, List.getElem?_nil, Option.map_some, List.length_cons, List.length_nil, List.set_cons_zero, List.set_cons_succ, List.map_cons, List.map_nil, List.drop_zero, List.drop_succ_cons, List.drop_nil, List.take_zero, List.take_succ_cons, List.take_nil, ite_true, ite_false, if_true, if_false, implies_true, forall_const, beq_self_eq_true, List.replicate_succ, List.replicate_zero, List.headD_cons, List.cons_append, List.nil_append, bne_self_eq_false]
    rw [if_neg c3] at hN
    have g1 := g.ext [.cells [.str p.1, .str (cleanP p).2.1, .bool p.2.2]]
    have hql : q.length ≤ 20 := by omega
    obtain ⟨v', H', e1, g2⟩ := g1.grow (gZ_full 3) (x := eP (cleanP p)) (by rfl) (by rfl) (by unfold lim2; simp; omega)
    have g3 : GS h 51 3 zF3 v' (((q ++ [p]).map cleanP).map eP) H' := by rw [List.map_append, List.map_append]; exact g2
    have ih := wants_loop (h := h) hb hl r (q ++ [p]) v' H' (by rw [hp]; simp) (by
      intro y hy
      rcases List.mem_append.1 hy with hy | hy
      · exact hq y hy
      · simp at hy; subst hy; exact ⟨by omega, by omega, c3⟩) g3
    have h2 : ((p.1.length : Int) < (p.1.length : Int)) = False := by simp
    have hE := P5_3_eq (size h) (size h) (i64 p.1.length) (.ptr (size H) 0) b b (i64 l.length) (i64 q.length) v (ext H [.cells [.str p.1, .str p.2.1, .bool p.2.2]])
    cases hbb : p.2.2
    · have e4 : eP (cleanP p) = .agg [.str p.1, .str p.2.1, .bool false] := by
        unfold cleanP eP
        rw [hbb]; rfl
      have e5 : (cleanP p).2.1 = p.2.1 := by unfold cleanP; rw [hbb]; rfl
      rw [e4, e5, hbb] at e1
      rw [hbb] at hE hN
      simp only [h2, n1, e1, w1, ih, ↓evD, evU, Nat.reduceAdd, Nat.reduceSub, Nat.reduceMul, Nat.reduceLeDiff, Nat.reduceLT, Nat.reduceEqDiff, Nat.reduceBEq, reduceIte, reduceCtorEq, Int.reduceBEq, Int.reduceEq, Int.reduceLT, Int.reduceLE, Int.reduceGT, Int.reduceGE, Int.reduceAdd, Int.reduceSub, Int.reduceNeg, Int.reduceBNe, List.all_cons, List.all_nil, List.getElem?_cons_zero, List.getElem?_cons_succ, List.getElem?_nil, Option.map_some, List.length_cons, List.length_nil, List.set_cons_zero, List.set_cons_succ, List.map_cons, List.map_nil, List.drop_zero, List.drop_succ_cons, List.drop_nil, List.take_zero, List.take_succ_cons, List.take_nil, ite_true, ite_false, if_true, if_false, implies_true, forall_const, beq_self_eq_true, List.replicate_succ, List.replicate_zero, List.headD_cons, List.cons_append, List.nil_append, bne_self_eq_false] at hE
      simp only [h1, hb.idx hx, hec, n1, c1, c2, hbb, hN, hE, ↓evD, evU, Nat.reduceAdd, Nat.reduceSub, Nat.reduceMul, Nat.reduceLeDiff, Nat.reduceLT, Nat.reduceEqDiff, Nat.reduceBEq, reduceIte, reduceCtorEq, Int.reduceBEq, Int.reduceEq, Int.reduceLT, Int.reduceLE, Int.reduceGT, Int.reduceGE, Int.reduceAdd, Int.reduceSub, Int.reduceNeg, Int.reduceBNe, List.all_cons, List.all_nil, List.getElem?_cons_zero, List.getElem?_cons_succ, List.getElem?_nil, Option.map_some, List.length_cons, List.length_nil, List.set_cons_zero, List.set_cons_succ, List.map_cons, List.map_nil, List.drop_zero, List.drop_succ_cons, List.drop_nil, List.take_zero, List.take_succ_cons, List.take_nil, ite_true, ite_false, if_true, if_false, implies_true, forall_const, beq_self_eq_true, List.replicate_succ, List.replicate_zero, List.headD_cons, List.cons_append, List.nil_append, bne_self_eq_false]
    · have e4 : eP (cleanP p) = .agg [.str p.1, .str [], .bool true] := by
        unfold cleanP eP
        rw [hbb]; rfl
      have e5 : (cleanP p).2.1 = [] := by unfold cleanP; rw [hbb]; rfl
      rw [e4, e5, hbb] at e1
      rw [hbb] at hE hN
      simp only [h2, n1, e1, w1, ih, ↓evD, evU, Nat.reduceAdd, Nat.reduceSub, Nat.reduceMul, Nat.reduceLeDiff, Nat.reduceLT, Nat.reduceEqDiff, Nat.reduceBEq, reduceIte, reduceCtorEq, Int.reduceBEq, Int.reduceEq, Int.reduceLT, Int.reduceLE, Int.reduceGT, Int.reduceGE, Int.reduceAdd, Int.reduceSub, Int.reduceNeg, Int.reduceBNe, List.all_cons, List.all_nil, List.getElem?_cons_zero, List.getElem?_cons_succ, List.getElem?_nil, Option.map_some, List.length_cons, List.length_nil, List.set_cons_zero, List.set_cons_succ, List.map_cons, List.map_nil, List.drop_zero, List.drop_succ_cons, List.drop_nil, List.take_zero, List.take_succ_cons, List.take_nil, ite_true, ite_false, if_true, if_false, implies_true, forall_const, beq_self_eq_true, List.replicate_succ, List.replicate_zero, List.headD_cons, List.cons_append, List.nil_append, bne_self_eq_false] at hE
      simp only [h1, hb.idx hx, hec, n1, c1, c2, hbb, hN, hE, ↓evD, evU, Nat.reduceAdd, Nat.reduceSub, Nat.reduceMul, Nat.reduceLeDiff, Nat.reduceLT, Nat.reduceEqDiff, Nat.reduceBEq, reduceIte, reduceCtorEq, Int.reduceBEq, Int.reduceEq, Int.reduceLT, Int.reduceLE, Int.reduceGT, Int.reduceGE, Int.reduceAdd, Int.reduceSub, Int.reduceNeg, Int.reduceBNe, List.all_cons, List.all_nil, List.getElem?_cons_zero, List.getElem?_cons_succ, List.getElem?_nil, Option.map_some, List.length_cons, List.length_nil, List.set_cons_zero, List.set_cons_succ, List.map_cons, List.map_nil, List.drop_zero, List.drop_succ_cons, List.drop_nil, List.take_zero, List.take_succ_cons, List.take_nil, ite_true, ite_false, if_true, if_false, implies_true, forall_const, beq_self_eq_true, List.replicate_succ, List.replicate_zero, List.headD_cons, List.cons_append, List.nil_append, bne_self_eq_false]
theorem wants_spec {h K : Hp} (ht : trunc K (size h) = h) (hle : size h ≤ size K) {b : PV} {l : List Pr} (hb : Rl eP 3 b l) (hl : l.length ≤ 20) : P5_1 (size h) (size h) b K = some (.bool true, h) := by
  rw [P5_1_eq]
  have := wants_loop (h := h) hb hl l [] zF3 K rfl (by simp) ⟨ht, hle, .inl ⟨rfl, rfl⟩⟩
  simp only [hb.len, ↓evD, evU, Nat.reduceAdd, Nat.reduceSub, Nat.reduceMul, Nat.reduceLeDiff, Nat.reduceLT, Nat.reduceEqDiff, Nat.reduceBEq, reduceIte, reduceCtorEq, Int.reduceBEq, Int.reduceEq, Int.reduceLT, Int.reduceLE, Int.reduceGT, Int.reduceGE, Int.reduceAdd, Int.reduceSub, Int.reduceNeg, Int.reduceBNe, List.all_cons, List.all_nil, List.getElem?_cons_zero, List.getElem?_cons_succ, List.getElem?_nil, Option.map_some, List.length_cons, List.length_nil, List.set_cons_zero, List.set_cons_succ, List.map_cons, List.map_nil, List.drop_zero, List.drop_succ_cons, List.drop_nil, List.take_zero, List.take_succ_cons, List.take_nil, ite_true, ite_false, if_true, if_false, implies_true, forall_const, beq_self_eq_true, List.replicate_succ, List.replicate_zero, List.headD_cons, List.cons_append, List.nil_append, bne_self_eq_false]
  exact this
end Go.Am.YtikgjdmdcpomlaaDoor
namespace Go.Am.YtikgjdmdcpomlaaDoor
set_option maxRecDepth 100000
set_option linter.unusedSimpArgs false
set_option linter.unusedVariables false
open Go.Lib (decDigits itoa)
theorem text_one {n : Int} (hn : numOk n = true) : textS [n] = 47 :: itoa n := by
  have h : rightB [n] = true := by unfold rightB; simp [hn]
  unfold textS
  rw [if_neg (by rw [h]; simp), if_neg (by simp)]
  simp [segsS]
theorem segs5_loop {h : Hp} {b d q : PV} {p : List Int} {l : List Pr} (hb : Rl eI 1 b p) (hr : rightB p = true) (hq : Rl eI 1 q p) (hd : Rl eP 3 d l) (hl : l.length ≤ 20) : ∀ (r s : List Int), p = s ++ r →
    P5_0 (size h) (size h) (i64 s.length) (gV h zF 1 ((s.map itoa).map eS)) b d b q (i64 0) (i64 p.length) (gH h 9 ((s.map itoa).map eS)) = some (.bool true, h)
  | [], s, hp => by
    rw [P5_0_eq]
    have e : p = s := by rw [hp]; simp
    subst e
    have hr' := hr
    unfold rightB at hr'
    rw [Bool.and_eq_true, decide_eq_true_eq] at hr'
    have h1 : ((p.length : Int) < (p.length : Int)) = False := by simp
    have hg := gV_rl (e := eS) (gZ_full 1) h (p.map itoa)
    have hss : ∀ s ∈ p.map itoa, s.length ≤ 1000 := by
      intro s hs
      obtain ⟨n, hn, rfl⟩ := List.mem_map.1 hs
      have := itoa_len (in64_ok (List.all_eq_true.1 hr'.2 n hn))
      omega
    have hO : ∀ base h, _ := fun base h' => optsS_spec (base := base) (h := h') hg (by rw [List.length_map]; omega) hss
    have hos : ∀ o ∈ (p.map itoa).map optS, (bxL o.2).length ≤ 1000000 := by
      intro o ho
      obtain ⟨s, hs, rfl⟩ := List.mem_map.1 ho
      show (bxL (bxN s)).length ≤ _
      rw [bxL_bxN]
      have := hss s hs
      omega
    have hF : ∀ base h, _ := fun base h' => of_spec (base := base) (h := h') (Lv.done (e := eO) (gZ_nils 2) ((p.map itoa).map optS)).rl (by rw [List.length_map, List.length_map]; omega) hos
    have e2 : numsV .nils (segX ((p.map itoa).map optS)) = .tup [gD .nils 1 (p.map eI), i64 0] := by
      rw [seg_optS]
      unfold numsV
      rw [if_neg (by rw [List.length_map]; omega), nums_itoa hr'.2]
    rw [e2] at hF
    have hI1 : ∀ base h, _ := fun base h' => ints_spec (base := base) (h := h') hb hq (by omega)
    have hI2 : ∀ base h, _ := fun base h' => ints_spec (base := base) (h := h') hb (Lv.done (e := eI) (gZ_nils 1) p).rl (by omega)
    have e0 : (p == p) = true := by simp
    rw [e0] at hI1 hI2
    have hW := wants_spec (h := h) (trunc_gH h 9 ((p.map itoa).map eS)) (size_gH h 9 _) hd hl
    generalize gD .nils 2 (((p.map itoa).map optS).map eO) = v1 at *
    generalize gD .nils 1 (p.map eI) = v2 at *
    simp only [h1, hO, hF, hI1, hI2, hW, ↓evD, evU, Nat.reduceAdd, Nat.reduceSub, Nat.reduceMul, Nat.reduceLeDiff, Nat.reduceLT, Nat.reduceEqDiff, Nat.reduceBEq, reduceIte, reduceCtorEq, Int.reduceBEq, Int.reduceEq, Int.reduceLT, Int.reduceLE, Int.reduceGT, Int.reduceGE, Int.reduceAdd, Int.reduceSub, Int.reduceNeg, Int.reduceBNe, List.all_cons, List.all_nil, List.getElem?_cons_zero, List.getElem?_cons_succ, List.getElem?_nil, Option.map_some, List.length_cons, List.length_nil, List.set_cons_zero, List.set_cons_succ, List.map_cons, List.map_nil, List.drop_zero, List.drop_succ_cons, List.drop_nil, List.take_zero, List.take_succ_cons, List.take_nil, ite_true, ite_false, if_true, if_false, implies_true, forall_const, beq_self_eq_true, List.replicate_succ, List.replicate_zero, List.headD_cons, List.cons_append, List.nil_append, bne_self_eq_false]
  | n :: r, s, hp => by
    rw [P5_0_eq]
    have hr' := hr
    unfold rightB at hr'
    rw [Bool.and_eq_true, decide_eq_true_eq] at hr'
    have el : p.length = s.length + (r.length + 1) := by rw [hp]; simp
    have h1 : ((s.length : Int) < (p.length : Int)) = True := by simp; omega
    have hx : p[s.length]? = some n := by rw [hp]; simp
    have hno : numOk n = true := List.all_eq_true.1 hr'.2 n (by rw [hp]; simp)
    have hec : (eI n).cells = [i64 n] := rfl
    have w1 : IntKind.i64.wrap ((s.length : Int) + 1) = (((s ++ [n]).length : Nat) : Int) := by rw [show (s ++ [n]).length = s.length + 1 by simp, wrap_small] <;> omega
    have hT : ∀ base h', _ := fun base h' => text_spec (base := base) (h := h') (rl_sl (e := eI) (sz := 1) .full [n]) (by simp)
    rw [text_one hno] at hT
    have e1 : [n].map eI = [i64 n] := rfl
    rw [e1] at hT
    have hb2 := bdV_nat ((itoa n).length + 1) .i64 1 (by omega)
    have z1 : (((1 : Nat)) : Int) = 1 := rfl
    rw [z1] at hb2
    have ht : ((47 :: itoa n).drop 1).take ((itoa n).length + 1 - 1) = itoa n := List.take_of_length_le (by simp)
    have ht2 : (itoa n).take ((itoa n).length + 1 - 1) = itoa n := List.take_of_length_le (by simp)
    have gg := gOneL (h := h) (T := 9) elS (gZ_full 1) (s.map itoa) (itoa n) (by rw [List.length_map]; unfold lim2; omega)
    have e2 : eS (itoa n) = .str (itoa n) := rfl
    have e3 : s.map itoa ++ [itoa n] = (s ++ [n]).map itoa := by simp
    rw [e2, e3] at gg
    have ih := segs5_loop (h := h) hb hr hq hd hl r (s ++ [n]) (by rw [hp]; simp)
    generalize ((s ++ [n]).map itoa).map eS = Y at *
    generalize (s.map itoa).map eS = X at *
    simp only [h1, hb.idx hx, hec, hT, hb2, ht, ht2, gg, w1, ih, List.length_cons, ↓evD, evU, Nat.reduceAdd, Nat.reduceSub, Nat.reduceMul, Nat.reduceLeDiff, Nat.reduceLT, Nat.reduceEqDiff, Nat.reduceBEq, reduceIte, reduceCtorEq, Int.reduceBEq, Int.reduceEq, Int.reduceLT, Int.reduceLE, Int.reduceGT, Int.reduceGE, Int.reduceAdd, Int.reduceSub, Int.reduceNeg, Int.reduceBNe, List.all_cons, List.all_nil, List.getElem?_cons_zero, List.getElem?_cons_succ, List.getElem?_nil, Option.map_some, List.length_cons, List.length_nil, List.set_cons_zero, List.set_cons_succ, List.map_cons, List.map_nil, List.drop_zero, List.drop_succ_cons, List.drop_nil, List.take_zero, List.take_succ_cons, List.take_nil, ite_true, ite_false, if_true, if_false, implies_true, forall_const, beq_self_eq_true, List.replicate_succ, List.replicate_zero, List.headD_cons, List.cons_append, List.nil_append, bne_self_eq_false]
theorem back_at {h : Hp} (ha : CallA T (size h) 7 [] h = some (.bool true, h)) {b d : PV} {p : List Int} {l : List Pr} (hb : Lv eI 1 b p) (hd : Lv eP 3 d l) : CallA T 0 5 [b, d] h = some (.bool true, h) := by
  rw [S5]
  by_cases h1 : (p.length : Int) > 100
  · simp only [ha, hb.len, h1, ↓evD, evU, Nat.reduceAdd, Nat.reduceSub, Nat.reduceMul, Nat.reduceLeDiff, Nat.reduceLT, Nat.reduceEqDiff, Nat.reduceBEq, reduceIte, reduceCtorEq, Int.reduceBEq, Int.reduceEq, Int.reduceLT, Int.reduceLE, Int.reduceGT, Int.reduceGE, Int.reduceAdd, Int.reduceSub, Int.reduceNeg, Int.reduceBNe, List.all_cons, List.all_nil, List.getElem?_cons_zero, List.getElem?_cons_succ, List.getElem?_nil, Option.map_some, List.length_cons, List.length_nil, List.set_cons_zero, List.set_cons_succ, List.map_cons, List.map_nil, List.drop_zero, List.drop_succ_cons, List.drop_nil, List.take_zero, List.take_succ_cons, List.take_nil, ite_true, ite_false, if_true, if_false, implies_true, forall_const, beq_self_eq_true, List.replicate_succ, List.replicate_zero, List.headD_cons, List.cons_append, List.nil_append, bne_self_eq_false]
  by_cases h2 : (l.length : Int) > 20
  · simp only [ha, hb.len, hd.len, h1, h2, ↓evD, evU, Nat.reduceAdd, Nat.reduceSub, Nat.reduceMul, Nat.reduceLeDiff, Nat.reduceLT, Nat.reduceEqDiff, Nat.reduceBEq, reduceIte, reduceCtorEq, Int.reduceBEq, Int.reduceEq, Int.reduceLT, Int.reduceLE, Int.reduceGT, Int.reduceGE, Int.reduceAdd, Int.reduceSub, Int.reduceNeg, Int.reduceBNe, List.all_cons, List.all_nil, List.getElem?_cons_zero, List.getElem?_cons_succ, List.getElem?_nil, Option.map_some, List.length_cons, List.length_nil, List.set_cons_zero, List.set_cons_succ, List.map_cons, List.map_nil, List.drop_zero, List.drop_succ_cons, List.drop_nil, List.take_zero, List.take_succ_cons, List.take_nil, ite_true, ite_false, if_true, if_false, implies_true, forall_const, beq_self_eq_true, List.replicate_succ, List.replicate_zero, List.headD_cons, List.cons_append, List.nil_append, bne_self_eq_false]
  have hR : ∀ base h, _ := fun base h => right_spec (base := base) (h := h) hb.rl (by omega)
  cases hr : rightB p
  · rw [hr] at hR
    have hW := wants_spec (h := h) (K := h) trunc_self (Nat.le_refl _) hd.rl (by omega)
    simp only [ha, hb.len, hd.len, h1, h2, hR, hW, ↓evD, evU, Nat.reduceAdd, Nat.reduceSub, Nat.reduceMul, Nat.reduceLeDiff, Nat.reduceLT, Nat.reduceEqDiff, Nat.reduceBEq, reduceIte, reduceCtorEq, Int.reduceBEq, Int.reduceEq, Int.reduceLT, Int.reduceLE, Int.reduceGT, Int.reduceGE, Int.reduceAdd, Int.reduceSub, Int.reduceNeg, Int.reduceBNe, List.all_cons, List.all_nil, List.getElem?_cons_zero, List.getElem?_cons_succ, List.getElem?_nil, Option.map_some, List.length_cons, List.length_nil, List.set_cons_zero, List.set_cons_succ, List.map_cons, List.map_nil, List.drop_zero, List.drop_succ_cons, List.drop_nil, List.take_zero, List.take_succ_cons, List.take_nil, ite_true, ite_false, if_true, if_false, implies_true, forall_const, beq_self_eq_true, List.replicate_succ, List.replicate_zero, List.headD_cons, List.cons_append, List.nil_append, bne_self_eq_false]
  · rw [hr] at hR
    have hT : ∀ base h, _ := fun base h => text_spec (base := base) (h := h) hb.rl (by omega)
    have hD : ∀ base h, _ := fun base h => read_spec (base := base) (h := h) (textS p) (by have := text_len hr; omega)
    rw [read_text hr] at hD
    unfold outV at hD
    have hl := segs5_loop (h := h) hb.rl hr (Lv.done (e := eI) (gZ_nils 1) p).rl hd.rl (by omega) p [] rfl
    rw [List.map_nil, List.map_nil, gV_nil, gH_nil] at hl
    simp only at hD
    simp only [ha, hb.len, hd.len, h1, h2, hR, hT, hD, ↓evD, evU, Nat.reduceAdd, Nat.reduceSub, Nat.reduceMul, Nat.reduceLeDiff, Nat.reduceLT, Nat.reduceEqDiff, Nat.reduceBEq, reduceIte, reduceCtorEq, Int.reduceBEq, Int.reduceEq, Int.reduceLT, Int.reduceLE, Int.reduceGT, Int.reduceGE, Int.reduceAdd, Int.reduceSub, Int.reduceNeg, Int.reduceBNe, List.all_cons, List.all_nil, List.getElem?_cons_zero, List.getElem?_cons_succ, List.getElem?_nil, Option.map_some, List.length_cons, List.length_nil, List.set_cons_zero, List.set_cons_succ, List.map_cons, List.map_nil, List.drop_zero, List.drop_succ_cons, List.drop_nil, List.take_zero, List.take_succ_cons, List.take_nil, ite_true, ite_false, if_true, if_false, implies_true, forall_const, beq_self_eq_true, List.replicate_succ, List.replicate_zero, List.headD_cons, List.cons_append, List.nil_append, bne_self_eq_false]
    exact hl
theorem back_true {b d : PV} {p : List Int} {l : List Pr} (hb : Lv eI 1 b p) (hd : Lv eP 3 d l) : CallA T 0 5 [b, d] [] = some (.bool true, []) := back_at alive_spec hb hd
end Go.Am.YtikgjdmdcpomlaaDoor
