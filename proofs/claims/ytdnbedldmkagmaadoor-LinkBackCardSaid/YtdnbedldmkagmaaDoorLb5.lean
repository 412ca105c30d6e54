/- LinkBack: the law on the abstract machine.
   By the session's AI agent. -/
import Derived.Test.YtdnbedldmkagmaaDoorLb4
namespace Go.Am.YtdnbedldmkagmaaDoor
set_option maxRecDepth 100000
set_option linter.unusedSimpArgs false
set_option linter.unusedVariables false
theorem back_tail {h : Hp} (s : List UInt8) (hs : s.length ≤ 4000) : P3_0 (size h) (size h) (.str s) h = some (.bool true, h) := by
  have r1 := fun c k => readL_spec c k s (by omega)
  have b0 : ((0 : Int) == 0) = true := rfl
  have b3 : ((3 : Int) == 0) = false := rfl
  have b20 : ((20 : Int) == 0) = false := rfl
  rw [P3_0_eq]
  cases e : readS s with
  | many =>
    rw [e] at r1
    simp only [rsV] at r1
    simp only [r1, bne, b3, b0, ↓evD, evU, evL, Nat.reduceAdd, Nat.reduceSub, Nat.reduceMul, Nat.reduceLeDiff, Nat.reduceLT, Nat.reduceEqDiff, Nat.reduceBEq, reduceIte, reduceCtorEq, Int.reduceBEq, Int.reduceEq, Int.reduceLT, Int.reduceLE, Int.reduceGT, Int.reduceGE, Int.reduceAdd, Int.reduceSub, Int.reduceNeg, Int.reduceBNe, ite_true, ite_false, if_true, if_false, implies_true, forall_const]
  | form =>
    rw [e] at r1
    simp only [rsV] at r1
    simp only [r1, bne, b20, b0, ↓evD, evU, evL, Nat.reduceAdd, Nat.reduceSub, Nat.reduceMul, Nat.reduceLeDiff, Nat.reduceLT, Nat.reduceEqDiff, Nat.reduceBEq, reduceIte, reduceCtorEq, Int.reduceBEq, Int.reduceEq, Int.reduceLT, Int.reduceLE, Int.reduceGT, Int.reduceGE, Int.reduceAdd, Int.reduceSub, Int.reduceNeg, Int.reduceBNe, ite_true, ite_false, if_true, if_false, implies_true, forall_const]
  | ok l =>
    rw [e] at r1
    simp only [rsV, List.nil_append] at r1
    obtain ⟨l1, l2⟩ := readS_len e
    obtain ⟨h1, h2⟩ := readS_sound e
    have hrl := (read_rl l).rl
    have hlen : (l.map mkL).length ≤ 10000 := by rw [List.length_map]; omega
    obtain ⟨g1, g2, g3⟩ := rg_len h1
    have hkl : ∀ k ∈ l.map mkL, (linkT k).length ≤ (linksT (l.map mkL)).length := by
      intro k hk
      have : ∀ {m : List Lk}, k ∈ m → (linkT k).length ≤ (linksT m).length ∧ (linkT k).length + 1 ≤ (restT m).length := by
        intro m
        induction m with
        | nil => intro h; cases h
        | cons y m ih =>
          intro h
          have e1 : linksT (y :: m) = linkT y ++ restT m := rfl
          have e2 : restT (y :: m) = 44 :: linkT y ++ restT m := by simp [restT]
          rw [e1, e2]
          simp only [List.length_append, List.length_cons]
          rcases List.mem_cons.1 h with rfl | h
          · omega
          · have := ih h; omega
      exact (this hk).1
    have hsm : ∀ k ∈ l.map mkL, SmK k := by
      intro k hk
      have h3 := read_sm l2 k hk
      have h4 := List.all_eq_true.1 g3 k hk
      unfold lkB at h4
      rw [Bool.and_eq_true, Bool.and_eq_true, List.all_eq_true] at h4
      refine ⟨h3.1, h3.2, fun p hp => ?_⟩
      have h5 := h4.2 p hp
      unfold prB nmB at h5
      rw [Bool.and_eq_true, Bool.and_eq_true, Bool.and_eq_true, decide_eq_true_eq] at h5
      have h6 : p.2.1.length ≤ 60 := by
        have h7 := h5.2
        split at h7
        · have : p.2.1 = [] := by simpa using h7
          rw [this]; simp
        · unfold vlB at h7
          rw [Bool.and_eq_true, decide_eq_true_eq] at h7
          omega
      exact ⟨by omega, by omega⟩
    have w1 := fun c k => write_spec c k hrl hlen hsm (fun _ => by omega) (fun _ q hq => by have := hkl q hq; omega)
    have r2 := fun c k => readL_spec c k (linksT (l.map mkL)) (by omega)
    rw [read_write h1] at r2
    simp only [rsV, List.nil_append, map_cL] at r2
    have rg := fun c k => rightL_spec c k hrl hlen hsm
    rw [h1] at w1 rg
    simp only [if_true] at w1
    have s1 := fun c k => sameL_spec c k hrl hrl (by omega) (read_sm l2)
    rw [show ((l.map mkL).map cL == (l.map mkL).map cL) = true by simp] at s1
    generalize linksT (l.map mkL) = u at *
    generalize gD .nils 2 (l.map mkE) = R at *
    have c1 : ((u.length : Int) ≤ (s.length : Int)) = True := by simp only [eq_iff_iff, iff_true]; omega
    simp only [r1, r2, w1, rg, s1, c1, bne, b0, ↓evD, evU, evL, Nat.reduceAdd, Nat.reduceSub, Nat.reduceMul, Nat.reduceLeDiff, Nat.reduceLT, Nat.reduceEqDiff, Nat.reduceBEq, reduceIte, reduceCtorEq, Int.reduceBEq, Int.reduceEq, Int.reduceLT, Int.reduceLE, Int.reduceGT, Int.reduceGE, Int.reduceAdd, Int.reduceSub, Int.reduceNeg, Int.reduceBNe, ite_true, ite_false, if_true, if_false, implies_true, forall_const]
theorem back_at {h : Hp} (hal : CallA T (size h) 5 [] h = some (.bool true, h)) (base : Nat) {a b : PV} {l m : List Lk} (ha : Lv eL 2 a l) (hb : Lv eL 2 b m) (s : List UInt8) : CallA T base 3 [a, b, .str s] h = some (.bool true, h) := by
  rw [S3]
  have f1 := fun c k => few_spec (base := c) (h := k) ha.rl
  have f2 := fun c k => few_spec (base := c) (h := k) hb.rl
  cases e1 : fewL l <;> rw [e1] at f1
  · simp only [hal, f1, ↓evD, evU, evL, Nat.reduceAdd, Nat.reduceSub, Nat.reduceMul, Nat.reduceLeDiff, Nat.reduceLT, Nat.reduceEqDiff, Nat.reduceBEq, reduceIte, reduceCtorEq, Int.reduceBEq, Int.reduceEq, Int.reduceLT, Int.reduceLE, Int.reduceGT, Int.reduceGE, Int.reduceAdd, Int.reduceSub, Int.reduceNeg, Int.reduceBNe, ite_true, ite_false, if_true, if_false, implies_true, forall_const]
  cases e2 : fewL m <;> rw [e2] at f2
  · simp only [hal, f1, f2, ↓evD, evU, evL, Nat.reduceAdd, Nat.reduceSub, Nat.reduceMul, Nat.reduceLeDiff, Nat.reduceLT, Nat.reduceEqDiff, Nat.reduceBEq, reduceIte, reduceCtorEq, Int.reduceBEq, Int.reduceEq, Int.reduceLT, Int.reduceLE, Int.reduceGT, Int.reduceGE, Int.reduceAdd, Int.reduceSub, Int.reduceNeg, Int.reduceBNe, ite_true, ite_false, if_true, if_false, implies_true, forall_const]
  by_cases h1 : ((s.length : Int) > 4000)
  · simp only [hal, f1, f2, h1, ↓evD, evU, evL, Nat.reduceAdd, Nat.reduceSub, Nat.reduceMul, Nat.reduceLeDiff, Nat.reduceLT, Nat.reduceEqDiff, Nat.reduceBEq, reduceIte, reduceCtorEq, Int.reduceBEq, Int.reduceEq, Int.reduceLT, Int.reduceLE, Int.reduceGT, Int.reduceGE, Int.reduceAdd, Int.reduceSub, Int.reduceNeg, Int.reduceBNe, ite_true, ite_false, if_true, if_false, implies_true, forall_const]
  obtain ⟨hl, hs⟩ := sm_few e1
  have ht := back_tail (h := h) s (by omega)
  have hsm : ∀ k ∈ l, (pL k).length ≤ 10000 ∧ (aL k).length ≤ 10000 := fun k hk => ⟨(hs k hk).p, (hs k hk).a⟩
  have s1 := fun c k => same_spec c k ha.rl hb.rl (by omega) hsm
  have s2 := fun c k => sameL_spec c k ha.rl hb.rl (by omega) hsm
  have w1 := fun c k => write_spec c k ha.rl (by omega) hs (fun e => (few_link e1).2) (fun e q hq => by have := (few_link e1).1 q hq; omega)
  have b0 : ((0 : Int) == 0) = true := rfl
  have b1 : ((1 : Int) == 0) = false := rfl
  have t1 : (true == true) = true := rfl
  have t4 : (false == false) = true := rfl
  cases e3 : rgB l <;> simp only [e3, Bool.false_eq_true, if_false, if_true] at w1
  · cases e4 : (l.map cL == m.map cL) <;> rw [e4] at s1 s2 <;>
      simp only [hal, f1, f2, h1, s1, s2, w1, bne, b0, b1, t1, t4, ht, ↓evD, evU, evL, Nat.reduceAdd, Nat.reduceSub, Nat.reduceMul, Nat.reduceLeDiff, Nat.reduceLT, Nat.reduceEqDiff, Nat.reduceBEq, reduceIte, reduceCtorEq, Int.reduceBEq, Int.reduceEq, Int.reduceLT, Int.reduceLE, Int.reduceGT, Int.reduceGE, Int.reduceAdd, Int.reduceSub, Int.reduceNeg, Int.reduceBNe, ite_true, ite_false, if_true, if_false, implies_true, forall_const]
  · obtain ⟨g1, g2, g3⟩ := rg_len e3
    have r1 := fun c k => readL_spec c k (linksT l) (by omega)
    rw [read_write e3] at r1
    simp only [rsV, List.nil_append] at r1
    have hx : ∀ x ∈ l.map cL, x.1.length ≤ 3 ∧ x.2.length ≤ 8 := (readS_len (read_write e3)).2
    have s3 := fun c k => sameL_spec c k (read_rl (l.map cL)).rl ha.rl (by rw [List.length_map, List.length_map]; omega) (read_sm hx)
    rw [map_cL, show (l.map cL == l.map cL) = true by simp] at s3
    generalize linksT l = u at *
    generalize gD .nils 2 ((l.map cL).map mkE) = R at *
    cases e4 : (l.map cL == m.map cL) <;> rw [e4] at s1 s2 <;>
      simp only [hal, f1, f2, h1, s1, s2, s3, w1, r1, bne, b0, b1, t1, t4, ht, ↓evD, evU, evL, Nat.reduceAdd, Nat.reduceSub, Nat.reduceMul, Nat.reduceLeDiff, Nat.reduceLT, Nat.reduceEqDiff, Nat.reduceBEq, reduceIte, reduceCtorEq, Int.reduceBEq, Int.reduceEq, Int.reduceLT, Int.reduceLE, Int.reduceGT, Int.reduceGE, Int.reduceAdd, Int.reduceSub, Int.reduceNeg, Int.reduceBNe, ite_true, ite_false, if_true, if_false, implies_true, forall_const]
theorem back_true {a b : PV} {l m : List Lk} (ha : Lv eL 2 a l) (hb : Lv eL 2 b m) (s : List UInt8) : CallA T 0 3 [a, b, .str s] [] = some (.bool true, []) := back_at alive_spec 0 ha hb s
end Go.Am.YtdnbedldmkagmaaDoor
