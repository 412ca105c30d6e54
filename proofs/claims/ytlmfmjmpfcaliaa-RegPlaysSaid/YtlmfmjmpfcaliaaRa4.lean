/- What the small functions of the document (layer 24) compute, on the abstract machine. By the session's AI agent. | What the functions of the document (layer 24) compute, on the abstract machine; Answer where it does not join. By the session's AI agent. | The reference's Answer where it joins, on the abstract machine. | The reference's Answer, whole; and the two lives' steps are alike. | A step of both gives the same; what holds of a life behind any step. | The row of steps as it is handed in; small answers and leaves the heap. By the session's AI agent. | One step of both (do) on the abstract machine, where the document does not join. By the session's AI agent. | The document's examples: the machine runs them. | RegPlays, on the abstract machine. | No library functions by contract in this seat. | The abstract machine's code is what the loaded program compiles to, function by function: by the kernel. Printed by wip/v2/mksh.py. | 'Am': what an argument that is read as data is to the machine. | What the arguments of these statements are, read as data. By the session's AI agent.
   By the session's AI agent. -/
import Derived.Test.YtlmfmjmpfcaliaaRa3
import Derived.KernelRfl
import Derived.Test.YtlmfmjmpfcaliaaProg
import GoSem.ClaimChange
import Derived.ChangeArms
import Derived.ChangeOld
import Derived.DataReads
import Derived.SizedLaws
namespace Go.Am.Ytlmfmjmpfcaliaa
set_option maxRecDepth 100000
set_option linter.unusedVariables false
set_option linter.unusedSimpArgs false
set_option linter.unusedSectionVars false
/-! The document's functions: a life by value. -/
structure Pl (v : PV) : Prop where
  sc : scalar v = true
  st : strip v = v
  be : ∀ n, below n v = true
  ce : v.cells = [v]
  fr : ∀ n h, frz n h v = some v
theorem Pl.nils : Pl .nils := ⟨rfl, rfl, fun _ => rfl, rfl, fun _ _ => rfl⟩
theorem Pl.slS (ss) : Pl (slS ss) := ⟨rfl, rfl, fun n => below_slS n ss, rfl, fun _ _ => rfl⟩
def clock (n : Int) : Int := if n < 0 then 0 else if n > 1099511627776 then 1099511627776 else n
def atR (l : Lf) (now : Int) : Lf := if clock now > l.now then { l with now := clock now } else l
def duringR (l : Lf) (s t : Int) : Lf := { l with st := s, next := clock (w64 (l.now + t)) }
def restR (l : Lf) : Lf := duringR { l with pl := .nils } 7 60
def nR (life : Int) : Int := if life < 10 then w64 (life - 1) else w64 (life - w64 (life.tdiv 10))
def joinedR (l : Lf) : Lf := duringR l 4 (if nR l.life < 1 then 1 else nR l.life)
def termR (n : Int) : Int := if n < 1 then 1 else if n > 86400 then 86400 else n
section
variable {h : Hp} {base : Nat}
theorem clock_spec (n : Int) : CallA T base 48 [i64 n] h = some (i64 (clock n), h) := by
  rw [S48]
  have hif : clock n = if decide (n < 0) = true then 0 else if decide (n > 1099511627776) = true then 1099511627776 else n := by simp only [clock, decide_eq_true_eq]
  rw [hif]
  cases h1 : decide (n < 0)
  · cases h2 : decide (n > 1099511627776) <;> simp only [↓evD, evU, Nat.reduceAdd, Nat.reduceSub, Nat.reduceMul, Nat.reduceLeDiff, Nat.reduceLT, Nat.reduceEqDiff, Nat.reduceBEq, reduceIte, reduceCtorEq, Int.reduceBEq, Int.reduceEq, Int.reduceLT, Int.reduceLE, Int.reduceGT, Int.reduceGE, Int.reduceAdd, Int.reduceSub, Int.reduceNeg, Int.reduceBNe, List.all_cons, List.all_nil, List.getElem?_cons_zero, List.getElem?_cons_succ, List.getElem?_nil, Option.map_some, List.length_cons, List.length_nil, List.set_cons_zero, List.set_cons_succ, List.map_cons, List.map_nil, List.drop_zero, List.drop_succ_cons, List.drop_nil, List.take_zero, List.take_succ_cons, List.take_nil, ite_true, ite_false, if_true, if_false, implies_true, forall_const, beq_self_eq_true, List.replicate_succ, List.replicate_zero, List.headD_cons, List.cons_append, List.nil_append, bne_self_eq_false, h1, h2]
  · simp only [↓evD, evU, Nat.reduceAdd, Nat.reduceSub, Nat.reduceMul, Nat.reduceLeDiff, Nat.reduceLT, Nat.reduceEqDiff, Nat.reduceBEq, reduceIte, reduceCtorEq, Int.reduceBEq, Int.reduceEq, Int.reduceLT, Int.reduceLE, Int.reduceGT, Int.reduceGE, Int.reduceAdd, Int.reduceSub, Int.reduceNeg, Int.reduceBNe, List.all_cons, List.all_nil, List.getElem?_cons_zero, List.getElem?_cons_succ, List.getElem?_nil, Option.map_some, List.length_cons, List.length_nil, List.set_cons_zero, List.set_cons_succ, List.map_cons, List.map_nil, List.drop_zero, List.drop_succ_cons, List.drop_nil, List.take_zero, List.take_succ_cons, List.take_nil, ite_true, ite_false, if_true, if_false, implies_true, forall_const, beq_self_eq_true, List.replicate_succ, List.replicate_zero, List.headD_cons, List.cons_append, List.nil_append, bne_self_eq_false, h1]
theorem term_spec (n : Int) : CallA T base 42 [i64 n] h = some (i64 (termR n), h) := by
  rw [S42]
  have hif : termR n = if decide (n < 1) = true then 1 else if decide (n > 86400) = true then 86400 else n := by simp only [termR, decide_eq_true_eq]
  rw [hif]
  cases h1 : decide (n < 1)
  · cases h2 : decide (n > 86400) <;> simp only [↓evD, evU, Nat.reduceAdd, Nat.reduceSub, Nat.reduceMul, Nat.reduceLeDiff, Nat.reduceLT, Nat.reduceEqDiff, Nat.reduceBEq, reduceIte, reduceCtorEq, Int.reduceBEq, Int.reduceEq, Int.reduceLT, Int.reduceLE, Int.reduceGT, Int.reduceGE, Int.reduceAdd, Int.reduceSub, Int.reduceNeg, Int.reduceBNe, List.all_cons, List.all_nil, List.getElem?_cons_zero, List.getElem?_cons_succ, List.getElem?_nil, Option.map_some, List.length_cons, List.length_nil, List.set_cons_zero, List.set_cons_succ, List.map_cons, List.map_nil, List.drop_zero, List.drop_succ_cons, List.drop_nil, List.take_zero, List.take_succ_cons, List.take_nil, ite_true, ite_false, if_true, if_false, implies_true, forall_const, beq_self_eq_true, List.replicate_succ, List.replicate_zero, List.headD_cons, List.cons_append, List.nil_append, bne_self_eq_false, h1, h2]
  · simp only [↓evD, evU, Nat.reduceAdd, Nat.reduceSub, Nat.reduceMul, Nat.reduceLeDiff, Nat.reduceLT, Nat.reduceEqDiff, Nat.reduceBEq, reduceIte, reduceCtorEq, Int.reduceBEq, Int.reduceEq, Int.reduceLT, Int.reduceLE, Int.reduceGT, Int.reduceGE, Int.reduceAdd, Int.reduceSub, Int.reduceNeg, Int.reduceBNe, List.all_cons, List.all_nil, List.getElem?_cons_zero, List.getElem?_cons_succ, List.getElem?_nil, Option.map_some, List.length_cons, List.length_nil, List.set_cons_zero, List.set_cons_succ, List.map_cons, List.map_nil, List.drop_zero, List.drop_succ_cons, List.drop_nil, List.take_zero, List.take_succ_cons, List.take_nil, ite_true, ite_false, if_true, if_false, implies_true, forall_const, beq_self_eq_true, List.replicate_succ, List.replicate_zero, List.headD_cons, List.cons_append, List.nil_append, bne_self_eq_false, h1]
variable {l : Lf} (p : Pl l.pl)
include p
theorem at_spec (now : Int) : CallA T base 41 [.agg (bx l), i64 now] h = some (.agg (bx (atR l now)), h) := by
  have hc := fun base h => clock_spec (base := base) (h := h) now
  rw [S41]
  unfold atR
  simp only [bx_eq]
  by_cases h1 : clock now > l.now
  · have h1' : decide (clock now > l.now) = true := by simpa using h1
    simp only [↓evD, evU, Nat.reduceAdd, Nat.reduceSub, Nat.reduceMul, Nat.reduceLeDiff, Nat.reduceLT, Nat.reduceEqDiff, Nat.reduceBEq, reduceIte, reduceCtorEq, Int.reduceBEq, Int.reduceEq, Int.reduceLT, Int.reduceLE, Int.reduceGT, Int.reduceGE, Int.reduceAdd, Int.reduceSub, Int.reduceNeg, Int.reduceBNe, List.all_cons, List.all_nil, List.getElem?_cons_zero, List.getElem?_cons_succ, List.getElem?_nil, Option.map_some, List.length_cons, List.length_nil, List.set_cons_zero, List.set_cons_succ, List.map_cons, List.map_nil, List.drop_zero, List.drop_succ_cons, List.drop_nil, List.take_zero, List.take_succ_cons, List.take_nil, ite_true, ite_false, if_true, if_false, implies_true, forall_const, beq_self_eq_true, List.replicate_succ, List.replicate_zero, List.headD_cons, List.cons_append, List.nil_append, bne_self_eq_false, hc, h1', h1, p.sc, p.st, p.be, p.ce, p.fr]
  · have h1' : decide (clock now > l.now) = false := by simpa using h1
    simp only [↓evD, evU, Nat.reduceAdd, Nat.reduceSub, Nat.reduceMul, Nat.reduceLeDiff, Nat.reduceLT, Nat.reduceEqDiff, Nat.reduceBEq, reduceIte, reduceCtorEq, Int.reduceBEq, Int.reduceEq, Int.reduceLT, Int.reduceLE, Int.reduceGT, Int.reduceGE, Int.reduceAdd, Int.reduceSub, Int.reduceNeg, Int.reduceBNe, List.all_cons, List.all_nil, List.getElem?_cons_zero, List.getElem?_cons_succ, List.getElem?_nil, Option.map_some, List.length_cons, List.length_nil, List.set_cons_zero, List.set_cons_succ, List.map_cons, List.map_nil, List.drop_zero, List.drop_succ_cons, List.drop_nil, List.take_zero, List.take_succ_cons, List.take_nil, ite_true, ite_false, if_true, if_false, implies_true, forall_const, beq_self_eq_true, List.replicate_succ, List.replicate_zero, List.headD_cons, List.cons_append, List.nil_append, bne_self_eq_false, hc, h1', h1, p.sc, p.st, p.be, p.ce, p.fr]
theorem during_spec (st t : Int) : CallA T base 44 [.agg (bx l), i64 st, i64 t] h = some (.agg (bx (duringR l st t)), h) := by
  have hc := fun base h => clock_spec (base := base) (h := h) (w64 (l.now + t))
  rw [S44]
  simp only [bx_eq, w64] at *
  simp only [↓evD, evU, Nat.reduceAdd, Nat.reduceSub, Nat.reduceMul, Nat.reduceLeDiff, Nat.reduceLT, Nat.reduceEqDiff, Nat.reduceBEq, reduceIte, reduceCtorEq, Int.reduceBEq, Int.reduceEq, Int.reduceLT, Int.reduceLE, Int.reduceGT, Int.reduceGE, Int.reduceAdd, Int.reduceSub, Int.reduceNeg, Int.reduceBNe, List.all_cons, List.all_nil, List.getElem?_cons_zero, List.getElem?_cons_succ, List.getElem?_nil, Option.map_some, List.length_cons, List.length_nil, List.set_cons_zero, List.set_cons_succ, List.map_cons, List.map_nil, List.drop_zero, List.drop_succ_cons, List.drop_nil, List.take_zero, List.take_succ_cons, List.take_nil, ite_true, ite_false, if_true, if_false, implies_true, forall_const, beq_self_eq_true, List.replicate_succ, List.replicate_zero, List.headD_cons, List.cons_append, List.nil_append, bne_self_eq_false, hc, p.sc, p.st, p.be, p.ce, p.fr, duringR, i64, w64]
theorem restR_spec : CallA T base 46 [.agg (bx l)] h = some (.tup [.agg (bx (restR l)), i64 0], h) := by
  have hd := fun base h => during_spec (base := base) (h := h) (l := { l with pl := .nils }) Pl.nils 7 60
  rw [S46]
  simp only [bx_eq] at *
  simp only [↓evD, evU, Nat.reduceAdd, Nat.reduceSub, Nat.reduceMul, Nat.reduceLeDiff, Nat.reduceLT, Nat.reduceEqDiff, Nat.reduceBEq, reduceIte, reduceCtorEq, Int.reduceBEq, Int.reduceEq, Int.reduceLT, Int.reduceLE, Int.reduceGT, Int.reduceGE, Int.reduceAdd, Int.reduceSub, Int.reduceNeg, Int.reduceBNe, List.all_cons, List.all_nil, List.getElem?_cons_zero, List.getElem?_cons_succ, List.getElem?_nil, Option.map_some, List.length_cons, List.length_nil, List.set_cons_zero, List.set_cons_succ, List.map_cons, List.map_nil, List.drop_zero, List.drop_succ_cons, List.drop_nil, List.take_zero, List.take_succ_cons, List.take_nil, ite_true, ite_false, if_true, if_false, implies_true, forall_const, beq_self_eq_true, List.replicate_succ, List.replicate_zero, List.headD_cons, List.cons_append, List.nil_append, bne_self_eq_false, hd, p.sc, p.st, p.be, p.ce, p.fr, restR, duringR, i64]
theorem joinedR_spec : CallA T base 45 [.agg (bx l)] h = some (.tup [.agg (bx (joinedR l)), i64 0], h) := by
  have hd := fun base h t => during_spec (base := base) (h := h) p 4 t
  rw [S45]
  have hif : joinedR l = duringR l 4 (if decide (nR l.life < 1) = true then 1 else nR l.life) := by simp only [joinedR, decide_eq_true_eq]
  have hn : nR l.life = if decide (l.life < 10) = true then w64 (l.life - 1) else w64 (l.life - w64 (l.life.tdiv 10)) := by simp only [nR, decide_eq_true_eq]
  rw [hif]
  simp only [bx_eq] at *
  cases h1 : decide (l.life < 10)
  · simp only [h1, Bool.false_eq_true, if_false] at hn
    by_cases h2 : nR l.life < 1 <;> (rw [hn] at h2 ⊢; simp only [w64] at h2 ⊢ hd; simp only [↓evD, evU, Nat.reduceAdd, Nat.reduceSub, Nat.reduceMul, Nat.reduceLeDiff, Nat.reduceLT, Nat.reduceEqDiff, Nat.reduceBEq, reduceIte, reduceCtorEq, Int.reduceBEq, Int.reduceEq, Int.reduceLT, Int.reduceLE, Int.reduceGT, Int.reduceGE, Int.reduceAdd, Int.reduceSub, Int.reduceNeg, Int.reduceBNe, List.all_cons, List.all_nil, List.getElem?_cons_zero, List.getElem?_cons_succ, List.getElem?_nil, Option.map_some, List.length_cons, List.length_nil, List.set_cons_zero, List.set_cons_succ, List.map_cons, List.map_nil, List.drop_zero, List.drop_succ_cons, List.drop_nil, List.take_zero, List.take_succ_cons, List.take_nil, ite_true, ite_false, if_true, if_false, implies_true, forall_const, beq_self_eq_true, List.replicate_succ, List.replicate_zero, List.headD_cons, List.cons_append, List.nil_append, bne_self_eq_false, hd, p.sc, p.st, p.be, p.ce, p.fr, h1, h2, duringR, i64, w64])
  · simp only [h1, if_true] at hn
    by_cases h2 : nR l.life < 1 <;> (rw [hn] at h2 ⊢; simp only [w64] at h2 ⊢ hd; simp only [↓evD, evU, Nat.reduceAdd, Nat.reduceSub, Nat.reduceMul, Nat.reduceLeDiff, Nat.reduceLT, Nat.reduceEqDiff, Nat.reduceBEq, reduceIte, reduceCtorEq, Int.reduceBEq, Int.reduceEq, Int.reduceLT, Int.reduceLE, Int.reduceGT, Int.reduceGE, Int.reduceAdd, Int.reduceSub, Int.reduceNeg, Int.reduceBNe, List.all_cons, List.all_nil, List.getElem?_cons_zero, List.getElem?_cons_succ, List.getElem?_nil, Option.map_some, List.length_cons, List.length_nil, List.set_cons_zero, List.set_cons_succ, List.map_cons, List.map_nil, List.drop_zero, List.drop_succ_cons, List.drop_nil, List.take_zero, List.take_succ_cons, List.take_nil, ite_true, ite_false, if_true, if_false, implies_true, forall_const, beq_self_eq_true, List.replicate_succ, List.replicate_zero, List.headD_cons, List.cons_append, List.nil_append, bne_self_eq_false, hd, p.sc, p.st, p.be, p.ce, p.fr, h1, h2, duringR, i64, w64])
theorem beginR_spec : CallA T base 43 [.agg (bx l)] h = some (.tup [.agg (bx (beginL l).1), i64 (beginL l).2], h) := by
  rw [S43]
  simp only [bx_eq] at *
  cases hk : l.known <;> simp only [↓evD, evU, Nat.reduceAdd, Nat.reduceSub, Nat.reduceMul, Nat.reduceLeDiff, Nat.reduceLT, Nat.reduceEqDiff, Nat.reduceBEq, reduceIte, reduceCtorEq, Int.reduceBEq, Int.reduceEq, Int.reduceLT, Int.reduceLE, Int.reduceGT, Int.reduceGE, Int.reduceAdd, Int.reduceSub, Int.reduceNeg, Int.reduceBNe, List.all_cons, List.all_nil, List.getElem?_cons_zero, List.getElem?_cons_succ, List.getElem?_nil, Option.map_some, List.length_cons, List.length_nil, List.set_cons_zero, List.set_cons_succ, List.map_cons, List.map_nil, List.drop_zero, List.drop_succ_cons, List.drop_nil, List.take_zero, List.take_succ_cons, List.take_nil, ite_true, ite_false, if_true, if_false, implies_true, forall_const, beq_self_eq_true, List.replicate_succ, List.replicate_zero, List.headD_cons, List.cons_append, List.nil_append, bne_self_eq_false, p.sc, p.st, p.be, p.ce, p.fr, beginL, hk]
theorem nextR_spec : CallA T base 13 [.agg (bx l)] h = some (.tup [i64 (if timedL l then l.next else 0), .bool (timedL l)], h) := by
  rw [S13]
  simp only [bx_eq] at *
  cases h2 : (l.st == 2) <;> cases h4 : (l.st == 4) <;> cases h7 : (l.st == 7) <;> simp only [↓evD, evU, Nat.reduceAdd, Nat.reduceSub, Nat.reduceMul, Nat.reduceLeDiff, Nat.reduceLT, Nat.reduceEqDiff, Nat.reduceBEq, reduceIte, reduceCtorEq, Int.reduceBEq, Int.reduceEq, Int.reduceLT, Int.reduceLE, Int.reduceGT, Int.reduceGE, Int.reduceAdd, Int.reduceSub, Int.reduceNeg, Int.reduceBNe, List.all_cons, List.all_nil, List.getElem?_cons_zero, List.getElem?_cons_succ, List.getElem?_nil, Option.map_some, List.length_cons, List.length_nil, List.set_cons_zero, List.set_cons_succ, List.map_cons, List.map_nil, List.drop_zero, List.drop_succ_cons, List.drop_nil, List.take_zero, List.take_succ_cons, List.take_nil, ite_true, ite_false, if_true, if_false, implies_true, forall_const, beq_self_eq_true, List.replicate_succ, List.replicate_zero, List.headD_cons, List.cons_append, List.nil_append, bne_self_eq_false, p.sc, p.st, p.be, p.ce, p.fr, h2, h4, h7, timedL]
omit p in
theorem atR_pl (l : Lf) (now : Int) : (atR l now).pl = l.pl := by unfold atR; split <;> rfl
end
end Go.Am.Ytlmfmjmpfcaliaa
namespace Go.Am.Ytlmfmjmpfcaliaa
set_option maxRecDepth 100000
set_option linter.unusedVariables false
set_option maxHeartbeats 4000000
set_option linter.unusedSimpArgs false
set_option linter.unusedSectionVars false
def startR (l : Lf) (known : Bool) (term now : Int) : Lf × Int := beginL { atR l now with known := known, life := termR term }
def joinsR (st code : Int) (n : Nat) : Bool := st == 3 && code == 65 && decide ((n : Int) ≥ 1) && decide ((n : Int) ≤ 4)
def answerR (l0 : Lf) (code : Int) (ss : List (List UInt8)) (now : Int) : Lf × Int :=
  let l := atR l0 now
  if l.st == 1 && code == 68 then (duringR l 2 1000, 0)
  else if joinsR l.st code ss.length then (joinedR { l with pl := slS ss }, 0)
  else if l.st == 5 && code == 68 then (joinedR l, 0)
  else if l.st == 5 && code == 132 then ({ l with pl := .nils, st := 3 }, 2)
  else if l.st == 1 || l.st == 3 || l.st == 5 then (restR l, 0)
  else if l.st == 6 then (offL l, 0) else (l, 0)
def lostR (l0 : Lf) (now : Int) : Lf :=
  let l := atR l0 now
  if l.st == 1 || l.st == 3 || l.st == 5 then restR l else if l.st == 6 then offL l else l
def finishR (l0 : Lf) (known : Bool) (now : Int) : Lf × Int :=
  let l := atR l0 now
  if l.st != 2 then (l, 0) else if known then beginL { l with known := known } else (restR { l with known := known }, 0)
def passR (l0 : Lf) (now : Int) : Lf × Int :=
  let l := atR l0 now
  if (l.st != 2 && l.st != 4 && l.st != 7) || decide (l.now < l.next) then (l, 0)
  else if l.st == 2 then (restR l, 0) else if l.st == 4 then ({ l with st := 5 }, 3) else beginL l
def renewR (l0 : Lf) (term now : Int) : Lf × Int :=
  let l := atR l0 now
  if l.st != 4 then (l, 0) else ({ l with life := termR term, st := 5 }, 3)
def leaveR (l0 : Lf) (now : Int) : Lf × Int :=
  let l := atR l0 now
  if l.st != 4 then (l, 0) else ({ l with st := 6 }, 4)
section
variable {h : Hp} {base : Nat} {l : Lf} (p : Pl l.pl)
include p
theorem startR_spec (known : Bool) (term now : Int) : CallA T base 24 [.agg (bx l), .bool known, i64 term, i64 now] h = some (.tup [.agg (bx (startR l known term now).1), i64 (startR l known term now).2], h) := by
  have ha := fun base h => at_spec (base := base) (h := h) p now
  have hp : Pl (atR l now).pl := by rw [atR_pl]; exact p
  unfold startR
  generalize atR l now = l1 at *
  have ht := fun base h => term_spec (base := base) (h := h) term
  have hg := fun base h => beginR_spec (base := base) (h := h) (l := { l1 with known := known, life := termR term }) hp
  rw [S24]
  simp only [bx_eq] at *
  simp only [↓evD, evU, Nat.reduceAdd, Nat.reduceSub, Nat.reduceMul, Nat.reduceLeDiff, Nat.reduceLT, Nat.reduceEqDiff, Nat.reduceBEq, reduceIte, reduceCtorEq, Int.reduceBEq, Int.reduceEq, Int.reduceLT, Int.reduceLE, Int.reduceGT, Int.reduceGE, Int.reduceAdd, Int.reduceSub, Int.reduceNeg, Int.reduceBNe, List.all_cons, List.all_nil, List.getElem?_cons_zero, List.getElem?_cons_succ, List.getElem?_nil, Option.map_some, List.length_cons, List.length_nil, List.set_cons_zero, List.set_cons_succ, List.map_cons, List.map_nil, List.drop_zero, List.drop_succ_cons, List.drop_nil, List.take_zero, List.take_succ_cons, List.take_nil, ite_true, ite_false, if_true, if_false, implies_true, forall_const, beq_self_eq_true, List.replicate_succ, List.replicate_zero, List.headD_cons, List.cons_append, List.nil_append, bne_self_eq_false, ha, ht, hg, p.sc, p.st, p.be, p.ce, p.fr, hp.sc, hp.st, hp.be, hp.ce, hp.fr]
  cases known <;> simp only [↓evD, evU, Nat.reduceAdd, Nat.reduceSub, Nat.reduceMul, Nat.reduceLeDiff, Nat.reduceLT, Nat.reduceEqDiff, Nat.reduceBEq, reduceIte, reduceCtorEq, Int.reduceBEq, Int.reduceEq, Int.reduceLT, Int.reduceLE, Int.reduceGT, Int.reduceGE, Int.reduceAdd, Int.reduceSub, Int.reduceNeg, Int.reduceBNe, List.all_cons, List.all_nil, List.getElem?_cons_zero, List.getElem?_cons_succ, List.getElem?_nil, Option.map_some, List.length_cons, List.length_nil, List.set_cons_zero, List.set_cons_succ, List.map_cons, List.map_nil, List.drop_zero, List.drop_succ_cons, List.drop_nil, List.take_zero, List.take_succ_cons, List.take_nil, ite_true, ite_false, if_true, if_false, implies_true, forall_const, beq_self_eq_true, List.replicate_succ, List.replicate_zero, List.headD_cons, List.cons_append, List.nil_append, bne_self_eq_false, beginL]
theorem lostR_spec (now : Int) : CallA T base 26 [.agg (bx l), i64 now] h = some (.tup [.agg (bx (lostR l now)), i64 0], h) := by
  have ha := fun base h => at_spec (base := base) (h := h) p now
  have hp : Pl (atR l now).pl := by rw [atR_pl]; exact p
  unfold lostR
  generalize atR l now = l1 at *
  have hr := fun base h => restR_spec (base := base) (h := h) hp
  rw [S26]
  simp only [bx_eq] at *
  cases h1 : (l1.st == 1) <;> cases h3 : (l1.st == 3) <;> cases h5 : (l1.st == 5) <;> cases h6 : (l1.st == 6) <;>
    simp only [↓evD, evU, Nat.reduceAdd, Nat.reduceSub, Nat.reduceMul, Nat.reduceLeDiff, Nat.reduceLT, Nat.reduceEqDiff, Nat.reduceBEq, reduceIte, reduceCtorEq, Int.reduceBEq, Int.reduceEq, Int.reduceLT, Int.reduceLE, Int.reduceGT, Int.reduceGE, Int.reduceAdd, Int.reduceSub, Int.reduceNeg, Int.reduceBNe, List.all_cons, List.all_nil, List.getElem?_cons_zero, List.getElem?_cons_succ, List.getElem?_nil, Option.map_some, List.length_cons, List.length_nil, List.set_cons_zero, List.set_cons_succ, List.map_cons, List.map_nil, List.drop_zero, List.drop_succ_cons, List.drop_nil, List.take_zero, List.take_succ_cons, List.take_nil, ite_true, ite_false, if_true, if_false, implies_true, forall_const, beq_self_eq_true, List.replicate_succ, List.replicate_zero, List.headD_cons, List.cons_append, List.nil_append, bne_self_eq_false, ha, hr, p.sc, p.st, p.be, p.ce, p.fr, hp.sc, hp.st, hp.be, hp.ce, hp.fr, h1, h3, h5, h6, offL, restR, duringR, i64]
theorem finishR_spec (known : Bool) (now : Int) : CallA T base 27 [.agg (bx l), .bool known, i64 now] h = some (.tup [.agg (bx (finishR l known now).1), i64 (finishR l known now).2], h) := by
  have ha := fun base h => at_spec (base := base) (h := h) p now
  have hp : Pl (atR l now).pl := by rw [atR_pl]; exact p
  unfold finishR
  generalize atR l now = l1 at *
  have hr := fun base h => restR_spec (base := base) (h := h) (l := { l1 with known := known }) hp
  have hg := fun base h => beginR_spec (base := base) (h := h) (l := { l1 with known := known }) hp
  rw [S27]
  simp only [bx_eq] at *
  cases h2 : (l1.st != 2) <;> cases known <;>
    simp only [↓evD, evU, Nat.reduceAdd, Nat.reduceSub, Nat.reduceMul, Nat.reduceLeDiff, Nat.reduceLT, Nat.reduceEqDiff, Nat.reduceBEq, reduceIte, reduceCtorEq, Int.reduceBEq, Int.reduceEq, Int.reduceLT, Int.reduceLE, Int.reduceGT, Int.reduceGE, Int.reduceAdd, Int.reduceSub, Int.reduceNeg, Int.reduceBNe, List.all_cons, List.all_nil, List.getElem?_cons_zero, List.getElem?_cons_succ, List.getElem?_nil, Option.map_some, List.length_cons, List.length_nil, List.set_cons_zero, List.set_cons_succ, List.map_cons, List.map_nil, List.drop_zero, List.drop_succ_cons, List.drop_nil, List.take_zero, List.take_succ_cons, List.take_nil, ite_true, ite_false, if_true, if_false, implies_true, forall_const, beq_self_eq_true, List.replicate_succ, List.replicate_zero, List.headD_cons, List.cons_append, List.nil_append, bne_self_eq_false, ha, hr, hg, p.sc, p.st, p.be, p.ce, p.fr, hp.sc, hp.st, hp.be, hp.ce, hp.fr, h2, beginL, restR, duringR, i64]
theorem passR_spec (now : Int) : CallA T base 28 [.agg (bx l), i64 now] h = some (.tup [.agg (bx (passR l now).1), i64 (passR l now).2], h) := by
  have ha := fun base h => at_spec (base := base) (h := h) p now
  have hp : Pl (atR l now).pl := by rw [atR_pl]; exact p
  unfold passR
  generalize atR l now = l1 at *
  have hr := fun base h => restR_spec (base := base) (h := h) hp
  have hg := fun base h => beginR_spec (base := base) (h := h) hp
  rw [S28]
  simp only [bx_eq] at *
  have n2 : (l1.st != 2) = !(l1.st == 2) := rfl
  have n4 : (l1.st != 4) = !(l1.st == 4) := rfl
  have n7 : (l1.st != 7) = !(l1.st == 7) := rfl
  cases h2 : (l1.st == 2) <;> rw [h2] at n2
  · cases h4 : (l1.st == 4) <;> rw [h4] at n4
    · cases h7 : (l1.st == 7) <;> rw [h7] at n7
      · simp only [↓evD, evU, Nat.reduceAdd, Nat.reduceSub, Nat.reduceMul, Nat.reduceLeDiff, Nat.reduceLT, Nat.reduceEqDiff, Nat.reduceBEq, reduceIte, reduceCtorEq, Int.reduceBEq, Int.reduceEq, Int.reduceLT, Int.reduceLE, Int.reduceGT, Int.reduceGE, Int.reduceAdd, Int.reduceSub, Int.reduceNeg, Int.reduceBNe, List.all_cons, List.all_nil, List.getElem?_cons_zero, List.getElem?_cons_succ, List.getElem?_nil, Option.map_some, List.length_cons, List.length_nil, List.set_cons_zero, List.set_cons_succ, List.map_cons, List.map_nil, List.drop_zero, List.drop_succ_cons, List.drop_nil, List.take_zero, List.take_succ_cons, List.take_nil, ite_true, ite_false, if_true, if_false, implies_true, forall_const, beq_self_eq_true, List.replicate_succ, List.replicate_zero, List.headD_cons, List.cons_append, List.nil_append, bne_self_eq_false, ha, p.sc, p.st, p.be, p.ce, p.fr, hp.sc, hp.st, hp.be, hp.ce, hp.fr, n2, n4, n7, h2, h4, h7, i64]
      · cases hn : decide (l1.now < l1.next)
        · simp only [↓evD, evU, Nat.reduceAdd, Nat.reduceSub, Nat.reduceMul, Nat.reduceLeDiff, Nat.reduceLT, Nat.reduceEqDiff, Nat.reduceBEq, reduceIte, reduceCtorEq, Int.reduceBEq, Int.reduceEq, Int.reduceLT, Int.reduceLE, Int.reduceGT, Int.reduceGE, Int.reduceAdd, Int.reduceSub, Int.reduceNeg, Int.reduceBNe, List.all_cons, List.all_nil, List.getElem?_cons_zero, List.getElem?_cons_succ, List.getElem?_nil, Option.map_some, List.length_cons, List.length_nil, List.set_cons_zero, List.set_cons_succ, List.map_cons, List.map_nil, List.drop_zero, List.drop_succ_cons, List.drop_nil, List.take_zero, List.take_succ_cons, List.take_nil, ite_true, ite_false, if_true, if_false, implies_true, forall_const, beq_self_eq_true, List.replicate_succ, List.replicate_zero, List.headD_cons, List.cons_append, List.nil_append, bne_self_eq_false, ha, hg, p.sc, p.st, p.be, p.ce, p.fr, hp.sc, hp.st, hp.be, hp.ce, hp.fr, n2, n4, n7, h2, h4, h7, hn, i64]
          cases hk : l1.known <;> simp only [↓evD, evU, Nat.reduceAdd, Nat.reduceSub, Nat.reduceMul, Nat.reduceLeDiff, Nat.reduceLT, Nat.reduceEqDiff, Nat.reduceBEq, reduceIte, reduceCtorEq, Int.reduceBEq, Int.reduceEq, Int.reduceLT, Int.reduceLE, Int.reduceGT, Int.reduceGE, Int.reduceAdd, Int.reduceSub, Int.reduceNeg, Int.reduceBNe, List.all_cons, List.all_nil, List.getElem?_cons_zero, List.getElem?_cons_succ, List.getElem?_nil, Option.map_some, List.length_cons, List.length_nil, List.set_cons_zero, List.set_cons_succ, List.map_cons, List.map_nil, List.drop_zero, List.drop_succ_cons, List.drop_nil, List.take_zero, List.take_succ_cons, List.take_nil, ite_true, ite_false, if_true, if_false, implies_true, forall_const, beq_self_eq_true, List.replicate_succ, List.replicate_zero, List.headD_cons, List.cons_append, List.nil_append, bne_self_eq_false, beginL, hk]
        · simp only [↓evD, evU, Nat.reduceAdd, Nat.reduceSub, Nat.reduceMul, Nat.reduceLeDiff, Nat.reduceLT, Nat.reduceEqDiff, Nat.reduceBEq, reduceIte, reduceCtorEq, Int.reduceBEq, Int.reduceEq, Int.reduceLT, Int.reduceLE, Int.reduceGT, Int.reduceGE, Int.reduceAdd, Int.reduceSub, Int.reduceNeg, Int.reduceBNe, List.all_cons, List.all_nil, List.getElem?_cons_zero, List.getElem?_cons_succ, List.getElem?_nil, Option.map_some, List.length_cons, List.length_nil, List.set_cons_zero, List.set_cons_succ, List.map_cons, List.map_nil, List.drop_zero, List.drop_succ_cons, List.drop_nil, List.take_zero, List.take_succ_cons, List.take_nil, ite_true, ite_false, if_true, if_false, implies_true, forall_const, beq_self_eq_true, List.replicate_succ, List.replicate_zero, List.headD_cons, List.cons_append, List.nil_append, bne_self_eq_false, ha, p.sc, p.st, p.be, p.ce, p.fr, hp.sc, hp.st, hp.be, hp.ce, hp.fr, n2, n4, n7, h2, h4, h7, hn, i64]
    · cases hn : decide (l1.now < l1.next) <;> simp only [↓evD, evU, Nat.reduceAdd, Nat.reduceSub, Nat.reduceMul, Nat.reduceLeDiff, Nat.reduceLT, Nat.reduceEqDiff, Nat.reduceBEq, reduceIte, reduceCtorEq, Int.reduceBEq, Int.reduceEq, Int.reduceLT, Int.reduceLE, Int.reduceGT, Int.reduceGE, Int.reduceAdd, Int.reduceSub, Int.reduceNeg, Int.reduceBNe, List.all_cons, List.all_nil, List.getElem?_cons_zero, List.getElem?_cons_succ, List.getElem?_nil, Option.map_some, List.length_cons, List.length_nil, List.set_cons_zero, List.set_cons_succ, List.map_cons, List.map_nil, List.drop_zero, List.drop_succ_cons, List.drop_nil, List.take_zero, List.take_succ_cons, List.take_nil, ite_true, ite_false, if_true, if_false, implies_true, forall_const, beq_self_eq_true, List.replicate_succ, List.replicate_zero, List.headD_cons, List.cons_append, List.nil_append, bne_self_eq_false, ha, p.sc, p.st, p.be, p.ce, p.fr, hp.sc, hp.st, hp.be, hp.ce, hp.fr, n2, n4, h2, h4, hn, i64]
  · cases hn : decide (l1.now < l1.next) <;> simp only [↓evD, evU, Nat.reduceAdd, Nat.reduceSub, Nat.reduceMul, Nat.reduceLeDiff, Nat.reduceLT, Nat.reduceEqDiff, Nat.reduceBEq, reduceIte, reduceCtorEq, Int.reduceBEq, Int.reduceEq, Int.reduceLT, Int.reduceLE, Int.reduceGT, Int.reduceGE, Int.reduceAdd, Int.reduceSub, Int.reduceNeg, Int.reduceBNe, List.all_cons, List.all_nil, List.getElem?_cons_zero, List.getElem?_cons_succ, List.getElem?_nil, Option.map_some, List.length_cons, List.length_nil, List.set_cons_zero, List.set_cons_succ, List.map_cons, List.map_nil, List.drop_zero, List.drop_succ_cons, List.drop_nil, List.take_zero, List.take_succ_cons, List.take_nil, ite_true, ite_false, if_true, if_false, implies_true, forall_const, beq_self_eq_true, List.replicate_succ, List.replicate_zero, List.headD_cons, List.cons_append, List.nil_append, bne_self_eq_false, ha, hr, p.sc, p.st, p.be, p.ce, p.fr, hp.sc, hp.st, hp.be, hp.ce, hp.fr, n2, h2, hn, restR, duringR, i64]
theorem renewR_spec (term now : Int) : CallA T base 29 [.agg (bx l), i64 term, i64 now] h = some (.tup [.agg (bx (renewR l term now).1), i64 (renewR l term now).2], h) := by
  have ha := fun base h => at_spec (base := base) (h := h) p now
  have hp : Pl (atR l now).pl := by rw [atR_pl]; exact p
  unfold renewR
  generalize atR l now = l1 at *
  have ht := fun base h => term_spec (base := base) (h := h) term
  rw [S29]
  simp only [bx_eq] at *
  cases h4 : (l1.st != 4) <;> simp only [↓evD, evU, Nat.reduceAdd, Nat.reduceSub, Nat.reduceMul, Nat.reduceLeDiff, Nat.reduceLT, Nat.reduceEqDiff, Nat.reduceBEq, reduceIte, reduceCtorEq, Int.reduceBEq, Int.reduceEq, Int.reduceLT, Int.reduceLE, Int.reduceGT, Int.reduceGE, Int.reduceAdd, Int.reduceSub, Int.reduceNeg, Int.reduceBNe, List.all_cons, List.all_nil, List.getElem?_cons_zero, List.getElem?_cons_succ, List.getElem?_nil, Option.map_some, List.length_cons, List.length_nil, List.set_cons_zero, List.set_cons_succ, List.map_cons, List.map_nil, List.drop_zero, List.drop_succ_cons, List.drop_nil, List.take_zero, List.take_succ_cons, List.take_nil, ite_true, ite_false, if_true, if_false, implies_true, forall_const, beq_self_eq_true, List.replicate_succ, List.replicate_zero, List.headD_cons, List.cons_append, List.nil_append, bne_self_eq_false, ha, ht, p.sc, p.st, p.be, p.ce, p.fr, hp.sc, hp.st, hp.be, hp.ce, hp.fr, h4, i64]
theorem leaveR_spec (now : Int) : CallA T base 30 [.agg (bx l), i64 now] h = some (.tup [.agg (bx (leaveR l now).1), i64 (leaveR l now).2], h) := by
  have ha := fun base h => at_spec (base := base) (h := h) p now
  have hp : Pl (atR l now).pl := by rw [atR_pl]; exact p
  unfold leaveR
  generalize atR l now = l1 at *
  rw [S30]
  simp only [bx_eq] at *
  cases h4 : (l1.st != 4) <;> simp only [↓evD, evU, Nat.reduceAdd, Nat.reduceSub, Nat.reduceMul, Nat.reduceLeDiff, Nat.reduceLT, Nat.reduceEqDiff, Nat.reduceBEq, reduceIte, reduceCtorEq, Int.reduceBEq, Int.reduceEq, Int.reduceLT, Int.reduceLE, Int.reduceGT, Int.reduceGE, Int.reduceAdd, Int.reduceSub, Int.reduceNeg, Int.reduceBNe, List.all_cons, List.all_nil, List.getElem?_cons_zero, List.getElem?_cons_succ, List.getElem?_nil, Option.map_some, List.length_cons, List.length_nil, List.set_cons_zero, List.set_cons_succ, List.map_cons, List.map_nil, List.drop_zero, List.drop_succ_cons, List.drop_nil, List.take_zero, List.take_succ_cons, List.take_nil, ite_true, ite_false, if_true, if_false, implies_true, forall_const, beq_self_eq_true, List.replicate_succ, List.replicate_zero, List.headD_cons, List.cons_append, List.nil_append, bne_self_eq_false, ha, p.sc, p.st, p.be, p.ce, p.fr, hp.sc, hp.st, hp.be, hp.ce, hp.fr, h4, i64]
theorem answerR_spec {v : PV} {ss : List (List UInt8)} {hh : Hp} {b : Nat} (a : Arg hh b v ss) (hsv : strip v = v) (code now : Int) (hno : joinsR (atR l now).st code ss.length = false) :
    CallA T base 25 [.agg (bx l), i64 code, v, i64 now] h = some (.tup [.agg (bx (answerR l code ss now).1), i64 (answerR l code ss now).2], h) := by
  have ha := fun base h => at_spec (base := base) (h := h) p now
  have hp : Pl (atR l now).pl := by rw [atR_pl]; exact p
  unfold answerR
  generalize atR l now = l1 at *
  have hr := fun base h => restR_spec (base := base) (h := h) hp
  have hd := fun base h => during_spec (base := base) (h := h) hp 2 1000
  have hj := fun base h => joinedR_spec (base := base) (h := h) hp
  have hlen := a.len
  clear a
  rw [S25]
  simp only [hno]
  simp only [bx_eq] at *
  cases h1 : (l1.st == 1)
  · cases h3 : (l1.st == 3)
    · cases h5 : (l1.st == 5)
      · cases h6 : (l1.st == 6) <;> simp only [↓evD, evU, Nat.reduceAdd, Nat.reduceSub, Nat.reduceMul, Nat.reduceLeDiff, Nat.reduceLT, Nat.reduceEqDiff, Nat.reduceBEq, reduceIte, reduceCtorEq, Int.reduceBEq, Int.reduceEq, Int.reduceLT, Int.reduceLE, Int.reduceGT, Int.reduceGE, Int.reduceAdd, Int.reduceSub, Int.reduceNeg, Int.reduceBNe, List.all_cons, List.all_nil, List.getElem?_cons_zero, List.getElem?_cons_succ, List.getElem?_nil, Option.map_some, List.length_cons, List.length_nil, List.set_cons_zero, List.set_cons_succ, List.map_cons, List.map_nil, List.drop_zero, List.drop_succ_cons, List.drop_nil, List.take_zero, List.take_succ_cons, List.take_nil, ite_true, ite_false, if_true, if_false, implies_true, forall_const, beq_self_eq_true, List.replicate_succ, List.replicate_zero, List.headD_cons, List.cons_append, List.nil_append, bne_self_eq_false, ha, p.sc, p.st, p.be, p.ce, p.fr, hp.sc, hp.st, hp.be, hp.ce, hp.fr, h1, h3, h5, h6, hsv, offL, i64]
      · cases c68 : (code == 68)
        · cases c132 : (code == 132) <;> simp only [↓evD, evU, Nat.reduceAdd, Nat.reduceSub, Nat.reduceMul, Nat.reduceLeDiff, Nat.reduceLT, Nat.reduceEqDiff, Nat.reduceBEq, reduceIte, reduceCtorEq, Int.reduceBEq, Int.reduceEq, Int.reduceLT, Int.reduceLE, Int.reduceGT, Int.reduceGE, Int.reduceAdd, Int.reduceSub, Int.reduceNeg, Int.reduceBNe, List.all_cons, List.all_nil, List.getElem?_cons_zero, List.getElem?_cons_succ, List.getElem?_nil, Option.map_some, List.length_cons, List.length_nil, List.set_cons_zero, List.set_cons_succ, List.map_cons, List.map_nil, List.drop_zero, List.drop_succ_cons, List.drop_nil, List.take_zero, List.take_succ_cons, List.take_nil, ite_true, ite_false, if_true, if_false, implies_true, forall_const, beq_self_eq_true, List.replicate_succ, List.replicate_zero, List.headD_cons, List.cons_append, List.nil_append, bne_self_eq_false, ha, hr, p.sc, p.st, p.be, p.ce, p.fr, hp.sc, hp.st, hp.be, hp.ce, hp.fr, h1, h3, h5, c68, c132, hsv, restR, duringR, i64]
        · simp only [↓evD, evU, Nat.reduceAdd, Nat.reduceSub, Nat.reduceMul, Nat.reduceLeDiff, Nat.reduceLT, Nat.reduceEqDiff, Nat.reduceBEq, reduceIte, reduceCtorEq, Int.reduceBEq, Int.reduceEq, Int.reduceLT, Int.reduceLE, Int.reduceGT, Int.reduceGE, Int.reduceAdd, Int.reduceSub, Int.reduceNeg, Int.reduceBNe, List.all_cons, List.all_nil, List.getElem?_cons_zero, List.getElem?_cons_succ, List.getElem?_nil, Option.map_some, List.length_cons, List.length_nil, List.set_cons_zero, List.set_cons_succ, List.map_cons, List.map_nil, List.drop_zero, List.drop_succ_cons, List.drop_nil, List.take_zero, List.take_succ_cons, List.take_nil, ite_true, ite_false, if_true, if_false, implies_true, forall_const, beq_self_eq_true, List.replicate_succ, List.replicate_zero, List.headD_cons, List.cons_append, List.nil_append, bne_self_eq_false, ha, hj, p.sc, p.st, p.be, p.ce, p.fr, hp.sc, hp.st, hp.be, hp.ce, hp.fr, h1, h3, h5, c68, hsv, joinedR, duringR, i64]
    · have h5 : (l1.st == 5) = false := by rw [beq_eq_false_iff_ne]; rw [beq_iff_eq] at h3; omega
      cases c65 : (code == 65)
      · simp only [↓evD, evU, Nat.reduceAdd, Nat.reduceSub, Nat.reduceMul, Nat.reduceLeDiff, Nat.reduceLT, Nat.reduceEqDiff, Nat.reduceBEq, reduceIte, reduceCtorEq, Int.reduceBEq, Int.reduceEq, Int.reduceLT, Int.reduceLE, Int.reduceGT, Int.reduceGE, Int.reduceAdd, Int.reduceSub, Int.reduceNeg, Int.reduceBNe, List.all_cons, List.all_nil, List.getElem?_cons_zero, List.getElem?_cons_succ, List.getElem?_nil, Option.map_some, List.length_cons, List.length_nil, List.set_cons_zero, List.set_cons_succ, List.map_cons, List.map_nil, List.drop_zero, List.drop_succ_cons, List.drop_nil, List.take_zero, List.take_succ_cons, List.take_nil, ite_true, ite_false, if_true, if_false, implies_true, forall_const, beq_self_eq_true, List.replicate_succ, List.replicate_zero, List.headD_cons, List.cons_append, List.nil_append, bne_self_eq_false, ha, hr, p.sc, p.st, p.be, p.ce, p.fr, hp.sc, hp.st, hp.be, hp.ce, hp.fr, h1, h3, h5, c65, hsv, restR, duringR, i64]
      · simp only [joinsR, h3, c65, Bool.true_and, Bool.and_eq_false_iff] at hno
        cases q1 : decide ((ss.length : Int) ≥ 1)
        · simp only [↓evD, evU, Nat.reduceAdd, Nat.reduceSub, Nat.reduceMul, Nat.reduceLeDiff, Nat.reduceLT, Nat.reduceEqDiff, Nat.reduceBEq, reduceIte, reduceCtorEq, Int.reduceBEq, Int.reduceEq, Int.reduceLT, Int.reduceLE, Int.reduceGT, Int.reduceGE, Int.reduceAdd, Int.reduceSub, Int.reduceNeg, Int.reduceBNe, List.all_cons, List.all_nil, List.getElem?_cons_zero, List.getElem?_cons_succ, List.getElem?_nil, Option.map_some, List.length_cons, List.length_nil, List.set_cons_zero, List.set_cons_succ, List.map_cons, List.map_nil, List.drop_zero, List.drop_succ_cons, List.drop_nil, List.take_zero, List.take_succ_cons, List.take_nil, ite_true, ite_false, if_true, if_false, implies_true, forall_const, beq_self_eq_true, List.replicate_succ, List.replicate_zero, List.headD_cons, List.cons_append, List.nil_append, bne_self_eq_false, ha, hr, p.sc, p.st, p.be, p.ce, p.fr, hp.sc, hp.st, hp.be, hp.ce, hp.fr, h1, h3, h5, c65, q1, hlen, hsv, restR, duringR, i64]
        · have q4 : decide ((ss.length : Int) ≤ 4) = false := by
            rcases hno with hno | hno
            · rw [q1] at hno; cases hno
            · exact hno
          simp only [↓evD, evU, Nat.reduceAdd, Nat.reduceSub, Nat.reduceMul, Nat.reduceLeDiff, Nat.reduceLT, Nat.reduceEqDiff, Nat.reduceBEq, reduceIte, reduceCtorEq, Int.reduceBEq, Int.reduceEq, Int.reduceLT, Int.reduceLE, Int.reduceGT, Int.reduceGE, Int.reduceAdd, Int.reduceSub, Int.reduceNeg, Int.reduceBNe, List.all_cons, List.all_nil, List.getElem?_cons_zero, List.getElem?_cons_succ, List.getElem?_nil, Option.map_some, List.length_cons, List.length_nil, List.set_cons_zero, List.set_cons_succ, List.map_cons, List.map_nil, List.drop_zero, List.drop_succ_cons, List.drop_nil, List.take_zero, List.take_succ_cons, List.take_nil, ite_true, ite_false, if_true, if_false, implies_true, forall_const, beq_self_eq_true, List.replicate_succ, List.replicate_zero, List.headD_cons, List.cons_append, List.nil_append, bne_self_eq_false, ha, hr, p.sc, p.st, p.be, p.ce, p.fr, hp.sc, hp.st, hp.be, hp.ce, hp.fr, h1, h3, h5, c65, q1, q4, hlen, hsv, restR, duringR, i64]
  · have h5 : (l1.st == 5) = false := by rw [beq_eq_false_iff_ne]; rw [beq_iff_eq] at h1; omega
    have h3 : (l1.st == 3) = false := by rw [beq_eq_false_iff_ne]; rw [beq_iff_eq] at h1; omega
    cases c68 : (code == 68) <;> simp only [↓evD, evU, Nat.reduceAdd, Nat.reduceSub, Nat.reduceMul, Nat.reduceLeDiff, Nat.reduceLT, Nat.reduceEqDiff, Nat.reduceBEq, reduceIte, reduceCtorEq, Int.reduceBEq, Int.reduceEq, Int.reduceLT, Int.reduceLE, Int.reduceGT, Int.reduceGE, Int.reduceAdd, Int.reduceSub, Int.reduceNeg, Int.reduceBNe, List.all_cons, List.all_nil, List.getElem?_cons_zero, List.getElem?_cons_succ, List.getElem?_nil, Option.map_some, List.length_cons, List.length_nil, List.set_cons_zero, List.set_cons_succ, List.map_cons, List.map_nil, List.drop_zero, List.drop_succ_cons, List.drop_nil, List.take_zero, List.take_succ_cons, List.take_nil, ite_true, ite_false, if_true, if_false, implies_true, forall_const, beq_self_eq_true, List.replicate_succ, List.replicate_zero, List.headD_cons, List.cons_append, List.nil_append, bne_self_eq_false, ha, hd, hr, p.sc, p.st, p.be, p.ce, p.fr, hp.sc, hp.st, hp.be, hp.ce, hp.fr, h1, h3, h5, c68, hsv, restR, duringR, i64]
end
end Go.Am.Ytlmfmjmpfcaliaa
namespace Go.Am.Ytlmfmjmpfcaliaa
set_option maxRecDepth 100000
set_option linter.unusedSimpArgs false
set_option linter.unusedVariables false
/-- A place that still grows: it comes back without its token. -/
structure PlT (v w : PV) : Prop where
  sc : scalar v = true
  ce : v.cells = [v]
  fr : ∀ n h, frz n h v = some w
  pl : Pl w
section
variable {h : Hp} {base : Nat} {l : Lf} {v w : PV} (q : PlT v w)
include q
theorem duringT_spec (st t : Int) : CallA T base 44 [.agg (bx { l with pl := v }), i64 st, i64 t] h = some (.agg (bx (duringR { l with pl := w } st t)), h) := by
  have hc := fun base h => clock_spec (base := base) (h := h) (w64 (l.now + t))
  have p := q.pl
  rw [S44]
  simp only [bx_eq, w64] at *
  simp only [↓evD, evU, Nat.reduceAdd, Nat.reduceSub, Nat.reduceMul, Nat.reduceLeDiff, Nat.reduceLT, Nat.reduceEqDiff, Nat.reduceBEq, reduceIte, reduceCtorEq, Int.reduceBEq, Int.reduceEq, Int.reduceLT, Int.reduceLE, Int.reduceGT, Int.reduceGE, Int.reduceAdd, Int.reduceSub, Int.reduceNeg, Int.reduceBNe, List.all_cons, List.all_nil, List.getElem?_cons_zero, List.getElem?_cons_succ, List.getElem?_nil, Option.map_some, List.length_cons, List.length_nil, List.set_cons_zero, List.set_cons_succ, List.map_cons, List.map_nil, List.drop_zero, List.drop_succ_cons, List.drop_nil, List.take_zero, List.take_succ_cons, List.take_nil, ite_true, ite_false, if_true, if_false, implies_true, forall_const, beq_self_eq_true, List.replicate_succ, List.replicate_zero, List.headD_cons, List.cons_append, List.nil_append, bne_self_eq_false, hc, q.sc, q.ce, q.fr, p.sc, p.st, p.be, p.ce, p.fr, duringR, i64, w64]
theorem joinedT_spec : CallA T base 45 [.agg (bx { l with pl := v })] h = some (.tup [.agg (bx (joinedR { l with pl := w })), i64 0], h) := by
  have hd := fun base h t => duringT_spec (base := base) (h := h) (l := l) q 4 t
  have p := q.pl
  rw [S45]
  have hif : joinedR { l with pl := w } = duringR { l with pl := w } 4 (if decide (nR l.life < 1) = true then 1 else nR l.life) := by simp only [joinedR, decide_eq_true_eq]
  have hn : nR l.life = if decide (l.life < 10) = true then w64 (l.life - 1) else w64 (l.life - w64 (l.life.tdiv 10)) := by simp only [nR, decide_eq_true_eq]
  rw [hif]
  simp only [bx_eq] at *
  cases h1 : decide (l.life < 10)
  · simp only [h1, Bool.false_eq_true, if_false] at hn
    by_cases h2 : nR l.life < 1 <;> (rw [hn] at h2 ⊢; simp only [w64] at h2 ⊢ hd; simp only [↓evD, evU, Nat.reduceAdd, Nat.reduceSub, Nat.reduceMul, Nat.reduceLeDiff, Nat.reduceLT, Nat.reduceEqDiff, Nat.reduceBEq, reduceIte, reduceCtorEq, Int.reduceBEq, Int.reduceEq, Int.reduceLT, Int.reduceLE, Int.reduceGT, Int.reduceGE, Int.reduceAdd, Int.reduceSub, Int.reduceNeg, Int.reduceBNe, List.all_cons, List.all_nil, List.getElem?_cons_zero, List.getElem?_cons_succ, List.getElem?_nil, Option.map_some, List.length_cons, List.length_nil, List.set_cons_zero, List.set_cons_succ, List.map_cons, List.map_nil, List.drop_zero, List.drop_succ_cons, List.drop_nil, List.take_zero, List.take_succ_cons, List.take_nil, ite_true, ite_false, if_true, if_false, implies_true, forall_const, beq_self_eq_true, List.replicate_succ, List.replicate_zero, List.headD_cons, List.cons_append, List.nil_append, bne_self_eq_false, hd, q.sc, q.ce, q.fr, p.sc, p.st, p.be, p.ce, p.fr, h1, h2, duringR, i64, w64])
  · simp only [h1, if_true] at hn
    by_cases h2 : nR l.life < 1 <;> (rw [hn] at h2 ⊢; simp only [w64] at h2 ⊢ hd; simp only [↓evD, evU, Nat.reduceAdd, Nat.reduceSub, Nat.reduceMul, Nat.reduceLeDiff, Nat.reduceLT, Nat.reduceEqDiff, Nat.reduceBEq, reduceIte, reduceCtorEq, Int.reduceBEq, Int.reduceEq, Int.reduceLT, Int.reduceLE, Int.reduceGT, Int.reduceGE, Int.reduceAdd, Int.reduceSub, Int.reduceNeg, Int.reduceBNe, List.all_cons, List.all_nil, List.getElem?_cons_zero, List.getElem?_cons_succ, List.getElem?_nil, Option.map_some, List.length_cons, List.length_nil, List.set_cons_zero, List.set_cons_succ, List.map_cons, List.map_nil, List.drop_zero, List.drop_succ_cons, List.drop_nil, List.take_zero, List.take_succ_cons, List.take_nil, ite_true, ite_false, if_true, if_false, implies_true, forall_const, beq_self_eq_true, List.replicate_succ, List.replicate_zero, List.headD_cons, List.cons_append, List.nil_append, bne_self_eq_false, hd, q.sc, q.ce, q.fr, p.sc, p.st, p.be, p.ce, p.fr, h1, h2, duringR, i64, w64])
end
/-- The place while it grows, and the heap. -/
def gP (h : Hp) (out : List (List UInt8)) : PV := if out.isEmpty then .sl .full 1 [] else .sl (.tok (size h + 2)) 1 (strs out)
def gK (h : Hp) (A B : List PV) (out : List (List UInt8)) : Hp := if out.isEmpty then ext h [.cells A, .cells B] else ext h [.cells A, .cells B, .tok out.length 9]
theorem gP_t (h : Hp) (out : List (List UInt8)) (hne : out ≠ []) : PlT (gP h out) (slS out) := by
  cases out with
  | nil => exact (hne rfl).elim
  | cons x xs => exact ⟨rfl, rfl, fun _ _ => rfl, Pl.slS _⟩
theorem gP_grow {h : Hp} {A B : List PV} (out : List (List UInt8)) (s : List UInt8) (hl : out.length + 1 ≤ lim2) :
    growT (gK h A B out) 9 1 (gP h out) [.str s] = some (gP h (out ++ [s]), gK h A B (out ++ [s])) := by
  unfold growT
  rw [if_pos (by rfl)]
  cases out with
  | nil =>
    simp only [gP, gK, List.isEmpty_nil, if_true]
    rw [if_pos (by simpa using hl)]
    simp [size, ext, strs, strips, Go.Am.strip]
  | cons x xs =>
    simp only [gP, gK, List.isEmpty_cons, List.cons_append, Bool.false_eq_true, if_false]
    have e : getTok (ext h [.cells A, .cells B, .tok (x :: xs).length 9]) (size h + 2) = some ((x :: xs).length, 9) := by
      simp [getTok, box?, ext, size, List.getElem?_append_right, Option.bnd, tokOf]
    rw [e]
    simp only [Option.bnd]
    rw [if_pos (by rw [strs_len]; simpa using hl)]
    have e2 : setBx (ext h [.cells A, .cells B, .tok (x :: xs).length 9]) (size h + 2) (.tok ((strs (x :: xs)).length + 1) 9) = ext h [.cells A, .cells B, .tok (x :: (xs ++ [s])).length 9] := by
      simp [setBx, ext, size, List.set_append, strs]
    have e3 : strs (x :: xs) ++ strips [.str s] = strs (x :: (xs ++ [s])) := by
      simp [strs, strips, Go.Am.strip]
    have e4 : [PV.str s].length = 1 := rfl
    rw [e4, e2, e3]
theorem gK_get0 (h : Hp) (A B : List PV) (out : List (List UInt8)) : getBox (gK h A B out) (size h) = some A := by
  unfold gK
  split <;> rw [getBox_ext_0] <;> rfl
theorem gK_get1 (h : Hp) (A B : List PV) (out : List (List UInt8)) : getBox (gK h A B out) (size h + 1) = some B := by
  unfold gK
  split <;> rw [getBox_ext_n] <;> rfl
theorem gK_set0 (h : Hp) (A B C : List PV) (out : List (List UInt8)) : setBx (gK h A B out) (size h) (.cells C) = gK h C B out := by
  unfold gK
  split <;> simp [setBx, ext, size, List.set_append]
theorem gK_set1 (h : Hp) (A B C : List PV) (out : List (List UInt8)) : setBx (gK h A B out) (size h + 1) (.cells C) = gK h A C out := by
  unfold gK
  split <;> simp [setBx, ext, size, List.set_append]
theorem gK_trunc (h : Hp) (A B : List PV) (out : List (List UInt8)) : trunc (gK h A B out) (size h) = h := by
  unfold gK
  split <;> exact trunc_ext
theorem places_loop {h : Hp} {v : PV} {ss : List (List UInt8)} (hv : Rl eS 1 v ss) (hn : ss ≠ []) (hl : ss.length ≤ 4) (l : Lf) : ∀ (r q : List (List UInt8)), ss = q ++ r →
    P25_0 (size h) (size h) (i64 q.length) (.ptr (size h) 0) v (.ptr (size h + 1) 0) (gK h (bx { l with pl := gP h q }) [i64 0, .bool false, i64 0, .nils, i64 0, i64 0] q) =
      some (.tup [.agg (bx (joinedR { l with pl := slS ss })), i64 0], h)
  | [], q, hp => by
    rw [P25_0_eq]
    have e : ss = q := by rw [hp]; simp
    subst e
    have h1 : ((ss.length : Int) < (ss.length : Int)) = False := by simp
    have n0 : (size h < size h) = False := by simp
    have n1 : (size h + 1 < size h) = False := by simp
    have q' := gP_t h ss hn
    have hj := fun base h' => joinedT_spec (base := base) (h := h') (l := l) q'
    have p : Pl (joinedR { l with pl := slS ss }).pl := by unfold joinedR duringR; exact Pl.slS ss
    generalize joinedR { l with pl := slS ss } = l2 at *
    have g0 := fun A B => gK_get0 h A B ss
    have g1 := fun A B => gK_get1 h A B ss
    have s1 := fun A B C => gK_set1 h A B C ss
    have gt := fun A B => gK_trunc h A B ss
    simp only [bx_eq] at *
    simp only [hv.len, h1, n0, n1, g0, g1, s1, gt, hj, q'.sc, q'.ce, p.sc, p.st, p.be, p.ce, p.fr, ↓evD, evU, Nat.reduceAdd, Nat.reduceSub, Nat.reduceMul, Nat.reduceLeDiff, Nat.reduceLT, Nat.reduceEqDiff, Nat.reduceBEq, reduceIte, reduceCtorEq, Int.reduceBEq, Int.reduceEq, Int.reduceLT, Int.reduceLE, Int.reduceGT, Int.reduceGE, Int.reduceAdd, Int.reduceSub, Int.reduceNeg, Int.reduceBNe, List.all_cons, List.all_nil, List.getElem?_cons_zero, List.getElem?_cons_succ, List.getElem?_nil, Option.map_some, List.length_cons, List.length_nil, List.set_cons_zero, List.set_cons_succ, List.map_cons, List.map_nil, List.drop_zero, List.drop_succ_cons, List.drop_nil, List.take_zero, List.take_succ_cons, List.take_nil, ite_true, ite_false, if_true, if_false, implies_true, forall_const, beq_self_eq_true, List.replicate_succ, List.replicate_zero, List.headD_cons, List.cons_append, List.nil_append, bne_self_eq_false]
  | s :: r, q, hp => by
    rw [P25_0_eq]
    have el : ss.length = q.length + (r.length + 1) := by rw [hp]; simp
    have h1 : ((q.length : Int) < (ss.length : Int)) = True := by simp; omega
    have hx : ss[q.length]? = some s := by rw [hp]; simp
    have hec : (eS s).cells = [.str s] := rfl
    have w1 : IntKind.i64.wrap ((q.length : Int) + 1) = (((q ++ [s]).length : Nat) : Int) := by rw [show (q ++ [s]).length = q.length + 1 by simp, wrap_small] <;> omega
    have n0 : (size h < size h) = False := by simp
    have gg := fun A B => gP_grow (h := h) (A := A) (B := B) q s (by unfold lim2; omega)
    have g0 := fun A B o => gK_get0 h A B o
    have s0 := fun A B C o => gK_set0 h A B C o
    have q' := gP_t h (q ++ [s]) (by simp)
    have ih := places_loop (h := h) hv hn hl l r (q ++ [s]) (by rw [hp]; simp)
    simp only [bx_eq] at *
    simp only [hv.len, h1, n0, hv.idx hx, hec, g0, s0, gg, q'.sc, q'.ce, w1, ih, ↓evD, evU, Nat.reduceAdd, Nat.reduceSub, Nat.reduceMul, Nat.reduceLeDiff, Nat.reduceLT, Nat.reduceEqDiff, Nat.reduceBEq, reduceIte, reduceCtorEq, Int.reduceBEq, Int.reduceEq, Int.reduceLT, Int.reduceLE, Int.reduceGT, Int.reduceGE, Int.reduceAdd, Int.reduceSub, Int.reduceNeg, Int.reduceBNe, List.all_cons, List.all_nil, List.getElem?_cons_zero, List.getElem?_cons_succ, List.getElem?_nil, Option.map_some, List.length_cons, List.length_nil, List.set_cons_zero, List.set_cons_succ, List.map_cons, List.map_nil, List.drop_zero, List.drop_succ_cons, List.drop_nil, List.take_zero, List.take_succ_cons, List.take_nil, ite_true, ite_false, if_true, if_false, implies_true, forall_const, beq_self_eq_true, List.replicate_succ, List.replicate_zero, List.headD_cons, List.cons_append, List.nil_append, bne_self_eq_false]
end Go.Am.Ytlmfmjmpfcaliaa
namespace Go.Am.Ytlmfmjmpfcaliaa
set_option maxRecDepth 100000
set_option linter.unusedSimpArgs false
set_option linter.unusedVariables false
theorem Arg.rl {h : Hp} {b : Nat} {v : PV} {ss : List (List UInt8)} (a : Arg h b v ss) : Rl eS 1 v ss := by
  cases a with
  | nil => exact rl_nils
  | sl o ss => exact rl_sl o ss
theorem answerF_spec {h : Hp} {base : Nat} {l : Lf} (p : Pl l.pl) {v : PV} {ss : List (List UInt8)} {hh : Hp} {b : Nat} (a : Arg hh b v ss) (hsv : strip v = v) (code now : Int) :
    CallA T base 25 [.agg (bx l), i64 code, v, i64 now] h = some (.tup [.agg (bx (answerR l code ss now).1), i64 (answerR l code ss now).2], h) := by
  cases hno : joinsR (atR l now).st code ss.length
  · exact answerR_spec p a hsv code now hno
  · have ha := fun base h => at_spec (base := base) (h := h) p now
    have hp : Pl (atR l now).pl := by rw [atR_pl]; exact p
    have hrl := a.rl
    have hlen := a.len
    unfold answerR
    generalize atR l now = l1 at *
    have hj := hno
    unfold joinsR at hj
    simp only [Bool.and_eq_true, decide_eq_true_eq, beq_iff_eq] at hj
    obtain ⟨⟨⟨j1, j2⟩, j3⟩, j4⟩ := hj
    have k1 : (l1.st == 1) = false := by rw [beq_eq_false_iff_ne]; omega
    have k3 : (l1.st == 3) = true := by simp [j1]
    have k65 : (code == 65) = true := by simp [j2]
    have hl := places_loop (h := h) hrl (by rintro rfl; simp at j3) (by omega) l1 ss [] rfl
    have z0 : ((([] : List (List UInt8)).length : Nat) : Int) = 0 := rfl
    have e0 : gP h [] = .sl .full 1 [] := rfl
    have e1 : ∀ A B, gK h A B [] = ext h [.cells A, .cells B] := fun _ _ => rfl
    rw [z0, e0, e1] at hl
    simp only [k1, hno, Bool.false_and, Bool.false_eq_true, if_false, if_true]
    generalize joinedR { l1 with pl := slS ss } = l2 at *
    rw [S25]
    simp only [bx_eq] at *
    have j4' : ((ss.length : Int) ≤ 4) = True := by simp; omega
    have j3' : ((ss.length : Int) ≥ 1) = True := by simp; omega
    simp only [↓evD, evU, Nat.reduceAdd, Nat.reduceSub, Nat.reduceMul, Nat.reduceLeDiff, Nat.reduceLT, Nat.reduceEqDiff, Nat.reduceBEq, reduceIte, reduceCtorEq, Int.reduceBEq, Int.reduceEq, Int.reduceLT, Int.reduceLE, Int.reduceGT, Int.reduceGE, Int.reduceAdd, Int.reduceSub, Int.reduceNeg, Int.reduceBNe, List.all_cons, List.all_nil, List.getElem?_cons_zero, List.getElem?_cons_succ, List.getElem?_nil, Option.map_some, List.length_cons, List.length_nil, List.set_cons_zero, List.set_cons_succ, List.map_cons, List.map_nil, List.drop_zero, List.drop_succ_cons, List.drop_nil, List.take_zero, List.take_succ_cons, List.take_nil, ite_true, ite_false, if_true, if_false, implies_true, forall_const, beq_self_eq_true, List.replicate_succ, List.replicate_zero, List.headD_cons, List.cons_append, List.nil_append, bne_self_eq_false, ha, p.sc, p.ce, hp.sc, hp.st, hp.be, hp.ce, hp.fr, k1, k3, k65, hlen, j3', j4', hl]
/-- What always holds of a life. -/
structure Ok (l : Lf) : Prop where
  n0 : 0 ≤ l.now
  n1 : l.now ≤ 1099511627776
  l0 : 1 ≤ l.life
  l1 : l.life ≤ 86400
theorem w64_small {n : Int} (h0 : -9223372036854775808 ≤ n) (h1 : n ≤ 9223372036854775807) : w64 n = n := wrap_small h0 h1
theorem clock_min {n : Int} (h0 : 0 ≤ n) : clock n = minI n 1099511627776 := by
  unfold clock minI
  rw [if_neg (by omega)]
theorem pass_num {nw now : Int} (h0 : 0 ≤ nw) (h1 : nw ≤ 1099511627776) : (if clock now > nw then clock now else nw) = minI (maxI now nw) 1099511627776 := by
  unfold clock minI maxI
  grind
theorem pass_at {l : Lf} (k : Ok l) (now : Int) : atR l now = passL l now := by
  have := pass_num (now := now) k.n0 k.n1
  unfold atR passL
  rw [← this]
  split <;> rfl
theorem ok_pass {l : Lf} (k : Ok l) (now : Int) : Ok (passL l now) := by
  obtain ⟨h0, h1, h2, h3⟩ := k
  refine ⟨?_, ?_, h2, h3⟩
  · show 0 ≤ minI (maxI now l.now) 1099511627776
    unfold minI maxI
    split <;> split <;> omega
  · show minI (maxI now l.now) 1099511627776 ≤ _
    unfold minI maxI
    split <;> split <;> omega
theorem during_wait {l : Lf} (k : Ok l) {s t : Int} (h0 : 0 ≤ t) (h1 : t ≤ 86400) : duringR l s t = waitL l s t := by
  obtain ⟨n0, n1, _, _⟩ := k
  unfold duringR waitL
  rw [clock_min]
  rw [w64_small (by omega) (by omega)]; omega
theorem life_term (n : Int) : termR n = lifeL n := by
  unfold termR lifeL minI maxI
  split <;> split <;> (try split) <;> (try split) <;> omega
theorem rest_eq {l : Lf} (k : Ok l) : restR l = restL l := by
  unfold restR restL
  exact during_wait (l := { l with pl := .nils }) ⟨k.n0, k.n1, k.l0, k.l1⟩ (by omega) (by omega)
theorem joined_eq {l : Lf} (k : Ok l) : joinedR l = joinedL l := by
  obtain ⟨n0, n1, l0, l1⟩ := k
  have hd : 0 ≤ l.life.tdiv 10 ∧ l.life.tdiv 10 ≤ l.life ∧ (l.life < 10 → l.life.tdiv 10 = 0) ∧ (10 ≤ l.life → 1 ≤ l.life.tdiv 10) := by
    rw [Int.tdiv_eq_ediv_of_nonneg (by omega)]
    omega
  obtain ⟨d0, d1, d2, d3⟩ := hd
  unfold joinedR joinedL
  have e : (if nR l.life < 1 then 1 else nR l.life) = maxI (w64 (l.life - maxI (w64 (l.life.tdiv 10)) 1)) 1 := by
    unfold nR maxI
    rw [w64_small (n := l.life.tdiv 10) (by omega) (by omega), w64_small (n := l.life - 1) (by omega) (by omega), w64_small (n := l.life - l.life.tdiv 10) (by omega) (by omega)]
    by_cases h10 : l.life < 10
    · have := d2 h10
      rw [if_pos h10, this]
      rw [if_pos (by omega : (1 : Int) > 0), w64_small (by omega) (by omega)]
    · have := d3 (by omega)
      rw [if_neg h10]
      by_cases hq : (1 : Int) > l.life.tdiv 10
      · omega
      · rw [if_neg hq, w64_small (by omega) (by omega)]
  rw [e]
  have hb : 0 ≤ maxI (w64 (l.life - maxI (w64 (l.life.tdiv 10)) 1)) 1 ∧ maxI (w64 (l.life - maxI (w64 (l.life.tdiv 10)) 1)) 1 ≤ 86400 := by
    rw [← e]
    unfold nR
    rw [w64_small (n := l.life.tdiv 10) (by omega) (by omega), w64_small (n := l.life - 1) (by omega) (by omega), w64_small (n := l.life - l.life.tdiv 10) (by omega) (by omega)]
    grind
  exact during_wait ⟨n0, n1, l0, l1⟩ hb.1 hb.2
end Go.Am.Ytlmfmjmpfcaliaa
namespace Go.Am.Ytlmfmjmpfcaliaa
set_option maxRecDepth 100000
set_option linter.unusedSimpArgs false
set_option linter.unusedVariables false
/-- A place just in states 4, 5 and 6. -/
def PlS (l : Lf) : Prop := (l.pl = .nils ∧ l.st ≠ 4 ∧ l.st ≠ 5 ∧ l.st ≠ 6) ∨ ((l.st = 4 ∨ l.st = 5 ∨ l.st = 6) ∧ ∃ ss : List (List UInt8), ss ≠ [] ∧ ss.length ≤ 4 ∧ l.pl = slS ss)
structure Good (l : Lf) : Prop where
  ok : Ok l
  pl : PlS l
theorem Good.p {l : Lf} (g : Good l) : Pl l.pl := by
  rcases g.pl with ⟨h, _⟩ | ⟨_, ss, _, _, h⟩
  · rw [h]; exact Pl.nils
  · rw [h]; exact Pl.slS ss
theorem good_pass {l : Lf} (g : Good l) (now : Int) : Good (passL l now) := ⟨ok_pass g.ok now, g.pl⟩
theorem good_rest {l : Lf} (k : Ok l) : Good (restL l) := ⟨⟨k.n0, k.n1, k.l0, k.l1⟩, .inl ⟨rfl, (by decide : (7 : Int) ≠ 4 ∧ (7 : Int) ≠ 5 ∧ (7 : Int) ≠ 6)⟩⟩
theorem good_wait {l : Lf} (g : Good l) (h : l.st = 1) : Good (waitL l 2 1000) := by
  refine ⟨⟨g.ok.n0, g.ok.n1, g.ok.l0, g.ok.l1⟩, .inl ⟨?_, (by decide : (2 : Int) ≠ 4 ∧ (2 : Int) ≠ 5 ∧ (2 : Int) ≠ 6)⟩⟩
  rcases g.pl with ⟨h, _⟩ | ⟨h2, _⟩
  · exact h
  · omega
theorem good_begin {l : Lf} (k : Ok l) : Good (beginL l).1 := by
  unfold beginL
  split
  · exact ⟨⟨k.n0, k.n1, k.l0, k.l1⟩, .inl ⟨rfl, (by decide : (3 : Int) ≠ 4 ∧ (3 : Int) ≠ 5 ∧ (3 : Int) ≠ 6)⟩⟩
  · exact ⟨⟨k.n0, k.n1, k.l0, k.l1⟩, .inl ⟨rfl, (by decide : (1 : Int) ≠ 4 ∧ (1 : Int) ≠ 5 ∧ (1 : Int) ≠ 6)⟩⟩
theorem good_joined {l : Lf} (k : Ok l) {ss : List (List UInt8)} (h : l.pl = slS ss) (hn : ss ≠ []) (hl : ss.length ≤ 4) : Good (joinedL l) :=
  ⟨⟨k.n0, k.n1, k.l0, k.l1⟩, .inr ⟨.inl rfl, ss, hn, hl, h⟩⟩
theorem good_off {l : Lf} (k : Ok l) : Good (offL l) := ⟨⟨k.n0, k.n1, k.l0, k.l1⟩, .inl ⟨rfl, (by decide : (0 : Int) ≠ 4 ∧ (0 : Int) ≠ 5 ∧ (0 : Int) ≠ 6)⟩⟩
theorem Good.place {l : Lf} (g : Good l) (h : l.st = 4 ∨ l.st = 5 ∨ l.st = 6) : ∃ ss : List (List UInt8), ss ≠ [] ∧ ss.length ≤ 4 ∧ l.pl = slS ss := by
  rcases g.pl with ⟨_, h1, h2, h3⟩ | ⟨_, q⟩
  · omega
  · exact q
theorem lifeL_ok (n : Int) : 1 ≤ lifeL n ∧ lifeL n ≤ 86400 := by
  unfold lifeL minI maxI
  grind
theorem start_same {l : Lf} (g : Good l) (kn : Bool) (li now : Int) : startR l kn li now = startL l kn li now ∧ Good (startL l kn li now).1 := by
  unfold startR startL
  rw [pass_at g.ok, life_term]
  have k := ok_pass g.ok now
  have := lifeL_ok li
  exact ⟨by first | rfl | trivial, good_begin ⟨k.n0, k.n1, this.1, this.2⟩⟩
theorem answer_same {l : Lf} (g : Good l) (code : Int) (ss : List (List UInt8)) (now : Int) : answerR l code ss now = answerL l code ss now ∧ Good (answerL l code ss now).1 := by
  unfold answerR answerL
  rw [pass_at g.ok]
  have g1 := good_pass g now
  generalize passL l now = m at *
  have k := g1.ok
  simp only
  by_cases h1 : m.st = 1
  · have e1 : (m.st == 1) = true := by simp [h1]
    have e5 : (m.st == 5) = false := by simp [h1]
    have ej : joinsR m.st code ss.length = false := by unfold joinsR; simp [h1]
    by_cases hc : code = 68
    · have ec : (code == 68) = true := by simp [hc]
      simp only [e1, ec, Bool.and_self, if_true]
      exact ⟨by rw [during_wait k (by omega) (by omega)], good_wait g1 h1⟩
    · have ec : (code == 68) = false := by simp [hc]
      simp only [e1, e5, ec, ej, Bool.and_false, Bool.false_and, Bool.false_eq_true, if_false, if_true, Bool.true_or]
      exact ⟨by rw [rest_eq k], good_rest k⟩
  have e1 : (m.st == 1) = false := by simp [h1]
  by_cases h3 : m.st = 3
  · have e3 : (m.st == 3) = true := by simp [h3]
    have e5 : (m.st == 5) = false := by simp [h3]
    by_cases hj : code = 65 ∧ 1 ≤ ss.length ∧ ss.length ≤ 4
    · obtain ⟨c1, c2, c3⟩ := hj
      have ej : joinsR m.st code ss.length = true := by unfold joinsR; simp [h3, c1]; omega
      have ea : joinedAtL m code ss = joinedL { m with pl := slS ss } := by
        unfold joinedAtL
        have hne : ss ≠ [] := by rintro rfl; simp at c2
        rw [if_neg]
        simp [c1, hne]; omega
      simp only [e1, e3, ej, ea, Bool.false_and, Bool.false_eq_true, if_false, if_true]
      have k2 : Ok { m with pl := slS ss } := ⟨k.n0, k.n1, k.l0, k.l1⟩
      exact ⟨by rw [joined_eq k2], good_joined k2 rfl (by rintro rfl; simp at c2) c3⟩
    · have ej : joinsR m.st code ss.length = false := by
        cases hq : joinsR m.st code ss.length
        · rfl
        · unfold joinsR at hq
          simp only [Bool.and_eq_true, decide_eq_true_eq, beq_iff_eq] at hq
          exact (hj ⟨hq.1.1.2, by omega, by omega⟩).elim
      have ea : joinedAtL m code ss = restL m := by
        unfold joinedAtL
        rw [if_pos]
        simp only [Bool.or_eq_true, bne_iff_ne, beq_iff_eq, decide_eq_true_eq]
        by_cases c : code = 65
        · right
          have : ¬ (1 ≤ ss.length ∧ ss.length ≤ 4) := fun q => hj ⟨c, q⟩
          omega
        · exact .inl c
      simp only [e1, e3, e5, ej, ea, Bool.false_and, Bool.false_eq_true, if_false, if_true, Bool.or_true, Bool.true_or]
      exact ⟨by rw [rest_eq k], good_rest k⟩
  have e3 : (m.st == 3) = false := by simp [h3]
  have ej : joinsR m.st code ss.length = false := by unfold joinsR; simp [h3]
  by_cases h5 : m.st = 5
  · have e5 : (m.st == 5) = true := by simp [h5]
    obtain ⟨qs, q1, q2, q3⟩ := g1.place (.inr (.inl h5))
    unfold renewedL
    by_cases c68 : code = 68
    · subst c68
      simp only [e1, e3, e5, ej, beq_self_eq_true, Bool.and_self, Bool.false_and, Bool.false_eq_true, if_false, if_true]
      exact ⟨by rw [joined_eq k], good_joined k q3 q1 q2⟩
    have ec : (code == 68) = false := by simp [c68]
    by_cases c132 : code = 132
    · subst c132
      simp only [e1, e3, e5, ej, beq_self_eq_true, Int.reduceBEq, Int.reduceEq, Bool.and_self, Bool.and_false, Bool.false_and, Bool.false_eq_true, if_false, if_true]
      exact ⟨by first | rfl | trivial, ⟨⟨k.n0, k.n1, k.l0, k.l1⟩, .inl ⟨rfl, (by decide : (3 : Int) ≠ 4 ∧ (3 : Int) ≠ 5 ∧ (3 : Int) ≠ 6)⟩⟩⟩
    · have ec2 : (code == 132) = false := by simp [c132]
      simp only [e1, e3, e5, ej, ec, ec2, c68, c132, Bool.and_self, Bool.and_false, Bool.false_and, Bool.false_eq_true, if_false, if_true, Bool.or_true]
      exact ⟨by rw [rest_eq k], good_rest k⟩
  have e5 : (m.st == 5) = false := by simp [h5]
  by_cases h6 : m.st = 6
  · have e6 : (m.st == 6) = true := by simp [h6]
    simp only [e1, e3, e5, e6, ej, Bool.false_and, Bool.false_eq_true, if_false, if_true, Bool.or_self]
    exact ⟨by first | rfl | trivial, good_off k⟩
  · have e6 : (m.st == 6) = false := by simp [h6]
    simp only [e1, e3, e5, e6, ej, Bool.false_and, Bool.false_eq_true, if_false, if_true, Bool.or_self]
    exact ⟨by first | rfl | trivial, g1⟩
theorem lost_same {l : Lf} (g : Good l) (now : Int) : lostR l now = lostL l now ∧ Good (lostL l now) := by
  unfold lostR lostL
  rw [pass_at g.ok]
  have g1 := good_pass g now
  generalize passL l now = m at *
  have k := g1.ok
  simp only
  rw [rest_eq k]
  cases e1 : (m.st == 1) <;> cases e3 : (m.st == 3) <;> cases e5 : (m.st == 5) <;> cases e6 : (m.st == 6) <;>
    simp only [Bool.or_false, Bool.or_true, Bool.true_or, Bool.false_or, Bool.or_self, Bool.false_eq_true, if_false, if_true] <;>
    first
    | exact ⟨by first | rfl | trivial, good_rest k⟩
    | exact ⟨by first | rfl | trivial, good_off k⟩
    | exact ⟨by first | rfl | trivial, g1⟩
theorem finish_same {l : Lf} (g : Good l) (kn : Bool) (now : Int) : finishR l kn now = finishL l kn now ∧ Good (finishL l kn now).1 := by
  unfold finishR finishL
  rw [pass_at g.ok]
  have g1 := good_pass g now
  generalize passL l now = m at *
  have k := g1.ok
  have k2 : Ok { m with known := kn } := ⟨k.n0, k.n1, k.l0, k.l1⟩
  simp only
  rw [rest_eq k2]
  cases e2 : (m.st != 2) <;> cases kn <;> simp only [Bool.false_eq_true, if_false, if_true] <;>
    first
    | exact ⟨by first | rfl | trivial, good_rest k2⟩
    | exact ⟨by first | rfl | trivial, good_begin k2⟩
    | exact ⟨by first | rfl | trivial, g1⟩
theorem renew_same {l : Lf} (g : Good l) (li now : Int) : renewR l li now = renewP l li now ∧ Good (renewP l li now).1 := by
  unfold renewR renewP
  rw [pass_at g.ok, life_term]
  have g1 := good_pass g now
  generalize passL l now = m at *
  have k := g1.ok
  have hl := lifeL_ok li
  simp only
  by_cases h4 : m.st = 4
  · have e4 : (m.st != 4) = false := by simp [h4]
    obtain ⟨qs, q1, q2, q3⟩ := g1.place (.inl h4)
    simp only [e4, Bool.false_eq_true, if_false]
    exact ⟨by first | rfl | trivial, ⟨⟨k.n0, k.n1, hl.1, hl.2⟩, .inr ⟨.inr (.inl rfl), qs, q1, q2, q3⟩⟩⟩
  · have e4 : (m.st != 4) = true := by simp [h4]
    simp only [e4, if_true]
    exact ⟨by first | rfl | trivial, g1⟩
theorem leave_same {l : Lf} (g : Good l) (now : Int) : leaveR l now = leaveP l now ∧ Good (leaveP l now).1 := by
  unfold leaveR leaveP
  rw [pass_at g.ok]
  have g1 := good_pass g now
  generalize passL l now = m at *
  have k := g1.ok
  simp only
  by_cases h4 : m.st = 4
  · have e4 : (m.st != 4) = false := by simp [h4]
    obtain ⟨qs, q1, q2, q3⟩ := g1.place (.inl h4)
    simp only [e4, Bool.false_eq_true, if_false]
    exact ⟨by first | rfl | trivial, ⟨⟨k.n0, k.n1, k.l0, k.l1⟩, .inr ⟨.inr (.inr rfl), qs, q1, q2, q3⟩⟩⟩
  · have e4 : (m.st != 4) = true := by simp [h4]
    simp only [e4, if_true]
    exact ⟨by first | rfl | trivial, g1⟩
theorem passP_same {l : Lf} (g : Good l) (now : Int) : passR l now = passP l now ∧ Good (passP l now).1 := by
  unfold passR passP timedL
  rw [pass_at g.ok]
  have g1 := good_pass g now
  generalize passL l now = m at *
  have k := g1.ok
  simp only
  rw [rest_eq k]
  have en : decide (m.now < m.next) = decide (m.next > m.now) := rfl
  rw [en]
  by_cases h2 : m.st = 2
  · have e2 : (m.st == 2) = true := by simp [h2]
    have e2' : (m.st != 2) = false := by simp [h2]
    cases hd : decide (m.next > m.now)
    · simp only [e2, e2', Bool.true_or, Bool.false_and, Bool.false_or, Bool.false_eq_true, Bool.true_eq_false, if_false, if_true]
      exact ⟨by first | rfl | trivial, good_rest k⟩
    · simp only [e2, e2', Bool.true_or, Bool.false_and, Bool.false_or, Bool.or_true, Bool.false_eq_true, Bool.true_eq_false, if_false, if_true]
      exact ⟨by first | rfl | trivial, g1⟩
  have e2 : (m.st == 2) = false := by simp [h2]
  have e2' : (m.st != 2) = true := by simp [h2]
  by_cases h4 : m.st = 4
  · have e4 : (m.st == 4) = true := by simp [h4]
    have e4' : (m.st != 4) = false := by simp [h4]
    obtain ⟨qs, q1, q2, q3⟩ := g1.place (.inl h4)
    cases hd : decide (m.next > m.now)
    · simp only [e2, e2', e4, e4', Bool.true_or, Bool.or_true, Bool.false_and, Bool.true_and, Bool.and_false, Bool.false_or, Bool.false_eq_true, Bool.true_eq_false, if_false, if_true]
      exact ⟨by first | rfl | trivial, ⟨⟨k.n0, k.n1, k.l0, k.l1⟩, .inr ⟨.inr (.inl rfl), qs, q1, q2, q3⟩⟩⟩
    · simp only [e2, e2', e4, e4', Bool.true_or, Bool.or_true, Bool.false_and, Bool.true_and, Bool.and_false, Bool.false_or, Bool.false_eq_true, Bool.true_eq_false, if_false, if_true]
      exact ⟨by first | rfl | trivial, g1⟩
  have e4 : (m.st == 4) = false := by simp [h4]
  have e4' : (m.st != 4) = true := by simp [h4]
  by_cases h7 : m.st = 7
  · have e7 : (m.st == 7) = true := by simp [h7]
    have e7' : (m.st != 7) = false := by simp [h7]
    cases hd : decide (m.next > m.now)
    · simp only [e2, e2', e4, e4', e7, e7', Bool.true_or, Bool.or_true, Bool.false_and, Bool.true_and, Bool.and_false, Bool.and_true, Bool.false_or, Bool.false_eq_true, Bool.true_eq_false, if_false, if_true]
      exact ⟨by first | rfl | trivial, good_begin k⟩
    · simp only [e2, e2', e4, e4', e7, e7', Bool.true_or, Bool.or_true, Bool.false_and, Bool.true_and, Bool.and_false, Bool.and_true, Bool.false_or, Bool.false_eq_true, Bool.true_eq_false, if_false, if_true]
      exact ⟨by first | rfl | trivial, g1⟩
  · have e7 : (m.st == 7) = false := by simp [h7]
    have e7' : (m.st != 7) = true := by simp [h7]
    simp only [e2, e2', e4, e4', e7, e7', Bool.true_or, Bool.or_true, Bool.false_and, Bool.true_and, Bool.and_false, Bool.and_true, Bool.false_or, Bool.or_self, Bool.and_self, Bool.false_eq_true, Bool.true_eq_false, if_false, if_true]
    exact ⟨by first | rfl | trivial, g1⟩
end Go.Am.Ytlmfmjmpfcaliaa
namespace Go.Am.Ytlmfmjmpfcaliaa
set_option maxRecDepth 100000
set_option linter.unusedVariables false
set_option maxHeartbeats 1000000
set_option linter.unusedSimpArgs false
set_option linter.unusedSectionVars false
/-- A step of a row, as the law is handed it. -/
structure Op where
  kind : Int
  code : Int
  known : Bool
  term : Int
  now : Int
  place : Option (List (List UInt8))
def plV : Option (List (List UInt8)) → PV
  | none => .nils
  | some ss => .sl .no 1 (strs ss)
def opC (o : Op) : List PV := [i64 o.kind, i64 o.code, .bool o.known, i64 o.term, i64 o.now, plV o.place]
def opV (o : Op) : PV := .agg (opC o)
theorem opC_eq (o : Op) : opC o = [i64 o.kind, i64 o.code, .bool o.known, i64 o.term, i64 o.now, plV o.place] := (rfl)
def opsV (ops : List Op) : PV := .sl .no 6 (ops.map opV)
def pls : Option (List (List UInt8)) → List (List UInt8)
  | none => []
  | some ss => ss
theorem plV_arg (h : Hp) (b : Nat) (p : Option (List (List UInt8))) : Arg h b (plV p) (pls p) := by
  cases p with
  | none => exact .nil
  | some ss => exact .sl _ ss
theorem plV_pl (p : Option (List (List UInt8))) : Pl (plV p) := by
  cases p with
  | none => exact Pl.nils
  | some ss => exact Pl.slS ss
theorem plV_len (p : Option (List (List UInt8))) : lenB false (plV p) = some (.int .i64 (pls p).length) := (plV_arg [] 0 p).len
theorem plV_idx (p : Option (List (List UInt8))) {i : Nat} {s : List UInt8} (hi : (pls p)[i]? = some s) : idxAB (plV p) (i64 i) 1 = some (.ep [.str s] 0) := by
  cases p with
  | none => simp [pls] at hi
  | some ss =>
    have hl : i < (strs ss).length := by rw [strs_len]; exact (List.getElem?_eq_some_iff.1 hi).1
    show idxAB (.sl .no 1 (strs ss)) _ _ = _
    rw [idxAB_sl, if_pos rfl, ix_nat _ _ _ hl]
    show Option.bnd ((strs ss)[i]?) _ = _
    have : (strs ss)[i]? = some (.str s) := by simpa [strs, pls] using hi
    rw [this]; rfl
/-- The row of steps as it comes. -/
inductive OpsArg : PV → List Op → Prop where
  | nil : OpsArg .nils []
  | sl (ops : List Op) : OpsArg (opsV ops) ops
theorem OpsArg.len {v ops} (a : OpsArg v ops) : lenB false v = some (.int .i64 ops.length) := by
  cases a with
  | nil => rfl
  | sl ops => show some (PV.int .i64 _) = _; rw [List.length_map]
theorem OpsArg.strip {v ops} (a : OpsArg v ops) : Go.Am.strip v = v := by cases a <;> rfl
theorem OpsArg.idx {v ops} (a : OpsArg v ops) {i : Nat} {o : Op} (hi : ops[i]? = some o) : idxAB v (i64 i) 6 = some (.ep (opC o) 0) := by
  cases a with
  | nil => simp at hi
  | sl ops =>
    have hl : i < (ops.map opV).length := by rw [List.length_map]; exact (List.getElem?_eq_some_iff.1 hi).1
    show idxAB (.sl .no 6 (ops.map opV)) _ _ = _
    rw [idxAB_sl, if_pos rfl, ix_nat _ _ _ hl]
    show Option.bnd ((ops.map opV)[i]?) _ = _
    have : (ops.map opV)[i]? = some (opV o) := by simp [hi]
    rw [this]; rfl
theorem small_in {h H : Hp} (ht : trunc H (size h) = h) (p : Option (List (List UInt8))) (hl : (pls p).length ≤ 20) (v7 v0 v8 : PV) (i : Int) : ∀ (r q : List (List UInt8)), pls p = q ++ r →
    P8_1 (size h) (size h) (i64 q.length) (plV p) v7 v0 v8 (i64 i) (i64 (pls p).length) H = some (.bool false, h) ∨
    P8_1 (size h) (size h) (i64 q.length) (plV p) v7 v0 v8 (i64 i) (i64 (pls p).length) H = P8_0 (size h) (size h) (i64 (IntKind.i64.wrap (i + 1))) v7 v0 v8 H
  | [], q, hp => by
    rw [P8_1_eq]
    have h1 : ((q.length : Int) < ((pls p).length : Int)) = False := by rw [hp]; simp
    right
    simp only [h1, ↓evD, evU, Nat.reduceAdd, Nat.reduceSub, Nat.reduceMul, Nat.reduceLeDiff, Nat.reduceLT, Nat.reduceEqDiff, Nat.reduceBEq, reduceIte, reduceCtorEq, Int.reduceBEq, Int.reduceEq, Int.reduceLT, Int.reduceLE, Int.reduceGT, Int.reduceGE, Int.reduceAdd, Int.reduceSub, Int.reduceNeg, Int.reduceBNe, List.all_cons, List.all_nil, List.getElem?_cons_zero, List.getElem?_cons_succ, List.getElem?_nil, Option.map_some, List.length_cons, List.length_nil, List.set_cons_zero, List.set_cons_succ, List.map_cons, List.map_nil, List.drop_zero, List.drop_succ_cons, List.drop_nil, List.take_zero, List.take_succ_cons, List.take_nil, ite_true, ite_false, if_true, if_false, implies_true, forall_const, beq_self_eq_true, List.replicate_succ, List.replicate_zero, List.headD_cons, List.cons_append, List.nil_append, bne_self_eq_false]
  | s :: r, q, hp => by
    rw [P8_1_eq]
    have el : (pls p).length = q.length + (r.length + 1) := by rw [hp]; simp
    have h1 : ((q.length : Int) < ((pls p).length : Int)) = True := by simp; omega
    have hx := plV_idx p (i := q.length) (s := s) (by rw [hp]; simp)
    have w1 : IntKind.i64.wrap ((q.length : Int) + 1) = (((q ++ [s]).length : Nat) : Int) := by rw [show (q ++ [s]).length = q.length + 1 by simp, wrap_small] <;> omega
    have ih := small_in ht p hl v7 v0 v8 i r (q ++ [s]) (by rw [hp]; simp)
    by_cases c : (s.length : Int) > 100
    · left
      simp only [h1, hx, c, ht, ↓evD, evU, Nat.reduceAdd, Nat.reduceSub, Nat.reduceMul, Nat.reduceLeDiff, Nat.reduceLT, Nat.reduceEqDiff, Nat.reduceBEq, reduceIte, reduceCtorEq, Int.reduceBEq, Int.reduceEq, Int.reduceLT, Int.reduceLE, Int.reduceGT, Int.reduceGE, Int.reduceAdd, Int.reduceSub, Int.reduceNeg, Int.reduceBNe, List.all_cons, List.all_nil, List.getElem?_cons_zero, List.getElem?_cons_succ, List.getElem?_nil, Option.map_some, List.length_cons, List.length_nil, List.set_cons_zero, List.set_cons_succ, List.map_cons, List.map_nil, List.drop_zero, List.drop_succ_cons, List.drop_nil, List.take_zero, List.take_succ_cons, List.take_nil, ite_true, ite_false, if_true, if_false, implies_true, forall_const, beq_self_eq_true, List.replicate_succ, List.replicate_zero, List.headD_cons, List.cons_append, List.nil_append, bne_self_eq_false]
    · rcases ih with ih | ih
      · left
        simp only [h1, hx, c, w1, ih, ↓evD, evU, Nat.reduceAdd, Nat.reduceSub, Nat.reduceMul, Nat.reduceLeDiff, Nat.reduceLT, Nat.reduceEqDiff, Nat.reduceBEq, reduceIte, reduceCtorEq, Int.reduceBEq, Int.reduceEq, Int.reduceLT, Int.reduceLE, Int.reduceGT, Int.reduceGE, Int.reduceAdd, Int.reduceSub, Int.reduceNeg, Int.reduceBNe, List.all_cons, List.all_nil, List.getElem?_cons_zero, List.getElem?_cons_succ, List.getElem?_nil, Option.map_some, List.length_cons, List.length_nil, List.set_cons_zero, List.set_cons_succ, List.map_cons, List.map_nil, List.drop_zero, List.drop_succ_cons, List.drop_nil, List.take_zero, List.take_succ_cons, List.take_nil, ite_true, ite_false, if_true, if_false, implies_true, forall_const, beq_self_eq_true, List.replicate_succ, List.replicate_zero, List.headD_cons, List.cons_append, List.nil_append, bne_self_eq_false]
      · right
        simp only [h1, hx, c, w1, ih, ↓evD, evU, Nat.reduceAdd, Nat.reduceSub, Nat.reduceMul, Nat.reduceLeDiff, Nat.reduceLT, Nat.reduceEqDiff, Nat.reduceBEq, reduceIte, reduceCtorEq, Int.reduceBEq, Int.reduceEq, Int.reduceLT, Int.reduceLE, Int.reduceGT, Int.reduceGE, Int.reduceAdd, Int.reduceSub, Int.reduceNeg, Int.reduceBNe, List.all_cons, List.all_nil, List.getElem?_cons_zero, List.getElem?_cons_succ, List.getElem?_nil, Option.map_some, List.length_cons, List.length_nil, List.set_cons_zero, List.set_cons_succ, List.map_cons, List.map_nil, List.drop_zero, List.drop_succ_cons, List.drop_nil, List.take_zero, List.take_succ_cons, List.take_nil, ite_true, ite_false, if_true, if_false, implies_true, forall_const, beq_self_eq_true, List.replicate_succ, List.replicate_zero, List.headD_cons, List.cons_append, List.nil_append, bne_self_eq_false]
theorem small_out {h : Hp} {v : PV} {ops : List Op} (a : OpsArg v ops) (hlen : ops.length ≤ 9223372036854775807) : ∀ (r q : List Op) (H : Hp), ops = q ++ r → trunc H (size h) = h → size h ≤ size H →
    ∃ b, P8_0 (size h) (size h) (i64 q.length) v v (i64 ops.length) H = some (.bool b, h) ∧ (b = true → ops.length ≤ 60)
  | [], q, H, hp, ht, hle => by
    rw [P8_0_eq]
    have e : q.length = ops.length := by rw [hp]; simp
    have h1 : ((q.length : Int) < (ops.length : Int)) = False := by simp; omega
    by_cases c : (ops.length : Int) ≤ 60
    · exact ⟨true, by simp only [h1, a.len, c, ht, decide_true, ↓evD, evU, Nat.reduceAdd, Nat.reduceSub, Nat.reduceMul, Nat.reduceLeDiff, Nat.reduceLT, Nat.reduceEqDiff, Nat.reduceBEq, reduceIte, reduceCtorEq, Int.reduceBEq, Int.reduceEq, Int.reduceLT, Int.reduceLE, Int.reduceGT, Int.reduceGE, Int.reduceAdd, Int.reduceSub, Int.reduceNeg, Int.reduceBNe, List.all_cons, List.all_nil, List.getElem?_cons_zero, List.getElem?_cons_succ, List.getElem?_nil, Option.map_some, List.length_cons, List.length_nil, List.set_cons_zero, List.set_cons_succ, List.map_cons, List.map_nil, List.drop_zero, List.drop_succ_cons, List.drop_nil, List.take_zero, List.take_succ_cons, List.take_nil, ite_true, ite_false, if_true, if_false, implies_true, forall_const, beq_self_eq_true, List.replicate_succ, List.replicate_zero, List.headD_cons, List.cons_append, List.nil_append, bne_self_eq_false], fun _ => by omega⟩
    · exact ⟨false, by simp only [h1, a.len, c, ht, decide_false, ↓evD, evU, Nat.reduceAdd, Nat.reduceSub, Nat.reduceMul, Nat.reduceLeDiff, Nat.reduceLT, Nat.reduceEqDiff, Nat.reduceBEq, reduceIte, reduceCtorEq, Int.reduceBEq, Int.reduceEq, Int.reduceLT, Int.reduceLE, Int.reduceGT, Int.reduceGE, Int.reduceAdd, Int.reduceSub, Int.reduceNeg, Int.reduceBNe, List.all_cons, List.all_nil, List.getElem?_cons_zero, List.getElem?_cons_succ, List.getElem?_nil, Option.map_some, List.length_cons, List.length_nil, List.set_cons_zero, List.set_cons_succ, List.map_cons, List.map_nil, List.drop_zero, List.drop_succ_cons, List.drop_nil, List.take_zero, List.take_succ_cons, List.take_nil, ite_true, ite_false, if_true, if_false, implies_true, forall_const, beq_self_eq_true, List.replicate_succ, List.replicate_zero, List.headD_cons, List.cons_append, List.nil_append, bne_self_eq_false], fun h => by cases h⟩
  | o :: r, q, H, hp, ht, hle => by
    rw [P8_0_eq]
    have el : ops.length = q.length + (r.length + 1) := by rw [hp]; simp
    have h1 : ((q.length : Int) < (ops.length : Int)) = True := by simp; omega
    have hx := a.idx (i := q.length) (o := o) (by rw [hp]; simp)
    have n1 : (size H < size h) = False := by simp; omega
    have po := plV_pl o.place
    have hln := plV_len o.place
    have ht1 : ∀ l, trunc (ext H l) (size h) = h := fun l => by rw [trunc_ext_ge l hle]; exact ht
    have hle1 : ∀ l, size h ≤ size (ext H l) := fun l => by rw [size_ext]; omega
    have w1 : IntKind.i64.wrap ((q.length : Int) + 1) = (((q ++ [o]).length : Nat) : Int) := by rw [show (q ++ [o]).length = q.length + 1 by simp, wrap_small] <;> omega
    simp only [opC_eq] at hx
    by_cases c : ((pls o.place).length : Int) > 20
    · exact ⟨false, by simp only [h1, hx, n1, po.sc, po.st, po.be, po.ce, hln, c, ht1, ↓evD, evU, Nat.reduceAdd, Nat.reduceSub, Nat.reduceMul, Nat.reduceLeDiff, Nat.reduceLT, Nat.reduceEqDiff, Nat.reduceBEq, reduceIte, reduceCtorEq, Int.reduceBEq, Int.reduceEq, Int.reduceLT, Int.reduceLE, Int.reduceGT, Int.reduceGE, Int.reduceAdd, Int.reduceSub, Int.reduceNeg, Int.reduceBNe, List.all_cons, List.all_nil, List.getElem?_cons_zero, List.getElem?_cons_succ, List.getElem?_nil, Option.map_some, List.length_cons, List.length_nil, List.set_cons_zero, List.set_cons_succ, List.map_cons, List.map_nil, List.drop_zero, List.drop_succ_cons, List.drop_nil, List.take_zero, List.take_succ_cons, List.take_nil, ite_true, ite_false, if_true, if_false, implies_true, forall_const, beq_self_eq_true, List.replicate_succ, List.replicate_zero, List.headD_cons, List.cons_append, List.nil_append, bne_self_eq_false], fun h => by cases h⟩
    · have hin := small_in (h := h) (H := ext H [.cells [i64 o.kind, i64 o.code, .bool o.known, i64 o.term, i64 o.now, plV o.place]]) (ht1 _) o.place (by omega) v v (i64 ops.length) q.length (pls o.place) [] rfl
      have z0 : ((([] : List (List UInt8)).length : Nat) : Int) = 0 := rfl
      rw [z0, w1] at hin
      obtain ⟨b, ih, hb⟩ := small_out (h := h) a hlen r (q ++ [o]) (ext H [.cells [i64 o.kind, i64 o.code, .bool o.known, i64 o.term, i64 o.now, plV o.place]]) (by rw [hp]; simp) (ht1 _) (hle1 _)
      rcases hin with hin | hin
      · exact ⟨false, by simp only [h1, hx, n1, po.sc, po.st, po.be, po.ce, hln, c, hin, ↓evD, evU, Nat.reduceAdd, Nat.reduceSub, Nat.reduceMul, Nat.reduceLeDiff, Nat.reduceLT, Nat.reduceEqDiff, Nat.reduceBEq, reduceIte, reduceCtorEq, Int.reduceBEq, Int.reduceEq, Int.reduceLT, Int.reduceLE, Int.reduceGT, Int.reduceGE, Int.reduceAdd, Int.reduceSub, Int.reduceNeg, Int.reduceBNe, List.all_cons, List.all_nil, List.getElem?_cons_zero, List.getElem?_cons_succ, List.getElem?_nil, Option.map_some, List.length_cons, List.length_nil, List.set_cons_zero, List.set_cons_succ, List.map_cons, List.map_nil, List.drop_zero, List.drop_succ_cons, List.drop_nil, List.take_zero, List.take_succ_cons, List.take_nil, ite_true, ite_false, if_true, if_false, implies_true, forall_const, beq_self_eq_true, List.replicate_succ, List.replicate_zero, List.headD_cons, List.cons_append, List.nil_append, bne_self_eq_false], fun h => by cases h⟩
      · rw [ih] at hin
        exact ⟨b, by simp only [h1, hx, n1, po.sc, po.st, po.be, po.ce, hln, c, hin, ↓evD, evU, Nat.reduceAdd, Nat.reduceSub, Nat.reduceMul, Nat.reduceLeDiff, Nat.reduceLT, Nat.reduceEqDiff, Nat.reduceBEq, reduceIte, reduceCtorEq, Int.reduceBEq, Int.reduceEq, Int.reduceLT, Int.reduceLE, Int.reduceGT, Int.reduceGE, Int.reduceAdd, Int.reduceSub, Int.reduceNeg, Int.reduceBNe, List.all_cons, List.all_nil, List.getElem?_cons_zero, List.getElem?_cons_succ, List.getElem?_nil, Option.map_some, List.length_cons, List.length_nil, List.set_cons_zero, List.set_cons_succ, List.map_cons, List.map_nil, List.drop_zero, List.drop_succ_cons, List.drop_nil, List.take_zero, List.take_succ_cons, List.take_nil, ite_true, ite_false, if_true, if_false, implies_true, forall_const, beq_self_eq_true, List.replicate_succ, List.replicate_zero, List.headD_cons, List.cons_append, List.nil_append, bne_self_eq_false], hb⟩
theorem small_spec {base : Nat} {h : Hp} {v : PV} {ops : List Op} (a : OpsArg v ops) (hlen : ops.length ≤ 9223372036854775807) : ∃ b, CallA T base 8 [v] h = some (.bool b, h) ∧ (b = true → ops.length ≤ 60) := by
  obtain ⟨b, h1, h2⟩ := small_out (h := h) a hlen ops [] h rfl trunc_self (Nat.le_refl _)
  refine ⟨b, ?_, h2⟩
  rw [S8]
  simp only [a.len, ↓evD, evU, Nat.reduceAdd, Nat.reduceSub, Nat.reduceMul, Nat.reduceLeDiff, Nat.reduceLT, Nat.reduceEqDiff, Nat.reduceBEq, reduceIte, reduceCtorEq, Int.reduceBEq, Int.reduceEq, Int.reduceLT, Int.reduceLE, Int.reduceGT, Int.reduceGE, Int.reduceAdd, Int.reduceSub, Int.reduceNeg, Int.reduceBNe, List.all_cons, List.all_nil, List.getElem?_cons_zero, List.getElem?_cons_succ, List.getElem?_nil, Option.map_some, List.length_cons, List.length_nil, List.set_cons_zero, List.set_cons_succ, List.map_cons, List.map_nil, List.drop_zero, List.drop_succ_cons, List.drop_nil, List.take_zero, List.take_succ_cons, List.take_nil, ite_true, ite_false, if_true, if_false, implies_true, forall_const, beq_self_eq_true, List.replicate_succ, List.replicate_zero, List.headD_cons, List.cons_append, List.nil_append, bne_self_eq_false]
  exact h1
theorem newR_spec {h : Hp} {base : Nat} : CallA T base 10 [] h = some (.agg (bx ⟨0, false, 1, .nils, 0, 0⟩), h) := by
  rw [S10]
  simp only [bx_eq, ↓evD, evU, Nat.reduceAdd, Nat.reduceSub, Nat.reduceMul, Nat.reduceLeDiff, Nat.reduceLT, Nat.reduceEqDiff, Nat.reduceBEq, reduceIte, reduceCtorEq, Int.reduceBEq, Int.reduceEq, Int.reduceLT, Int.reduceLE, Int.reduceGT, Int.reduceGE, Int.reduceAdd, Int.reduceSub, Int.reduceNeg, Int.reduceBNe, List.all_cons, List.all_nil, List.getElem?_cons_zero, List.getElem?_cons_succ, List.getElem?_nil, Option.map_some, List.length_cons, List.length_nil, List.set_cons_zero, List.set_cons_succ, List.map_cons, List.map_nil, List.drop_zero, List.drop_succ_cons, List.drop_nil, List.take_zero, List.take_succ_cons, List.take_nil, ite_true, ite_false, if_true, if_false, implies_true, forall_const, beq_self_eq_true, List.replicate_succ, List.replicate_zero, List.headD_cons, List.cons_append, List.nil_append, bne_self_eq_false]
end Go.Am.Ytlmfmjmpfcaliaa
namespace Go.Am.Ytlmfmjmpfcaliaa
set_option maxRecDepth 100000
set_option linter.unusedVariables false
set_option maxHeartbeats 4000000
set_option linter.unusedSimpArgs false
set_option linter.unusedSectionVars false
def doL (l : Lf) (o : Op) : Lf × Int :=
  if o.kind = 0 then startL l o.known o.term o.now
  else if o.kind = 1 ∨ o.kind = 2 then answerL l o.code (pls o.place) o.now
  else if o.kind = 3 then (lostL l o.now, 0)
  else if o.kind = 4 then finishL l o.known o.now
  else if o.kind = 5 ∨ o.kind = 6 then passP l o.now
  else if o.kind = 7 then renewP l o.term o.now
  else if o.kind = 8 then leaveP l o.now
  else (l, 0)
def doR (l : Lf) (o : Op) : Lf × Int :=
  if o.kind = 0 then startR l o.known o.term o.now
  else if o.kind = 1 ∨ o.kind = 2 then answerR l o.code (pls o.place) o.now
  else if o.kind = 3 then (lostR l o.now, 0)
  else if o.kind = 4 then finishR l o.known o.now
  else if o.kind = 5 ∨ o.kind = 6 then passR l o.now
  else if o.kind = 7 then renewR l o.term o.now
  else if o.kind = 8 then leaveR l o.now
  else (l, 0)
section
variable {h : Hp} {b base : Nat} {l x : Lf} (hb : getBox h b = some (bx l)) (hbl : b < size h) (px : Pl x.pl)
include hb hbl px
theorem do_spec (o : Op) (hx : Pl (doR x o).1.pl) :
    CallA T base 11 [.ptr b 0, .agg (bx x), opV o] h = some (.tup [.agg (bx (doR x o).1), .bool ((doL l o).2 == (doR x o).2)], setBx h b (.cells (bx (doL l o).1))) := by
  obtain ⟨kind, code, known, term, now, place⟩ := o
  have po := plV_pl place
  have hbn : size h ≠ b := by omega
  let J : List Box := [.cells (bx x), .cells (opC ⟨kind, code, known, term, now, place⟩), .cells [i64 0, .bool false, i64 0, .nils, i64 0, i64 0]]
  have hb' : getBox (ext h J) b = some (bx l) := by rw [getBox_ext_lt hbl]; exact hb
  have hbl' : b < size (ext h J) := by rw [size_ext]; omega
  rw [S11]
  simp only [opV, opC_eq]
  by_cases k0 : kind = 0
  · subst k0
    have hl := fun base => start_spec (base := base) hb' hbl' known term now
    have hr := fun base h => startR_spec (base := base) (h := h) px known term now
    simp only [doL, doR, Int.reduceEq, if_true, if_false, or_true, true_or, or_false, false_or] at hx ⊢
    generalize startL l known term now = r1 at *
    generalize startR x known term now = r2 at *
    simp only [bx_eq, opC_eq, setBx_ext_lt hbl, J] at *
    simp only [P11_0_eq, P11_1_eq, P11_2_eq, ↓evD, evU, Nat.reduceAdd, Nat.reduceSub, Nat.reduceMul, Nat.reduceLeDiff, Nat.reduceLT, Nat.reduceEqDiff, Nat.reduceBEq, reduceIte, reduceCtorEq, Int.reduceBEq, Int.reduceEq, Int.reduceLT, Int.reduceLE, Int.reduceGT, Int.reduceGE, Int.reduceAdd, Int.reduceSub, Int.reduceNeg, Int.reduceBNe, List.all_cons, List.all_nil, List.getElem?_cons_zero, List.getElem?_cons_succ, List.getElem?_nil, Option.map_some, List.length_cons, List.length_nil, List.set_cons_zero, List.set_cons_succ, List.map_cons, List.map_nil, List.drop_zero, List.drop_succ_cons, List.drop_nil, List.take_zero, List.take_succ_cons, List.take_nil, ite_true, ite_false, if_true, if_false, implies_true, forall_const, beq_self_eq_true, List.replicate_succ, List.replicate_zero, List.headD_cons, List.cons_append, List.nil_append, bne_self_eq_false, hl, hr, px.sc, px.st, px.be, px.ce, px.fr, po.sc, po.st, po.be, po.ce, po.fr, hx.sc, hx.st, hx.be, hx.ce, hx.fr, hbn, getBox_ext_lt hbl, getBox_set_ne (Ne.symm hbn)]
  by_cases k1 : kind = 1
  · subst k1
    have hl := fun base => answer_spec (base := base) hb' hbl' (plV_arg _ _ place) po.st code now
    have hr := fun base h => answerF_spec (base := base) (h := h) px (plV_arg [] 0 place) po.st code now
    simp only [doL, doR, Int.reduceEq, if_true, if_false, or_true, true_or, or_false, false_or] at hx ⊢
    generalize answerL l code (pls place) now = r1 at *
    generalize answerR x code (pls place) now = r2 at *
    simp only [bx_eq, opC_eq, setBx_ext_lt hbl, J] at *
    simp only [P11_0_eq, P11_1_eq, P11_2_eq, ↓evD, evU, Nat.reduceAdd, Nat.reduceSub, Nat.reduceMul, Nat.reduceLeDiff, Nat.reduceLT, Nat.reduceEqDiff, Nat.reduceBEq, reduceIte, reduceCtorEq, Int.reduceBEq, Int.reduceEq, Int.reduceLT, Int.reduceLE, Int.reduceGT, Int.reduceGE, Int.reduceAdd, Int.reduceSub, Int.reduceNeg, Int.reduceBNe, List.all_cons, List.all_nil, List.getElem?_cons_zero, List.getElem?_cons_succ, List.getElem?_nil, Option.map_some, List.length_cons, List.length_nil, List.set_cons_zero, List.set_cons_succ, List.map_cons, List.map_nil, List.drop_zero, List.drop_succ_cons, List.drop_nil, List.take_zero, List.take_succ_cons, List.take_nil, ite_true, ite_false, if_true, if_false, implies_true, forall_const, beq_self_eq_true, List.replicate_succ, List.replicate_zero, List.headD_cons, List.cons_append, List.nil_append, bne_self_eq_false, hl, hr, px.sc, px.st, px.be, px.ce, px.fr, po.sc, po.st, po.be, po.ce, po.fr, hx.sc, hx.st, hx.be, hx.ce, hx.fr, hbn, getBox_ext_lt hbl, getBox_set_ne (Ne.symm hbn)]
  by_cases k2 : kind = 2
  · subst k2
    have hl := fun base => answer_spec (base := base) hb' hbl' (plV_arg _ _ place) po.st code now
    have hr := fun base h => answerF_spec (base := base) (h := h) px (plV_arg [] 0 place) po.st code now
    simp only [doL, doR, Int.reduceEq, if_true, if_false, or_true, true_or, or_false, false_or] at hx ⊢
    generalize answerL l code (pls place) now = r1 at *
    generalize answerR x code (pls place) now = r2 at *
    simp only [bx_eq, opC_eq, setBx_ext_lt hbl, J] at *
    simp only [P11_0_eq, P11_1_eq, P11_2_eq, ↓evD, evU, Nat.reduceAdd, Nat.reduceSub, Nat.reduceMul, Nat.reduceLeDiff, Nat.reduceLT, Nat.reduceEqDiff, Nat.reduceBEq, reduceIte, reduceCtorEq, Int.reduceBEq, Int.reduceEq, Int.reduceLT, Int.reduceLE, Int.reduceGT, Int.reduceGE, Int.reduceAdd, Int.reduceSub, Int.reduceNeg, Int.reduceBNe, List.all_cons, List.all_nil, List.getElem?_cons_zero, List.getElem?_cons_succ, List.getElem?_nil, Option.map_some, List.length_cons, List.length_nil, List.set_cons_zero, List.set_cons_succ, List.map_cons, List.map_nil, List.drop_zero, List.drop_succ_cons, List.drop_nil, List.take_zero, List.take_succ_cons, List.take_nil, ite_true, ite_false, if_true, if_false, implies_true, forall_const, beq_self_eq_true, List.replicate_succ, List.replicate_zero, List.headD_cons, List.cons_append, List.nil_append, bne_self_eq_false, hl, hr, px.sc, px.st, px.be, px.ce, px.fr, po.sc, po.st, po.be, po.ce, po.fr, hx.sc, hx.st, hx.be, hx.ce, hx.fr, hbn, getBox_ext_lt hbl, getBox_set_ne (Ne.symm hbn)]
  by_cases k3 : kind = 3
  · subst k3
    have hl := fun base => lost_spec (base := base) hb' hbl' now
    have hr := fun base h => lostR_spec (base := base) (h := h) px now
    simp only [doL, doR, Int.reduceEq, if_true, if_false, or_true, true_or, or_false, false_or] at hx ⊢
    generalize lostL l now = r1 at *
    generalize lostR x now = r2 at *
    simp only [bx_eq, opC_eq, setBx_ext_lt hbl, J] at *
    simp only [P11_0_eq, P11_1_eq, P11_2_eq, ↓evD, evU, Nat.reduceAdd, Nat.reduceSub, Nat.reduceMul, Nat.reduceLeDiff, Nat.reduceLT, Nat.reduceEqDiff, Nat.reduceBEq, reduceIte, reduceCtorEq, Int.reduceBEq, Int.reduceEq, Int.reduceLT, Int.reduceLE, Int.reduceGT, Int.reduceGE, Int.reduceAdd, Int.reduceSub, Int.reduceNeg, Int.reduceBNe, List.all_cons, List.all_nil, List.getElem?_cons_zero, List.getElem?_cons_succ, List.getElem?_nil, Option.map_some, List.length_cons, List.length_nil, List.set_cons_zero, List.set_cons_succ, List.map_cons, List.map_nil, List.drop_zero, List.drop_succ_cons, List.drop_nil, List.take_zero, List.take_succ_cons, List.take_nil, ite_true, ite_false, if_true, if_false, implies_true, forall_const, beq_self_eq_true, List.replicate_succ, List.replicate_zero, List.headD_cons, List.cons_append, List.nil_append, bne_self_eq_false, hl, hr, px.sc, px.st, px.be, px.ce, px.fr, po.sc, po.st, po.be, po.ce, po.fr, hx.sc, hx.st, hx.be, hx.ce, hx.fr, hbn, getBox_ext_lt hbl, getBox_set_ne (Ne.symm hbn)]
  by_cases k4 : kind = 4
  · subst k4
    have hl := fun base => finish_spec (base := base) hb' hbl' known now
    have hr := fun base h => finishR_spec (base := base) (h := h) px known now
    simp only [doL, doR, Int.reduceEq, if_true, if_false, or_true, true_or, or_false, false_or] at hx ⊢
    generalize finishL l known now = r1 at *
    generalize finishR x known now = r2 at *
    simp only [bx_eq, opC_eq, setBx_ext_lt hbl, J] at *
    simp only [P11_0_eq, P11_1_eq, P11_2_eq, ↓evD, evU, Nat.reduceAdd, Nat.reduceSub, Nat.reduceMul, Nat.reduceLeDiff, Nat.reduceLT, Nat.reduceEqDiff, Nat.reduceBEq, reduceIte, reduceCtorEq, Int.reduceBEq, Int.reduceEq, Int.reduceLT, Int.reduceLE, Int.reduceGT, Int.reduceGE, Int.reduceAdd, Int.reduceSub, Int.reduceNeg, Int.reduceBNe, List.all_cons, List.all_nil, List.getElem?_cons_zero, List.getElem?_cons_succ, List.getElem?_nil, Option.map_some, List.length_cons, List.length_nil, List.set_cons_zero, List.set_cons_succ, List.map_cons, List.map_nil, List.drop_zero, List.drop_succ_cons, List.drop_nil, List.take_zero, List.take_succ_cons, List.take_nil, ite_true, ite_false, if_true, if_false, implies_true, forall_const, beq_self_eq_true, List.replicate_succ, List.replicate_zero, List.headD_cons, List.cons_append, List.nil_append, bne_self_eq_false, hl, hr, px.sc, px.st, px.be, px.ce, px.fr, po.sc, po.st, po.be, po.ce, po.fr, hx.sc, hx.st, hx.be, hx.ce, hx.fr, hbn, getBox_ext_lt hbl, getBox_set_ne (Ne.symm hbn)]
  by_cases k5 : kind = 5
  · subst k5
    have hl := fun base => passP_spec (base := base) hb' hbl' now
    have hr := fun base h => passR_spec (base := base) (h := h) px now
    simp only [doL, doR, Int.reduceEq, if_true, if_false, or_true, true_or, or_false, false_or] at hx ⊢
    generalize passP l now = r1 at *
    generalize passR x now = r2 at *
    simp only [bx_eq, opC_eq, setBx_ext_lt hbl, J] at *
    simp only [P11_0_eq, P11_1_eq, P11_2_eq, ↓evD, evU, Nat.reduceAdd, Nat.reduceSub, Nat.reduceMul, Nat.reduceLeDiff, Nat.reduceLT, Nat.reduceEqDiff, Nat.reduceBEq, reduceIte, reduceCtorEq, Int.reduceBEq, Int.reduceEq, Int.reduceLT, Int.reduceLE, Int.reduceGT, Int.reduceGE, Int.reduceAdd, Int.reduceSub, Int.reduceNeg, Int.reduceBNe, List.all_cons, List.all_nil, List.getElem?_cons_zero, List.getElem?_cons_succ, List.getElem?_nil, Option.map_some, List.length_cons, List.length_nil, List.set_cons_zero, List.set_cons_succ, List.map_cons, List.map_nil, List.drop_zero, List.drop_succ_cons, List.drop_nil, List.take_zero, List.take_succ_cons, List.take_nil, ite_true, ite_false, if_true, if_false, implies_true, forall_const, beq_self_eq_true, List.replicate_succ, List.replicate_zero, List.headD_cons, List.cons_append, List.nil_append, bne_self_eq_false, hl, hr, px.sc, px.st, px.be, px.ce, px.fr, po.sc, po.st, po.be, po.ce, po.fr, hx.sc, hx.st, hx.be, hx.ce, hx.fr, hbn, getBox_ext_lt hbl, getBox_set_ne (Ne.symm hbn)]
  by_cases k6 : kind = 6
  · subst k6
    have hl := fun base => passP_spec (base := base) hb' hbl' now
    have hr := fun base h => passR_spec (base := base) (h := h) px now
    simp only [doL, doR, Int.reduceEq, if_true, if_false, or_true, true_or, or_false, false_or] at hx ⊢
    generalize passP l now = r1 at *
    generalize passR x now = r2 at *
    simp only [bx_eq, opC_eq, setBx_ext_lt hbl, J] at *
    simp only [P11_0_eq, P11_1_eq, P11_2_eq, ↓evD, evU, Nat.reduceAdd, Nat.reduceSub, Nat.reduceMul, Nat.reduceLeDiff, Nat.reduceLT, Nat.reduceEqDiff, Nat.reduceBEq, reduceIte, reduceCtorEq, Int.reduceBEq, Int.reduceEq, Int.reduceLT, Int.reduceLE, Int.reduceGT, Int.reduceGE, Int.reduceAdd, Int.reduceSub, Int.reduceNeg, Int.reduceBNe, List.all_cons, List.all_nil, List.getElem?_cons_zero, List.getElem?_cons_succ, List.getElem?_nil, Option.map_some, List.length_cons, List.length_nil, List.set_cons_zero, List.set_cons_succ, List.map_cons, List.map_nil, List.drop_zero, List.drop_succ_cons, List.drop_nil, List.take_zero, List.take_succ_cons, List.take_nil, ite_true, ite_false, if_true, if_false, implies_true, forall_const, beq_self_eq_true, List.replicate_succ, List.replicate_zero, List.headD_cons, List.cons_append, List.nil_append, bne_self_eq_false, hl, hr, px.sc, px.st, px.be, px.ce, px.fr, po.sc, po.st, po.be, po.ce, po.fr, hx.sc, hx.st, hx.be, hx.ce, hx.fr, hbn, getBox_ext_lt hbl, getBox_set_ne (Ne.symm hbn)]
  by_cases k7 : kind = 7
  · subst k7
    have hl := fun base => renewP_spec (base := base) hb' hbl' term now
    have hr := fun base h => renewR_spec (base := base) (h := h) px term now
    simp only [doL, doR, Int.reduceEq, if_true, if_false, or_true, true_or, or_false, false_or] at hx ⊢
    generalize renewP l term now = r1 at *
    generalize renewR x term now = r2 at *
    simp only [bx_eq, opC_eq, setBx_ext_lt hbl, J] at *
    simp only [P11_0_eq, P11_1_eq, P11_2_eq, ↓evD, evU, Nat.reduceAdd, Nat.reduceSub, Nat.reduceMul, Nat.reduceLeDiff, Nat.reduceLT, Nat.reduceEqDiff, Nat.reduceBEq, reduceIte, reduceCtorEq, Int.reduceBEq, Int.reduceEq, Int.reduceLT, Int.reduceLE, Int.reduceGT, Int.reduceGE, Int.reduceAdd, Int.reduceSub, Int.reduceNeg, Int.reduceBNe, List.all_cons, List.all_nil, List.getElem?_cons_zero, List.getElem?_cons_succ, List.getElem?_nil, Option.map_some, List.length_cons, List.length_nil, List.set_cons_zero, List.set_cons_succ, List.map_cons, List.map_nil, List.drop_zero, List.drop_succ_cons, List.drop_nil, List.take_zero, List.take_succ_cons, List.take_nil, ite_true, ite_false, if_true, if_false, implies_true, forall_const, beq_self_eq_true, List.replicate_succ, List.replicate_zero, List.headD_cons, List.cons_append, List.nil_append, bne_self_eq_false, hl, hr, px.sc, px.st, px.be, px.ce, px.fr, po.sc, po.st, po.be, po.ce, po.fr, hx.sc, hx.st, hx.be, hx.ce, hx.fr, hbn, getBox_ext_lt hbl, getBox_set_ne (Ne.symm hbn)]
  by_cases k8 : kind = 8
  · subst k8
    have hl := fun base => leaveP_spec (base := base) hb' hbl' now
    have hr := fun base h => leaveR_spec (base := base) (h := h) px now
    simp only [doL, doR, Int.reduceEq, if_true, if_false, or_true, true_or, or_false, false_or] at hx ⊢
    generalize leaveP l now = r1 at *
    generalize leaveR x now = r2 at *
    simp only [bx_eq, opC_eq, setBx_ext_lt hbl, J] at *
    simp only [P11_0_eq, P11_1_eq, P11_2_eq, ↓evD, evU, Nat.reduceAdd, Nat.reduceSub, Nat.reduceMul, Nat.reduceLeDiff, Nat.reduceLT, Nat.reduceEqDiff, Nat.reduceBEq, reduceIte, reduceCtorEq, Int.reduceBEq, Int.reduceEq, Int.reduceLT, Int.reduceLE, Int.reduceGT, Int.reduceGE, Int.reduceAdd, Int.reduceSub, Int.reduceNeg, Int.reduceBNe, List.all_cons, List.all_nil, List.getElem?_cons_zero, List.getElem?_cons_succ, List.getElem?_nil, Option.map_some, List.length_cons, List.length_nil, List.set_cons_zero, List.set_cons_succ, List.map_cons, List.map_nil, List.drop_zero, List.drop_succ_cons, List.drop_nil, List.take_zero, List.take_succ_cons, List.take_nil, ite_true, ite_false, if_true, if_false, implies_true, forall_const, beq_self_eq_true, List.replicate_succ, List.replicate_zero, List.headD_cons, List.cons_append, List.nil_append, bne_self_eq_false, hl, hr, px.sc, px.st, px.be, px.ce, px.fr, po.sc, po.st, po.be, po.ce, po.fr, hx.sc, hx.st, hx.be, hx.ce, hx.fr, hbn, getBox_ext_lt hbl, getBox_set_ne (Ne.symm hbn)]
  have e : ∀ n, n ∈ [(0 : Int), 1, 2, 3, 4, 5, 6, 7, 8] → (kind == n) = false := by
    intro n hn
    rw [beq_eq_false_iff_ne]
    intro hq
    subst hq
    simp at hn
    omega
  have e0 := e 0 (by simp)
  have e1 := e 1 (by simp)
  have e2 := e 2 (by simp)
  have e3 := e 3 (by simp)
  have e4 := e 4 (by simp)
  have e5 := e 5 (by simp)
  have e6 := e 6 (by simp)
  have e7 := e 7 (by simp)
  have e8 := e 8 (by simp)
  simp only [doL, doR, k0, k1, k2, k3, k4, k5, k6, k7, k8, or_self, if_false]
  have hs : setBx h b (.cells (bx l)) = h := by
    have := setBox_self hb
    rw [setBox_eq] at this
    exact this
  rw [hs]
  simp only [bx_eq] at *
  simp only [P11_0_eq, P11_1_eq, P11_2_eq, ↓evD, evU, Nat.reduceAdd, Nat.reduceSub, Nat.reduceMul, Nat.reduceLeDiff, Nat.reduceLT, Nat.reduceEqDiff, Nat.reduceBEq, reduceIte, reduceCtorEq, Int.reduceBEq, Int.reduceEq, Int.reduceLT, Int.reduceLE, Int.reduceGT, Int.reduceGE, Int.reduceAdd, Int.reduceSub, Int.reduceNeg, Int.reduceBNe, List.all_cons, List.all_nil, List.getElem?_cons_zero, List.getElem?_cons_succ, List.getElem?_nil, Option.map_some, List.length_cons, List.length_nil, List.set_cons_zero, List.set_cons_succ, List.map_cons, List.map_nil, List.drop_zero, List.drop_succ_cons, List.drop_nil, List.take_zero, List.take_succ_cons, List.take_nil, ite_true, ite_false, if_true, if_false, implies_true, forall_const, beq_self_eq_true, List.replicate_succ, List.replicate_zero, List.headD_cons, List.cons_append, List.nil_append, bne_self_eq_false, px.sc, px.st, px.be, px.ce, px.fr, po.sc, po.st, po.be, po.ce, po.fr, e0, e1, e2, e3, e4, e5, e6, e7, e8]
end
end Go.Am.Ytlmfmjmpfcaliaa
namespace Go.Am.Ytlmfmjmpfcaliaa
set_option maxRecDepth 100000
theorem alive_run : call T 400 0 7 [] [] = some (.bool true, []) := by kernel_rfl
theorem alive_spec : CallA T (size []) 7 [] [] = some (.bool true, []) := CallA_iff.2 ⟨400, alive_run⟩
end Go.Am.Ytlmfmjmpfcaliaa
namespace Go.Am.Ytlmfmjmpfcaliaa
set_option maxRecDepth 100000
set_option linter.unusedSimpArgs false
set_option linter.unusedVariables false
theorem do_same {l : Lf} (g : Good l) (o : Op) : doR l o = doL l o ∧ Good (doL l o).1 := by
  unfold doR doL
  split
  · exact start_same g _ _ _
  split
  · exact answer_same g _ _ _
  split
  · have := lost_same g o.now
    exact ⟨by rw [this.1], this.2⟩
  split
  · exact finish_same g _ _
  split
  · exact passP_same g _
  split
  · exact renew_same g _ _
  split
  · exact leave_same g _
  · exact ⟨rfl, g⟩
theorem sameT_loop {h : Hp} {a b : PV} {l : List (List UInt8)} (ha : Rl eS 1 a l) (hb : Rl eS 1 b l) (hl : l.length ≤ 1000000) : ∀ (r q : List (List UInt8)), l = q ++ r →
    P15_0 (size h) (size h) (i64 q.length) b a h = some (.bool true, h)
  | [], q, hp => by
    rw [P15_0_eq]
    have e : q.length = l.length := by rw [hp]; simp
    have h1 : ((q.length : Int) < (l.length : Int)) = False := by simp; omega
    simp only [ha.len, h1, ↓evD, evU, Nat.reduceAdd, Nat.reduceSub, Nat.reduceMul, Nat.reduceLeDiff, Nat.reduceLT, Nat.reduceEqDiff, Nat.reduceBEq, reduceIte, reduceCtorEq, Int.reduceBEq, Int.reduceEq, Int.reduceLT, Int.reduceLE, Int.reduceGT, Int.reduceGE, Int.reduceAdd, Int.reduceSub, Int.reduceNeg, Int.reduceBNe, List.all_cons, List.all_nil, List.getElem?_cons_zero, List.getElem?_cons_succ, List.getElem?_nil, Option.map_some, List.length_cons, List.length_nil, List.set_cons_zero, List.set_cons_succ, List.map_cons, List.map_nil, List.drop_zero, List.drop_succ_cons, List.drop_nil, List.take_zero, List.take_succ_cons, List.take_nil, ite_true, ite_false, if_true, if_false, implies_true, forall_const, beq_self_eq_true, List.replicate_succ, List.replicate_zero, List.headD_cons, List.cons_append, List.nil_append, bne_self_eq_false]
  | x :: r, q, hp => by
    rw [P15_0_eq]
    have el : l.length = q.length + (r.length + 1) := by rw [hp]; simp
    have h1 : ((q.length : Int) < (l.length : Int)) = True := by simp; omega
    have hx : l[q.length]? = some x := by rw [hp]; simp
    have hec : ∀ x, (eS x).cells = [.str x] := fun _ => rfl
    have w1 : IntKind.i64.wrap ((q.length : Int) + 1) = (((q ++ [x]).length : Nat) : Int) := by rw [show (q ++ [x]).length = q.length + 1 by simp, wrap_small] <;> omega
    have hq' : (x != x) = false := by simp
    have ih := sameT_loop (h := h) ha hb hl r (q ++ [x]) (by rw [hp]; simp)
    simp only [ha.len, ha.idx hx, hb.idx hx, hec, h1, hq', w1, ih, ↓evD, evU, Nat.reduceAdd, Nat.reduceSub, Nat.reduceMul, Nat.reduceLeDiff, Nat.reduceLT, Nat.reduceEqDiff, Nat.reduceBEq, reduceIte, reduceCtorEq, Int.reduceBEq, Int.reduceEq, Int.reduceLT, Int.reduceLE, Int.reduceGT, Int.reduceGE, Int.reduceAdd, Int.reduceSub, Int.reduceNeg, Int.reduceBNe, List.all_cons, List.all_nil, List.getElem?_cons_zero, List.getElem?_cons_succ, List.getElem?_nil, Option.map_some, List.length_cons, List.length_nil, List.set_cons_zero, List.set_cons_succ, List.map_cons, List.map_nil, List.drop_zero, List.drop_succ_cons, List.drop_nil, List.take_zero, List.take_succ_cons, List.take_nil, ite_true, ite_false, if_true, if_false, implies_true, forall_const, beq_self_eq_true, List.replicate_succ, List.replicate_zero, List.headD_cons, List.cons_append, List.nil_append, bne_self_eq_false]
theorem sameT_spec {base : Nat} {h : Hp} {a b : PV} {l : List (List UInt8)} (ha : Rl eS 1 a l) (hb : Rl eS 1 b l) (hl : l.length ≤ 1000000) : CallA T base 15 [a, b] h = some (.bool true, h) := by
  rw [S15]
  have e1 : ((l.length : Int) != (l.length : Int)) = false := by simp
  have := sameT_loop (h := h) ha hb hl l [] rfl
  simp only [ha.len, hb.len, e1, ↓evD, evU, Nat.reduceAdd, Nat.reduceSub, Nat.reduceMul, Nat.reduceLeDiff, Nat.reduceLT, Nat.reduceEqDiff, Nat.reduceBEq, reduceIte, reduceCtorEq, Int.reduceBEq, Int.reduceEq, Int.reduceLT, Int.reduceLE, Int.reduceGT, Int.reduceGE, Int.reduceAdd, Int.reduceSub, Int.reduceNeg, Int.reduceBNe, List.all_cons, List.all_nil, List.getElem?_cons_zero, List.getElem?_cons_succ, List.getElem?_nil, Option.map_some, List.length_cons, List.length_nil, List.set_cons_zero, List.set_cons_succ, List.map_cons, List.map_nil, List.drop_zero, List.drop_succ_cons, List.drop_nil, List.take_zero, List.take_succ_cons, List.take_nil, ite_true, ite_false, if_true, if_false, implies_true, forall_const, beq_self_eq_true, List.replicate_succ, List.replicate_zero, List.headD_cons, List.cons_append, List.nil_append, bne_self_eq_false]
  exact this
structure RH (h H : Hp) (l : Lf) : Prop where
  tr : trunc H (size h) = h
  le : size h + 1 < size H
  b0 : getBox H (size h) = some (bx l)
  b1 : getBox H (size h + 1) = some (bx l)
theorem trunc_setge {h H : Hp} (x : Box) {k : Nat} (hk : size h ≤ k) : trunc (setBx H k x) (size h) = trunc H (size h) := by
  simp only [trunc, setBx, size] at *
  rw [List.take_set_of_le hk]
theorem Good.texts {l : Lf} (g : Good l) : ∃ ss : List (List UInt8), Rl eS 1 l.pl ss ∧ ss.length ≤ 4 ∧ ((ss.length : Int) > 0 ↔ (l.st = 4 ∨ l.st = 5 ∨ l.st = 6)) ∧ (∀ {h : Hp} {b base : Nat}, getBox h b = some (bx l) → b < size h → CallA T base 16 [.ptr b 0] h = some (l.pl, h)) := by
  rcases g.pl with ⟨h, h4, h5, h6⟩ | ⟨h1, ss, h2, h3, h⟩
  · refine ⟨[], by rw [h]; exact rl_nils, by simp, ⟨fun q => by simp at q, fun q => by omega⟩, fun hb hbl => ?_⟩
    rw [place_nil hb hbl h, h]
  · have hn : 0 < ss.length := List.length_pos_iff.2 h2
    refine ⟨ss, by rw [h]; exact rl_sl .no ss, h3, ⟨fun _ => h1, fun _ => by omega⟩, fun hb hbl => ?_⟩
    rw [place_sl hb hbl (by unfold lim2; omega) (by cases ss with | nil => exact (h2 rfl).elim | cons _ _ => rfl) h, h]
set_option maxHeartbeats 4000000 in
theorem plays_loop {h : Hp} {v : PV} {ops : List Op} (a : OpsArg v ops) (hlen : ops.length ≤ 60) : ∀ (r q : List Op) (H : Hp) (l : Lf), ops = q ++ r → RH h H l → Good l →
    P3_0 (size h) (size h) (i64 q.length) (.ptr (size h) 0) (.ptr (size h + 1) 0) v (i64 ops.length) H = some (.bool true, h)
  | [], q, H, l, hp, R, g => by
    rw [P3_0_eq]
    have e : q.length = ops.length := by rw [hp]; simp
    have h1 : ((q.length : Int) < (ops.length : Int)) = False := by simp; omega
    simp only [h1, R.tr, ↓evD, evU, Nat.reduceAdd, Nat.reduceSub, Nat.reduceMul, Nat.reduceLeDiff, Nat.reduceLT, Nat.reduceEqDiff, Nat.reduceBEq, reduceIte, reduceCtorEq, Int.reduceBEq, Int.reduceEq, Int.reduceLT, Int.reduceLE, Int.reduceGT, Int.reduceGE, Int.reduceAdd, Int.reduceSub, Int.reduceNeg, Int.reduceBNe, List.all_cons, List.all_nil, List.getElem?_cons_zero, List.getElem?_cons_succ, List.getElem?_nil, Option.map_some, List.length_cons, List.length_nil, List.set_cons_zero, List.set_cons_succ, List.map_cons, List.map_nil, List.drop_zero, List.drop_succ_cons, List.drop_nil, List.take_zero, List.take_succ_cons, List.take_nil, ite_true, ite_false, if_true, if_false, implies_true, forall_const, beq_self_eq_true, List.replicate_succ, List.replicate_zero, List.headD_cons, List.cons_append, List.nil_append, bne_self_eq_false]
  | o :: r, q, H, l, hp, R, g => by
    rw [P3_0_eq]
    have el : ops.length = q.length + (r.length + 1) := by rw [hp]; simp
    have h1 : ((q.length : Int) < (ops.length : Int)) = True := by simp; omega
    have hx := a.idx (i := q.length) (o := o) (by rw [hp]; simp)
    have w1 : IntKind.i64.wrap ((q.length : Int) + 1) = (((q ++ [o]).length : Nat) : Int) := by rw [show (q ++ [o]).length = q.length + 1 by simp, wrap_small] <;> omega
    have po := plV_pl o.place
    have hle := R.le
    have n1 : (size H < size h) = False := by simp; omega
    have n3 : (size h + 1 < size h) = False := by simp
    have hb1 : ∀ l', getBox (ext H l') (size h + 1) = some (bx l) := fun l' => by rw [getBox_ext_lt R.le]; exact R.b1
    obtain ⟨hsame, g'⟩ := do_same g o
    have hb0 : getBox (ext H [.cells (opC o)]) (size h) = some (bx l) := by rw [getBox_ext_lt (by omega)]; exact R.b0
    have hD := do_spec (base := size h) hb0 (by rw [size_ext]; omega) g.p o (by rw [hsame]; exact g'.p)
    rw [hsame] at hD
    have eb : ((doL l o).2 == (doL l o).2) = true := by simp
    rw [eb] at hD
    generalize (doL l o).1 = m at *
    obtain ⟨H2, hH2⟩ : ∃ H2, H2 = setBx (ext H [.cells (opC o)]) (size h) (.cells (bx m)) := ⟨_, rfl⟩
    rw [← hH2] at hD
    have sz2 : size H2 = size H + 1 := by rw [hH2, size_setBx, size_ext]; rfl
    have n2 : (size H2 < size h) = False := by simp; omega
    have t2 : trunc H2 (size h) = h := by rw [hH2, trunc_setge _ (Nat.le_refl _), trunc_ext_ge _ (by omega)]; exact R.tr
    have b20 : getBox H2 (size h) = some (bx m) := by rw [hH2]; exact getBox_set_same (by rw [size_ext]; omega)
    have b21 : getBox H2 (size h + 1) = some (bx l) := by rw [hH2, getBox_set_ne (by omega), getBox_ext_lt R.le]; exact R.b1
    have b21' : ∀ l', getBox (ext H2 l') (size h + 1) = some (bx l) := fun l' => by rw [getBox_ext_lt (by omega)]; exact b21
    obtain ⟨H3, hH3⟩ : ∃ H3, setBx (ext H2 [.cells (bx m)]) (size h + 1) (.cells (bx m)) = H3 := ⟨_, rfl⟩
    have R3 : RH h H3 m := by
      rw [← hH3]
      refine ⟨?_, ?_, ?_, ?_⟩
      · rw [trunc_setge _ (by omega), trunc_ext_ge _ (by omega)]; exact t2
      · rw [size_setBx, size_ext]; omega
      · rw [getBox_set_ne (by omega), getBox_ext_lt (by omega)]; exact b20
      · exact getBox_set_same (by rw [size_ext]; omega)
    have lt3 : size h < size H3 := by have := R3.le; omega
    obtain ⟨ss, rl, sl4, siff, hpl⟩ := g'.texts
    have pm := g'.p
    have hN := next_spec (base := size h) R3.b0 lt3
    have hNR := nextR_spec (h := H3) (base := size h) (l := m) pm
    have hSt := state_spec (base := size h) R3.b0 lt3
    have hPl := hpl (base := size h) R3.b0 lt3
    have hST := sameT_spec (base := size h) (h := H3) rl rl (by omega)
    have hln := rl.len
    have ih := plays_loop a hlen r (q ++ [o]) H3 m (by rw [hp]; simp) R3 g'
    have b31 := R3.b1
    have q1 : ∀ n : Int, (n != n) = false := by simp
    have q2 : ∀ b : Bool, (b != b) = false := by simp
    clear R3 hpl
    simp only [bx_eq, opC_eq, opV] at *
    by_cases c4 : m.st = 4
    · have e4 : (m.st == 4) = true := by simp [c4]
      have cl : ((ss.length : Int) > 0) = True := by simp only [eq_iff_iff, iff_true]; exact siff.2 (.inl c4)
      simp only [h1, hx, n1, n2, n3, po.sc, po.st, po.be, po.ce, hb1, hD, pm.sc, pm.st, pm.be, pm.ce, pm.fr, b21', hH3, hN, hNR, hSt, hPl, hST, hln, b31, q1, q2, e4, cl, w1, ih, decide_true, ↓evD, evU, Nat.reduceAdd, Nat.reduceSub, Nat.reduceMul, Nat.reduceLeDiff, Nat.reduceLT, Nat.reduceEqDiff, Nat.reduceBEq, reduceIte, reduceCtorEq, Int.reduceBEq, Int.reduceEq, Int.reduceLT, Int.reduceLE, Int.reduceGT, Int.reduceGE, Int.reduceAdd, Int.reduceSub, Int.reduceNeg, Int.reduceBNe, List.all_cons, List.all_nil, List.getElem?_cons_zero, List.getElem?_cons_succ, List.getElem?_nil, Option.map_some, List.length_cons, List.length_nil, List.set_cons_zero, List.set_cons_succ, List.map_cons, List.map_nil, List.drop_zero, List.drop_succ_cons, List.drop_nil, List.take_zero, List.take_succ_cons, List.take_nil, ite_true, ite_false, if_true, if_false, implies_true, forall_const, beq_self_eq_true, List.replicate_succ, List.replicate_zero, List.headD_cons, List.cons_append, List.nil_append, bne_self_eq_false]
    have e4 : (m.st == 4) = false := by simp [c4]
    by_cases c5 : m.st = 5
    · have e5 : (m.st == 5) = true := by simp [c5]
      have cl : ((ss.length : Int) > 0) = True := by simp only [eq_iff_iff, iff_true]; exact siff.2 (.inr (.inl c5))
      simp only [h1, hx, n1, n2, n3, po.sc, po.st, po.be, po.ce, hb1, hD, pm.sc, pm.st, pm.be, pm.ce, pm.fr, b21', hH3, hN, hNR, hSt, hPl, hST, hln, b31, q1, q2, e4, e5, cl, w1, ih, decide_true, ↓evD, evU, Nat.reduceAdd, Nat.reduceSub, Nat.reduceMul, Nat.reduceLeDiff, Nat.reduceLT, Nat.reduceEqDiff, Nat.reduceBEq, reduceIte, reduceCtorEq, Int.reduceBEq, Int.reduceEq, Int.reduceLT, Int.reduceLE, Int.reduceGT, Int.reduceGE, Int.reduceAdd, Int.reduceSub, Int.reduceNeg, Int.reduceBNe, List.all_cons, List.all_nil, List.getElem?_cons_zero, List.getElem?_cons_succ, List.getElem?_nil, Option.map_some, List.length_cons, List.length_nil, List.set_cons_zero, List.set_cons_succ, List.map_cons, List.map_nil, List.drop_zero, List.drop_succ_cons, List.drop_nil, List.take_zero, List.take_succ_cons, List.take_nil, ite_true, ite_false, if_true, if_false, implies_true, forall_const, beq_self_eq_true, List.replicate_succ, List.replicate_zero, List.headD_cons, List.cons_append, List.nil_append, bne_self_eq_false]
    have e5 : (m.st == 5) = false := by simp [c5]
    by_cases c6 : m.st = 6
    · have e6 : (m.st == 6) = true := by simp [c6]
      have cl : ((ss.length : Int) > 0) = True := by simp only [eq_iff_iff, iff_true]; exact siff.2 (.inr (.inr c6))
      simp only [h1, hx, n1, n2, n3, po.sc, po.st, po.be, po.ce, hb1, hD, pm.sc, pm.st, pm.be, pm.ce, pm.fr, b21', hH3, hN, hNR, hSt, hPl, hST, hln, b31, q1, q2, e4, e5, e6, cl, w1, ih, decide_true, ↓evD, evU, Nat.reduceAdd, Nat.reduceSub, Nat.reduceMul, Nat.reduceLeDiff, Nat.reduceLT, Nat.reduceEqDiff, Nat.reduceBEq, reduceIte, reduceCtorEq, Int.reduceBEq, Int.reduceEq, Int.reduceLT, Int.reduceLE, Int.reduceGT, Int.reduceGE, Int.reduceAdd, Int.reduceSub, Int.reduceNeg, Int.reduceBNe, List.all_cons, List.all_nil, List.getElem?_cons_zero, List.getElem?_cons_succ, List.getElem?_nil, Option.map_some, List.length_cons, List.length_nil, List.set_cons_zero, List.set_cons_succ, List.map_cons, List.map_nil, List.drop_zero, List.drop_succ_cons, List.drop_nil, List.take_zero, List.take_succ_cons, List.take_nil, ite_true, ite_false, if_true, if_false, implies_true, forall_const, beq_self_eq_true, List.replicate_succ, List.replicate_zero, List.headD_cons, List.cons_append, List.nil_append, bne_self_eq_false]
    · have e6 : (m.st == 6) = false := by simp [c6]
      have cl : ((ss.length : Int) > 0) = False := by simp only [eq_iff_iff, iff_false]; intro q; have := siff.1 q; omega
      simp only [h1, hx, n1, n2, n3, po.sc, po.st, po.be, po.ce, hb1, hD, pm.sc, pm.st, pm.be, pm.ce, pm.fr, b21', hH3, hN, hNR, hSt, hPl, hST, hln, b31, q1, q2, e4, e5, e6, cl, w1, ih, decide_false, ↓evD, evU, Nat.reduceAdd, Nat.reduceSub, Nat.reduceMul, Nat.reduceLeDiff, Nat.reduceLT, Nat.reduceEqDiff, Nat.reduceBEq, reduceIte, reduceCtorEq, Int.reduceBEq, Int.reduceEq, Int.reduceLT, Int.reduceLE, Int.reduceGT, Int.reduceGE, Int.reduceAdd, Int.reduceSub, Int.reduceNeg, Int.reduceBNe, List.all_cons, List.all_nil, List.getElem?_cons_zero, List.getElem?_cons_succ, List.getElem?_nil, Option.map_some, List.length_cons, List.length_nil, List.set_cons_zero, List.set_cons_succ, List.map_cons, List.map_nil, List.drop_zero, List.drop_succ_cons, List.drop_nil, List.take_zero, List.take_succ_cons, List.take_nil, ite_true, ite_false, if_true, if_false, implies_true, forall_const, beq_self_eq_true, List.replicate_succ, List.replicate_zero, List.headD_cons, List.cons_append, List.nil_append, bne_self_eq_false]
theorem good_new : Good ⟨0, false, 1, .nils, 0, 0⟩ := ⟨⟨by decide, by decide, by decide, by decide⟩, .inl ⟨rfl, (by decide : (0 : Int) ≠ 4 ∧ (0 : Int) ≠ 5 ∧ (0 : Int) ≠ 6)⟩⟩
theorem plays_at {h : Hp} (ha : CallA T (size h) 7 [] h = some (.bool true, h)) {v : PV} {ops : List Op} (a : OpsArg v ops) (hlen : ops.length ≤ 9223372036854775807) : CallA T 0 3 [v] h = some (.bool true, h) := by
  rw [S3]
  obtain ⟨b, hs, hb⟩ := small_spec (base := size h) (h := h) a hlen
  have hl := a.len
  cases b
  · simp only [ha, hs, ↓evD, evU, Nat.reduceAdd, Nat.reduceSub, Nat.reduceMul, Nat.reduceLeDiff, Nat.reduceLT, Nat.reduceEqDiff, Nat.reduceBEq, reduceIte, reduceCtorEq, Int.reduceBEq, Int.reduceEq, Int.reduceLT, Int.reduceLE, Int.reduceGT, Int.reduceGE, Int.reduceAdd, Int.reduceSub, Int.reduceNeg, Int.reduceBNe, List.all_cons, List.all_nil, List.getElem?_cons_zero, List.getElem?_cons_succ, List.getElem?_nil, Option.map_some, List.length_cons, List.length_nil, List.set_cons_zero, List.set_cons_succ, List.map_cons, List.map_nil, List.drop_zero, List.drop_succ_cons, List.drop_nil, List.take_zero, List.take_succ_cons, List.take_nil, ite_true, ite_false, if_true, if_false, implies_true, forall_const, beq_self_eq_true, List.replicate_succ, List.replicate_zero, List.headD_cons, List.cons_append, List.nil_append, bne_self_eq_false]
  · have hN := new_spec (h := h) (base := size h)
    have hR := fun base h => newR_spec (base := base) (h := h)
    have R : RH h (ext h [.cells (bx ⟨0, false, 1, .nils, 0, 0⟩), .cells (bx ⟨0, false, 1, .nils, 0, 0⟩)]) ⟨0, false, 1, .nils, 0, 0⟩ := by
      refine ⟨trunc_ext, by simp only [size_ext, List.length_cons, List.length_nil]; omega, ?_, ?_⟩
      · rw [getBox_ext_0]; rfl
      · rw [getBox_ext_n]; rfl
    have := plays_loop a (hb rfl) ops [] _ _ rfl R good_new
    simp only [bx_eq] at *
    simp only [ha, hs, hN, hR, hl, ↓evD, evU, Nat.reduceAdd, Nat.reduceSub, Nat.reduceMul, Nat.reduceLeDiff, Nat.reduceLT, Nat.reduceEqDiff, Nat.reduceBEq, reduceIte, reduceCtorEq, Int.reduceBEq, Int.reduceEq, Int.reduceLT, Int.reduceLE, Int.reduceGT, Int.reduceGE, Int.reduceAdd, Int.reduceSub, Int.reduceNeg, Int.reduceBNe, List.all_cons, List.all_nil, List.getElem?_cons_zero, List.getElem?_cons_succ, List.getElem?_nil, Option.map_some, List.length_cons, List.length_nil, List.set_cons_zero, List.set_cons_succ, List.map_cons, List.map_nil, List.drop_zero, List.drop_succ_cons, List.drop_nil, List.take_zero, List.take_succ_cons, List.take_nil, ite_true, ite_false, if_true, if_false, implies_true, forall_const, beq_self_eq_true, List.replicate_succ, List.replicate_zero, List.headD_cons, List.cons_append, List.nil_append, bne_self_eq_false]
    exact this
theorem plays_true {v : PV} {ops : List Op} (a : OpsArg v ops) (hlen : ops.length ≤ 9223372036854775807) : CallA T 0 3 [v] [] = some (.bool true, []) := plays_at alive_spec a hlen
end Go.Am.Ytlmfmjmpfcaliaa
namespace Go.Proofs.Ytlmfmjmpfcaliaa
open Go
set_option linter.unusedVariables false
def Facts (N0 : Nat) (w : World) : Prop := True
end Go.Proofs.Ytlmfmjmpfcaliaa
namespace Go.Am.Ytlmfmjmpfcaliaa
open Go.Proofs
set_option maxRecDepth 100000
def gl : Globs := []
theorem C_3 : (cFn Try.prog gl {} Try.f3).map (optF A3) = some F3 := by kernel_rfl
theorem C_7 : (cFn Try.prog gl {} Try.f7).map (optF A7) = some F7 := by kernel_rfl
theorem C_8 : (cFn Try.prog gl {} Try.f8).map (optF A8) = some F8 := by kernel_rfl
theorem C_9 : (cFn Try.prog gl { keep := true } Try.f9).map (optF A9) = some F9 := by kernel_rfl
theorem C_10 : (cFn Try.prog gl {} Try.f10).map (optF A10) = some F10 := by kernel_rfl
theorem C_11 : (cFn Try.prog gl {} Try.f11).map (optF A11) = some F11 := by kernel_rfl
theorem C_12 : (cFn Try.prog gl {} Try.f12).map (optF A12) = some F12 := by kernel_rfl
theorem C_13 : (cFn Try.prog gl {} Try.f13).map (optF A13) = some F13 := by kernel_rfl
theorem C_14 : (cFn Try.prog gl {} Try.f14).map (optF A14) = some F14 := by kernel_rfl
theorem C_15 : (cFn Try.prog gl {} Try.f15).map (optF A15) = some F15 := by kernel_rfl
theorem C_16 : (cFn Try.prog gl {} Try.f16).map (optF A16) = some F16 := by kernel_rfl
theorem C_17 : (cFn Try.prog gl {} Try.f17).map (optF A17) = some F17 := by kernel_rfl
theorem C_18 : (cFn Try.prog gl {} Try.f18).map (optF A18) = some F18 := by kernel_rfl
theorem C_19 : (cFn Try.prog gl {} Try.f19).map (optF A19) = some F19 := by kernel_rfl
theorem C_20 : (cFn Try.prog gl {} Try.f20).map (optF A20) = some F20 := by kernel_rfl
theorem C_21 : (cFn Try.prog gl {} Try.f21).map (optF A21) = some F21 := by kernel_rfl
theorem C_22 : (cFn Try.prog gl {} Try.f22).map (optF A22) = some F22 := by kernel_rfl
theorem C_23 : (cFn Try.prog gl {} Try.f23).map (optF A23) = some F23 := by kernel_rfl
theorem C_24 : (cFn Try.prog gl {} Try.f24).map (optF A24) = some F24 := by kernel_rfl
theorem C_25 : (cFn Try.prog gl {} Try.f25).map (optF A25) = some F25 := by kernel_rfl
theorem C_26 : (cFn Try.prog gl {} Try.f26).map (optF A26) = some F26 := by kernel_rfl
theorem C_27 : (cFn Try.prog gl {} Try.f27).map (optF A27) = some F27 := by kernel_rfl
theorem C_28 : (cFn Try.prog gl {} Try.f28).map (optF A28) = some F28 := by kernel_rfl
theorem C_29 : (cFn Try.prog gl {} Try.f29).map (optF A29) = some F29 := by kernel_rfl
theorem C_30 : (cFn Try.prog gl {} Try.f30).map (optF A30) = some F30 := by kernel_rfl
theorem C_31 : (cFn Try.prog gl {} Try.f31).map (optF A31) = some F31 := by kernel_rfl
theorem C_32 : (cFn Try.prog gl {} Try.f32).map (optF A32) = some F32 := by kernel_rfl
theorem C_33 : (cFn Try.prog gl {} Try.f33).map (optF A33) = some F33 := by kernel_rfl
theorem C_34 : (cFn Try.prog gl {} Try.f34).map (optF A34) = some F34 := by kernel_rfl
theorem C_35 : (cFn Try.prog gl {} Try.f35).map (optF A35) = some F35 := by kernel_rfl
theorem C_36 : (cFn Try.prog gl {} Try.f36).map (optF A36) = some F36 := by kernel_rfl
theorem C_37 : (cFn Try.prog gl {} Try.f37).map (optF A37) = some F37 := by kernel_rfl
theorem C_38 : (cFn Try.prog gl {} Try.f38).map (optF A38) = some F38 := by kernel_rfl
theorem C_39 : (cFn Try.prog gl {} Try.f39).map (optF A39) = some F39 := by kernel_rfl
theorem C_40 : (cFn Try.prog gl {} Try.f40).map (optF A40) = some F40 := by kernel_rfl
theorem C_41 : (cFn Try.prog gl {} Try.f41).map (optF A41) = some F41 := by kernel_rfl
theorem C_42 : (cFn Try.prog gl {} Try.f42).map (optF A42) = some F42 := by kernel_rfl
theorem C_43 : (cFn Try.prog gl {} Try.f43).map (optF A43) = some F43 := by kernel_rfl
theorem C_44 : (cFn Try.prog gl {} Try.f44).map (optF A44) = some F44 := by kernel_rfl
theorem C_45 : (cFn Try.prog gl {} Try.f45).map (optF A45) = some F45 := by kernel_rfl
theorem C_46 : (cFn Try.prog gl {} Try.f46).map (optF A46) = some F46 := by kernel_rfl
theorem C_47 : (cFn Try.prog gl {} Try.f47).map (optF A47) = some F47 := by kernel_rfl
theorem C_48 : (cFn Try.prog gl {} Try.f48).map (optF A48) = some F48 := by kernel_rfl
theorem tableOk : TableOk2 Try.prog gl Go.Proofs.Ytlmfmjmpfcaliaa.Facts T := by
  intro f it h
  unfold T at h
  split at h
  · cases h; exact ⟨A3, {}, Try.f3, Try.func3, C_3⟩
  · cases h; exact ⟨A7, {}, Try.f7, Try.func7, C_7⟩
  · cases h; exact ⟨A8, {}, Try.f8, Try.func8, C_8⟩
  · cases h; exact ⟨A9, { keep := true }, Try.f9, Try.func9, C_9⟩
  · cases h; exact ⟨A10, {}, Try.f10, Try.func10, C_10⟩
  · cases h; exact ⟨A11, {}, Try.f11, Try.func11, C_11⟩
  · cases h; exact ⟨A12, {}, Try.f12, Try.func12, C_12⟩
  · cases h; exact ⟨A13, {}, Try.f13, Try.func13, C_13⟩
  · cases h; exact ⟨A14, {}, Try.f14, Try.func14, C_14⟩
  · cases h; exact ⟨A15, {}, Try.f15, Try.func15, C_15⟩
  · cases h; exact ⟨A16, {}, Try.f16, Try.func16, C_16⟩
  · cases h; exact ⟨A17, {}, Try.f17, Try.func17, C_17⟩
  · cases h; exact ⟨A18, {}, Try.f18, Try.func18, C_18⟩
  · cases h; exact ⟨A19, {}, Try.f19, Try.func19, C_19⟩
  · cases h; exact ⟨A20, {}, Try.f20, Try.func20, C_20⟩
  · cases h; exact ⟨A21, {}, Try.f21, Try.func21, C_21⟩
  · cases h; exact ⟨A22, {}, Try.f22, Try.func22, C_22⟩
  · cases h; exact ⟨A23, {}, Try.f23, Try.func23, C_23⟩
  · cases h; exact ⟨A24, {}, Try.f24, Try.func24, C_24⟩
  · cases h; exact ⟨A25, {}, Try.f25, Try.func25, C_25⟩
  · cases h; exact ⟨A26, {}, Try.f26, Try.func26, C_26⟩
  · cases h; exact ⟨A27, {}, Try.f27, Try.func27, C_27⟩
  · cases h; exact ⟨A28, {}, Try.f28, Try.func28, C_28⟩
  · cases h; exact ⟨A29, {}, Try.f29, Try.func29, C_29⟩
  · cases h; exact ⟨A30, {}, Try.f30, Try.func30, C_30⟩
  · cases h; exact ⟨A31, {}, Try.f31, Try.func31, C_31⟩
  · cases h; exact ⟨A32, {}, Try.f32, Try.func32, C_32⟩
  · cases h; exact ⟨A33, {}, Try.f33, Try.func33, C_33⟩
  · cases h; exact ⟨A34, {}, Try.f34, Try.func34, C_34⟩
  · cases h; exact ⟨A35, {}, Try.f35, Try.func35, C_35⟩
  · cases h; exact ⟨A36, {}, Try.f36, Try.func36, C_36⟩
  · cases h; exact ⟨A37, {}, Try.f37, Try.func37, C_37⟩
  · cases h; exact ⟨A38, {}, Try.f38, Try.func38, C_38⟩
  · cases h; exact ⟨A39, {}, Try.f39, Try.func39, C_39⟩
  · cases h; exact ⟨A40, {}, Try.f40, Try.func40, C_40⟩
  · cases h; exact ⟨A41, {}, Try.f41, Try.func41, C_41⟩
  · cases h; exact ⟨A42, {}, Try.f42, Try.func42, C_42⟩
  · cases h; exact ⟨A43, {}, Try.f43, Try.func43, C_43⟩
  · cases h; exact ⟨A44, {}, Try.f44, Try.func44, C_44⟩
  · cases h; exact ⟨A45, {}, Try.f45, Try.func45, C_45⟩
  · cases h; exact ⟨A46, {}, Try.f46, Try.func46, C_46⟩
  · cases h; exact ⟨A47, {}, Try.f47, Try.func47, C_47⟩
  · cases h; exact ⟨A48, {}, Try.f48, Try.func48, C_48⟩
  · cases h
end Go.Am.Ytlmfmjmpfcaliaa
namespace Go.Am
set_option linter.unusedVariables false

def rowV (P : Program) (e : TypeId) (r : List PV) : PV :=
  match P.underlying e with
  | some (.struct _) => .agg r
  | _ => r.headD .undef

/-- The cells of a value of a type made of bools, whole numbers, texts, structs and slices of such. -/
inductive Sh (P : Program) : TypeId → List PV → Prop where
  | bool {t} (b : Bool) (ht : P.underlying t = some .bool) : Sh P t [.bool b]
  | int {t} (k : IntKind) (n : Int) (ht : P.underlying t = some (.int k)) (hn : (Lit.int k n).wf = true) : Sh P t [.int k n]
  | str {t} (l : List UInt8) (ht : P.underlying t = some .string) (hl : l.length ≤ reachBytes) : Sh P t [.str l]
  | nils {t e} (ht : P.underlying t = some (.slice e)) : Sh P t [.nils]
  | sl {t e} (rows : List (List PV)) (ht : P.underlying t = some (.slice e)) (hr : ∀ r ∈ rows, Sh P e r) (hl : ∀ r ∈ rows, r.length = P.cellsOf e) (hn : rows.length ≤ maxLen) (hb : rows.length * P.bytesOf e ≤ reachBytes) : Sh P t [.sl .no (P.cellsOf e) (rows.map (rowV P e))]
  | struct {t} (fs : Array Field) (cs : List PV) (ht : P.underlying t = some (.struct fs)) (hn : cs.length = P.cellsOf t)
      (hf : ∀ (i : Nat) (f : Field), fs[i]? = some f → Sh P f.type ((cs.drop f.offset).take (P.cellsOf f.type))) : Sh P t cs

theorem Sh.row {P : Program} {e : TypeId} {r : List PV} (h : Sh P e r) : (rowV P e r).cells = r := by
  cases h with
  | bool b ht => simp [rowV, ht, PV.cells]
  | int k n ht => simp [rowV, ht, PV.cells]
  | str l ht => simp [rowV, ht, PV.cells]
  | nils ht => simp [rowV, ht, PV.cells]
  | sl rows ht => simp [rowV, ht, PV.cells]
  | struct fs cs ht => simp [rowV, ht, PV.cells]

/-- Do a struct's fields lie one behind the other? -/
def tiles (P : Program) : Nat → List Field → Nat → Bool
  | off, [], tot => off == tot
  | off, f :: r, tot => f.offset == off && tiles P (off + P.cellsOf f.type) r tot
theorem tiles_le {P : Program} : ∀ (fl : List Field) (off tot : Nat), tiles P off fl tot = true → off ≤ tot
  | [], off, tot, h => by simp [tiles] at h; omega
  | f :: r, off, tot, h => by
    simp only [tiles, Bool.and_eq_true] at h
    have := tiles_le r _ _ h.2
    omega
/-- Is a type made of these alone? -/
def plainT (P : Program) : Nat → TypeId → Bool
  | 0, _ => false
  | n + 1, t => match P.underlying t with
    | some .bool | some (.int _) | some .string => true
    | some (.slice e) => decide (0 < P.cellsOf e) && plainT P n e
    | some (.struct fs) => tiles P 0 fs.toList (P.cellsOf t) && fs.toList.all fun f => plainT P n f.type
    | _ => false

theorem exists_rows {α : Type} (Q : Nat → α → Prop) : ∀ n, (∀ i, i < n → ∃ r, Q i r) → ∃ rows : List α, rows.length = n ∧ ∀ (i : Nat) r, rows[i]? = some r → Q i r
  | 0, _ => ⟨[], rfl, fun i r h => by simp at h⟩
  | n + 1, h => by
    obtain ⟨rows, h1, h2⟩ := exists_rows Q n (fun i hi => h i (by omega))
    obtain ⟨r, hr⟩ := h n (by omega)
    refine ⟨rows ++ [r], by simp [h1], fun i r' hi => ?_⟩
    by_cases hin : i < n
    · rw [List.getElem?_append_left (by omega)] at hi; exact h2 i r' hi
    · have hlt := (List.getElem?_eq_some_iff.1 hi).1
      simp at hlt
      have : i = n := by omega
      subst this
      rw [List.getElem?_append_right (by omega), h1] at hi
      simp at hi
      subst hi
      exact hr

theorem cell_spot {w : World} {b o : Nat} {sp : Option Nat} {u : Value} (h : w.cell? ⟨b, o, sp⟩ = some u) : sp = none := by
  unfold World.cell? at h
  split at h
  · rename_i c _ _ hq
    cases sp with
    | none => rfl
    | some s => simp at h
  · cases h

theorem weights_all {H : Type} {P : Program} {e : TypeId} : ∀ {l : List (DataW H)} {d : DataW H}, d ∈ l → ∀ n ∈ d.weights P e, n ∈ DataW.weightsAll P e l
  | d0 :: l, d, hd, n, hn => by
    simp only [DataW.weightsAll, List.mem_append]
    simp only [List.mem_cons] at hd
    rcases hd with rfl | hd
    · exact .inl hn
    · exact .inr (weights_all hd n hn)
theorem open_fields {P : Program} {cs : List Value} {R : PV → Value → Prop} : ∀ (fl : List Field) (off : Nat), tiles P off fl cs.length = true →
    (∀ f ∈ fl, ∃ v : List PV, v.length = ((cs.drop f.offset).take (P.cellsOf f.type)).length ∧ (∀ (j : Nat) x, v[j]? = some x → ∃ u, ((cs.drop f.offset).take (P.cellsOf f.type))[j]? = some u ∧ R x u) ∧ Sh P f.type v) →
    ∃ vs : List PV, off + vs.length = cs.length ∧ (∀ (j : Nat) x, vs[j]? = some x → ∃ u, cs[off + j]? = some u ∧ R x u) ∧ ∀ f ∈ fl, off ≤ f.offset ∧ Sh P f.type ((vs.drop (f.offset - off)).take (P.cellsOf f.type))
  | [], off, ht, h => by
    simp [tiles] at ht
    exact ⟨[], by simp [ht], fun j x hx => by simp at hx, fun f hf => by simp at hf⟩
  | f :: fl, off, ht, h => by
    simp only [tiles, Bool.and_eq_true, beq_iff_eq] at ht
    obtain ⟨rfl, ht⟩ := ht
    have hle := tiles_le _ _ _ ht
    obtain ⟨v, h1, h2, h3⟩ := h f (by simp)
    have hv : v.length = P.cellsOf f.type := by rw [h1]; simp; omega
    obtain ⟨vs, q1, q2, q3⟩ := open_fields fl _ ht (fun f' hf' => h f' (by simp [hf']))
    refine ⟨v ++ vs, by simp; omega, fun j x hx => ?_, fun f' hf' => ?_⟩
    · by_cases hj : j < v.length
      · rw [List.getElem?_append_left hj] at hx
        obtain ⟨u, hu, hr⟩ := h2 j x hx
        refine ⟨u, ?_, hr⟩
        rw [List.getElem?_take, if_pos (by omega), List.getElem?_drop] at hu
        exact hu
      · rw [List.getElem?_append_right (by omega)] at hx
        obtain ⟨u, hu, hr⟩ := q2 _ x hx
        refine ⟨u, ?_, hr⟩
        rw [← hu]; congr 1; omega
    · simp only [List.mem_cons] at hf'
      rcases hf' with rfl | hf'
      · refine ⟨Nat.le_refl _, ?_⟩
        rw [Nat.sub_self, List.drop_zero, List.take_append_of_le_length (by omega), ← hv, List.take_length]
        exact h3
      · obtain ⟨r1, r2⟩ := q3 f' hf'
        refine ⟨by omega, ?_⟩
        rw [List.drop_append, List.drop_eq_nil_of_le (by omega), List.nil_append, show f'.offset - f.offset - v.length = f'.offset - (f.offset + P.cellsOf f.type) by omega]
        exact r2

theorem open_cells {H : Type} {enc : TypeId × Value → H} {P : Program} {w : World} {spare : Nat → Bool} {held : Bool} {g : G} : ∀ (n m : Nat) (t : TypeId) (cs : List Value) (x : DataW H × List MemPlace),
    DataW.trod enc P w 0 spare held n t cs = some x → plainT P m t = true → (∀ k ∈ x.1.weights P t, k ≤ reachBytes) →
    ∃ vs : List PV, vs.length = cs.length ∧ (∀ (j : Nat) v, vs[j]? = some v → ∃ u, cs[j]? = some u ∧ RV w.heap.size g w v u) ∧ Sh P t vs
  | 0, m, t, cs, x, h, hp, hwt => by simp [DataW.trod] at h
  | n + 1, 0, t, cs, x, h, hp, hwt => by simp [plainT] at hp
  | n + 1, m + 1, t, cs, x, h, hp, hwt => by
    rw [plainT] at hp
    split at hp
    · rename_i ht
      obtain ⟨b, rfl, _⟩ := DataW.trod_bool ht h
      refine ⟨[.bool b], rfl, fun j v hv => ?_, .bool b ht⟩
      cases j with
      | zero => simp at hv; subst hv; exact ⟨_, rfl, .bool b⟩
      | succ j => simp at hv
    · rename_i k ht
      obtain ⟨z, rfl, _, hwf⟩ := DataW.trod_int ht h
      refine ⟨[.int k z], rfl, fun j v hv => ?_, .int k z ht hwf⟩
      cases j with
      | zero => simp at hv; subst hv; exact ⟨_, rfl, .int k z⟩
      | succ j => simp at hv
    · rename_i ht
      obtain ⟨s, rfl, rfl, hs⟩ := DataW.trod_string ht h
      refine ⟨[.str s.data.toList], rfl, fun j v hv => ?_, .str _ ht (hwt _ (by simp [DataW.weights]))⟩
      cases j with
      | zero => simp at hv; subst hv; exact ⟨_, rfl, .str _ s rfl⟩
      | succ j => simp at hv
    · rename_i e ht
      simp only [Bool.and_eq_true, decide_eq_true_eq] at hp
      rcases DataW.trod_slice ht h with ⟨rfl, _⟩ | ⟨a, len, cap, elems, rest, n', hn', rfl, rfl, _, hlc, hcm, hel, helems, _, _⟩
      · refine ⟨[.nils], rfl, fun j v hv => ?_, .nils ht⟩
        cases j with
        | zero => simp at hv; subst hv; exact ⟨_, rfl, .nils⟩
        | succ j => simp at hv
      · obtain rfl : n' = n := by omega
        have hq : ∀ i, i < len → ∃ r : List PV, r.length = P.cellsOf e ∧ Sh P e r ∧ ∀ (j : Nat) v, r[j]? = some v → ∃ u, w.cell? ((a.add (i * P.cellsOf e)).add j) = some u ∧ RV w.heap.size g w v u := by
          intro i hi
          have hlt : i < elems.length := by omega
          have hei := helems i hi
          rw [List.getElem?_eq_getElem hlt, Option.bind_eq_some_iff] at hei
          obtain ⟨ci, hci, hti⟩ := hei
          obtain ⟨_, hlen, hcell⟩ := World.cells?_some hci
          obtain ⟨r, h1, h2, h3⟩ := open_cells n' m e ci _ hti hp.2 (fun k hk => hwt k (by
            simp only [DataW.weights, ht, List.mem_cons, List.mem_append]
            exact .inr (.inl (weights_all (List.mem_map.2 ⟨_, List.getElem_mem hlt, rfl⟩) k hk))))
          refine ⟨r, by rw [h1, hlen], h3, fun j v hv => ?_⟩
          obtain ⟨u, hu, hr⟩ := h2 j v hv
          have hj : j < P.cellsOf e := by rw [← hlen, ← h1]; exact (List.getElem?_eq_some_iff.1 hv).1
          exact ⟨u, by rw [hcell j hj]; exact hu, hr⟩
        obtain ⟨rows, hrl, hrq⟩ := exists_rows _ len hq
        have hmem : ∀ r ∈ rows, ∃ i, rows[i]? = some r := fun r hr => List.mem_iff_getElem?.1 hr
        have hcl : ∀ (i j : Nat) (r : List PV) (v : PV), rows[i]? = some r → r[j]? = some v → ∃ u, w.cell? ⟨a.block, a.off + (i * P.cellsOf e + j), none⟩ = some u ∧ RV w.heap.size g w v u := by
          intro i j r v hi hj
          obtain ⟨u, hu, hr⟩ := (hrq i r hi).2.2 j v hj
          refine ⟨u, ?_, hr⟩
          have hsp : (a.add (i * P.cellsOf e)).add j = ⟨a.block, a.off + (i * P.cellsOf e + j), ((a.add (i * P.cellsOf e)).add j).spot⟩ := by
            unfold Addr.add
            split <;> split <;> simp_all <;> omega
          rw [hsp] at hu
          have := cell_spot hu
          rw [this] at hu
          exact hu
        have hspot : rows ≠ [] → a.spot = none := by
          intro hne
          obtain ⟨r, hr0⟩ : ∃ r, rows[0]? = some r := by
            cases rows with
            | nil => exact (hne rfl).elim
            | cons r _ => exact ⟨r, rfl⟩
          obtain ⟨q1, _, q3⟩ := hrq 0 r hr0
          obtain ⟨v, hv⟩ : ∃ v, r[0]? = some v := ⟨_, List.getElem?_eq_getElem (by omega)⟩
          obtain ⟨u, hu, _⟩ := q3 0 v hv
          simp only [Nat.zero_mul, Addr.add, if_true] at hu
          exact cell_spot (b := a.block) (o := a.off) hu
        refine ⟨[.sl .no (P.cellsOf e) (rows.map (rowV P e))], rfl, fun j v hv => ?_, .sl rows ht (fun r hr => ?_) (fun r hr => ?_) (by omega) ?_⟩
        · cases j with
          | succ j => simp at hv
          | zero =>
            simp at hv
            subst hv
            refine ⟨_, rfl, ?_⟩
            have hrow : ∀ (i : Nat) (z : PV), (rows.map (rowV P e))[i]? = some z → ∃ r, rows[i]? = some r ∧ z.cells = r := by
              intro i z hz
              rw [List.getElem?_map, Option.map_eq_some_iff] at hz
              obtain ⟨r, hr, rfl⟩ := hz
              exact ⟨r, hr, (hrq i r hr).2.1.row⟩
            have := RV.sl (N0 := w.heap.size) (g := g) (w := w) .no (P.cellsOf e) (rows.map (rowV P e)) a.block a.off cap (fun i j => (w.cell? ⟨a.block, a.off + (i * P.cellsOf e + j), none⟩).getD Go.undef)
              (by simp; omega) (by simp) ?_ ?_ ?_ ?_ a.spot (fun hne => hspot (by simpa using hne)) (by simp)
            · simpa [hrl] using this
            · intro i z hz
              obtain ⟨r, hr, hc⟩ := hrow i z hz
              rw [hc]; exact (hrq i r hr).1
            · intro i j hi hj
              simp at hi
              obtain ⟨r, hr⟩ : ∃ r, rows[i]? = some r := ⟨_, List.getElem?_eq_getElem hi⟩
              obtain ⟨v, hv⟩ : ∃ v, r[j]? = some v := ⟨_, List.getElem?_eq_getElem (by rw [(hrq i r hr).1]; exact hj)⟩
              obtain ⟨u, hu, _⟩ := hcl i j r v hr hv
              rw [hu]; rfl
            · intro i j z y hz hy
              obtain ⟨r, hr, hc⟩ := hrow i z hz
              rw [hc] at hy
              obtain ⟨u, hu, hru⟩ := hcl i j r y hr hy
              rw [hu]; exact hru
            · intro hne
              refine .inl ?_
              obtain ⟨r, hr0⟩ : ∃ r, rows[0]? = some r := by
                cases rows with
                | nil => exact (hne rfl).elim
                | cons r _ => exact ⟨r, rfl⟩
              obtain ⟨v, hv⟩ : ∃ v, r[0]? = some v := ⟨_, List.getElem?_eq_getElem (by rw [(hrq 0 r hr0).1]; exact hp.1)⟩
              obtain ⟨u, hu, _⟩ := hcl 0 0 r v hr0 hv
              exact World.block_lt_of_cell? w ⟨a.block, _, none⟩ hu
        · obtain ⟨i, hi⟩ := hmem r hr; exact (hrq i r hi).2.1
        · obtain ⟨i, hi⟩ := hmem r hr; exact (hrq i r hi).1
        · have := hwt _ (by simp only [DataW.weights, ht]; exact List.mem_cons_self)
          simp only [List.length_map] at this
          refine Nat.le_trans (Nat.mul_le_mul_right _ ?_) this
          omega
    · rename_i fs ht
      simp only [Bool.and_eq_true, List.all_eq_true] at hp
      obtain ⟨xs, n', hn', rfl, hlen, hxl, hx⟩ := DataW.trod_struct ht h
      obtain rfl : n' = n := by omega
      obtain ⟨vs, q1, q2, q3⟩ := open_fields (P := P) (cs := cs) (R := fun v u => RV w.heap.size g w v u) fs.toList 0 (by rw [hlen]; exact hp.1) (fun f hf => by
        obtain ⟨i, hi⟩ := List.mem_iff_getElem?.1 hf
        have hi' : fs[i]? = some f := by simpa using hi
        have hlt : i < xs.length := by rw [hxl]; exact (Array.getElem?_eq_some_iff.1 hi').1
        have := hx i f hi'
        rw [List.getElem?_eq_getElem hlt] at this
        exact open_cells n' m f.type _ _ this (hp.2 f hf) fun k hk => hwt k (by
          simp only [DataW.weights, ht]
          exact DataW.weights_mem_each (j := i) (t := f.type) (d := xs[i].1) (by rw [List.getElem?_map, hi]; rfl) (by rw [List.getElem?_map, List.getElem?_eq_getElem hlt]; rfl) k hk))
      refine ⟨vs, by omega, fun j v hv => by simpa using q2 j v hv, .struct fs vs ht (by omega) fun i f hf => ?_⟩
      have := (q3 f (List.mem_iff_getElem?.2 ⟨i, by simpa using hf⟩)).2
      simpa using this
    · cases hp

/-- An argument of one cell. -/
theorem open_arg {H : Type} {enc : TypeId × Value → H} {P : Program} {w : World} {spare : Nat → Bool} {held : Bool} {g : G} {t : TypeId} {v : Value} {d : DataW H} {ps : List MemPlace}
    (h : DataW.Trod enc P w 0 spare held t v d ps) (hv : v.cells.toList = [v]) (m : Nat) (hp : plainT P m t = true) (hwt : ∀ k ∈ d.weights P t, k ≤ reachBytes) : ∃ x, RV w.heap.size g w x v ∧ Sh P t [x] := by
  obtain ⟨fuel, h⟩ := h
  obtain ⟨vs, h1, h2, h3⟩ := open_cells (g := g) fuel m t _ _ h hp hwt
  rw [hv] at h1 h2
  cases vs with
  | nil => simp at h1
  | cons x r =>
    cases r with
    | cons y r => simp at h1
    | nil =>
      obtain ⟨u, hu, hr⟩ := h2 0 x rfl
      simp at hu
      subst hu
      exact ⟨x, hr, h3⟩

section
variable {P : Program} {t : TypeId} {cs : List PV}
theorem Sh.inv_bool (ht : P.underlying t = some .bool) (h : Sh P t cs) : ∃ b, cs = [.bool b] := by
  cases h with
  | bool b => exact ⟨b, rfl⟩
  | int k n h => rw [ht] at h; cases h
  | str l h => rw [ht] at h; cases h
  | nils h => rw [ht] at h; cases h
  | sl rows h => rw [ht] at h; cases h
  | struct fs cs h => rw [ht] at h; cases h
theorem Sh.inv_int {k : IntKind} (ht : P.underlying t = some (.int k)) (h : Sh P t cs) : ∃ n, cs = [.int k n] ∧ (Lit.int k n).wf = true := by
  cases h with
  | bool b h => rw [ht] at h; cases h
  | int k' n h hn => rw [ht] at h; cases h; exact ⟨n, rfl, hn⟩
  | str l h => rw [ht] at h; cases h
  | nils h => rw [ht] at h; cases h
  | sl rows h => rw [ht] at h; cases h
  | struct fs cs h => rw [ht] at h; cases h
theorem Sh.inv_str (ht : P.underlying t = some .string) (h : Sh P t cs) : ∃ l, cs = [.str l] ∧ l.length ≤ reachBytes := by
  cases h with
  | bool b h => rw [ht] at h; cases h
  | int k n h => rw [ht] at h; cases h
  | str l h hl => exact ⟨l, rfl, hl⟩
  | nils h => rw [ht] at h; cases h
  | sl rows h => rw [ht] at h; cases h
  | struct fs cs h => rw [ht] at h; cases h
theorem Sh.inv_slice {e : TypeId} (ht : P.underlying t = some (.slice e)) (h : Sh P t cs) :
    cs = [.nils] ∨ ∃ rows : List (List PV), cs = [.sl .no (P.cellsOf e) (rows.map (rowV P e))] ∧ (∀ r ∈ rows, Sh P e r ∧ r.length = P.cellsOf e) ∧ rows.length ≤ maxLen ∧ rows.length * P.bytesOf e ≤ reachBytes := by
  cases h with
  | bool b h => rw [ht] at h; cases h
  | int k n h => rw [ht] at h; cases h
  | str l h => rw [ht] at h; cases h
  | nils h => exact .inl rfl
  | sl rows h hr hl hn hb => rw [ht] at h; cases h; exact .inr ⟨rows, rfl, fun r hm => ⟨hr r hm, hl r hm⟩, hn, hb⟩
  | struct fs cs h => rw [ht] at h; cases h
theorem Sh.inv_struct {fs : Array Field} (ht : P.underlying t = some (.struct fs)) (h : Sh P t cs) :
    cs.length = P.cellsOf t ∧ ∀ (i : Nat) (f : Field), fs[i]? = some f → Sh P f.type ((cs.drop f.offset).take (P.cellsOf f.type)) := by
  cases h with
  | bool b h => rw [ht] at h; cases h
  | int k n h => rw [ht] at h; cases h
  | str l h => rw [ht] at h; cases h
  | nils h => rw [ht] at h; cases h
  | sl rows h => rw [ht] at h; cases h
  | struct fs' cs h hn hf => rw [ht] at h; cases h; exact ⟨hn, hf⟩
theorem rowV_struct {fs : Array Field} (ht : P.underlying t = some (.struct fs)) (r : List PV) : rowV P t r = .agg r := by simp [rowV, ht]
theorem rowV_str (ht : P.underlying t = some .string) (r : List PV) : rowV P t r = r.headD .undef := by simp [rowV, ht]
theorem rowV_int {k : IntKind} (ht : P.underlying t = some (.int k)) (r : List PV) : rowV P t r = r.headD .undef := by simp [rowV, ht]
/-- All of a list come of values: the values. -/
theorem exists_map {α β : Type} (f : α → β) (Q : α → Prop) : ∀ l : List β, (∀ x ∈ l, ∃ a, x = f a ∧ Q a) → ∃ qs : List α, l = qs.map f ∧ ∀ a ∈ qs, Q a
  | [], _ => ⟨[], rfl, fun a h => by simp at h⟩
  | x :: l, h => by
    obtain ⟨qs, rfl, h2⟩ := exists_map f Q l (fun y hy => h y (by simp [hy]))
    obtain ⟨a, rfl, ha⟩ := h x (by simp)
    exact ⟨a :: qs, rfl, fun b hb => by
      simp at hb
      rcases hb with rfl | hb
      · exact ha
      · exact h2 b hb⟩
end
end Go.Am
namespace Go.Am.Ytlmfmjmpfcaliaa
open Go.Proofs
set_option linter.unusedSimpArgs false
set_option linter.unusedVariables false
open Go.Proofs
set_option maxRecDepth 100000
set_option linter.unusedVariables false
set_option linter.unusedSimpArgs false
theorem sh_strs {cs : List PV} (h : Sh Try.prog 27 cs) : ∃ p, cs = [plV p] ∧ ∀ l ∈ pls p, l.length ≤ reachBytes := by
  have c9 : Try.prog.cellsOf 9 = 1 := by kernel_rfl
  rcases Sh.inv_slice Try.underlying27 h with rfl | ⟨rows, rfl, hr, _⟩
  · exact ⟨none, rfl, fun l hl => by simp [pls] at hl⟩
  · obtain ⟨ss, hs, hq⟩ := exists_map (fun l : List UInt8 => [PV.str l]) (fun l => l.length ≤ reachBytes) rows (fun r hm => by
      obtain ⟨l, hl, hb⟩ := Sh.inv_str Try.underlying9 (hr r hm).1
      exact ⟨l, hl, hb⟩)
    refine ⟨some ss, ?_, hq⟩
    subst hs
    rw [c9]
    show _ = [PV.sl .no 1 (ss.map .str)]
    rw [List.map_map]
    have : (rowV Try.prog 9 ∘ fun l : List UInt8 => [PV.str l]) = PV.str := by
      funext l
      exact rowV_str Try.underlying9 _
    rw [this]
theorem one_of_take {cs : List PV} {i : Nat} {x : PV} (h : (cs.drop i).take 1 = [x]) : cs[i]? = some x := by
  have : ((cs.drop i).take 1)[0]? = some x := by rw [h]; rfl
  simpa using this
theorem sh_op {cs : List PV} (h : Sh Try.prog 32 cs) : ∃ o, cs = opC o := by
  have c32 : Try.prog.cellsOf 32 = 6 := by kernel_rfl
  have c3 : Try.prog.cellsOf 3 = 1 := by kernel_rfl
  have c4 : Try.prog.cellsOf 4 = 1 := by kernel_rfl
  have c2 : Try.prog.cellsOf 2 = 1 := by kernel_rfl
  have c27 : Try.prog.cellsOf 27 = 1 := by kernel_rfl
  obtain ⟨hl, hf⟩ := Sh.inv_struct Try.underlying32 h
  rw [c32] at hl
  obtain ⟨n0, e0, _⟩ := Sh.inv_int Try.underlying3 (show Sh Try.prog 3 ((cs.drop 0).take (Try.prog.cellsOf 3)) from hf 0 _ rfl)
  obtain ⟨n1, e1, _⟩ := Sh.inv_int Try.underlying3 (show Sh Try.prog 3 ((cs.drop 1).take (Try.prog.cellsOf 3)) from hf 1 _ rfl)
  obtain ⟨b2, e2⟩ := Sh.inv_bool Try.underlying4 (show Sh Try.prog 4 ((cs.drop 2).take (Try.prog.cellsOf 4)) from hf 2 _ rfl)
  obtain ⟨n3, e3, _⟩ := Sh.inv_int Try.underlying2 (show Sh Try.prog 2 ((cs.drop 3).take (Try.prog.cellsOf 2)) from hf 3 _ rfl)
  obtain ⟨n4, e4, _⟩ := Sh.inv_int Try.underlying2 (show Sh Try.prog 2 ((cs.drop 4).take (Try.prog.cellsOf 2)) from hf 4 _ rfl)
  obtain ⟨p5, e5, _⟩ := sh_strs (show Sh Try.prog 27 ((cs.drop 5).take (Try.prog.cellsOf 27)) from hf 5 _ rfl)
  rw [c3] at e0 e1
  rw [c4] at e2
  rw [c2] at e3 e4
  rw [c27] at e5
  refine ⟨⟨n0, n1, b2, n3, n4, p5⟩, ?_⟩
  have g0 := one_of_take e0
  have g1 := one_of_take e1
  have g2 := one_of_take e2
  have g3 := one_of_take e3
  have g4 := one_of_take e4
  have g5 := one_of_take e5
  apply List.ext_getElem?
  intro i
  rcases Nat.lt_or_ge i 6 with hi | hi
  · obtain rfl | rfl | rfl | rfl | rfl | rfl : i = 0 ∨ i = 1 ∨ i = 2 ∨ i = 3 ∨ i = 4 ∨ i = 5 := by omega
    · exact g0
    · exact g1
    · exact g2
    · exact g3
    · exact g4
    · exact g5
  · rw [List.getElem?_eq_none (by omega), List.getElem?_eq_none (by simp [opC]; omega)]
theorem sh_ops {x : PV} (h : Sh Try.prog 22 [x]) : ∃ ops, OpsArg x ops ∧ ops.length ≤ maxLen := by
  have c32 : Try.prog.cellsOf 32 = 6 := by kernel_rfl
  rcases Sh.inv_slice Try.underlying22 h with hx | ⟨rows, hx, hr, hn, _⟩
  · cases hx
    exact ⟨[], .nil, Nat.zero_le _⟩
  · obtain ⟨ops, hs, _⟩ := exists_map opC (fun _ => True) rows (fun r hm => by
      obtain ⟨o, ho⟩ := sh_op (hr r hm).1
      exact ⟨o, ho, trivial⟩)
    subst hs
    cases hx
    refine ⟨ops, ?_, by simpa using hn⟩
    rw [c32, List.map_map]
    have : (rowV Try.prog 32 ∘ opC) = opV := by
      funext o
      show rowV Try.prog 32 (opC o) = opV o
      rw [rowV_struct Try.underlying32]
      rfl
    rw [this]
    exact .sl ops
end Go.Am.Ytlmfmjmpfcaliaa
