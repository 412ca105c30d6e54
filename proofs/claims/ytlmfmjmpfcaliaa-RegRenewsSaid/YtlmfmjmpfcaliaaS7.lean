/- Plain facts about a life: what each step keeps, what Pass wants ahead of the next time and at it. By the session's AI agent. -/
import Derived.Test.YtlmfmjmpfcaliaaS6
namespace Go.Am.Ytlmfmjmpfcaliaa
set_option linter.unusedSimpArgs false
/-! The plain law. -/
def MAX : Int := 1099511627776
theorem minI_le (x y : Int) : minI x y ≤ y := by unfold minI; split <;> omega
theorem passL_now (l : Lf) (n : Int) (h : l.now ≤ n) : (passL l n).now ≤ n := by
  simp only [passL, minI, maxI]; repeat' split
  all_goals omega
theorem passL_at (l : Lf) (n : Int) (h : l.now ≤ n) (hn : n ≤ MAX) : passL l n = { l with now := n } := by
  have : minI (maxI n l.now) 1099511627776 = n := by
    simp only [minI, maxI, MAX] at *; repeat' split
    all_goals omega
  simp only [passL, this]
theorem waitL_next (l : Lf) (s t : Int) : (waitL l s t).next ≤ MAX := minI_le _ _
/-- What each step keeps: the time is not ahead of the law's, the next time is not past the greatest. -/
def Inv (l : Lf) (now : Int) : Prop := l.now ≤ now ∧ l.next ≤ MAX
theorem inv_pass {l : Lf} {n : Int} (h : Inv l n) : Inv (passL l n) n := ⟨passL_now l n h.1, h.2⟩
theorem inv_wait {l : Lf} {n s t : Int} (h : l.now ≤ n) : Inv (waitL l s t) n := ⟨h, waitL_next l s t⟩
theorem inv_begin {l : Lf} {n : Int} (h : Inv l n) : Inv (beginL l).1 n := by unfold beginL; split <;> exact h
theorem inv_renewed {l : Lf} {n c : Int} (h : Inv l n) : Inv (renewedL l c).1 n := by
  unfold renewedL; split
  · exact inv_wait h.1
  · split
    · exact h
    · exact inv_wait h.1
theorem Inv.mono {l : Lf} {n m : Int} (h : Inv l n) (hm : n ≤ m) : Inv l m := ⟨by have := h.1; omega, h.2⟩
theorem inv_passP {l : Lf} {n : Int} (h0 : Inv l n) : Inv (passP l n).1 n := by
  have h := inv_pass h0
  unfold passP
  generalize passL l n = k at *
  dsimp only
  repeat' split
  · exact h
  · exact h
  · exact inv_wait h.1
  · exact h
  · exact inv_begin h
theorem inv_lost {l : Lf} {n : Int} (h0 : Inv l n) : Inv (lostL l n) n := by
  have h := inv_pass h0
  unfold lostL
  generalize passL l n = k at *
  dsimp only
  repeat' split
  · exact inv_wait h.1
  · exact inv_wait h.1
  · exact inv_wait h.1
  · exact h
  · exact h
theorem inv_answer {l : Lf} {n c : Int} {ss} (h0 : Inv l n) : Inv (answerL l c ss n).1 n := by
  have h := inv_pass h0
  unfold answerL
  generalize passL l n = k at *
  dsimp only
  repeat' split
  · exact inv_wait h.1
  · exact inv_wait h.1
  · show Inv (joinedAtL k c ss) n
    unfold joinedAtL
    split
    · exact inv_wait h.1
    · exact inv_wait h.1
  · exact inv_renewed h
  · exact h
  · exact h
theorem inv_do {l : Lf} {o : Op} (h0 : Inv l o.now) : Inv (doL l o).1 o.now := by
  have h := inv_pass h0
  unfold doL
  repeat' split
  · exact inv_begin (l := { passL l o.now with known := o.known, life := lifeL o.term }) h
  · exact inv_answer h0
  · exact inv_lost h0
  · unfold finishL
    generalize passL l o.now = k at *
    dsimp only
    repeat' split
    · exact h
    · exact inv_begin (l := { k with known := o.known }) h
    · exact inv_wait h.1
  · exact inv_passP h0
  · unfold renewP
    generalize passL l o.now = k at *
    dsimp only
    split <;> exact h
  · unfold leaveP
    generalize passL l o.now = k at *
    dsimp only
    split <;> exact h
  · exact h0
/-- Ahead of the next time nothing is wanted. -/
theorem pass_early {l : Lf} {n : Int} (h : Inv l n) (ht : timedL l = true) (h1 : n < l.next) : passP l n = ({ l with now := n }, 0) := by
  have hp := passL_at l n h.1 (by have := h.2; omega)
  unfold passP
  rw [hp]
  dsimp only
  have ht' : timedL { l with now := n } = true := ht
  rw [ht', if_neg (by simp), if_pos (by simpa using h1)]
/-- At the next time the state turns. -/
theorem pass_due {l : Lf} {n : Int} (h : Inv l n) (ht : timedL l = true) (h1 : n = l.next) :
    ((passP l n).1.st == l.st) = false ∧ (((passP l n).2 == 0) != (l.st == 2)) = false := by
  have hp := passL_at l n h.1 (by have := h.2; omega)
  unfold passP
  rw [hp]
  dsimp only
  have ht' : timedL { l with now := n } = true := ht
  rw [ht', if_neg (by simp), if_neg (by simp; omega)]
  cases h2 : (l.st == 2)
  · cases h4 : (l.st == 4)
    · have h7 : l.st = 7 := by simpa [timedL, h2, h4] using ht
      simp only [Bool.false_eq_true, if_false]
      unfold beginL
      split <;> simp [h7]
    · have h4' : l.st = 4 := by simpa using h4
      simp [h4']
  · have h2' : l.st = 2 := by simpa using h2
    simp only [if_true]
    simp [restL, waitL, h2']
def new0 : Lf := ⟨0, false, 1, .nils, 0, 0⟩
theorem pl_do {x : Lf} (o : Op) (p : Pl x.pl) : Pl (doR x o).1.pl := by
  have pa : Pl (atR x o.now).pl := by rw [atR_pl]; exact p
  unfold doR startR answerR lostR finishR passR renewR leaveR
  generalize atR x o.now = k at *
  dsimp only
  repeat' split
  all_goals first
    | exact pa
    | exact p
    | exact Pl.nils
    | exact Pl.slS _
    | (unfold beginL; split <;> exact Pl.nils)
theorem no_join (o : Op) : joinsR (atR new0 o.now).st o.code (pls o.place).length = false := by
  have : (atR new0 o.now).st = 0 := by unfold atR; split <;> rfl
  simp [joinsR, this]
def and64 (a b : Int) : Int := IntKind.i64.wrap (BitVec.ofInt 64 a &&& BitVec.ofInt 64 b).toNat
theorem intOp_and64 (a b : Int) : intOp .and .i64 a b = some (.int .i64 (and64 a b)) := (rfl)
theorem and64_le (a : Int) (n : Nat) (hn : n ≤ 65535) : 0 ≤ and64 a n ∧ and64 a n ≤ n := by
  have h1 : (BitVec.ofInt 64 a &&& BitVec.ofInt 64 n).toNat ≤ n := by
    rw [BitVec.toNat_and]
    refine Nat.le_trans Nat.and_le_right ?_
    rw [BitVec.toNat_ofInt]
    omega
  unfold and64
  rw [wrap_small (by omega) (by omega)]
  omega
end Go.Am.Ytlmfmjmpfcaliaa
