/- A sign by the reference is a sign by Go: no program in sight.
   By the session's AI agent. -/
import Derived.Test.YthhceeaconflnaaDoorR2
namespace Go.Am.YthhceeaconflnaaDoor
set_option linter.unusedSimpArgs false
set_option linter.unusedVariables false
open Go.Lib
theorem dec1 {n B b1 b2 b3 : Nat} (h : B < 128) : decodeN n B b1 b2 b3 = (B, 1) := by unfold decodeN; rw [if_pos h]
theorem dec_no {n B b1 b2 b3 : Nat} (h : 128 ≤ B ∧ B < 194) (h1 : b1 < 256) : decodeN n B b1 b2 b3 = (65533, 1) := by
  unfold decodeN
  rw [if_neg (by omega)]
  by_cases hc : B / 32 = 6 ∧ (1 < n ∧ b1 / 64 = 2)
  · rw [if_pos hc, if_neg (by omega)]
  · rw [if_neg hc, if_neg (by omega), if_neg (by omega)]
theorem dec2 {n B b1 b2 b3 : Nat} (h : 194 ≤ B ∧ B < 224) (h1 : b1 < 256) : decodeN n B b1 b2 b3 = if 1 < n ∧ 128 ≤ b1 ∧ b1 < 192 then ((B - 192) * 64 + (b1 - 128), 2) else (65533, 1) := by
  unfold decodeN
  rw [if_neg (by omega)]
  by_cases hc : 1 < n ∧ 128 ≤ b1 ∧ b1 < 192
  · rw [if_pos hc, if_pos (by omega), if_pos (by omega), Prod.mk.injEq]
    exact ⟨by omega, rfl⟩
  · rw [if_neg hc, if_neg (by omega), if_neg (by omega), if_neg (by omega)]
theorem dec3 {n B b1 b2 b3 : Nat} (h : 224 ≤ B ∧ B < 240) (h1 : b1 < 256) (h2 : b2 < 256) : decodeN n B b1 b2 b3 =
    if (1 < n ∧ 128 ≤ b1 ∧ b1 < 192) ∧ (2 < n ∧ 128 ≤ b2 ∧ b2 < 192) ∧ 2048 ≤ (B - 224) * 4096 + (b1 - 128) * 64 + (b2 - 128) ∧ ((B - 224) * 4096 + (b1 - 128) * 64 + (b2 - 128) < 55296 ∨ 57344 ≤ (B - 224) * 4096 + (b1 - 128) * 64 + (b2 - 128))
    then ((B - 224) * 4096 + (b1 - 128) * 64 + (b2 - 128), 3) else (65533, 1) := by
  unfold decodeN
  rw [if_neg (by omega), if_neg (by omega)]
  by_cases hc : (1 < n ∧ 128 ≤ b1 ∧ b1 < 192) ∧ (2 < n ∧ 128 ≤ b2 ∧ b2 < 192)
  · rw [if_pos (by omega)]
    have e : B % 16 * 4096 + b1 % 64 * 64 + b2 % 64 = (B - 224) * 4096 + (b1 - 128) * 64 + (b2 - 128) := by omega
    rw [e]
    by_cases hv : 2048 ≤ (B - 224) * 4096 + (b1 - 128) * 64 + (b2 - 128) ∧ ((B - 224) * 4096 + (b1 - 128) * 64 + (b2 - 128) < 55296 ∨ 57344 ≤ (B - 224) * 4096 + (b1 - 128) * 64 + (b2 - 128))
    · rw [if_pos (by omega), if_pos ⟨hc.1, hc.2, hv⟩]
    · rw [if_neg (by omega), if_neg (fun hq => hv hq.2.2)]
  · rw [if_neg (by omega), if_neg (by omega), if_neg (fun hq => hc ⟨hq.1, hq.2.1⟩)]
theorem dec4 {n B b1 b2 b3 : Nat} (h : 240 ≤ B) (hB : B < 256) (h1 : b1 < 256) (h2 : b2 < 256) (h3 : b3 < 256) : decodeN n B b1 b2 b3 =
    if B < 245 ∧ (1 < n ∧ 128 ≤ b1 ∧ b1 < 192) ∧ (2 < n ∧ 128 ≤ b2 ∧ b2 < 192) ∧ (3 < n ∧ 128 ≤ b3 ∧ b3 < 192) ∧ 65536 ≤ (B - 240) * 262144 + (b1 - 128) * 4096 + (b2 - 128) * 64 + (b3 - 128) ∧ (B - 240) * 262144 + (b1 - 128) * 4096 + (b2 - 128) * 64 + (b3 - 128) ≤ 1114111
    then ((B - 240) * 262144 + (b1 - 128) * 4096 + (b2 - 128) * 64 + (b3 - 128), 4) else (65533, 1) := by
  unfold decodeN
  rw [if_neg (by omega), if_neg (by omega), if_neg (by omega)]
  by_cases hc : B < 248 ∧ (1 < n ∧ 128 ≤ b1 ∧ b1 < 192) ∧ (2 < n ∧ 128 ≤ b2 ∧ b2 < 192) ∧ (3 < n ∧ 128 ≤ b3 ∧ b3 < 192)
  · rw [if_pos (by omega)]
    have e : B % 8 * 262144 + b1 % 64 * 4096 + b2 % 64 * 64 + b3 % 64 = (B - 240) * 262144 + (b1 - 128) * 4096 + (b2 - 128) * 64 + (b3 - 128) := by omega
    rw [e]
    by_cases hv : 65536 ≤ (B - 240) * 262144 + (b1 - 128) * 4096 + (b2 - 128) * 64 + (b3 - 128) ∧ (B - 240) * 262144 + (b1 - 128) * 4096 + (b2 - 128) * 64 + (b3 - 128) ≤ 1114111
    · rw [if_pos (by omega), if_pos ⟨by omega, hc.2.1, hc.2.2.1, hc.2.2.2, hv⟩]
    · rw [if_neg (by omega), if_neg (fun hq => hv hq.2.2.2.2)]
  · rw [if_neg (by omega), if_neg (by omega)]

theorem cont2 (b x y : UInt8) (r : List UInt8) (c : Int) : contL (b :: x :: y :: r) 2 1 c = if (x.toNat : Int) < 128 ∨ (191 : Int) < x.toNat then none else if (y.toNat : Int) < 128 ∨ (191 : Int) < y.toNat then none
    else some ((c * 64 + x.toNat - 128) * 64 + y.toNat - 128) := rfl
theorem cont3 (b x y z : UInt8) (r : List UInt8) (c : Int) : contL (b :: x :: y :: z :: r) 3 1 c = if (x.toNat : Int) < 128 ∨ (191 : Int) < x.toNat then none else if (y.toNat : Int) < 128 ∨ (191 : Int) < y.toNat then none
    else if (z.toNat : Int) < 128 ∨ (191 : Int) < z.toNat then none else some (((c * 64 + x.toNat - 128) * 64 + y.toNat - 128) * 64 + z.toNat - 128) := rfl
def badS (s : Int × Int) : Bool := (s.1 == 0) || (decide (s.2 < 32) || s.2 == 127)
/-- What the sign is worth: what Go's decoder says. -/
def Agree2 (s : Int × Int) (d : Nat × Nat) (n : Nat) : Prop := badS s = badR d ∧ (badR d = false → s.1 = (d.2 : Int) ∧ d.2 ≤ n)
theorem agree_bad {n : Nat} : Agree2 (0, 0) (65533, 1) n := ⟨rfl, fun h => by cases h⟩
theorem agree_good {c w n : Nat} (h : (w = 1 → c < 128)) (hw : 1 ≤ w) (hn : w ≤ n) : Agree2 ((w : Int), (c : Int)) (c, w) n := by
  refine ⟨?_, fun _ => ⟨rfl, hn⟩⟩
  unfold badS badR
  have e1 : (((w : Int), (c : Int)).1 == 0) = false := by rw [beq_eq_false_iff_ne]; simp; omega
  have e2 : ((((c, w) : Nat × Nat).1 : Int) == 65533 && (((c, w) : Nat × Nat).2 : Int) == 1) = false := by
    cases hq : ((((c, w) : Nat × Nat).2 : Int) == 1)
    · simp
    · have hq' : (w : Int) = 1 := by simpa using hq
      have := h (by omega)
      have e3 : ((((c, w) : Nat × Nat).1 : Int) == 65533) = false := by rw [beq_eq_false_iff_ne]; simp; omega
      rw [e3]; rfl
  rw [e1, e2]
theorem sign_law {l : List UInt8} (hl : l ≠ []) : Agree2 (signR l) (decodeL l) l.length := by
  obtain ⟨b, r, rfl⟩ : ∃ b r, l = b :: r := by cases l with | nil => exact (hl rfl).elim | cons b r => exact ⟨b, r, rfl⟩
  have hb := b.toNat_lt
  rw [decodeL_N]
  have g0 : (b :: r).getD 0 0 = b := rfl
  rw [g0]
  have h1 := ((b :: r).getD 1 0).toNat_lt
  have h2 := ((b :: r).getD 2 0).toNat_lt
  have h3 := ((b :: r).getD 3 0).toNat_lt
  unfold signR
  simp only
  by_cases c1 : (b.toNat : Int) < 128
  · rw [if_pos c1, dec1 (by omega)]
    exact agree_good (w := 1) (fun _ => by omega) (by omega) (by simp)
  rw [if_neg c1]
  by_cases c2 : 194 ≤ (b.toNat : Int)
  · by_cases c3 : (b.toNat : Int) < 224
    · rw [if_pos ⟨c2, c3⟩, dec2 (by omega) h1]
      cases r with
      | nil => simp [signGo]; exact agree_bad
      | cons x r =>
        have hx := x.toNat_lt
        have g1 : (b :: x :: r).getD 1 0 = x := rfl
        rw [g1, signGo, if_neg (by simp)]
        simp only [contL, List.getElem?_cons_succ, List.getElem?_cons_zero]
        by_cases d1 : (x.toNat : Int) < 128 ∨ (191 : Int) < x.toNat
        · rw [if_pos d1, if_neg (by omega)]; exact agree_bad
        · rw [if_neg d1, if_pos (by simp; omega)]
          simp only
          rw [if_neg (by omega)]
          have e : ((1 : Nat) : Int) + 1 = ((2 : Nat) : Int) := rfl
          have e' : ((b.toNat : Int) - 192) * 64 + x.toNat - 128 = (((b.toNat - 192) * 64 + (x.toNat - 128) : Nat) : Int) := by omega
          rw [e, e']
          exact agree_good (by omega) (by omega) (by simp)
    · rw [if_neg (fun hq => c3 hq.2)]
      by_cases c5 : (b.toNat : Int) < 240
      · rw [if_pos ⟨by omega, c5⟩, dec3 (by omega) h1 h2]
        match r with
        | [] => simp [signGo]; exact agree_bad
        | [x] => simp [signGo]; exact agree_bad
        | x :: y :: r =>
          have hx := x.toNat_lt
          have hy := y.toNat_lt
          have g1 : (b :: x :: y :: r).getD 1 0 = x := rfl
          have g2 : (b :: x :: y :: r).getD 2 0 = y := rfl
          rw [g1, g2, signGo, if_neg (by simp)]
          rw [cont2]
          by_cases d1 : (x.toNat : Int) < 128 ∨ (191 : Int) < x.toNat
          · rw [if_pos d1, if_neg (by omega)]; exact agree_bad
          rw [if_neg d1]
          by_cases d2 : (y.toNat : Int) < 128 ∨ (191 : Int) < y.toNat
          · rw [if_pos d2, if_neg (by omega)]; exact agree_bad
          rw [if_neg d2]
          simp only
          have e' : (((b.toNat : Int) - 224) * 64 + x.toNat - 128) * 64 + y.toNat - 128 = (((b.toNat - 224) * 4096 + (x.toNat - 128) * 64 + (y.toNat - 128) : Nat) : Int) := by omega
          rw [e']
          generalize hv : (b.toNat - 224) * 4096 + (x.toNat - 128) * 64 + (y.toNat - 128) = v
          have hvb : v < 65536 := by omega
          have e : ((2 : Nat) : Int) + 1 = ((3 : Nat) : Int) := rfl
          by_cases d3 : (v : Int) < 2048 ∨ (1114111 : Int) < v ∨ ((55296 : Int) ≤ v ∧ (v : Int) < 57344)
          · rw [if_pos d3, if_neg (by omega)]; exact agree_bad
          · rw [if_neg d3, if_pos (by simp; omega), e]
            exact agree_good (by omega) (by omega) (by simp)
      · rw [if_neg (fun hq => c5 hq.2), dec4 (by omega) hb h1 h2 h3]
        by_cases c7 : (b.toNat : Int) < 245
        · rw [if_pos ⟨by omega, c7⟩]
          match r with
          | [] => simp [signGo]; exact agree_bad
          | [x] => simp [signGo]; exact agree_bad
          | [x, y] => simp [signGo]; exact agree_bad
          | x :: y :: z :: r =>
            have hx := x.toNat_lt
            have hy := y.toNat_lt
            have hz := z.toNat_lt
            have g1 : (b :: x :: y :: z :: r).getD 1 0 = x := rfl
            have g2 : (b :: x :: y :: z :: r).getD 2 0 = y := rfl
            have g3 : (b :: x :: y :: z :: r).getD 3 0 = z := rfl
            rw [g1, g2, g3, signGo, if_neg (by simp)]
            rw [cont3]
            by_cases d1 : (x.toNat : Int) < 128 ∨ (191 : Int) < x.toNat
            · rw [if_pos d1, if_neg (by omega)]; exact agree_bad
            rw [if_neg d1]
            by_cases d2 : (y.toNat : Int) < 128 ∨ (191 : Int) < y.toNat
            · rw [if_pos d2, if_neg (by omega)]; exact agree_bad
            rw [if_neg d2]
            by_cases d3 : (z.toNat : Int) < 128 ∨ (191 : Int) < z.toNat
            · rw [if_pos d3, if_neg (by omega)]; exact agree_bad
            rw [if_neg d3]
            simp only
            have e' : ((((b.toNat : Int) - 240) * 64 + x.toNat - 128) * 64 + y.toNat - 128) * 64 + z.toNat - 128 = (((b.toNat - 240) * 262144 + (x.toNat - 128) * 4096 + (y.toNat - 128) * 64 + (z.toNat - 128) : Nat) : Int) := by omega
            rw [e']
            generalize hv : (b.toNat - 240) * 262144 + (x.toNat - 128) * 4096 + (y.toNat - 128) * 64 + (z.toNat - 128) = v
            have e : ((3 : Nat) : Int) + 1 = ((4 : Nat) : Int) := rfl
            by_cases d4 : (v : Int) < 65536 ∨ (1114111 : Int) < v ∨ ((55296 : Int) ≤ v ∧ (v : Int) < 57344)
            · rw [if_pos d4, if_neg (by omega)]; exact agree_bad
            · rw [if_neg d4, if_pos (by simp; omega), e]
              exact agree_good (by omega) (by omega) (by simp)
        · rw [if_neg (fun hq => c7 hq.2), if_neg (by omega)]
          exact agree_bad
  · rw [if_neg (fun hq => c2 hq.1), if_neg (by omega), if_neg (by omega), dec_no (by omega) h1]
    exact agree_bad
end Go.Am.YthhceeaconflnaaDoor
