/- Numerals: what is written is read. No program in sight.
   By the session's AI agent. -/
import Derived.Test.YthhceeaconflnaaDoorP1
namespace Go.Am.YthhceeaconflnaaDoor
set_option linter.unusedSimpArgs false
open Go.Lib
theorem ofNat_toNat (u : Nat) (h : u < 256) : (UInt8.ofNat u).toNat = u := by simp [Nat.mod_eq_of_lt h]
theorem parse_digits (u : Nat) : ∀ (r : List UInt8), u ≤ 18446744073709551615 → parseUintM 18446744073709551615 0 (decDigits u ++ r) = parseUintM 18446744073709551615 u r := by
  induction u using Nat.strongRecOn with
  | _ u ih =>
    intro r hu
    by_cases h : u < 10
    · rw [decDigits, dif_pos h, List.singleton_append, parseUintM, ofNat_toNat _ (by omega), if_pos (by omega), if_neg (by omega), if_neg (by omega)]
      congr 1; omega
    · rw [decDigits, dif_neg h, List.append_assoc, ih (u / 10) (by omega) _ (by omega), List.singleton_append, parseUintM, ofNat_toNat _ (by omega), if_pos (by omega), if_neg (by omega), if_neg (by omega)]
      congr 1; omega
theorem digits_ne (u : Nat) : decDigits u ≠ [] := by
  intro h
  have := congrArg List.length h
  rw [decDigits_length] at this
  have := nDigits_pos u
  simp at *
  omega
theorem parse_dec (u : Nat) (hu : u ≤ 18446744073709551615) : parseUintB 64 (decDigits u) = .ok u := by
  unfold parseUintB
  rw [if_neg (digits_ne u)]
  have := parse_digits u [] hu
  rw [List.append_nil] at this
  show parseUintM (2 ^ 64 - 1) 0 _ = _
  have e : (2 : Nat) ^ 64 - 1 = 18446744073709551615 := by decide
  rw [e, this]
  rfl
theorem digits_mem (u : Nat) : ∀ c ∈ decDigits u, 48 ≤ c.toNat ∧ c.toNat ≤ 57 := by
  induction u using Nat.strongRecOn with
  | _ u ih =>
    intro c hc
    by_cases h : u < 10
    · rw [decDigits, dif_pos h] at hc
      rw [List.mem_singleton] at hc
      subst hc
      rw [ofNat_toNat _ (by omega)]; omega
    · rw [decDigits, dif_neg h] at hc
      simp only [List.mem_append, List.mem_singleton] at hc
      rcases hc with hc | rfl
      · exact ih _ (by omega) c hc
      · rw [ofNat_toNat _ (by omega)]; omega
/-- The first digit is 0 of 0 alone. -/
theorem digits_head (u : Nat) : ∃ c r, decDigits u = c :: r ∧ (c.toNat = 48 ↔ u = 0) := by
  induction u using Nat.strongRecOn with
  | _ u ih =>
    by_cases h : u < 10
    · rw [decDigits, dif_pos h]
      exact ⟨_, _, rfl, by rw [ofNat_toNat _ (by omega)]; omega⟩
    · obtain ⟨c, r, h1, h2⟩ := ih (u / 10) (by omega)
      rw [decDigits, dif_neg h, h1]
      exact ⟨c, _, rfl, by rw [h2]; omega⟩
theorem parse_itoa {n : Int} (hn : in64 n) : parseIntB 64 (itoa n) = .ok n := by
  have e63 : (2 : Nat) ^ (64 - 1) = 9223372036854775808 := by decide
  unfold in64 at hn
  unfold itoa
  by_cases h : n < 0
  · rw [if_pos h, parseIntB_minus, parse_dec _ (by omega), signedC, e63, if_neg (by omega)]
    congr 1; omega
  · rw [if_neg h]
    obtain ⟨c, r, h1, _⟩ := digits_head n.toNat
    have hm := digits_mem n.toNat c (by rw [h1]; simp)
    rw [h1, parseIntB_plain _ _ _ (by omega) (by omega), ← h1, parse_dec _ (by omega), signlessC, e63, if_neg (by omega)]
    congr 1; omega
theorem numG_itoa {n : Int} (hn : in64 n) : numG (itoa n) = (n, true) := by
  unfold numG
  rw [parse_itoa hn]
  simp
theorem itoa_head (n : Int) : ∃ c r, itoa n = c :: r ∧ (c.toNat = 45 ↔ n < 0) ∧ (c.toNat = 48 ↔ n = 0) := by
  unfold itoa
  by_cases h : n < 0
  · rw [if_pos h]
    refine ⟨45, _, rfl, ⟨fun _ => h, fun _ => rfl⟩, fun hq => ?_, fun hq => by omega⟩
    have e : (45 : UInt8).toNat = 45 := rfl
    omega
  · rw [if_neg h]
    obtain ⟨c, r, h1, h2⟩ := digits_head n.toNat
    have hm := digits_mem n.toNat c (by rw [h1]; simp)
    refine ⟨c, r, h1, ⟨fun hq => by omega, fun hq => by omega⟩, ?_⟩
    rw [h2]; omega
theorem itoa_mem (n : Int) : ∀ c ∈ itoa n, c.toNat = 45 ∨ (48 ≤ c.toNat ∧ c.toNat ≤ 57) := by
  intro c hc
  unfold itoa at hc
  split at hc
  · simp only [List.mem_cons] at hc
    rcases hc with rfl | hc
    · exact .inl rfl
    · exact .inr (digits_mem _ c hc)
  · exact .inr (digits_mem _ c hc)
theorem index_colon : ∀ (a r : List UInt8), (∀ c ∈ a, c ≠ 58) → index (a ++ 58 :: r) [58] = a.length
  | [], r, _ => by simp [index]
  | x :: a, r, h => by
    have hx : x ≠ 58 := h x (by simp)
    have ih := index_colon a r (fun c hc => h c (by simp [hc]))
    have hp : ([58] : List UInt8).isPrefixOf (x :: (a ++ 58 :: r)) = false := by
      simp only [List.isPrefixOf, Bool.and_eq_false_iff, beq_eq_false_iff_ne]
      exact .inl (fun hq => hx hq.symm)
    rw [List.cons_append, index, hp, ih]
    have h1 : ((a.length : Int) == -1) = false := by rw [beq_eq_false_iff_ne]; omega
    simp only [h1, Bool.false_eq_true, if_false, List.length_cons]
    omega
theorem cut_colon (a r : List UInt8) (h : ∀ c ∈ a, c ≠ 58) : cut (a ++ 58 :: r) [58] = (a, r, true) := by
  unfold cut
  rw [index_colon a r h, if_pos (by omega)]
  simp
theorem itoa_colon (n : Int) : ∀ c ∈ itoa n, c ≠ 58 := by
  intro c hc hq
  subst hq
  have := itoa_mem n _ hc
  have e : (58 : UInt8).toNat = 58 := rfl
  rw [e] at this
  omega
theorem linkG_itoa {o i : Int} (ho : 0 ≤ o ∧ o ≤ 65535) (hi : 0 ≤ i ∧ i ≤ 65535) : linkG (itoa o ++ [58] ++ itoa i) = (o, i, true) := by
  unfold linkG
  rw [List.append_assoc, List.singleton_append, cut_colon _ _ (itoa_colon o)]
  have h1 := numG_itoa (n := o) (by unfold in64; omega)
  have h2 := numG_itoa (n := i) (by unfold in64; omega)
  simp [h1, h2, ho, hi]
theorem linkG_nil : linkG [] = (0, 0, false) := by decide +kernel
end Go.Am.YthhceeaconflnaaDoor
