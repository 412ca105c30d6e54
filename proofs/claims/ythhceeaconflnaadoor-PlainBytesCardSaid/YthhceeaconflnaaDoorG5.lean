/- Base 64 is read as it is written, and nothing else is read. No program in sight. | What the reference's Base64, six and Unbase64 compute, on the abstract machine. | What the reference's Unbase64 and plain's decode compute, on the abstract machine. | What plain's group and decode compute, on the abstract machine. | What the reference's Write, Number and Read compute, on the abstract machine. | What plain's Read computes, on the abstract machine. | What plain's Read answers, on the abstract machine. | What the reference's Read computes, on the abstract machine. | What plain's Runes computes, on the abstract machine. | The reference's sign: its loop, on the abstract machine. | What the reference's sign computes, on the abstract machine. | A sign by the reference is a sign by Go: no program in sight. | The document's examples: the machine runs them. | The reference's Runes computes what plain's does; PlainRunes, on the abstract machine. | What plain's Read answers of each kind, on the abstract machine. | PlainWrites and PlainReads, on the abstract machine: true of all. | PlainBack and PlainBytes, on the abstract machine: true of all. | PlainBack and PlainBytes, on the abstract machine: true of all. | PlainNumbers, on the abstract machine: true of all numbers.
   By the session's AI agent. -/
import Derived.Test.YthhceeaconflnaaDoorG4
import Derived.Lib.Bytealg
import Derived.Lib.TrimUEq
import Derived.KernelRfl
namespace Go.Am.YthhceeaconflnaaDoor
set_option linter.unusedSimpArgs false
set_option linter.unusedVariables false
set_option maxRecDepth 100000
def sixI (c : UInt8) : Int := Lib.indexByte sgn c
def sixOk (c : UInt8) : Bool := decide (sixI c < 0) || (decide (0 ≤ sixI c) && decide (sixI c < 64) && (letG (sixI c).toNat == c))
theorem six_all : ∀ i : Fin 256, sixOk (UInt8.ofNat i.val) = true := by decide +kernel
theorem let_all : ∀ i : Fin 64, sixI (letG i.val) = (i.val : Int) := by decide +kernel
theorem six_pad : sixI 61 = -1 := by decide +kernel
theorem six_let {n : Nat} (h : n < 64) : sixI (letG n) = n := let_all ⟨n, h⟩
theorem six_ok (c : UInt8) (h : ¬ sixI c < 0) : ∃ n : Nat, n < 64 ∧ sixI c = n ∧ letG n = c := by
  have h1 := six_all ⟨c.toNat, c.toNat_lt⟩
  simp only [UInt8.ofNat_toNat] at h1
  unfold sixOk at h1
  rw [decide_eq_false h, Bool.false_or, Bool.and_eq_true, Bool.and_eq_true, decide_eq_true_eq, decide_eq_true_eq, beq_iff_eq] at h1
  obtain ⟨⟨h2, h3⟩, h4⟩ := h1
  exact ⟨(sixI c).toNat, by omega, by omega, h4⟩
theorem let_ne {n : Nat} (h : n < 64) : letG n ≠ 61 := by
  intro hq
  have h1 := six_let h
  rw [hq, six_pad] at h1
  omega
theorem let_inj {n m : Nat} (hn : n < 64) (hm : m < 64) (h : letG n = letG m) : n = m := by
  have h1 := six_let hn
  rw [h, six_let hm] at h1
  omega
theorem u8_eq {n : Nat} {c : UInt8} (h : n % 256 = c.toNat) : UInt8.ofNat n = c := by
  apply UInt8.toNat_inj.1
  rw [UInt8.toNat_ofNat']
  exact h
theorem u8_nat {n : Nat} (h : n < 256) : (UInt8.ofNat n).toNat = n := by rw [UInt8.toNat_ofNat']; exact Nat.mod_eq_of_lt h
/-- The bytes of four signs. -/
def grpG (a b c d : UInt8) (last : Bool) : Option (List UInt8) :=
  if sixI a < 0 ∨ sixI b < 0 then none
  else if d ≠ 61 then
    (if sixI c < 0 ∨ sixI d < 0 then none else
      some [UInt8.ofNat ((sixI a).toNat * 4 + (sixI b).toNat / 16), UInt8.ofNat ((sixI b).toNat % 16 * 16 + (sixI c).toNat / 4), UInt8.ofNat ((sixI c).toNat % 4 * 64 + (sixI d).toNat)])
  else if last = false then none
  else if c ≠ 61 then
    (if sixI c < 0 then none else if (sixI c).toNat % 4 ≠ 0 then none else some [UInt8.ofNat ((sixI a).toNat * 4 + (sixI b).toNat / 16), UInt8.ofNat ((sixI b).toNat % 16 * 16 + (sixI c).toNat / 4)])
  else if (sixI b).toNat % 16 ≠ 0 then none else some [UInt8.ofNat ((sixI a).toNat * 4 + (sixI b).toNat / 16)]
def decL : List UInt8 → Option (List UInt8)
  | [] => some []
  | a :: b :: c :: d :: r => match grpG a b c d r.isEmpty with
    | none => none
    | some l => (decL r).map (l ++ ·)
  | _ => none
theorem grp_ne {a b c d : UInt8} {last : Bool} {l : List UInt8} (h : grpG a b c d last = some l) : 1 ≤ l.length ∧ l.length ≤ 3 ∧ (last = false → l.length = 3) ∧ encL l = [a, b, c, d] := by
  unfold grpG at h
  split at h
  · cases h
  rename_i h1
  obtain ⟨x, hx, ex, lx⟩ := six_ok a (fun q => h1 (.inl q))
  obtain ⟨y, hy, ey, ly⟩ := six_ok b (fun q => h1 (.inr q))
  rw [ex, ey] at h
  simp only [Int.toNat_natCast] at h
  have hxy : x * 4 + y / 16 < 256 := by omega
  split at h
  · split at h
    · cases h
    rename_i h3
    obtain ⟨z, hz, ez, lz⟩ := six_ok c (fun q => h3 (.inl q))
    obtain ⟨w, hw, ew, lw⟩ := six_ok d (fun q => h3 (.inr q))
    rw [ez, ew] at h
    simp only [Int.toNat_natCast] at h
    cases h
    refine ⟨by simp, by simp, fun _ => rfl, ?_⟩
    have k1 : y % 16 * 16 + z / 4 < 256 := by omega
    have k2 : z % 4 * 64 + w < 256 := by omega
    simp only [encL, u8_nat hxy, u8_nat k1, u8_nat k2]
    have e1 : (x * 4 + y / 16) / 4 = x := by omega
    have e2 : (x * 4 + y / 16) % 4 * 16 + (y % 16 * 16 + z / 4) / 16 = y := by omega
    have e3 : (y % 16 * 16 + z / 4) % 16 * 4 + (z % 4 * 64 + w) / 64 = z := by omega
    have e4 : (z % 4 * 64 + w) % 64 = w := by omega
    rw [e1, e2, e3, e4, lx, ly, lz, lw]
  · rename_i h2
    have h2' : d = 61 := by simpa using h2
    subst h2'
    split at h
    · cases h
    rename_i h3
    have hl : last = true := by simpa using h3
    subst hl
    split at h
    · rename_i h4
      split at h
      · cases h
      rename_i h5
      obtain ⟨z, hz, ez, lz⟩ := six_ok c h5
      rw [ez] at h
      simp only [Int.toNat_natCast] at h
      split at h
      · cases h
      rename_i h6
      have h6' : z % 4 = 0 := by omega
      cases h
      refine ⟨by simp, by simp, (by intro q; cases q), ?_⟩
      have k1 : y % 16 * 16 + z / 4 < 256 := by omega
      simp only [encL, u8_nat hxy, u8_nat k1]
      have e1 : (x * 4 + y / 16) / 4 = x := by omega
      have e2 : (x * 4 + y / 16) % 4 * 16 + (y % 16 * 16 + z / 4) / 16 = y := by omega
      have e3 : (y % 16 * 16 + z / 4) % 16 * 4 = z := by omega
      rw [e1, e2, e3, lx, ly, lz]
    · rename_i h4
      have h4' : c = 61 := by simpa using h4
      subst h4'
      split at h
      · cases h
      rename_i h6
      have h6' : y % 16 = 0 := by omega
      cases h
      refine ⟨by simp, by simp, (by intro q; cases q), ?_⟩
      simp only [encL, u8_nat hxy]
      have e1 : (x * 4 + y / 16) / 4 = x := by omega
      have e2 : (x * 4 + y / 16) % 4 * 16 = y := by omega
      rw [e1, e2, lx, ly]
theorem enc_app3 {l : List UInt8} (m : List UInt8) (h : l.length = 3) : encL (l ++ m) = encL l ++ encL m := by
  match l, h with
  | [a, b, c], _ => simp [encL]
theorem enc_dec : ∀ (s l : List UInt8), decL s = some l → encL l = s
  | [], l, h => by simp [decL] at h; subst h; rfl
  | [_], l, h => by simp [decL] at h
  | [_, _], l, h => by simp [decL] at h
  | [_, _, _], l, h => by simp [decL] at h
  | a :: b :: c :: d :: r, l, h => by
    simp only [decL] at h
    split at h
    · cases h
    · rename_i g hg
      obtain ⟨h1, h2, h3, h4⟩ := grp_ne hg
      rw [Option.map_eq_some_iff] at h
      obtain ⟨m, hm, rfl⟩ := h
      have ih := enc_dec r m hm
      cases r with
      | nil =>
        simp [decL] at hm
        subst hm
        rw [List.append_nil, h4]
      | cons x r => rw [enc_app3 m (h3 rfl), h4, ih]; rfl
theorem six_lt {n : Nat} (h : n < 64) : ¬ sixI (letG n) < 0 := by rw [six_let h]; omega
theorem grp_3 (a b c : UInt8) (last : Bool) : grpG (letG (a.toNat / 4)) (letG (a.toNat % 4 * 16 + b.toNat / 16)) (letG (b.toNat % 16 * 4 + c.toNat / 64)) (letG (c.toNat % 64)) last = some [a, b, c] := by
  have ha := a.toNat_lt
  have hb := b.toNat_lt
  have hc := c.toNat_lt
  have k1 : a.toNat / 4 < 64 := by omega
  have k2 : a.toNat % 4 * 16 + b.toNat / 16 < 64 := by omega
  have k3 : b.toNat % 16 * 4 + c.toNat / 64 < 64 := by omega
  have k4 : c.toNat % 64 < 64 := by omega
  unfold grpG
  rw [if_neg (by intro q; exact q.elim (six_lt k1) (six_lt k2)), if_pos (let_ne k4), if_neg (by intro q; exact q.elim (six_lt k3) (six_lt k4)), six_let k1, six_let k2, six_let k3, six_let k4]
  simp only [Int.toNat_natCast]
  rw [u8_eq (c := a) (by omega), u8_eq (c := b) (by omega), u8_eq (c := c) (by omega)]
theorem grp_2 (a b : UInt8) : grpG (letG (a.toNat / 4)) (letG (a.toNat % 4 * 16 + b.toNat / 16)) (letG (b.toNat % 16 * 4)) 61 true = some [a, b] := by
  have ha := a.toNat_lt
  have hb := b.toNat_lt
  have k1 : a.toNat / 4 < 64 := by omega
  have k2 : a.toNat % 4 * 16 + b.toNat / 16 < 64 := by omega
  have k3 : b.toNat % 16 * 4 < 64 := by omega
  unfold grpG
  rw [if_neg (by intro q; exact q.elim (six_lt k1) (six_lt k2)), if_neg (by simp), if_neg (by simp), if_pos (let_ne k3), if_neg (six_lt k3), six_let k1, six_let k2, six_let k3]
  simp only [Int.toNat_natCast]
  rw [if_neg (by omega), u8_eq (c := a) (by omega), u8_eq (c := b) (by omega)]
theorem grp_1 (a : UInt8) : grpG (letG (a.toNat / 4)) (letG (a.toNat % 4 * 16)) 61 61 true = some [a] := by
  have ha := a.toNat_lt
  have k1 : a.toNat / 4 < 64 := by omega
  have k2 : a.toNat % 4 * 16 < 64 := by omega
  unfold grpG
  rw [if_neg (by intro q; exact q.elim (six_lt k1) (six_lt k2)), if_neg (by simp), if_neg (by simp), if_neg (by simp), six_let k1, six_let k2]
  simp only [Int.toNat_natCast]
  rw [if_neg (by omega), u8_eq (c := a) (by omega)]
theorem dec_enc : ∀ l : List UInt8, decL (encL l) = some l
  | [] => rfl
  | [a] => by simp only [encL, decL, List.isEmpty_nil, grp_1]; rfl
  | [a, b] => by simp only [encL, decL, List.isEmpty_nil, grp_2]; rfl
  | a :: b :: c :: r => by simp only [encL, decL, grp_3, dec_enc r]; rfl
theorem dec_iff {s l : List UInt8} : decL s = some l ↔ encL l = s := ⟨enc_dec s l, fun h => h ▸ dec_enc l⟩
theorem enc_inj {l m : List UInt8} (h : encL l = encL m) : l = m := by
  have h1 := dec_enc l
  rw [h, dec_enc m] at h1
  exact (Option.some.inj h1).symm
/-- What the reference reads: byte by byte, so many bits left over. -/
def unbL : Nat → Nat → List UInt8 → Option (List UInt8)
  | _, _, [] => some []
  | n, B, c :: r => if c = 61 then some [] else if sixI c < 0 then none else
    if 8 ≤ n + 6 then (unbL (n - 2) ((B * 64 + (sixI c).toNat) % 4096) r).map (UInt8.ofNat ((B * 64 + (sixI c).toNat) % 4096 / 2 ^ (n - 2)) :: ·)
    else unbL (n + 6) ((B * 64 + (sixI c).toNat) % 4096) r
theorem unb_let (n B m : Nat) (hm : m < 64) (r : List UInt8) : unbL n B (letG m :: r) = if 8 ≤ n + 6 then (unbL (n - 2) ((B * 64 + m) % 4096) r).map (UInt8.ofNat ((B * 64 + m) % 4096 / 2 ^ (n - 2)) :: ·) else unbL (n + 6) ((B * 64 + m) % 4096) r := by
  rw [unbL, if_neg (let_ne hm), if_neg (six_lt hm), six_let hm]
  rfl
theorem unb_pad (n B : Nat) (r : List UInt8) : unbL n B (61 :: r) = some [] := by rw [unbL, if_pos rfl]
theorem unb_enc : ∀ (l : List UInt8) (B : Nat), unbL 0 B (encL l) = some l
  | [], B => rfl
  | [a], B => by
    have ha := a.toNat_lt
    simp only [encL]
    rw [unb_let _ _ _ (by omega), if_neg (by omega), unb_let _ _ _ (by omega), if_pos (by omega), unb_pad, Option.map_some, u8_eq (c := a) (by simp only [Nat.reduceAdd, Nat.reduceSub, Nat.reducePow]; omega)]
  | [a, b], B => by
    have ha := a.toNat_lt
    have hb := b.toNat_lt
    simp only [encL]
    rw [unb_let _ _ _ (by omega), if_neg (by omega), unb_let _ _ _ (by omega), if_pos (by omega), unb_let _ _ _ (by omega), if_pos (by omega), unb_pad, Option.map_some, Option.map_some,
      u8_eq (c := a) (by simp only [Nat.reduceAdd, Nat.reduceSub, Nat.reducePow]; omega), u8_eq (c := b) (by simp only [Nat.reduceAdd, Nat.reduceSub, Nat.reducePow]; omega)]
  | a :: b :: c :: r, B => by
    have ha := a.toNat_lt
    have hb := b.toNat_lt
    have hc := c.toNat_lt
    simp only [encL]
    rw [unb_let _ _ _ (by omega), if_neg (by omega), unb_let _ _ _ (by omega), if_pos (by omega), unb_let _ _ _ (by omega), if_pos (by omega), unb_let _ _ _ (by omega), if_pos (by omega)]
    simp only [Nat.reduceAdd, Nat.reduceSub, Nat.reducePow]
    rw [unb_enc r]
    simp only [Option.map_some]
    rw [u8_eq (c := a) (by omega), u8_eq (c := b) (by omega), u8_eq (c := c) (by omega)]
/-- The reference's answer is the same. -/
theorem unb_dec (s : List UInt8) : (match unbL 0 0 s with | none => none | some l => if encL l = s then some l else none) = decL s := by
  cases hd : decL s with
  | some l =>
    have he := enc_dec s l hd
    subst he
    rw [unb_enc]
    simp
  | none =>
    cases hu : unbL 0 0 s with
    | none => rfl
    | some l =>
      simp only
      rw [if_neg]
      intro he
      rw [dec_iff.2 he] at hd
      cases hd
/-- Base 64 as the reference writes it: byte by byte, so many bits left over. -/
def encF : Nat → Nat → List UInt8 → List UInt8
  | 0, _, [] => []
  | 2, B, [] => [letG (B % 4 * 16), 61, 61]
  | _, B, [] => [letG (B % 16 * 4), 61]
  | 0, _, x :: r => letG (x.toNat / 4) :: encF 2 (x.toNat % 64) r
  | 2, B, x :: r => letG (B % 4 * 16 + x.toNat / 16) :: encF 4 (x.toNat % 64) r
  | _, B, x :: r => letG (B % 16 * 4 + x.toNat / 64) :: letG (x.toNat % 64) :: encF 0 (x.toNat % 64) r
theorem encF_eq : ∀ (l : List UInt8) (B : Nat), encF 0 B l = encL l
  | [], B => rfl
  | [a], B => by simp only [encF, encL]; rw [show a.toNat % 64 % 4 * 16 = a.toNat % 4 * 16 by omega]
  | [a, b], B => by simp only [encF, encL]; rw [show a.toNat % 64 % 4 * 16 = a.toNat % 4 * 16 by omega, show b.toNat % 64 % 16 * 4 = b.toNat % 16 * 4 by omega]
  | a :: b :: c :: r, B => by
    simp only [encF, encL, encF_eq r]
    rw [show a.toNat % 64 % 4 * 16 = a.toNat % 4 * 16 by omega, show b.toNat % 64 % 16 * 4 = b.toNat % 16 * 4 by omega]
end Go.Am.YthhceeaconflnaaDoor
namespace Go.Am.YthhceeaconflnaaDoor
set_option maxRecDepth 100000
set_option linter.unusedSimpArgs false
set_option linter.unusedVariables false
abbrev zF : PV := .sl .full 1 []
theorem gzF : gZ 1 zF := gZ_full 1
theorem b64_in {h : Hp} (V n i : Nat) (b : PV) (o : List UInt8) (hn : 6 ≤ n) (hn2 : n ≤ 12) (hV : V < 16384) (ho : o.length + 1 ≤ lim2) :
    P24_1 (size h) (size h) (.int .i64 V) (gV h zF 1 (u8s o)) (.int .i64 n) b (.int .i64 i) (gH h 5 (u8s o)) =
    P24_1 (size h) (size h) (.int .i64 V) (gV h zF 1 (u8s (o ++ [letG (V / 2 ^ (n - 6) % 64)]))) (.int .i64 ((n - 6 : Nat) : Int)) b (.int .i64 i) (gH h 5 (u8s (o ++ [letG (V / 2 ^ (n - 6) % 64)]))) := by
  rw [P24_1_eq]
  have h1 : ((n : Int) ≥ 6) = True := by simp; omega
  have w1 : IntKind.i64.wrap ((n : Int) - 6) = ((n - 6 : Nat) : Int) := by rw [wrap_small] <;> omega
  have s1 := shr_kind (k := .i64) (x := V) (i := n - 6) (by have : IntKind.i64.bits = 64 := rfl; omega)
  have hd : V / 2 ^ (n - 6) ≤ V := Nat.div_le_self _ _
  have a1 : intBits .and .i64 ((V / 2 ^ (n - 6) : Nat) : Int) 63 = _ := and_i64 6 (x := V / 2 ^ (n - 6)) (by omega) (by decide)
  have e1 : 2 ^ 6 = 64 := rfl
  rw [e1] at a1
  have hl : ∀ base h, _ := fun base h => letter_spec (base := base) (h := h) (V / 2 ^ (n - 6) % 64) (Nat.mod_lt _ (by decide))
  have g1 := gOne (h := h) (T := 5) gzF o (letG (V / 2 ^ (n - 6) % 64)) ho
  simp only [h1, w1, s1, a1, hl, g1, intOp_and, ↓evD, evU, Nat.reduceAdd, Nat.reduceSub, Nat.reduceMul, Nat.reduceLeDiff, Nat.reduceLT, Nat.reduceEqDiff, Nat.reduceBEq, reduceIte, reduceCtorEq, Int.reduceBEq, Int.reduceEq, Int.reduceLT, Int.reduceLE, Int.reduceGT, Int.reduceGE, Int.reduceAdd, Int.reduceSub, Int.reduceNeg, Int.reduceBNe, List.all_cons, List.all_nil, List.getElem?_cons_zero, List.getElem?_cons_succ, List.getElem?_nil, Option.map_some, List.length_cons, List.length_nil, List.set_cons_zero, List.set_cons_succ, List.map_cons, List.map_nil, List.drop_zero, List.drop_succ_cons, List.drop_nil, List.take_zero, List.take_succ_cons, List.take_nil, ite_true, ite_false, if_true, if_false, implies_true, forall_const, beq_self_eq_true, List.replicate_succ, List.replicate_zero, List.headD_cons, List.cons_append, List.nil_append, bne_self_eq_false]
theorem b64_out {h : Hp} (V n i : Nat) (b v k) (hn : n < 6) (hV : V < 16384) (hi : i < 4611686018427387904) :
    P24_1 (size h) (size h) (.int .i64 V) v (.int .i64 n) b (.int .i64 i) k = P24_0 (size h) (size h) v (.int .i64 ((i + 1 : Nat) : Int)) (.int .i64 n) b (.int .i64 ((V % 64 : Nat) : Int)) k := by
  rw [P24_1_eq]
  have h1 : ((n : Int) ≥ 6) = False := by simp; omega
  have w1 : IntKind.i64.wrap ((i : Int) + 1) = ((i + 1 : Nat) : Int) := by rw [wrap_small] <;> omega
  have a1 : intBits .and .i64 (V : Int) 63 = _ := and_i64 6 (x := V) (by omega) (by decide)
  have e1 : 2 ^ 6 = 64 := rfl
  rw [e1] at a1
  simp only [h1, w1, a1, intOp_and, ↓evD, evU, Nat.reduceAdd, Nat.reduceSub, Nat.reduceMul, Nat.reduceLeDiff, Nat.reduceLT, Nat.reduceEqDiff, Nat.reduceBEq, reduceIte, reduceCtorEq, Int.reduceBEq, Int.reduceEq, Int.reduceLT, Int.reduceLE, Int.reduceGT, Int.reduceGE, Int.reduceAdd, Int.reduceSub, Int.reduceNeg, Int.reduceBNe, List.all_cons, List.all_nil, List.getElem?_cons_zero, List.getElem?_cons_succ, List.getElem?_nil, Option.map_some, List.length_cons, List.length_nil, List.set_cons_zero, List.set_cons_succ, List.map_cons, List.map_nil, List.drop_zero, List.drop_succ_cons, List.drop_nil, List.take_zero, List.take_succ_cons, List.take_nil, ite_true, ite_false, if_true, if_false, implies_true, forall_const, beq_self_eq_true, List.replicate_succ, List.replicate_zero, List.headD_cons, List.cons_append, List.nil_append, bne_self_eq_false]
theorem b64_head {h k : Hp} {b v : PV} {l : List UInt8} (hb : Rd b l) (B n i : Nat) {x : UInt8} (hx : l[i]? = some x) (hB : B < 64) (hn : n ≤ 4) (hl : l.length ≤ 1000000) :
    P24_0 (size h) (size h) v (.int .i64 i) (.int .i64 n) b (.int .i64 B) k = P24_1 (size h) (size h) (.int .i64 ((B * 256 + x.toNat : Nat) : Int)) v (.int .i64 ((n + 8 : Nat) : Int)) b (.int .i64 i) k := by
  have hx256 := x.toNat_lt
  rw [P24_0_eq]
  have hi := (List.getElem?_eq_some_iff.1 hx).1
  have h1 : ((i : Int) < (l.length : Int)) = True := by simp; omega
  have w1 : IntKind.i64.wrap ((B : Int) * 256) = ((B * 256 : Nat) : Int) := by rw [wrap_small] <;> omega
  have w2 : IntKind.i64.wrap (x.toNat : Int) = x.toNat := by rw [wrap_small] <;> omega
  have w3 : IntKind.i64.wrap (((B * 256 : Nat) : Int) + (x.toNat : Int)) = ((B * 256 + x.toNat : Nat) : Int) := by rw [wrap_small] <;> omega
  have w4 : IntKind.i64.wrap ((n : Int) + 8) = ((n + 8 : Nat) : Int) := by rw [wrap_small] <;> omega
  simp only [hb.len, hb.idx hx, h1, w1, w2, w3, w4, ↓evD, evU, Nat.reduceAdd, Nat.reduceSub, Nat.reduceMul, Nat.reduceLeDiff, Nat.reduceLT, Nat.reduceEqDiff, Nat.reduceBEq, reduceIte, reduceCtorEq, Int.reduceBEq, Int.reduceEq, Int.reduceLT, Int.reduceLE, Int.reduceGT, Int.reduceGE, Int.reduceAdd, Int.reduceSub, Int.reduceNeg, Int.reduceBNe, List.all_cons, List.all_nil, List.getElem?_cons_zero, List.getElem?_cons_succ, List.getElem?_nil, Option.map_some, List.length_cons, List.length_nil, List.set_cons_zero, List.set_cons_succ, List.map_cons, List.map_nil, List.drop_zero, List.drop_succ_cons, List.drop_nil, List.take_zero, List.take_succ_cons, List.take_nil, ite_true, ite_false, if_true, if_false, implies_true, forall_const, beq_self_eq_true, List.replicate_succ, List.replicate_zero, List.headD_cons, List.cons_append, List.nil_append, bne_self_eq_false]
theorem tmod_nat (a b : Nat) : (a : Int).tmod (b : Int) = ((a % b : Nat) : Int) := (Int.ofNat_tmod a b).symm
theorem b64_pad {h : Hp} : ∀ (k : Nat) (o : List UInt8), k < 4 → (o.length + k) % 4 = 0 → o.length + k ≤ 4000000 →
    P24_3 (size h) (size h) (gV h zF 1 (u8s o)) (gH h 5 (u8s o)) = some (.str (o ++ List.replicate k 61), h)
  | 0, o, hk, hm, hl => by
    rw [P24_3_eq]
    have e : (o.length : Int).tmod 4 = 0 := by rw [show (4 : Int) = ((4 : Nat) : Int) from rfl, tmod_nat]; omega
    have hz : ((4 : Int) = 0) = False := by simp
    simp only [len_gV gzF, Bu.len, e, hz, bytes_gV gzF, trunc_gH, ↓evD, evU, Nat.reduceAdd, Nat.reduceSub, Nat.reduceMul, Nat.reduceLeDiff, Nat.reduceLT, Nat.reduceEqDiff, Nat.reduceBEq, reduceIte, reduceCtorEq, Int.reduceBEq, Int.reduceEq, Int.reduceLT, Int.reduceLE, Int.reduceGT, Int.reduceGE, Int.reduceAdd, Int.reduceSub, Int.reduceNeg, Int.reduceBNe, List.all_cons, List.all_nil, List.getElem?_cons_zero, List.getElem?_cons_succ, List.getElem?_nil, Option.map_some, List.length_cons, List.length_nil, List.set_cons_zero, List.set_cons_succ, List.map_cons, List.map_nil, List.drop_zero, List.drop_succ_cons, List.drop_nil, List.take_zero, List.take_succ_cons, List.take_nil, ite_true, ite_false, if_true, if_false, implies_true, forall_const, beq_self_eq_true, List.replicate_succ, List.replicate_zero, List.headD_cons, List.cons_append, List.nil_append, bne_self_eq_false]
    simp
  | k + 1, o, hk, hm, hl => by
    rw [P24_3_eq]
    have e : ((o.length : Int).tmod 4 != 0) = true := by
      rw [bne_iff_ne, show (4 : Int) = ((4 : Nat) : Int) from rfl, tmod_nat]
      omega
    have hz : ((4 : Int) = 0) = False := by simp
    have g1 := gOne (h := h) (T := 5) gzF o 61 (by unfold lim2; omega)
    have z61 : (((61 : UInt8).toNat : Nat) : Int) = 61 := rfl
    rw [z61] at g1
    have ih := b64_pad (h := h) k (o ++ [61]) (by omega) (by simp; omega) (by simp; omega)
    simp only [len_gV gzF, Bu.len, e, hz, g1, ih, ↓evD, evU, Nat.reduceAdd, Nat.reduceSub, Nat.reduceMul, Nat.reduceLeDiff, Nat.reduceLT, Nat.reduceEqDiff, Nat.reduceBEq, reduceIte, reduceCtorEq, Int.reduceBEq, Int.reduceEq, Int.reduceLT, Int.reduceLE, Int.reduceGT, Int.reduceGE, Int.reduceAdd, Int.reduceSub, Int.reduceNeg, Int.reduceBNe, List.all_cons, List.all_nil, List.getElem?_cons_zero, List.getElem?_cons_succ, List.getElem?_nil, Option.map_some, List.length_cons, List.length_nil, List.set_cons_zero, List.set_cons_succ, List.map_cons, List.map_nil, List.drop_zero, List.drop_succ_cons, List.drop_nil, List.take_zero, List.take_succ_cons, List.take_nil, ite_true, ite_false, if_true, if_false, implies_true, forall_const, beq_self_eq_true, List.replicate_succ, List.replicate_zero, List.headD_cons, List.cons_append, List.nil_append, bne_self_eq_false]
    simp [List.replicate_succ]
theorem b64_end {h : Hp} {b : PV} {l : List UInt8} (hb : Rd b l) (B n : Nat) (o : List UInt8) (hB : B < 64) (hn : n = 0 ∨ n = 2 ∨ n = 4) (hm : 2 * (o.length % 4) = n) (hl : l.length ≤ 1000000) (ho : o.length ≤ 3000000) :
    P24_0 (size h) (size h) (gV h zF 1 (u8s o)) (.int .i64 l.length) (.int .i64 n) b (.int .i64 B) (gH h 5 (u8s o)) = some (.str (o ++ encF n B []), h) := by
  rw [P24_0_eq]
  have h1 : ((l.length : Int) < (l.length : Int)) = False := by simp
  rcases hn with rfl | rfl | rfl
  · have h2 : (((0 : Nat) : Int) > 0) = False := by simp
    have hp := b64_pad (h := h) 0 o (by omega) (by omega) (by omega)
    simp only [hb.len, h1, h2, P24_2_eq, hp, ↓evD, evU, Nat.reduceAdd, Nat.reduceSub, Nat.reduceMul, Nat.reduceLeDiff, Nat.reduceLT, Nat.reduceEqDiff, Nat.reduceBEq, reduceIte, reduceCtorEq, Int.reduceBEq, Int.reduceEq, Int.reduceLT, Int.reduceLE, Int.reduceGT, Int.reduceGE, Int.reduceAdd, Int.reduceSub, Int.reduceNeg, Int.reduceBNe, List.all_cons, List.all_nil, List.getElem?_cons_zero, List.getElem?_cons_succ, List.getElem?_nil, Option.map_some, List.length_cons, List.length_nil, List.set_cons_zero, List.set_cons_succ, List.map_cons, List.map_nil, List.drop_zero, List.drop_succ_cons, List.drop_nil, List.take_zero, List.take_succ_cons, List.take_nil, ite_true, ite_false, if_true, if_false, implies_true, forall_const, beq_self_eq_true, List.replicate_succ, List.replicate_zero, List.headD_cons, List.cons_append, List.nil_append, bne_self_eq_false]
    simp [encF]
  · have h2 : (((2 : Nat) : Int) > 0) = True := by simp
    have w1 : IntKind.i64.wrap (6 - ((2 : Nat) : Int)) = ((4 : Nat) : Int) := rfl
    have s1 := shl_i64 (x := B) (i := 4) (by omega) (by omega)
    have a1 : intBits .and .i64 ((2 ^ 4 * B : Nat) : Int) 63 = _ := and_i64 6 (x := 2 ^ 4 * B) (by omega) (by decide)
    have e1 : 2 ^ 4 * B % 2 ^ 6 = B % 4 * 16 := by omega
    rw [e1] at a1
    have hL : ∀ base h, _ := fun base h => letter_spec (base := base) (h := h) (B % 4 * 16) (by omega)
    have g1 := gOne (h := h) (T := 5) gzF o (letG (B % 4 * 16)) (by unfold lim2; omega)
    have hp := b64_pad (h := h) 2 (o ++ [letG (B % 4 * 16)]) (by omega) (by simp; omega) (by simp; omega)
    simp only [hb.len, h1, h2, w1, s1, a1, hL, g1, intOp_and, P24_2_eq, hp, ↓evD, evU, Nat.reduceAdd, Nat.reduceSub, Nat.reduceMul, Nat.reduceLeDiff, Nat.reduceLT, Nat.reduceEqDiff, Nat.reduceBEq, reduceIte, reduceCtorEq, Int.reduceBEq, Int.reduceEq, Int.reduceLT, Int.reduceLE, Int.reduceGT, Int.reduceGE, Int.reduceAdd, Int.reduceSub, Int.reduceNeg, Int.reduceBNe, List.all_cons, List.all_nil, List.getElem?_cons_zero, List.getElem?_cons_succ, List.getElem?_nil, Option.map_some, List.length_cons, List.length_nil, List.set_cons_zero, List.set_cons_succ, List.map_cons, List.map_nil, List.drop_zero, List.drop_succ_cons, List.drop_nil, List.take_zero, List.take_succ_cons, List.take_nil, ite_true, ite_false, if_true, if_false, implies_true, forall_const, beq_self_eq_true, List.replicate_succ, List.replicate_zero, List.headD_cons, List.cons_append, List.nil_append, bne_self_eq_false]
    simp [encF, List.replicate_succ]
  · have h2 : (((4 : Nat) : Int) > 0) = True := by simp
    have w1 : IntKind.i64.wrap (6 - ((4 : Nat) : Int)) = ((2 : Nat) : Int) := rfl
    have s1 := shl_i64 (x := B) (i := 2) (by omega) (by omega)
    have a1 : intBits .and .i64 ((2 ^ 2 * B : Nat) : Int) 63 = _ := and_i64 6 (x := 2 ^ 2 * B) (by omega) (by decide)
    have e1 : 2 ^ 2 * B % 2 ^ 6 = B % 16 * 4 := by omega
    rw [e1] at a1
    have hL : ∀ base h, _ := fun base h => letter_spec (base := base) (h := h) (B % 16 * 4) (by omega)
    have g1 := gOne (h := h) (T := 5) gzF o (letG (B % 16 * 4)) (by unfold lim2; omega)
    have hp := b64_pad (h := h) 1 (o ++ [letG (B % 16 * 4)]) (by omega) (by simp; omega) (by simp; omega)
    simp only [hb.len, h1, h2, w1, s1, a1, hL, g1, intOp_and, P24_2_eq, hp, ↓evD, evU, Nat.reduceAdd, Nat.reduceSub, Nat.reduceMul, Nat.reduceLeDiff, Nat.reduceLT, Nat.reduceEqDiff, Nat.reduceBEq, reduceIte, reduceCtorEq, Int.reduceBEq, Int.reduceEq, Int.reduceLT, Int.reduceLE, Int.reduceGT, Int.reduceGE, Int.reduceAdd, Int.reduceSub, Int.reduceNeg, Int.reduceBNe, List.all_cons, List.all_nil, List.getElem?_cons_zero, List.getElem?_cons_succ, List.getElem?_nil, Option.map_some, List.length_cons, List.length_nil, List.set_cons_zero, List.set_cons_succ, List.map_cons, List.map_nil, List.drop_zero, List.drop_succ_cons, List.drop_nil, List.take_zero, List.take_succ_cons, List.take_nil, ite_true, ite_false, if_true, if_false, implies_true, forall_const, beq_self_eq_true, List.replicate_succ, List.replicate_zero, List.headD_cons, List.cons_append, List.nil_append, bne_self_eq_false]
    simp [encF, List.replicate_succ]
theorem b64_loop {h : Hp} {b : PV} {l : List UInt8} (hb : Rd b l) (hl : l.length ≤ 1000000) : ∀ (r p o : List UInt8) (n B : Nat), l = p ++ r → B < 64 → (n = 0 ∨ n = 2 ∨ n = 4) → 2 * (o.length % 4) = n → o.length ≤ 2 * p.length →
    P24_0 (size h) (size h) (gV h zF 1 (u8s o)) (.int .i64 p.length) (.int .i64 n) b (.int .i64 B) (gH h 5 (u8s o)) = some (.str (o ++ encF n B r), h)
  | [], p, o, n, B, hpr, hB, hn, hm, ho => by
    have e : p.length = l.length := by rw [hpr]; simp
    rw [e]
    exact b64_end hb B n o hB hn hm hl (by omega)
  | x :: r, p, o, n, B, hpr, hB, hn, hm, ho => by
    have hx : l[p.length]? = some x := by rw [hpr]; simp
    have hx256 := x.toNat_lt
    have hpl : p.length + 1 ≤ 1000000 := by have : l.length = p.length + (r.length + 1) := by rw [hpr]; simp
                                            omega
    have hpr' : l = (p ++ [x]) ++ r := by rw [hpr]; simp
    have el : (p ++ [x]).length = p.length + 1 := by simp
    rw [b64_head hb B n p.length hx hB (by omega) hl]
    have hV : B * 256 + x.toNat < 16384 := by omega
    have eB : (B * 256 + x.toNat) % 64 = x.toNat % 64 := by omega
    rcases hn with rfl | rfl | rfl
    · rw [b64_in _ _ _ _ _ (by omega) (by omega) hV (by unfold lim2; omega)]
      rw [b64_out _ _ _ _ _ _ (by omega) hV (by omega), eB]
      have e1 : (B * 256 + x.toNat) / 2 ^ (0 + 8 - 6) % 64 = x.toNat / 4 := by show _ / 2 ^ 2 % 64 = _; omega
      rw [e1, ← el]
      have := b64_loop (h := h) hb hl r (p ++ [x]) (o ++ [letG (x.toNat / 4)]) 2 (x.toNat % 64) hpr' (by omega) (by omega) (by simp; omega) (by simp; omega)
      refine this.trans ?_
      simp [encF]
    · rw [b64_in _ _ _ _ _ (by omega) (by omega) hV (by unfold lim2; omega)]
      rw [b64_out _ _ _ _ _ _ (by omega) hV (by omega), eB]
      have e1 : (B * 256 + x.toNat) / 2 ^ (2 + 8 - 6) % 64 = B % 4 * 16 + x.toNat / 16 := by show _ / 2 ^ 4 % 64 = _; omega
      rw [e1, ← el]
      have := b64_loop (h := h) hb hl r (p ++ [x]) (o ++ [letG (B % 4 * 16 + x.toNat / 16)]) 4 (x.toNat % 64) hpr' (by omega) (by omega) (by simp; omega) (by simp; omega)
      refine this.trans ?_
      simp [encF]
    · rw [b64_in _ _ _ _ _ (by omega) (by omega) hV (by unfold lim2; omega)]
      rw [b64_in _ _ _ _ _ (by omega) (by omega) hV (by unfold lim2; simp; omega)]
      rw [b64_out _ _ _ _ _ _ (by omega) hV (by omega), eB]
      have e1 : (B * 256 + x.toNat) / 2 ^ (4 + 8 - 6) % 64 = B % 16 * 4 + x.toNat / 64 := by show _ / 2 ^ 6 % 64 = _; omega
      have e2 : (B * 256 + x.toNat) / 2 ^ (4 + 8 - 6 - 6) % 64 = x.toNat % 64 := by show _ / 2 ^ 0 % 64 = _; omega
      rw [e1, e2, ← el]
      have := b64_loop (h := h) hb hl r (p ++ [x]) (o ++ [letG (B % 16 * 4 + x.toNat / 64)] ++ [letG (x.toNat % 64)]) 0 (x.toNat % 64) hpr' (by omega) (by omega) (by simp; omega) (by simp; omega)
      refine this.trans ?_
      simp [encF]
theorem base64_spec {base : Nat} {h : Hp} {b : PV} {l : List UInt8} (hb : Rd b l) (hl : l.length ≤ 1000000) : CallA T base 24 [b] h = some (.str (encL l), h) := by
  rw [S24, ← encF_eq l 0]
  have := b64_loop (h := h) hb hl l [] [] 0 0 rfl (by omega) (by omega) rfl (by simp)
  simp only [↓evD, evU, Nat.reduceAdd, Nat.reduceSub, Nat.reduceMul, Nat.reduceLeDiff, Nat.reduceLT, Nat.reduceEqDiff, Nat.reduceBEq, reduceIte, reduceCtorEq, Int.reduceBEq, Int.reduceEq, Int.reduceLT, Int.reduceLE, Int.reduceGT, Int.reduceGE, Int.reduceAdd, Int.reduceSub, Int.reduceNeg, Int.reduceBNe, List.all_cons, List.all_nil, List.getElem?_cons_zero, List.getElem?_cons_succ, List.getElem?_nil, Option.map_some, List.length_cons, List.length_nil, List.set_cons_zero, List.set_cons_succ, List.map_cons, List.map_nil, List.drop_zero, List.drop_succ_cons, List.drop_nil, List.take_zero, List.take_succ_cons, List.take_nil, ite_true, ite_false, if_true, if_false, implies_true, forall_const, beq_self_eq_true, List.replicate_succ, List.replicate_zero, List.headD_cons, List.cons_append, List.nil_append, bne_self_eq_false]
  exact this
theorem six_loop {h : Hp} (c : UInt8) : ∀ (k i : Nat), i + k = 64 → (∀ j, j < i → letG j ≠ c) → P41_0 (size h) (size h) (.int .i64 i) (.int .u8 c.toNat) h = some (.int .i64 (sixI c), h)
  | 0, i, hk, hj => by
    rw [P41_0_eq]
    have e : i = 64 := by omega
    subst e
    have h1 : (((64 : Nat) : Int) < 64) = False := by simp
    have hs : sixI c = -1 := by
      by_cases hq : sixI c < 0
      · have h1 := six_all ⟨c.toNat, c.toNat_lt⟩
        have := Lib.indexByte_ge sgn c
        unfold sixI at *
        omega
      · obtain ⟨n, h1, _, h2⟩ := six_ok c hq
        exact (hj n h1 h2).elim
    simp only [h1, hs, ↓evD, evU, Nat.reduceAdd, Nat.reduceSub, Nat.reduceMul, Nat.reduceLeDiff, Nat.reduceLT, Nat.reduceEqDiff, Nat.reduceBEq, reduceIte, reduceCtorEq, Int.reduceBEq, Int.reduceEq, Int.reduceLT, Int.reduceLE, Int.reduceGT, Int.reduceGE, Int.reduceAdd, Int.reduceSub, Int.reduceNeg, Int.reduceBNe, List.all_cons, List.all_nil, List.getElem?_cons_zero, List.getElem?_cons_succ, List.getElem?_nil, Option.map_some, List.length_cons, List.length_nil, List.set_cons_zero, List.set_cons_succ, List.map_cons, List.map_nil, List.drop_zero, List.drop_succ_cons, List.drop_nil, List.take_zero, List.take_succ_cons, List.take_nil, ite_true, ite_false, if_true, if_false, implies_true, forall_const, beq_self_eq_true, List.replicate_succ, List.replicate_zero, List.headD_cons, List.cons_append, List.nil_append, bne_self_eq_false]
  | k + 1, i, hk, hj => by
    rw [P41_0_eq]
    have h1 : ((i : Int) < 64) = True := by simp; omega
    have w1 : IntKind.i64.wrap ((i : Int) + 1) = ((i + 1 : Nat) : Int) := by rw [wrap_small] <;> omega
    have hL : ∀ base h, _ := fun base h => letter_spec (base := base) (h := h) i (by omega)
    by_cases he : letG i = c
    · have hs : sixI c = i := by rw [← he]; exact six_let (by omega)
      have e2 : (((letG i).toNat : Int) == (c.toNat : Int)) = true := by rw [he]; simp
      simp only [h1, hL, e2, hs, ↓evD, evU, Nat.reduceAdd, Nat.reduceSub, Nat.reduceMul, Nat.reduceLeDiff, Nat.reduceLT, Nat.reduceEqDiff, Nat.reduceBEq, reduceIte, reduceCtorEq, Int.reduceBEq, Int.reduceEq, Int.reduceLT, Int.reduceLE, Int.reduceGT, Int.reduceGE, Int.reduceAdd, Int.reduceSub, Int.reduceNeg, Int.reduceBNe, List.all_cons, List.all_nil, List.getElem?_cons_zero, List.getElem?_cons_succ, List.getElem?_nil, Option.map_some, List.length_cons, List.length_nil, List.set_cons_zero, List.set_cons_succ, List.map_cons, List.map_nil, List.drop_zero, List.drop_succ_cons, List.drop_nil, List.take_zero, List.take_succ_cons, List.take_nil, ite_true, ite_false, if_true, if_false, implies_true, forall_const, beq_self_eq_true, List.replicate_succ, List.replicate_zero, List.headD_cons, List.cons_append, List.nil_append, bne_self_eq_false]
    · have e2 : (((letG i).toNat : Int) == (c.toNat : Int)) = false := by
        rw [beq_eq_false_iff_ne]
        intro hq
        exact he (UInt8.toNat_inj.1 (by omega))
      have ih := six_loop (h := h) c k (i + 1) (by omega) (fun j hj' => by
        by_cases hq : j = i
        · subst hq; exact he
        · exact hj j (by omega))
      simp only [h1, hL, e2, w1, ih, ↓evD, evU, Nat.reduceAdd, Nat.reduceSub, Nat.reduceMul, Nat.reduceLeDiff, Nat.reduceLT, Nat.reduceEqDiff, Nat.reduceBEq, reduceIte, reduceCtorEq, Int.reduceBEq, Int.reduceEq, Int.reduceLT, Int.reduceLE, Int.reduceGT, Int.reduceGE, Int.reduceAdd, Int.reduceSub, Int.reduceNeg, Int.reduceBNe, List.all_cons, List.all_nil, List.getElem?_cons_zero, List.getElem?_cons_succ, List.getElem?_nil, Option.map_some, List.length_cons, List.length_nil, List.set_cons_zero, List.set_cons_succ, List.map_cons, List.map_nil, List.drop_zero, List.drop_succ_cons, List.drop_nil, List.take_zero, List.take_succ_cons, List.take_nil, ite_true, ite_false, if_true, if_false, implies_true, forall_const, beq_self_eq_true, List.replicate_succ, List.replicate_zero, List.headD_cons, List.cons_append, List.nil_append, bne_self_eq_false]
theorem six_spec {base : Nat} {h : Hp} (c : UInt8) : CallA T base 41 [.int .u8 c.toNat] h = some (.int .i64 (sixI c), h) := by
  rw [S41]
  exact six_loop (h := h) c 64 0 rfl (fun j hj => by omega)
end Go.Am.YthhceeaconflnaaDoor
namespace Go.Am.YthhceeaconflnaaDoor
set_option maxRecDepth 100000
set_option linter.unusedSimpArgs false
set_option linter.unusedVariables false
/-- What comes of bytes that are read, or not. -/
def unbR (s : List UInt8) (o : List UInt8) : Option (List UInt8) → PV
  | none => .tup [.nils, .bool false]
  | some l => if encL (o ++ l) = s then .tup [gD zF 1 (u8s (o ++ l)), .bool true] else .tup [.nils, .bool false]
theorem unb_end {h : Hp} (s o : List UInt8) (ho : o.length ≤ 1000000) : 
    (bnd2 (CallA T (size h) 24 [gV h zF 1 (u8s o)] (gH h 5 (u8s o))) fun x62 h63 => (binOp .neq x62 (.str s)).bnd fun x65 => condB x65 (finV false false (size h) [.nils, (.bool false)] h63) (finV false false (size h) [gV h zF 1 (u8s o), (.bool true)] h63)) = some (unbR s o (some []), h) := by
  have hB : ∀ base h', _ := fun base h' => base64_spec (base := base) (h := h') (gV_rd gzF h o) ho
  have hbd := below_gD gzF (size h) (u8s o) (Bu.below _ _)
  by_cases hq : encL o = s
  · have e1 : (encL o != s) = false := by simp [hq]
    simp only [hB, e1, frz_gV gzF, hbd, trunc_gH, unbR, hq, List.append_nil, ↓evD, evU, Nat.reduceAdd, Nat.reduceSub, Nat.reduceMul, Nat.reduceLeDiff, Nat.reduceLT, Nat.reduceEqDiff, Nat.reduceBEq, reduceIte, reduceCtorEq, Int.reduceBEq, Int.reduceEq, Int.reduceLT, Int.reduceLE, Int.reduceGT, Int.reduceGE, Int.reduceAdd, Int.reduceSub, Int.reduceNeg, Int.reduceBNe, List.all_cons, List.all_nil, List.getElem?_cons_zero, List.getElem?_cons_succ, List.getElem?_nil, Option.map_some, List.length_cons, List.length_nil, List.set_cons_zero, List.set_cons_succ, List.map_cons, List.map_nil, List.drop_zero, List.drop_succ_cons, List.drop_nil, List.take_zero, List.take_succ_cons, List.take_nil, ite_true, ite_false, if_true, if_false, implies_true, forall_const, beq_self_eq_true, List.replicate_succ, List.replicate_zero, List.headD_cons, List.cons_append, List.nil_append, bne_self_eq_false]
  · have e1 : (encL o != s) = true := by simp [hq]
    simp only [hB, e1, trunc_gH, unbR, hq, List.append_nil, ↓evD, evU, Nat.reduceAdd, Nat.reduceSub, Nat.reduceMul, Nat.reduceLeDiff, Nat.reduceLT, Nat.reduceEqDiff, Nat.reduceBEq, reduceIte, reduceCtorEq, Int.reduceBEq, Int.reduceEq, Int.reduceLT, Int.reduceLE, Int.reduceGT, Int.reduceGE, Int.reduceAdd, Int.reduceSub, Int.reduceNeg, Int.reduceBNe, List.all_cons, List.all_nil, List.getElem?_cons_zero, List.getElem?_cons_succ, List.getElem?_nil, Option.map_some, List.length_cons, List.length_nil, List.set_cons_zero, List.set_cons_succ, List.map_cons, List.map_nil, List.drop_zero, List.drop_succ_cons, List.drop_nil, List.take_zero, List.take_succ_cons, List.take_nil, ite_true, ite_false, if_true, if_false, implies_true, forall_const, beq_self_eq_true, List.replicate_succ, List.replicate_zero, List.headD_cons, List.cons_append, List.nil_append, bne_self_eq_false]
theorem unb_loop {h : Hp} (s : List UInt8) (hs : s.length ≤ 1000000) : ∀ (r p o : List UInt8) (n B : Nat), s = p ++ r → B < 4096 → n ≤ 6 → n % 2 = 0 → o.length ≤ p.length →
    P29_0 (size h) (size h) (.int .i64 p.length) (gV h zF 1 (u8s o)) (.int .i64 n) (.int .i64 B) (.str s) (gH h 5 (u8s o)) = some (unbR s o (unbL n B r), h)
  | [], p, o, n, B, hpr, hB, hn, hn2, ho => by
    rw [P29_0_eq]
    have e : p.length = s.length := by rw [hpr]; simp
    have h1 : ((p.length : Int) < (s.length : Int)) = False := by simp; omega
    have he := unb_end (h := h) s o (by omega)
    simp only [h1, unbL, ↓evD, evU, Nat.reduceAdd, Nat.reduceSub, Nat.reduceMul, Nat.reduceLeDiff, Nat.reduceLT, Nat.reduceEqDiff, Nat.reduceBEq, reduceIte, reduceCtorEq, Int.reduceBEq, Int.reduceEq, Int.reduceLT, Int.reduceLE, Int.reduceGT, Int.reduceGE, Int.reduceAdd, Int.reduceSub, Int.reduceNeg, Int.reduceBNe, List.all_cons, List.all_nil, List.getElem?_cons_zero, List.getElem?_cons_succ, List.getElem?_nil, Option.map_some, List.length_cons, List.length_nil, List.set_cons_zero, List.set_cons_succ, List.map_cons, List.map_nil, List.drop_zero, List.drop_succ_cons, List.drop_nil, List.take_zero, List.take_succ_cons, List.take_nil, ite_true, ite_false, if_true, if_false, implies_true, forall_const, beq_self_eq_true, List.replicate_succ, List.replicate_zero, List.headD_cons, List.cons_append, List.nil_append, bne_self_eq_false]
    exact he
  | x :: r, p, o, n, B, hpr, hB, hn, hn2, ho => by
    rw [P29_0_eq]
    have el : s.length = p.length + (r.length + 1) := by rw [hpr]; simp
    have h1 : ((p.length : Int) < (s.length : Int)) = True := by simp; omega
    have hx : s[p.length]? = some x := by rw [hpr]; simp
    have hix := ix_nat .i64 p.length s.length (by omega)
    have hx256 := x.toNat_lt
    by_cases hq : x = 61
    · have e1 : ((x.toNat : Int) != 61) = false := by rw [hq]; rfl
      have he := unb_end (h := h) s o (by omega)
      rw [unbL, if_pos hq]
      simp only [h1, hix, hx, e1, ↓evD, evU, Nat.reduceAdd, Nat.reduceSub, Nat.reduceMul, Nat.reduceLeDiff, Nat.reduceLT, Nat.reduceEqDiff, Nat.reduceBEq, reduceIte, reduceCtorEq, Int.reduceBEq, Int.reduceEq, Int.reduceLT, Int.reduceLE, Int.reduceGT, Int.reduceGE, Int.reduceAdd, Int.reduceSub, Int.reduceNeg, Int.reduceBNe, List.all_cons, List.all_nil, List.getElem?_cons_zero, List.getElem?_cons_succ, List.getElem?_nil, Option.map_some, List.length_cons, List.length_nil, List.set_cons_zero, List.set_cons_succ, List.map_cons, List.map_nil, List.drop_zero, List.drop_succ_cons, List.drop_nil, List.take_zero, List.take_succ_cons, List.take_nil, ite_true, ite_false, if_true, if_false, implies_true, forall_const, beq_self_eq_true, List.replicate_succ, List.replicate_zero, List.headD_cons, List.cons_append, List.nil_append, bne_self_eq_false]
      exact he
    · have e1 : ((x.toNat : Int) != 61) = true := by
        rw [bne_iff_ne]
        intro q
        have : x.toNat = (61 : UInt8).toNat := by have z : (61 : UInt8).toNat = 61 := rfl
                                                  omega
        exact hq (UInt8.toNat_inj.1 this)
      have hS : ∀ base h, _ := fun base h => six_spec (base := base) (h := h) x
      rw [unbL, if_neg hq]
      by_cases h6 : sixI x < 0
      · rw [if_pos h6]
        simp only [h1, hix, hx, e1, hS, h6, trunc_gH, unbR, ↓evD, evU, Nat.reduceAdd, Nat.reduceSub, Nat.reduceMul, Nat.reduceLeDiff, Nat.reduceLT, Nat.reduceEqDiff, Nat.reduceBEq, reduceIte, reduceCtorEq, Int.reduceBEq, Int.reduceEq, Int.reduceLT, Int.reduceLE, Int.reduceGT, Int.reduceGE, Int.reduceAdd, Int.reduceSub, Int.reduceNeg, Int.reduceBNe, List.all_cons, List.all_nil, List.getElem?_cons_zero, List.getElem?_cons_succ, List.getElem?_nil, Option.map_some, List.length_cons, List.length_nil, List.set_cons_zero, List.set_cons_succ, List.map_cons, List.map_nil, List.drop_zero, List.drop_succ_cons, List.drop_nil, List.take_zero, List.take_succ_cons, List.take_nil, ite_true, ite_false, if_true, if_false, implies_true, forall_const, beq_self_eq_true, List.replicate_succ, List.replicate_zero, List.headD_cons, List.cons_append, List.nil_append, bne_self_eq_false]
      · rw [if_neg h6]
        obtain ⟨m, hm, em, _⟩ := six_ok x h6
        rw [em] at hS h6 ⊢
        have h7 : ((m : Int) < 0) = False := by simp
        have w1 : IntKind.i64.wrap ((B : Int) * 64) = ((B * 64 : Nat) : Int) := by rw [wrap_small] <;> omega
        have w2 : IntKind.i64.wrap (((B * 64 : Nat) : Int) + (m : Int)) = ((B * 64 + m : Nat) : Int) := by rw [wrap_small] <;> omega
        have w3 : IntKind.i64.wrap ((n : Int) + 6) = ((n + 6 : Nat) : Int) := by rw [wrap_small] <;> omega
        have w5 : IntKind.i64.wrap ((p.length : Int) + 1) = ((p.length + 1 : Nat) : Int) := by rw [wrap_small] <;> omega
        have a1 : intBits .and .i64 ((B * 64 + m : Nat) : Int) 4095 = _ := and_i64 12 (x := B * 64 + m) (by omega) (by decide)
        have e2 : 2 ^ 12 = 4096 := rfl
        rw [e2] at a1
        have elp : (p ++ [x]).length = p.length + 1 := by simp
        have hpr' : s = (p ++ [x]) ++ r := by rw [hpr]; simp
        simp only [Int.toNat_natCast]
        generalize hV : (B * 64 + m) % 4096 = V at *
        have hVb : V < 4096 := by omega
        by_cases h8 : 8 ≤ n + 6
        · have h9 : (((n + 6 : Nat) : Int) ≥ 8) = True := by simp; omega
          have w4 : IntKind.i64.wrap (((n + 6 : Nat) : Int) - 8) = ((n - 2 : Nat) : Int) := by rw [wrap_small] <;> omega
          have s1 := shr_kind (k := .i64) (x := V) (i := n - 2) (by have : IntKind.i64.bits = 64 := rfl; omega)
          have u1 : IntKind.u8.wrap ((V / 2 ^ (n - 2) : Nat) : Int) = ((UInt8.ofNat (V / 2 ^ (n - 2))).toNat : Int) := by rw [wrap_u8, UInt8.toNat_ofNat']
          have g1 := gOne (h := h) (T := 5) gzF o (UInt8.ofNat (V / 2 ^ (n - 2))) (by unfold lim2; omega)
          have ih := unb_loop (h := h) s hs r (p ++ [x]) (o ++ [UInt8.ofNat (V / 2 ^ (n - 2))]) (n - 2) V hpr' hVb (by omega) (by omega) (by simp; omega)
          rw [elp] at ih
          rw [if_pos h8]
          simp only [h1, hix, hx, e1, hS, h7, w1, w2, w3, a1, h9, w4, s1, u1, g1, w5, ih, intOp_and, ↓evD, evU, Nat.reduceAdd, Nat.reduceSub, Nat.reduceMul, Nat.reduceLeDiff, Nat.reduceLT, Nat.reduceEqDiff, Nat.reduceBEq, reduceIte, reduceCtorEq, Int.reduceBEq, Int.reduceEq, Int.reduceLT, Int.reduceLE, Int.reduceGT, Int.reduceGE, Int.reduceAdd, Int.reduceSub, Int.reduceNeg, Int.reduceBNe, List.all_cons, List.all_nil, List.getElem?_cons_zero, List.getElem?_cons_succ, List.getElem?_nil, Option.map_some, List.length_cons, List.length_nil, List.set_cons_zero, List.set_cons_succ, List.map_cons, List.map_nil, List.drop_zero, List.drop_succ_cons, List.drop_nil, List.take_zero, List.take_succ_cons, List.take_nil, ite_true, ite_false, if_true, if_false, implies_true, forall_const, beq_self_eq_true, List.replicate_succ, List.replicate_zero, List.headD_cons, List.cons_append, List.nil_append, bne_self_eq_false]
          cases unbL (n - 2) V r with
          | none => rfl
          | some l => simp only [unbR, Option.map_some, List.append_assoc, List.singleton_append]
        · have h9 : (((n + 6 : Nat) : Int) ≥ 8) = False := by simp; omega
          have ih := unb_loop (h := h) s hs r (p ++ [x]) o (n + 6) V hpr' hVb (by omega) (by omega) (by simp; omega)
          rw [elp] at ih
          rw [if_neg h8]
          simp only [h1, hix, hx, e1, hS, h7, w1, w2, w3, a1, h9, w5, ih, intOp_and, ↓evD, evU, Nat.reduceAdd, Nat.reduceSub, Nat.reduceMul, Nat.reduceLeDiff, Nat.reduceLT, Nat.reduceEqDiff, Nat.reduceBEq, reduceIte, reduceCtorEq, Int.reduceBEq, Int.reduceEq, Int.reduceLT, Int.reduceLE, Int.reduceGT, Int.reduceGE, Int.reduceAdd, Int.reduceSub, Int.reduceNeg, Int.reduceBNe, List.all_cons, List.all_nil, List.getElem?_cons_zero, List.getElem?_cons_succ, List.getElem?_nil, Option.map_some, List.length_cons, List.length_nil, List.set_cons_zero, List.set_cons_succ, List.map_cons, List.map_nil, List.drop_zero, List.drop_succ_cons, List.drop_nil, List.take_zero, List.take_succ_cons, List.take_nil, ite_true, ite_false, if_true, if_false, implies_true, forall_const, beq_self_eq_true, List.replicate_succ, List.replicate_zero, List.headD_cons, List.cons_append, List.nil_append, bne_self_eq_false]
/-- What the reference answers of signs. -/
def unbV (s : List UInt8) : PV := match decL s with
  | none => .nils
  | some l => gD zF 1 (u8s l)
theorem unbase64_spec {base : Nat} {h : Hp} {s : List UInt8} (hs : s.length ≤ 1000000) : CallA T base 29 [.str s] h = some (.tup [unbV s, .bool (decL s).isSome], h) := by
  rw [S29]
  have := unb_loop (h := h) s hs s [] [] 0 0 rfl (by omega) (by omega) (by omega) (by simp)
  have e : unbR s [] (unbL 0 0 s) = .tup [unbV s, .bool (decL s).isSome] := by
    unfold unbV
    rw [← unb_dec s]
    cases unbL 0 0 s with
    | none => rfl
    | some l =>
      simp only [unbR, List.nil_append]
      by_cases hq : encL l = s
      · rw [if_pos hq, if_pos hq]; rfl
      · rw [if_neg hq, if_neg hq]; rfl
  rw [e] at this
  simp only [↓evD, evU, Nat.reduceAdd, Nat.reduceSub, Nat.reduceMul, Nat.reduceLeDiff, Nat.reduceLT, Nat.reduceEqDiff, Nat.reduceBEq, reduceIte, reduceCtorEq, Int.reduceBEq, Int.reduceEq, Int.reduceLT, Int.reduceLE, Int.reduceGT, Int.reduceGE, Int.reduceAdd, Int.reduceSub, Int.reduceNeg, Int.reduceBNe, List.all_cons, List.all_nil, List.getElem?_cons_zero, List.getElem?_cons_succ, List.getElem?_nil, Option.map_some, List.length_cons, List.length_nil, List.set_cons_zero, List.set_cons_succ, List.map_cons, List.map_nil, List.drop_zero, List.drop_succ_cons, List.drop_nil, List.take_zero, List.take_succ_cons, List.take_nil, ite_true, ite_false, if_true, if_false, implies_true, forall_const, beq_self_eq_true, List.replicate_succ, List.replicate_zero, List.headD_cons, List.cons_append, List.nil_append, bne_self_eq_false]
  exact this
end Go.Am.YthhceeaconflnaaDoor
namespace Go.Am.YthhceeaconflnaaDoor
set_option maxRecDepth 100000
set_option linter.unusedSimpArgs false
set_option linter.unusedVariables false
def trimN (a b c d : UInt8) : Nat := if d ≠ 61 then 4 else if c ≠ 61 then 3 else if b ≠ 61 then 2 else if a ≠ 61 then 1 else 0
theorem trim_len (a b c d : UInt8) : (Lib.trimRightB [a, b, c, d] 61).length = trimN a b c d := by
  unfold Lib.trimRightB trimN
  cases hd : (d == 61) <;> cases hc : (c == 61) <;> cases hb : (b == 61) <;> cases ha : (a == 61) <;> simp only [List.reverse_cons, List.reverse_nil, List.nil_append, List.cons_append, List.dropWhile, ha, hb, hc, hd] <;>
    simp only [beq_iff_eq, beq_eq_false_iff_ne] at ha hb hc hd <;> simp [ha, hb, hc, hd]
theorem trim_spec {base : Nat} {h : Hp} (a b c d : UInt8) : ∃ s, s.length = trimN a b c d ∧ CallA T base 57 [.str [a, b, c, d], .str [61]] h = some (.str s, h) :=
  ⟨Lib.trimRightB [a, b, c, d] 61, trim_len a b c d, by rw [CallA_prim T_57]; simp [pTrimRight, primEnd, Option.bnd]⟩
theorem index_spec {base : Nat} {h : Hp} (c : UInt8) : CallA T base 58 [.str sgn, .int .u8 c.toNat] h = some (.int .i64 (sixI c), h) := by
  rw [CallA_prim T_58]
  simp [pIndexByte, primEnd, Option.bnd, sixI]
theorem g6_in {h : Hp} {s : List UInt8} {c : UInt8} (i n x m : Nat) (hi : i < 4) (hn : i < n) (hc : s[i]? = some c) (hm : sixI c = m) (hm2 : m < 64) (hx : x < 16777216) :
    P48_0 (size h) (size h) (.int .i64 i) (.str s) (.int .i64 n) (.int .u32 x) h = P48_0 (size h) (size h) (.int .i64 ((i + 1 : Nat) : Int)) (.str s) (.int .i64 n) (.int .u32 ((x * 64 + m : Nat) : Int)) h := by
  rw [P48_0_eq]
  have h1 : ((i : Int) < 4) = True := by simp; omega
  have h2 : ((i : Int) < (n : Int)) = True := by simp; omega
  have hi' := (List.getElem?_eq_some_iff.1 hc).1
  have hix := ix_nat .i64 i s.length hi'
  have hI : ∀ base h, _ := fun base h => index_spec (base := base) (h := h) c
  have hs : [65, 66, 67, 68, 69, 70, 71, 72, 73, 74, 75, 76, 77, 78, 79, 80, 81, 82, 83, 84, 85, 86, 87, 88, 89, 90, 97, 98, 99, 100, 101, 102, 103, 104, 105, 106, 107, 108, 109, 110, 111, 112, 113, 114, 115, 116, 117, 118, 119, 120, 121, 122, 48, 49, 50, 51, 52, 53, 54, 55, 56, 57, 43, 47] = sgn := rfl
  rw [hm] at hI
  have h3 : ((m : Int) < 0) = False := by simp
  have s1 : shiftOp .shl .u32 (x : Int) 6 = _ := shl_u32 (x := x) (i := 6) (by omega) (by omega)
  have w1 : IntKind.u32.wrap (m : Int) = m := wrap_u32 _ (by omega)
  have o1 := or_u32 (i := 6) (x := x) (c := m) (by omega) (by omega)
  have e1 : (2 ^ 6 * x + m : Nat) = x * 64 + m := by omega
  rw [e1] at o1
  have w3 : IntKind.i64.wrap ((i : Int) + 1) = ((i + 1 : Nat) : Int) := by rw [wrap_small] <;> omega
  simp only [h1, h2, h3, hs, hix, hc, hI, s1, w1, o1, w3, intOp_or, ↓evD, evU, Nat.reduceAdd, Nat.reduceSub, Nat.reduceMul, Nat.reduceLeDiff, Nat.reduceLT, Nat.reduceEqDiff, Nat.reduceBEq, reduceIte, reduceCtorEq, Int.reduceBEq, Int.reduceEq, Int.reduceLT, Int.reduceLE, Int.reduceGT, Int.reduceGE, Int.reduceAdd, Int.reduceSub, Int.reduceNeg, Int.reduceBNe, List.all_cons, List.all_nil, List.getElem?_cons_zero, List.getElem?_cons_succ, List.getElem?_nil, Option.map_some, List.length_cons, List.length_nil, List.set_cons_zero, List.set_cons_succ, List.map_cons, List.map_nil, List.drop_zero, List.drop_succ_cons, List.drop_nil, List.take_zero, List.take_succ_cons, List.take_nil, ite_true, ite_false, if_true, if_false, implies_true, forall_const, beq_self_eq_true, List.replicate_succ, List.replicate_zero, List.headD_cons, List.cons_append, List.nil_append, bne_self_eq_false]
theorem g6_bad {h : Hp} {s : List UInt8} {c : UInt8} (i n x : Nat) (hi : i < 4) (hn : i < n) (hc : s[i]? = some c) (hm : sixI c < 0) (hx : x < 16777216) :
    P48_0 (size h) (size h) (.int .i64 i) (.str s) (.int .i64 n) (.int .u32 x) h = some (.tup [.nils, .bool false], h) := by
  rw [P48_0_eq]
  have h1 : ((i : Int) < 4) = True := by simp; omega
  have h2 : ((i : Int) < (n : Int)) = True := by simp; omega
  have hi' := (List.getElem?_eq_some_iff.1 hc).1
  have hix := ix_nat .i64 i s.length hi'
  have hI : ∀ base h, _ := fun base h => index_spec (base := base) (h := h) c
  have hs : [65, 66, 67, 68, 69, 70, 71, 72, 73, 74, 75, 76, 77, 78, 79, 80, 81, 82, 83, 84, 85, 86, 87, 88, 89, 90, 97, 98, 99, 100, 101, 102, 103, 104, 105, 106, 107, 108, 109, 110, 111, 112, 113, 114, 115, 116, 117, 118, 119, 120, 121, 122, 48, 49, 50, 51, 52, 53, 54, 55, 56, 57, 43, 47] = sgn := rfl
  have s1 : shiftOp .shl .u32 (x : Int) 6 = _ := shl_u32 (x := x) (i := 6) (by omega) (by omega)
  simp only [h1, h2, hm, hs, hix, hc, hI, s1, ↓evD, evU, Nat.reduceAdd, Nat.reduceSub, Nat.reduceMul, Nat.reduceLeDiff, Nat.reduceLT, Nat.reduceEqDiff, Nat.reduceBEq, reduceIte, reduceCtorEq, Int.reduceBEq, Int.reduceEq, Int.reduceLT, Int.reduceLE, Int.reduceGT, Int.reduceGE, Int.reduceAdd, Int.reduceSub, Int.reduceNeg, Int.reduceBNe, List.all_cons, List.all_nil, List.getElem?_cons_zero, List.getElem?_cons_succ, List.getElem?_nil, Option.map_some, List.length_cons, List.length_nil, List.set_cons_zero, List.set_cons_succ, List.map_cons, List.map_nil, List.drop_zero, List.drop_succ_cons, List.drop_nil, List.take_zero, List.take_succ_cons, List.take_nil, ite_true, ite_false, if_true, if_false, implies_true, forall_const, beq_self_eq_true, List.replicate_succ, List.replicate_zero, List.headD_cons, List.cons_append, List.nil_append, bne_self_eq_false]
theorem g6_pad {h : Hp} {s : PV} (i n x : Nat) (hi : i < 4) (hn : n ≤ i) (hx : x < 16777216) :
    P48_0 (size h) (size h) (.int .i64 i) s (.int .i64 n) (.int .u32 x) h = P48_0 (size h) (size h) (.int .i64 ((i + 1 : Nat) : Int)) s (.int .i64 n) (.int .u32 ((x * 64 : Nat) : Int)) h := by
  rw [P48_0_eq]
  have h1 : ((i : Int) < 4) = True := by simp; omega
  have h2 : ((i : Int) < (n : Int)) = False := by simp; omega
  have s1 : shiftOp .shl .u32 (x : Int) 6 = _ := shl_u32 (x := x) (i := 6) (by omega) (by omega)
  have e1 : (2 ^ 6 * x : Nat) = x * 64 := by omega
  rw [e1] at s1
  have w3 : IntKind.i64.wrap ((i : Int) + 1) = ((i + 1 : Nat) : Int) := by rw [wrap_small] <;> omega
  simp only [h1, h2, s1, w3, ↓evD, evU, Nat.reduceAdd, Nat.reduceSub, Nat.reduceMul, Nat.reduceLeDiff, Nat.reduceLT, Nat.reduceEqDiff, Nat.reduceBEq, reduceIte, reduceCtorEq, Int.reduceBEq, Int.reduceEq, Int.reduceLT, Int.reduceLE, Int.reduceGT, Int.reduceGE, Int.reduceAdd, Int.reduceSub, Int.reduceNeg, Int.reduceBNe, List.all_cons, List.all_nil, List.getElem?_cons_zero, List.getElem?_cons_succ, List.getElem?_nil, Option.map_some, List.length_cons, List.length_nil, List.set_cons_zero, List.set_cons_succ, List.map_cons, List.map_nil, List.drop_zero, List.drop_succ_cons, List.drop_nil, List.take_zero, List.take_succ_cons, List.take_nil, ite_true, ite_false, if_true, if_false, implies_true, forall_const, beq_self_eq_true, List.replicate_succ, List.replicate_zero, List.headD_cons, List.cons_append, List.nil_append, bne_self_eq_false]
def b3 (x : Nat) : List UInt8 := [UInt8.ofNat (x / 65536), UInt8.ofNat (x / 256), UInt8.ofNat x]
theorem g6_end {h : Hp} {s : PV} (n x : Nat) (hn : 2 ≤ n) (hn4 : n ≤ 4) (hx : x < 16777216) :
    P48_0 (size h) (size h) (.int .i64 ((4 : Nat) : Int)) s (.int .i64 n) (.int .u32 x) h =
    P48_1 (size h) (size h) (.int .i64 ((0 : Nat) : Int)) (.sl .full 1 (u8s ((b3 x).drop (n - 1)))) (.int .i64 n) (.sl .full 1 (u8s (b3 x))) (.int .i64 ((((b3 x).drop (n - 1)).length : Nat) : Int)) h := by
  rw [P48_0_eq]
  have h1 : (((4 : Nat) : Int) < 4) = False := by simp
  have b16 : shiftOp .shr .u32 (x : Int) 16 = _ := shr_kind (k := .u32) (x := x) (i := 16) (by decide)
  have b8 : shiftOp .shr .u32 (x : Int) 8 = _ := shr_kind (k := .u32) (x := x) (i := 8) (by decide)
  have u (y : Nat) : IntKind.u8.wrap (y : Int) = ((UInt8.ofNat y).toNat : Int) := by rw [wrap_u8, UInt8.toNat_ofNat']
  have w1 : IntKind.i64.wrap ((n : Int) - 1) = ((n - 1 : Nat) : Int) := by rw [wrap_small] <;> omega
  have e3 : [PV.int .u8 ((UInt8.ofNat (x / 2 ^ 16)).toNat : Int), .int .u8 ((UInt8.ofNat (x / 2 ^ 8)).toNat : Int), .int .u8 ((UInt8.ofNat x).toNat : Int)] = u8s (b3 x) := rfl
  have hb := bdV_nat 3 .i64 (n - 1) (by omega)
  have hl : (u8s (b3 x)).length = 3 := rfl
  have ht : ((u8s (b3 x)).drop (n - 1)).take (3 - (n - 1)) = u8s ((b3 x).drop (n - 1)) := by
    rw [List.take_of_length_le (by rw [List.length_drop, hl]; exact Nat.le_refl _), Bu.drop]
  simp only [h1, b16, b8, u, w1, e3, hb, hl, ht, Bu.len, ↓evD, evU, Nat.reduceAdd, Nat.reduceSub, Nat.reduceMul, Nat.reduceLeDiff, Nat.reduceLT, Nat.reduceEqDiff, Nat.reduceBEq, reduceIte, reduceCtorEq, Int.reduceBEq, Int.reduceEq, Int.reduceLT, Int.reduceLE, Int.reduceGT, Int.reduceGE, Int.reduceAdd, Int.reduceSub, Int.reduceNeg, Int.reduceBNe, List.all_cons, List.all_nil, List.getElem?_cons_zero, List.getElem?_cons_succ, List.getElem?_nil, Option.map_some, List.length_cons, List.length_nil, List.set_cons_zero, List.set_cons_succ, List.map_cons, List.map_nil, List.drop_zero, List.drop_succ_cons, List.drop_nil, List.take_zero, List.take_succ_cons, List.take_nil, ite_true, ite_false, if_true, if_false, implies_true, forall_const, beq_self_eq_true, List.replicate_succ, List.replicate_zero, List.headD_cons, List.cons_append, List.nil_append, bne_self_eq_false]
  rfl
theorem zero_loop {h : Hp} (n : Nat) (hn : 2 ≤ n) (hn4 : n ≤ 4) (l t : List UInt8) (hl : l.length = 3) (o : Own) : ∀ (r p : List UInt8), t = p ++ r → t.length ≤ 3 →
    P48_1 (size h) (size h) (.int .i64 p.length) (.sl o 1 (u8s t)) (.int .i64 n) (.sl .full 1 (u8s l)) (.int .i64 t.length) h =
      some (if r.all (· == 0) then .tup [.sl (if n = 4 then .full else .no) 1 (u8s (l.take (n - 1))), .bool true] else .tup [.nils, .bool false], h)
  | [], p, hp, ht => by
    rw [P48_1_eq]
    have e : p.length = t.length := by rw [hp]; simp
    have h1 : ((p.length : Int) < (t.length : Int)) = False := by simp; omega
    have w1 : IntKind.i64.wrap ((n : Int) - 1) = ((n - 1 : Nat) : Int) := by rw [wrap_small] <;> omega
    have hb := bdV_nat 3 .i64 (n - 1) (by omega)
    have hf : (n - 1 == 3) = decide (n = 4) := by
      by_cases hq : n = 4
      · subst hq; rfl
      · rw [decide_eq_false hq, beq_eq_false_iff_ne]; omega
    have hl3 : (u8s l).length = 3 := by rw [Bu.len, hl]
    have k1 : Own.strip (if n = 4 then Own.full else .no) = (if n = 4 then Own.full else .no) := by split <;> rfl
    have k2 : Own.below (size h) (if n = 4 then Own.full else .no) = true := by split <;> rfl
    simp only [h1, w1, hb, hl3, hf, k1, k2, Bu.take, Bu.below, Nat.sub_zero, List.all_nil, ↓evD, evU, Nat.reduceAdd, Nat.reduceSub, Nat.reduceMul, Nat.reduceLeDiff, Nat.reduceLT, Nat.reduceEqDiff, Nat.reduceBEq, reduceIte, reduceCtorEq, Int.reduceBEq, Int.reduceEq, Int.reduceLT, Int.reduceLE, Int.reduceGT, Int.reduceGE, Int.reduceAdd, Int.reduceSub, Int.reduceNeg, Int.reduceBNe, List.all_cons, List.all_nil, List.getElem?_cons_zero, List.getElem?_cons_succ, List.getElem?_nil, Option.map_some, List.length_cons, List.length_nil, List.set_cons_zero, List.set_cons_succ, List.map_cons, List.map_nil, List.drop_zero, List.drop_succ_cons, List.drop_nil, List.take_zero, List.take_succ_cons, List.take_nil, ite_true, ite_false, if_true, if_false, implies_true, forall_const, beq_self_eq_true, List.replicate_succ, List.replicate_zero, List.headD_cons, List.cons_append, List.nil_append, bne_self_eq_false]
  | x :: r, p, hp, ht => by
    rw [P48_1_eq]
    have el : t.length = p.length + (r.length + 1) := by rw [hp]; simp
    have h1 : ((p.length : Int) < (t.length : Int)) = True := by simp; omega
    have hx : t[p.length]? = some x := by rw [hp]; simp
    have hi := (rd_sl o t).idx (k := .i64) hx
    by_cases hq : x = 0
    · have e1 : ((x.toNat : Int) != 0) = false := by rw [hq]; rfl
      have e2 : (x == 0) = true := by simp [hq]
      have elx : (p ++ [x]).length = p.length + 1 := by simp
      have w1 : IntKind.i64.wrap ((p.length : Int) + 1) = (((p ++ [x]).length : Nat) : Int) := by rw [elx, wrap_small] <;> omega
      have ih := zero_loop (h := h) n hn hn4 l t hl o r (p ++ [x]) (by rw [hp]; simp) ht
      simp only [h1, hi, e1, e2, w1, ih, List.all_cons, ↓evD, evU, Nat.reduceAdd, Nat.reduceSub, Nat.reduceMul, Nat.reduceLeDiff, Nat.reduceLT, Nat.reduceEqDiff, Nat.reduceBEq, reduceIte, reduceCtorEq, Int.reduceBEq, Int.reduceEq, Int.reduceLT, Int.reduceLE, Int.reduceGT, Int.reduceGE, Int.reduceAdd, Int.reduceSub, Int.reduceNeg, Int.reduceBNe, List.all_cons, List.all_nil, List.getElem?_cons_zero, List.getElem?_cons_succ, List.getElem?_nil, Option.map_some, List.length_cons, List.length_nil, List.set_cons_zero, List.set_cons_succ, List.map_cons, List.map_nil, List.drop_zero, List.drop_succ_cons, List.drop_nil, List.take_zero, List.take_succ_cons, List.take_nil, ite_true, ite_false, if_true, if_false, implies_true, forall_const, beq_self_eq_true, List.replicate_succ, List.replicate_zero, List.headD_cons, List.cons_append, List.nil_append, bne_self_eq_false]
    · have e1 : ((x.toNat : Int) != 0) = true := by
        rw [bne_iff_ne]
        intro q
        have : x.toNat = (0 : UInt8).toNat := by have z : (0 : UInt8).toNat = 0 := rfl
                                                 omega
        exact hq (UInt8.toNat_inj.1 this)
      have e2 : (x == 0) = false := by simp [hq]
      simp only [h1, hi, e1, e2, List.all_cons, ↓evD, evU, Nat.reduceAdd, Nat.reduceSub, Nat.reduceMul, Nat.reduceLeDiff, Nat.reduceLT, Nat.reduceEqDiff, Nat.reduceBEq, reduceIte, reduceCtorEq, Int.reduceBEq, Int.reduceEq, Int.reduceLT, Int.reduceLE, Int.reduceGT, Int.reduceGE, Int.reduceAdd, Int.reduceSub, Int.reduceNeg, Int.reduceBNe, List.all_cons, List.all_nil, List.getElem?_cons_zero, List.getElem?_cons_succ, List.getElem?_nil, Option.map_some, List.length_cons, List.length_nil, List.set_cons_zero, List.set_cons_succ, List.map_cons, List.map_nil, List.drop_zero, List.drop_succ_cons, List.drop_nil, List.take_zero, List.take_succ_cons, List.take_nil, ite_true, ite_false, if_true, if_false, implies_true, forall_const, beq_self_eq_true, List.replicate_succ, List.replicate_zero, List.headD_cons, List.cons_append, List.nil_append, bne_self_eq_false]
/-- What group answers. -/
def grpV : Option (List UInt8) → PV
  | none => .tup [.nils, .bool false]
  | some l => .tup [.sl (if l.length = 3 then .full else .no) 1 (u8s l), .bool true]
theorem u8_zero {x : Nat} : (UInt8.ofNat x == 0) = decide (x % 256 = 0) := by
  by_cases hq : x % 256 = 0
  · rw [decide_eq_true hq, beq_iff_eq]
    apply UInt8.toNat_inj.1
    rw [UInt8.toNat_ofNat']; exact hq
  · rw [decide_eq_false hq, beq_eq_false_iff_ne]
    intro h
    have := congrArg UInt8.toNat h
    rw [UInt8.toNat_ofNat'] at this
    exact hq this
theorem u8_congr {x y : Nat} (h : x % 256 = y % 256) : UInt8.ofNat x = UInt8.ofNat y := by
  apply UInt8.toNat_inj.1
  rw [UInt8.toNat_ofNat', UInt8.toNat_ofNat']; exact h
theorem group_low {base : Nat} {h : Hp} (a b c d : UInt8) (last : Bool) (hn : trimN a b c d < 2 ∨ (trimN a b c d < 4 ∧ last = false)) : CallA T base 48 [.str [a, b, c, d], .bool last] h = some (.tup [.nils, .bool false], h) := by
  rw [S48]
  obtain ⟨s, hs, ht⟩ := trim_spec (base := size h) (h := h) a b c d
  generalize trimN a b c d = n at *
  by_cases h2 : n < 2
  · have c2 : ((s.length : Int) < 2) = True := by simp; omega
    simp only [ht, c2, ↓evD, evU, Nat.reduceAdd, Nat.reduceSub, Nat.reduceMul, Nat.reduceLeDiff, Nat.reduceLT, Nat.reduceEqDiff, Nat.reduceBEq, reduceIte, reduceCtorEq, Int.reduceBEq, Int.reduceEq, Int.reduceLT, Int.reduceLE, Int.reduceGT, Int.reduceGE, Int.reduceAdd, Int.reduceSub, Int.reduceNeg, Int.reduceBNe, List.all_cons, List.all_nil, List.getElem?_cons_zero, List.getElem?_cons_succ, List.getElem?_nil, Option.map_some, List.length_cons, List.length_nil, List.set_cons_zero, List.set_cons_succ, List.map_cons, List.map_nil, List.drop_zero, List.drop_succ_cons, List.drop_nil, List.take_zero, List.take_succ_cons, List.take_nil, ite_true, ite_false, if_true, if_false, implies_true, forall_const, beq_self_eq_true, List.replicate_succ, List.replicate_zero, List.headD_cons, List.cons_append, List.nil_append, bne_self_eq_false]
  · have c2 : ((s.length : Int) < 2) = False := by simp; omega
    obtain ⟨h4, rfl⟩ : n < 4 ∧ last = false := hn.resolve_left h2
    have c4 : ((s.length : Int) < 4) = True := by simp; omega
    simp only [ht, c2, c4, ↓evD, evU, Nat.reduceAdd, Nat.reduceSub, Nat.reduceMul, Nat.reduceLeDiff, Nat.reduceLT, Nat.reduceEqDiff, Nat.reduceBEq, reduceIte, reduceCtorEq, Int.reduceBEq, Int.reduceEq, Int.reduceLT, Int.reduceLE, Int.reduceGT, Int.reduceGE, Int.reduceAdd, Int.reduceSub, Int.reduceNeg, Int.reduceBNe, List.all_cons, List.all_nil, List.getElem?_cons_zero, List.getElem?_cons_succ, List.getElem?_nil, Option.map_some, List.length_cons, List.length_nil, List.set_cons_zero, List.set_cons_succ, List.map_cons, List.map_nil, List.drop_zero, List.drop_succ_cons, List.drop_nil, List.take_zero, List.take_succ_cons, List.take_nil, ite_true, ite_false, if_true, if_false, implies_true, forall_const, beq_self_eq_true, List.replicate_succ, List.replicate_zero, List.headD_cons, List.cons_append, List.nil_append, bne_self_eq_false]
theorem group_go {base : Nat} {h : Hp} (a b c d : UInt8) (last : Bool) (n : Nat) (hn : trimN a b c d = n) (h2 : 2 ≤ n) (h4 : n = 4 ∨ last = true) :
    CallA T base 48 [.str [a, b, c, d], .bool last] h = P48_0 (size h) (size h) (.int .i64 ((0 : Nat) : Int)) (.str [a, b, c, d]) (.int .i64 n) (.int .u32 ((0 : Nat) : Int)) h := by
  rw [S48]
  obtain ⟨s, hs, ht⟩ := trim_spec (base := size h) (h := h) a b c d
  rw [hn] at hs
  have c2 : ((s.length : Int) < 2) = False := by simp; omega
  subst hs
  by_cases h4' : s.length < 4
  · have hl : last = true := h4.resolve_left (by omega)
    have c4 : ((s.length : Int) < 4) = True := by simp; omega
    subst hl
    simp only [ht, c2, c4, ↓evD, evU, Nat.reduceAdd, Nat.reduceSub, Nat.reduceMul, Nat.reduceLeDiff, Nat.reduceLT, Nat.reduceEqDiff, Nat.reduceBEq, reduceIte, reduceCtorEq, Int.reduceBEq, Int.reduceEq, Int.reduceLT, Int.reduceLE, Int.reduceGT, Int.reduceGE, Int.reduceAdd, Int.reduceSub, Int.reduceNeg, Int.reduceBNe, List.all_cons, List.all_nil, List.getElem?_cons_zero, List.getElem?_cons_succ, List.getElem?_nil, Option.map_some, List.length_cons, List.length_nil, List.set_cons_zero, List.set_cons_succ, List.map_cons, List.map_nil, List.drop_zero, List.drop_succ_cons, List.drop_nil, List.take_zero, List.take_succ_cons, List.take_nil, ite_true, ite_false, if_true, if_false, implies_true, forall_const, beq_self_eq_true, List.replicate_succ, List.replicate_zero, List.headD_cons, List.cons_append, List.nil_append, bne_self_eq_false]
    rfl
  · have c4 : ((s.length : Int) < 4) = False := by simp; omega
    simp only [ht, c2, c4, ↓evD, evU, Nat.reduceAdd, Nat.reduceSub, Nat.reduceMul, Nat.reduceLeDiff, Nat.reduceLT, Nat.reduceEqDiff, Nat.reduceBEq, reduceIte, reduceCtorEq, Int.reduceBEq, Int.reduceEq, Int.reduceLT, Int.reduceLE, Int.reduceGT, Int.reduceGE, Int.reduceAdd, Int.reduceSub, Int.reduceNeg, Int.reduceBNe, List.all_cons, List.all_nil, List.getElem?_cons_zero, List.getElem?_cons_succ, List.getElem?_nil, Option.map_some, List.length_cons, List.length_nil, List.set_cons_zero, List.set_cons_succ, List.map_cons, List.map_nil, List.drop_zero, List.drop_succ_cons, List.drop_nil, List.take_zero, List.take_succ_cons, List.take_nil, ite_true, ite_false, if_true, if_false, implies_true, forall_const, beq_self_eq_true, List.replicate_succ, List.replicate_zero, List.headD_cons, List.cons_append, List.nil_append, bne_self_eq_false]
    rfl
theorem group_spec {base : Nat} {h : Hp} (a b c d : UInt8) (last : Bool) : CallA T base 48 [.str [a, b, c, d], .bool last] h = some (grpV (grpG a b c d last), h) := by
  have six61 : sixI 61 < 0 := by rw [six_pad]; omega
  by_cases hlow : trimN a b c d < 2 ∨ (trimN a b c d < 4 ∧ last = false)
  · rw [group_low a b c d last hlow]
    have : grpG a b c d last = none := by
      unfold trimN at hlow
      unfold grpG
      by_cases hd : d = 61
      · by_cases hc : c = 61
        · by_cases hb : b = 61
          · subst hb; simp [six61]
          · simp [hd, hc, hb] at hlow
            simp [hd, hlow]
        · simp [hd, hc] at hlow
          simp [hd, hlow]
      · simp [hd] at hlow
    rw [this]; rfl
  · have h2 : 2 ≤ trimN a b c d := by omega
    have h4 : trimN a b c d = 4 ∨ last = true := by
      by_cases hq : trimN a b c d < 4
      · right; cases last
        · exact (hlow (.inr ⟨hq, rfl⟩)).elim
        · rfl
      · left
        have : trimN a b c d ≤ 4 := by unfold trimN; (repeat' split) <;> omega
        omega
    obtain ⟨n, hn⟩ : ∃ n, trimN a b c d = n := ⟨_, rfl⟩
    rw [group_go a b c d last n hn (by omega) (by rw [← hn]; exact h4)]
    rw [hn] at h2 h4 hlow
    have hn4 : n ≤ 4 := by rw [← hn]; unfold trimN; (repeat' split) <;> omega
    unfold grpG
    by_cases ha6 : sixI a < 0
    · rw [g6_bad 0 n 0 (by omega) (by omega) (c := a) rfl ha6 (by omega), if_pos (.inl ha6)]; rfl
    obtain ⟨x, hx, ex, _⟩ := six_ok a ha6
    rw [g6_in 0 n 0 x (by omega) (by omega) (c := a) rfl ex hx (by omega)]
    by_cases hb6 : sixI b < 0
    · rw [g6_bad 1 n _ (by omega) (by omega) (c := b) rfl hb6 (by omega), if_pos (.inr hb6)]; rfl
    obtain ⟨y, hy, ey, _⟩ := six_ok b hb6
    rw [g6_in 1 n _ y (by omega) (by omega) (c := b) rfl ey hy (by omega), if_neg (fun q => q.elim ha6 hb6), ex, ey]
    simp only [Int.toNat_natCast]
    by_cases hd : d = 61
    · have hl : last = true := by
        refine h4.resolve_left ?_
        intro hq
        rw [hq] at hn
        unfold trimN at hn
        rw [if_neg (by simpa using hd)] at hn
        repeat' split at hn
        all_goals omega
      subst hl
      rw [if_neg (by simpa using hd), if_neg (by simp)]
      by_cases hc : c = 61
      · have hn2 : n = 2 := by
          rw [← hn]; unfold trimN
          rw [if_neg (by simpa using hd), if_neg (by simpa using hc)]
          by_cases hb : b = 61
          · subst hb; exact (hb6 six61).elim
          · rw [if_pos hb]
        subst hn2
        rw [if_neg (by simpa using hc), g6_pad 2 2 _ (by omega) (by omega) (by omega), g6_pad 3 2 _ (by omega) (by omega) (by omega), g6_end 2 _ (by omega) (by omega) (by omega)]
        have := zero_loop (h := h) 2 (by omega) (by omega) (b3 (((0 * 64 + x) * 64 + y) * 64 * 64)) ((b3 (((0 * 64 + x) * 64 + y) * 64 * 64)).drop 1) rfl .full ((b3 (((0 * 64 + x) * 64 + y) * 64 * 64)).drop 1) [] rfl (by simp [b3])
        refine this.trans ?_
        simp only [b3, List.drop_succ_cons, List.drop_zero, List.all_cons, List.all_nil, u8_zero, Bool.and_true]
        by_cases hz : y % 16 = 0
        · have z1 : ((0 * 64 + x) * 64 + y) * 64 * 64 / 256 % 256 = 0 := by omega
          have z2 : ((0 * 64 + x) * 64 + y) * 64 * 64 % 256 = 0 := by omega
          have z3 : UInt8.ofNat (((0 * 64 + x) * 64 + y) * 64 * 64 / 65536) = UInt8.ofNat (x * 4 + y / 16) := u8_congr (by omega)
          have hz' : ¬ (y % 16 ≠ 0) := fun q => q hz
          rw [if_neg hz']
          simp only [z1, z2, z3, decide_true, Bool.and_self, if_true]
          rfl
        · have z1 : ¬ ((0 * 64 + x) * 64 + y) * 64 * 64 / 256 % 256 = 0 := by omega
          rw [if_pos hz]
          simp only [z1, decide_false, Bool.false_and, Bool.false_eq_true, if_false]
          rfl
      · have hn3 : n = 3 := by
          rw [← hn]; unfold trimN
          rw [if_neg (by simpa using hd), if_pos hc]
        subst hn3
        rw [if_pos hc]
        by_cases hc6 : sixI c < 0
        · rw [g6_bad 2 3 _ (by omega) (by omega) (c := c) rfl hc6 (by omega), if_pos hc6]; rfl
        obtain ⟨z, hz, ez, _⟩ := six_ok c hc6
        rw [if_neg hc6, ez, g6_in 2 3 _ z (by omega) (by omega) (c := c) rfl ez hz (by omega), g6_pad 3 3 _ (by omega) (by omega) (by omega), g6_end 3 _ (by omega) (by omega) (by omega)]
        simp only [Int.toNat_natCast]
        have := zero_loop (h := h) 3 (by omega) (by omega) (b3 ((((0 * 64 + x) * 64 + y) * 64 + z) * 64)) ((b3 ((((0 * 64 + x) * 64 + y) * 64 + z) * 64)).drop 2) rfl .full ((b3 ((((0 * 64 + x) * 64 + y) * 64 + z) * 64)).drop 2) [] rfl (by simp [b3])
        refine this.trans ?_
        simp only [b3, List.drop_succ_cons, List.drop_zero, List.all_cons, List.all_nil, u8_zero, Bool.and_true]
        by_cases hz4 : z % 4 = 0
        · have z1 : (((0 * 64 + x) * 64 + y) * 64 + z) * 64 % 256 = 0 := by omega
          have z2 : UInt8.ofNat ((((0 * 64 + x) * 64 + y) * 64 + z) * 64 / 65536) = UInt8.ofNat (x * 4 + y / 16) := u8_congr (by omega)
          have z3 : UInt8.ofNat ((((0 * 64 + x) * 64 + y) * 64 + z) * 64 / 256) = UInt8.ofNat (y % 16 * 16 + z / 4) := u8_congr (by omega)
          have hz' : ¬ (z % 4 ≠ 0) := fun q => q hz4
          rw [if_neg hz']
          simp only [z1, z2, z3, decide_true, Bool.and_self, if_true]
          rfl
        · have z1 : ¬ (((0 * 64 + x) * 64 + y) * 64 + z) * 64 % 256 = 0 := by omega
          rw [if_pos hz4]
          simp only [z1, decide_false, Bool.false_eq_true, if_false]
          rfl
    · have hn4' : n = 4 := by
        rw [← hn]; unfold trimN
        rw [if_pos hd]
      subst hn4'
      rw [if_pos hd]
      by_cases hc6 : sixI c < 0
      · rw [g6_bad 2 4 _ (by omega) (by omega) (c := c) rfl hc6 (by omega), if_pos (.inl hc6)]; rfl
      obtain ⟨z, hz, ez, _⟩ := six_ok c hc6
      rw [g6_in 2 4 _ z (by omega) (by omega) (c := c) rfl ez hz (by omega)]
      by_cases hd6 : sixI d < 0
      · rw [g6_bad 3 4 _ (by omega) (by omega) (c := d) rfl hd6 (by omega), if_pos (.inr hd6)]; rfl
      obtain ⟨w, hw, ew, _⟩ := six_ok d hd6
      rw [if_neg (fun q => q.elim hc6 hd6), ez, ew, g6_in 3 4 _ w (by omega) (by omega) (c := d) rfl ew hw (by omega), g6_end 4 _ (by omega) (by omega) (by omega)]
      simp only [Int.toNat_natCast]
      have := zero_loop (h := h) 4 (by omega) (by omega) (b3 ((((0 * 64 + x) * 64 + y) * 64 + z) * 64 + w)) ((b3 ((((0 * 64 + x) * 64 + y) * 64 + z) * 64 + w)).drop 3) rfl .full ((b3 ((((0 * 64 + x) * 64 + y) * 64 + z) * 64 + w)).drop 3) [] rfl (by simp [b3])
      refine this.trans ?_
      have z1 : UInt8.ofNat (((((0 * 64 + x) * 64 + y) * 64 + z) * 64 + w) / 65536) = UInt8.ofNat (x * 4 + y / 16) := u8_congr (by omega)
      have z2 : UInt8.ofNat (((((0 * 64 + x) * 64 + y) * 64 + z) * 64 + w) / 256) = UInt8.ofNat (y % 16 * 16 + z / 4) := u8_congr (by omega)
      have z3 : UInt8.ofNat ((((0 * 64 + x) * 64 + y) * 64 + z) * 64 + w) = UInt8.ofNat (z % 4 * 64 + w) := u8_congr (by omega)
      simp only [b3, z1, z2, z3]
      rfl
theorem dec_loop {h : Hp} (s : List UInt8) (hs : s.length ≤ 1000000) : ∀ (r p o : List UInt8), s = p ++ r → r.length % 4 = 0 → o.length ≤ p.length →
    P38_0 (size h) (size h) (.int .i64 p.length) (gV h .nils 1 (u8s o)) (.str s) (gH h 5 (u8s o)) =
      some (match decL r with | none => .tup [.nils, .bool false] | some l => .tup [gD .nils 1 (u8s (o ++ l)), .bool true], h)
  | [], p, o, hpr, hr, ho => by
    rw [P38_0_eq]
    have e : p.length = s.length := by rw [hpr]; simp
    have h1 : ((p.length : Int) < (s.length : Int)) = False := by simp; omega
    have gz := gZ_nils 1
    simp only [h1, decL, frz_gV gz, below_gD gz _ _ (Bu.below _ _), trunc_gH, List.append_nil, ↓evD, evU, Nat.reduceAdd, Nat.reduceSub, Nat.reduceMul, Nat.reduceLeDiff, Nat.reduceLT, Nat.reduceEqDiff, Nat.reduceBEq, reduceIte, reduceCtorEq, Int.reduceBEq, Int.reduceEq, Int.reduceLT, Int.reduceLE, Int.reduceGT, Int.reduceGE, Int.reduceAdd, Int.reduceSub, Int.reduceNeg, Int.reduceBNe, List.all_cons, List.all_nil, List.getElem?_cons_zero, List.getElem?_cons_succ, List.getElem?_nil, Option.map_some, List.length_cons, List.length_nil, List.set_cons_zero, List.set_cons_succ, List.map_cons, List.map_nil, List.drop_zero, List.drop_succ_cons, List.drop_nil, List.take_zero, List.take_succ_cons, List.take_nil, ite_true, ite_false, if_true, if_false, implies_true, forall_const, beq_self_eq_true, List.replicate_succ, List.replicate_zero, List.headD_cons, List.cons_append, List.nil_append, bne_self_eq_false]
  | [_], p, o, hpr, hr, ho => by simp at hr
  | [_, _], p, o, hpr, hr, ho => by simp at hr
  | [_, _, _], p, o, hpr, hr, ho => by simp at hr
  | a :: b :: c :: d :: r, p, o, hpr, hr, ho => by
    rw [P38_0_eq]
    have el : s.length = p.length + (r.length + 4) := by rw [hpr]; simp
    have h1 : ((p.length : Int) < (s.length : Int)) = True := by simp; omega
    have w1 : IntKind.i64.wrap ((p.length : Int) + 4) = ((p.length + 4 : Nat) : Int) := by rw [wrap_small] <;> omega
    have hb1 := bdV_nat s.length .i64 (p.length + 4) (by omega)
    have hb2 := bdV_nat (p.length + 4) .i64 p.length (by omega)
    have hsl : (s.drop p.length).take (p.length + 4 - p.length) = [a, b, c, d] := by
      rw [hpr, List.drop_left, Nat.add_sub_cancel_left]; simp
    have hlast : (((p.length + 4 : Nat) : Int) == (s.length : Int)) = r.isEmpty := by
      cases r with
      | nil => rw [el]; simp
      | cons x r => rw [beq_eq_false_iff_ne.2 (by rw [el]; simp; omega)]; rfl
    have hG : ∀ base h, _ := fun base h => group_spec (base := base) (h := h) a b c d r.isEmpty
    have gz := gZ_nils 1
    cases hg : grpG a b c d r.isEmpty with
    | none =>
      rw [hg] at hG
      simp only [h1, w1, hb1, hb2, hsl, hlast, hG, grpV, decL, hg, trunc_gH, ↓evD, evU, Nat.reduceAdd, Nat.reduceSub, Nat.reduceMul, Nat.reduceLeDiff, Nat.reduceLT, Nat.reduceEqDiff, Nat.reduceBEq, reduceIte, reduceCtorEq, Int.reduceBEq, Int.reduceEq, Int.reduceLT, Int.reduceLE, Int.reduceGT, Int.reduceGE, Int.reduceAdd, Int.reduceSub, Int.reduceNeg, Int.reduceBNe, List.all_cons, List.all_nil, List.getElem?_cons_zero, List.getElem?_cons_succ, List.getElem?_nil, Option.map_some, List.length_cons, List.length_nil, List.set_cons_zero, List.set_cons_succ, List.map_cons, List.map_nil, List.drop_zero, List.drop_succ_cons, List.drop_nil, List.take_zero, List.take_succ_cons, List.take_nil, ite_true, ite_false, if_true, if_false, implies_true, forall_const, beq_self_eq_true, List.replicate_succ, List.replicate_zero, List.headD_cons, List.cons_append, List.nil_append, bne_self_eq_false]
    | some g =>
      rw [hg] at hG
      obtain ⟨g1, g2, _, _⟩ := grp_ne hg
      have gg := gU8 (h := h) (T := 5) gz o g (by unfold lim2; omega)
      have ih := dec_loop (h := h) s hs r (p ++ [a, b, c, d]) (o ++ g) (by rw [hpr]; simp) (by simp at hr; omega) (by simp; omega)
      have elp : (p ++ [a, b, c, d]).length = p.length + 4 := by simp
      rw [elp] at ih
      simp only [h1, w1, hb1, hb2, hsl, hlast, hG, grpV, decL, hg, gg, ih, ↓evD, evU, Nat.reduceAdd, Nat.reduceSub, Nat.reduceMul, Nat.reduceLeDiff, Nat.reduceLT, Nat.reduceEqDiff, Nat.reduceBEq, reduceIte, reduceCtorEq, Int.reduceBEq, Int.reduceEq, Int.reduceLT, Int.reduceLE, Int.reduceGT, Int.reduceGE, Int.reduceAdd, Int.reduceSub, Int.reduceNeg, Int.reduceBNe, List.all_cons, List.all_nil, List.getElem?_cons_zero, List.getElem?_cons_succ, List.getElem?_nil, Option.map_some, List.length_cons, List.length_nil, List.set_cons_zero, List.set_cons_succ, List.map_cons, List.map_nil, List.drop_zero, List.drop_succ_cons, List.drop_nil, List.take_zero, List.take_succ_cons, List.take_nil, ite_true, ite_false, if_true, if_false, implies_true, forall_const, beq_self_eq_true, List.replicate_succ, List.replicate_zero, List.headD_cons, List.cons_append, List.nil_append, bne_self_eq_false]
      cases decL r with
      | none => rfl
      | some m => simp
/-- What plain reads of signs. -/
def decV (s : List UInt8) : PV := match decL s with
  | none => .nils
  | some l => gD .nils 1 (u8s l)
theorem decL_mod : ∀ (s l : List UInt8), decL s = some l → s.length % 4 = 0
  | [], l, h => rfl
  | [_], l, h => by simp [decL] at h
  | [_, _], l, h => by simp [decL] at h
  | [_, _, _], l, h => by simp [decL] at h
  | a :: b :: c :: d :: r, l, h => by
    simp only [decL] at h
    split at h
    · cases h
    · rw [Option.map_eq_some_iff] at h
      obtain ⟨m, hm, _⟩ := h
      have := decL_mod r m hm
      simp; omega
theorem decode64_spec {base : Nat} {h : Hp} {s : List UInt8} (hs : s.length ≤ 1000000) : CallA T base 38 [.str s] h = some (.tup [decV s, .bool (decL s).isSome], h) := by
  rw [S38]
  have e4 : (s.length : Int).tmod 4 = ((s.length % 4 : Nat) : Int) := tmod_nat s.length 4
  have h4 : ((4 : Int) = 0) = False := by simp
  by_cases hm : s.length % 4 = 0
  · have e5 : (((s.length % 4 : Nat) : Int) != 0) = false := by rw [hm]; rfl
    have := dec_loop (h := h) s hs s [] [] rfl hm (by simp)
    have e : (match decL s with | none => PV.tup [.nils, .bool false] | some l => PV.tup [gD .nils 1 (u8s ([] ++ l)), .bool true]) = .tup [decV s, .bool (decL s).isSome] := by
      unfold decV; cases decL s <;> rfl
    rw [e] at this
    simp only [e4, e5, h4, ↓evD, evU, Nat.reduceAdd, Nat.reduceSub, Nat.reduceMul, Nat.reduceLeDiff, Nat.reduceLT, Nat.reduceEqDiff, Nat.reduceBEq, reduceIte, reduceCtorEq, Int.reduceBEq, Int.reduceEq, Int.reduceLT, Int.reduceLE, Int.reduceGT, Int.reduceGE, Int.reduceAdd, Int.reduceSub, Int.reduceNeg, Int.reduceBNe, List.all_cons, List.all_nil, List.getElem?_cons_zero, List.getElem?_cons_succ, List.getElem?_nil, Option.map_some, List.length_cons, List.length_nil, List.set_cons_zero, List.set_cons_succ, List.map_cons, List.map_nil, List.drop_zero, List.drop_succ_cons, List.drop_nil, List.take_zero, List.take_succ_cons, List.take_nil, ite_true, ite_false, if_true, if_false, implies_true, forall_const, beq_self_eq_true, List.replicate_succ, List.replicate_zero, List.headD_cons, List.cons_append, List.nil_append, bne_self_eq_false]
    exact this
  · have e5 : (((s.length % 4 : Nat) : Int) != 0) = true := by rw [bne_iff_ne]; omega
    have hn : decL s = none := by
      cases hq : decL s with
      | none => rfl
      | some l => exact (hm (decL_mod s l hq)).elim
    simp only [e4, e5, h4, decV, hn, Option.isSome_none, ↓evD, evU, Nat.reduceAdd, Nat.reduceSub, Nat.reduceMul, Nat.reduceLeDiff, Nat.reduceLT, Nat.reduceEqDiff, Nat.reduceBEq, reduceIte, reduceCtorEq, Int.reduceBEq, Int.reduceEq, Int.reduceLT, Int.reduceLE, Int.reduceGT, Int.reduceGE, Int.reduceAdd, Int.reduceSub, Int.reduceNeg, Int.reduceBNe, List.all_cons, List.all_nil, List.getElem?_cons_zero, List.getElem?_cons_succ, List.getElem?_nil, Option.map_some, List.length_cons, List.length_nil, List.set_cons_zero, List.set_cons_succ, List.map_cons, List.map_nil, List.drop_zero, List.drop_succ_cons, List.drop_nil, List.take_zero, List.take_succ_cons, List.take_nil, ite_true, ite_false, if_true, if_false, implies_true, forall_const, beq_self_eq_true, List.replicate_succ, List.replicate_zero, List.headD_cons, List.cons_append, List.nil_append, bne_self_eq_false]
end Go.Am.YthhceeaconflnaaDoor
namespace Go.Am.YthhceeaconflnaaDoor
set_option maxRecDepth 100000
set_option linter.unusedSimpArgs false
set_option linter.unusedVariables false
set_option maxHeartbeats 1000000 in
theorem writeR_spec {base : Nat} {h : Hp} (k n : Int) (s : List UInt8) {b : PV} {l : List UInt8} (o i : Int) (hb : Bv b l) (hl : l.length ≤ 1000000) {c : Int} {r : Bool} (hr : ∀ base h, CallA T base 18 [.str s] h = some (.tup [i64 c, .bool r], h))
    (hn : in64 n) (ho : in64 o) (hi : in64 i) :
    CallA T base 11 [val k n s b o i] h = some (.tup [.str (writeG k n s l.length o i r (encL l)).1, i64 (writeG k n s l.length o i r (encL l)).2], h) := by
  have hR : ∀ base h, _ := fun base h => rightR_spec (base := base) (h := h) k n s o i hb hr
  have hf : ∀ base h, _ := fun base h => format_spec (base := base) (h := h) n hn
  have hio : ∀ base h, _ := fun base h => itoa_spec (base := base) (h := h) o ho
  have hii : ∀ base h, _ := fun base h => itoa_spec (base := base) (h := h) i hi
  have h64 : ∀ base h, _ := fun base h => base64_spec (base := base) (h := h) hb.rd hl
  have l1 := itoa_len ho
  have l2 := itoa_len hi
  have l3 : (Lib.itoa o).length + 1 ≤ limS := by unfold limS; omega
  have l4 : (Lib.itoa o).length + 1 + (Lib.itoa i).length ≤ limS := by unfold limS; omega
  rw [S11]
  unfold writeG
  by_cases k1 : k < 1
  · have hk : ¬ (1 ≤ k ∧ k ≤ 6) := by omega
    simp only [hb.scalar, hb.cells, k1, hk, ↓evD, evU, Nat.reduceAdd, Nat.reduceSub, Nat.reduceMul, Nat.reduceLeDiff, Nat.reduceLT, Nat.reduceEqDiff, Nat.reduceBEq, reduceIte, reduceCtorEq, Int.reduceBEq, Int.reduceEq, Int.reduceLT, Int.reduceLE, Int.reduceGT, Int.reduceGE, Int.reduceAdd, Int.reduceSub, Int.reduceNeg, Int.reduceBNe, List.all_cons, List.all_nil, List.getElem?_cons_zero, List.getElem?_cons_succ, List.getElem?_nil, Option.map_some, List.length_cons, List.length_nil, List.set_cons_zero, List.set_cons_succ, List.map_cons, List.map_nil, List.drop_zero, List.drop_succ_cons, List.drop_nil, List.take_zero, List.take_succ_cons, List.take_nil, ite_true, ite_false, if_true, if_false, implies_true, forall_const, beq_self_eq_true, List.replicate_succ, List.replicate_zero, List.headD_cons, List.cons_append, List.nil_append, bne_self_eq_false]
  by_cases k6 : k > 6
  · have hk : ¬ (1 ≤ k ∧ k ≤ 6) := by omega
    simp only [hb.scalar, hb.cells, k1, k6, hk, ↓evD, evU, Nat.reduceAdd, Nat.reduceSub, Nat.reduceMul, Nat.reduceLeDiff, Nat.reduceLT, Nat.reduceEqDiff, Nat.reduceBEq, reduceIte, reduceCtorEq, Int.reduceBEq, Int.reduceEq, Int.reduceLT, Int.reduceLE, Int.reduceGT, Int.reduceGE, Int.reduceAdd, Int.reduceSub, Int.reduceNeg, Int.reduceBNe, List.all_cons, List.all_nil, List.getElem?_cons_zero, List.getElem?_cons_succ, List.getElem?_nil, Option.map_some, List.length_cons, List.length_nil, List.set_cons_zero, List.set_cons_succ, List.map_cons, List.map_nil, List.drop_zero, List.drop_succ_cons, List.drop_nil, List.take_zero, List.take_succ_cons, List.take_nil, ite_true, ite_false, if_true, if_false, implies_true, forall_const, beq_self_eq_true, List.replicate_succ, List.replicate_zero, List.headD_cons, List.cons_append, List.nil_append, bne_self_eq_false]
  have hk : 1 ≤ k ∧ k ≤ 6 := by omega
  cases hq : rightG k n s l.length o i r
  · simp only [hb.scalar, hb.cells, k1, k6, hk, hR, hq, ↓evD, evU, Nat.reduceAdd, Nat.reduceSub, Nat.reduceMul, Nat.reduceLeDiff, Nat.reduceLT, Nat.reduceEqDiff, Nat.reduceBEq, reduceIte, reduceCtorEq, Int.reduceBEq, Int.reduceEq, Int.reduceLT, Int.reduceLE, Int.reduceGT, Int.reduceGE, Int.reduceAdd, Int.reduceSub, Int.reduceNeg, Int.reduceBNe, List.all_cons, List.all_nil, List.getElem?_cons_zero, List.getElem?_cons_succ, List.getElem?_nil, Option.map_some, List.length_cons, List.length_nil, List.set_cons_zero, List.set_cons_succ, List.map_cons, List.map_nil, List.drop_zero, List.drop_succ_cons, List.drop_nil, List.take_zero, List.take_succ_cons, List.take_nil, ite_true, ite_false, if_true, if_false, implies_true, forall_const, beq_self_eq_true, List.replicate_succ, List.replicate_zero, List.headD_cons, List.cons_append, List.nil_append, bne_self_eq_false]
  · by_cases h3 : k = 3
    · subst h3; simp only [hb.scalar, hb.cells, k1, k6, hk, hR, hq, ↓evD, evU, Nat.reduceAdd, Nat.reduceSub, Nat.reduceMul, Nat.reduceLeDiff, Nat.reduceLT, Nat.reduceEqDiff, Nat.reduceBEq, reduceIte, reduceCtorEq, Int.reduceBEq, Int.reduceEq, Int.reduceLT, Int.reduceLE, Int.reduceGT, Int.reduceGE, Int.reduceAdd, Int.reduceSub, Int.reduceNeg, Int.reduceBNe, List.all_cons, List.all_nil, List.getElem?_cons_zero, List.getElem?_cons_succ, List.getElem?_nil, Option.map_some, List.length_cons, List.length_nil, List.set_cons_zero, List.set_cons_succ, List.map_cons, List.map_nil, List.drop_zero, List.drop_succ_cons, List.drop_nil, List.take_zero, List.take_succ_cons, List.take_nil, ite_true, ite_false, if_true, if_false, implies_true, forall_const, beq_self_eq_true, List.replicate_succ, List.replicate_zero, List.headD_cons, List.cons_append, List.nil_append, bne_self_eq_false]
    by_cases h4 : k = 4
    · subst h4; simp only [hb.scalar, hb.cells, k1, k6, hk, hR, hq, h64, ↓evD, evU, Nat.reduceAdd, Nat.reduceSub, Nat.reduceMul, Nat.reduceLeDiff, Nat.reduceLT, Nat.reduceEqDiff, Nat.reduceBEq, reduceIte, reduceCtorEq, Int.reduceBEq, Int.reduceEq, Int.reduceLT, Int.reduceLE, Int.reduceGT, Int.reduceGE, Int.reduceAdd, Int.reduceSub, Int.reduceNeg, Int.reduceBNe, List.all_cons, List.all_nil, List.getElem?_cons_zero, List.getElem?_cons_succ, List.getElem?_nil, Option.map_some, List.length_cons, List.length_nil, List.set_cons_zero, List.set_cons_succ, List.map_cons, List.map_nil, List.drop_zero, List.drop_succ_cons, List.drop_nil, List.take_zero, List.take_succ_cons, List.take_nil, ite_true, ite_false, if_true, if_false, implies_true, forall_const, beq_self_eq_true, List.replicate_succ, List.replicate_zero, List.headD_cons, List.cons_append, List.nil_append, bne_self_eq_false]
    by_cases h6 : k = 6
    · subst h6; simp only [hb.scalar, hb.cells, k1, k6, hk, hR, hq, hio, hii, l3, l4, List.length_append, ↓evD, evU, Nat.reduceAdd, Nat.reduceSub, Nat.reduceMul, Nat.reduceLeDiff, Nat.reduceLT, Nat.reduceEqDiff, Nat.reduceBEq, reduceIte, reduceCtorEq, Int.reduceBEq, Int.reduceEq, Int.reduceLT, Int.reduceLE, Int.reduceGT, Int.reduceGE, Int.reduceAdd, Int.reduceSub, Int.reduceNeg, Int.reduceBNe, List.all_cons, List.all_nil, List.getElem?_cons_zero, List.getElem?_cons_succ, List.getElem?_nil, Option.map_some, List.length_cons, List.length_nil, List.set_cons_zero, List.set_cons_succ, List.map_cons, List.map_nil, List.drop_zero, List.drop_succ_cons, List.drop_nil, List.take_zero, List.take_succ_cons, List.take_nil, ite_true, ite_false, if_true, if_false, implies_true, forall_const, beq_self_eq_true, List.replicate_succ, List.replicate_zero, List.headD_cons, List.cons_append, List.nil_append, bne_self_eq_false]
    simp only [hb.scalar, hb.cells, k1, k6, hk, hR, hq, hf, h3, h4, h6, beq_false_of h3, beq_false_of h4, beq_false_of h6, ↓evD, evU, Nat.reduceAdd, Nat.reduceSub, Nat.reduceMul, Nat.reduceLeDiff, Nat.reduceLT, Nat.reduceEqDiff, Nat.reduceBEq, reduceIte, reduceCtorEq, Int.reduceBEq, Int.reduceEq, Int.reduceLT, Int.reduceLE, Int.reduceGT, Int.reduceGE, Int.reduceAdd, Int.reduceSub, Int.reduceNeg, Int.reduceBNe, List.all_cons, List.all_nil, List.getElem?_cons_zero, List.getElem?_cons_succ, List.getElem?_nil, Option.map_some, List.length_cons, List.length_nil, List.set_cons_zero, List.set_cons_succ, List.map_cons, List.map_nil, List.drop_zero, List.drop_succ_cons, List.drop_nil, List.take_zero, List.take_succ_cons, List.take_nil, ite_true, ite_false, if_true, if_false, implies_true, forall_const, beq_self_eq_true, List.replicate_succ, List.replicate_zero, List.headD_cons, List.cons_append, List.nil_append, bne_self_eq_false]
/-- Bytes of digits. -/
theorem sub_u8 {x : Nat} (h1 : 48 ≤ x) (h2 : x < 256) : IntKind.u8.wrap ((x : Int) - 48) = ((x - 48 : Nat) : Int) := by
  have : IntKind.u8.wrap ((x : Int) - 48) = ((x : Int) - 48) % 256 := rfl
  rw [this]; omega
theorem wrap_u64 (x : Nat) (h : x < 18446744073709551616) : IntKind.u64.wrap (x : Int) = x := by
  have : IntKind.u64.wrap (x : Int) = (x : Int) % 18446744073709551616 := rfl
  rw [this]; omega
/-- The end of the digits. -/
def numE (neg : Bool) : Option Nat → Int × Bool
  | none => (0, false)
  | some u => if 9223372036854775807 < u then (0, false) else (if neg then -(u : Int) else u, true)
theorem num_loop {h : Hp} (neg : Bool) (d : List UInt8) (hd : d.length ≤ 19) : ∀ (r p : List UInt8) (u : Nat), d = p ++ r → u < 10 ^ p.length →
    P28_1 (size h) (size h) (.int .i64 p.length) (.str d) (.int .u64 u) (.bool neg) h = some (.tup [i64 (numE neg (digs r u)).1, .bool (numE neg (digs r u)).2], h)
  | [], p, u, hp, hu => by
    rw [P28_1_eq]
    have e : p.length = d.length := by rw [hp]; simp
    have h1 : ((p.length : Int) < (d.length : Int)) = False := by simp; omega
    by_cases hb : 9223372036854775807 < u
    · have h2 : ((u : Int) > 9223372036854775807) = True := by simp; omega
      simp only [h1, h2, digs, numE, hb, ↓evD, evU, Nat.reduceAdd, Nat.reduceSub, Nat.reduceMul, Nat.reduceLeDiff, Nat.reduceLT, Nat.reduceEqDiff, Nat.reduceBEq, reduceIte, reduceCtorEq, Int.reduceBEq, Int.reduceEq, Int.reduceLT, Int.reduceLE, Int.reduceGT, Int.reduceGE, Int.reduceAdd, Int.reduceSub, Int.reduceNeg, Int.reduceBNe, List.all_cons, List.all_nil, List.getElem?_cons_zero, List.getElem?_cons_succ, List.getElem?_nil, Option.map_some, List.length_cons, List.length_nil, List.set_cons_zero, List.set_cons_succ, List.map_cons, List.map_nil, List.drop_zero, List.drop_succ_cons, List.drop_nil, List.take_zero, List.take_succ_cons, List.take_nil, ite_true, ite_false, if_true, if_false, implies_true, forall_const, beq_self_eq_true, List.replicate_succ, List.replicate_zero, List.headD_cons, List.cons_append, List.nil_append, bne_self_eq_false]
    · have h2 : ((u : Int) > 9223372036854775807) = False := by simp; omega
      have w1 : IntKind.i64.wrap (u : Int) = u := by rw [wrap_small] <;> omega
      have w2 : IntKind.i64.wrap (0 - (u : Int)) = -(u : Int) := by rw [wrap_small] <;> omega
      cases neg <;> simp only [h1, h2, w1, w2, digs, numE, hb, ↓evD, evU, Nat.reduceAdd, Nat.reduceSub, Nat.reduceMul, Nat.reduceLeDiff, Nat.reduceLT, Nat.reduceEqDiff, Nat.reduceBEq, reduceIte, reduceCtorEq, Int.reduceBEq, Int.reduceEq, Int.reduceLT, Int.reduceLE, Int.reduceGT, Int.reduceGE, Int.reduceAdd, Int.reduceSub, Int.reduceNeg, Int.reduceBNe, List.all_cons, List.all_nil, List.getElem?_cons_zero, List.getElem?_cons_succ, List.getElem?_nil, Option.map_some, List.length_cons, List.length_nil, List.set_cons_zero, List.set_cons_succ, List.map_cons, List.map_nil, List.drop_zero, List.drop_succ_cons, List.drop_nil, List.take_zero, List.take_succ_cons, List.take_nil, ite_true, ite_false, if_true, if_false, implies_true, forall_const, beq_self_eq_true, List.replicate_succ, List.replicate_zero, List.headD_cons, List.cons_append, List.nil_append, bne_self_eq_false]
  | x :: r, p, u, hp, hu => by
    rw [P28_1_eq]
    have el : d.length = p.length + (r.length + 1) := by rw [hp]; simp
    have h1 : ((p.length : Int) < (d.length : Int)) = True := by simp; omega
    have hx : d[p.length]? = some x := by rw [hp]; simp
    have hix := ix_nat .i64 p.length d.length (by omega)
    have hx256 := x.toNat_lt
    by_cases h2 : x.toNat < 48
    · have h3 : ((x.toNat : Int) < 48) = True := by simp; omega
      simp only [h1, hix, hx, h3, digs, h2, numE, ↓evD, evU, Nat.reduceAdd, Nat.reduceSub, Nat.reduceMul, Nat.reduceLeDiff, Nat.reduceLT, Nat.reduceEqDiff, Nat.reduceBEq, reduceIte, reduceCtorEq, Int.reduceBEq, Int.reduceEq, Int.reduceLT, Int.reduceLE, Int.reduceGT, Int.reduceGE, Int.reduceAdd, Int.reduceSub, Int.reduceNeg, Int.reduceBNe, List.all_cons, List.all_nil, List.getElem?_cons_zero, List.getElem?_cons_succ, List.getElem?_nil, Option.map_some, List.length_cons, List.length_nil, List.set_cons_zero, List.set_cons_succ, List.map_cons, List.map_nil, List.drop_zero, List.drop_succ_cons, List.drop_nil, List.take_zero, List.take_succ_cons, List.take_nil, ite_true, ite_false, if_true, if_false, implies_true, forall_const, beq_self_eq_true, List.replicate_succ, List.replicate_zero, List.headD_cons, List.cons_append, List.nil_append, bne_self_eq_false]
    by_cases h4 : 57 < x.toNat
    · have h3 : ((x.toNat : Int) < 48) = False := by simp; omega
      have h5 : ((x.toNat : Int) > 57) = True := by simp; omega
      simp only [h1, hix, hx, h3, h5, digs, h2, h4, numE, ↓evD, evU, Nat.reduceAdd, Nat.reduceSub, Nat.reduceMul, Nat.reduceLeDiff, Nat.reduceLT, Nat.reduceEqDiff, Nat.reduceBEq, reduceIte, reduceCtorEq, Int.reduceBEq, Int.reduceEq, Int.reduceLT, Int.reduceLE, Int.reduceGT, Int.reduceGE, Int.reduceAdd, Int.reduceSub, Int.reduceNeg, Int.reduceBNe, List.all_cons, List.all_nil, List.getElem?_cons_zero, List.getElem?_cons_succ, List.getElem?_nil, Option.map_some, List.length_cons, List.length_nil, List.set_cons_zero, List.set_cons_succ, List.map_cons, List.map_nil, List.drop_zero, List.drop_succ_cons, List.drop_nil, List.take_zero, List.take_succ_cons, List.take_nil, ite_true, ite_false, if_true, if_false, implies_true, forall_const, beq_self_eq_true, List.replicate_succ, List.replicate_zero, List.headD_cons, List.cons_append, List.nil_append, bne_self_eq_false]
    have h3 : ((x.toNat : Int) < 48) = False := by simp; omega
    have h5 : ((x.toNat : Int) > 57) = False := by simp; omega
    have hp19 : 10 ^ (p.length + 1) ≤ 10 ^ 19 := Nat.pow_le_pow_right (by decide) (by omega)
    have e19 : (10 : Nat) ^ 19 = 10000000000000000000 := by decide
    rw [Nat.pow_succ] at hp19
    have hu2 : u * 10 + 10 ≤ 10000000000000000000 := by omega
    have w1 : IntKind.u64.wrap ((u : Int) * 10) = ((u * 10 : Nat) : Int) := by
      rw [show (u : Int) * 10 = ((u * 10 : Nat) : Int) by omega, wrap_u64 _ (by omega)]
    have w2 := sub_u8 (x := x.toNat) (by omega) hx256
    have w3 : IntKind.u64.wrap ((x.toNat - 48 : Nat) : Int) = ((x.toNat - 48 : Nat) : Int) := wrap_u64 _ (by omega)
    have w4 : IntKind.u64.wrap (((u * 10 : Nat) : Int) + ((x.toNat - 48 : Nat) : Int)) = ((u * 10 + (x.toNat - 48) : Nat) : Int) := by
      rw [show ((u * 10 : Nat) : Int) + ((x.toNat - 48 : Nat) : Int) = ((u * 10 + (x.toNat - 48) : Nat) : Int) by omega, wrap_u64 _ (by omega)]
    have elp : (p ++ [x]).length = p.length + 1 := by simp
    have w5 : IntKind.i64.wrap ((p.length : Int) + 1) = (((p ++ [x]).length : Nat) : Int) := by rw [elp, wrap_small] <;> omega
    have ih := num_loop (h := h) neg d hd r (p ++ [x]) (u * 10 + (x.toNat - 48)) (by rw [hp]; simp) (by rw [elp, Nat.pow_succ]; omega)
    simp only [h1, hix, hx, h3, h5, w1, w2, w3, w4, w5, ih, digs, h2, h4, ↓evD, evU, Nat.reduceAdd, Nat.reduceSub, Nat.reduceMul, Nat.reduceLeDiff, Nat.reduceLT, Nat.reduceEqDiff, Nat.reduceBEq, reduceIte, reduceCtorEq, Int.reduceBEq, Int.reduceEq, Int.reduceLT, Int.reduceLE, Int.reduceGT, Int.reduceGE, Int.reduceAdd, Int.reduceSub, Int.reduceNeg, Int.reduceBNe, List.all_cons, List.all_nil, List.getElem?_cons_zero, List.getElem?_cons_succ, List.getElem?_nil, Option.map_some, List.length_cons, List.length_nil, List.set_cons_zero, List.set_cons_succ, List.map_cons, List.map_nil, List.drop_zero, List.drop_succ_cons, List.drop_nil, List.take_zero, List.take_succ_cons, List.take_nil, ite_true, ite_false, if_true, if_false, implies_true, forall_const, beq_self_eq_true, List.replicate_succ, List.replicate_zero, List.headD_cons, List.cons_append, List.nil_append, bne_self_eq_false]
theorem numD_spec {h : Hp} (d : List UInt8) (neg : Bool) : P28_0 (size h) (size h) (.str d) (.bool neg) h = some (.tup [i64 (numD d neg).1, .bool (numD d neg).2], h) := by
  rw [P28_0_eq]
  cases d with
  | nil =>
    have e0 : (((([] : List UInt8).length : Nat) : Int) == 0) = true := rfl
    simp only [numD, Int.ofNat_zero, Int.natCast_zero, ↓evD, evU, Nat.reduceAdd, Nat.reduceSub, Nat.reduceMul, Nat.reduceLeDiff, Nat.reduceLT, Nat.reduceEqDiff, Nat.reduceBEq, reduceIte, reduceCtorEq, Int.reduceBEq, Int.reduceEq, Int.reduceLT, Int.reduceLE, Int.reduceGT, Int.reduceGE, Int.reduceAdd, Int.reduceSub, Int.reduceNeg, Int.reduceBNe, List.all_cons, List.all_nil, List.getElem?_cons_zero, List.getElem?_cons_succ, List.getElem?_nil, Option.map_some, List.length_cons, List.length_nil, List.set_cons_zero, List.set_cons_succ, List.map_cons, List.map_nil, List.drop_zero, List.drop_succ_cons, List.drop_nil, List.take_zero, List.take_succ_cons, List.take_nil, ite_true, ite_false, if_true, if_false, implies_true, forall_const, beq_self_eq_true, List.replicate_succ, List.replicate_zero, List.headD_cons, List.cons_append, List.nil_append, bne_self_eq_false]
  | cons c r =>
    have e0 : (((r.length + 1 : Nat) : Int) == 0) = false := by rw [beq_eq_false_iff_ne]; omega
    have hix : ix (.int .i64 0) (r.length + 1) = some 0 := by simp [ix]
    have hc0 : ((c :: r : List UInt8) = []) = False := by simp
    by_cases h19 : 19 < r.length + 1
    · have h1 : (((r.length + 1 : Nat) : Int) > 19) = True := by simp; omega
      simp only [e0, h1, numD, hc0, h19, ↓evD, evU, Nat.reduceAdd, Nat.reduceSub, Nat.reduceMul, Nat.reduceLeDiff, Nat.reduceLT, Nat.reduceEqDiff, Nat.reduceBEq, reduceIte, reduceCtorEq, Int.reduceBEq, Int.reduceEq, Int.reduceLT, Int.reduceLE, Int.reduceGT, Int.reduceGE, Int.reduceAdd, Int.reduceSub, Int.reduceNeg, Int.reduceBNe, List.all_cons, List.all_nil, List.getElem?_cons_zero, List.getElem?_cons_succ, List.getElem?_nil, Option.map_some, List.length_cons, List.length_nil, List.set_cons_zero, List.set_cons_succ, List.map_cons, List.map_nil, List.drop_zero, List.drop_succ_cons, List.drop_nil, List.take_zero, List.take_succ_cons, List.take_nil, ite_true, ite_false, if_true, if_false, implies_true, forall_const, beq_self_eq_true, List.replicate_succ, List.replicate_zero, List.headD_cons, List.cons_append, List.nil_append, bne_self_eq_false]
    have h1 : (((r.length + 1 : Nat) : Int) > 19) = False := by simp; omega
    have hl := num_loop (h := h) neg (c :: r) (by simp; omega) (c :: r) [] 0 rfl (by decide)
    have hl' : P28_1 (size h) (size h) (.int .i64 0) (.str (c :: r)) (.int .u64 0) (.bool neg) h = some (.tup [i64 (numE neg (digs (c :: r) 0)).1, .bool (numE neg (digs (c :: r) 0)).2], h) := hl
    by_cases h48 : c = 48
    · have e48 : ((c.toNat : Int) == 48) = true := by rw [h48]; rfl
      have hh : (some c = some (48 : UInt8)) = True := by simp [h48]
      by_cases hr1 : 1 < r.length + 1
      · have h2 : (((r.length + 1 : Nat) : Int) > 1) = True := by simp; omega
        simp only [e0, h1, h2, hix, e48, numD, hc0, h19, hh, hr1, List.head?_cons, ↓evD, evU, Nat.reduceAdd, Nat.reduceSub, Nat.reduceMul, Nat.reduceLeDiff, Nat.reduceLT, Nat.reduceEqDiff, Nat.reduceBEq, reduceIte, reduceCtorEq, Int.reduceBEq, Int.reduceEq, Int.reduceLT, Int.reduceLE, Int.reduceGT, Int.reduceGE, Int.reduceAdd, Int.reduceSub, Int.reduceNeg, Int.reduceBNe, List.all_cons, List.all_nil, List.getElem?_cons_zero, List.getElem?_cons_succ, List.getElem?_nil, Option.map_some, List.length_cons, List.length_nil, List.set_cons_zero, List.set_cons_succ, List.map_cons, List.map_nil, List.drop_zero, List.drop_succ_cons, List.drop_nil, List.take_zero, List.take_succ_cons, List.take_nil, ite_true, ite_false, if_true, if_false, implies_true, forall_const, beq_self_eq_true, List.replicate_succ, List.replicate_zero, List.headD_cons, List.cons_append, List.nil_append, bne_self_eq_false]
      · have h2 : (((r.length + 1 : Nat) : Int) > 1) = False := by simp; omega
        cases neg
        · have : numD (c :: r) false = numE false (digs (c :: r) 0) := by
            unfold numD
            rw [if_neg (by
              rintro (q | q | ⟨_, q | q⟩)
              · cases q
              · exact h19 (by simpa using q)
              · exact hr1 (by simpa using q)
              · cases q)]
            rfl
          rw [this]
          simp only [e0, h1, h2, hix, e48, hl', ↓evD, evU, Nat.reduceAdd, Nat.reduceSub, Nat.reduceMul, Nat.reduceLeDiff, Nat.reduceLT, Nat.reduceEqDiff, Nat.reduceBEq, reduceIte, reduceCtorEq, Int.reduceBEq, Int.reduceEq, Int.reduceLT, Int.reduceLE, Int.reduceGT, Int.reduceGE, Int.reduceAdd, Int.reduceSub, Int.reduceNeg, Int.reduceBNe, List.all_cons, List.all_nil, List.getElem?_cons_zero, List.getElem?_cons_succ, List.getElem?_nil, Option.map_some, List.length_cons, List.length_nil, List.set_cons_zero, List.set_cons_succ, List.map_cons, List.map_nil, List.drop_zero, List.drop_succ_cons, List.drop_nil, List.take_zero, List.take_succ_cons, List.take_nil, ite_true, ite_false, if_true, if_false, implies_true, forall_const, beq_self_eq_true, List.replicate_succ, List.replicate_zero, List.headD_cons, List.cons_append, List.nil_append, bne_self_eq_false]
        · simp only [e0, h1, h2, hix, e48, numD, hc0, h19, hh, hr1, List.head?_cons, ↓evD, evU, Nat.reduceAdd, Nat.reduceSub, Nat.reduceMul, Nat.reduceLeDiff, Nat.reduceLT, Nat.reduceEqDiff, Nat.reduceBEq, reduceIte, reduceCtorEq, Int.reduceBEq, Int.reduceEq, Int.reduceLT, Int.reduceLE, Int.reduceGT, Int.reduceGE, Int.reduceAdd, Int.reduceSub, Int.reduceNeg, Int.reduceBNe, List.all_cons, List.all_nil, List.getElem?_cons_zero, List.getElem?_cons_succ, List.getElem?_nil, Option.map_some, List.length_cons, List.length_nil, List.set_cons_zero, List.set_cons_succ, List.map_cons, List.map_nil, List.drop_zero, List.drop_succ_cons, List.drop_nil, List.take_zero, List.take_succ_cons, List.take_nil, ite_true, ite_false, if_true, if_false, implies_true, forall_const, beq_self_eq_true, List.replicate_succ, List.replicate_zero, List.headD_cons, List.cons_append, List.nil_append, bne_self_eq_false]
    · have e48 : ((c.toNat : Int) == 48) = false := by
        rw [beq_eq_false_iff_ne]
        intro q
        have : c.toNat = (48 : UInt8).toNat := by have z : (48 : UInt8).toNat = 48 := rfl
                                                  omega
        exact h48 (UInt8.toNat_inj.1 this)
      have : numD (c :: r) neg = numE neg (digs (c :: r) 0) := by
        unfold numD
        rw [if_neg (by
          rintro (q | q | ⟨q, _⟩)
          · cases q
          · exact h19 (by simpa using q)
          · exact h48 (by simpa using q))]
        rfl
      rw [this]
      simp only [e0, h1, hix, e48, hl', ↓evD, evU, Nat.reduceAdd, Nat.reduceSub, Nat.reduceMul, Nat.reduceLeDiff, Nat.reduceLT, Nat.reduceEqDiff, Nat.reduceBEq, reduceIte, reduceCtorEq, Int.reduceBEq, Int.reduceEq, Int.reduceLT, Int.reduceLE, Int.reduceGT, Int.reduceGE, Int.reduceAdd, Int.reduceSub, Int.reduceNeg, Int.reduceBNe, List.all_cons, List.all_nil, List.getElem?_cons_zero, List.getElem?_cons_succ, List.getElem?_nil, Option.map_some, List.length_cons, List.length_nil, List.set_cons_zero, List.set_cons_succ, List.map_cons, List.map_nil, List.drop_zero, List.drop_succ_cons, List.drop_nil, List.take_zero, List.take_succ_cons, List.take_nil, ite_true, ite_false, if_true, if_false, implies_true, forall_const, beq_self_eq_true, List.replicate_succ, List.replicate_zero, List.headD_cons, List.cons_append, List.nil_append, bne_self_eq_false]
theorem numberR_spec {base : Nat} {h : Hp} (s : List UInt8) : CallA T base 28 [.str s] h = some (.tup [i64 (numR s).1, .bool (numR s).2], h) := by
  rw [S28, ← numC_eq]
  unfold numC
  have hm : ([45, 57, 50, 50, 51, 51, 55, 50, 48, 51, 54, 56, 53, 52, 55, 55, 53, 56, 48, 56] : List UInt8) = minS := rfl
  rw [hm]
  by_cases hq : s = minS
  · have e1 : (s == minS) = true := by simp [hq]
    rw [if_pos hq]
    simp only [e1, ↓evD, evU, Nat.reduceAdd, Nat.reduceSub, Nat.reduceMul, Nat.reduceLeDiff, Nat.reduceLT, Nat.reduceEqDiff, Nat.reduceBEq, reduceIte, reduceCtorEq, Int.reduceBEq, Int.reduceEq, Int.reduceLT, Int.reduceLE, Int.reduceGT, Int.reduceGE, Int.reduceAdd, Int.reduceSub, Int.reduceNeg, Int.reduceBNe, List.all_cons, List.all_nil, List.getElem?_cons_zero, List.getElem?_cons_succ, List.getElem?_nil, Option.map_some, List.length_cons, List.length_nil, List.set_cons_zero, List.set_cons_succ, List.map_cons, List.map_nil, List.drop_zero, List.drop_succ_cons, List.drop_nil, List.take_zero, List.take_succ_cons, List.take_nil, ite_true, ite_false, if_true, if_false, implies_true, forall_const, beq_self_eq_true, List.replicate_succ, List.replicate_zero, List.headD_cons, List.cons_append, List.nil_append, bne_self_eq_false]
  · have e1 : (s == minS) = false := by simp [hq]
    rw [if_neg hq]
    cases s with
    | nil =>
      have hD := numD_spec (h := h) [] false
      have h1 : ((0 : Int) > 0) = False := by simp
      have hM : numM [] = numD [] false := rfl
      rw [hM]
      simp only [e1, h1, hD, Int.ofNat_zero, Int.natCast_zero, ↓evD, evU, Nat.reduceAdd, Nat.reduceSub, Nat.reduceMul, Nat.reduceLeDiff, Nat.reduceLT, Nat.reduceEqDiff, Nat.reduceBEq, reduceIte, reduceCtorEq, Int.reduceBEq, Int.reduceEq, Int.reduceLT, Int.reduceLE, Int.reduceGT, Int.reduceGE, Int.reduceAdd, Int.reduceSub, Int.reduceNeg, Int.reduceBNe, List.all_cons, List.all_nil, List.getElem?_cons_zero, List.getElem?_cons_succ, List.getElem?_nil, Option.map_some, List.length_cons, List.length_nil, List.set_cons_zero, List.set_cons_succ, List.map_cons, List.map_nil, List.drop_zero, List.drop_succ_cons, List.drop_nil, List.take_zero, List.take_succ_cons, List.take_nil, ite_true, ite_false, if_true, if_false, implies_true, forall_const, beq_self_eq_true, List.replicate_succ, List.replicate_zero, List.headD_cons, List.cons_append, List.nil_append, bne_self_eq_false]
    | cons c r =>
      have h1 : (((r.length + 1 : Nat) : Int) > 0) = True := by simp <;> omega
      have hix : ix (.int .i64 0) (r.length + 1) = some 0 := by simp [ix]
      by_cases h45 : c = 45
      · subst h45
        have e45 : (((45 : UInt8).toNat : Int) == 45) = true := rfl
        have hD := numD_spec (h := h) r true
        have hb : bdV (r.length + 1) (.int .i64 1) = some 1 := bdV_nat (r.length + 1) .i64 1 (by omega)
        have ht : r.take (r.length + 1 - 1) = r := by simp
        have hM : numM (45 :: r) = numD r true := rfl
        rw [hM]
        simp only [e1, h1, hix, e45, hb, ht, hD, ↓evD, evU, Nat.reduceAdd, Nat.reduceSub, Nat.reduceMul, Nat.reduceLeDiff, Nat.reduceLT, Nat.reduceEqDiff, Nat.reduceBEq, reduceIte, reduceCtorEq, Int.reduceBEq, Int.reduceEq, Int.reduceLT, Int.reduceLE, Int.reduceGT, Int.reduceGE, Int.reduceAdd, Int.reduceSub, Int.reduceNeg, Int.reduceBNe, List.all_cons, List.all_nil, List.getElem?_cons_zero, List.getElem?_cons_succ, List.getElem?_nil, Option.map_some, List.length_cons, List.length_nil, List.set_cons_zero, List.set_cons_succ, List.map_cons, List.map_nil, List.drop_zero, List.drop_succ_cons, List.drop_nil, List.take_zero, List.take_succ_cons, List.take_nil, ite_true, ite_false, if_true, if_false, implies_true, forall_const, beq_self_eq_true, List.replicate_succ, List.replicate_zero, List.headD_cons, List.cons_append, List.nil_append, bne_self_eq_false]
      · have e45 : ((c.toNat : Int) == 45) = false := by
          rw [beq_eq_false_iff_ne]
          intro q
          have : c.toNat = (45 : UInt8).toNat := by have z : (45 : UInt8).toNat = 45 := rfl
                                                    omega
          exact h45 (UInt8.toNat_inj.1 this)
        have hD := numD_spec (h := h) (c :: r) false
        have hM : numM (c :: r) = numD (c :: r) false := by
          unfold numM
          split
          · rename_i hq; cases hq; exact (h45 rfl).elim
          · rfl
        rw [hM]
        simp only [e1, h1, hix, e45, hD, ↓evD, evU, Nat.reduceAdd, Nat.reduceSub, Nat.reduceMul, Nat.reduceLeDiff, Nat.reduceLT, Nat.reduceEqDiff, Nat.reduceBEq, reduceIte, reduceCtorEq, Int.reduceBEq, Int.reduceEq, Int.reduceLT, Int.reduceLE, Int.reduceGT, Int.reduceGE, Int.reduceAdd, Int.reduceSub, Int.reduceNeg, Int.reduceBNe, List.all_cons, List.all_nil, List.getElem?_cons_zero, List.getElem?_cons_succ, List.getElem?_nil, Option.map_some, List.length_cons, List.length_nil, List.set_cons_zero, List.set_cons_succ, List.map_cons, List.map_nil, List.drop_zero, List.drop_succ_cons, List.drop_nil, List.take_zero, List.take_succ_cons, List.take_nil, ite_true, ite_false, if_true, if_false, implies_true, forall_const, beq_self_eq_true, List.replicate_succ, List.replicate_zero, List.headD_cons, List.cons_append, List.nil_append, bne_self_eq_false]
end Go.Am.YthhceeaconflnaaDoor
namespace Go.Am.YthhceeaconflnaaDoor
set_option maxRecDepth 100000
set_option linter.unusedSimpArgs false
set_option linter.unusedVariables false
section
variable {h : Hp} {base : Nat}
/-- What the inner read gives; r: are the runes right? bd, okd: the bytes of the signs. -/
def readV (k : Int) (s : List UInt8) (r : Bool) (bd : PV) (okd : Bool) : PV × Bool :=
  if k = 3 then (val 3 0 s .nils 0 0, r) else if k = 4 then (val 4 0 [] bd 0 0, okd) else
  if k = 6 then (if (linkG s).2.2 then val 6 0 [] .nils (linkG s).1 (linkG s).2.1 else val 0 0 [] .nils 0 0, (linkG s).2.2) else
  (val k (numG s).1 [] .nils 0 0, (numG s).2 && (k != 2 || ((numG s).1 == 0 || (numG s).1 == 1)))
set_option maxHeartbeats 1000000 in
theorem readV_spec (k : Int) {s : List UInt8} (hs : s.length < 4294967281) {c : Int} {r : Bool} (hr : ∀ base h, CallA T base 17 [.str s] h = some (.tup [i64 c, .bool r], h))
    {bd : PV} {okd : Bool} (hb : Bs bd) (hd : k = 4 → ∀ base h, CallA T base 38 [.str s] h = some (.tup [bd, .bool okd], h)) :
    CallA T base 27 [i64 k, .str s] h = some (.tup [(readV k s r bd okd).1, .bool (readV k s r bd okd).2], h) := by
  have hl : ∀ base h, _ := fun base h => link_spec (base := base) (h := h) hs
  have hnu : ∀ base h, _ := fun base h => number_spec (base := base) (h := h) (s := s) (by omega)
  rw [S27]
  unfold readV
  by_cases h3 : k = 3
  · subst h3; simp only [hr, ↓evD, evU, Nat.reduceAdd, Nat.reduceSub, Nat.reduceMul, Nat.reduceLeDiff, Nat.reduceLT, Nat.reduceEqDiff, Nat.reduceBEq, reduceIte, reduceCtorEq, Int.reduceBEq, Int.reduceEq, Int.reduceLT, Int.reduceLE, Int.reduceGT, Int.reduceGE, Int.reduceAdd, Int.reduceSub, Int.reduceNeg, Int.reduceBNe, List.all_cons, List.all_nil, List.getElem?_cons_zero, List.getElem?_cons_succ, List.getElem?_nil, Option.map_some, List.length_cons, List.length_nil, List.set_cons_zero, List.set_cons_succ, List.map_cons, List.map_nil, List.drop_zero, List.drop_succ_cons, List.drop_nil, List.take_zero, List.take_succ_cons, List.take_nil, ite_true, ite_false, if_true, if_false, implies_true, forall_const, beq_self_eq_true, List.replicate_succ, List.replicate_zero, List.headD_cons, List.cons_append, List.nil_append, bne_self_eq_false]
  by_cases h4 : k = 4
  · subst h4
    have hd' := hd rfl
    simp only [hd', hb.sc, hb.fr, hb.be, hb.ce, hb.st, ↓evD, evU, Nat.reduceAdd, Nat.reduceSub, Nat.reduceMul, Nat.reduceLeDiff, Nat.reduceLT, Nat.reduceEqDiff, Nat.reduceBEq, reduceIte, reduceCtorEq, Int.reduceBEq, Int.reduceEq, Int.reduceLT, Int.reduceLE, Int.reduceGT, Int.reduceGE, Int.reduceAdd, Int.reduceSub, Int.reduceNeg, Int.reduceBNe, List.all_cons, List.all_nil, List.getElem?_cons_zero, List.getElem?_cons_succ, List.getElem?_nil, Option.map_some, List.length_cons, List.length_nil, List.set_cons_zero, List.set_cons_succ, List.map_cons, List.map_nil, List.drop_zero, List.drop_succ_cons, List.drop_nil, List.take_zero, List.take_succ_cons, List.take_nil, ite_true, ite_false, if_true, if_false, implies_true, forall_const, beq_self_eq_true, List.replicate_succ, List.replicate_zero, List.headD_cons, List.cons_append, List.nil_append, bne_self_eq_false]
  by_cases h6 : k = 6
  · subst h6
    cases hq : (linkG s).2.2 <;> simp only [hl, hq, ↓evD, evU, Nat.reduceAdd, Nat.reduceSub, Nat.reduceMul, Nat.reduceLeDiff, Nat.reduceLT, Nat.reduceEqDiff, Nat.reduceBEq, reduceIte, reduceCtorEq, Int.reduceBEq, Int.reduceEq, Int.reduceLT, Int.reduceLE, Int.reduceGT, Int.reduceGE, Int.reduceAdd, Int.reduceSub, Int.reduceNeg, Int.reduceBNe, List.all_cons, List.all_nil, List.getElem?_cons_zero, List.getElem?_cons_succ, List.getElem?_nil, Option.map_some, List.length_cons, List.length_nil, List.set_cons_zero, List.set_cons_succ, List.map_cons, List.map_nil, List.drop_zero, List.drop_succ_cons, List.drop_nil, List.take_zero, List.take_succ_cons, List.take_nil, ite_true, ite_false, if_true, if_false, implies_true, forall_const, beq_self_eq_true, List.replicate_succ, List.replicate_zero, List.headD_cons, List.cons_append, List.nil_append, bne_self_eq_false]
  generalize numG s = nn at *
  obtain ⟨n, ok⟩ := nn
  by_cases h2 : k = 2
  · subst h2
    cases ok
    · simp only [hnu, ↓evD, evU, Nat.reduceAdd, Nat.reduceSub, Nat.reduceMul, Nat.reduceLeDiff, Nat.reduceLT, Nat.reduceEqDiff, Nat.reduceBEq, reduceIte, reduceCtorEq, Int.reduceBEq, Int.reduceEq, Int.reduceLT, Int.reduceLE, Int.reduceGT, Int.reduceGE, Int.reduceAdd, Int.reduceSub, Int.reduceNeg, Int.reduceBNe, List.all_cons, List.all_nil, List.getElem?_cons_zero, List.getElem?_cons_succ, List.getElem?_nil, Option.map_some, List.length_cons, List.length_nil, List.set_cons_zero, List.set_cons_succ, List.map_cons, List.map_nil, List.drop_zero, List.drop_succ_cons, List.drop_nil, List.take_zero, List.take_succ_cons, List.take_nil, ite_true, ite_false, if_true, if_false, implies_true, forall_const, beq_self_eq_true, List.replicate_succ, List.replicate_zero, List.headD_cons, List.cons_append, List.nil_append, bne_self_eq_false]
    · cases hn0 : (n == 0) <;> simp only [hnu, hn0, ↓evD, evU, Nat.reduceAdd, Nat.reduceSub, Nat.reduceMul, Nat.reduceLeDiff, Nat.reduceLT, Nat.reduceEqDiff, Nat.reduceBEq, reduceIte, reduceCtorEq, Int.reduceBEq, Int.reduceEq, Int.reduceLT, Int.reduceLE, Int.reduceGT, Int.reduceGE, Int.reduceAdd, Int.reduceSub, Int.reduceNeg, Int.reduceBNe, List.all_cons, List.all_nil, List.getElem?_cons_zero, List.getElem?_cons_succ, List.getElem?_nil, Option.map_some, List.length_cons, List.length_nil, List.set_cons_zero, List.set_cons_succ, List.map_cons, List.map_nil, List.drop_zero, List.drop_succ_cons, List.drop_nil, List.take_zero, List.take_succ_cons, List.take_nil, ite_true, ite_false, if_true, if_false, implies_true, forall_const, beq_self_eq_true, List.replicate_succ, List.replicate_zero, List.headD_cons, List.cons_append, List.nil_append, bne_self_eq_false]
  cases ok
  · simp only [hnu, h2, h3, h4, h6, beq_false_of h2, beq_false_of h3, beq_false_of h4, beq_false_of h6, bne_true_of h2, ↓evD, evU, Nat.reduceAdd, Nat.reduceSub, Nat.reduceMul, Nat.reduceLeDiff, Nat.reduceLT, Nat.reduceEqDiff, Nat.reduceBEq, reduceIte, reduceCtorEq, Int.reduceBEq, Int.reduceEq, Int.reduceLT, Int.reduceLE, Int.reduceGT, Int.reduceGE, Int.reduceAdd, Int.reduceSub, Int.reduceNeg, Int.reduceBNe, List.all_cons, List.all_nil, List.getElem?_cons_zero, List.getElem?_cons_succ, List.getElem?_nil, Option.map_some, List.length_cons, List.length_nil, List.set_cons_zero, List.set_cons_succ, List.map_cons, List.map_nil, List.drop_zero, List.drop_succ_cons, List.drop_nil, List.take_zero, List.take_succ_cons, List.take_nil, ite_true, ite_false, if_true, if_false, implies_true, forall_const, beq_self_eq_true, List.replicate_succ, List.replicate_zero, List.headD_cons, List.cons_append, List.nil_append, bne_self_eq_false]
  · simp only [hnu, h2, h3, h4, h6, beq_false_of h2, beq_false_of h3, beq_false_of h4, beq_false_of h6, bne_true_of h2, ↓evD, evU, Nat.reduceAdd, Nat.reduceSub, Nat.reduceMul, Nat.reduceLeDiff, Nat.reduceLT, Nat.reduceEqDiff, Nat.reduceBEq, reduceIte, reduceCtorEq, Int.reduceBEq, Int.reduceEq, Int.reduceLT, Int.reduceLE, Int.reduceGT, Int.reduceGE, Int.reduceAdd, Int.reduceSub, Int.reduceNeg, Int.reduceBNe, List.all_cons, List.all_nil, List.getElem?_cons_zero, List.getElem?_cons_succ, List.getElem?_nil, Option.map_some, List.length_cons, List.length_nil, List.set_cons_zero, List.set_cons_succ, List.map_cons, List.map_nil, List.drop_zero, List.drop_succ_cons, List.drop_nil, List.take_zero, List.take_succ_cons, List.take_nil, ite_true, ite_false, if_true, if_false, implies_true, forall_const, beq_self_eq_true, List.replicate_succ, List.replicate_zero, List.headD_cons, List.cons_append, List.nil_append, bne_self_eq_false]
end
end Go.Am.YthhceeaconflnaaDoor
namespace Go.Am.YthhceeaconflnaaDoor
set_option maxRecDepth 100000
set_option linter.unusedSimpArgs false
set_option linter.unusedVariables false
section
variable {h : Hp} {base : Nat}
abbrev val0 : PV := val 0 0 [] .nils 0 0
/-- What Read answers when the inner read gave v, ok; L: how many bytes v has. -/
def readG (k : Int) (s : List UInt8) (v : PV) (ok : Bool) (L : Nat) : PV × Int :=
  if ¬ (1 ≤ k ∧ k ≤ 6) then (val0, 70) else if k = 3 ∧ 200 < s.length then (val0, 2) else if ok = false then (val0, 20) else if 200 < L then (val0, 2) else (v, 0)
set_option maxHeartbeats 1000000 in
theorem read_of (k : Int) (s : List UInt8) {a n o i : Int} {t : List UInt8} {b : PV} {ok : Bool} {L : Nat} (hb : Bs b) (hL : lenB false b = some (i64 L))
    (hv : ∀ base h, CallA T base 27 [i64 k, .str s] h = some (.tup [val a n t b o i, .bool ok], h)) :
    CallA T base 14 [i64 k, .str s] h = some (.tup [(readG k s (val a n t b o i) ok L).1, i64 (readG k s (val a n t b o i) ok L).2], h) := by
  have hk : ∀ base h, _ := fun base h => kind_spec (base := base) (h := h) k
  rw [S14]
  unfold readG
  have hl2 : ((L : Int) > 200) = (200 < L) := by simp only [gt_iff_lt, eq_iff_iff]; omega
  have hs2 : ((s.length : Int) > 200) = (200 < s.length) := by simp only [gt_iff_lt, eq_iff_iff]; omega
  by_cases hk6 : 1 ≤ k ∧ k ≤ 6
  · by_cases h3 : k = 3
    · subst h3
      by_cases hs : 200 < s.length
      · simp only [hv, hk, hk6, hs, hs2, hb.sc, hb.fr, hb.be, hb.ce, hb.st, ↓evD, evU, Nat.reduceAdd, Nat.reduceSub, Nat.reduceMul, Nat.reduceLeDiff, Nat.reduceLT, Nat.reduceEqDiff, Nat.reduceBEq, reduceIte, reduceCtorEq, Int.reduceBEq, Int.reduceEq, Int.reduceLT, Int.reduceLE, Int.reduceGT, Int.reduceGE, Int.reduceAdd, Int.reduceSub, Int.reduceNeg, Int.reduceBNe, List.all_cons, List.all_nil, List.getElem?_cons_zero, List.getElem?_cons_succ, List.getElem?_nil, Option.map_some, List.length_cons, List.length_nil, List.set_cons_zero, List.set_cons_succ, List.map_cons, List.map_nil, List.drop_zero, List.drop_succ_cons, List.drop_nil, List.take_zero, List.take_succ_cons, List.take_nil, ite_true, ite_false, if_true, if_false, implies_true, forall_const, beq_self_eq_true, List.replicate_succ, List.replicate_zero, List.headD_cons, List.cons_append, List.nil_append, bne_self_eq_false]
      · cases ok
        · simp only [hv, hk, hk6, hs, hs2, hb.sc, hb.fr, hb.be, hb.ce, hb.st, ↓evD, evU, Nat.reduceAdd, Nat.reduceSub, Nat.reduceMul, Nat.reduceLeDiff, Nat.reduceLT, Nat.reduceEqDiff, Nat.reduceBEq, reduceIte, reduceCtorEq, Int.reduceBEq, Int.reduceEq, Int.reduceLT, Int.reduceLE, Int.reduceGT, Int.reduceGE, Int.reduceAdd, Int.reduceSub, Int.reduceNeg, Int.reduceBNe, List.all_cons, List.all_nil, List.getElem?_cons_zero, List.getElem?_cons_succ, List.getElem?_nil, Option.map_some, List.length_cons, List.length_nil, List.set_cons_zero, List.set_cons_succ, List.map_cons, List.map_nil, List.drop_zero, List.drop_succ_cons, List.drop_nil, List.take_zero, List.take_succ_cons, List.take_nil, ite_true, ite_false, if_true, if_false, implies_true, forall_const, beq_self_eq_true, List.replicate_succ, List.replicate_zero, List.headD_cons, List.cons_append, List.nil_append, bne_self_eq_false]
        · by_cases hl : 200 < L <;> simp only [hv, hk, hk6, hs, hs2, hL, hl2, hl, hb.sc, hb.fr, hb.be, hb.ce, hb.st, ↓evD, evU, Nat.reduceAdd, Nat.reduceSub, Nat.reduceMul, Nat.reduceLeDiff, Nat.reduceLT, Nat.reduceEqDiff, Nat.reduceBEq, reduceIte, reduceCtorEq, Int.reduceBEq, Int.reduceEq, Int.reduceLT, Int.reduceLE, Int.reduceGT, Int.reduceGE, Int.reduceAdd, Int.reduceSub, Int.reduceNeg, Int.reduceBNe, List.all_cons, List.all_nil, List.getElem?_cons_zero, List.getElem?_cons_succ, List.getElem?_nil, Option.map_some, List.length_cons, List.length_nil, List.set_cons_zero, List.set_cons_succ, List.map_cons, List.map_nil, List.drop_zero, List.drop_succ_cons, List.drop_nil, List.take_zero, List.take_succ_cons, List.take_nil, ite_true, ite_false, if_true, if_false, implies_true, forall_const, beq_self_eq_true, List.replicate_succ, List.replicate_zero, List.headD_cons, List.cons_append, List.nil_append, bne_self_eq_false]
    · cases ok
      · simp only [hv, hk, hk6, h3, beq_false_of h3, hb.sc, hb.fr, hb.be, hb.ce, hb.st, ↓evD, evU, Nat.reduceAdd, Nat.reduceSub, Nat.reduceMul, Nat.reduceLeDiff, Nat.reduceLT, Nat.reduceEqDiff, Nat.reduceBEq, reduceIte, reduceCtorEq, Int.reduceBEq, Int.reduceEq, Int.reduceLT, Int.reduceLE, Int.reduceGT, Int.reduceGE, Int.reduceAdd, Int.reduceSub, Int.reduceNeg, Int.reduceBNe, List.all_cons, List.all_nil, List.getElem?_cons_zero, List.getElem?_cons_succ, List.getElem?_nil, Option.map_some, List.length_cons, List.length_nil, List.set_cons_zero, List.set_cons_succ, List.map_cons, List.map_nil, List.drop_zero, List.drop_succ_cons, List.drop_nil, List.take_zero, List.take_succ_cons, List.take_nil, ite_true, ite_false, if_true, if_false, implies_true, forall_const, beq_self_eq_true, List.replicate_succ, List.replicate_zero, List.headD_cons, List.cons_append, List.nil_append, bne_self_eq_false]
      · by_cases hl : 200 < L <;> simp only [hv, hk, hk6, h3, beq_false_of h3, hL, hl2, hl, hb.sc, hb.fr, hb.be, hb.ce, hb.st, ↓evD, evU, Nat.reduceAdd, Nat.reduceSub, Nat.reduceMul, Nat.reduceLeDiff, Nat.reduceLT, Nat.reduceEqDiff, Nat.reduceBEq, reduceIte, reduceCtorEq, Int.reduceBEq, Int.reduceEq, Int.reduceLT, Int.reduceLE, Int.reduceGT, Int.reduceGE, Int.reduceAdd, Int.reduceSub, Int.reduceNeg, Int.reduceBNe, List.all_cons, List.all_nil, List.getElem?_cons_zero, List.getElem?_cons_succ, List.getElem?_nil, Option.map_some, List.length_cons, List.length_nil, List.set_cons_zero, List.set_cons_succ, List.map_cons, List.map_nil, List.drop_zero, List.drop_succ_cons, List.drop_nil, List.take_zero, List.take_succ_cons, List.take_nil, ite_true, ite_false, if_true, if_false, implies_true, forall_const, beq_self_eq_true, List.replicate_succ, List.replicate_zero, List.headD_cons, List.cons_append, List.nil_append, bne_self_eq_false]
  · simp only [hk, hk6, ↓evD, evU, Nat.reduceAdd, Nat.reduceSub, Nat.reduceMul, Nat.reduceLeDiff, Nat.reduceLT, Nat.reduceEqDiff, Nat.reduceBEq, reduceIte, reduceCtorEq, Int.reduceBEq, Int.reduceEq, Int.reduceLT, Int.reduceLE, Int.reduceGT, Int.reduceGE, Int.reduceAdd, Int.reduceSub, Int.reduceNeg, Int.reduceBNe, List.all_cons, List.all_nil, List.getElem?_cons_zero, List.getElem?_cons_succ, List.getElem?_nil, Option.map_some, List.length_cons, List.length_nil, List.set_cons_zero, List.set_cons_succ, List.map_cons, List.map_nil, List.drop_zero, List.drop_succ_cons, List.drop_nil, List.take_zero, List.take_succ_cons, List.take_nil, ite_true, ite_false, if_true, if_false, implies_true, forall_const, beq_self_eq_true, List.replicate_succ, List.replicate_zero, List.headD_cons, List.cons_append, List.nil_append, bne_self_eq_false]

/-- Of a number's kind. -/
theorem read_num {k : Int} (hk : k = 1 ∨ k = 5) {s : List UInt8} (hs : s.length ≤ 100) {c : Int} {r : Bool} (hr : ∀ base h, CallA T base 17 [.str s] h = some (.tup [i64 c, .bool r], h)) :
    CallA T base 14 [i64 k, .str s] h = some (if (numG s).2 then .tup [val k (numG s).1 [] .nils 0 0, i64 0] else .tup [val0, i64 20], h) := by
  have h1 : ∀ base h, CallA T base 27 [i64 k, .str s] h = some (.tup [val k (numG s).1 [] .nils 0 0, .bool (numG s).2], h) := by
    intro base h
    have := readV_spec (base := base) (h := h) k (s := s) (by omega) hr (bd := .nils) (okd := false) bs_nils (fun h4 => by rcases hk with rfl | rfl <;> cases h4)
    rw [this]
    rcases hk with rfl | rfl <;> simp [readV]
  rw [read_of k s bs_nils (L := 0) rfl h1]
  cases (numG s).2 <;> rcases hk with rfl | rfl <;> simp [readG]

/-- Of a link. -/
theorem read_link {s : List UInt8} (hs : s.length ≤ 100) {c : Int} {r : Bool} (hr : ∀ base h, CallA T base 17 [.str s] h = some (.tup [i64 c, .bool r], h)) :
    CallA T base 14 [i64 6, .str s] h = some (if (linkG s).2.2 then .tup [val 6 0 [] .nils (linkG s).1 (linkG s).2.1, i64 0] else .tup [val0, i64 20], h) := by
  cases hq : (linkG s).2.2
  · have h1 : ∀ base h, CallA T base 27 [i64 6, .str s] h = some (.tup [val0, .bool false], h) := by
      intro base h
      have := readV_spec (base := base) (h := h) 6 (s := s) (by omega) hr (bd := .nils) (okd := false) bs_nils (fun h4 => by cases h4)
      rw [this]; simp [readV, hq]
    rw [read_of 6 s bs_nils (L := 0) rfl h1]; simp [readG]
  · have h1 : ∀ base h, CallA T base 27 [i64 6, .str s] h = some (.tup [val 6 0 [] .nils (linkG s).1 (linkG s).2.1, .bool true], h) := by
      intro base h
      have := readV_spec (base := base) (h := h) 6 (s := s) (by omega) hr (bd := .nils) (okd := false) bs_nils (fun h4 => by cases h4)
      rw [this]; simp [readV, hq]
    rw [read_of 6 s bs_nils (L := 0) rfl h1]; simp [readG]
end
end Go.Am.YthhceeaconflnaaDoor
namespace Go.Am.YthhceeaconflnaaDoor
set_option maxRecDepth 100000
set_option linter.unusedSimpArgs false
set_option linter.unusedVariables false
abbrev zB : List PV := [.int .i64 0, .int .i64 0, .str [], .nils, .int .i64 0, .int .i64 0]
/-- The two boxes of Read: the answer, the value. -/
abbrev rdH (h : Hp) (k n : Int) (s : List UInt8) (b : PV) (o i : Int) : Hp := ext h [.cells zB, .cells [i64 k, i64 n, .str s, b, i64 o, i64 i]]
theorem not_lt_size' (h : Hp) : ¬ size h < size h := by omega
theorem not_lt_size1 (h : Hp) : ¬ size h + 1 < size h := by omega
theorem read_end {h : Hp} (k n : Int) (s : List UInt8) {b : PV} {l : List UInt8} (o i : Int) (hb : Bv b l) (ok : Bool) :
    P15_1 (size h) (size h) (.ptr (size h) 0) (.ptr (size h + 1) 0) (.bool ok) (rdH h k n s b o i) = some (.tup [if ok then val k n s b o i else val0, i64 (if ok then 0 else 20)], h) := by
  rw [P15_1_eq]
  cases ok <;> simp only [resB_ptr, hb.scalar, hb.cells, hb.frz, hb.strip, hb.below, ↓evD, evU, Nat.reduceAdd, Nat.reduceSub, Nat.reduceMul, Nat.reduceLeDiff, Nat.reduceLT, Nat.reduceEqDiff, Nat.reduceBEq, reduceIte, reduceCtorEq, Int.reduceBEq, Int.reduceEq, Int.reduceLT, Int.reduceLE, Int.reduceGT, Int.reduceGE, Int.reduceAdd, Int.reduceSub, Int.reduceNeg, Int.reduceBNe, List.all_cons, List.all_nil, List.getElem?_cons_zero, List.getElem?_cons_succ, List.getElem?_nil, Option.map_some, List.length_cons, List.length_nil, List.set_cons_zero, List.set_cons_succ, List.map_cons, List.map_nil, List.drop_zero, List.drop_succ_cons, List.drop_nil, List.take_zero, List.take_succ_cons, List.take_nil, ite_true, ite_false, if_true, if_false, implies_true, forall_const, beq_self_eq_true, List.replicate_succ, List.replicate_zero, List.headD_cons, List.cons_append, List.nil_append, bne_self_eq_false]
/-- No colon yet. -/
theorem link_loop {h : Hp} (s : List UInt8) (hs : s.length ≤ 1000000) : ∀ (r p : List UInt8), s = p ++ r → (∀ c ∈ p, c ≠ 58) →
    P15_2 (size h) (size h) (.ptr (size h) 0) (.int .i64 p.length) (.ptr (size h + 1) 0) (.str s) (.bool false) (rdH h 6 0 [] .nils 0 0) =
      some (if (linkG s).2.2 then .tup [val 6 0 [] .nils (linkG s).1 (linkG s).2.1, i64 0] else .tup [val0, i64 20], h)
  | [], p, hp, hc => by
    rw [P15_2_eq]
    have e : p.length = s.length := by rw [hp]; simp
    have h1 : ((p.length : Int) < (s.length : Int)) = False := by simp; omega
    have he := read_end (h := h) 6 0 [] 0 0 Bv.nils false
    have hl : linkG s = (0, 0, false) := by
      have hpn : s = p := by rw [hp]; simp
      have hi : Lib.index s [58] = -1 := by
        rw [hpn]
        clear hp hpn e h1
        induction p with
        | nil => rfl
        | cons x p ih =>
          have hx : x ≠ 58 := hc x (by simp)
          have hq : ([58] : List UInt8).isPrefixOf (x :: p) = false := by
            simp only [List.isPrefixOf, Bool.and_eq_false_iff, beq_eq_false_iff_ne]
            exact .inl (fun hq => hx hq.symm)
          have h2 := ih fun c hc' => hc c (by simp [hc'])
          rw [Lib.index, hq, h2]
          rfl
      have hcut : (Lib.cut s [58]).2.2 = false := by
        unfold Lib.cut
        rw [hi]
        rfl
      unfold linkG
      simp [hcut]
    rw [hl]
    simp only [h1, he, ↓evD, evU, Nat.reduceAdd, Nat.reduceSub, Nat.reduceMul, Nat.reduceLeDiff, Nat.reduceLT, Nat.reduceEqDiff, Nat.reduceBEq, reduceIte, reduceCtorEq, Int.reduceBEq, Int.reduceEq, Int.reduceLT, Int.reduceLE, Int.reduceGT, Int.reduceGE, Int.reduceAdd, Int.reduceSub, Int.reduceNeg, Int.reduceBNe, List.all_cons, List.all_nil, List.getElem?_cons_zero, List.getElem?_cons_succ, List.getElem?_nil, Option.map_some, List.length_cons, List.length_nil, List.set_cons_zero, List.set_cons_succ, List.map_cons, List.map_nil, List.drop_zero, List.drop_succ_cons, List.drop_nil, List.take_zero, List.take_succ_cons, List.take_nil, ite_true, ite_false, if_true, if_false, implies_true, forall_const, beq_self_eq_true, List.replicate_succ, List.replicate_zero, List.headD_cons, List.cons_append, List.nil_append, bne_self_eq_false]
  | x :: r, p, hp, hc => by
    rw [P15_2_eq]
    have el : s.length = p.length + (r.length + 1) := by rw [hp]; simp
    have h1 : ((p.length : Int) < (s.length : Int)) = True := by simp; omega
    have hx : s[p.length]? = some x := by rw [hp]; simp
    have hix := ix_nat .i64 p.length s.length (by omega)
    have w1 : IntKind.i64.wrap ((p.length : Int) + 1) = ((p.length + 1 : Nat) : Int) := by rw [wrap_small] <;> omega
    by_cases h58 : x = 58
    · have e58 : ((x.toNat : Int) == 58) = true := by rw [h58]; rfl
      have hb1 := bdV_nat s.length .i64 p.length (by omega)
      have hb0 : bdW p.length 0 none = some 0 := rfl
      have ht1 : (s.drop 0).take (p.length - 0) = p := by rw [hp]; simp
      have hb2 := bdV_nat s.length .i64 (p.length + 1) (by omega)
      have ht2 : (s.drop (p.length + 1)).take (s.length - (p.length + 1)) = r := by
        rw [List.take_of_length_le (by rw [List.length_drop]; exact Nat.le_refl _), hp, ← List.drop_drop, List.drop_left]; rfl
      have hA : ∀ base h, _ := fun base h => numberR_spec (base := base) (h := h) p
      have hB : ∀ base h, _ := fun base h => numberR_spec (base := base) (h := h) r
      have hcut : Lib.cut s [58] = (p, r, true) := by rw [hp, h58]; exact cut_colon p r hc
      have hl : linkG s = if (numR p).2 = true ∧ (numR r).2 = true ∧ 0 ≤ (numR p).1 ∧ (numR p).1 ≤ 65535 ∧ 0 ≤ (numR r).1 ∧ (numR r).1 ≤ 65535 then ((numR p).1, (numR r).1, true) else (0, 0, false) := by
        unfold linkG
        rw [hcut]
        simp only [true_and]
        unfold numR
        cases h1 : (numG p).2 <;> cases h2 : (numG r).2 <;> simp [h1, h2]
      rw [hl]
      generalize numR p = a at *
      generalize numR r = b at *
      obtain ⟨a1, a2⟩ := a
      obtain ⟨b1, b2⟩ := b
      have ht1' : s.take p.length = p := by rw [hp]; simp
      have hnl := not_lt_size1 h
      cases a2
      · simp only [h1, hix, hx, e58, hb1, ht1', hb2, ht2, w1, hA, hB, resB_ptr, Nat.sub_zero, ↓evD, evU, Nat.reduceAdd, Nat.reduceSub, Nat.reduceMul, Nat.reduceLeDiff, Nat.reduceLT, Nat.reduceEqDiff, Nat.reduceBEq, reduceIte, reduceCtorEq, Int.reduceBEq, Int.reduceEq, Int.reduceLT, Int.reduceLE, Int.reduceGT, Int.reduceGE, Int.reduceAdd, Int.reduceSub, Int.reduceNeg, Int.reduceBNe, List.all_cons, List.all_nil, List.getElem?_cons_zero, List.getElem?_cons_succ, List.getElem?_nil, Option.map_some, List.length_cons, List.length_nil, List.set_cons_zero, List.set_cons_succ, List.map_cons, List.map_nil, List.drop_zero, List.drop_succ_cons, List.drop_nil, List.take_zero, List.take_succ_cons, List.take_nil, ite_true, ite_false, if_true, if_false, implies_true, forall_const, beq_self_eq_true, List.replicate_succ, List.replicate_zero, List.headD_cons, List.cons_append, List.nil_append, bne_self_eq_false]
      cases b2
      · simp only [h1, hix, hx, e58, hb1, ht1', hb2, ht2, w1, hA, hB, resB_ptr, Nat.sub_zero, ↓evD, evU, Nat.reduceAdd, Nat.reduceSub, Nat.reduceMul, Nat.reduceLeDiff, Nat.reduceLT, Nat.reduceEqDiff, Nat.reduceBEq, reduceIte, reduceCtorEq, Int.reduceBEq, Int.reduceEq, Int.reduceLT, Int.reduceLE, Int.reduceGT, Int.reduceGE, Int.reduceAdd, Int.reduceSub, Int.reduceNeg, Int.reduceBNe, List.all_cons, List.all_nil, List.getElem?_cons_zero, List.getElem?_cons_succ, List.getElem?_nil, Option.map_some, List.length_cons, List.length_nil, List.set_cons_zero, List.set_cons_succ, List.map_cons, List.map_nil, List.drop_zero, List.drop_succ_cons, List.drop_nil, List.take_zero, List.take_succ_cons, List.take_nil, ite_true, ite_false, if_true, if_false, implies_true, forall_const, beq_self_eq_true, List.replicate_succ, List.replicate_zero, List.headD_cons, List.cons_append, List.nil_append, bne_self_eq_false]
      by_cases g1 : a1 < 0
      · have k1 : ¬ 0 ≤ a1 := by omega
        simp only [h1, hix, hx, e58, hb1, ht1', hb2, ht2, w1, hA, hB, resB_ptr, Nat.sub_zero, g1, k1, ↓evD, evU, Nat.reduceAdd, Nat.reduceSub, Nat.reduceMul, Nat.reduceLeDiff, Nat.reduceLT, Nat.reduceEqDiff, Nat.reduceBEq, reduceIte, reduceCtorEq, Int.reduceBEq, Int.reduceEq, Int.reduceLT, Int.reduceLE, Int.reduceGT, Int.reduceGE, Int.reduceAdd, Int.reduceSub, Int.reduceNeg, Int.reduceBNe, List.all_cons, List.all_nil, List.getElem?_cons_zero, List.getElem?_cons_succ, List.getElem?_nil, Option.map_some, List.length_cons, List.length_nil, List.set_cons_zero, List.set_cons_succ, List.map_cons, List.map_nil, List.drop_zero, List.drop_succ_cons, List.drop_nil, List.take_zero, List.take_succ_cons, List.take_nil, ite_true, ite_false, if_true, if_false, implies_true, forall_const, beq_self_eq_true, List.replicate_succ, List.replicate_zero, List.headD_cons, List.cons_append, List.nil_append, bne_self_eq_false]
      have k1 : 0 ≤ a1 := by omega
      by_cases g2 : b1 < 0
      · have k2 : ¬ 0 ≤ b1 := by omega
        simp only [h1, hix, hx, e58, hb1, ht1', hb2, ht2, w1, hA, hB, resB_ptr, Nat.sub_zero, g1, k1, g2, k2, ↓evD, evU, Nat.reduceAdd, Nat.reduceSub, Nat.reduceMul, Nat.reduceLeDiff, Nat.reduceLT, Nat.reduceEqDiff, Nat.reduceBEq, reduceIte, reduceCtorEq, Int.reduceBEq, Int.reduceEq, Int.reduceLT, Int.reduceLE, Int.reduceGT, Int.reduceGE, Int.reduceAdd, Int.reduceSub, Int.reduceNeg, Int.reduceBNe, List.all_cons, List.all_nil, List.getElem?_cons_zero, List.getElem?_cons_succ, List.getElem?_nil, Option.map_some, List.length_cons, List.length_nil, List.set_cons_zero, List.set_cons_succ, List.map_cons, List.map_nil, List.drop_zero, List.drop_succ_cons, List.drop_nil, List.take_zero, List.take_succ_cons, List.take_nil, ite_true, ite_false, if_true, if_false, implies_true, forall_const, beq_self_eq_true, List.replicate_succ, List.replicate_zero, List.headD_cons, List.cons_append, List.nil_append, bne_self_eq_false]
      have k2 : 0 ≤ b1 := by omega
      by_cases g3 : a1 > 65535
      · have k3 : ¬ a1 ≤ 65535 := by omega
        simp only [h1, hix, hx, e58, hb1, ht1', hb2, ht2, w1, hA, hB, resB_ptr, Nat.sub_zero, g1, k1, g2, k2, g3, k3, ↓evD, evU, Nat.reduceAdd, Nat.reduceSub, Nat.reduceMul, Nat.reduceLeDiff, Nat.reduceLT, Nat.reduceEqDiff, Nat.reduceBEq, reduceIte, reduceCtorEq, Int.reduceBEq, Int.reduceEq, Int.reduceLT, Int.reduceLE, Int.reduceGT, Int.reduceGE, Int.reduceAdd, Int.reduceSub, Int.reduceNeg, Int.reduceBNe, List.all_cons, List.all_nil, List.getElem?_cons_zero, List.getElem?_cons_succ, List.getElem?_nil, Option.map_some, List.length_cons, List.length_nil, List.set_cons_zero, List.set_cons_succ, List.map_cons, List.map_nil, List.drop_zero, List.drop_succ_cons, List.drop_nil, List.take_zero, List.take_succ_cons, List.take_nil, ite_true, ite_false, if_true, if_false, implies_true, forall_const, beq_self_eq_true, List.replicate_succ, List.replicate_zero, List.headD_cons, List.cons_append, List.nil_append, bne_self_eq_false]
      have k3 : a1 ≤ 65535 := by omega
      by_cases g4 : b1 > 65535
      · have k4 : ¬ b1 ≤ 65535 := by omega
        simp only [h1, hix, hx, e58, hb1, ht1', hb2, ht2, w1, hA, hB, resB_ptr, Nat.sub_zero, g1, k1, g2, k2, g3, k3, g4, k4, ↓evD, evU, Nat.reduceAdd, Nat.reduceSub, Nat.reduceMul, Nat.reduceLeDiff, Nat.reduceLT, Nat.reduceEqDiff, Nat.reduceBEq, reduceIte, reduceCtorEq, Int.reduceBEq, Int.reduceEq, Int.reduceLT, Int.reduceLE, Int.reduceGT, Int.reduceGE, Int.reduceAdd, Int.reduceSub, Int.reduceNeg, Int.reduceBNe, List.all_cons, List.all_nil, List.getElem?_cons_zero, List.getElem?_cons_succ, List.getElem?_nil, Option.map_some, List.length_cons, List.length_nil, List.set_cons_zero, List.set_cons_succ, List.map_cons, List.map_nil, List.drop_zero, List.drop_succ_cons, List.drop_nil, List.take_zero, List.take_succ_cons, List.take_nil, ite_true, ite_false, if_true, if_false, implies_true, forall_const, beq_self_eq_true, List.replicate_succ, List.replicate_zero, List.headD_cons, List.cons_append, List.nil_append, bne_self_eq_false]
      have k4 : b1 ≤ 65535 := by omega
      have he := read_end (h := h) 6 0 [] a1 b1 Bv.nils true
      simp only [h1, hix, hx, e58, hb1, ht1', hb2, ht2, w1, hA, hB, resB_ptr, Nat.sub_zero, g1, k1, g2, k2, g3, k3, g4, k4, ↓evD, evU, Nat.reduceAdd, Nat.reduceSub, Nat.reduceMul, Nat.reduceLeDiff, Nat.reduceLT, Nat.reduceEqDiff, Nat.reduceBEq, reduceIte, reduceCtorEq, Int.reduceBEq, Int.reduceEq, Int.reduceLT, Int.reduceLE, Int.reduceGT, Int.reduceGE, Int.reduceAdd, Int.reduceSub, Int.reduceNeg, Int.reduceBNe, List.all_cons, List.all_nil, List.getElem?_cons_zero, List.getElem?_cons_succ, List.getElem?_nil, Option.map_some, List.length_cons, List.length_nil, List.set_cons_zero, List.set_cons_succ, List.map_cons, List.map_nil, List.drop_zero, List.drop_succ_cons, List.drop_nil, List.take_zero, List.take_succ_cons, List.take_nil, ite_true, ite_false, if_true, if_false, implies_true, forall_const, beq_self_eq_true, List.replicate_succ, List.replicate_zero, List.headD_cons, List.cons_append, List.nil_append, bne_self_eq_false]
      rw [P15_2_eq]
      by_cases h9 : ((p.length + 1 : Nat) : Int) < (s.length : Int)
      · simp only [h9, he, ↓evD, evU, Nat.reduceAdd, Nat.reduceSub, Nat.reduceMul, Nat.reduceLeDiff, Nat.reduceLT, Nat.reduceEqDiff, Nat.reduceBEq, reduceIte, reduceCtorEq, Int.reduceBEq, Int.reduceEq, Int.reduceLT, Int.reduceLE, Int.reduceGT, Int.reduceGE, Int.reduceAdd, Int.reduceSub, Int.reduceNeg, Int.reduceBNe, List.all_cons, List.all_nil, List.getElem?_cons_zero, List.getElem?_cons_succ, List.getElem?_nil, Option.map_some, List.length_cons, List.length_nil, List.set_cons_zero, List.set_cons_succ, List.map_cons, List.map_nil, List.drop_zero, List.drop_succ_cons, List.drop_nil, List.take_zero, List.take_succ_cons, List.take_nil, ite_true, ite_false, if_true, if_false, implies_true, forall_const, beq_self_eq_true, List.replicate_succ, List.replicate_zero, List.headD_cons, List.cons_append, List.nil_append, bne_self_eq_false]
      · simp only [h9, he, ↓evD, evU, Nat.reduceAdd, Nat.reduceSub, Nat.reduceMul, Nat.reduceLeDiff, Nat.reduceLT, Nat.reduceEqDiff, Nat.reduceBEq, reduceIte, reduceCtorEq, Int.reduceBEq, Int.reduceEq, Int.reduceLT, Int.reduceLE, Int.reduceGT, Int.reduceGE, Int.reduceAdd, Int.reduceSub, Int.reduceNeg, Int.reduceBNe, List.all_cons, List.all_nil, List.getElem?_cons_zero, List.getElem?_cons_succ, List.getElem?_nil, Option.map_some, List.length_cons, List.length_nil, List.set_cons_zero, List.set_cons_succ, List.map_cons, List.map_nil, List.drop_zero, List.drop_succ_cons, List.drop_nil, List.take_zero, List.take_succ_cons, List.take_nil, ite_true, ite_false, if_true, if_false, implies_true, forall_const, beq_self_eq_true, List.replicate_succ, List.replicate_zero, List.headD_cons, List.cons_append, List.nil_append, bne_self_eq_false]
    · have e58 : ((x.toNat : Int) == 58) = false := by
        rw [beq_eq_false_iff_ne]
        intro q
        have : x.toNat = (58 : UInt8).toNat := by have z : (58 : UInt8).toNat = 58 := rfl
                                                  omega
        exact h58 (UInt8.toNat_inj.1 this)
      have ih := link_loop (h := h) s hs r (p ++ [x]) (by rw [hp]; simp) (by
        intro c hc'
        simp only [List.mem_append, List.mem_singleton] at hc'
        rcases hc' with hc' | rfl
        · exact hc c hc'
        · exact h58)
      have elp : (p ++ [x]).length = p.length + 1 := by simp
      rw [elp] at ih
      simp only [h1, hix, hx, e58, w1, ih, ↓evD, evU, Nat.reduceAdd, Nat.reduceSub, Nat.reduceMul, Nat.reduceLeDiff, Nat.reduceLT, Nat.reduceEqDiff, Nat.reduceBEq, reduceIte, reduceCtorEq, Int.reduceBEq, Int.reduceEq, Int.reduceLT, Int.reduceLE, Int.reduceGT, Int.reduceGE, Int.reduceAdd, Int.reduceSub, Int.reduceNeg, Int.reduceBNe, List.all_cons, List.all_nil, List.getElem?_cons_zero, List.getElem?_cons_succ, List.getElem?_nil, Option.map_some, List.length_cons, List.length_nil, List.set_cons_zero, List.set_cons_succ, List.map_cons, List.map_nil, List.drop_zero, List.drop_succ_cons, List.drop_nil, List.take_zero, List.take_succ_cons, List.take_nil, ite_true, ite_false, if_true, if_false, implies_true, forall_const, beq_self_eq_true, List.replicate_succ, List.replicate_zero, List.headD_cons, List.cons_append, List.nil_append, bne_self_eq_false]
/-- What the reference's Read answers. -/
def readR (k : Int) (s : List UInt8) (r : Bool) : PV × Int :=
  if k = 1 ∨ k = 2 ∨ k = 5 then (if (numR s).2 = true ∧ (k ≠ 2 ∨ (numR s).1 = 0 ∨ (numR s).1 = 1) then (val k (numR s).1 [] .nils 0 0, 0) else (val0, 20))
  else if k = 3 then (if 200 < s.length then (val0, 2) else if r then (val 3 0 s .nils 0 0, 0) else (val0, 20))
  else if k = 4 then (match decL s with
    | none => (val0, 20)
    | some l => if 200 < l.length then (val0, 2) else (val 4 0 [] (gD zF 1 (u8s l)) 0 0, 0))
  else if k = 6 then (if (linkG s).2.2 then (val 6 0 [] .nils (linkG s).1 (linkG s).2.1, 0) else (val0, 20))
  else (val0, 70)
set_option maxHeartbeats 2000000 in
theorem readR_spec {base : Nat} {h : Hp} (k : Int) {s : List UInt8} (hs : s.length ≤ 1000000) {c : Int} {r : Bool} (hr : ∀ base h, CallA T base 18 [.str s] h = some (.tup [i64 c, .bool r], h)) :
    CallA T base 15 [i64 k, .str s] h = some (.tup [(readR k s r).1, i64 (readR k s r).2], h) := by
  rw [S15]
  unfold readR
  have hN : ∀ base h, _ := fun base h => numberR_spec (base := base) (h := h) s
  have hnl := not_lt_size1 h
  have num : ∀ (k : Int), P15_0 (size h) (size h) (.bool true) (.ptr (size h) 0) (.ptr (size h + 1) 0) (i64 k) (.str s) (.bool false) (i64 k) (rdH h k 0 [] .nils 0 0) =
      some (.tup [if (numR s).2 = true ∧ (k ≠ 2 ∨ (numR s).1 = 0 ∨ (numR s).1 = 1) then val k (numR s).1 [] .nils 0 0 else val0, i64 (if (numR s).2 = true ∧ (k ≠ 2 ∨ (numR s).1 = 0 ∨ (numR s).1 = 1) then 0 else 20)], h) := by
    intro k
    rw [P15_0_eq]
    generalize numR s = nn at *
    obtain ⟨n, ok⟩ := nn
    have he := fun b => read_end (h := h) k n [] 0 0 Bv.nils b
    cases ok
    · simp only [hN, he, hnl, ↓evD, evU, Nat.reduceAdd, Nat.reduceSub, Nat.reduceMul, Nat.reduceLeDiff, Nat.reduceLT, Nat.reduceEqDiff, Nat.reduceBEq, reduceIte, reduceCtorEq, Int.reduceBEq, Int.reduceEq, Int.reduceLT, Int.reduceLE, Int.reduceGT, Int.reduceGE, Int.reduceAdd, Int.reduceSub, Int.reduceNeg, Int.reduceBNe, List.all_cons, List.all_nil, List.getElem?_cons_zero, List.getElem?_cons_succ, List.getElem?_nil, Option.map_some, List.length_cons, List.length_nil, List.set_cons_zero, List.set_cons_succ, List.map_cons, List.map_nil, List.drop_zero, List.drop_succ_cons, List.drop_nil, List.take_zero, List.take_succ_cons, List.take_nil, ite_true, ite_false, if_true, if_false, implies_true, forall_const, beq_self_eq_true, List.replicate_succ, List.replicate_zero, List.headD_cons, List.cons_append, List.nil_append, bne_self_eq_false]
    · by_cases h2 : k = 2
      · subst h2
        by_cases g0 : n = 0
        · subst g0; simp only [hN, he, hnl, ↓evD, evU, Nat.reduceAdd, Nat.reduceSub, Nat.reduceMul, Nat.reduceLeDiff, Nat.reduceLT, Nat.reduceEqDiff, Nat.reduceBEq, reduceIte, reduceCtorEq, Int.reduceBEq, Int.reduceEq, Int.reduceLT, Int.reduceLE, Int.reduceGT, Int.reduceGE, Int.reduceAdd, Int.reduceSub, Int.reduceNeg, Int.reduceBNe, List.all_cons, List.all_nil, List.getElem?_cons_zero, List.getElem?_cons_succ, List.getElem?_nil, Option.map_some, List.length_cons, List.length_nil, List.set_cons_zero, List.set_cons_succ, List.map_cons, List.map_nil, List.drop_zero, List.drop_succ_cons, List.drop_nil, List.take_zero, List.take_succ_cons, List.take_nil, ite_true, ite_false, if_true, if_false, implies_true, forall_const, beq_self_eq_true, List.replicate_succ, List.replicate_zero, List.headD_cons, List.cons_append, List.nil_append, bne_self_eq_false]
        · by_cases g1 : n = 1
          · subst g1; simp only [hN, he, hnl, ↓evD, evU, Nat.reduceAdd, Nat.reduceSub, Nat.reduceMul, Nat.reduceLeDiff, Nat.reduceLT, Nat.reduceEqDiff, Nat.reduceBEq, reduceIte, reduceCtorEq, Int.reduceBEq, Int.reduceEq, Int.reduceLT, Int.reduceLE, Int.reduceGT, Int.reduceGE, Int.reduceAdd, Int.reduceSub, Int.reduceNeg, Int.reduceBNe, List.all_cons, List.all_nil, List.getElem?_cons_zero, List.getElem?_cons_succ, List.getElem?_nil, Option.map_some, List.length_cons, List.length_nil, List.set_cons_zero, List.set_cons_succ, List.map_cons, List.map_nil, List.drop_zero, List.drop_succ_cons, List.drop_nil, List.take_zero, List.take_succ_cons, List.take_nil, ite_true, ite_false, if_true, if_false, implies_true, forall_const, beq_self_eq_true, List.replicate_succ, List.replicate_zero, List.headD_cons, List.cons_append, List.nil_append, bne_self_eq_false]
          · simp only [hN, he, hnl, beq_false_of g0, beq_false_of g1, g0, g1, ne_eq, ↓evD, evU, Nat.reduceAdd, Nat.reduceSub, Nat.reduceMul, Nat.reduceLeDiff, Nat.reduceLT, Nat.reduceEqDiff, Nat.reduceBEq, reduceIte, reduceCtorEq, Int.reduceBEq, Int.reduceEq, Int.reduceLT, Int.reduceLE, Int.reduceGT, Int.reduceGE, Int.reduceAdd, Int.reduceSub, Int.reduceNeg, Int.reduceBNe, List.all_cons, List.all_nil, List.getElem?_cons_zero, List.getElem?_cons_succ, List.getElem?_nil, Option.map_some, List.length_cons, List.length_nil, List.set_cons_zero, List.set_cons_succ, List.map_cons, List.map_nil, List.drop_zero, List.drop_succ_cons, List.drop_nil, List.take_zero, List.take_succ_cons, List.take_nil, ite_true, ite_false, if_true, if_false, implies_true, forall_const, beq_self_eq_true, List.replicate_succ, List.replicate_zero, List.headD_cons, List.cons_append, List.nil_append, bne_self_eq_false]
      · simp only [hN, he, hnl, bne_true_of h2, h2, ne_eq, ↓evD, evU, Nat.reduceAdd, Nat.reduceSub, Nat.reduceMul, Nat.reduceLeDiff, Nat.reduceLT, Nat.reduceEqDiff, Nat.reduceBEq, reduceIte, reduceCtorEq, Int.reduceBEq, Int.reduceEq, Int.reduceLT, Int.reduceLE, Int.reduceGT, Int.reduceGE, Int.reduceAdd, Int.reduceSub, Int.reduceNeg, Int.reduceBNe, List.all_cons, List.all_nil, List.getElem?_cons_zero, List.getElem?_cons_succ, List.getElem?_nil, Option.map_some, List.length_cons, List.length_nil, List.set_cons_zero, List.set_cons_succ, List.map_cons, List.map_nil, List.drop_zero, List.drop_succ_cons, List.drop_nil, List.take_zero, List.take_succ_cons, List.take_nil, ite_true, ite_false, if_true, if_false, implies_true, forall_const, beq_self_eq_true, List.replicate_succ, List.replicate_zero, List.headD_cons, List.cons_append, List.nil_append, bne_self_eq_false]
  by_cases h1 : k = 1
  · subst h1
    have hn := num 1
    rw [if_pos (.inl rfl)]
    simp only [↓evD, evU, Nat.reduceAdd, Nat.reduceSub, Nat.reduceMul, Nat.reduceLeDiff, Nat.reduceLT, Nat.reduceEqDiff, Nat.reduceBEq, reduceIte, reduceCtorEq, Int.reduceBEq, Int.reduceEq, Int.reduceLT, Int.reduceLE, Int.reduceGT, Int.reduceGE, Int.reduceAdd, Int.reduceSub, Int.reduceNeg, Int.reduceBNe, List.all_cons, List.all_nil, List.getElem?_cons_zero, List.getElem?_cons_succ, List.getElem?_nil, Option.map_some, List.length_cons, List.length_nil, List.set_cons_zero, List.set_cons_succ, List.map_cons, List.map_nil, List.drop_zero, List.drop_succ_cons, List.drop_nil, List.take_zero, List.take_succ_cons, List.take_nil, ite_true, ite_false, if_true, if_false, implies_true, forall_const, beq_self_eq_true, List.replicate_succ, List.replicate_zero, List.headD_cons, List.cons_append, List.nil_append, bne_self_eq_false]
    refine hn.trans ?_
    split <;> rfl
  by_cases h2 : k = 2
  · subst h2
    have hn := num 2
    rw [if_pos (.inr (.inl rfl))]
    simp only [↓evD, evU, Nat.reduceAdd, Nat.reduceSub, Nat.reduceMul, Nat.reduceLeDiff, Nat.reduceLT, Nat.reduceEqDiff, Nat.reduceBEq, reduceIte, reduceCtorEq, Int.reduceBEq, Int.reduceEq, Int.reduceLT, Int.reduceLE, Int.reduceGT, Int.reduceGE, Int.reduceAdd, Int.reduceSub, Int.reduceNeg, Int.reduceBNe, List.all_cons, List.all_nil, List.getElem?_cons_zero, List.getElem?_cons_succ, List.getElem?_nil, Option.map_some, List.length_cons, List.length_nil, List.set_cons_zero, List.set_cons_succ, List.map_cons, List.map_nil, List.drop_zero, List.drop_succ_cons, List.drop_nil, List.take_zero, List.take_succ_cons, List.take_nil, ite_true, ite_false, if_true, if_false, implies_true, forall_const, beq_self_eq_true, List.replicate_succ, List.replicate_zero, List.headD_cons, List.cons_append, List.nil_append, bne_self_eq_false]
    refine hn.trans ?_
    split <;> rfl
  by_cases h5 : k = 5
  · subst h5
    have hn := num 5
    rw [if_pos (.inr (.inr rfl))]
    simp only [↓evD, evU, Nat.reduceAdd, Nat.reduceSub, Nat.reduceMul, Nat.reduceLeDiff, Nat.reduceLT, Nat.reduceEqDiff, Nat.reduceBEq, reduceIte, reduceCtorEq, Int.reduceBEq, Int.reduceEq, Int.reduceLT, Int.reduceLE, Int.reduceGT, Int.reduceGE, Int.reduceAdd, Int.reduceSub, Int.reduceNeg, Int.reduceBNe, List.all_cons, List.all_nil, List.getElem?_cons_zero, List.getElem?_cons_succ, List.getElem?_nil, Option.map_some, List.length_cons, List.length_nil, List.set_cons_zero, List.set_cons_succ, List.map_cons, List.map_nil, List.drop_zero, List.drop_succ_cons, List.drop_nil, List.take_zero, List.take_succ_cons, List.take_nil, ite_true, ite_false, if_true, if_false, implies_true, forall_const, beq_self_eq_true, List.replicate_succ, List.replicate_zero, List.headD_cons, List.cons_append, List.nil_append, bne_self_eq_false]
    refine hn.trans ?_
    split <;> rfl
  rw [if_neg (by rintro (q | q | q) <;> contradiction)]
  by_cases h3 : k = 3
  · subst h3
    have he := fun b => read_end (h := h) 3 0 s 0 0 Bv.nils b
    by_cases hl : 200 < s.length
    · have hl1 : ((s.length : Int) > 200) = True := by simp; omega
      simp only [P15_0_eq, P15_1_eq, hl1, hl, resB_ptr, ↓evD, evU, Nat.reduceAdd, Nat.reduceSub, Nat.reduceMul, Nat.reduceLeDiff, Nat.reduceLT, Nat.reduceEqDiff, Nat.reduceBEq, reduceIte, reduceCtorEq, Int.reduceBEq, Int.reduceEq, Int.reduceLT, Int.reduceLE, Int.reduceGT, Int.reduceGE, Int.reduceAdd, Int.reduceSub, Int.reduceNeg, Int.reduceBNe, List.all_cons, List.all_nil, List.getElem?_cons_zero, List.getElem?_cons_succ, List.getElem?_nil, Option.map_some, List.length_cons, List.length_nil, List.set_cons_zero, List.set_cons_succ, List.map_cons, List.map_nil, List.drop_zero, List.drop_succ_cons, List.drop_nil, List.take_zero, List.take_succ_cons, List.take_nil, ite_true, ite_false, if_true, if_false, implies_true, forall_const, beq_self_eq_true, List.replicate_succ, List.replicate_zero, List.headD_cons, List.cons_append, List.nil_append, bne_self_eq_false]
    · have hl1 : ((s.length : Int) > 200) = False := by simp; omega
      have he' := he r
      rw [P15_1_eq] at he'
      cases r <;> (simp only [↓evD, evU, Nat.reduceAdd, Nat.reduceSub, Nat.reduceMul, Nat.reduceLeDiff, Nat.reduceLT, Nat.reduceEqDiff, Nat.reduceBEq, reduceIte, reduceCtorEq, Int.reduceBEq, Int.reduceEq, Int.reduceLT, Int.reduceLE, Int.reduceGT, Int.reduceGE, Int.reduceAdd, Int.reduceSub, Int.reduceNeg, Int.reduceBNe, List.all_cons, List.all_nil, List.getElem?_cons_zero, List.getElem?_cons_succ, List.getElem?_nil, Option.map_some, List.length_cons, List.length_nil, List.set_cons_zero, List.set_cons_succ, List.map_cons, List.map_nil, List.drop_zero, List.drop_succ_cons, List.drop_nil, List.take_zero, List.take_succ_cons, List.take_nil, ite_true, ite_false, if_true, if_false, implies_true, forall_const, beq_self_eq_true, List.replicate_succ, List.replicate_zero, List.headD_cons, List.cons_append, List.nil_append, bne_self_eq_false] at he'; simp only [P15_0_eq, P15_1_eq, hl1, hl, hr, hnl, resB_ptr, ↓evD, evU, Nat.reduceAdd, Nat.reduceSub, Nat.reduceMul, Nat.reduceLeDiff, Nat.reduceLT, Nat.reduceEqDiff, Nat.reduceBEq, reduceIte, reduceCtorEq, Int.reduceBEq, Int.reduceEq, Int.reduceLT, Int.reduceLE, Int.reduceGT, Int.reduceGE, Int.reduceAdd, Int.reduceSub, Int.reduceNeg, Int.reduceBNe, List.all_cons, List.all_nil, List.getElem?_cons_zero, List.getElem?_cons_succ, List.getElem?_nil, Option.map_some, List.length_cons, List.length_nil, List.set_cons_zero, List.set_cons_succ, List.map_cons, List.map_nil, List.drop_zero, List.drop_succ_cons, List.drop_nil, List.take_zero, List.take_succ_cons, List.take_nil, ite_true, ite_false, if_true, if_false, implies_true, forall_const, beq_self_eq_true, List.replicate_succ, List.replicate_zero, List.headD_cons, List.cons_append, List.nil_append, bne_self_eq_false])
  by_cases h4 : k = 4
  · subst h4
    have hU : ∀ base h, _ := fun base h => unbase64_spec (base := base) (h := h) hs
    unfold unbV at hU
    cases hd : decL s with
    | none =>
      rw [hd] at hU
      simp only [P15_0_eq, P15_1_eq, hU, hnl, resB_ptr, Option.isSome_none, ↓evD, evU, Nat.reduceAdd, Nat.reduceSub, Nat.reduceMul, Nat.reduceLeDiff, Nat.reduceLT, Nat.reduceEqDiff, Nat.reduceBEq, reduceIte, reduceCtorEq, Int.reduceBEq, Int.reduceEq, Int.reduceLT, Int.reduceLE, Int.reduceGT, Int.reduceGE, Int.reduceAdd, Int.reduceSub, Int.reduceNeg, Int.reduceBNe, List.all_cons, List.all_nil, List.getElem?_cons_zero, List.getElem?_cons_succ, List.getElem?_nil, Option.map_some, List.length_cons, List.length_nil, List.set_cons_zero, List.set_cons_succ, List.map_cons, List.map_nil, List.drop_zero, List.drop_succ_cons, List.drop_nil, List.take_zero, List.take_succ_cons, List.take_nil, ite_true, ite_false, if_true, if_false, implies_true, forall_const, beq_self_eq_true, List.replicate_succ, List.replicate_zero, List.headD_cons, List.cons_append, List.nil_append, bne_self_eq_false]
    | some l =>
      rw [hd] at hU
      have hb := Bv.done gzF l
      simp only [Option.isSome_some] at hU
      generalize hgg : gD zF 1 (u8s l) = b at *
      by_cases hl : 200 < l.length
      · have hl1 : ((l.length : Int) > 200) = True := by simp; omega
        simp only [P15_0_eq, P15_1_eq, hgg, hU, hnl, hl1, hl, hb.len, hb.scalar, hb.cells, hb.frz, hb.strip, hb.below, resB_ptr, ↓evD, evU, Nat.reduceAdd, Nat.reduceSub, Nat.reduceMul, Nat.reduceLeDiff, Nat.reduceLT, Nat.reduceEqDiff, Nat.reduceBEq, reduceIte, reduceCtorEq, Int.reduceBEq, Int.reduceEq, Int.reduceLT, Int.reduceLE, Int.reduceGT, Int.reduceGE, Int.reduceAdd, Int.reduceSub, Int.reduceNeg, Int.reduceBNe, List.all_cons, List.all_nil, List.getElem?_cons_zero, List.getElem?_cons_succ, List.getElem?_nil, Option.map_some, List.length_cons, List.length_nil, List.set_cons_zero, List.set_cons_succ, List.map_cons, List.map_nil, List.drop_zero, List.drop_succ_cons, List.drop_nil, List.take_zero, List.take_succ_cons, List.take_nil, ite_true, ite_false, if_true, if_false, implies_true, forall_const, beq_self_eq_true, List.replicate_succ, List.replicate_zero, List.headD_cons, List.cons_append, List.nil_append, bne_self_eq_false]
      · have hl1 : ((l.length : Int) > 200) = False := by simp; omega
        simp only [P15_0_eq, P15_1_eq, hgg, hU, hnl, hl1, hl, hb.len, hb.scalar, hb.cells, hb.frz, hb.strip, hb.below, resB_ptr, ↓evD, evU, Nat.reduceAdd, Nat.reduceSub, Nat.reduceMul, Nat.reduceLeDiff, Nat.reduceLT, Nat.reduceEqDiff, Nat.reduceBEq, reduceIte, reduceCtorEq, Int.reduceBEq, Int.reduceEq, Int.reduceLT, Int.reduceLE, Int.reduceGT, Int.reduceGE, Int.reduceAdd, Int.reduceSub, Int.reduceNeg, Int.reduceBNe, List.all_cons, List.all_nil, List.getElem?_cons_zero, List.getElem?_cons_succ, List.getElem?_nil, Option.map_some, List.length_cons, List.length_nil, List.set_cons_zero, List.set_cons_succ, List.map_cons, List.map_nil, List.drop_zero, List.drop_succ_cons, List.drop_nil, List.take_zero, List.take_succ_cons, List.take_nil, ite_true, ite_false, if_true, if_false, implies_true, forall_const, beq_self_eq_true, List.replicate_succ, List.replicate_zero, List.headD_cons, List.cons_append, List.nil_append, bne_self_eq_false]
  by_cases h6 : k = 6
  · subst h6
    have hL := link_loop (h := h) s hs s [] rfl (by intro c hc; cases hc)
    simp only [P15_0_eq, ↓evD, evU, Nat.reduceAdd, Nat.reduceSub, Nat.reduceMul, Nat.reduceLeDiff, Nat.reduceLT, Nat.reduceEqDiff, Nat.reduceBEq, reduceIte, reduceCtorEq, Int.reduceBEq, Int.reduceEq, Int.reduceLT, Int.reduceLE, Int.reduceGT, Int.reduceGE, Int.reduceAdd, Int.reduceSub, Int.reduceNeg, Int.reduceBNe, List.all_cons, List.all_nil, List.getElem?_cons_zero, List.getElem?_cons_succ, List.getElem?_nil, Option.map_some, List.length_cons, List.length_nil, List.set_cons_zero, List.set_cons_succ, List.map_cons, List.map_nil, List.drop_zero, List.drop_succ_cons, List.drop_nil, List.take_zero, List.take_succ_cons, List.take_nil, ite_true, ite_false, if_true, if_false, implies_true, forall_const, beq_self_eq_true, List.replicate_succ, List.replicate_zero, List.headD_cons, List.cons_append, List.nil_append, bne_self_eq_false]
    refine hL.trans ?_
    split <;> rfl
  simp only [P15_0_eq, h1, h2, h3, h4, h5, h6, beq_false_of h1, beq_false_of h2, beq_false_of h3, beq_false_of h4, beq_false_of h5, beq_false_of h6, resB_ptr, ↓evD, evU, Nat.reduceAdd, Nat.reduceSub, Nat.reduceMul, Nat.reduceLeDiff, Nat.reduceLT, Nat.reduceEqDiff, Nat.reduceBEq, reduceIte, reduceCtorEq, Int.reduceBEq, Int.reduceEq, Int.reduceLT, Int.reduceLE, Int.reduceGT, Int.reduceGE, Int.reduceAdd, Int.reduceSub, Int.reduceNeg, Int.reduceBNe, List.all_cons, List.all_nil, List.getElem?_cons_zero, List.getElem?_cons_succ, List.getElem?_nil, Option.map_some, List.length_cons, List.length_nil, List.set_cons_zero, List.set_cons_succ, List.map_cons, List.map_nil, List.drop_zero, List.drop_succ_cons, List.drop_nil, List.take_zero, List.take_succ_cons, List.take_nil, ite_true, ite_false, if_true, if_false, implies_true, forall_const, beq_self_eq_true, List.replicate_succ, List.replicate_zero, List.headD_cons, List.cons_append, List.nil_append, bne_self_eq_false]
end Go.Am.YthhceeaconflnaaDoor
namespace Go.Am.YthhceeaconflnaaDoor
set_option maxRecDepth 100000
set_option linter.unusedSimpArgs false
set_option linter.unusedVariables false
abbrev i64' (n : Int) : PV := .int .i64 n
/-- Is a sign none that may be? -/
def badR (d : Nat × Nat) : Bool := ((d.1 : Int) == 65533 && (d.2 : Int) == 1) || (decide ((d.1 : Int) < 32) || (d.1 : Int) == 127)
/-- How many signs; are all such that may be? -/
def runesL : Nat → List UInt8 → Int → Int × Bool
  | 0, _, n => (n, true)
  | f + 1, l, n => if l = [] then (n, true) else if badR (Lib.decodeL l) then (0, false) else runesL f (l.drop (Lib.decodeL l).2) (n + 1)
def runesG (s : List UInt8) : Int × Bool := runesL s.length s 0
theorem runeAt_eq (s : List UInt8) (p : Nat) : runeAt s p = Lib.decodeL (s.drop p) := (Lib.decodeL_drop ⟨s.toArray⟩ p).symm
theorem decodeGo_eq {l : List UInt8} (h : l ≠ []) : Lib.decodeGo ⟨l.toArray⟩ = Lib.decodeL l := by
  unfold Lib.decodeGo
  rw [if_neg]
  · rfl
  · cases l with
    | nil => exact (h rfl).elim
    | cons x l => simp [ByteArray.size]
theorem decode_spec {h : Hp} {base : Nat} (s : List UInt8) : CallA T base 30 [.str s] h = some (.tup [.int .i32 (Lib.decodeGo ⟨s.toArray⟩).1, i64' (Lib.decodeGo ⟨s.toArray⟩).2], h) := by
  rw [CallA_prim T_30]; rfl
theorem decodeL_pos (l : List UInt8) : 1 ≤ (Lib.decodeL l).2 := Lib.width_pos _ 0

theorem trunc_ext1 (h : Hp) (l : Hp) : trunc (ext h l) (size h) = h := trunc_ext
theorem runes_loop {h : Hp} (s : List UInt8) (hs : s.length ≤ 4611686018427387904) : ∀ (f pos : Nat) (n : Int), s.length ≤ pos + f → 0 ≤ n → n ≤ pos →
    P17_0 (size h) (size h) (i64' n) (.str s) (.it (size h)) (ext h [.iter s pos]) = some (.tup [i64' (runesL f (s.drop pos) n).1, .bool (runesL f (s.drop pos) n).2], h)
  | f, pos, n, hf, hn0, hn1 => by
    rw [P17_0_eq]
    by_cases hp : pos < s.length
    · obtain ⟨f, rfl⟩ : ∃ k, f = k + 1 := ⟨f - 1, by omega⟩
      have hne : s.drop pos ≠ [] := by intro hq; have := congrArg List.length hq; simp at this; omega
      have hsl : (s.drop pos).take (s.length - pos) = s.drop pos := List.take_of_length_le (by simp)
      have hbd := bdV_nat s.length .i64 pos (Nat.le_of_lt hp)
      have hd : ∀ base h, _ := fun base h => decode_spec (base := base) (h := h) (s.drop pos)
      have hg := decodeGo_eq hne
      have hw := decodeL_pos (s.drop pos)
      have hwr : IntKind.i64.wrap (n + 1) = n + 1 := by rw [wrap_small] <;> omega
      rw [hg] at hd
      have hbad : runesL (f + 1) (s.drop pos) n = if badR (Lib.decodeL (s.drop pos)) then (0, false) else runesL f (s.drop (pos + (Lib.decodeL (s.drop pos)).2)) (n + 1) := by
        rw [runesL, if_neg hne, List.drop_drop]
      have hra := runeAt_eq s pos
      rw [hbad]
      have ih := fun w (hw : 1 ≤ w) => runes_loop (h := h) s hs f (pos + w) (n + 1) (by omega) (by omega) (by omega)
      generalize Lib.decodeL (s.drop pos) = d at *
      obtain ⟨c, w⟩ := d
      have ih' := ih w hw
      cases b1 : ((c : Int) == 65533) <;> cases b2 : ((w : Int) == 1) <;> cases b3 : decide ((c : Int) < 32) <;> cases b4 : ((c : Int) == 127) <;>
        simp only [hp, hra, hd, hbd, hsl, b1, b2, b3, b4, hwr, badR, ih', nextB_it, ↓evD, evU, Nat.reduceAdd, Nat.reduceSub, Nat.reduceMul, Nat.reduceLeDiff, Nat.reduceLT, Nat.reduceEqDiff, Nat.reduceBEq, reduceIte, reduceCtorEq, Int.reduceBEq, Int.reduceEq, Int.reduceLT, Int.reduceLE, Int.reduceGT, Int.reduceGE, Int.reduceAdd, Int.reduceSub, Int.reduceNeg, Int.reduceBNe, List.all_cons, List.all_nil, List.getElem?_cons_zero, List.getElem?_cons_succ, List.getElem?_nil, Option.map_some, List.length_cons, List.length_nil, List.set_cons_zero, List.set_cons_succ, List.map_cons, List.map_nil, List.drop_zero, List.drop_succ_cons, List.drop_nil, List.take_zero, List.take_succ_cons, List.take_nil, ite_true, ite_false, if_true, if_false, implies_true, forall_const, beq_self_eq_true, List.replicate_succ, List.replicate_zero, List.headD_cons, List.cons_append, List.nil_append, bne_self_eq_false]
    · have hnil : s.drop pos = [] := List.drop_eq_nil_of_le (by omega)
      have hr : runesL f (s.drop pos) n = (n, true) := by
        rw [hnil]
        cases f <;> simp [runesL]
      rw [hr]
      simp only [hp, nextB_it, ↓evD, evU, Nat.reduceAdd, Nat.reduceSub, Nat.reduceMul, Nat.reduceLeDiff, Nat.reduceLT, Nat.reduceEqDiff, Nat.reduceBEq, reduceIte, reduceCtorEq, Int.reduceBEq, Int.reduceEq, Int.reduceLT, Int.reduceLE, Int.reduceGT, Int.reduceGE, Int.reduceAdd, Int.reduceSub, Int.reduceNeg, Int.reduceBNe, List.all_cons, List.all_nil, List.getElem?_cons_zero, List.getElem?_cons_succ, List.getElem?_nil, Option.map_some, List.length_cons, List.length_nil, List.set_cons_zero, List.set_cons_succ, List.map_cons, List.map_nil, List.drop_zero, List.drop_succ_cons, List.drop_nil, List.take_zero, List.take_succ_cons, List.take_nil, ite_true, ite_false, if_true, if_false, implies_true, forall_const, beq_self_eq_true, List.replicate_succ, List.replicate_zero, List.headD_cons, List.cons_append, List.nil_append, bne_self_eq_false]
theorem runes_spec {base : Nat} {h : Hp} {s : List UInt8} (hs : s.length ≤ 4611686018427387904) : CallA T base 17 [.str s] h = some (.tup [i64' (runesG s).1, .bool (runesG s).2], h) := by
  rw [S17]
  have := runes_loop (h := h) s hs s.length 0 0 (by omega) (by omega) (by omega)
  rw [List.drop_zero] at this
  simp only [rangeB_str, ↓evD, evU, Nat.reduceAdd, Nat.reduceSub, Nat.reduceMul, Nat.reduceLeDiff, Nat.reduceLT, Nat.reduceEqDiff, Nat.reduceBEq, reduceIte, reduceCtorEq, Int.reduceBEq, Int.reduceEq, Int.reduceLT, Int.reduceLE, Int.reduceGT, Int.reduceGE, Int.reduceAdd, Int.reduceSub, Int.reduceNeg, Int.reduceBNe, List.all_cons, List.all_nil, List.getElem?_cons_zero, List.getElem?_cons_succ, List.getElem?_nil, Option.map_some, List.length_cons, List.length_nil, List.set_cons_zero, List.set_cons_succ, List.map_cons, List.map_nil, List.drop_zero, List.drop_succ_cons, List.drop_nil, List.take_zero, List.take_succ_cons, List.take_nil, ite_true, ite_false, if_true, if_false, implies_true, forall_const, beq_self_eq_true, List.replicate_succ, List.replicate_zero, List.headD_cons, List.cons_append, List.nil_append, bne_self_eq_false]
  exact this
end Go.Am.YthhceeaconflnaaDoor
namespace Go.Am.YthhceeaconflnaaDoor
set_option maxRecDepth 100000
set_option linter.unusedSimpArgs false
set_option linter.unusedVariables false
/-- The bytes behind the first one, so many from a place on. -/
def contL (l : List UInt8) : Nat → Nat → Int → Option Int
  | 0, _, c => some c
  | k + 1, i, c => match l[i]? with
    | none => none
    | some x => if (x.toNat : Int) < 128 ∨ (191 : Int) < x.toNat then none else contL l k (i + 1) (c * 64 + x.toNat - 128)
def signE (c least n : Int) : Int × Int := if c < least ∨ 1114111 < c ∨ (55296 ≤ c ∧ c < 57344) then (0, 0) else (n, c)
theorem sign_loop {h : Hp} (l : List UInt8) (least : Int) : ∀ (k i : Nat) (c : Int), i + k ≤ l.length → i + k ≤ 4 → 0 ≤ c → (c + 3) * 64 ^ k ≤ 1099511627776 →
    P31_1 (size h) (size h) (i64' (i : Int)) (.str l) (i64' c) (i64' ((i + k : Nat) : Int)) (i64' least) h =
      some (.tup [i64' (match contL l k i c with | none => (0, 0) | some c' => signE c' least ((i + k : Nat) : Int)).1, i64' (match contL l k i c with | none => (0, 0) | some c' => signE c' least ((i + k : Nat) : Int)).2], h)
  | 0, i, c, hl, h4l, hc0, hc1 => by
    rw [P31_1_eq]
    have h1 : ((i : Int) < (i : Int)) = False := by simp
    simp only [contL, signE]
    cases b1 : decide (c < least) <;> cases b2 : decide ((1114111 : Int) < c) <;> cases b3 : decide ((55296 : Int) ≤ c) <;> cases b4 : decide (c < 57344) <;>
      (have b1' := b1; have b2' := b2; have b3' := b3; have b4' := b4; simp only [decide_eq_true_eq, decide_eq_false_iff_not] at b1' b2' b3' b4'; simp only [gt_iff_lt, ge_iff_le, h1, b1, b2, b3, b4, b1', b2', b3', b4', ↓evD, evU, Nat.reduceAdd, Nat.reduceSub, Nat.reduceMul, Nat.reduceLeDiff, Nat.reduceLT, Nat.reduceEqDiff, Nat.reduceBEq, reduceIte, reduceCtorEq, Int.reduceBEq, Int.reduceEq, Int.reduceLT, Int.reduceLE, Int.reduceGT, Int.reduceGE, Int.reduceAdd, Int.reduceSub, Int.reduceNeg, Int.reduceBNe, List.all_cons, List.all_nil, List.getElem?_cons_zero, List.getElem?_cons_succ, List.getElem?_nil, Option.map_some, List.length_cons, List.length_nil, List.set_cons_zero, List.set_cons_succ, List.map_cons, List.map_nil, List.drop_zero, List.drop_succ_cons, List.drop_nil, List.take_zero, List.take_succ_cons, List.take_nil, ite_true, ite_false, if_true, if_false, implies_true, forall_const, beq_self_eq_true, List.replicate_succ, List.replicate_zero, List.headD_cons, List.cons_append, List.nil_append, bne_self_eq_false])
  | k + 1, i, c, hl, h4l, hc0, hc1 => by
    rw [P31_1_eq]
    have hlt : ((i : Int) < ((i + (k + 1) : Nat) : Int)) = True := by simp; omega
    have hi : i < l.length := by omega
    obtain ⟨x, hx⟩ : ∃ x, l[i]? = some x := ⟨_, List.getElem?_eq_getElem hi⟩
    have hix := ix_nat .i64 i l.length hi
    have hx256 := x.toNat_lt
    have hP : (1 : Int) ≤ 64 ^ k := Int.pow_pos (by decide)
    rw [Int.pow_succ] at hc1
    generalize hPk : (64 : Int) ^ k = P at *
    have hcb : c + 3 ≤ 1099511627776 := by
      have h1 : (c + 3) * 1 ≤ (c + 3) * (P * 64) := Int.mul_le_mul_of_nonneg_left (by omega) (by omega)
      omega
    have hw1 : IntKind.i64.wrap (c * 64) = c * 64 := by rw [wrap_small] <;> omega
    have hw2 : IntKind.i64.wrap (x.toNat : Int) = x.toNat := by rw [wrap_small] <;> omega
    have hw3 : IntKind.i64.wrap (c * 64 + x.toNat) = c * 64 + x.toNat := by rw [wrap_small] <;> omega
    have hw4 : IntKind.i64.wrap (c * 64 + x.toNat - 128) = c * 64 + x.toNat - 128 := by rw [wrap_small] <;> omega
    have hw5 : IntKind.i64.wrap ((i : Int) + 1) = ((i + 1 : Nat) : Int) := by rw [wrap_small] <;> omega
    have e1 : i + (k + 1) = i + 1 + k := by omega
    simp only [contL, hx]
    by_cases b1 : (x.toNat : Int) < 128
    · simp only [gt_iff_lt, hlt, hix, hx, b1, ↓evD, evU, Nat.reduceAdd, Nat.reduceSub, Nat.reduceMul, Nat.reduceLeDiff, Nat.reduceLT, Nat.reduceEqDiff, Nat.reduceBEq, reduceIte, reduceCtorEq, Int.reduceBEq, Int.reduceEq, Int.reduceLT, Int.reduceLE, Int.reduceGT, Int.reduceGE, Int.reduceAdd, Int.reduceSub, Int.reduceNeg, Int.reduceBNe, List.all_cons, List.all_nil, List.getElem?_cons_zero, List.getElem?_cons_succ, List.getElem?_nil, Option.map_some, List.length_cons, List.length_nil, List.set_cons_zero, List.set_cons_succ, List.map_cons, List.map_nil, List.drop_zero, List.drop_succ_cons, List.drop_nil, List.take_zero, List.take_succ_cons, List.take_nil, ite_true, ite_false, if_true, if_false, implies_true, forall_const, beq_self_eq_true, List.replicate_succ, List.replicate_zero, List.headD_cons, List.cons_append, List.nil_append, bne_self_eq_false]
    by_cases b2 : (191 : Int) < x.toNat
    · simp only [gt_iff_lt, hlt, hix, hx, b1, b2, ↓evD, evU, Nat.reduceAdd, Nat.reduceSub, Nat.reduceMul, Nat.reduceLeDiff, Nat.reduceLT, Nat.reduceEqDiff, Nat.reduceBEq, reduceIte, reduceCtorEq, Int.reduceBEq, Int.reduceEq, Int.reduceLT, Int.reduceLE, Int.reduceGT, Int.reduceGE, Int.reduceAdd, Int.reduceSub, Int.reduceNeg, Int.reduceBNe, List.all_cons, List.all_nil, List.getElem?_cons_zero, List.getElem?_cons_succ, List.getElem?_nil, Option.map_some, List.length_cons, List.length_nil, List.set_cons_zero, List.set_cons_succ, List.map_cons, List.map_nil, List.drop_zero, List.drop_succ_cons, List.drop_nil, List.take_zero, List.take_succ_cons, List.take_nil, ite_true, ite_false, if_true, if_false, implies_true, forall_const, beq_self_eq_true, List.replicate_succ, List.replicate_zero, List.headD_cons, List.cons_append, List.nil_append, bne_self_eq_false]
    have ih := sign_loop (h := h) l least k (i + 1) (c * 64 + x.toNat - 128) (by omega) (by omega) (by omega) (by
      have h1 : (c * 64 + x.toNat - 128 + 3) * P ≤ ((c + 3) * 64) * P := Int.mul_le_mul_of_nonneg_right (by omega) (by omega)
      have h2 : (c + 3) * (P * 64) = ((c + 3) * 64) * P := by rw [Int.mul_comm P 64, Int.mul_assoc]
      rw [h2] at hc1
      rw [hPk]
      exact Int.le_trans h1 hc1)
    rw [← e1] at ih
    simp only [gt_iff_lt, hlt, hix, hx, b1, b2, hw1, hw2, hw3, hw4, hw5, ih, ↓evD, evU, Nat.reduceAdd, Nat.reduceSub, Nat.reduceMul, Nat.reduceLeDiff, Nat.reduceLT, Nat.reduceEqDiff, Nat.reduceBEq, reduceIte, reduceCtorEq, Int.reduceBEq, Int.reduceEq, Int.reduceLT, Int.reduceLE, Int.reduceGT, Int.reduceGE, Int.reduceAdd, Int.reduceSub, Int.reduceNeg, Int.reduceBNe, List.all_cons, List.all_nil, List.getElem?_cons_zero, List.getElem?_cons_succ, List.getElem?_nil, Option.map_some, List.length_cons, List.length_nil, List.set_cons_zero, List.set_cons_succ, List.map_cons, List.map_nil, List.drop_zero, List.drop_succ_cons, List.drop_nil, List.take_zero, List.take_succ_cons, List.take_nil, ite_true, ite_false, if_true, if_false, implies_true, forall_const, beq_self_eq_true, List.replicate_succ, List.replicate_zero, List.headD_cons, List.cons_append, List.nil_append, bne_self_eq_false]
/-- The first sign: how many bytes it has, its number; 0 bytes: none that may be. -/
def signGo (l : List UInt8) (k : Nat) (least c : Int) : Int × Int :=
  if l.length < k + 1 then (0, 0) else match contL l k 1 c with
    | none => (0, 0)
    | some c' => if c' < least ∨ 1114111 < c' ∨ (55296 ≤ c' ∧ c' < 57344) then (0, 0) else ((k : Int) + 1, c')
def signR (l : List UInt8) : Int × Int :=
  match l with
  | [] => (0, 0)
  | b :: _ => if (b.toNat : Int) < 128 then (1, b.toNat) else if 194 ≤ (b.toNat : Int) ∧ (b.toNat : Int) < 224 then signGo l 1 128 (b.toNat - 192)
    else if 224 ≤ (b.toNat : Int) ∧ (b.toNat : Int) < 240 then signGo l 2 2048 (b.toNat - 224)
    else if 240 ≤ (b.toNat : Int) ∧ (b.toNat : Int) < 245 then signGo l 3 65536 (b.toNat - 240) else (0, 0)
end Go.Am.YthhceeaconflnaaDoor
namespace Go.Am.YthhceeaconflnaaDoor
set_option maxRecDepth 100000
set_option linter.unusedSimpArgs false
set_option linter.unusedVariables false
theorem sign_from {h : Hp} (l : List UInt8) (k : Nat) (least c : Int) (hk : k + 1 ≤ 4) (hc0 : 0 ≤ c) (hc : c ≤ 1000) :
    P31_0 (size h) (size h) (.str l) (i64' c) (i64' ((k + 1 : Nat) : Int)) (i64' least) h = some (.tup [i64' (signGo l k least c).1, i64' (signGo l k least c).2], h) := by
  rw [P31_0_eq]
  by_cases hl : l.length < k + 1
  · have h1 : ((l.length : Int) < ((k + 1 : Nat) : Int)) = True := by simp; omega
    simp only [signGo, hl, h1, ↓evD, evU, Nat.reduceAdd, Nat.reduceSub, Nat.reduceMul, Nat.reduceLeDiff, Nat.reduceLT, Nat.reduceEqDiff, Nat.reduceBEq, reduceIte, reduceCtorEq, Int.reduceBEq, Int.reduceEq, Int.reduceLT, Int.reduceLE, Int.reduceGT, Int.reduceGE, Int.reduceAdd, Int.reduceSub, Int.reduceNeg, Int.reduceBNe, List.all_cons, List.all_nil, List.getElem?_cons_zero, List.getElem?_cons_succ, List.getElem?_nil, Option.map_some, List.length_cons, List.length_nil, List.set_cons_zero, List.set_cons_succ, List.map_cons, List.map_nil, List.drop_zero, List.drop_succ_cons, List.drop_nil, List.take_zero, List.take_succ_cons, List.take_nil, ite_true, ite_false, if_true, if_false, implies_true, forall_const, beq_self_eq_true, List.replicate_succ, List.replicate_zero, List.headD_cons, List.cons_append, List.nil_append, bne_self_eq_false]
  · have h1 : ((l.length : Int) < ((k + 1 : Nat) : Int)) = False := by simp; omega
    have hp : (64 : Int) ^ k ≤ 64 ^ 3 := by
      match k, hk with
      | 0, _ => decide
      | 1, _ => decide
      | 2, _ => decide
      | 3, _ => decide
    have hp0 : (0 : Int) ≤ 64 ^ k := Int.le_of_lt (Int.pow_pos (by decide))
    have hm : (c + 3) * 64 ^ k ≤ 1099511627776 := by
      have := Int.mul_le_mul (show c + 3 ≤ 1003 by omega) hp hp0 (by decide)
      have e : (1003 : Int) * 64 ^ 3 = 262930432 := by decide
      omega
    have := sign_loop (h := h) l least k 1 c (by omega) (by omega) hc0 hm
    have e1 : 1 + k = k + 1 := by omega
    rw [e1] at this
    simp only [signGo, hl, h1, ↓evD, evU, Nat.reduceAdd, Nat.reduceSub, Nat.reduceMul, Nat.reduceLeDiff, Nat.reduceLT, Nat.reduceEqDiff, Nat.reduceBEq, reduceIte, reduceCtorEq, Int.reduceBEq, Int.reduceEq, Int.reduceLT, Int.reduceLE, Int.reduceGT, Int.reduceGE, Int.reduceAdd, Int.reduceSub, Int.reduceNeg, Int.reduceBNe, List.all_cons, List.all_nil, List.getElem?_cons_zero, List.getElem?_cons_succ, List.getElem?_nil, Option.map_some, List.length_cons, List.length_nil, List.set_cons_zero, List.set_cons_succ, List.map_cons, List.map_nil, List.drop_zero, List.drop_succ_cons, List.drop_nil, List.take_zero, List.take_succ_cons, List.take_nil, ite_true, ite_false, if_true, if_false, implies_true, forall_const, beq_self_eq_true, List.replicate_succ, List.replicate_zero, List.headD_cons, List.cons_append, List.nil_append, bne_self_eq_false]
    refine Eq.trans ?_ (this.trans ?_)
    · rfl
    · cases contL l k 1 c with
      | none => rfl
      | some c' => simp only [signE]; rw [show ((k + 1 : Nat) : Int) = (k : Int) + 1 from rfl]
theorem sign_spec {base : Nat} {h : Hp} {l : List UInt8} (hl : l ≠ []) : CallA T base 31 [.str l] h = some (.tup [i64' (signR l).1, i64' (signR l).2], h) := by
  obtain ⟨b, r, hbr⟩ : ∃ b r, l = b :: r := by cases l with | nil => exact (hl rfl).elim | cons b r => exact ⟨b, r, rfl⟩
  have hix : ix (.int .i64 0) l.length = some 0 := by rw [hbr]; simp [ix]
  have hget : l[0]? = some b := by rw [hbr]; rfl
  have hb := b.toNat_lt
  have hw0 : IntKind.i64.wrap (b.toNat : Int) = b.toNat := by rw [wrap_small] <;> omega
  have hS : signR l = (if (b.toNat : Int) < 128 then (1, (b.toNat : Int)) else if 194 ≤ (b.toNat : Int) ∧ (b.toNat : Int) < 224 then signGo l 1 128 (b.toNat - 192)
    else if 224 ≤ (b.toNat : Int) ∧ (b.toNat : Int) < 240 then signGo l 2 2048 (b.toNat - 224)
    else if 240 ≤ (b.toNat : Int) ∧ (b.toNat : Int) < 245 then signGo l 3 65536 (b.toNat - 240) else (0, 0)) := by rw [hbr]; rfl
  rw [hS, S31]
  clear hS hbr hl
  by_cases b1 : (b.toNat : Int) < 128
  · rw [if_pos b1]
    simp only [hix, hget, hw0, b1, ↓evD, evU, Nat.reduceAdd, Nat.reduceSub, Nat.reduceMul, Nat.reduceLeDiff, Nat.reduceLT, Nat.reduceEqDiff, Nat.reduceBEq, reduceIte, reduceCtorEq, Int.reduceBEq, Int.reduceEq, Int.reduceLT, Int.reduceLE, Int.reduceGT, Int.reduceGE, Int.reduceAdd, Int.reduceSub, Int.reduceNeg, Int.reduceBNe, List.all_cons, List.all_nil, List.getElem?_cons_zero, List.getElem?_cons_succ, List.getElem?_nil, Option.map_some, List.length_cons, List.length_nil, List.set_cons_zero, List.set_cons_succ, List.map_cons, List.map_nil, List.drop_zero, List.drop_succ_cons, List.drop_nil, List.take_zero, List.take_succ_cons, List.take_nil, ite_true, ite_false, if_true, if_false, implies_true, forall_const, beq_self_eq_true, List.replicate_succ, List.replicate_zero, List.headD_cons, List.cons_append, List.nil_append, bne_self_eq_false]
  have f1 := fun (x : 194 ≤ b.toNat) => sign_from (h := h) l 1 128 ((b.toNat : Int) - 192) (by omega) (by omega) (by omega)
  have f2 := fun (x : 224 ≤ b.toNat) => sign_from (h := h) l 2 2048 ((b.toNat : Int) - 224) (by omega) (by omega) (by omega)
  have f3 := fun (x : 240 ≤ b.toNat) => sign_from (h := h) l 3 65536 ((b.toNat : Int) - 240) (by omega) (by omega) (by omega)
  have c2 : (((1 + 1 : Nat) : Int)) = 2 := rfl
  have c3 : (((2 + 1 : Nat) : Int)) = 3 := rfl
  have c4 : (((3 + 1 : Nat) : Int)) = 4 := rfl
  rw [c2] at f1
  rw [c3] at f2
  rw [c4] at f3
  by_cases b2 : 194 ≤ (b.toNat : Int)
  · have hwS : IntKind.i64.wrap ((b.toNat : Int) - 192) = (b.toNat : Int) - 192 := by rw [wrap_small] <;> omega
    by_cases b3 : (b.toNat : Int) < 224
    · simp only [ge_iff_le, hix, hget, hw0, b1, b2, b3, hwS, f1 (by omega), ↓evD, evU, Nat.reduceAdd, Nat.reduceSub, Nat.reduceMul, Nat.reduceLeDiff, Nat.reduceLT, Nat.reduceEqDiff, Nat.reduceBEq, reduceIte, reduceCtorEq, Int.reduceBEq, Int.reduceEq, Int.reduceLT, Int.reduceLE, Int.reduceGT, Int.reduceGE, Int.reduceAdd, Int.reduceSub, Int.reduceNeg, Int.reduceBNe, List.all_cons, List.all_nil, List.getElem?_cons_zero, List.getElem?_cons_succ, List.getElem?_nil, Option.map_some, List.length_cons, List.length_nil, List.set_cons_zero, List.set_cons_succ, List.map_cons, List.map_nil, List.drop_zero, List.drop_succ_cons, List.drop_nil, List.take_zero, List.take_succ_cons, List.take_nil, ite_true, ite_false, if_true, if_false, implies_true, forall_const, beq_self_eq_true, List.replicate_succ, List.replicate_zero, List.headD_cons, List.cons_append, List.nil_append, bne_self_eq_false]
    · have hwS2 : IntKind.i64.wrap ((b.toNat : Int) - 224) = (b.toNat : Int) - 224 := by rw [wrap_small] <;> omega
      have b4 : 224 ≤ (b.toNat : Int) := by omega
      by_cases b5 : (b.toNat : Int) < 240
      · simp only [ge_iff_le, hix, hget, hw0, b1, b2, b3, b4, b5, hwS2, f2 (by omega), ↓evD, evU, Nat.reduceAdd, Nat.reduceSub, Nat.reduceMul, Nat.reduceLeDiff, Nat.reduceLT, Nat.reduceEqDiff, Nat.reduceBEq, reduceIte, reduceCtorEq, Int.reduceBEq, Int.reduceEq, Int.reduceLT, Int.reduceLE, Int.reduceGT, Int.reduceGE, Int.reduceAdd, Int.reduceSub, Int.reduceNeg, Int.reduceBNe, List.all_cons, List.all_nil, List.getElem?_cons_zero, List.getElem?_cons_succ, List.getElem?_nil, Option.map_some, List.length_cons, List.length_nil, List.set_cons_zero, List.set_cons_succ, List.map_cons, List.map_nil, List.drop_zero, List.drop_succ_cons, List.drop_nil, List.take_zero, List.take_succ_cons, List.take_nil, ite_true, ite_false, if_true, if_false, implies_true, forall_const, beq_self_eq_true, List.replicate_succ, List.replicate_zero, List.headD_cons, List.cons_append, List.nil_append, bne_self_eq_false]
      · have hwS3 : IntKind.i64.wrap ((b.toNat : Int) - 240) = (b.toNat : Int) - 240 := by rw [wrap_small] <;> omega
        have b6 : 240 ≤ (b.toNat : Int) := by omega
        by_cases b7 : (b.toNat : Int) < 245
        · simp only [ge_iff_le, hix, hget, hw0, b1, b2, b3, b4, b5, b6, b7, hwS3, f3 (by omega), ↓evD, evU, Nat.reduceAdd, Nat.reduceSub, Nat.reduceMul, Nat.reduceLeDiff, Nat.reduceLT, Nat.reduceEqDiff, Nat.reduceBEq, reduceIte, reduceCtorEq, Int.reduceBEq, Int.reduceEq, Int.reduceLT, Int.reduceLE, Int.reduceGT, Int.reduceGE, Int.reduceAdd, Int.reduceSub, Int.reduceNeg, Int.reduceBNe, List.all_cons, List.all_nil, List.getElem?_cons_zero, List.getElem?_cons_succ, List.getElem?_nil, Option.map_some, List.length_cons, List.length_nil, List.set_cons_zero, List.set_cons_succ, List.map_cons, List.map_nil, List.drop_zero, List.drop_succ_cons, List.drop_nil, List.take_zero, List.take_succ_cons, List.take_nil, ite_true, ite_false, if_true, if_false, implies_true, forall_const, beq_self_eq_true, List.replicate_succ, List.replicate_zero, List.headD_cons, List.cons_append, List.nil_append, bne_self_eq_false]
        · simp only [ge_iff_le, hix, hget, hw0, b1, b2, b3, b4, b5, b6, b7, ↓evD, evU, Nat.reduceAdd, Nat.reduceSub, Nat.reduceMul, Nat.reduceLeDiff, Nat.reduceLT, Nat.reduceEqDiff, Nat.reduceBEq, reduceIte, reduceCtorEq, Int.reduceBEq, Int.reduceEq, Int.reduceLT, Int.reduceLE, Int.reduceGT, Int.reduceGE, Int.reduceAdd, Int.reduceSub, Int.reduceNeg, Int.reduceBNe, List.all_cons, List.all_nil, List.getElem?_cons_zero, List.getElem?_cons_succ, List.getElem?_nil, Option.map_some, List.length_cons, List.length_nil, List.set_cons_zero, List.set_cons_succ, List.map_cons, List.map_nil, List.drop_zero, List.drop_succ_cons, List.drop_nil, List.take_zero, List.take_succ_cons, List.take_nil, ite_true, ite_false, if_true, if_false, implies_true, forall_const, beq_self_eq_true, List.replicate_succ, List.replicate_zero, List.headD_cons, List.cons_append, List.nil_append, bne_self_eq_false]
  · have b4 : ¬ 224 ≤ (b.toNat : Int) := by omega
    have b6 : ¬ 240 ≤ (b.toNat : Int) := by omega
    simp only [ge_iff_le, hix, hget, hw0, b1, b2, b4, b6, ↓evD, evU, Nat.reduceAdd, Nat.reduceSub, Nat.reduceMul, Nat.reduceLeDiff, Nat.reduceLT, Nat.reduceEqDiff, Nat.reduceBEq, reduceIte, reduceCtorEq, Int.reduceBEq, Int.reduceEq, Int.reduceLT, Int.reduceLE, Int.reduceGT, Int.reduceGE, Int.reduceAdd, Int.reduceSub, Int.reduceNeg, Int.reduceBNe, List.all_cons, List.all_nil, List.getElem?_cons_zero, List.getElem?_cons_succ, List.getElem?_nil, Option.map_some, List.length_cons, List.length_nil, List.set_cons_zero, List.set_cons_succ, List.map_cons, List.map_nil, List.drop_zero, List.drop_succ_cons, List.drop_nil, List.take_zero, List.take_succ_cons, List.take_nil, ite_true, ite_false, if_true, if_false, implies_true, forall_const, beq_self_eq_true, List.replicate_succ, List.replicate_zero, List.headD_cons, List.cons_append, List.nil_append, bne_self_eq_false]
end Go.Am.YthhceeaconflnaaDoor
namespace Go.Am.YthhceeaconflnaaDoor
set_option linter.unusedSimpArgs false
set_option linter.unusedVariables false
open Go.Lib
theorem dec1 {n B b1 b2 b3 : Nat} (h : B < 128) : decodeN n B b1 b2 b3 = (B, 1) := by unfold decodeN; rw [if_pos h]
theorem dec_no {n B b1 b2 b3 : Nat} (h : 128 ≤ B ∧ B < 194) (h1 : b1 < 256) : decodeN n B b1 b2 b3 = (65533, 1) := by
  unfold decodeN
  rw [if_neg (by omega)]
  by_cases hc : B / 32 = 6 ∧ (1 < n ∧ b1 / 64 = 2)
  · rw [if_pos hc, if_neg (by omega)]
  · rw [if_neg hc, if_neg (by omega), if_neg (by omega)]
theorem dec2 {n B b1 b2 b3 : Nat} (h : 194 ≤ B ∧ B < 224) (h1 : b1 < 256) : decodeN n B b1 b2 b3 = if 1 < n ∧ 128 ≤ b1 ∧ b1 < 192 then ((B - 192) * 64 + (b1 - 128), 2) else (65533, 1) := by
  unfold decodeN
  rw [if_neg (by omega)]
  by_cases hc : 1 < n ∧ 128 ≤ b1 ∧ b1 < 192
  · rw [if_pos hc, if_pos (by omega), if_pos (by omega), Prod.mk.injEq]
    exact ⟨by omega, rfl⟩
  · rw [if_neg hc, if_neg (by omega), if_neg (by omega), if_neg (by omega)]
theorem dec3 {n B b1 b2 b3 : Nat} (h : 224 ≤ B ∧ B < 240) (h1 : b1 < 256) (h2 : b2 < 256) : decodeN n B b1 b2 b3 =
    if (1 < n ∧ 128 ≤ b1 ∧ b1 < 192) ∧ (2 < n ∧ 128 ≤ b2 ∧ b2 < 192) ∧ 2048 ≤ (B - 224) * 4096 + (b1 - 128) * 64 + (b2 - 128) ∧ ((B - 224) * 4096 + (b1 - 128) * 64 + (b2 - 128) < 55296 ∨ 57344 ≤ (B - 224) * 4096 + (b1 - 128) * 64 + (b2 - 128))
    then ((B - 224) * 4096 + (b1 - 128) * 64 + (b2 - 128), 3) else (65533, 1) := by
  unfold decodeN
  rw [if_neg (by omega), if_neg (by omega)]
  by_cases hc : (1 < n ∧ 128 ≤ b1 ∧ b1 < 192) ∧ (2 < n ∧ 128 ≤ b2 ∧ b2 < 192)
  · rw [if_pos (by omega)]
    have e : B % 16 * 4096 + b1 % 64 * 64 + b2 % 64 = (B - 224) * 4096 + (b1 - 128) * 64 + (b2 - 128) := by omega
    rw [e]
    by_cases hv : 2048 ≤ (B - 224) * 4096 + (b1 - 128) * 64 + (b2 - 128) ∧ ((B - 224) * 4096 + (b1 - 128) * 64 + (b2 - 128) < 55296 ∨ 57344 ≤ (B - 224) * 4096 + (b1 - 128) * 64 + (b2 - 128))
    · rw [if_pos (by omega), if_pos ⟨hc.1, hc.2, hv⟩]
    · rw [if_neg (by omega), if_neg (fun hq => hv hq.2.2)]
  · rw [if_neg (by omega), if_neg (by omega), if_neg (fun hq => hc ⟨hq.1, hq.2.1⟩)]
theorem dec4 {n B b1 b2 b3 : Nat} (h : 240 ≤ B) (hB : B < 256) (h1 : b1 < 256) (h2 : b2 < 256) (h3 : b3 < 256) : decodeN n B b1 b2 b3 =
    if B < 245 ∧ (1 < n ∧ 128 ≤ b1 ∧ b1 < 192) ∧ (2 < n ∧ 128 ≤ b2 ∧ b2 < 192) ∧ (3 < n ∧ 128 ≤ b3 ∧ b3 < 192) ∧ 65536 ≤ (B - 240) * 262144 + (b1 - 128) * 4096 + (b2 - 128) * 64 + (b3 - 128) ∧ (B - 240) * 262144 + (b1 - 128) * 4096 + (b2 - 128) * 64 + (b3 - 128) ≤ 1114111
    then ((B - 240) * 262144 + (b1 - 128) * 4096 + (b2 - 128) * 64 + (b3 - 128), 4) else (65533, 1) := by
  unfold decodeN
  rw [if_neg (by omega), if_neg (by omega), if_neg (by omega)]
  by_cases hc : B < 248 ∧ (1 < n ∧ 128 ≤ b1 ∧ b1 < 192) ∧ (2 < n ∧ 128 ≤ b2 ∧ b2 < 192) ∧ (3 < n ∧ 128 ≤ b3 ∧ b3 < 192)
  · rw [if_pos (by omega)]
    have e : B % 8 * 262144 + b1 % 64 * 4096 + b2 % 64 * 64 + b3 % 64 = (B - 240) * 262144 + (b1 - 128) * 4096 + (b2 - 128) * 64 + (b3 - 128) := by omega
    rw [e]
    by_cases hv : 65536 ≤ (B - 240) * 262144 + (b1 - 128) * 4096 + (b2 - 128) * 64 + (b3 - 128) ∧ (B - 240) * 262144 + (b1 - 128) * 4096 + (b2 - 128) * 64 + (b3 - 128) ≤ 1114111
    · rw [if_pos (by omega), if_pos ⟨by omega, hc.2.1, hc.2.2.1, hc.2.2.2, hv⟩]
    · rw [if_neg (by omega), if_neg (fun hq => hv hq.2.2.2.2)]
  · rw [if_neg (by omega), if_neg (by omega)]

theorem cont2 (b x y : UInt8) (r : List UInt8) (c : Int) : contL (b :: x :: y :: r) 2 1 c = if (x.toNat : Int) < 128 ∨ (191 : Int) < x.toNat then none else if (y.toNat : Int) < 128 ∨ (191 : Int) < y.toNat then none
    else some ((c * 64 + x.toNat - 128) * 64 + y.toNat - 128) := rfl
theorem cont3 (b x y z : UInt8) (r : List UInt8) (c : Int) : contL (b :: x :: y :: z :: r) 3 1 c = if (x.toNat : Int) < 128 ∨ (191 : Int) < x.toNat then none else if (y.toNat : Int) < 128 ∨ (191 : Int) < y.toNat then none
    else if (z.toNat : Int) < 128 ∨ (191 : Int) < z.toNat then none else some (((c * 64 + x.toNat - 128) * 64 + y.toNat - 128) * 64 + z.toNat - 128) := rfl
def badS (s : Int × Int) : Bool := (s.1 == 0) || (decide (s.2 < 32) || s.2 == 127)
/-- What the sign is worth: what Go's decoder says. -/
def Agree2 (s : Int × Int) (d : Nat × Nat) (n : Nat) : Prop := badS s = badR d ∧ (badR d = false → s.1 = (d.2 : Int) ∧ d.2 ≤ n)
theorem agree_bad {n : Nat} : Agree2 (0, 0) (65533, 1) n := ⟨rfl, fun h => by cases h⟩
theorem agree_good {c w n : Nat} (h : (w = 1 → c < 128)) (hw : 1 ≤ w) (hn : w ≤ n) : Agree2 ((w : Int), (c : Int)) (c, w) n := by
  refine ⟨?_, fun _ => ⟨rfl, hn⟩⟩
  unfold badS badR
  have e1 : (((w : Int), (c : Int)).1 == 0) = false := by rw [beq_eq_false_iff_ne]; simp; omega
  have e2 : ((((c, w) : Nat × Nat).1 : Int) == 65533 && (((c, w) : Nat × Nat).2 : Int) == 1) = false := by
    cases hq : ((((c, w) : Nat × Nat).2 : Int) == 1)
    · simp
    · have hq' : (w : Int) = 1 := by simpa using hq
      have := h (by omega)
      have e3 : ((((c, w) : Nat × Nat).1 : Int) == 65533) = false := by rw [beq_eq_false_iff_ne]; simp; omega
      rw [e3]; rfl
  rw [e1, e2]
theorem sign_law {l : List UInt8} (hl : l ≠ []) : Agree2 (signR l) (decodeL l) l.length := by
  obtain ⟨b, r, rfl⟩ : ∃ b r, l = b :: r := by cases l with | nil => exact (hl rfl).elim | cons b r => exact ⟨b, r, rfl⟩
  have hb := b.toNat_lt
  rw [decodeL_N]
  have g0 : (b :: r).getD 0 0 = b := rfl
  rw [g0]
  have h1 := ((b :: r).getD 1 0).toNat_lt
  have h2 := ((b :: r).getD 2 0).toNat_lt
  have h3 := ((b :: r).getD 3 0).toNat_lt
  unfold signR
  simp only
  by_cases c1 : (b.toNat : Int) < 128
  · rw [if_pos c1, dec1 (by omega)]
    exact agree_good (w := 1) (fun _ => by omega) (by omega) (by simp)
  rw [if_neg c1]
  by_cases c2 : 194 ≤ (b.toNat : Int)
  · by_cases c3 : (b.toNat : Int) < 224
    · rw [if_pos ⟨c2, c3⟩, dec2 (by omega) h1]
      cases r with
      | nil => simp [signGo]; exact agree_bad
      | cons x r =>
        have hx := x.toNat_lt
        have g1 : (b :: x :: r).getD 1 0 = x := rfl
        rw [g1, signGo, if_neg (by simp)]
        simp only [contL, List.getElem?_cons_succ, List.getElem?_cons_zero]
        by_cases d1 : (x.toNat : Int) < 128 ∨ (191 : Int) < x.toNat
        · rw [if_pos d1, if_neg (by omega)]; exact agree_bad
        · rw [if_neg d1, if_pos (by simp; omega)]
          simp only
          rw [if_neg (by omega)]
          have e : ((1 : Nat) : Int) + 1 = ((2 : Nat) : Int) := rfl
          have e' : ((b.toNat : Int) - 192) * 64 + x.toNat - 128 = (((b.toNat - 192) * 64 + (x.toNat - 128) : Nat) : Int) := by omega
          rw [e, e']
          exact agree_good (by omega) (by omega) (by simp)
    · rw [if_neg (fun hq => c3 hq.2)]
      by_cases c5 : (b.toNat : Int) < 240
      · rw [if_pos ⟨by omega, c5⟩, dec3 (by omega) h1 h2]
        match r with
        | [] => simp [signGo]; exact agree_bad
        | [x] => simp [signGo]; exact agree_bad
        | x :: y :: r =>
          have hx := x.toNat_lt
          have hy := y.toNat_lt
          have g1 : (b :: x :: y :: r).getD 1 0 = x := rfl
          have g2 : (b :: x :: y :: r).getD 2 0 = y := rfl
          rw [g1, g2, signGo, if_neg (by simp)]
          rw [cont2]
          by_cases d1 : (x.toNat : Int) < 128 ∨ (191 : Int) < x.toNat
          · rw [if_pos d1, if_neg (by omega)]; exact agree_bad
          rw [if_neg d1]
          by_cases d2 : (y.toNat : Int) < 128 ∨ (191 : Int) < y.toNat
          · rw [if_pos d2, if_neg (by omega)]; exact agree_bad
          rw [if_neg d2]
          simp only
          have e' : (((b.toNat : Int) - 224) * 64 + x.toNat - 128) * 64 + y.toNat - 128 = (((b.toNat - 224) * 4096 + (x.toNat - 128) * 64 + (y.toNat - 128) : Nat) : Int) := by omega
          rw [e']
          generalize hv : (b.toNat - 224) * 4096 + (x.toNat - 128) * 64 + (y.toNat - 128) = v
          have hvb : v < 65536 := by omega
          have e : ((2 : Nat) : Int) + 1 = ((3 : Nat) : Int) := rfl
          by_cases d3 : (v : Int) < 2048 ∨ (1114111 : Int) < v ∨ ((55296 : Int) ≤ v ∧ (v : Int) < 57344)
          · rw [if_pos d3, if_neg (by omega)]; exact agree_bad
          · rw [if_neg d3, if_pos (by simp; omega), e]
            exact agree_good (by omega) (by omega) (by simp)
      · rw [if_neg (fun hq => c5 hq.2), dec4 (by omega) hb h1 h2 h3]
        by_cases c7 : (b.toNat : Int) < 245
        · rw [if_pos ⟨by omega, c7⟩]
          match r with
          | [] => simp [signGo]; exact agree_bad
          | [x] => simp [signGo]; exact agree_bad
          | [x, y] => simp [signGo]; exact agree_bad
          | x :: y :: z :: r =>
            have hx := x.toNat_lt
            have hy := y.toNat_lt
            have hz := z.toNat_lt
            have g1 : (b :: x :: y :: z :: r).getD 1 0 = x := rfl
            have g2 : (b :: x :: y :: z :: r).getD 2 0 = y := rfl
            have g3 : (b :: x :: y :: z :: r).getD 3 0 = z := rfl
            rw [g1, g2, g3, signGo, if_neg (by simp)]
            rw [cont3]
            by_cases d1 : (x.toNat : Int) < 128 ∨ (191 : Int) < x.toNat
            · rw [if_pos d1, if_neg (by omega)]; exact agree_bad
            rw [if_neg d1]
            by_cases d2 : (y.toNat : Int) < 128 ∨ (191 : Int) < y.toNat
            · rw [if_pos d2, if_neg (by omega)]; exact agree_bad
            rw [if_neg d2]
            by_cases d3 : (z.toNat : Int) < 128 ∨ (191 : Int) < z.toNat
            · rw [if_pos d3, if_neg (by omega)]; exact agree_bad
            rw [if_neg d3]
            simp only
            have e' : ((((b.toNat : Int) - 240) * 64 + x.toNat - 128) * 64 + y.toNat - 128) * 64 + z.toNat - 128 = (((b.toNat - 240) * 262144 + (x.toNat - 128) * 4096 + (y.toNat - 128) * 64 + (z.toNat - 128) : Nat) : Int) := by omega
            rw [e']
            generalize hv : (b.toNat - 240) * 262144 + (x.toNat - 128) * 4096 + (y.toNat - 128) * 64 + (z.toNat - 128) = v
            have e : ((3 : Nat) : Int) + 1 = ((4 : Nat) : Int) := rfl
            by_cases d4 : (v : Int) < 65536 ∨ (1114111 : Int) < v ∨ ((55296 : Int) ≤ v ∧ (v : Int) < 57344)
            · rw [if_pos d4, if_neg (by omega)]; exact agree_bad
            · rw [if_neg d4, if_pos (by simp; omega), e]
              exact agree_good (by omega) (by omega) (by simp)
        · rw [if_neg (fun hq => c7 hq.2), if_neg (by omega)]
          exact agree_bad
  · rw [if_neg (fun hq => c2 hq.1), if_neg (by omega), if_neg (by omega), dec_no (by omega) h1]
    exact agree_bad
end Go.Am.YthhceeaconflnaaDoor
namespace Go.Am.YthhceeaconflnaaDoor
set_option maxRecDepth 100000
theorem alive_run : call T 400 0 9 [] [] = some (.bool true, []) := by kernel_rfl
theorem alive_spec : CallA T (size []) 9 [] [] = some (.bool true, []) := CallA_iff.2 ⟨400, alive_run⟩
theorem alive_run1 (x : Box) : call T 400 0 9 [] [x] = some (.bool true, [x]) := by kernel_rfl
theorem alive_spec1 (x : Box) : CallA T (size []) 9 [] (ext [] [x]) = some (.bool true, ext [] [x]) := CallA_iff.2 ⟨400, alive_run1 x⟩
end Go.Am.YthhceeaconflnaaDoor
namespace Go.Am.YthhceeaconflnaaDoor
set_option maxRecDepth 100000
set_option linter.unusedSimpArgs false
set_option linter.unusedVariables false
theorem runes2_loop {h : Hp} : ∀ (f : Nat) (l : List UInt8) (n : Int), l.length ≤ f → 0 ≤ n → n + f ≤ 4611686018427387904 →
    P18_0 (size h) (size h) (i64' n) (.str l) h = some (.tup [i64' (runesL f l n).1, .bool (runesL f l n).2], h)
  | f, l, n, hf, hn0, hn1 => by
    rw [P18_0_eq]
    by_cases hne : l = []
    · subst hne
      have hr : runesL f [] n = (n, true) := by cases f <;> simp [runesL]
      have hz : ((0 : Int) > 0) = False := by simp
      rw [hr]
      simp only [hz, Int.ofNat_zero, Int.natCast_zero, ↓evD, evU, Nat.reduceAdd, Nat.reduceSub, Nat.reduceMul, Nat.reduceLeDiff, Nat.reduceLT, Nat.reduceEqDiff, Nat.reduceBEq, reduceIte, reduceCtorEq, Int.reduceBEq, Int.reduceEq, Int.reduceLT, Int.reduceLE, Int.reduceGT, Int.reduceGE, Int.reduceAdd, Int.reduceSub, Int.reduceNeg, Int.reduceBNe, List.all_cons, List.all_nil, List.getElem?_cons_zero, List.getElem?_cons_succ, List.getElem?_nil, Option.map_some, List.length_cons, List.length_nil, List.set_cons_zero, List.set_cons_succ, List.map_cons, List.map_nil, List.drop_zero, List.drop_succ_cons, List.drop_nil, List.take_zero, List.take_succ_cons, List.take_nil, ite_true, ite_false, if_true, if_false, implies_true, forall_const, beq_self_eq_true, List.replicate_succ, List.replicate_zero, List.headD_cons, List.cons_append, List.nil_append, bne_self_eq_false]
    · obtain ⟨f, rfl⟩ : ∃ k, f = k + 1 := by
        cases l with
        | nil => exact (hne rfl).elim
        | cons x r => exact ⟨f - 1, by simp at hf; omega⟩
      have hlen : 0 < l.length := by cases l with | nil => exact (hne rfl).elim | cons x r => simp
      have hpos : ((l.length : Int) > 0) = True := by simp; omega
      have hs : ∀ base h, _ := fun base h => sign_spec (base := base) (h := h) hne
      obtain ⟨hb, hg⟩ := sign_law hne
      have hw1 := decodeL_pos l
      have hbad : runesL (f + 1) l n = if badR (Lib.decodeL l) then (0, false) else runesL f (l.drop (Lib.decodeL l).2) (n + 1) := by
        rw [runesL, if_neg hne]
      rw [hbad]
      generalize Lib.decodeL l = d at *
      generalize signR l = s at *
      obtain ⟨a, c⟩ := s
      obtain ⟨q, w⟩ := d
      have hwr : IntKind.i64.wrap (n + 1) = n + 1 := by rw [wrap_small] <;> omega
      cases hbr : badR (q, w)
      · obtain ⟨g1, g2⟩ := hg hbr
        simp only at g1 g2 hw1
        subst g1
        rw [hbr] at hb
        simp only [badS, Bool.or_eq_false_iff] at hb
        obtain ⟨b1, b2, b3⟩ := hb
        have hbd := bdV_nat l.length .i64 w g2
        have hsl : (l.drop w).take (l.length - w) = l.drop w := List.take_of_length_le (by simp)
        have ih := runes2_loop (h := h) f (l.drop w) (n + 1) (by simp; omega) (by omega) (by omega)
        simp only [hpos, hs, b1, b2, b3, hbd, hsl, hwr, ih, ↓evD, evU, Nat.reduceAdd, Nat.reduceSub, Nat.reduceMul, Nat.reduceLeDiff, Nat.reduceLT, Nat.reduceEqDiff, Nat.reduceBEq, reduceIte, reduceCtorEq, Int.reduceBEq, Int.reduceEq, Int.reduceLT, Int.reduceLE, Int.reduceGT, Int.reduceGE, Int.reduceAdd, Int.reduceSub, Int.reduceNeg, Int.reduceBNe, List.all_cons, List.all_nil, List.getElem?_cons_zero, List.getElem?_cons_succ, List.getElem?_nil, Option.map_some, List.length_cons, List.length_nil, List.set_cons_zero, List.set_cons_succ, List.map_cons, List.map_nil, List.drop_zero, List.drop_succ_cons, List.drop_nil, List.take_zero, List.take_succ_cons, List.take_nil, ite_true, ite_false, if_true, if_false, implies_true, forall_const, beq_self_eq_true, List.replicate_succ, List.replicate_zero, List.headD_cons, List.cons_append, List.nil_append, bne_self_eq_false]
      · rw [hbr] at hb
        cases b1 : (a == 0) <;> cases b2 : decide (c < 32) <;> cases b3 : (c == 127) <;> first
          | (simp only [hpos, hs, b1, b2, b3, ↓evD, evU, Nat.reduceAdd, Nat.reduceSub, Nat.reduceMul, Nat.reduceLeDiff, Nat.reduceLT, Nat.reduceEqDiff, Nat.reduceBEq, reduceIte, reduceCtorEq, Int.reduceBEq, Int.reduceEq, Int.reduceLT, Int.reduceLE, Int.reduceGT, Int.reduceGE, Int.reduceAdd, Int.reduceSub, Int.reduceNeg, Int.reduceBNe, List.all_cons, List.all_nil, List.getElem?_cons_zero, List.getElem?_cons_succ, List.getElem?_nil, Option.map_some, List.length_cons, List.length_nil, List.set_cons_zero, List.set_cons_succ, List.map_cons, List.map_nil, List.drop_zero, List.drop_succ_cons, List.drop_nil, List.take_zero, List.take_succ_cons, List.take_nil, ite_true, ite_false, if_true, if_false, implies_true, forall_const, beq_self_eq_true, List.replicate_succ, List.replicate_zero, List.headD_cons, List.cons_append, List.nil_append, bne_self_eq_false]; done)
          | (simp [badS, b1, b2, b3] at hb)
theorem runes2_spec {base : Nat} {h : Hp} {s : List UInt8} (hs : s.length ≤ 1000000) : CallA T base 18 [.str s] h = some (.tup [i64' (runesG s).1, .bool (runesG s).2], h) := by
  rw [S18]
  exact runes2_loop (h := h) s.length s 0 (Nat.le_refl _) (by omega) (by omega)
end Go.Am.YthhceeaconflnaaDoor
namespace Go.Am.YthhceeaconflnaaDoor
set_option maxRecDepth 100000
set_option linter.unusedSimpArgs false
set_option linter.unusedVariables false
/-- What Read answers; z: what stands for no bytes. -/
def readX (z : PV) (k : Int) (s : List UInt8) (r : Bool) : PV × Int :=
  if k = 1 ∨ k = 2 ∨ k = 5 then (if (numR s).2 = true ∧ (k ≠ 2 ∨ (numR s).1 = 0 ∨ (numR s).1 = 1) then (val k (numR s).1 [] .nils 0 0, 0) else (val0, 20))
  else if k = 3 then (if 200 < s.length then (val0, 2) else if r then (val 3 0 s .nils 0 0, 0) else (val0, 20))
  else if k = 4 then (match decL s with
    | none => (val0, 20)
    | some l => if 200 < l.length then (val0, 2) else (val 4 0 [] (gD z 1 (u8s l)) 0 0, 0))
  else if k = 6 then (if (linkG s).2.2 then (val 6 0 [] .nils (linkG s).1 (linkG s).2.1, 0) else (val0, 20))
  else (val0, 70)
theorem readR_X (k : Int) (s : List UInt8) (r : Bool) : readR k s r = readX zF k s r := rfl
theorem readP_spec {base : Nat} {h : Hp} (k : Int) {s : List UInt8} (hs : s.length ≤ 1000000) {c : Int} {r : Bool} (hr : ∀ base h, CallA T base 17 [.str s] h = some (.tup [i64 c, .bool r], h)) :
    CallA T base 14 [i64 k, .str s] h = some (.tup [(readX .nils k s r).1, i64 (readX .nils k s r).2], h) := by
  have hD : ∀ base h, _ := fun base h => decode64_spec (base := base) (h := h) hs
  have num : (k = 1 ∨ k = 2 ∨ k = 5 ∨ ¬ (1 ≤ k ∧ k ≤ 6)) → CallA T base 14 [i64 k, .str s] h = some (.tup [(readG k s (val k (numG s).1 [] .nils 0 0) ((numG s).2 && (k != 2 || ((numG s).1 == 0 || (numG s).1 == 1))) 0).1, i64 (readG k s (val k (numG s).1 [] .nils 0 0) ((numG s).2 && (k != 2 || ((numG s).1 == 0 || (numG s).1 == 1))) 0).2], h) := by
    intro hk
    refine read_of (base := base) (h := h) k s bs_nils (L := 0) rfl (fun base h => ?_)
    have := readV_spec (base := base) (h := h) k (s := s) (by omega) hr (bd := .nils) (okd := false) bs_nils (fun h4 => by omega)
    rw [this]
    have k3 : k ≠ 3 := by omega
    have k4 : k ≠ 4 := by omega
    have k6 : k ≠ 6 := by omega
    simp only [readV, if_neg k3, if_neg k4, if_neg k6]
  unfold readX
  by_cases hn : k = 1 ∨ k = 2 ∨ k = 5
  · rw [num (by omega), if_pos hn]
    unfold numR readG
    have hk : 1 ≤ k ∧ k ≤ 6 := by omega
    rw [if_neg (by simpa using hk), if_neg (by omega)]
    generalize numG s = nn
    obtain ⟨n, ok⟩ := nn
    cases ok
    · simp
    · rcases hn with rfl | rfl | rfl
      · simp
      · by_cases g0 : n = 0
        · subst g0; simp
        · by_cases g1 : n = 1
          · subst g1; simp
          · simp [g0, g1]
      · simp
  rw [if_neg hn]
  by_cases h3 : k = 3
  · subst h3
    have hv : ∀ base h, CallA T base 27 [i64 3, .str s] h = some (.tup [val 3 0 s .nils 0 0, .bool r], h) := fun base h => by
      have := readV_spec (base := base) (h := h) 3 (s := s) (by omega) hr (bd := .nils) (okd := false) bs_nils (fun h4 => by cases h4)
      rw [this]; simp [readV]
    rw [read_of 3 s bs_nils (L := 0) rfl hv]
    unfold readG
    by_cases hl : 200 < s.length
    · simp [hl]
    · cases r <;> simp [hl]
  by_cases h4 : k = 4
  · subst h4
    unfold decV at hD
    cases hd : decL s with
    | none =>
      rw [hd] at hD
      have hv : ∀ base h, CallA T base 27 [i64 4, .str s] h = some (.tup [val 4 0 [] .nils 0 0, .bool false], h) := fun base h => by
        have := readV_spec (base := base) (h := h) 4 (s := s) (by omega) hr (bd := .nils) (okd := false) bs_nils (fun _ => hD)
        rw [this]; simp [readV]
      rw [read_of 4 s bs_nils (L := 0) rfl hv]
      simp [readG]
    | some l =>
      rw [hd] at hD
      have hb := Bv.done (gZ_nils 1) l
      have hv : ∀ base h, CallA T base 27 [i64 4, .str s] h = some (.tup [val 4 0 [] (gD .nils 1 (u8s l)) 0 0, .bool true], h) := fun base h => by
        have := readV_spec (base := base) (h := h) 4 (s := s) (by omega) hr (bd := gD .nils 1 (u8s l)) (okd := true) (bv_bs hb) (fun _ => hD)
        rw [this]; simp [readV]
      rw [read_of 4 s (bv_bs hb) (L := l.length) hb.len hv]
      unfold readG
      by_cases hl : 200 < l.length <;> simp [hl]
  by_cases h6 : k = 6
  · subst h6
    have hv : ∀ base h, CallA T base 27 [i64 6, .str s] h = some (.tup [if (linkG s).2.2 then val 6 0 [] .nils (linkG s).1 (linkG s).2.1 else val0, .bool (linkG s).2.2], h) := fun base h => by
      have := readV_spec (base := base) (h := h) 6 (s := s) (by omega) hr (bd := .nils) (okd := false) bs_nils (fun h4 => by cases h4)
      rw [this]; simp [readV]
    cases hq : (linkG s).2.2
    · rw [hq] at hv
      rw [read_of 6 s bs_nils (L := 0) rfl hv]
      simp [readG]
    · rw [hq] at hv
      rw [read_of 6 s bs_nils (L := 0) rfl hv]
      simp [readG]
  · have hk : ¬ (1 ≤ k ∧ k ≤ 6) := by omega
    rw [num (by omega)]
    simp [readG, hk, h3, h4, h6]
end Go.Am.YthhceeaconflnaaDoor
namespace Go.Am.YthhceeaconflnaaDoor
set_option maxRecDepth 100000
set_option linter.unusedSimpArgs false
set_option linter.unusedVariables false
theorem runesE {s : List UInt8} (hs : s.length ≤ 1000000) : ∀ base h, CallA T base 17 [.str s] h = some (.tup [i64 (runesG s).1, .bool (runesG s).2], h) := fun base h => runes_spec (by omega)
theorem runesE2 {s : List UInt8} (hs : s.length ≤ 1000000) : ∀ base h, CallA T base 18 [.str s] h = some (.tup [i64 (runesG s).1, .bool (runesG s).2], h) := fun base h => runes2_spec hs
/-- encode of any bytes. -/
theorem encode_bv {b : PV} {l : List UInt8} (hb : Bv b l) (hl : l.length ≤ 1000000) : ∀ base h, CallA T base 21 [b] h = some (.str (encL l), h) := by
  intro base h
  rcases hb with ⟨rfl, rfl⟩ | rfl | rfl
  · exact encode_nil
  · exact encode_spec _ l hl
  · exact encode_spec _ l hl
theorem writeP_spec {base : Nat} {h : Hp} (k n : Int) (s : List UInt8) {b : PV} {l : List UInt8} (o i : Int) (hb : Bv b l) (hl : l.length ≤ 1000000) (hs : s.length ≤ 1000000) (hn : in64 n) (ho : in64 o) (hi : in64 i) :
    CallA T base 10 [val k n s b o i] h = some (.tup [.str (writeG k n s l.length o i (runesG s).2 (encL l)).1, i64 (writeG k n s l.length o i (runesG s).2 (encL l)).2], h) :=
  write_spec (base := base) (h := h) k n s b o i (bv_bs hb) hb.len (runesE hs) hn ho hi (fun _ => encode_bv hb hl)
theorem rightP_spec {base : Nat} {h : Hp} (k n : Int) (s : List UInt8) {b : PV} {l : List UInt8} (o i : Int) (hb : Bv b l) (hs : s.length ≤ 1000000) :
    CallA T base 12 [val k n s b o i] h = some (.bool (rightG k n s l.length o i (runesG s).2), h) :=
  right_spec (base := base) (h := h) k n s b o i (bv_bs hb) hb.len (runesE hs)
set_option maxHeartbeats 1000000 in
theorem writes_at {h : Hp} (ha : ∀ c, CallA T (size h) 9 [] (ext h [c]) = some (.bool true, ext h [c])) (k n : Int) (s : List UInt8) {b : PV} {l : List UInt8} (o i : Int) (hb : Bv b l) (hn : in64 n) (ho : in64 o) (hi : in64 i) :
    CallA T 0 3 [val k n s b o i] h = some (.bool true, h) := by
  rw [S3]
  by_cases h1 : (s.length : Int) > 1000
  · simp only [hb.scalar, hb.cells, ha, h1, ↓evD, evU, Nat.reduceAdd, Nat.reduceSub, Nat.reduceMul, Nat.reduceLeDiff, Nat.reduceLT, Nat.reduceEqDiff, Nat.reduceBEq, reduceIte, reduceCtorEq, Int.reduceBEq, Int.reduceEq, Int.reduceLT, Int.reduceLE, Int.reduceGT, Int.reduceGE, Int.reduceAdd, Int.reduceSub, Int.reduceNeg, Int.reduceBNe, List.all_cons, List.all_nil, List.getElem?_cons_zero, List.getElem?_cons_succ, List.getElem?_nil, Option.map_some, List.length_cons, List.length_nil, List.set_cons_zero, List.set_cons_succ, List.map_cons, List.map_nil, List.drop_zero, List.drop_succ_cons, List.drop_nil, List.take_zero, List.take_succ_cons, List.take_nil, ite_true, ite_false, if_true, if_false, implies_true, forall_const, beq_self_eq_true, List.replicate_succ, List.replicate_zero, List.headD_cons, List.cons_append, List.nil_append, bne_self_eq_false]
  by_cases h2 : (l.length : Int) > 1000
  · simp only [hb.scalar, hb.cells, hb.len, ha, h1, h2, ↓evD, evU, Nat.reduceAdd, Nat.reduceSub, Nat.reduceMul, Nat.reduceLeDiff, Nat.reduceLT, Nat.reduceEqDiff, Nat.reduceBEq, reduceIte, reduceCtorEq, Int.reduceBEq, Int.reduceEq, Int.reduceLT, Int.reduceLE, Int.reduceGT, Int.reduceGE, Int.reduceAdd, Int.reduceSub, Int.reduceNeg, Int.reduceBNe, List.all_cons, List.all_nil, List.getElem?_cons_zero, List.getElem?_cons_succ, List.getElem?_nil, Option.map_some, List.length_cons, List.length_nil, List.set_cons_zero, List.set_cons_succ, List.map_cons, List.map_nil, List.drop_zero, List.drop_succ_cons, List.drop_nil, List.take_zero, List.take_succ_cons, List.take_nil, ite_true, ite_false, if_true, if_false, implies_true, forall_const, beq_self_eq_true, List.replicate_succ, List.replicate_zero, List.headD_cons, List.cons_append, List.nil_append, bne_self_eq_false]
  have hs' : s.length ≤ 1000000 := by omega
  have hl' : l.length ≤ 1000000 := by omega
  have hW : ∀ base h, _ := fun base h => writeP_spec (base := base) (h := h) k n s o i hb hl' hs' hn ho hi
  have hW2 : ∀ base h, _ := fun base h => writeR_spec (base := base) (h := h) k n s o i hb hl' (runesE2 hs') hn ho hi
  have hR : ∀ base h, _ := fun base h => rightP_spec (base := base) (h := h) k n s o i hb hs'
  have hR2 : ∀ base h, _ := fun base h => rightR_spec (base := base) (h := h) k n s o i hb (runesE2 hs')
  simp only [hb.scalar, hb.cells, hb.len, ha, h1, h2, hW, hW2, hR, hR2, ↓evD, evU, Nat.reduceAdd, Nat.reduceSub, Nat.reduceMul, Nat.reduceLeDiff, Nat.reduceLT, Nat.reduceEqDiff, Nat.reduceBEq, reduceIte, reduceCtorEq, Int.reduceBEq, Int.reduceEq, Int.reduceLT, Int.reduceLE, Int.reduceGT, Int.reduceGE, Int.reduceAdd, Int.reduceSub, Int.reduceNeg, Int.reduceBNe, List.all_cons, List.all_nil, List.getElem?_cons_zero, List.getElem?_cons_succ, List.getElem?_nil, Option.map_some, List.length_cons, List.length_nil, List.set_cons_zero, List.set_cons_succ, List.map_cons, List.map_nil, List.drop_zero, List.drop_succ_cons, List.drop_nil, List.take_zero, List.take_succ_cons, List.take_nil, ite_true, ite_false, if_true, if_false, implies_true, forall_const, beq_self_eq_true, List.replicate_succ, List.replicate_zero, List.headD_cons, List.cons_append, List.nil_append, bne_self_eq_false]
theorem writes_true (k n : Int) (s : List UInt8) {b : PV} {l : List UInt8} (o i : Int) (hb : Bv b l) (hn : in64 n) (ho : in64 o) (hi : in64 i) :
    CallA T 0 3 [val k n s b o i] [] = some (.bool true, []) := writes_at alive_spec1 k n s o i hb hn ho hi
theorem readX_val (k : Int) (s : List UInt8) (r : Bool) : ∃ (a n : Int) (t : List UInt8) (b b' : PV) (l : List UInt8) (o i e : Int), readX .nils k s r = (val a n t b o i, e) ∧ readX zF k s r = (val a n t b' o i, e) ∧ Bv b l ∧ Bv b' l ∧ l.length ≤ 200 := by
  unfold readX
  by_cases hn : k = 1 ∨ k = 2 ∨ k = 5
  · rw [if_pos hn, if_pos hn]
    split <;> exact ⟨_, _, _, _, _, [], _, _, _, rfl, rfl, .nils, .nils, by simp⟩
  rw [if_neg hn, if_neg hn]
  by_cases h3 : k = 3
  · rw [if_pos h3, if_pos h3]
    split
    · exact ⟨_, _, _, _, _, [], _, _, _, rfl, rfl, .nils, .nils, by simp⟩
    · split <;> exact ⟨_, _, _, _, _, [], _, _, _, rfl, rfl, .nils, .nils, by simp⟩
  rw [if_neg h3, if_neg h3]
  by_cases h4 : k = 4
  · rw [if_pos h4, if_pos h4]
    cases decL s with
    | none => exact ⟨_, _, _, _, _, [], _, _, _, rfl, rfl, .nils, .nils, by simp⟩
    | some l =>
      simp only
      by_cases hl : 200 < l.length
      · rw [if_pos hl, if_pos hl]
        exact ⟨_, _, _, _, _, [], _, _, _, rfl, rfl, .nils, .nils, by simp⟩
      · rw [if_neg hl, if_neg hl]
        exact ⟨_, _, _, _, _, l, _, _, _, rfl, rfl, Bv.done (gZ_nils 1) l, Bv.done gzF l, by omega⟩
  rw [if_neg h4, if_neg h4]
  by_cases h6 : k = 6
  · rw [if_pos h6]
    split <;> exact ⟨_, _, _, _, _, [], _, _, _, rfl, rfl, .nils, .nils, by simp⟩
  rw [if_neg h6]
  exact ⟨_, _, _, _, _, [], _, _, _, rfl, rfl, .nils, .nils, by simp⟩
theorem beqs (n : Int) : (n == n) = true := by simp
theorem beqS (s : List UInt8) : (s == s) = true := by simp
theorem trunc_ext_le {k : Hp} (l : List Box) {n : Nat} (hn : n ≤ size k) : trunc (ext k l) n = trunc k n := by
  simp only [trunc, ext, size] at *
  exact List.take_append_of_le_length hn
theorem kinds_get {ks : List Int} {i : Nat} {x : Int} (hx : ks[i]? = some x) (o : Own) : idxAB (.sl o 1 (ks.map fun k => i64 k)) (.int .i64 i) 1 = some (.ep [i64 x] 0) := by
  have hi := (List.getElem?_eq_some_iff.1 hx).1
  rw [idxAB_sl, if_pos rfl, ix_nat .i64 i _ (by simpa using hi), Option.bnd_some, List.getElem?_map, hx]; rfl
set_option maxHeartbeats 1000000 in
theorem reads_loop {h : Hp} (s : List UInt8) (hs : s.length ≤ 1000) (ks : List Int) (hk : ks.length ≤ 1000) : ∀ (r p : List Int) (k : Hp), ks = p ++ r → trunc k (size h) = h → size h ≤ size k →
    P4_0 (size h) (size h) (.int .i64 p.length) (.str s) (.sl .full 1 (ks.map fun k => i64 k)) (.int .i64 ks.length) k = some (.bool true, h)
  | [], p, k, hp, ht, hsz => by
    rw [P4_0_eq]
    have e : p.length = ks.length := by rw [hp]; simp
    have h1 : ((p.length : Int) < (ks.length : Int)) = False := by simp; omega
    simp only [h1, ht, ↓evD, evU, Nat.reduceAdd, Nat.reduceSub, Nat.reduceMul, Nat.reduceLeDiff, Nat.reduceLT, Nat.reduceEqDiff, Nat.reduceBEq, reduceIte, reduceCtorEq, Int.reduceBEq, Int.reduceEq, Int.reduceLT, Int.reduceLE, Int.reduceGT, Int.reduceGE, Int.reduceAdd, Int.reduceSub, Int.reduceNeg, Int.reduceBNe, List.all_cons, List.all_nil, List.getElem?_cons_zero, List.getElem?_cons_succ, List.getElem?_nil, Option.map_some, List.length_cons, List.length_nil, List.set_cons_zero, List.set_cons_succ, List.map_cons, List.map_nil, List.drop_zero, List.drop_succ_cons, List.drop_nil, List.take_zero, List.take_succ_cons, List.take_nil, ite_true, ite_false, if_true, if_false, implies_true, forall_const, beq_self_eq_true, List.replicate_succ, List.replicate_zero, List.headD_cons, List.cons_append, List.nil_append, bne_self_eq_false]
  | x :: r, p, k, hp, ht, hsz => by
    rw [P4_0_eq]
    have el : ks.length = p.length + (r.length + 1) := by rw [hp]; simp
    have h1 : ((p.length : Int) < (ks.length : Int)) = True := by simp; omega
    have hx : ks[p.length]? = some x := by rw [hp]; simp
    have hs' : s.length ≤ 1000000 := by omega
    have hA : ∀ base h, _ := fun base h => readP_spec (base := base) (h := h) x hs' (runesE hs')
    have hB : ∀ base h, _ := fun base h => readR_spec (base := base) (h := h) x hs' (runesE2 hs')
    obtain ⟨a, n, t, b, b', l, o, i, e, e1, e2, hb, hb', hl⟩ := readX_val x s (runesG s).2
    simp only [readR_X, e1, e2] at hA hB
    have hS : ∀ base h, _ := fun base h => sameVal_spec (base := base) (h := h) a n t o i a n t o i hb hb' (by omega)
    have w1 : IntKind.i64.wrap ((p.length : Int) + 1) = (((p ++ [x]).length : Nat) : Int) := by
      rw [show (p ++ [x]).length = p.length + 1 by simp, wrap_small] <;> omega
    have n1 : (size k < size h) = False := by simp; omega
    have n2 : (size k + 1 < size h) = False := by simp; omega
    have ih := reads_loop (h := h) s hs ks hk r (p ++ [x]) (ext k [.cells [i64 a, i64 n, .str t, b, i64 o, i64 i], .cells [i64 a, i64 n, .str t, b', i64 o, i64 i]]) (by rw [hp]; simp)
      (by rw [trunc_ext_le _ hsz]; exact ht) (by rw [size_ext]; omega)
    have bl : (l == l) = true := by simp
    simp only [h1, kinds_get hx, hA, hB, hS, hb.scalar, hb.cells, hb'.scalar, hb'.cells, n1, n2, w1, ih, beqs, beqS, bl, ↓evD, evU, Nat.reduceAdd, Nat.reduceSub, Nat.reduceMul, Nat.reduceLeDiff, Nat.reduceLT, Nat.reduceEqDiff, Nat.reduceBEq, reduceIte, reduceCtorEq, Int.reduceBEq, Int.reduceEq, Int.reduceLT, Int.reduceLE, Int.reduceGT, Int.reduceGE, Int.reduceAdd, Int.reduceSub, Int.reduceNeg, Int.reduceBNe, List.all_cons, List.all_nil, List.getElem?_cons_zero, List.getElem?_cons_succ, List.getElem?_nil, Option.map_some, List.length_cons, List.length_nil, List.set_cons_zero, List.set_cons_succ, List.map_cons, List.map_nil, List.drop_zero, List.drop_succ_cons, List.drop_nil, List.take_zero, List.take_succ_cons, List.take_nil, ite_true, ite_false, if_true, if_false, implies_true, forall_const, beq_self_eq_true, List.replicate_succ, List.replicate_zero, List.headD_cons, List.cons_append, List.nil_append, bne_self_eq_false]
theorem reads_true (kind : Int) (s : List UInt8) : CallA T 0 4 [i64 kind, .str s] [] = some (.bool true, []) := by
  rw [S4]
  have ha := alive_spec
  generalize ([] : Hp) = h at *
  by_cases h1 : (s.length : Int) > 1000
  · simp only [ha, h1, ↓evD, evU, Nat.reduceAdd, Nat.reduceSub, Nat.reduceMul, Nat.reduceLeDiff, Nat.reduceLT, Nat.reduceEqDiff, Nat.reduceBEq, reduceIte, reduceCtorEq, Int.reduceBEq, Int.reduceEq, Int.reduceLT, Int.reduceLE, Int.reduceGT, Int.reduceGE, Int.reduceAdd, Int.reduceSub, Int.reduceNeg, Int.reduceBNe, List.all_cons, List.all_nil, List.getElem?_cons_zero, List.getElem?_cons_succ, List.getElem?_nil, Option.map_some, List.length_cons, List.length_nil, List.set_cons_zero, List.set_cons_succ, List.map_cons, List.map_nil, List.drop_zero, List.drop_succ_cons, List.drop_nil, List.take_zero, List.take_succ_cons, List.take_nil, ite_true, ite_false, if_true, if_false, implies_true, forall_const, beq_self_eq_true, List.replicate_succ, List.replicate_zero, List.headD_cons, List.cons_append, List.nil_append, bne_self_eq_false]
  · have hL := reads_loop (h := h) s (by omega) [kind, 1, 2, 3, 4, 5, 6] (by simp) [kind, 1, 2, 3, 4, 5, 6] [] h rfl trunc_self (Nat.le_refl _)
    simp only [ha, h1, ↓evD, evU, Nat.reduceAdd, Nat.reduceSub, Nat.reduceMul, Nat.reduceLeDiff, Nat.reduceLT, Nat.reduceEqDiff, Nat.reduceBEq, reduceIte, reduceCtorEq, Int.reduceBEq, Int.reduceEq, Int.reduceLT, Int.reduceLE, Int.reduceGT, Int.reduceGE, Int.reduceAdd, Int.reduceSub, Int.reduceNeg, Int.reduceBNe, List.all_cons, List.all_nil, List.getElem?_cons_zero, List.getElem?_cons_succ, List.getElem?_nil, Option.map_some, List.length_cons, List.length_nil, List.set_cons_zero, List.set_cons_succ, List.map_cons, List.map_nil, List.drop_zero, List.drop_succ_cons, List.drop_nil, List.take_zero, List.take_succ_cons, List.take_nil, ite_true, ite_false, if_true, if_false, implies_true, forall_const, beq_self_eq_true, List.replicate_succ, List.replicate_zero, List.headD_cons, List.cons_append, List.nil_append, bne_self_eq_false]
    exact hL
end Go.Am.YthhceeaconflnaaDoor
namespace Go.Am.YthhceeaconflnaaDoor
set_option maxRecDepth 100000
set_option linter.unusedSimpArgs false
set_option linter.unusedVariables false
/-! What is written is read; what is read is written. No program in sight. -/
theorem numR_itoa {n : Int} (h : in64 n) : numR (Lib.itoa n) = (n, true) := numR_iff.2 ⟨h, rfl⟩
/-- A value that Write takes. -/
theorem write_ok {k n : Int} {s : List UInt8} {L : Nat} {o i : Int} {r : Bool} {e : List UInt8} (h : (writeG k n s L o i r e).2 = 0) : (1 ≤ k ∧ k ≤ 6) ∧ rightG k n s L o i r = true := by
  unfold writeG at h
  split at h
  · exact absurd h (by decide)
  · rename_i hk
    split at h
    · exact absurd h (by decide)
    · rename_i hr
      exact ⟨by simpa using hk, by simpa using hr⟩
theorem extra_no {k n : Int} {s : List UInt8} {L : Nat} {o i : Int} {r : Bool} (h : rightG k n s L o i r = true) :
    (k = 1 ∨ k = 2 ∨ k = 5 ∨ n = 0) ∧ (k = 3 ∨ s = []) ∧ (k = 4 ∨ L = 0) ∧ (k = 6 ∨ (o = 0 ∧ i = 0)) := by
  unfold rightG at h
  rw [Bool.and_eq_true] at h
  obtain ⟨h1, _⟩ := h
  simp only [Bool.not_eq_true', extraG, onlyN, Bool.or_eq_false_iff, bne_eq_false_iff_eq] at h1
  obtain ⟨a1, a2, a3, a4, a5⟩ := h1
  refine ⟨?_, ?_, ?_, ?_⟩
  · by_cases hk : k = 1 ∨ k = 2 ∨ k = 5
    · omega
    · rw [if_neg hk] at a1; omega
  · by_cases hk : k = 3
    · exact .inl hk
    · rw [if_neg hk] at a2; exact .inr a2.symm
  · by_cases hk : k = 4
    · exact .inl hk
    · rw [if_neg hk] at a3; omega
  · by_cases hk : k = 6
    · exact .inl hk
    · rw [if_neg hk] at a4 a5; omega
/-- What Write wrote, Read reads. -/
theorem back1 {k n : Int} {s l : List UInt8} {b : PV} {o i : Int} (hb : Bv b l) (hn : in64 n) (h : (writeG k n s l.length o i (runesG s).2 (encL l)).2 = 0) :
    ∃ b', Bv b' l ∧ readX .nils k (writeG k n s l.length o i (runesG s).2 (encL l)).1 (runesG (writeG k n s l.length o i (runesG s).2 (encL l)).1).2 = (val k n s b' o i, 0) := by
  obtain ⟨hk, hr⟩ := write_ok h
  obtain ⟨x1, x2, x3, x4⟩ := extra_no hr
  have hw : (writeG k n s l.length o i (runesG s).2 (encL l)).1 = if k = 3 then s else if k = 4 then encL l else if k = 6 then Lib.itoa o ++ [58] ++ Lib.itoa i else Lib.itoa n := by
    unfold writeG
    rw [if_neg (by simpa using hk), if_neg (by rw [hr]; simp)]
    split
    · rfl
    · split
      · rfl
      · split <;> rfl
  rw [hw]
  have hr2 := hr
  unfold rightG at hr2
  rw [Bool.and_eq_true] at hr2
  obtain ⟨_, hr3⟩ := hr2
  by_cases h3 : k = 3
  · subst h3
    have hn0 : n = 0 := by omega
    have hl0 : l = [] := List.length_eq_zero_iff.1 (by omega)
    have ho0 : o = 0 := by omega
    have hi0 : i = 0 := by omega
    subst hn0 hl0 ho0 hi0
    simp only [if_pos] at hr3 ⊢
    simp at hr3
    refine ⟨.nils, .nils, ?_⟩
    unfold readX
    simp [hr3]
  have hs0 : s = [] := x2.resolve_left h3
  subst hs0
  rw [if_neg h3]
  by_cases h4 : k = 4
  · subst h4
    have hn0 : n = 0 := by omega
    have ho0 : o = 0 := by omega
    have hi0 : i = 0 := by omega
    subst hn0 ho0 hi0
    simp at hr3
    refine ⟨gD .nils 1 (u8s l), Bv.done (gZ_nils 1) l, ?_⟩
    unfold readX
    simp [dec_enc, hr3]
  have hl0 : l = [] := List.length_eq_zero_iff.1 (by omega)
  subst hl0
  rw [if_neg h4]
  by_cases h6 : k = 6
  · subst h6
    have hn0 : n = 0 := by omega
    subst hn0
    simp at hr3
    have hL := linkG_itoa (o := o) (i := i) hr3.1 hr3.2
    refine ⟨.nils, .nils, ?_⟩
    unfold readX
    rw [if_pos rfl, if_neg (by omega), if_neg (by omega), if_neg (by omega), if_pos rfl, hL]
    rfl
  have ho0 : o = 0 := by omega
  have hi0 : i = 0 := by omega
  subst ho0 hi0
  rw [if_neg h6]
  refine ⟨.nils, .nils, ?_⟩
  unfold readX
  rw [if_pos (by omega), numR_itoa hn]
  rw [if_pos]
  refine ⟨rfl, ?_⟩
  by_cases h2 : k = 2
  · subst h2
    simp at hr3
    exact .inr hr3
  · exact .inl h2
theorem numR_of {s : List UInt8} (h : (numR s).2 = true) : in64 (numR s).1 ∧ Lib.itoa (numR s).1 = s := numR_iff.1 (by rw [← h])
/-- Of an error nothing comes. -/
theorem read_err {k : Int} {s : List UInt8} {r : Bool} (h : (readX .nils k s r).2 ≠ 0) : (readX .nils k s r).1 = val0 := by
  unfold readX at *
  split
  · rename_i hk
    rw [if_pos hk] at h
    split
    · rename_i hq; rw [if_pos hq] at h; exact (h rfl).elim
    · rfl
  · rename_i hk
    rw [if_neg hk] at h
    split
    · rename_i h3
      rw [if_pos h3] at h
      split
      · rfl
      · rename_i hl
        rw [if_neg hl] at h
        split
        · rename_i hr; rw [if_pos hr] at h; exact (h rfl).elim
        · rfl
    · rename_i h3
      rw [if_neg h3] at h
      split
      · rename_i h4
        rw [if_pos h4] at h
        split
        · rfl
        · rename_i l hl
          rw [hl] at h
          simp only at h
          split
          · rfl
          · rename_i h5; rw [if_neg h5] at h; exact (h rfl).elim
      · rename_i h4
        rw [if_neg h4] at h
        split
        · rename_i h6
          rw [if_pos h6] at h
          split
          · rename_i hq; rw [if_pos hq] at h; exact (h rfl).elim
          · rfl
        · rfl
theorem index_get : ∀ {s : List UInt8} (n : Nat), Lib.index s [58] = (n : Int) → s[n]? = some 58
  | [], n, hn => by simp [Lib.index] at hn
  | x :: r, n, hn => by
    rw [Lib.index] at hn
    split at hn
    · rename_i hp
      have : n = 0 := by omega
      subst this
      simp [List.isPrefixOf] at hp
      simp [hp]
    · split at hn
      · omega
      · rename_i hp hq
        have hge : 0 ≤ Lib.index r [58] := by
          have := Lib.index_ge r [58]
          simp at hq
          omega
        obtain ⟨m, hm⟩ : ∃ m : Nat, Lib.index r [58] = m := ⟨(Lib.index r [58]).toNat, by omega⟩
        have := index_get m hm
        have hnm : n = m + 1 := by omega
        subst hnm
        simpa using this
theorem linkG_of {s : List UInt8} (h : (linkG s).2.2 = true) : (0 ≤ (linkG s).1 ∧ (linkG s).1 ≤ 65535) ∧ (0 ≤ (linkG s).2.1 ∧ (linkG s).2.1 ≤ 65535) ∧ Lib.itoa (linkG s).1 ++ [58] ++ Lib.itoa (linkG s).2.1 = s := by
  unfold linkG at *
  simp only at *
  split at h
  · rename_i hc
    rw [if_pos hc]
    obtain ⟨c1, c2, c3, c4, c5, c6, c7⟩ := hc
    have e1 := (numG_iff (s := (Lib.cut s [58]).1) (v := (numG (Lib.cut s [58]).1).1)).1 (by rw [← c2])
    have e2 := (numG_iff (s := (Lib.cut s [58]).2.1) (v := (numG (Lib.cut s [58]).2.1).1)).1 (by rw [← c3])
    refine ⟨⟨c4, c5⟩, ⟨c6, c7⟩, ?_⟩
    simp only
    rw [e1.2, e2.2]
    clear e1 e2 c2 c3 c4 c5 c6 c7
    unfold Lib.cut at *
    split at c1
    · rename_i hi
      rw [if_pos hi]
      simp only [List.length_singleton]
      obtain ⟨n, hn⟩ : ∃ n : Nat, Lib.index s [58] = n := ⟨(Lib.index s [58]).toNat, by omega⟩
      rw [hn, Int.toNat_natCast]
      have hx := index_get n hn
      obtain ⟨hlt, hg⟩ := List.getElem?_eq_some_iff.1 hx
      rw [List.append_assoc, List.singleton_append]
      have := List.drop_eq_getElem_cons hlt
      rw [hg] at this
      rw [← this, List.take_append_drop]
    · cases c1
  · cases h
/-- What Read read, Write writes. -/
theorem back2 {k : Int} {s : List UInt8} (h : (readX .nils k s (runesG s).2).2 = 0) : ∃ (n : Int) (t l : List UInt8) (b : PV) (o i : Int), readX .nils k s (runesG s).2 = (val k n t b o i, 0) ∧ Bv b l ∧ in64 n ∧ in64 o ∧ in64 i ∧ t.length ≤ 200 ∧ l.length ≤ 200 ∧
    rightG k n t l.length o i (runesG t).2 = true ∧ writeG k n t l.length o i (runesG t).2 (encL l) = (s, 0) := by
  have z64 : in64 0 := by unfold in64; omega
  unfold readX at *
  split at h
  · rename_i hk
    split at h
    · rename_i hq
      obtain ⟨q1, q2⟩ := hq
      obtain ⟨v1, v2⟩ := numR_of q1
      rw [if_pos hk, if_pos ⟨q1, q2⟩]
      have hr : rightG k (numR s).1 [] 0 0 0 (runesG []).2 = true := by
        rcases hk with rfl | rfl | rfl
        · simp [rightG, extraG, onlyN]
        · simp at q2
          simp [rightG, extraG, onlyN, q2]
        · simp [rightG, extraG, onlyN]
      refine ⟨(numR s).1, [], [], .nils, 0, 0, rfl, .nils, v1, z64, z64, by simp, by simp, hr, ?_⟩
      unfold writeG
      rw [if_neg (by omega), if_neg (by simp only [List.length_nil]; rw [hr]; simp), if_neg (by omega), if_neg (by omega), if_neg (by omega), v2]
    · exact absurd h (by decide)
  · rename_i hk
    rw [if_neg hk] at *
    split at h
    · rename_i h3
      rw [if_pos h3]
      split at h
      · exact absurd h (by decide)
      · rename_i hl
        rw [if_neg hl]
        split at h
        · rename_i hr
          rw [if_pos hr]
          subst h3
          have hrr : rightG 3 0 s 0 0 0 (runesG s).2 = true := by simp [rightG, extraG, onlyN, hr]; omega
          refine ⟨0, s, [], .nils, 0, 0, rfl, .nils, z64, z64, z64, by omega, by simp, hrr, ?_⟩
          unfold writeG
          rw [if_neg (by omega), if_neg (by simp only [List.length_nil]; rw [hrr]; simp), if_pos rfl]
        · exact absurd h (by decide)
    · rename_i h3
      rw [if_neg h3]
      split at h
      · rename_i h4
        rw [if_pos h4]
        split at h
        · exact absurd h (by decide)
        · rename_i l hl
          split at h
          · exact absurd h (by decide)
          · rename_i h5
            rw [if_neg h5]
            subst h4
            have hrr : rightG 4 0 [] l.length 0 0 (runesG []).2 = true := by simp [rightG, extraG, onlyN]; omega
            refine ⟨0, [], l, gD .nils 1 (u8s l), 0, 0, rfl, Bv.done (gZ_nils 1) l, z64, z64, z64, by simp, by omega, hrr, ?_⟩
            unfold writeG
            rw [if_neg (by omega), if_neg (by rw [hrr]; simp), if_neg (by omega), if_pos rfl, enc_dec s l hl]
      · rename_i h4
        rw [if_neg h4]
        split at h
        · rename_i h6
          rw [if_pos h6]
          split at h
          · rename_i hq
            rw [if_pos hq]
            subst h6
            obtain ⟨g1, g2, g3⟩ := linkG_of hq
            have hrr : rightG 6 0 [] 0 (linkG s).1 (linkG s).2.1 (runesG []).2 = true := by simp [rightG, extraG, onlyN, g1, g2]
            refine ⟨0, [], [], .nils, (linkG s).1, (linkG s).2.1, rfl, .nils, z64, by unfold in64; omega, by unfold in64; omega, by simp, by simp, hrr, ?_⟩
            unfold writeG
            rw [if_neg (by omega), if_neg (by simp only [List.length_nil]; rw [hrr]; simp), if_neg (by omega), if_neg (by omega), if_pos rfl, g3]
          · exact absurd h (by decide)
        · exact absurd h (by decide)
end Go.Am.YthhceeaconflnaaDoor
namespace Go.Am.YthhceeaconflnaaDoor
set_option maxRecDepth 100000
set_option linter.unusedSimpArgs false
set_option linter.unusedVariables false
theorem in64_0 : in64 0 := by unfold in64; omega
theorem write_len {k n : Int} {s l : List UInt8} {o i : Int} {r : Bool} (hn : in64 n) (ho : in64 o) (hi : in64 i) (hs : s.length ≤ 1000) (hl : l.length ≤ 1000) : (writeG k n s l.length o i r (encL l)).1.length ≤ 10000 := by
  have h1 := itoa_len hn
  have h2 := itoa_len ho
  have h3 := itoa_len hi
  unfold writeG
  split
  · simp
  · split
    · simp
    · split
      · simp; omega
      · split
        · simp only [encL_len]; omega
        · split
          · simp; omega
          · simp; omega
set_option maxHeartbeats 1000000 in
theorem back_tail {h k : Hp} (ht : trunc k (size h) = h) (hsz : size h ≤ size k) (kind : Int) (s : List UInt8) (hs : s.length ≤ 1000) : P6_0 (size h) (size h) (i64 kind) (.str s) k = some (.bool true, h) := by
  rw [P6_0_eq]
  have hs' : s.length ≤ 1000000 := by omega
  have hA : ∀ base h, _ := fun base h => readP_spec (base := base) (h := h) kind hs' (runesE hs')
  have n1 : (size k < size h) = False := by simp; omega
  have ht1 : ∀ l, trunc (ext k l) (size h) = h := fun l => by rw [trunc_ext_le l hsz]; exact ht
  by_cases he : (readX .nils kind s (runesG s).2).2 = 0
  · obtain ⟨n, t, l, b, o, i, e1, hb, hn, ho, hi, ht', hl', hr, hw⟩ := back2 he
    simp only [e1] at hA
    have hW : ∀ base h, _ := fun base h => writeP_spec (base := base) (h := h) kind n t o i hb (by omega) (by omega) hn ho hi
    have hR : ∀ base h, _ := fun base h => rightP_spec (base := base) (h := h) kind n t o i hb (by omega)
    simp only [hw] at hW
    rw [hr] at hR
    simp only [hA, hW, hR, hb.scalar, hb.cells, n1, ht1, beqs, beqS, ↓evD, evU, Nat.reduceAdd, Nat.reduceSub, Nat.reduceMul, Nat.reduceLeDiff, Nat.reduceLT, Nat.reduceEqDiff, Nat.reduceBEq, reduceIte, reduceCtorEq, Int.reduceBEq, Int.reduceEq, Int.reduceLT, Int.reduceLE, Int.reduceGT, Int.reduceGE, Int.reduceAdd, Int.reduceSub, Int.reduceNeg, Int.reduceBNe, List.all_cons, List.all_nil, List.getElem?_cons_zero, List.getElem?_cons_succ, List.getElem?_nil, Option.map_some, List.length_cons, List.length_nil, List.set_cons_zero, List.set_cons_succ, List.map_cons, List.map_nil, List.drop_zero, List.drop_succ_cons, List.drop_nil, List.take_zero, List.take_succ_cons, List.take_nil, ite_true, ite_false, if_true, if_false, implies_true, forall_const, beq_self_eq_true, List.replicate_succ, List.replicate_zero, List.headD_cons, List.cons_append, List.nil_append, bne_self_eq_false]
  · have e0 := read_err he
    have hne : ((readX .nils kind s (runesG s).2).2 != 0) = true := by rw [bne_iff_ne]; exact he
    generalize readX .nils kind s (runesG s).2 = q at *
    obtain ⟨q1, q2⟩ := q
    simp only at e0 hne hA
    subst e0
    have hS : ∀ base h, _ := fun base h => sameVal_spec (base := base) (h := h) 0 0 [] 0 0 0 0 [] 0 0 Bv.nils Bv.nils (by simp)
    have z : (([] : List UInt8) == []) = true := rfl
    simp only [hA, hS, hne, n1, ht1, beqs, beqS, z, ↓evD, evU, Nat.reduceAdd, Nat.reduceSub, Nat.reduceMul, Nat.reduceLeDiff, Nat.reduceLT, Nat.reduceEqDiff, Nat.reduceBEq, reduceIte, reduceCtorEq, Int.reduceBEq, Int.reduceEq, Int.reduceLT, Int.reduceLE, Int.reduceGT, Int.reduceGE, Int.reduceAdd, Int.reduceSub, Int.reduceNeg, Int.reduceBNe, List.all_cons, List.all_nil, List.getElem?_cons_zero, List.getElem?_cons_succ, List.getElem?_nil, Option.map_some, List.length_cons, List.length_nil, List.set_cons_zero, List.set_cons_succ, List.map_cons, List.map_nil, List.drop_zero, List.drop_succ_cons, List.drop_nil, List.take_zero, List.take_succ_cons, List.take_nil, ite_true, ite_false, if_true, if_false, implies_true, forall_const, beq_self_eq_true, List.replicate_succ, List.replicate_zero, List.headD_cons, List.cons_append, List.nil_append, bne_self_eq_false]
set_option maxHeartbeats 2000000 in
theorem back_at {h : Hp} (ha : ∀ c, CallA T (size h) 9 [] (ext h [c]) = some (.bool true, ext h [c])) (k n : Int) (s : List UInt8) {b : PV} {l : List UInt8} (o i : Int) (hb : Bv b l) (hn : in64 n) (ho : in64 o) (hi : in64 i) (kind : Int) (q : List UInt8) :
    CallA T 0 6 [val k n s b o i, i64 kind, .str q] h = some (.bool true, h) := by
  rw [S6]
  by_cases h1 : (s.length : Int) > 1000
  · simp only [hb.scalar, hb.cells, ha, h1, ↓evD, evU, Nat.reduceAdd, Nat.reduceSub, Nat.reduceMul, Nat.reduceLeDiff, Nat.reduceLT, Nat.reduceEqDiff, Nat.reduceBEq, reduceIte, reduceCtorEq, Int.reduceBEq, Int.reduceEq, Int.reduceLT, Int.reduceLE, Int.reduceGT, Int.reduceGE, Int.reduceAdd, Int.reduceSub, Int.reduceNeg, Int.reduceBNe, List.all_cons, List.all_nil, List.getElem?_cons_zero, List.getElem?_cons_succ, List.getElem?_nil, Option.map_some, List.length_cons, List.length_nil, List.set_cons_zero, List.set_cons_succ, List.map_cons, List.map_nil, List.drop_zero, List.drop_succ_cons, List.drop_nil, List.take_zero, List.take_succ_cons, List.take_nil, ite_true, ite_false, if_true, if_false, implies_true, forall_const, beq_self_eq_true, List.replicate_succ, List.replicate_zero, List.headD_cons, List.cons_append, List.nil_append, bne_self_eq_false]
  by_cases h2 : (l.length : Int) > 1000
  · simp only [hb.scalar, hb.cells, hb.len, ha, h1, h2, ↓evD, evU, Nat.reduceAdd, Nat.reduceSub, Nat.reduceMul, Nat.reduceLeDiff, Nat.reduceLT, Nat.reduceEqDiff, Nat.reduceBEq, reduceIte, reduceCtorEq, Int.reduceBEq, Int.reduceEq, Int.reduceLT, Int.reduceLE, Int.reduceGT, Int.reduceGE, Int.reduceAdd, Int.reduceSub, Int.reduceNeg, Int.reduceBNe, List.all_cons, List.all_nil, List.getElem?_cons_zero, List.getElem?_cons_succ, List.getElem?_nil, Option.map_some, List.length_cons, List.length_nil, List.set_cons_zero, List.set_cons_succ, List.map_cons, List.map_nil, List.drop_zero, List.drop_succ_cons, List.drop_nil, List.take_zero, List.take_succ_cons, List.take_nil, ite_true, ite_false, if_true, if_false, implies_true, forall_const, beq_self_eq_true, List.replicate_succ, List.replicate_zero, List.headD_cons, List.cons_append, List.nil_append, bne_self_eq_false]
  by_cases h3 : (q.length : Int) > 1000
  · simp only [hb.scalar, hb.cells, hb.len, ha, h1, h2, h3, ↓evD, evU, Nat.reduceAdd, Nat.reduceSub, Nat.reduceMul, Nat.reduceLeDiff, Nat.reduceLT, Nat.reduceEqDiff, Nat.reduceBEq, reduceIte, reduceCtorEq, Int.reduceBEq, Int.reduceEq, Int.reduceLT, Int.reduceLE, Int.reduceGT, Int.reduceGE, Int.reduceAdd, Int.reduceSub, Int.reduceNeg, Int.reduceBNe, List.all_cons, List.all_nil, List.getElem?_cons_zero, List.getElem?_cons_succ, List.getElem?_nil, Option.map_some, List.length_cons, List.length_nil, List.set_cons_zero, List.set_cons_succ, List.map_cons, List.map_nil, List.drop_zero, List.drop_succ_cons, List.drop_nil, List.take_zero, List.take_succ_cons, List.take_nil, ite_true, ite_false, if_true, if_false, implies_true, forall_const, beq_self_eq_true, List.replicate_succ, List.replicate_zero, List.headD_cons, List.cons_append, List.nil_append, bne_self_eq_false]
  have hW : ∀ base h, _ := fun base h => writeP_spec (base := base) (h := h) k n s o i hb (by omega) (by omega) hn ho hi
  have hwl := write_len (k := k) (n := n) (s := s) (l := l) (o := o) (i := i) (r := (runesG s).2) hn ho hi (by omega) (by omega)
  have tail : ∀ m, P6_0 (size h) (size h) (i64 kind) (.str q) (ext h m) = some (.bool true, h) := fun m => back_tail trunc_ext (by rw [size_ext]; omega) kind q (by omega)
  by_cases he : (writeG k n s l.length o i (runesG s).2 (encL l)).2 = 0
  · obtain ⟨b', hb', hback⟩ := back1 (b := b) hb hn he
    obtain ⟨_, hr⟩ := write_ok he
    have hR : ∀ base h, _ := fun base h => rightP_spec (base := base) (h := h) k n s o i hb (by omega)
    rw [hr] at hR
    have hRd : ∀ base h, _ := fun base h => readP_spec (base := base) (h := h) k (s := (writeG k n s l.length o i (runesG s).2 (encL l)).1) (by omega) (runesE (by omega))
    simp only [hback] at hRd
    have hS : ∀ base h, _ := fun base h => sameVal_spec (base := base) (h := h) k n s o i k n s o i hb' hb (by omega)
    have bl : (l == l) = true := by simp
    have n1 : (size h + 1 < size h) = False := by simp
    generalize writeG k n s l.length o i (runesG s).2 (encL l) = w at *
    obtain ⟨w1, w2⟩ := w
    simp only at he hW hRd
    subst he
    simp only [hb.scalar, hb.cells, hb.len, hb'.scalar, hb'.cells, ha, h1, h2, h3, hW, hRd, hR, hS, n1, beqs, beqS, bl, tail, ↓evD, evU, Nat.reduceAdd, Nat.reduceSub, Nat.reduceMul, Nat.reduceLeDiff, Nat.reduceLT, Nat.reduceEqDiff, Nat.reduceBEq, reduceIte, reduceCtorEq, Int.reduceBEq, Int.reduceEq, Int.reduceLT, Int.reduceLE, Int.reduceGT, Int.reduceGE, Int.reduceAdd, Int.reduceSub, Int.reduceNeg, Int.reduceBNe, List.all_cons, List.all_nil, List.getElem?_cons_zero, List.getElem?_cons_succ, List.getElem?_nil, Option.map_some, List.length_cons, List.length_nil, List.set_cons_zero, List.set_cons_succ, List.map_cons, List.map_nil, List.drop_zero, List.drop_succ_cons, List.drop_nil, List.take_zero, List.take_succ_cons, List.take_nil, ite_true, ite_false, if_true, if_false, implies_true, forall_const, beq_self_eq_true, List.replicate_succ, List.replicate_zero, List.headD_cons, List.cons_append, List.nil_append, bne_self_eq_false]
  · have hne : ((writeG k n s l.length o i (runesG s).2 (encL l)).2 == 0) = false := by rw [beq_eq_false_iff_ne]; exact he
    simp only [hb.scalar, hb.cells, hb.len, ha, h1, h2, h3, hW, hne, tail, ↓evD, evU, Nat.reduceAdd, Nat.reduceSub, Nat.reduceMul, Nat.reduceLeDiff, Nat.reduceLT, Nat.reduceEqDiff, Nat.reduceBEq, reduceIte, reduceCtorEq, Int.reduceBEq, Int.reduceEq, Int.reduceLT, Int.reduceLE, Int.reduceGT, Int.reduceGE, Int.reduceAdd, Int.reduceSub, Int.reduceNeg, Int.reduceBNe, List.all_cons, List.all_nil, List.getElem?_cons_zero, List.getElem?_cons_succ, List.getElem?_nil, Option.map_some, List.length_cons, List.length_nil, List.set_cons_zero, List.set_cons_succ, List.map_cons, List.map_nil, List.drop_zero, List.drop_succ_cons, List.drop_nil, List.take_zero, List.take_succ_cons, List.take_nil, ite_true, ite_false, if_true, if_false, implies_true, forall_const, beq_self_eq_true, List.replicate_succ, List.replicate_zero, List.headD_cons, List.cons_append, List.nil_append, bne_self_eq_false]
theorem back_true (k n : Int) (s : List UInt8) {b : PV} {l : List UInt8} (o i : Int) (hb : Bv b l) (hn : in64 n) (ho : in64 o) (hi : in64 i) (kind : Int) (q : List UInt8) :
    CallA T 0 6 [val k n s b o i, i64 kind, .str q] [] = some (.bool true, []) := back_at alive_spec1 k n s o i hb hn ho hi kind q
/-! Bytes. -/
theorem and_any (a : Int) : ∃ m : Nat, m ≤ 1023 ∧ intBits .and .i64 a 1023 = some (.int .i64 (m : Int)) := by
  refine ⟨(BitVec.ofInt 64 a &&& BitVec.ofInt 64 1023).toNat, ?_, ?_⟩
  · rw [BitVec.toNat_and]
    exact Nat.and_le_right
  · show some (PV.int _ (IntKind.i64.wrap ((BitVec.ofInt 64 a &&& BitVec.ofInt 64 1023).toNat))) = _
    have : (BitVec.ofInt 64 a &&& BitVec.ofInt 64 1023).toNat ≤ 1023 := by
      rw [BitVec.toNat_and]
      exact Nat.and_le_right
    rw [wrap_small] <;> omega
theorem set_u8s (l : List UInt8) (i : Nat) (c : UInt8) : (u8s l).set i (.int .u8 c.toNat) = u8s (l.set i c) := by simp [u8s, List.map_set]
theorem add_u8 (x : UInt8) {c : Int} : ∃ y : UInt8, IntKind.u8.wrap ((x.toNat : Int) + c) = (y.toNat : Int) := by
  refine ⟨UInt8.ofNat (((x.toNat : Int) + c) % 256).toNat, ?_⟩
  have h1 : IntKind.u8.wrap ((x.toNat : Int) + c) = ((x.toNat : Int) + c) % 256 := rfl
  rw [h1, UInt8.toNat_ofNat']
  omega
/-- Read of bytes. -/
theorem read4 (s : List UInt8) (r : Bool) : readX .nils 4 s r = match decL s with
    | none => (val0, 20)
    | some l => if 200 < l.length then (val0, 2) else (val 4 0 [] (gD .nils 1 (u8s l)) 0 0, 0) := by
  unfold readX
  rw [if_neg (by omega), if_neg (by omega), if_pos rfl]
  try (cases decL s <;> rfl)
set_option maxHeartbeats 2000000 in
theorem bytes_at {h : Hp} (ha : CallA T (size h) 9 [] h = some (.bool true, h)) {b : PV} {l : List UInt8} (hb : Bv b l) (at' by' : Int) :
    CallA T 0 7 [b, i64 at', .int .u8 by'] h = some (.bool true, h) := by
  rw [S7]
  by_cases h1 : (l.length : Int) > 200
  · simp only [hb.len, ha, h1, ↓evD, evU, Nat.reduceAdd, Nat.reduceSub, Nat.reduceMul, Nat.reduceLeDiff, Nat.reduceLT, Nat.reduceEqDiff, Nat.reduceBEq, reduceIte, reduceCtorEq, Int.reduceBEq, Int.reduceEq, Int.reduceLT, Int.reduceLE, Int.reduceGT, Int.reduceGE, Int.reduceAdd, Int.reduceSub, Int.reduceNeg, Int.reduceBNe, List.all_cons, List.all_nil, List.getElem?_cons_zero, List.getElem?_cons_succ, List.getElem?_nil, Option.map_some, List.length_cons, List.length_nil, List.set_cons_zero, List.set_cons_succ, List.map_cons, List.map_nil, List.drop_zero, List.drop_succ_cons, List.drop_nil, List.take_zero, List.take_succ_cons, List.take_nil, ite_true, ite_false, if_true, if_false, implies_true, forall_const, beq_self_eq_true, List.replicate_succ, List.replicate_zero, List.headD_cons, List.cons_append, List.nil_append, bne_self_eq_false]
  have hl : l.length ≤ 200 := by omega
  have hW : ∀ base h, CallA T base 10 [val 4 0 [] b 0 0] h = some (.tup [.str (encL l), i64 0], h) := fun base h => by
    have := writeP_spec (base := base) (h := h) 4 0 [] 0 0 hb (by omega) (by simp) in64_0 in64_0 in64_0
    rw [this]
    have hr : rightG 4 0 [] l.length 0 0 (runesG []).2 = true := by simp [rightG, extraG, onlyN]; omega
    simp [writeG, hr]
  have hlen := encL_len l
  have hR : ∀ base h, CallA T base 14 [i64 4, .str (encL l)] h = some (.tup [val 4 0 [] (gD .nils 1 (u8s l)) 0 0, i64 0], h) := fun base h => by
    have := readP_spec (base := base) (h := h) 4 (s := encL l) (by omega) (runesE (by omega))
    rw [read4, dec_enc] at this
    simp only at this
    rw [if_neg (by omega)] at this
    exact this
  have hd := Bv.done (gZ_nils 1) l
  have hS : ∀ base h, _ := fun base h => same_spec (base := base) (h := h) hd.rd hb.rd (by omega)
  have bl : (l == l) = true := by simp
  have n1 : (size h < size h) = False := by simp
  have w1 : IntKind.i64.wrap ((l.length : Int) + 2) = ((l.length + 2 : Nat) : Int) := by rw [wrap_small] <;> omega
  have q1 : ((l.length + 2 : Nat) : Int).tdiv 3 = (((l.length + 2) / 3 : Nat) : Int) := (Int.ofNat_tdiv (l.length + 2) 3).symm
  have w2 : IntKind.i64.wrap (((l.length + 2) / 3 : Nat) : Int) = (((l.length + 2) / 3 : Nat) : Int) := by rw [wrap_small] <;> omega
  have w3 : IntKind.i64.wrap ((((l.length + 2) / 3 : Nat) : Int) * 4) = (((encL l).length : Nat) : Int) := by rw [hlen, wrap_small] <;> omega
  have z3 : ((3 : Int) = 0) = False := by simp
  have bz : ((((encL l).length : Nat) : Int) != ((encL l).length : Int)) = false := by simp
  by_cases h0 : encL l = []
  · have e0 : (((encL l).length : Int) == 0) = true := by rw [h0]; rfl
    generalize gD .nils 1 (u8s l) = d at *
    simp only [hb.len, hb.scalar, hb.cells, hd.scalar, hd.cells, ha, h1, hW, hR, hS, bl, n1, w1, q1, w2, w3, z3, bz, e0, ↓evD, evU, Nat.reduceAdd, Nat.reduceSub, Nat.reduceMul, Nat.reduceLeDiff, Nat.reduceLT, Nat.reduceEqDiff, Nat.reduceBEq, reduceIte, reduceCtorEq, Int.reduceBEq, Int.reduceEq, Int.reduceLT, Int.reduceLE, Int.reduceGT, Int.reduceGE, Int.reduceAdd, Int.reduceSub, Int.reduceNeg, Int.reduceBNe, List.all_cons, List.all_nil, List.getElem?_cons_zero, List.getElem?_cons_succ, List.getElem?_nil, Option.map_some, List.length_cons, List.length_nil, List.set_cons_zero, List.set_cons_succ, List.map_cons, List.map_nil, List.drop_zero, List.drop_succ_cons, List.drop_nil, List.take_zero, List.take_succ_cons, List.take_nil, ite_true, ite_false, if_true, if_false, implies_true, forall_const, beq_self_eq_true, List.replicate_succ, List.replicate_zero, List.headD_cons, List.cons_append, List.nil_append, bne_self_eq_false]
  · have hpos : 0 < (encL l).length := List.length_pos_iff.2 h0
    have e0 : (((encL l).length : Int) == 0) = false := by rw [beq_eq_false_iff_ne]; omega
    obtain ⟨m, hm, ea⟩ := and_any at'
    have em : (m : Int).tmod ((encL l).length : Int) = ((m % (encL l).length : Nat) : Int) := tmod_nat _ _
    have zl : (((encL l).length : Int) = 0) = False := by simp; exact h0
    generalize hj : m % (encL l).length = j at *
    have hjl : j < (encL l).length := by rw [← hj]; exact Nat.mod_lt _ hpos
    obtain ⟨x, hx⟩ : ∃ x, (encL l)[j]? = some x := ⟨_, List.getElem?_eq_getElem hjl⟩
    obtain ⟨y, hy⟩ := add_u8 x (c := by')
    have hix := ix_nat .i64 j (encL l).length hjl
    have hsb : strBytesB true (.str (encL l)) = fun k => some (.bsl false (size k) 0 (encL l).length 1, ext k [.cells (u8s (encL l))]) := by
      funext k; exact strBytesB_box _ _ (by unfold limS; omega)
    have eset : setRange (u8s (encL l)) j [.int .u8 y.toNat] = u8s ((encL l).set j y) := by rw [setRange_cons, setRange_nil, set_u8s]
    generalize ht : (encL l).set j y = t at *
    have htl : t.length = (encL l).length := by rw [← ht]; simp
    have hty : t[j]? = some y := by rw [← ht]; simp [hjl]
    have hRt : ∀ base h, _ := fun base h => readP_spec (base := base) (h := h) 4 (s := t) (by omega) (runesE (by omega))
    simp only [read4] at hRt
    have hxy : ((y.toNat : Int) == (x.toNat : Int)) = (y == x) := by
      by_cases hq : y = x
      · subst hq; simp
      · have h1 : (y == x) = false := by simpa using hq
        rw [h1, beq_eq_false_iff_ne]
        intro q
        exact hq (UInt8.toNat_inj.1 (by omega))
    have hg1 : (u8s (encL l))[j]? = some (.int .u8 x.toNat) := Bu.get hx
    have hg2 : (u8s t)[j]? = some (.int .u8 y.toNat) := Bu.get hty
    have hle : j + 1 ≤ (u8s (encL l)).length := by rw [Bu.len]; omega
    have hbs : ∀ k b f, getBox k b = some (u8s t) → bytesStrB k (.bsl f b 0 (encL l).length 1) = some (.str t) := by
      intro k b f hg
      have h2 : (u8s t).length = (encL l).length := by rw [Bu.len, htl]
      rw [bytesStrB_bsl, elems_bsl, hg, Option.bnd_some, if_pos (by rw [List.drop_zero, ← h2, List.take_length]; exact ⟨by omega, Bu.scalar t⟩), List.drop_zero, ← h2, List.take_length, Option.bnd_some, Bu.bytesOf]
      rfl
    have n2 : (size h + 1 < size h) = False := by simp
    have n3 : (size h + 2 < size h) = False := by simp
    have gb : ∀ c d : Box, ∀ u : List PV, getBox (ext h [c, .cells u]) (size h + 1) = some u := fun c d u => by rw [getBox_ext_n]; rfl
    have hb1 := hbs (ext h [.cells [i64 4, i64 0, .str [], gD .nils 1 (u8s l), i64 0, i64 0], .cells (u8s t)]) (size h + 1) false (by rw [getBox_ext_n]; rfl)
    generalize hgd : gD .nils 1 (u8s l) = d at *
    cases hdt : decL t with
    | none =>
      simp only [hdt] at hRt
      simp only [hb.len, hb.scalar, hb.cells, hd.scalar, hd.cells, ha, h1, hW, hR, hS, bl, n1, w1, q1, w2, w3, z3, bz, e0, hsb, ea, em, zl, intOp_and, hix, hg1, hy, eset, hle, n2, n3, hb1, hRt, Nat.zero_add, Nat.mul_one, ↓evD, evU, Nat.reduceAdd, Nat.reduceSub, Nat.reduceMul, Nat.reduceLeDiff, Nat.reduceLT, Nat.reduceEqDiff, Nat.reduceBEq, reduceIte, reduceCtorEq, Int.reduceBEq, Int.reduceEq, Int.reduceLT, Int.reduceLE, Int.reduceGT, Int.reduceGE, Int.reduceAdd, Int.reduceSub, Int.reduceNeg, Int.reduceBNe, List.all_cons, List.all_nil, List.getElem?_cons_zero, List.getElem?_cons_succ, List.getElem?_nil, Option.map_some, List.length_cons, List.length_nil, List.set_cons_zero, List.set_cons_succ, List.map_cons, List.map_nil, List.drop_zero, List.drop_succ_cons, List.drop_nil, List.take_zero, List.take_succ_cons, List.take_nil, ite_true, ite_false, if_true, if_false, implies_true, forall_const, beq_self_eq_true, List.replicate_succ, List.replicate_zero, List.headD_cons, List.cons_append, List.nil_append, bne_self_eq_false]
    | some u =>
      simp only [hdt] at hRt
      by_cases hu : 200 < u.length
      · simp only [hu, if_true] at hRt
        simp only [hb.len, hb.scalar, hb.cells, hd.scalar, hd.cells, ha, h1, hW, hR, hS, bl, n1, w1, q1, w2, w3, z3, bz, e0, hsb, ea, em, zl, intOp_and, hix, hg1, hy, eset, hle, n2, n3, hb1, hRt, Nat.zero_add, Nat.mul_one, ↓evD, evU, Nat.reduceAdd, Nat.reduceSub, Nat.reduceMul, Nat.reduceLeDiff, Nat.reduceLT, Nat.reduceEqDiff, Nat.reduceBEq, reduceIte, reduceCtorEq, Int.reduceBEq, Int.reduceEq, Int.reduceLT, Int.reduceLE, Int.reduceGT, Int.reduceGE, Int.reduceAdd, Int.reduceSub, Int.reduceNeg, Int.reduceBNe, List.all_cons, List.all_nil, List.getElem?_cons_zero, List.getElem?_cons_succ, List.getElem?_nil, Option.map_some, List.length_cons, List.length_nil, List.set_cons_zero, List.set_cons_succ, List.map_cons, List.map_nil, List.drop_zero, List.drop_succ_cons, List.drop_nil, List.take_zero, List.take_succ_cons, List.take_nil, ite_true, ite_false, if_true, if_false, implies_true, forall_const, beq_self_eq_true, List.replicate_succ, List.replicate_zero, List.headD_cons, List.cons_append, List.nil_append, bne_self_eq_false]
      · simp only [hu, if_false] at hRt
        have hdu := Bv.done (gZ_nils 1) u
        have hSu : ∀ base h, _ := fun base h => same_spec (base := base) (h := h) hdu.rd hb.rd (by omega)
        have key : (u == l) = (y == x) := by
          have e1 := enc_dec t u hdt
          by_cases hq : y = x
          · have : t = encL l := by
              rw [← ht, hq]
              obtain ⟨hi, rfl⟩ := List.getElem?_eq_some_iff.1 hx
              simp
            rw [this] at e1
            have := enc_inj e1
            subst this
            simp [hq]
          · have h1 : (y == x) = false := by simpa using hq
            rw [h1, beq_eq_false_iff_ne]
            rintro rfl
            rw [e1] at hx
            rw [hty] at hx
            exact hq (Option.some.inj hx)
        have kk : ((y == x) == (y == x)) = true := by simp
        rw [key] at hSu
        generalize hgu : gD .nils 1 (u8s u) = du at *
        simp only [hb.len, hb.scalar, hb.cells, hd.scalar, hd.cells, hdu.scalar, hdu.cells, ha, h1, hW, hR, hS, hSu, bl, n1, w1, q1, w2, w3, z3, bz, e0, hsb, ea, em, zl, intOp_and, hix, hg1, hg2, hx, hxy, hy, eset, hle, n2, n3, hb1, hRt, kk, Nat.zero_add, Nat.mul_one, ↓evD, evU, Nat.reduceAdd, Nat.reduceSub, Nat.reduceMul, Nat.reduceLeDiff, Nat.reduceLT, Nat.reduceEqDiff, Nat.reduceBEq, reduceIte, reduceCtorEq, Int.reduceBEq, Int.reduceEq, Int.reduceLT, Int.reduceLE, Int.reduceGT, Int.reduceGE, Int.reduceAdd, Int.reduceSub, Int.reduceNeg, Int.reduceBNe, List.all_cons, List.all_nil, List.getElem?_cons_zero, List.getElem?_cons_succ, List.getElem?_nil, Option.map_some, List.length_cons, List.length_nil, List.set_cons_zero, List.set_cons_succ, List.map_cons, List.map_nil, List.drop_zero, List.drop_succ_cons, List.drop_nil, List.take_zero, List.take_succ_cons, List.take_nil, ite_true, ite_false, if_true, if_false, implies_true, forall_const, beq_self_eq_true, List.replicate_succ, List.replicate_zero, List.headD_cons, List.cons_append, List.nil_append, bne_self_eq_false]
theorem bytes_true {b : PV} {l : List UInt8} (hb : Bv b l) (at' by' : Int) : CallA T 0 7 [b, i64 at', .int .u8 by'] [] = some (.bool true, []) := bytes_at alive_spec hb at' by'
end Go.Am.YthhceeaconflnaaDoor
namespace Go.Am.YthhceeaconflnaaDoor
set_option maxRecDepth 100000
set_option linter.unusedSimpArgs false
set_option linter.unusedVariables false
section
variable {h : Hp} {base : Nat}
theorem write_num {n : Int} (hn : in64 n) : CallA T base 10 [val 1 n [] .nils 0 0] h = some (.tup [.str (Lib.itoa n), i64 0], h) := by
  have := write_spec (base := base) (h := h) 1 n [] .nils 0 0 (L := 0) bs_nils rfl (runesE (s := []) (by simp)) hn (by unfold in64; omega) (by unfold in64; omega) (e := []) (fun hq => by cases hq)
  rw [this]
  simp [writeG, rightG, extraG, onlyN]
theorem write_link {o i : Int} (ho : in64 o) (hi : in64 i) : CallA T base 10 [val 6 0 [] .nils o i] h =
    some (if 0 ≤ o ∧ o ≤ 65535 ∧ 0 ≤ i ∧ i ≤ 65535 then .tup [.str (Lib.itoa o ++ [58] ++ Lib.itoa i), i64 0] else .tup [.str [], i64 1], h) := by
  have := write_spec (base := base) (h := h) 6 0 [] .nils o i (L := 0) bs_nils rfl (runesE (s := []) (by simp)) (by unfold in64; omega) ho hi (e := []) (fun hq => by cases hq)
  rw [this]
  by_cases h1 : 0 ≤ o ∧ o ≤ 65535 <;> by_cases h2 : 0 ≤ i ∧ i ≤ 65535
  · obtain ⟨a, b⟩ := h1; obtain ⟨c, d⟩ := h2
    simp [writeG, rightG, extraG, onlyN, a, b, c, d]
  · have : ¬ (0 ≤ o ∧ o ≤ 65535 ∧ 0 ≤ i ∧ i ≤ 65535) := fun hq => h2 hq.2.2
    simp only [writeG, rightG, extraG, onlyN, h1, h2, if_neg this]; simp <;> omega
  · have : ¬ (0 ≤ o ∧ o ≤ 65535 ∧ 0 ≤ i ∧ i ≤ 65535) := fun hq => h1 ⟨hq.1, hq.2.1⟩
    simp only [writeG, rightG, extraG, onlyN, h1, h2, if_neg this]; simp <;> omega
  · have : ¬ (0 ≤ o ∧ o ≤ 65535 ∧ 0 ≤ i ∧ i ≤ 65535) := fun hq => h1 ⟨hq.1, hq.2.1⟩
    simp only [writeG, rightG, extraG, onlyN, h1, h2, if_neg this]; simp <;> omega
theorem read_itoa {k : Int} (hk : k = 1 ∨ k = 5) {n : Int} (hn : in64 n) : CallA T base 14 [i64 k, .str (Lib.itoa n)] h = some (.tup [val k n [] .nils 0 0, i64 0], h) := by
  have := itoa_len hn
  rw [read_num hk (by omega) (runesE (by omega)), numG_itoa hn]
  rfl
theorem read_link_itoa {o i : Int} (ho : 0 ≤ o ∧ o ≤ 65535) (hi : 0 ≤ i ∧ i ≤ 65535) : CallA T base 14 [i64 6, .str (Lib.itoa o ++ [58] ++ Lib.itoa i)] h = some (.tup [val 6 0 [] .nils o i, i64 0], h) := by
  have l1 := itoa_len (n := o) (by unfold in64; omega)
  have l2 := itoa_len (n := i) (by unfold in64; omega)
  have hl : (Lib.itoa o ++ [58] ++ Lib.itoa i).length ≤ 100 := by simp; omega
  rw [read_link hl (runesE (by omega)), linkG_itoa ho hi]
  rfl
theorem read_link_nil : CallA T base 14 [i64 6, .str []] h = some (.tup [val0, i64 20], h) := by
  rw [read_link (by simp) (runesE (by simp)), linkG_nil]
  rfl
end
set_option maxHeartbeats 4000000 in
theorem numbers_true {n o i : Int} (hn : in64 n) (ho : in64 o) (hi : in64 i) : CallA T 0 8 [i64 n, i64 o, i64 i] [] = some (.bool true, []) := by
  have ha := alive_spec
  have w1 : ∀ base h, _ := fun base h => write_num (base := base) (h := h) hn
  have w6 : ∀ base h, _ := fun base h => write_link (base := base) (h := h) ho hi
  have r1 : ∀ base h, _ := fun base h => read_itoa (base := base) (h := h) (k := 1) (.inl rfl) hn
  have r5 : ∀ base h, _ := fun base h => read_itoa (base := base) (h := h) (k := 5) (.inr rfl) hn
  have r6n : ∀ base h, _ := fun base h => read_link_nil (base := base) (h := h)
  obtain ⟨c, r, hc, c45, c48⟩ := itoa_head n
  have hne : ((Lib.itoa n).length : Int) ≠ 0 := by rw [hc]; simp; omega
  have hix : ix (.int .i64 0) (Lib.itoa n).length = some 0 := by rw [hc]; simp [ix]
  have hget : (Lib.itoa n)[0]? = some c := by rw [hc]; rfl
  have e45 : ((c.toNat : Int) == 45) = decide (n < 0) := by
    by_cases h : n < 0
    · rw [decide_eq_true h, beq_iff_eq]; have := c45.2 h; omega
    · rw [decide_eq_false h, beq_eq_false_iff_ne]; intro hq; exact h (c45.1 (by omega))
  have e48 : ((c.toNat : Int) == 48) = (n == 0) := by
    by_cases h : n = 0
    · subst h; rw [beq_self_eq_true, beq_iff_eq]; have := c48.2 rfl; omega
    · rw [beq_false_of h, beq_eq_false_iff_ne]; intro hq; exact h (c48.1 (by omega))
  have hne' : ((Lib.itoa n).length : Int) = 0 ↔ False := by simp only [iff_false]; exact hne
  have hb0 : (((Lib.itoa n).length : Int) == 0) = false := beq_false_of hne
  generalize hs : Lib.itoa n = s at *
  rw [S8]
  have hd : (decide (n < 0) != decide (n < 0)) = false := by simp
  have hz : ∀ x : Bool, x = (n == 0) → (x && (n != 0)) = false := by intro x hx; subst hx; cases h : (n == 0) <;> simp_all
  by_cases hl : 0 ≤ o ∧ o ≤ 65535 ∧ 0 ≤ i ∧ i ≤ 65535
  · have r6 : ∀ base h, _ := fun base h => read_link_itoa (base := base) (h := h) ⟨hl.1, hl.2.1⟩ ⟨hl.2.2.1, hl.2.2.2⟩
    rw [if_pos hl] at w6
    obtain ⟨a1, a2, a3, a4⟩ := hl
    have b1 : ¬ o < 0 := by omega
    have b2 : ¬ 65535 < o := by omega
    have b3 : ¬ i < 0 := by omega
    have b4 : ¬ 65535 < i := by omega
    cases hn0 : (n == 0)
    · simp only [ha, w1, w6, r1, r5, r6, hix, hget, e45, e48, hb0, hd, hn0, gt_iff_lt, b1, b2, b3, b4, ↓evD, evU, Nat.reduceAdd, Nat.reduceSub, Nat.reduceMul, Nat.reduceLeDiff, Nat.reduceLT, Nat.reduceEqDiff, Nat.reduceBEq, reduceIte, reduceCtorEq, Int.reduceBEq, Int.reduceEq, Int.reduceLT, Int.reduceLE, Int.reduceGT, Int.reduceGE, Int.reduceAdd, Int.reduceSub, Int.reduceNeg, Int.reduceBNe, List.all_cons, List.all_nil, List.getElem?_cons_zero, List.getElem?_cons_succ, List.getElem?_nil, Option.map_some, List.length_cons, List.length_nil, List.set_cons_zero, List.set_cons_succ, List.map_cons, List.map_nil, List.drop_zero, List.drop_succ_cons, List.drop_nil, List.take_zero, List.take_succ_cons, List.take_nil, ite_true, ite_false, if_true, if_false, implies_true, forall_const, beq_self_eq_true, List.replicate_succ, List.replicate_zero, List.headD_cons, List.cons_append, List.nil_append, bne_self_eq_false]
    · have hn1 : (n != 0) = false := by simpa using hn0
      simp only [ha, w1, w6, r1, r5, r6, hix, hget, e45, e48, hb0, hd, hn0, hn1, gt_iff_lt, b1, b2, b3, b4, ↓evD, evU, Nat.reduceAdd, Nat.reduceSub, Nat.reduceMul, Nat.reduceLeDiff, Nat.reduceLT, Nat.reduceEqDiff, Nat.reduceBEq, reduceIte, reduceCtorEq, Int.reduceBEq, Int.reduceEq, Int.reduceLT, Int.reduceLE, Int.reduceGT, Int.reduceGE, Int.reduceAdd, Int.reduceSub, Int.reduceNeg, Int.reduceBNe, List.all_cons, List.all_nil, List.getElem?_cons_zero, List.getElem?_cons_succ, List.getElem?_nil, Option.map_some, List.length_cons, List.length_nil, List.set_cons_zero, List.set_cons_succ, List.map_cons, List.map_nil, List.drop_zero, List.drop_succ_cons, List.drop_nil, List.take_zero, List.take_succ_cons, List.take_nil, ite_true, ite_false, if_true, if_false, implies_true, forall_const, beq_self_eq_true, List.replicate_succ, List.replicate_zero, List.headD_cons, List.cons_append, List.nil_append, bne_self_eq_false]
  · rw [if_neg hl] at w6
    cases hn0 : (n == 0)
    · by_cases b1 : o < 0
      · simp only [ha, w1, w6, r1, r5, r6n, hix, hget, e45, e48, hb0, hd, hn0, gt_iff_lt, b1, ↓evD, evU, Nat.reduceAdd, Nat.reduceSub, Nat.reduceMul, Nat.reduceLeDiff, Nat.reduceLT, Nat.reduceEqDiff, Nat.reduceBEq, reduceIte, reduceCtorEq, Int.reduceBEq, Int.reduceEq, Int.reduceLT, Int.reduceLE, Int.reduceGT, Int.reduceGE, Int.reduceAdd, Int.reduceSub, Int.reduceNeg, Int.reduceBNe, List.all_cons, List.all_nil, List.getElem?_cons_zero, List.getElem?_cons_succ, List.getElem?_nil, Option.map_some, List.length_cons, List.length_nil, List.set_cons_zero, List.set_cons_succ, List.map_cons, List.map_nil, List.drop_zero, List.drop_succ_cons, List.drop_nil, List.take_zero, List.take_succ_cons, List.take_nil, ite_true, ite_false, if_true, if_false, implies_true, forall_const, beq_self_eq_true, List.replicate_succ, List.replicate_zero, List.headD_cons, List.cons_append, List.nil_append, bne_self_eq_false]
      by_cases b2 : 65535 < o
      · simp only [ha, w1, w6, r1, r5, r6n, hix, hget, e45, e48, hb0, hd, hn0, gt_iff_lt, b1, b2, ↓evD, evU, Nat.reduceAdd, Nat.reduceSub, Nat.reduceMul, Nat.reduceLeDiff, Nat.reduceLT, Nat.reduceEqDiff, Nat.reduceBEq, reduceIte, reduceCtorEq, Int.reduceBEq, Int.reduceEq, Int.reduceLT, Int.reduceLE, Int.reduceGT, Int.reduceGE, Int.reduceAdd, Int.reduceSub, Int.reduceNeg, Int.reduceBNe, List.all_cons, List.all_nil, List.getElem?_cons_zero, List.getElem?_cons_succ, List.getElem?_nil, Option.map_some, List.length_cons, List.length_nil, List.set_cons_zero, List.set_cons_succ, List.map_cons, List.map_nil, List.drop_zero, List.drop_succ_cons, List.drop_nil, List.take_zero, List.take_succ_cons, List.take_nil, ite_true, ite_false, if_true, if_false, implies_true, forall_const, beq_self_eq_true, List.replicate_succ, List.replicate_zero, List.headD_cons, List.cons_append, List.nil_append, bne_self_eq_false]
      by_cases b3 : i < 0
      · simp only [ha, w1, w6, r1, r5, r6n, hix, hget, e45, e48, hb0, hd, hn0, gt_iff_lt, b1, b2, b3, ↓evD, evU, Nat.reduceAdd, Nat.reduceSub, Nat.reduceMul, Nat.reduceLeDiff, Nat.reduceLT, Nat.reduceEqDiff, Nat.reduceBEq, reduceIte, reduceCtorEq, Int.reduceBEq, Int.reduceEq, Int.reduceLT, Int.reduceLE, Int.reduceGT, Int.reduceGE, Int.reduceAdd, Int.reduceSub, Int.reduceNeg, Int.reduceBNe, List.all_cons, List.all_nil, List.getElem?_cons_zero, List.getElem?_cons_succ, List.getElem?_nil, Option.map_some, List.length_cons, List.length_nil, List.set_cons_zero, List.set_cons_succ, List.map_cons, List.map_nil, List.drop_zero, List.drop_succ_cons, List.drop_nil, List.take_zero, List.take_succ_cons, List.take_nil, ite_true, ite_false, if_true, if_false, implies_true, forall_const, beq_self_eq_true, List.replicate_succ, List.replicate_zero, List.headD_cons, List.cons_append, List.nil_append, bne_self_eq_false]
      have b4 : 65535 < i := by omega
      simp only [ha, w1, w6, r1, r5, r6n, hix, hget, e45, e48, hb0, hd, hn0, gt_iff_lt, b1, b2, b3, b4, ↓evD, evU, Nat.reduceAdd, Nat.reduceSub, Nat.reduceMul, Nat.reduceLeDiff, Nat.reduceLT, Nat.reduceEqDiff, Nat.reduceBEq, reduceIte, reduceCtorEq, Int.reduceBEq, Int.reduceEq, Int.reduceLT, Int.reduceLE, Int.reduceGT, Int.reduceGE, Int.reduceAdd, Int.reduceSub, Int.reduceNeg, Int.reduceBNe, List.all_cons, List.all_nil, List.getElem?_cons_zero, List.getElem?_cons_succ, List.getElem?_nil, Option.map_some, List.length_cons, List.length_nil, List.set_cons_zero, List.set_cons_succ, List.map_cons, List.map_nil, List.drop_zero, List.drop_succ_cons, List.drop_nil, List.take_zero, List.take_succ_cons, List.take_nil, ite_true, ite_false, if_true, if_false, implies_true, forall_const, beq_self_eq_true, List.replicate_succ, List.replicate_zero, List.headD_cons, List.cons_append, List.nil_append, bne_self_eq_false]
    · have hn1 : (n != 0) = false := by simpa using hn0
      by_cases b1 : o < 0
      · simp only [ha, w1, w6, r1, r5, r6n, hix, hget, e45, e48, hb0, hd, hn0, hn1, gt_iff_lt, b1, ↓evD, evU, Nat.reduceAdd, Nat.reduceSub, Nat.reduceMul, Nat.reduceLeDiff, Nat.reduceLT, Nat.reduceEqDiff, Nat.reduceBEq, reduceIte, reduceCtorEq, Int.reduceBEq, Int.reduceEq, Int.reduceLT, Int.reduceLE, Int.reduceGT, Int.reduceGE, Int.reduceAdd, Int.reduceSub, Int.reduceNeg, Int.reduceBNe, List.all_cons, List.all_nil, List.getElem?_cons_zero, List.getElem?_cons_succ, List.getElem?_nil, Option.map_some, List.length_cons, List.length_nil, List.set_cons_zero, List.set_cons_succ, List.map_cons, List.map_nil, List.drop_zero, List.drop_succ_cons, List.drop_nil, List.take_zero, List.take_succ_cons, List.take_nil, ite_true, ite_false, if_true, if_false, implies_true, forall_const, beq_self_eq_true, List.replicate_succ, List.replicate_zero, List.headD_cons, List.cons_append, List.nil_append, bne_self_eq_false]
      by_cases b2 : 65535 < o
      · simp only [ha, w1, w6, r1, r5, r6n, hix, hget, e45, e48, hb0, hd, hn0, hn1, gt_iff_lt, b1, b2, ↓evD, evU, Nat.reduceAdd, Nat.reduceSub, Nat.reduceMul, Nat.reduceLeDiff, Nat.reduceLT, Nat.reduceEqDiff, Nat.reduceBEq, reduceIte, reduceCtorEq, Int.reduceBEq, Int.reduceEq, Int.reduceLT, Int.reduceLE, Int.reduceGT, Int.reduceGE, Int.reduceAdd, Int.reduceSub, Int.reduceNeg, Int.reduceBNe, List.all_cons, List.all_nil, List.getElem?_cons_zero, List.getElem?_cons_succ, List.getElem?_nil, Option.map_some, List.length_cons, List.length_nil, List.set_cons_zero, List.set_cons_succ, List.map_cons, List.map_nil, List.drop_zero, List.drop_succ_cons, List.drop_nil, List.take_zero, List.take_succ_cons, List.take_nil, ite_true, ite_false, if_true, if_false, implies_true, forall_const, beq_self_eq_true, List.replicate_succ, List.replicate_zero, List.headD_cons, List.cons_append, List.nil_append, bne_self_eq_false]
      by_cases b3 : i < 0
      · simp only [ha, w1, w6, r1, r5, r6n, hix, hget, e45, e48, hb0, hd, hn0, hn1, gt_iff_lt, b1, b2, b3, ↓evD, evU, Nat.reduceAdd, Nat.reduceSub, Nat.reduceMul, Nat.reduceLeDiff, Nat.reduceLT, Nat.reduceEqDiff, Nat.reduceBEq, reduceIte, reduceCtorEq, Int.reduceBEq, Int.reduceEq, Int.reduceLT, Int.reduceLE, Int.reduceGT, Int.reduceGE, Int.reduceAdd, Int.reduceSub, Int.reduceNeg, Int.reduceBNe, List.all_cons, List.all_nil, List.getElem?_cons_zero, List.getElem?_cons_succ, List.getElem?_nil, Option.map_some, List.length_cons, List.length_nil, List.set_cons_zero, List.set_cons_succ, List.map_cons, List.map_nil, List.drop_zero, List.drop_succ_cons, List.drop_nil, List.take_zero, List.take_succ_cons, List.take_nil, ite_true, ite_false, if_true, if_false, implies_true, forall_const, beq_self_eq_true, List.replicate_succ, List.replicate_zero, List.headD_cons, List.cons_append, List.nil_append, bne_self_eq_false]
      have b4 : 65535 < i := by omega
      simp only [ha, w1, w6, r1, r5, r6n, hix, hget, e45, e48, hb0, hd, hn0, hn1, gt_iff_lt, b1, b2, b3, b4, ↓evD, evU, Nat.reduceAdd, Nat.reduceSub, Nat.reduceMul, Nat.reduceLeDiff, Nat.reduceLT, Nat.reduceEqDiff, Nat.reduceBEq, reduceIte, reduceCtorEq, Int.reduceBEq, Int.reduceEq, Int.reduceLT, Int.reduceLE, Int.reduceGT, Int.reduceGE, Int.reduceAdd, Int.reduceSub, Int.reduceNeg, Int.reduceBNe, List.all_cons, List.all_nil, List.getElem?_cons_zero, List.getElem?_cons_succ, List.getElem?_nil, Option.map_some, List.length_cons, List.length_nil, List.set_cons_zero, List.set_cons_succ, List.map_cons, List.map_nil, List.drop_zero, List.drop_succ_cons, List.drop_nil, List.take_zero, List.take_succ_cons, List.take_nil, ite_true, ite_false, if_true, if_false, implies_true, forall_const, beq_self_eq_true, List.replicate_succ, List.replicate_zero, List.headD_cons, List.cons_append, List.nil_append, bne_self_eq_false]
theorem runes_true (s : List UInt8) : CallA T 0 5 [.str s] [] = some (.bool true, []) := by
  have ha := alive_spec
  rw [S5]
  by_cases hl : (1000 : Int) < (s.length : Int)
  · simp only [gt_iff_lt, ha, hl, ↓evD, evU, Nat.reduceAdd, Nat.reduceSub, Nat.reduceMul, Nat.reduceLeDiff, Nat.reduceLT, Nat.reduceEqDiff, Nat.reduceBEq, reduceIte, reduceCtorEq, Int.reduceBEq, Int.reduceEq, Int.reduceLT, Int.reduceLE, Int.reduceGT, Int.reduceGE, Int.reduceAdd, Int.reduceSub, Int.reduceNeg, Int.reduceBNe, List.all_cons, List.all_nil, List.getElem?_cons_zero, List.getElem?_cons_succ, List.getElem?_nil, Option.map_some, List.length_cons, List.length_nil, List.set_cons_zero, List.set_cons_succ, List.map_cons, List.map_nil, List.drop_zero, List.drop_succ_cons, List.drop_nil, List.take_zero, List.take_succ_cons, List.take_nil, ite_true, ite_false, if_true, if_false, implies_true, forall_const, beq_self_eq_true, List.replicate_succ, List.replicate_zero, List.headD_cons, List.cons_append, List.nil_append, bne_self_eq_false]
  · have h1 : ∀ base h, _ := fun base h => runes_spec (base := base) (h := h) (s := s) (by omega)
    have h2 : ∀ base h, _ := fun base h => runes2_spec (base := base) (h := h) (s := s) (by omega)
    simp only [gt_iff_lt, ha, hl, h1, h2, ↓evD, evU, Nat.reduceAdd, Nat.reduceSub, Nat.reduceMul, Nat.reduceLeDiff, Nat.reduceLT, Nat.reduceEqDiff, Nat.reduceBEq, reduceIte, reduceCtorEq, Int.reduceBEq, Int.reduceEq, Int.reduceLT, Int.reduceLE, Int.reduceGT, Int.reduceGE, Int.reduceAdd, Int.reduceSub, Int.reduceNeg, Int.reduceBNe, List.all_cons, List.all_nil, List.getElem?_cons_zero, List.getElem?_cons_succ, List.getElem?_nil, Option.map_some, List.length_cons, List.length_nil, List.set_cons_zero, List.set_cons_succ, List.map_cons, List.map_nil, List.drop_zero, List.drop_succ_cons, List.drop_nil, List.take_zero, List.take_succ_cons, List.take_nil, ite_true, ite_false, if_true, if_false, implies_true, forall_const, beq_self_eq_true, List.replicate_succ, List.replicate_zero, List.headD_cons, List.cons_append, List.nil_append, bne_self_eq_false]
end Go.Am.YthhceeaconflnaaDoor
