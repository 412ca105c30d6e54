/- Slices of values of one form, by value. | Values as they are kept: what the small functions of value compute, on the abstract machine. | Of, Same and Fits, and the reference's Fits, on the abstract machine. | 'Am': what an argument that is read as data is to the machine. | Arguments that are structs, or bytes. | Arguments of the seat: values, bytes; for the walks. | Whether a value may be a resource's; what is kept is what was handed in. | Values as bytes: what value and the reference write, on the abstract machine. | The reference's bytes of values, on the abstract machine. | Numbers read from bytes, on the abstract machine. | Values read from bytes: value's way and the reference's, on the abstract machine. | Unwire, and the reference's, on the abstract machine. | The reference's Unwire; must; what Wire hands back, forgotten: on the abstract machine. | The document's examples, on the abstract machine. | ValueWires and ValueFits, on the abstract machine. | ValueOfs, on the abstract machine. | ValueNumbers, on the abstract machine. | ValueNumbers: the law, on the abstract machine.
   By the session's AI agent. -/
import Derived.Test.YtppkffebmoffnaaDoorVa4
import GoSem.ClaimChange
import Derived.ChangeArms
import Derived.ChangeOld
import Derived.DataReads
import Derived.SizedLaws
import Derived.KernelRfl
namespace Go.Am
set_option linter.unusedVariables false
set_option linter.unusedSimpArgs false
/-- A form of elements: so many cells, no box. -/
structure El {α : Type} (e : α → PV) (sz : Nat) : Prop where
  len : ∀ a, (e a).cells.length = sz
  sc : ∀ a, (e a).cells.all scalar = true
  st : ∀ a, strip (e a) = e a
  be : ∀ n a, below n (e a) = true
def eI (n : Int) : PV := .int .i64 n
def eS (s : List UInt8) : PV := .str s
def eB (c : UInt8) : PV := .int .u8 c.toNat
theorem elI : El eI 1 := ⟨fun _ => rfl, fun _ => rfl, fun _ => rfl, fun _ _ => rfl⟩
theorem elS : El eS 1 := ⟨fun _ => rfl, fun _ => rfl, fun _ => rfl, fun _ _ => rfl⟩
theorem elB : El eB 1 := ⟨fun _ => rfl, fun _ => rfl, fun _ => rfl, fun _ _ => rfl⟩
section
variable {α : Type} {e : α → PV} {sz : Nat}
theorem El.fits (he : El e sz) (l : List α) : (l.map e).all (fits sz) = true := by
  induction l with
  | nil => rfl
  | cons a l ih =>
    simp only [List.map_cons, List.all_cons, ih, Bool.and_true, fits_def, he.len, he.sc, beq_self_eq_true]
theorem El.strips (he : El e sz) (l : List α) : strips (l.map e) = l.map e := by
  induction l with
  | nil => rfl
  | cons a l ih => simp only [List.map_cons, strips_cons, he.st, ih]
theorem El.belows (he : El e sz) (n : Nat) (l : List α) : belows n (l.map e) = true := by
  induction l with
  | nil => rfl
  | cons a l ih => simp only [List.map_cons, belows_cons, he.be, ih, Bool.and_self]
theorem El.scalars (he : El e 1) (hc : ∀ a, (e a).cells = [e a]) (l : List α) : (l.map e).all scalar = true := by
  induction l with
  | nil => rfl
  | cons a l ih =>
    have := he.sc a
    rw [hc a] at this
    simp only [List.all_cons, List.all_nil, Bool.and_true] at this
    simp only [List.map_cons, List.all_cons, ih, this, Bool.and_self]
/-- A list as a value: nil, or a slice by value. -/
def Lv (e : α → PV) (sz : Nat) (b : PV) (l : List α) : Prop := (b = .nils ∧ l = []) ∨ b = .sl .no sz (l.map e) ∨ b = .sl .full sz (l.map e)
theorem Lv.nils : Lv e sz .nils [] := .inl ⟨rfl, rfl⟩
theorem Lv.no (l : List α) : Lv e sz (.sl .no sz (l.map e)) l := .inr (.inl rfl)
theorem Lv.full (l : List α) : Lv e sz (.sl .full sz (l.map e)) l := .inr (.inr rfl)
/-- A list that can be read. -/
structure Rl (e : α → PV) (sz : Nat) (b : PV) (l : List α) : Prop where
  len : lenB false b = some (.int .i64 l.length)
  idx : ∀ {k : IntKind} {i : Nat} {a : α}, l[i]? = some a → idxAB b (.int k i) sz = some (.ep (e a).cells 0)
  elems : ∀ h, Go.Am.elems h b = some (l.map e)
theorem rl_sl (o : Own) (l : List α) : Rl e sz (.sl o sz (l.map e)) l := by
  refine ⟨by rw [lenB_sl, List.length_map], fun {k i a} hc => ?_, fun h => rfl⟩
  have hi := (List.getElem?_eq_some_iff.1 hc).1
  rw [idxAB_sl, if_pos rfl, ix_nat k i _ (by rw [List.length_map]; exact hi), Option.bnd_some, List.getElem?_map, hc]; rfl
theorem rl_nils : Rl e sz .nils [] := ⟨rfl, fun {k i a} hc => by simp at hc, fun h => rfl⟩
section
variable {b : PV} {l : List α} (hb : Lv e sz b l)
include hb
theorem Lv.rl : Rl e sz b l := by
  rcases hb with ⟨rfl, rfl⟩ | rfl | rfl
  · exact rl_nils
  · exact rl_sl _ _
  · exact rl_sl _ _
theorem Lv.len : lenB false b = some (.int .i64 l.length) := hb.rl.len
theorem Lv.idx {k : IntKind} {i : Nat} {a : α} (ha : l[i]? = some a) : idxAB b (.int k i) sz = some (.ep (e a).cells 0) := hb.rl.idx ha
theorem Lv.elems (h : Hp) : Go.Am.elems h b = some (l.map e) := hb.rl.elems h
theorem Lv.scalar : Go.Am.scalar b = true := by rcases hb with ⟨rfl, rfl⟩ | rfl | rfl <;> rfl
theorem Lv.frz (n : Nat) (h : Hp) : Go.Am.frz n h b = some b := by rcases hb with ⟨rfl, rfl⟩ | rfl | rfl <;> rfl
theorem Lv.strip : Go.Am.strip b = b := by rcases hb with ⟨rfl, rfl⟩ | rfl | rfl <;> rfl
theorem Lv.cells : b.cells = [b] := by rcases hb with ⟨rfl, rfl⟩ | rfl | rfl <;> rfl
theorem Lv.below (he : El e sz) (n : Nat) : Go.Am.below n b = true := by
  rcases hb with ⟨rfl, rfl⟩ | rfl | rfl
  · rfl
  · rw [below_sl, he.belows]; rfl
  · rw [below_sl, he.belows]; rfl
end
theorem gV_rl {z : PV} (hz : gZ sz z) (h : Hp) (l : List α) : Rl e sz (gV h z sz (l.map e)) l := by
  cases l with
  | nil =>
    rcases hz with rfl | rfl
    · exact rl_nils
    · exact rl_sl .full []
  | cons x l => exact rl_sl _ (x :: l)
theorem Lv.done {z : PV} (hz : gZ sz z) (l : List α) : Lv e sz (gD z sz (l.map e)) l := by
  unfold gD
  cases l with
  | nil =>
    rcases hz with rfl | rfl
    · exact .inl ⟨rfl, rfl⟩
    · exact .inr (.inr rfl)
  | cons x xs => exact .inr (.inl rfl)
theorem gOneL {h : Hp} {T : Nat} {z : PV} (he : El e sz) (hz : gZ sz z) (l : List α) (a : α) (hl : l.length + 1 ≤ lim2) :
    growT (gH h T (l.map e)) T sz (gV h z sz (l.map e)) [e a] = some (gV h z sz ((l ++ [a]).map e), gH h T ((l ++ [a]).map e)) := by
  have := gGrow (h := h) (T := T) hz (l.map e) ([a].map e) (he.fits [a]) (he.strips [a]) (by simpa using hl)
  rw [← List.map_append] at this
  exact this
theorem gAllL {h : Hp} {T : Nat} {z : PV} (he : El e sz) (hz : gZ sz z) (l m : List α) (hl : l.length + m.length ≤ lim2) :
    growT (gH h T (l.map e)) T sz (gV h z sz (l.map e)) (m.map e) = some (gV h z sz ((l ++ m).map e), gH h T ((l ++ m).map e)) := by
  have := gGrow (h := h) (T := T) hz (l.map e) (m.map e) (he.fits m) (he.strips m) (by simpa using hl)
  rw [← List.map_append] at this
  exact this
end
theorem beq_false' {a b : Int} (h : a ≠ b) : (a == b) = false := by simpa using h
theorem bne_true' {a b : Int} (h : a ≠ b) : (a != b) = true := by simpa using h
theorem u8_beq (x y : UInt8) : ((x.toNat : Int) == (y.toNat : Int)) = (x == y) := by
  by_cases h : x = y
  · subst h; simp
  · have h1 : (x == y) = false := by simpa using h
    rw [h1, beq_eq_false_iff_ne]
    intro q
    exact h (UInt8.toNat_inj.1 (by omega))
theorem u8_bne (x y : UInt8) : ((x.toNat : Int) != (y.toNat : Int)) = (x != y) := by
  show (!((x.toNat : Int) == (y.toNat : Int))) = _
  rw [u8_beq]; rfl
theorem tmodN (a b : Nat) : (a : Int).tmod (b : Int) = ((a % b : Nat) : Int) := (Int.ofNat_tmod a b).symm
theorem trunc_ext_ge {k : Hp} (l : List Box) {n : Nat} (hn : n ≤ size k) : trunc (ext k l) n = trunc k n := by
  simp only [trunc, ext, size] at *
  exact List.take_append_of_le_length hn
end Go.Am
namespace Go.Am.YtppkffebmoffnaaDoor
set_option maxRecDepth 100000
set_option linter.unusedSimpArgs false
set_option linter.unusedVariables false
/-- A bytes value. -/
abbrev Bx := {p : PV // ∃ l, Bv p l}
noncomputable def bxL (b : Bx) : List UInt8 := b.2.choose
theorem bxV (b : Bx) : Bv b.1 (bxL b) := b.2.choose_spec
theorem u8s_inj : ∀ {l m : List UInt8}, u8s l = u8s m → l = m
  | [], [], _ => rfl
  | [], _ :: _, h => by simp [u8s] at h
  | _ :: _, [], h => by simp [u8s] at h
  | x :: l, y :: m, h => by
    rw [Bu.cons, Bu.cons] at h
    injection h with h1 h2
    injection h1 with _ h3
    have e1 : l = m := u8s_inj h2
    have e2 : x = y := UInt8.toNat_inj.1 (by omega)
    rw [e1, e2]
theorem bv_inj {p : PV} {l m : List UInt8} (h1 : Bv p l) (h2 : Bv p m) : l = m := by
  have e1 := h1.elems []
  rw [h2.elems []] at e1
  exact (u8s_inj (Option.some.inj e1)).symm
theorem bxL_of {p : PV} {l : List UInt8} (h : Bv p l) : bxL ⟨p, l, h⟩ = l := bv_inj (bxV ⟨p, l, h⟩) h
inductive Vl where
  | nil
  | int (n : Int)
  | bool (b : Bool)
  | text (s : List UInt8)
  | bytes (b : Bx)
  | time (n : Int)
  | link (o i : Int)
def eV : Vl → PV
  | .nil => .nilif
  | .int n => .iface 66 (i64 n)
  | .bool b => .iface 60 (.bool b)
  | .text s => .iface 61 (.str s)
  | .bytes b => .iface 62 b.1
  | .time n => .iface 63 (i64 n)
  | .link o i => .iface 65 (.agg [i64 o, i64 i])
theorem eV_strip (x : Vl) : strip (eV x) = eV x := by
  cases x <;> first | rfl | (show PV.iface 62 (strip _) = _; rw [(bxV _).strip]; rfl)
theorem eV_below (n : Nat) (x : Vl) : below n (eV x) = true := by
  cases x <;> first | rfl | exact (bxV _).below n
theorem eV_frz (n : Nat) (h : Hp) (x : Vl) : frz n h (eV x) = some (eV x) := by
  cases x <;> first | rfl | (show (frz n h _).bnd _ = _; rw [(bxV _).frz]; rfl)
/-- A copy of bytes, by value. -/
noncomputable def clP (b : Bx) : PV := if b.1 = .nils then .nils else gD (.sl .full 1 []) 1 (u8s (bxL b))
theorem clP_bv (b : Bx) : Bv (clP b) (bxL b) := by
  unfold clP
  split
  · rename_i h
    have := bxV b
    rw [h] at this
    exact this
  · exact Bv.done (gZ_full 1) _
noncomputable def clX (b : Bx) : Bx := ⟨clP b, bxL b, clP_bv b⟩
theorem bxL_clX (b : Bx) : bxL (clX b) = bxL b := bxL_of (clP_bv b)
/-- A copy of bytes, as its maker hands it back: its value, and the heap. -/
noncomputable def clV (h : Hp) (b : Bx) : PV := if b.1 = .nils then .nils else if bxL b = [] then .sl .full 1 [] else .bsl false (size h) 0 (bxL b).length 1
noncomputable def clH (h : Hp) (b : Bx) : Hp := if b.1 = .nils then h else if bxL b = [] then h else ext h [.cells (u8s (bxL b))]
theorem appBox_clone {h : Hp} {v : PV} {l : List UInt8} (hv : elems h v = some (u8s l)) (hl : l.length ≤ lim2) (hne : l ≠ []) :
    appBoxV 1 (.sl .full 1 []) v h = some (.bsl false (size h) 0 l.length 1, ext h [.cells (u8s l)]) := by
  unfold appBoxV
  have h1 : (u8s l).all (fun x => x.cells.length == 1) = true := by
    rw [List.all_eq_true]; intro x hx; simp only [u8s, List.mem_map] at hx; obtain ⟨c, _, rfl⟩ := hx; rfl
  have h2 : u8s l ≠ [] := Bu.ne hne
  rw [hv, Option.bnd_some]
  simp only [fullEs, Option.bnd_some]
  rw [if_neg h2, if_pos ⟨trivial, h1, rfl, by rw [Bu.len]; simpa using hl, Bu.scalar l, rfl⟩, Bu.len]
  simp
theorem appBox_empty {h : Hp} {v : PV} (hv : elems h v = some []) : appBoxV 1 (.sl .full 1 []) v h = some (.sl .full 1 [], h) := by
  unfold appBoxV
  rw [hv, Option.bnd_some]
  simp only [fullEs, Option.bnd_some]
  rw [if_pos trivial]
theorem frz_box {h : Hp} {l : List UInt8} {f : Bool} {n k : Nat} (hk : k = size h) (hn : n ≤ k) : frz n (ext h [.cells (u8s l)]) (.bsl f k 0 l.length 1) = some (.sl (if f then .full else .no) 1 (u8s l)) := by
  subst hk
  unfold frz
  rw [if_neg (by omega), getBox_ext_0, cellsOf_cells, Option.bnd_some]
  have h1 : (u8s l).take l.length = u8s l := by rw [← Bu.len l, List.take_length]
  have h2 : (u8s l).length = l.length := Bu.len l
  simp only [elemsOf, List.drop_zero, h1, h2, if_true, Bu.scalar, Bu.strips, Nat.le_refl, and_self, Option.bnd_some]
theorem clone_spec {base : Nat} {h : Hp} (b : Bx) (hl : (bxL b).length ≤ 1000000) : CallA T base 27 [b.1] h = some (clV h b, clH h b) := by
  rw [S27]
  unfold clV clH
  by_cases h0 : b.1 = .nils
  · rw [if_pos h0, if_pos h0, h0]
    simp only [↓evD, evU, evL, Nat.reduceAdd, Nat.reduceSub, Nat.reduceMul, Nat.reduceLeDiff, Nat.reduceLT, Nat.reduceEqDiff, Nat.reduceBEq, reduceIte, reduceCtorEq, Int.reduceBEq, Int.reduceEq, Int.reduceLT, Int.reduceLE, Int.reduceGT, Int.reduceGE, Int.reduceAdd, Int.reduceSub, Int.reduceNeg, Int.reduceBNe, ite_true, ite_false, if_true, if_false, implies_true, forall_const]
  have hi : isnilV 1 false b.1 = some (.bool false) := by
    rcases bxV b with ⟨q, _⟩ | q | q
    · exact (h0 q).elim
    · rw [q]; rfl
    · rw [q]; rfl
  rw [if_neg h0, if_neg h0]
  have he := (bxV b).elems h
  by_cases hne : bxL b = []
  · rw [if_pos hne, if_pos hne]
    rw [hne] at he
    simp only [hi, appBox_empty he, ↓evD, evU, evL, Nat.reduceAdd, Nat.reduceSub, Nat.reduceMul, Nat.reduceLeDiff, Nat.reduceLT, Nat.reduceEqDiff, Nat.reduceBEq, reduceIte, reduceCtorEq, Int.reduceBEq, Int.reduceEq, Int.reduceLT, Int.reduceLE, Int.reduceGT, Int.reduceGE, Int.reduceAdd, Int.reduceSub, Int.reduceNeg, Int.reduceBNe, ite_true, ite_false, if_true, if_false, implies_true, forall_const]
  · rw [if_neg hne, if_neg hne]
    have n1 : (size h < size h) = False := by simp
    simp only [hi, appBox_clone he (by unfold lim2; omega) hne, n1, Bu.below, finV_own, ownEnd_bsl, ↓evD, evU, evL, Nat.reduceAdd, Nat.reduceSub, Nat.reduceMul, Nat.reduceLeDiff, Nat.reduceLT, Nat.reduceEqDiff, Nat.reduceBEq, reduceIte, reduceCtorEq, Int.reduceBEq, Int.reduceEq, Int.reduceLT, Int.reduceLE, Int.reduceGT, Int.reduceGE, Int.reduceAdd, Int.reduceSub, Int.reduceNeg, Int.reduceBNe, ite_true, ite_false, if_true, if_false, implies_true, forall_const]
theorem clV_frz {h : Hp} (b : Bx) {n : Nat} (hn : n ≤ size h) : frz n (clH h b) (clV h b) = some (clX b).1 := by
  show _ = some (clP b)
  unfold clV clH clP
  by_cases h0 : b.1 = .nils
  · rw [if_pos h0, if_pos h0, if_pos h0]; rfl
  rw [if_neg h0, if_neg h0, if_neg h0]
  unfold gD
  by_cases hne : bxL b = []
  · rw [if_pos hne, if_pos hne, hne]; rfl
  · rw [if_neg hne, if_neg hne, frz_box rfl hn]
    have : (u8s (bxL b)).isEmpty = false := by
      cases hq : bxL b with
      | nil => exact (hne hq).elim
      | cons x l => rfl
    rw [this]; rfl
theorem clH_trunc {h : Hp} (b : Bx) {n : Nat} (hn : n ≤ size h) : trunc (clH h b) n = trunc h n := by
  unfold clH
  split
  · rfl
  · split
    · rfl
    · exact trunc_ext_ge _ hn
theorem clH_size {h : Hp} (b : Bx) : size h ≤ size (clH h b) := by
  unfold clH
  split
  · exact Nat.le_refl _
  · split
    · exact Nat.le_refl _
    · rw [size_ext]; omega
theorem clV_scalar {h : Hp} (b : Bx) : scalar (clV h b) = true := by
  unfold clV; split
  · rfl
  · split <;> rfl
theorem clV_cells {h : Hp} (b : Bx) : (clV h b).cells = [clV h b] := by
  unfold clV; split
  · rfl
  · split <;> rfl
def tru (b : Bool) : Int := if b then 1 else 0
theorem truth_spec {base : Nat} {h : Hp} (b : Bool) : CallA T base 32 [.bool b] h = some (i64 (tru b), h) := by
  rw [S32]; cases b <;> simp only [tru, ↓evD, evU, evL, Nat.reduceAdd, Nat.reduceSub, Nat.reduceMul, Nat.reduceLeDiff, Nat.reduceLT, Nat.reduceEqDiff, Nat.reduceBEq, reduceIte, reduceCtorEq, Int.reduceBEq, Int.reduceEq, Int.reduceLT, Int.reduceLE, Int.reduceGT, Int.reduceGE, Int.reduceAdd, Int.reduceSub, Int.reduceNeg, Int.reduceBNe, ite_true, ite_false, if_true, if_false, implies_true, forall_const] <;> rfl
def numV : Vl → Int × Bool
  | .int n => (n, true)
  | .time n => (n, true)
  | .bool b => (tru b, true)
  | _ => (0, false)
theorem number_spec {base : Nat} {h : Hp} (x : Vl) : CallA T base 12 [eV x] h = some (.tup [i64 (numV x).1, .bool (numV x).2], h) := by
  rw [S12]
  have hT := fun b => truth_spec (base := size h) (h := h) b
  cases x <;> simp only [eV, numV, hT, ↓evD, evU, evL, Nat.reduceAdd, Nat.reduceSub, Nat.reduceMul, Nat.reduceLeDiff, Nat.reduceLT, Nat.reduceEqDiff, Nat.reduceBEq, reduceIte, reduceCtorEq, Int.reduceBEq, Int.reduceEq, Int.reduceLT, Int.reduceLE, Int.reduceGT, Int.reduceGE, Int.reduceAdd, Int.reduceSub, Int.reduceNeg, Int.reduceBNe, ite_true, ite_false, if_true, if_false, implies_true, forall_const]
def wordsV : Vl → List UInt8 × Bool
  | .text s => (s, true)
  | _ => ([], false)
theorem words_spec {base : Nat} {h : Hp} (x : Vl) : CallA T base 13 [eV x] h = some (.tup [.str (wordsV x).1, .bool (wordsV x).2], h) := by
  rw [S13]
  cases x <;> simp only [eV, wordsV, ↓evD, evU, evL, Nat.reduceAdd, Nat.reduceSub, Nat.reduceMul, Nat.reduceLeDiff, Nat.reduceLT, Nat.reduceEqDiff, Nat.reduceBEq, reduceIte, reduceCtorEq, Int.reduceBEq, Int.reduceEq, Int.reduceLT, Int.reduceLE, Int.reduceGT, Int.reduceGE, Int.reduceAdd, Int.reduceSub, Int.reduceNeg, Int.reduceBNe, ite_true, ite_false, if_true, if_false, implies_true, forall_const]
def valV : Vl → PV
  | .nil => val 0 0 [] .nils 0 0
  | .int n => val 1 n [] .nils 0 0
  | .bool b => val 2 (tru b) [] .nils 0 0
  | .text s => val 3 0 s .nils 0 0
  | .bytes b => val 4 0 [] b.1 0 0
  | .time n => val 5 n [] .nils 0 0
  | .link o i => val 6 0 [] .nils o i
noncomputable def clW : Vl → Vl
  | .bytes b => .bytes (clX b)
  | x => x
def smallV : Vl → Prop
  | .bytes b => (bxL b).length ≤ 1000000
  | _ => True
theorem val_spec {base : Nat} {h : Hp} (x : Vl) (hs : smallV x) : CallA T base 16 [eV x] h = some (valV (clW x), h) := by
  rw [S16]
  have hT := fun b h' => truth_spec (base := size h) (h := h') b
  have n1 : (size h < size h) = False := by simp
  have n2 : (size h + 1 < size h) = False := by simp
  cases x with
  | bytes b =>
    have hc := fun h' => clone_spec (base := size h) (h := h') b hs
    have hX : clX b = ⟨clP b, bxL b, clP_bv b⟩ := rfl
    by_cases h0 : b.1 = .nils
    · simp only [clV, clH, if_pos h0] at hc
      have e : clP b = .nils := by unfold clP; rw [if_pos h0]
      simp only [eV, clW, valV, hX, e, hc, n1, n2, resB_ptr, ↓evD, evU, evL, Nat.reduceAdd, Nat.reduceSub, Nat.reduceMul, Nat.reduceLeDiff, Nat.reduceLT, Nat.reduceEqDiff, Nat.reduceBEq, reduceIte, reduceCtorEq, Int.reduceBEq, Int.reduceEq, Int.reduceLT, Int.reduceLE, Int.reduceGT, Int.reduceGE, Int.reduceAdd, Int.reduceSub, Int.reduceNeg, Int.reduceBNe, ite_true, ite_false, if_true, if_false, implies_true, forall_const]
    simp only [clV, clH, if_neg h0] at hc
    by_cases hne : bxL b = []
    · simp only [if_pos hne] at hc
      have e : clP b = .sl .full 1 [] := by unfold clP gD; rw [if_neg h0, hne]; rfl
      simp only [eV, clW, valV, hX, e, hc, n1, n2, resB_ptr, ↓evD, evU, evL, Nat.reduceAdd, Nat.reduceSub, Nat.reduceMul, Nat.reduceLeDiff, Nat.reduceLT, Nat.reduceEqDiff, Nat.reduceBEq, reduceIte, reduceCtorEq, Int.reduceBEq, Int.reduceEq, Int.reduceLT, Int.reduceLE, Int.reduceGT, Int.reduceGE, Int.reduceAdd, Int.reduceSub, Int.reduceNeg, Int.reduceBNe, ite_true, ite_false, if_true, if_false, implies_true, forall_const]
    · simp only [if_neg hne] at hc
      have e : clP b = .sl .no 1 (u8s (bxL b)) := by
        unfold clP gD; rw [if_neg h0]
        cases hq : bxL b with
        | nil => exact (hne hq).elim
        | cons x l => rfl
      have hl1 : (u8s (bxL b)).take (bxL b).length = u8s (bxL b) := by rw [← Bu.len (bxL b), List.take_length]
      have hl2 : (u8s (bxL b)).length = (bxL b).length := Bu.len _
      simp only [eV, clW, valV, hX, e, hc, n1, n2, resB_ptr, elemsOf, hl1, hl2, Bu.scalar, Bu.strips, Bu.below, ↓evD, evU, evL, Nat.reduceAdd, Nat.reduceSub, Nat.reduceMul, Nat.reduceLeDiff, Nat.reduceLT, Nat.reduceEqDiff, Nat.reduceBEq, reduceIte, reduceCtorEq, Int.reduceBEq, Int.reduceEq, Int.reduceLT, Int.reduceLE, Int.reduceGT, Int.reduceGE, Int.reduceAdd, Int.reduceSub, Int.reduceNeg, Int.reduceBNe, ite_true, ite_false, if_true, if_false, implies_true, forall_const]
  | _ => simp only [eV, clW, valV, hT, n1, n2, resB_ptr, ↓evD, evU, evL, Nat.reduceAdd, Nat.reduceSub, Nat.reduceMul, Nat.reduceLeDiff, Nat.reduceLT, Nat.reduceEqDiff, Nat.reduceBEq, reduceIte, reduceCtorEq, Int.reduceBEq, Int.reduceEq, Int.reduceLT, Int.reduceLE, Int.reduceGT, Int.reduceGE, Int.reduceAdd, Int.reduceSub, Int.reduceNeg, Int.reduceBNe, ite_true, ite_false, if_true, if_false, implies_true, forall_const]
end Go.Am.YtppkffebmoffnaaDoor
namespace Go.Am.YtppkffebmoffnaaDoor
set_option maxRecDepth 100000
set_option linter.unusedSimpArgs false
set_option linter.unusedVariables false
/-- A value as it is handed in. -/
structure Vi where
  k : Int
  n : Int
  s : List UInt8
  b : Bx
  o : Int
  i : Int
def eA (v : Vi) : PV := val v.k v.n v.s v.b.1 v.o v.i
structure Vi.ok (v : Vi) : Prop where
  hl : (bxL v.b).length ≤ 1000
  hs : v.s.length ≤ 1000
  hn : in64 v.n
  ho : in64 v.o
  hi : in64 v.i
noncomputable def errV (v : Vi) : Int := (writeG v.k v.n v.s (bxL v.b).length v.o v.i (runesG v.s).2 (encL (bxL v.b))).2
noncomputable def ofV (v : Vi) : Vl :=
  if v.k = 2 then .bool (v.n == 1) else if v.k = 3 then .text v.s else if v.k = 4 then .bytes (clX v.b) else if v.k = 5 then .time v.n else if v.k = 6 then .link v.o v.i else .int v.n
set_option maxHeartbeats 2000000 in
theorem of_spec {base : Nat} {h : Hp} (v : Vi) (hv : v.ok) : CallA T base 10 [eA v] h = some (.tup [if errV v = 0 then eV (ofV v) else .nilif, i64 (errV v)], h) := by
  obtain ⟨k, n, s, b, o, i⟩ := v
  obtain ⟨hl, hs, hn, ho, hi⟩ := hv
  simp only at hl hs hn ho hi
  rw [S10]
  have hW := fun h' => writeP_spec (base := size h) (h := h') k n s o i (bxV b) (by omega) (by omega) hn ho hi
  have n1 : (size h < size h) = False := by simp
  unfold errV eA ofV
  simp only
  generalize writeG k n s (bxL b).length o i (runesG s).2 (encL (bxL b)) = we at *
  obtain ⟨wt, we⟩ := we
  simp only at hW
  have sc := (bxV b).scalar
  have ce := (bxV b).cells
  by_cases he : we = 0
  · subst he
    rw [if_pos rfl]
    by_cases h2 : k = 2
    · subst h2; simp only [hW, sc, ce, eV, n1, ↓evD, evU, evL, Nat.reduceAdd, Nat.reduceSub, Nat.reduceMul, Nat.reduceLeDiff, Nat.reduceLT, Nat.reduceEqDiff, Nat.reduceBEq, reduceIte, reduceCtorEq, Int.reduceBEq, Int.reduceEq, Int.reduceLT, Int.reduceLE, Int.reduceGT, Int.reduceGE, Int.reduceAdd, Int.reduceSub, Int.reduceNeg, Int.reduceBNe, ite_true, ite_false, if_true, if_false, implies_true, forall_const]
    by_cases h3 : k = 3
    · subst h3; simp only [hW, sc, ce, eV, n1, ↓evD, evU, evL, Nat.reduceAdd, Nat.reduceSub, Nat.reduceMul, Nat.reduceLeDiff, Nat.reduceLT, Nat.reduceEqDiff, Nat.reduceBEq, reduceIte, reduceCtorEq, Int.reduceBEq, Int.reduceEq, Int.reduceLT, Int.reduceLE, Int.reduceGT, Int.reduceGE, Int.reduceAdd, Int.reduceSub, Int.reduceNeg, Int.reduceBNe, ite_true, ite_false, if_true, if_false, implies_true, forall_const]
    by_cases h4 : k = 4
    · subst h4
      have hc := fun h' => clone_spec (base := size h) (h := h') b (by omega)
      have hX : clX b = ⟨clP b, bxL b, clP_bv b⟩ := rfl
      by_cases h0 : b.1 = .nils
      · simp only [clV, clH, if_pos h0] at hc
        have e : clP b = .nils := by unfold clP; rw [if_pos h0]
        simp only [hW, sc, ce, eV, n1, hX, e, hc, ↓evD, evU, evL, Nat.reduceAdd, Nat.reduceSub, Nat.reduceMul, Nat.reduceLeDiff, Nat.reduceLT, Nat.reduceEqDiff, Nat.reduceBEq, reduceIte, reduceCtorEq, Int.reduceBEq, Int.reduceEq, Int.reduceLT, Int.reduceLE, Int.reduceGT, Int.reduceGE, Int.reduceAdd, Int.reduceSub, Int.reduceNeg, Int.reduceBNe, ite_true, ite_false, if_true, if_false, implies_true, forall_const]
      simp only [clV, clH, if_neg h0] at hc
      by_cases hne : bxL b = []
      · simp only [if_pos hne] at hc
        have e : clP b = .sl .full 1 [] := by unfold clP gD; rw [if_neg h0, hne]; rfl
        simp only [hW, sc, ce, eV, n1, hX, e, hc, ↓evD, evU, evL, Nat.reduceAdd, Nat.reduceSub, Nat.reduceMul, Nat.reduceLeDiff, Nat.reduceLT, Nat.reduceEqDiff, Nat.reduceBEq, reduceIte, reduceCtorEq, Int.reduceBEq, Int.reduceEq, Int.reduceLT, Int.reduceLE, Int.reduceGT, Int.reduceGE, Int.reduceAdd, Int.reduceSub, Int.reduceNeg, Int.reduceBNe, ite_true, ite_false, if_true, if_false, implies_true, forall_const]
      · simp only [if_neg hne] at hc
        have e : clP b = .sl .no 1 (u8s (bxL b)) := by
          unfold clP gD; rw [if_neg h0]
          cases hq : bxL b with
          | nil => exact (hne hq).elim
          | cons x l => rfl
        have hl1 : (u8s (bxL b)).take (bxL b).length = u8s (bxL b) := by rw [← Bu.len (bxL b), List.take_length]
        have hl2 : (u8s (bxL b)).length = (bxL b).length := Bu.len _
        have n2 : (size h + 1 < size h) = False := by simp
        simp only [hW, sc, ce, eV, n1, n2, hX, e, hc, elemsOf, hl1, hl2, Bu.scalar, Bu.strips, Bu.below, ↓evD, evU, evL, Nat.reduceAdd, Nat.reduceSub, Nat.reduceMul, Nat.reduceLeDiff, Nat.reduceLT, Nat.reduceEqDiff, Nat.reduceBEq, reduceIte, reduceCtorEq, Int.reduceBEq, Int.reduceEq, Int.reduceLT, Int.reduceLE, Int.reduceGT, Int.reduceGE, Int.reduceAdd, Int.reduceSub, Int.reduceNeg, Int.reduceBNe, ite_true, ite_false, if_true, if_false, implies_true, forall_const]
    by_cases h5 : k = 5
    · subst h5; simp only [hW, sc, ce, eV, n1, ↓evD, evU, evL, Nat.reduceAdd, Nat.reduceSub, Nat.reduceMul, Nat.reduceLeDiff, Nat.reduceLT, Nat.reduceEqDiff, Nat.reduceBEq, reduceIte, reduceCtorEq, Int.reduceBEq, Int.reduceEq, Int.reduceLT, Int.reduceLE, Int.reduceGT, Int.reduceGE, Int.reduceAdd, Int.reduceSub, Int.reduceNeg, Int.reduceBNe, ite_true, ite_false, if_true, if_false, implies_true, forall_const]
    by_cases h6 : k = 6
    · subst h6; simp only [hW, sc, ce, eV, n1, ↓evD, evU, evL, Nat.reduceAdd, Nat.reduceSub, Nat.reduceMul, Nat.reduceLeDiff, Nat.reduceLT, Nat.reduceEqDiff, Nat.reduceBEq, reduceIte, reduceCtorEq, Int.reduceBEq, Int.reduceEq, Int.reduceLT, Int.reduceLE, Int.reduceGT, Int.reduceGE, Int.reduceAdd, Int.reduceSub, Int.reduceNeg, Int.reduceBNe, ite_true, ite_false, if_true, if_false, implies_true, forall_const]
    simp only [hW, sc, ce, eV, n1, h2, h3, h4, h5, h6, beq_false_of h2, beq_false_of h3, beq_false_of h4, beq_false_of h5, beq_false_of h6, ↓evD, evU, evL, Nat.reduceAdd, Nat.reduceSub, Nat.reduceMul, Nat.reduceLeDiff, Nat.reduceLT, Nat.reduceEqDiff, Nat.reduceBEq, reduceIte, reduceCtorEq, Int.reduceBEq, Int.reduceEq, Int.reduceLT, Int.reduceLE, Int.reduceGT, Int.reduceGE, Int.reduceAdd, Int.reduceSub, Int.reduceNeg, Int.reduceBNe, ite_true, ite_false, if_true, if_false, implies_true, forall_const]
  · rw [if_neg he]
    simp only [hW, sc, ce, n1, he, bne_true_of he, ↓evD, evU, evL, Nat.reduceAdd, Nat.reduceSub, Nat.reduceMul, Nat.reduceLeDiff, Nat.reduceLT, Nat.reduceEqDiff, Nat.reduceBEq, reduceIte, reduceCtorEq, Int.reduceBEq, Int.reduceEq, Int.reduceLT, Int.reduceLE, Int.reduceGT, Int.reduceGE, Int.reduceAdd, Int.reduceSub, Int.reduceNeg, Int.reduceBNe, ite_true, ite_false, if_true, if_false, implies_true, forall_const]
theorem bytesStr_bv {b : PV} {l : List UInt8} (hb : Bv b l) (h : Hp) : bytesStrB h b = some (.str l) := by
  rcases hb with ⟨rfl, rfl⟩ | rfl | rfl
  · rfl
  · show (bytesOf (u8s l)).bnd _ = _; rw [Bu.bytesOf]; rfl
  · show (bytesOf (u8s l)).bnd _ = _; rw [Bu.bytesOf]; rfl
theorem equal_spec {base : Nat} {h : Hp} {a b : PV} {l m : List UInt8} (ha : Bv a l) (hb : Bv b m) : CallA T base 41 [a, b] h = some (.bool (l == m), h) := by
  rw [S41]
  simp only [bytesStr_bv ha, bytesStr_bv hb, ↓evD, evU, evL, Nat.reduceAdd, Nat.reduceSub, Nat.reduceMul, Nat.reduceLeDiff, Nat.reduceLT, Nat.reduceEqDiff, Nat.reduceBEq, reduceIte, reduceCtorEq, Int.reduceBEq, Int.reduceEq, Int.reduceLT, Int.reduceLE, Int.reduceGT, Int.reduceGE, Int.reduceAdd, Int.reduceSub, Int.reduceNeg, Int.reduceBNe, ite_true, ite_false, if_true, if_false, implies_true, forall_const]
def viV : Vl → Vi
  | .nil => ⟨0, 0, [], ⟨.nils, [], Bv.nils⟩, 0, 0⟩
  | .int n => ⟨1, n, [], ⟨.nils, [], Bv.nils⟩, 0, 0⟩
  | .bool b => ⟨2, tru b, [], ⟨.nils, [], Bv.nils⟩, 0, 0⟩
  | .text s => ⟨3, 0, s, ⟨.nils, [], Bv.nils⟩, 0, 0⟩
  | .bytes b => ⟨4, 0, [], b, 0, 0⟩
  | .time n => ⟨5, n, [], ⟨.nils, [], Bv.nils⟩, 0, 0⟩
  | .link o i => ⟨6, 0, [], ⟨.nils, [], Bv.nils⟩, o, i⟩
theorem valV_eA (x : Vl) : valV x = eA (viV x) := by cases x <;> rfl
/-- Are two values alike? -/
noncomputable def sameI (v w : Vi) : Bool := v.k == w.k && (v.n == w.n && (v.s == w.s && (bxL v.b == bxL w.b && (v.o == w.o && v.i == w.i))))
theorem sameR_spec {base : Nat} {h : Hp} (v w : Vi) (hl : (bxL v.b).length ≤ 1000000) : CallA T base 15 [eA v, eA w] h = some (.bool (sameI v w), h) :=
  sameVal_spec v.k v.n v.s v.o v.i w.k w.n w.s w.o w.i (bxV v.b) (bxV w.b) (by omega)
set_option maxHeartbeats 2000000 in
theorem same_of {base : Nat} {h : Hp} {a b : PV} (v w : Vi) (hv : ∀ base h, CallA T base 16 [a] h = some (eA v, h)) (hw : ∀ base h, CallA T base 16 [b] h = some (eA w, h)) :
    CallA T base 24 [a, b] h = some (.bool (sameI v w), h) := by
  obtain ⟨k, n, s, b, o, i⟩ := v
  obtain ⟨k', n', s', b', o', i'⟩ := w
  rw [S24]
  unfold eA at hv hw
  unfold sameI
  simp only at hv hw
  simp only
  have hE : ∀ base h, _ := fun base h => equal_spec (base := base) (h := h) (bxV b) (bxV b')
  have n1 : (size h < size h) = False := by simp
  have n2 : (size h + 1 < size h) = False := by simp
  have sc := (bxV b).scalar
  have ce := (bxV b).cells
  have sc' := (bxV b').scalar
  have ce' := (bxV b').cells
  cases h1 : (k == k')
  · simp only [hv, hw, hE, sc, ce, sc', ce', n1, n2, h1, ↓evD, evU, evL, Nat.reduceAdd, Nat.reduceSub, Nat.reduceMul, Nat.reduceLeDiff, Nat.reduceLT, Nat.reduceEqDiff, Nat.reduceBEq, reduceIte, reduceCtorEq, Int.reduceBEq, Int.reduceEq, Int.reduceLT, Int.reduceLE, Int.reduceGT, Int.reduceGE, Int.reduceAdd, Int.reduceSub, Int.reduceNeg, Int.reduceBNe, ite_true, ite_false, if_true, if_false, implies_true, forall_const]
  cases h2 : (n == n')
  · simp only [hv, hw, hE, sc, ce, sc', ce', n1, n2, h1, h2, ↓evD, evU, evL, Nat.reduceAdd, Nat.reduceSub, Nat.reduceMul, Nat.reduceLeDiff, Nat.reduceLT, Nat.reduceEqDiff, Nat.reduceBEq, reduceIte, reduceCtorEq, Int.reduceBEq, Int.reduceEq, Int.reduceLT, Int.reduceLE, Int.reduceGT, Int.reduceGE, Int.reduceAdd, Int.reduceSub, Int.reduceNeg, Int.reduceBNe, ite_true, ite_false, if_true, if_false, implies_true, forall_const]
  cases h3 : (s == s')
  · simp only [hv, hw, hE, sc, ce, sc', ce', n1, n2, h1, h2, h3, ↓evD, evU, evL, Nat.reduceAdd, Nat.reduceSub, Nat.reduceMul, Nat.reduceLeDiff, Nat.reduceLT, Nat.reduceEqDiff, Nat.reduceBEq, reduceIte, reduceCtorEq, Int.reduceBEq, Int.reduceEq, Int.reduceLT, Int.reduceLE, Int.reduceGT, Int.reduceGE, Int.reduceAdd, Int.reduceSub, Int.reduceNeg, Int.reduceBNe, ite_true, ite_false, if_true, if_false, implies_true, forall_const]
  cases h4 : (bxL b == bxL b')
  · simp only [hv, hw, hE, sc, ce, sc', ce', n1, n2, h1, h2, h3, h4, ↓evD, evU, evL, Nat.reduceAdd, Nat.reduceSub, Nat.reduceMul, Nat.reduceLeDiff, Nat.reduceLT, Nat.reduceEqDiff, Nat.reduceBEq, reduceIte, reduceCtorEq, Int.reduceBEq, Int.reduceEq, Int.reduceLT, Int.reduceLE, Int.reduceGT, Int.reduceGE, Int.reduceAdd, Int.reduceSub, Int.reduceNeg, Int.reduceBNe, ite_true, ite_false, if_true, if_false, implies_true, forall_const]
  cases h5 : (o == o')
  · simp only [hv, hw, hE, sc, ce, sc', ce', n1, n2, h1, h2, h3, h4, h5, ↓evD, evU, evL, Nat.reduceAdd, Nat.reduceSub, Nat.reduceMul, Nat.reduceLeDiff, Nat.reduceLT, Nat.reduceEqDiff, Nat.reduceBEq, reduceIte, reduceCtorEq, Int.reduceBEq, Int.reduceEq, Int.reduceLT, Int.reduceLE, Int.reduceGT, Int.reduceGE, Int.reduceAdd, Int.reduceSub, Int.reduceNeg, Int.reduceBNe, ite_true, ite_false, if_true, if_false, implies_true, forall_const]
  cases h6 : (i == i') <;> simp only [hv, hw, hE, sc, ce, sc', ce', n1, n2, h1, h2, h3, h4, h5, h6, ↓evD, evU, evL, Nat.reduceAdd, Nat.reduceSub, Nat.reduceMul, Nat.reduceLeDiff, Nat.reduceLT, Nat.reduceEqDiff, Nat.reduceBEq, reduceIte, reduceCtorEq, Int.reduceBEq, Int.reduceEq, Int.reduceLT, Int.reduceLE, Int.reduceGT, Int.reduceGE, Int.reduceAdd, Int.reduceSub, Int.reduceNeg, Int.reduceBNe, ite_true, ite_false, if_true, if_false, implies_true, forall_const]
theorem clW_small {x : Vl} (h : smallV x) : smallV (clW x) := by
  cases x <;> first | trivial | (show (bxL (clX _)).length ≤ _; rw [bxL_clX]; exact h)
theorem sameI_cl (x y : Vl) : sameI (viV (clW x)) (viV (clW y)) = sameI (viV x) (viV y) := by
  cases x <;> cases y <;> simp only [clW, viV, sameI, bxL_clX]
theorem same_val {base : Nat} {h : Hp} (x y : Vl) (hx : smallV x) (hy : smallV y) : CallA T base 24 [eV x, eV y] h = some (.bool (sameI (viV x) (viV y)), h) := by
  rw [← sameI_cl]
  refine same_of _ _ (fun base h => ?_) fun base h => ?_
  · rw [← valV_eA]; exact val_spec x hx
  · rw [← valV_eA]; exact val_spec y hy
/-- What a rule bounds of a value. -/
noncomputable def sizV : Vl → Int × Bool
  | .text s => ((s.length : Int), true)
  | .bytes b => (((bxL b).length : Int), true)
  | .bool _ => (0, false)
  | x => numV x
theorem size_spec {base : Nat} {h : Hp} (x : Vl) : CallA T base 40 [eV x] h = some (.tup [i64 (sizV x).1, .bool (sizV x).2], h) := by
  rw [S40]
  have hN := fun x => number_spec (base := size h) (h := h) x
  cases x with
  | bytes b => simp only [eV, sizV, (bxV b).len, ↓evD, evU, evL, Nat.reduceAdd, Nat.reduceSub, Nat.reduceMul, Nat.reduceLeDiff, Nat.reduceLT, Nat.reduceEqDiff, Nat.reduceBEq, reduceIte, reduceCtorEq, Int.reduceBEq, Int.reduceEq, Int.reduceLT, Int.reduceLE, Int.reduceGT, Int.reduceGE, Int.reduceAdd, Int.reduceSub, Int.reduceNeg, Int.reduceBNe, ite_true, ite_false, if_true, if_false, implies_true, forall_const]
  | nil => have := hN .nil; simp only [eV, numV] at this; simp only [eV, sizV, numV, this, ↓evD, evU, evL, Nat.reduceAdd, Nat.reduceSub, Nat.reduceMul, Nat.reduceLeDiff, Nat.reduceLT, Nat.reduceEqDiff, Nat.reduceBEq, reduceIte, reduceCtorEq, Int.reduceBEq, Int.reduceEq, Int.reduceLT, Int.reduceLE, Int.reduceGT, Int.reduceGE, Int.reduceAdd, Int.reduceSub, Int.reduceNeg, Int.reduceBNe, ite_true, ite_false, if_true, if_false, implies_true, forall_const]
  | int n => have := hN (.int n); simp only [eV, numV] at this; simp only [eV, sizV, numV, this, ↓evD, evU, evL, Nat.reduceAdd, Nat.reduceSub, Nat.reduceMul, Nat.reduceLeDiff, Nat.reduceLT, Nat.reduceEqDiff, Nat.reduceBEq, reduceIte, reduceCtorEq, Int.reduceBEq, Int.reduceEq, Int.reduceLT, Int.reduceLE, Int.reduceGT, Int.reduceGE, Int.reduceAdd, Int.reduceSub, Int.reduceNeg, Int.reduceBNe, ite_true, ite_false, if_true, if_false, implies_true, forall_const]
  | time n => have := hN (.time n); simp only [eV, numV] at this; simp only [eV, sizV, numV, this, ↓evD, evU, evL, Nat.reduceAdd, Nat.reduceSub, Nat.reduceMul, Nat.reduceLeDiff, Nat.reduceLT, Nat.reduceEqDiff, Nat.reduceBEq, reduceIte, reduceCtorEq, Int.reduceBEq, Int.reduceEq, Int.reduceLT, Int.reduceLE, Int.reduceGT, Int.reduceGE, Int.reduceAdd, Int.reduceSub, Int.reduceNeg, Int.reduceBNe, ite_true, ite_false, if_true, if_false, implies_true, forall_const]
  | link o i => have := hN (.link o i); simp only [eV, numV] at this; simp only [eV, sizV, numV, this, ↓evD, evU, evL, Nat.reduceAdd, Nat.reduceSub, Nat.reduceMul, Nat.reduceLeDiff, Nat.reduceLT, Nat.reduceEqDiff, Nat.reduceBEq, reduceIte, reduceCtorEq, Int.reduceBEq, Int.reduceEq, Int.reduceLT, Int.reduceLE, Int.reduceGT, Int.reduceGE, Int.reduceAdd, Int.reduceSub, Int.reduceNeg, Int.reduceBNe, ite_true, ite_false, if_true, if_false, implies_true, forall_const]
  | _ => simp only [eV, sizV, numV, ↓evD, evU, evL, Nat.reduceAdd, Nat.reduceSub, Nat.reduceMul, Nat.reduceLeDiff, Nat.reduceLT, Nat.reduceEqDiff, Nat.reduceBEq, reduceIte, reduceCtorEq, Int.reduceBEq, Int.reduceEq, Int.reduceLT, Int.reduceLE, Int.reduceGT, Int.reduceGE, Int.reduceAdd, Int.reduceSub, Int.reduceNeg, Int.reduceBNe, ite_true, ite_false, if_true, if_false, implies_true, forall_const]
end Go.Am.YtppkffebmoffnaaDoor
namespace Go.Am
set_option linter.unusedVariables false

def rowV (P : Program) (e : TypeId) (r : List PV) : PV :=
  match P.underlying e with
  | some (.struct _) => .agg r
  | _ => r.headD .undef

/-- The cells of a value of a type made of bools, whole numbers, texts, structs and slices of such. -/
inductive Sh (P : Program) : TypeId → List PV → Prop where
  | bool {t} (b : Bool) (ht : P.underlying t = some .bool) : Sh P t [.bool b]
  | int {t} (k : IntKind) (n : Int) (ht : P.underlying t = some (.int k)) (hn : (Lit.int k n).wf = true) : Sh P t [.int k n]
  | str {t} (l : List UInt8) (ht : P.underlying t = some .string) (hl : l.length ≤ reachBytes) : Sh P t [.str l]
  | nils {t e} (ht : P.underlying t = some (.slice e)) : Sh P t [.nils]
  | sl {t e} (rows : List (List PV)) (ht : P.underlying t = some (.slice e)) (hr : ∀ r ∈ rows, Sh P e r) (hl : ∀ r ∈ rows, r.length = P.cellsOf e) (hn : rows.length ≤ maxLen) (hb : rows.length * P.bytesOf e ≤ reachBytes) : Sh P t [.sl .no (P.cellsOf e) (rows.map (rowV P e))]
  | struct {t} (fs : Array Field) (cs : List PV) (ht : P.underlying t = some (.struct fs)) (hn : cs.length = P.cellsOf t)
      (hf : ∀ (i : Nat) (f : Field), fs[i]? = some f → Sh P f.type ((cs.drop f.offset).take (P.cellsOf f.type))) : Sh P t cs

theorem Sh.row {P : Program} {e : TypeId} {r : List PV} (h : Sh P e r) : (rowV P e r).cells = r := by
  cases h with
  | bool b ht => simp [rowV, ht, PV.cells]
  | int k n ht => simp [rowV, ht, PV.cells]
  | str l ht => simp [rowV, ht, PV.cells]
  | nils ht => simp [rowV, ht, PV.cells]
  | sl rows ht => simp [rowV, ht, PV.cells]
  | struct fs cs ht => simp [rowV, ht, PV.cells]

/-- Do a struct's fields lie one behind the other? -/
def tiles (P : Program) : Nat → List Field → Nat → Bool
  | off, [], tot => off == tot
  | off, f :: r, tot => f.offset == off && tiles P (off + P.cellsOf f.type) r tot
theorem tiles_le {P : Program} : ∀ (fl : List Field) (off tot : Nat), tiles P off fl tot = true → off ≤ tot
  | [], off, tot, h => by simp [tiles] at h; omega
  | f :: r, off, tot, h => by
    simp only [tiles, Bool.and_eq_true] at h
    have := tiles_le r _ _ h.2
    omega
/-- Is a type made of these alone? -/
def plainT (P : Program) : Nat → TypeId → Bool
  | 0, _ => false
  | n + 1, t => match P.underlying t with
    | some .bool | some (.int _) | some .string => true
    | some (.slice e) => decide (0 < P.cellsOf e) && plainT P n e
    | some (.struct fs) => tiles P 0 fs.toList (P.cellsOf t) && fs.toList.all fun f => plainT P n f.type
    | _ => false

theorem exists_rows {α : Type} (Q : Nat → α → Prop) : ∀ n, (∀ i, i < n → ∃ r, Q i r) → ∃ rows : List α, rows.length = n ∧ ∀ (i : Nat) r, rows[i]? = some r → Q i r
  | 0, _ => ⟨[], rfl, fun i r h => by simp at h⟩
  | n + 1, h => by
    obtain ⟨rows, h1, h2⟩ := exists_rows Q n (fun i hi => h i (by omega))
    obtain ⟨r, hr⟩ := h n (by omega)
    refine ⟨rows ++ [r], by simp [h1], fun i r' hi => ?_⟩
    by_cases hin : i < n
    · rw [List.getElem?_append_left (by omega)] at hi; exact h2 i r' hi
    · have hlt := (List.getElem?_eq_some_iff.1 hi).1
      simp at hlt
      have : i = n := by omega
      subst this
      rw [List.getElem?_append_right (by omega), h1] at hi
      simp at hi
      subst hi
      exact hr

theorem cell_spot {w : World} {b o : Nat} {sp : Option Nat} {u : Value} (h : w.cell? ⟨b, o, sp⟩ = some u) : sp = none := by
  unfold World.cell? at h
  split at h
  · rename_i c _ _ hq
    cases sp with
    | none => rfl
    | some s => simp at h
  · cases h

theorem weights_all {H : Type} {P : Program} {e : TypeId} : ∀ {l : List (DataW H)} {d : DataW H}, d ∈ l → ∀ n ∈ d.weights P e, n ∈ DataW.weightsAll P e l
  | d0 :: l, d, hd, n, hn => by
    simp only [DataW.weightsAll, List.mem_append]
    simp only [List.mem_cons] at hd
    rcases hd with rfl | hd
    · exact .inl hn
    · exact .inr (weights_all hd n hn)
theorem open_fields {P : Program} {cs : List Value} {R : PV → Value → Prop} : ∀ (fl : List Field) (off : Nat), tiles P off fl cs.length = true →
    (∀ f ∈ fl, ∃ v : List PV, v.length = ((cs.drop f.offset).take (P.cellsOf f.type)).length ∧ (∀ (j : Nat) x, v[j]? = some x → ∃ u, ((cs.drop f.offset).take (P.cellsOf f.type))[j]? = some u ∧ R x u) ∧ Sh P f.type v) →
    ∃ vs : List PV, off + vs.length = cs.length ∧ (∀ (j : Nat) x, vs[j]? = some x → ∃ u, cs[off + j]? = some u ∧ R x u) ∧ ∀ f ∈ fl, off ≤ f.offset ∧ Sh P f.type ((vs.drop (f.offset - off)).take (P.cellsOf f.type))
  | [], off, ht, h => by
    simp [tiles] at ht
    exact ⟨[], by simp [ht], fun j x hx => by simp at hx, fun f hf => by simp at hf⟩
  | f :: fl, off, ht, h => by
    simp only [tiles, Bool.and_eq_true, beq_iff_eq] at ht
    obtain ⟨rfl, ht⟩ := ht
    have hle := tiles_le _ _ _ ht
    obtain ⟨v, h1, h2, h3⟩ := h f (by simp)
    have hv : v.length = P.cellsOf f.type := by rw [h1]; simp; omega
    obtain ⟨vs, q1, q2, q3⟩ := open_fields fl _ ht (fun f' hf' => h f' (by simp [hf']))
    refine ⟨v ++ vs, by simp; omega, fun j x hx => ?_, fun f' hf' => ?_⟩
    · by_cases hj : j < v.length
      · rw [List.getElem?_append_left hj] at hx
        obtain ⟨u, hu, hr⟩ := h2 j x hx
        refine ⟨u, ?_, hr⟩
        rw [List.getElem?_take, if_pos (by omega), List.getElem?_drop] at hu
        exact hu
      · rw [List.getElem?_append_right (by omega)] at hx
        obtain ⟨u, hu, hr⟩ := q2 _ x hx
        refine ⟨u, ?_, hr⟩
        rw [← hu]; congr 1; omega
    · simp only [List.mem_cons] at hf'
      rcases hf' with rfl | hf'
      · refine ⟨Nat.le_refl _, ?_⟩
        rw [Nat.sub_self, List.drop_zero, List.take_append_of_le_length (by omega), ← hv, List.take_length]
        exact h3
      · obtain ⟨r1, r2⟩ := q3 f' hf'
        refine ⟨by omega, ?_⟩
        rw [List.drop_append, List.drop_eq_nil_of_le (by omega), List.nil_append, show f'.offset - f.offset - v.length = f'.offset - (f.offset + P.cellsOf f.type) by omega]
        exact r2

theorem open_cells {H : Type} {enc : TypeId × Value → H} {P : Program} {w : World} {spare : Nat → Bool} {held : Bool} {g : G} : ∀ (n m : Nat) (t : TypeId) (cs : List Value) (x : DataW H × List MemPlace),
    DataW.trod enc P w 0 spare held n t cs = some x → plainT P m t = true → (∀ k ∈ x.1.weights P t, k ≤ reachBytes) →
    ∃ vs : List PV, vs.length = cs.length ∧ (∀ (j : Nat) v, vs[j]? = some v → ∃ u, cs[j]? = some u ∧ RV w.heap.size g w v u) ∧ Sh P t vs
  | 0, m, t, cs, x, h, hp, hwt => by simp [DataW.trod] at h
  | n + 1, 0, t, cs, x, h, hp, hwt => by simp [plainT] at hp
  | n + 1, m + 1, t, cs, x, h, hp, hwt => by
    rw [plainT] at hp
    split at hp
    · rename_i ht
      obtain ⟨b, rfl, _⟩ := DataW.trod_bool ht h
      refine ⟨[.bool b], rfl, fun j v hv => ?_, .bool b ht⟩
      cases j with
      | zero => simp at hv; subst hv; exact ⟨_, rfl, .bool b⟩
      | succ j => simp at hv
    · rename_i k ht
      obtain ⟨z, rfl, _, hwf⟩ := DataW.trod_int ht h
      refine ⟨[.int k z], rfl, fun j v hv => ?_, .int k z ht hwf⟩
      cases j with
      | zero => simp at hv; subst hv; exact ⟨_, rfl, .int k z⟩
      | succ j => simp at hv
    · rename_i ht
      obtain ⟨s, rfl, rfl, hs⟩ := DataW.trod_string ht h
      refine ⟨[.str s.data.toList], rfl, fun j v hv => ?_, .str _ ht (hwt _ (by simp [DataW.weights]))⟩
      cases j with
      | zero => simp at hv; subst hv; exact ⟨_, rfl, .str _ s rfl⟩
      | succ j => simp at hv
    · rename_i e ht
      simp only [Bool.and_eq_true, decide_eq_true_eq] at hp
      rcases DataW.trod_slice ht h with ⟨rfl, _⟩ | ⟨a, len, cap, elems, rest, n', hn', rfl, rfl, _, hlc, hcm, hel, helems, _, _⟩
      · refine ⟨[.nils], rfl, fun j v hv => ?_, .nils ht⟩
        cases j with
        | zero => simp at hv; subst hv; exact ⟨_, rfl, .nils⟩
        | succ j => simp at hv
      · obtain rfl : n' = n := by omega
        have hq : ∀ i, i < len → ∃ r : List PV, r.length = P.cellsOf e ∧ Sh P e r ∧ ∀ (j : Nat) v, r[j]? = some v → ∃ u, w.cell? ((a.add (i * P.cellsOf e)).add j) = some u ∧ RV w.heap.size g w v u := by
          intro i hi
          have hlt : i < elems.length := by omega
          have hei := helems i hi
          rw [List.getElem?_eq_getElem hlt, Option.bind_eq_some_iff] at hei
          obtain ⟨ci, hci, hti⟩ := hei
          obtain ⟨_, hlen, hcell⟩ := World.cells?_some hci
          obtain ⟨r, h1, h2, h3⟩ := open_cells n' m e ci _ hti hp.2 (fun k hk => hwt k (by
            simp only [DataW.weights, ht, List.mem_cons, List.mem_append]
            exact .inr (.inl (weights_all (List.mem_map.2 ⟨_, List.getElem_mem hlt, rfl⟩) k hk))))
          refine ⟨r, by rw [h1, hlen], h3, fun j v hv => ?_⟩
          obtain ⟨u, hu, hr⟩ := h2 j v hv
          have hj : j < P.cellsOf e := by rw [← hlen, ← h1]; exact (List.getElem?_eq_some_iff.1 hv).1
          exact ⟨u, by rw [hcell j hj]; exact hu, hr⟩
        obtain ⟨rows, hrl, hrq⟩ := exists_rows _ len hq
        have hmem : ∀ r ∈ rows, ∃ i, rows[i]? = some r := fun r hr => List.mem_iff_getElem?.1 hr
        have hcl : ∀ (i j : Nat) (r : List PV) (v : PV), rows[i]? = some r → r[j]? = some v → ∃ u, w.cell? ⟨a.block, a.off + (i * P.cellsOf e + j), none⟩ = some u ∧ RV w.heap.size g w v u := by
          intro i j r v hi hj
          obtain ⟨u, hu, hr⟩ := (hrq i r hi).2.2 j v hj
          refine ⟨u, ?_, hr⟩
          have hsp : (a.add (i * P.cellsOf e)).add j = ⟨a.block, a.off + (i * P.cellsOf e + j), ((a.add (i * P.cellsOf e)).add j).spot⟩ := by
            unfold Addr.add
            split <;> split <;> simp_all <;> omega
          rw [hsp] at hu
          have := cell_spot hu
          rw [this] at hu
          exact hu
        have hspot : rows ≠ [] → a.spot = none := by
          intro hne
          obtain ⟨r, hr0⟩ : ∃ r, rows[0]? = some r := by
            cases rows with
            | nil => exact (hne rfl).elim
            | cons r _ => exact ⟨r, rfl⟩
          obtain ⟨q1, _, q3⟩ := hrq 0 r hr0
          obtain ⟨v, hv⟩ : ∃ v, r[0]? = some v := ⟨_, List.getElem?_eq_getElem (by omega)⟩
          obtain ⟨u, hu, _⟩ := q3 0 v hv
          simp only [Nat.zero_mul, Addr.add, if_true] at hu
          exact cell_spot (b := a.block) (o := a.off) hu
        refine ⟨[.sl .no (P.cellsOf e) (rows.map (rowV P e))], rfl, fun j v hv => ?_, .sl rows ht (fun r hr => ?_) (fun r hr => ?_) (by omega) ?_⟩
        · cases j with
          | succ j => simp at hv
          | zero =>
            simp at hv
            subst hv
            refine ⟨_, rfl, ?_⟩
            have hrow : ∀ (i : Nat) (z : PV), (rows.map (rowV P e))[i]? = some z → ∃ r, rows[i]? = some r ∧ z.cells = r := by
              intro i z hz
              rw [List.getElem?_map, Option.map_eq_some_iff] at hz
              obtain ⟨r, hr, rfl⟩ := hz
              exact ⟨r, hr, (hrq i r hr).2.1.row⟩
            have := RV.sl (N0 := w.heap.size) (g := g) (w := w) .no (P.cellsOf e) (rows.map (rowV P e)) a.block a.off cap (fun i j => (w.cell? ⟨a.block, a.off + (i * P.cellsOf e + j), none⟩).getD Go.undef)
              (by simp; omega) (by simp) ?_ ?_ ?_ ?_ a.spot (fun hne => hspot (by simpa using hne)) (by simp)
            · simpa [hrl] using this
            · intro i z hz
              obtain ⟨r, hr, hc⟩ := hrow i z hz
              rw [hc]; exact (hrq i r hr).1
            · intro i j hi hj
              simp at hi
              obtain ⟨r, hr⟩ : ∃ r, rows[i]? = some r := ⟨_, List.getElem?_eq_getElem hi⟩
              obtain ⟨v, hv⟩ : ∃ v, r[j]? = some v := ⟨_, List.getElem?_eq_getElem (by rw [(hrq i r hr).1]; exact hj)⟩
              obtain ⟨u, hu, _⟩ := hcl i j r v hr hv
              rw [hu]; rfl
            · intro i j z y hz hy
              obtain ⟨r, hr, hc⟩ := hrow i z hz
              rw [hc] at hy
              obtain ⟨u, hu, hru⟩ := hcl i j r y hr hy
              rw [hu]; exact hru
            · intro hne
              refine .inl ?_
              obtain ⟨r, hr0⟩ : ∃ r, rows[0]? = some r := by
                cases rows with
                | nil => exact (hne rfl).elim
                | cons r _ => exact ⟨r, rfl⟩
              obtain ⟨v, hv⟩ : ∃ v, r[0]? = some v := ⟨_, List.getElem?_eq_getElem (by rw [(hrq 0 r hr0).1]; exact hp.1)⟩
              obtain ⟨u, hu, _⟩ := hcl 0 0 r v hr0 hv
              exact World.block_lt_of_cell? w ⟨a.block, _, none⟩ hu
        · obtain ⟨i, hi⟩ := hmem r hr; exact (hrq i r hi).2.1
        · obtain ⟨i, hi⟩ := hmem r hr; exact (hrq i r hi).1
        · have := hwt _ (by simp only [DataW.weights, ht]; exact List.mem_cons_self)
          simp only [List.length_map] at this
          refine Nat.le_trans (Nat.mul_le_mul_right _ ?_) this
          omega
    · rename_i fs ht
      simp only [Bool.and_eq_true, List.all_eq_true] at hp
      obtain ⟨xs, n', hn', rfl, hlen, hxl, hx⟩ := DataW.trod_struct ht h
      obtain rfl : n' = n := by omega
      obtain ⟨vs, q1, q2, q3⟩ := open_fields (P := P) (cs := cs) (R := fun v u => RV w.heap.size g w v u) fs.toList 0 (by rw [hlen]; exact hp.1) (fun f hf => by
        obtain ⟨i, hi⟩ := List.mem_iff_getElem?.1 hf
        have hi' : fs[i]? = some f := by simpa using hi
        have hlt : i < xs.length := by rw [hxl]; exact (Array.getElem?_eq_some_iff.1 hi').1
        have := hx i f hi'
        rw [List.getElem?_eq_getElem hlt] at this
        exact open_cells n' m f.type _ _ this (hp.2 f hf) fun k hk => hwt k (by
          simp only [DataW.weights, ht]
          exact DataW.weights_mem_each (j := i) (t := f.type) (d := xs[i].1) (by rw [List.getElem?_map, hi]; rfl) (by rw [List.getElem?_map, List.getElem?_eq_getElem hlt]; rfl) k hk))
      refine ⟨vs, by omega, fun j v hv => by simpa using q2 j v hv, .struct fs vs ht (by omega) fun i f hf => ?_⟩
      have := (q3 f (List.mem_iff_getElem?.2 ⟨i, by simpa using hf⟩)).2
      simpa using this
    · cases hp

/-- An argument of one cell. -/
theorem open_arg {H : Type} {enc : TypeId × Value → H} {P : Program} {w : World} {spare : Nat → Bool} {held : Bool} {g : G} {t : TypeId} {v : Value} {d : DataW H} {ps : List MemPlace}
    (h : DataW.Trod enc P w 0 spare held t v d ps) (hv : v.cells.toList = [v]) (m : Nat) (hp : plainT P m t = true) (hwt : ∀ k ∈ d.weights P t, k ≤ reachBytes) : ∃ x, RV w.heap.size g w x v ∧ Sh P t [x] := by
  obtain ⟨fuel, h⟩ := h
  obtain ⟨vs, h1, h2, h3⟩ := open_cells (g := g) fuel m t _ _ h hp hwt
  rw [hv] at h1 h2
  cases vs with
  | nil => simp at h1
  | cons x r =>
    cases r with
    | cons y r => simp at h1
    | nil =>
      obtain ⟨u, hu, hr⟩ := h2 0 x rfl
      simp at hu
      subst hu
      exact ⟨x, hr, h3⟩

section
variable {P : Program} {t : TypeId} {cs : List PV}
theorem Sh.inv_bool (ht : P.underlying t = some .bool) (h : Sh P t cs) : ∃ b, cs = [.bool b] := by
  cases h with
  | bool b => exact ⟨b, rfl⟩
  | int k n h => rw [ht] at h; cases h
  | str l h => rw [ht] at h; cases h
  | nils h => rw [ht] at h; cases h
  | sl rows h => rw [ht] at h; cases h
  | struct fs cs h => rw [ht] at h; cases h
theorem Sh.inv_int {k : IntKind} (ht : P.underlying t = some (.int k)) (h : Sh P t cs) : ∃ n, cs = [.int k n] ∧ (Lit.int k n).wf = true := by
  cases h with
  | bool b h => rw [ht] at h; cases h
  | int k' n h hn => rw [ht] at h; cases h; exact ⟨n, rfl, hn⟩
  | str l h => rw [ht] at h; cases h
  | nils h => rw [ht] at h; cases h
  | sl rows h => rw [ht] at h; cases h
  | struct fs cs h => rw [ht] at h; cases h
theorem Sh.inv_str (ht : P.underlying t = some .string) (h : Sh P t cs) : ∃ l, cs = [.str l] ∧ l.length ≤ reachBytes := by
  cases h with
  | bool b h => rw [ht] at h; cases h
  | int k n h => rw [ht] at h; cases h
  | str l h hl => exact ⟨l, rfl, hl⟩
  | nils h => rw [ht] at h; cases h
  | sl rows h => rw [ht] at h; cases h
  | struct fs cs h => rw [ht] at h; cases h
theorem Sh.inv_slice {e : TypeId} (ht : P.underlying t = some (.slice e)) (h : Sh P t cs) :
    cs = [.nils] ∨ ∃ rows : List (List PV), cs = [.sl .no (P.cellsOf e) (rows.map (rowV P e))] ∧ (∀ r ∈ rows, Sh P e r ∧ r.length = P.cellsOf e) ∧ rows.length ≤ maxLen ∧ rows.length * P.bytesOf e ≤ reachBytes := by
  cases h with
  | bool b h => rw [ht] at h; cases h
  | int k n h => rw [ht] at h; cases h
  | str l h => rw [ht] at h; cases h
  | nils h => exact .inl rfl
  | sl rows h hr hl hn hb => rw [ht] at h; cases h; exact .inr ⟨rows, rfl, fun r hm => ⟨hr r hm, hl r hm⟩, hn, hb⟩
  | struct fs cs h => rw [ht] at h; cases h
theorem Sh.inv_struct {fs : Array Field} (ht : P.underlying t = some (.struct fs)) (h : Sh P t cs) :
    cs.length = P.cellsOf t ∧ ∀ (i : Nat) (f : Field), fs[i]? = some f → Sh P f.type ((cs.drop f.offset).take (P.cellsOf f.type)) := by
  cases h with
  | bool b h => rw [ht] at h; cases h
  | int k n h => rw [ht] at h; cases h
  | str l h => rw [ht] at h; cases h
  | nils h => rw [ht] at h; cases h
  | sl rows h => rw [ht] at h; cases h
  | struct fs' cs h hn hf => rw [ht] at h; cases h; exact ⟨hn, hf⟩
theorem rowV_struct {fs : Array Field} (ht : P.underlying t = some (.struct fs)) (r : List PV) : rowV P t r = .agg r := by simp [rowV, ht]
theorem rowV_str (ht : P.underlying t = some .string) (r : List PV) : rowV P t r = r.headD .undef := by simp [rowV, ht]
theorem rowV_int {k : IntKind} (ht : P.underlying t = some (.int k)) (r : List PV) : rowV P t r = r.headD .undef := by simp [rowV, ht]
/-- All of a list come of values: the values. -/
theorem exists_map {α β : Type} (f : α → β) (Q : α → Prop) : ∀ l : List β, (∀ x ∈ l, ∃ a, x = f a ∧ Q a) → ∃ qs : List α, l = qs.map f ∧ ∀ a ∈ qs, Q a
  | [], _ => ⟨[], rfl, fun a h => by simp at h⟩
  | x :: l, h => by
    obtain ⟨qs, rfl, h2⟩ := exists_map f Q l (fun y hy => h y (by simp [hy]))
    obtain ⟨a, rfl, ha⟩ := h x (by simp)
    exact ⟨a :: qs, rfl, fun b hb => by
      simp at hb
      rcases hb with rfl | hb
      · exact ha
      · exact h2 b hb⟩
end
end Go.Am
namespace Go.Am
set_option linter.unusedVariables false
theorem open_struct {H : Type} {enc : TypeId × Value → H} {P : Program} {w : World} {spare : Nat → Bool} {held : Bool} {g : G} {t : TypeId} {u : Array Value} {d : DataW H} {ps : List MemPlace}
    (h : DataW.Trod enc P w 0 spare held t (.agg u) d ps) (m : Nat) (hp : plainT P m t = true) (hwt : ∀ k ∈ d.weights P t, k ≤ reachBytes) : ∃ x, RV w.heap.size g w (.agg x) (.agg u) ∧ Sh P t x := by
  obtain ⟨fuel, h⟩ := h
  obtain ⟨vs, h1, h2, h3⟩ := open_cells (g := g) fuel m t _ _ h hp hwt
  have hu : (Value.agg u).cells.toList = u.toList := rfl
  rw [hu] at h1 h2
  refine ⟨vs, .agg vs u (by simpa using h1.symm) fun j x hx => ?_, h3⟩
  obtain ⟨y, hy, hr⟩ := h2 j x hx
  have : u.getD j Go.undef = y := by
    rw [Array.getElem?_toList] at hy
    simp [Array.getD_eq_getD_getElem?, hy]
  rw [this]; exact hr
/-- Bytes. -/
theorem Sh.bytes {P : Program} {t e : TypeId} {x : PV} (ht : P.underlying t = some (.slice e)) (he : P.underlying e = some (.int .u8)) (hc : P.cellsOf e = 1) (h : Sh P t [x]) : ∃ l, Bv x l ∧ l.length ≤ maxLen := by
  rcases h.inv_slice ht with hq | ⟨rows, hq, hr, hn, hb⟩
  · cases hq; exact ⟨[], .nils, by simp⟩
  · cases hq
    obtain ⟨l, hl⟩ : ∃ l : List UInt8, rows.map (rowV P e) = u8s l ∧ l.length = rows.length := by
      clear hn hb h
      induction rows with
      | nil => exact ⟨[], rfl, rfl⟩
      | cons r rows ih =>
        obtain ⟨l, hl, hl2⟩ := ih fun q hq => hr q (List.mem_cons_of_mem _ hq)
        obtain ⟨n, rfl, hw⟩ := (hr r (List.mem_cons_self ..)).1.inv_int he
        have hm : IntKind.u8.min = 0 := rfl
        have hM : IntKind.u8.max = 255 := rfl
        simp only [Lit.wf, hm, hM, Bool.and_eq_true, decide_eq_true_eq] at hw
        refine ⟨UInt8.ofNat n.toNat :: l, ?_, by simp [hl2]⟩
        rw [List.map_cons, hl, rowV_int he]
        show _ :: _ = PV.int .u8 ((UInt8.ofNat n.toNat).toNat : Int) :: u8s l
        have hv : ((UInt8.ofNat n.toNat).toNat : Int) = n := by rw [UInt8.toNat_ofNat']; omega
        rw [hv]; rfl
    rw [hc, hl.1]
    exact ⟨l, .no l, by rw [hl.2]; exact hn⟩
theorem len1_of {α : Type} : ∀ {l : List α}, l.length = 1 → ∃ a, l = [a]
  | [a], _ => ⟨a, rfl⟩
theorem len2_of {α : Type} : ∀ {l : List α}, l.length = 2 → ∃ a b, l = [a, b]
  | [a, b], _ => ⟨a, b, rfl⟩
theorem len3_of {α : Type} : ∀ {l : List α}, l.length = 3 → ∃ a b c, l = [a, b, c]
  | [a, b, c], _ => ⟨a, b, c, rfl⟩
theorem len4_of {α : Type} : ∀ {l : List α}, l.length = 4 → ∃ a b c d, l = [a, b, c, d]
  | [a, b, c, d], _ => ⟨a, b, c, d, rfl⟩
theorem len5_of {α : Type} : ∀ {l : List α}, l.length = 5 → ∃ a b c d e, l = [a, b, c, d, e]
  | [a, b, c, d, e], _ => ⟨a, b, c, d, e, rfl⟩
theorem len6_of {α : Type} : ∀ {l : List α}, l.length = 6 → ∃ a b c d e f, l = [a, b, c, d, e, f]
  | [a, b, c, d, e, f], _ => ⟨a, b, c, d, e, f, rfl⟩
end Go.Am
namespace Go.Am.YtppkffebmoffnaaDoor
open Go.RowKit (Below)
open Go.Proofs
theorem gl_ok (N0 : Nat) (w0 : World) : GlobOk gl N0 w0 := fun n cs h => by simp [gl, glob] at h
theorem in64_lit {n : Int} (h : (Lit.int IntKind.i64 n).wf = true) : in64 n := by
  have h1 : IntKind.i64.min = -9223372036854775808 := rfl
  have h2 : IntKind.i64.max = 9223372036854775807 := rfl
  unfold in64
  simp [Lit.wf, h1, h2] at h
  omega
theorem bytes_arg {x : PV} (h : Sh Tryd.prog 22 [x]) : ∃ l, Bv x l ∧ l.length ≤ maxLen := h.bytes Tryd.underlying22 Tryd.underlying5 (by kernel_rfl)
theorem val_arg {cs : List PV} (h : Sh Tryd.prog 24 cs) : ∃ (k n : Int) (s : List UInt8) (b : PV) (l : List UInt8) (o i : Int), cs = [i64 k, i64 n, .str s, b, i64 o, i64 i] ∧ in64 k ∧ in64 n ∧ s.length ≤ reachBytes ∧ Bv b l ∧ l.length ≤ maxLen ∧ in64 o ∧ in64 i := by
  obtain ⟨hl, hf⟩ := h.inv_struct Tryd.underlying24
  have c24 : Tryd.prog.cellsOf 24 = 6 := by kernel_rfl
  have c3 : Tryd.prog.cellsOf 3 = 1 := by kernel_rfl
  have c2 : Tryd.prog.cellsOf 2 = 1 := by kernel_rfl
  have c9 : Tryd.prog.cellsOf 9 = 1 := by kernel_rfl
  have c22 : Tryd.prog.cellsOf 22 = 1 := by kernel_rfl
  rw [c24] at hl
  obtain ⟨x0, x1, x2, x3, x4, x5, rfl⟩ := len6_of hl
  have f0 : Sh Tryd.prog 3 (([x0, x1, x2, x3, x4, x5].drop 0).take (Tryd.prog.cellsOf 3)) := hf 0 _ rfl
  have f1 : Sh Tryd.prog 2 (([x0, x1, x2, x3, x4, x5].drop 1).take (Tryd.prog.cellsOf 2)) := hf 1 _ rfl
  have f2 : Sh Tryd.prog 9 (([x0, x1, x2, x3, x4, x5].drop 2).take (Tryd.prog.cellsOf 9)) := hf 2 _ rfl
  have f3 : Sh Tryd.prog 22 (([x0, x1, x2, x3, x4, x5].drop 3).take (Tryd.prog.cellsOf 22)) := hf 3 _ rfl
  have f4 : Sh Tryd.prog 3 (([x0, x1, x2, x3, x4, x5].drop 4).take (Tryd.prog.cellsOf 3)) := hf 4 _ rfl
  have f5 : Sh Tryd.prog 3 (([x0, x1, x2, x3, x4, x5].drop 5).take (Tryd.prog.cellsOf 3)) := hf 5 _ rfl
  rw [c3] at f0 f4 f5
  rw [c2] at f1
  rw [c9] at f2
  rw [c22] at f3
  obtain ⟨k, e0, w0⟩ := Sh.inv_int Tryd.underlying3 f0
  obtain ⟨n, e1, w1⟩ := Sh.inv_int Tryd.underlying2 f1
  obtain ⟨s, e2, w2⟩ := Sh.inv_str Tryd.underlying9 f2
  obtain ⟨l, e3, w3⟩ := bytes_arg f3
  obtain ⟨o, e4, w4⟩ := Sh.inv_int Tryd.underlying3 f4
  obtain ⟨i, e5, w5⟩ := Sh.inv_int Tryd.underlying3 f5
  simp only [List.drop_succ_cons, List.drop_zero, List.take_succ_cons, List.take_zero] at e0 e1 e2 e4 e5
  cases e0; cases e1; cases e2; cases e4; cases e5
  exact ⟨k, n, s, x3, l, o, i, rfl, in64_lit w0, in64_lit w1, w2, e3, w3, in64_lit w4, in64_lit w5⟩
theorem vi_arg {cs : List PV} (h : Sh Tryd.prog 24 cs) : ∃ v : Vi, PV.agg cs = eA v ∧ in64 v.n ∧ in64 v.o ∧ in64 v.i := by
  obtain ⟨k, n, s, b, l, o, i, rfl, hk, hn, hs, hb, hl, ho, hi⟩ := val_arg h
  exact ⟨⟨k, n, s, ⟨b, l, hb⟩, o, i⟩, rfl, hn, ho, hi⟩
end Go.Am.YtppkffebmoffnaaDoor
namespace Go.Am.YtppkffebmoffnaaDoor
set_option maxRecDepth 100000
set_option linter.unusedSimpArgs false
set_option linter.unusedVariables false
theorem write_ok {k n : Int} {s : List UInt8} {L : Nat} {o i : Int} {r : Bool} {e : List UInt8} (h : (writeG k n s L o i r e).2 = 0) : (1 ≤ k ∧ k ≤ 6) ∧ rightG k n s L o i r = true := by
  unfold writeG at h
  split at h
  · exact absurd h (by decide)
  · rename_i hk
    split at h
    · exact absurd h (by decide)
    · rename_i hr
      exact ⟨by simpa using hk, by simpa using hr⟩
theorem extra_no {k n : Int} {s : List UInt8} {L : Nat} {o i : Int} {r : Bool} (h : rightG k n s L o i r = true) :
    (k = 1 ∨ k = 2 ∨ k = 5 ∨ n = 0) ∧ (k = 3 ∨ s = []) ∧ (k = 4 ∨ L = 0) ∧ (k = 6 ∨ (o = 0 ∧ i = 0)) := by
  unfold rightG at h
  rw [Bool.and_eq_true] at h
  obtain ⟨h1, _⟩ := h
  simp only [Bool.not_eq_true', extraG, onlyN, Bool.or_eq_false_iff, bne_eq_false_iff_eq] at h1
  obtain ⟨a1, a2, a3, a4, a5⟩ := h1
  refine ⟨?_, ?_, ?_, ?_⟩
  · by_cases hk : k = 1 ∨ k = 2 ∨ k = 5
    · omega
    · rw [if_neg hk] at a1; omega
  · by_cases hk : k = 3
    · exact .inl hk
    · rw [if_neg hk] at a2; exact .inr a2.symm
  · by_cases hk : k = 4
    · exact .inl hk
    · rw [if_neg hk] at a3; omega
  · by_cases hk : k = 6
    · exact .inl hk
    · rw [if_neg hk] at a4 a5; omega
/-- What a value is, whatever memory its bytes have. -/
noncomputable def nrm (v : Vi) : Int × Int × List UInt8 × List UInt8 × Int × Int := (v.k, v.n, v.s, bxL v.b, v.o, v.i)
noncomputable def sameN (a b : Int × Int × List UInt8 × List UInt8 × Int × Int) : Bool := a.1 == b.1 && (a.2.1 == b.2.1 && (a.2.2.1 == b.2.2.1 && (a.2.2.2.1 == b.2.2.2.1 && (a.2.2.2.2.1 == b.2.2.2.2.1 && a.2.2.2.2.2 == b.2.2.2.2.2))))
theorem sameI_nrm (v w : Vi) : sameI v w = sameN (nrm v) (nrm w) := rfl
theorem nil_b : bxL (⟨.nils, [], Bv.nils⟩ : Bx) = [] := bxL_of Bv.nils
/-- What is kept is what was handed in. -/
theorem of_nrm {v : Vi} (h : errV v = 0) : nrm (viV (ofV v)) = nrm v ∧ (1 ≤ v.k ∧ v.k ≤ 6) ∧ (v.k = 2 → v.n = 0 ∨ v.n = 1) := by
  obtain ⟨hk, hr⟩ := write_ok h
  obtain ⟨e1, e2, e3, e4⟩ := extra_no hr
  have hb2 : v.k = 2 → v.n = 0 ∨ v.n = 1 := by
    intro h2
    unfold rightG at hr
    rw [h2, Bool.and_eq_true] at hr
    have := hr.2
    simp at this
    exact this
  refine ⟨?_, hk, hb2⟩
  obtain ⟨k, n, s, b, o, i⟩ := v
  simp only at hk e1 e2 e3 e4 hb2
  unfold ofV nrm
  simp only
  have l0 : k ≠ 4 → bxL b = [] := fun q => List.length_eq_zero_iff.1 (by omega)
  have s0 : k ≠ 3 → s = [] := fun q => by rcases e2 with q' | q'; exact (q q').elim; exact q'
  by_cases h2 : k = 2
  · subst h2
    rw [if_pos rfl, l0 (by decide), s0 (by decide)]
    have : tru (n == 1) = n := by rcases hb2 rfl with rfl | rfl <;> rfl
    simp only [viV, nil_b, this]
    have := e4; simp at this; rw [this.1, this.2]
  by_cases h3 : k = 3
  · subst h3
    rw [if_neg (by decide), if_pos rfl, l0 (by decide)]
    simp only [viV, nil_b]
    have := e4; simp at this; rw [this.1, this.2]
    have := e1; simp at this; rw [this]
  by_cases h4 : k = 4
  · subst h4
    rw [if_neg (by decide), if_neg (by decide), if_pos rfl, s0 (by decide)]
    simp only [viV, bxL_clX]
    have := e4; simp at this; rw [this.1, this.2]
    have := e1; simp at this; rw [this]
  by_cases h5 : k = 5
  · subst h5
    rw [if_neg (by decide), if_neg (by decide), if_neg (by decide), if_pos rfl, l0 (by decide), s0 (by decide)]
    simp only [viV, nil_b]
    have := e4; simp at this; rw [this.1, this.2]
  by_cases h6 : k = 6
  · subst h6
    rw [if_neg (by decide), if_neg (by decide), if_neg (by decide), if_neg (by decide), if_pos rfl, l0 (by decide), s0 (by decide)]
    simp only [viV, nil_b]
    have := e1; simp at this; rw [this]
  have h1 : k = 1 := by omega
  subst h1
  rw [if_neg (by decide), if_neg (by decide), if_neg (by decide), if_neg (by decide), if_neg (by decide), l0 (by decide), s0 (by decide)]
  simp only [viV, nil_b]
  have := e4; simp at this; rw [this.1, this.2]
theorem ofV_small {v : Vi} (hv : v.ok) : smallV (ofV v) := by
  unfold ofV
  split
  · trivial
  · split
    · trivial
    · split
      · show (bxL (clX v.b)).length ≤ _; rw [bxL_clX]; have := hv.hl; omega
      · split
        · trivial
        · split <;> trivial
/-- A rule. -/
structure Ru where
  id : Int
  kind : Int
  a : Bool
  b : Bool
  c : Bool
  lo : Int
  hi : Int
  d : Bool
def eR (r : Ru) : PV := .agg [i64 r.id, i64 r.kind, .bool r.a, .bool r.b, .bool r.c, i64 r.lo, i64 r.hi, .bool r.d]
def isNl : Vl → Bool
  | .nil => true
  | _ => false
noncomputable def fitsV (r : Ru) (x : Vl) : Int :=
  if (viV x).k ≠ r.kind ∨ isNl x = true then 70 else if (sizV x).2 = true ∧ ((sizV x).1 < r.lo ∨ (sizV x).1 > r.hi) then 1 else 0
theorem fits_spec {base : Nat} {h : Hp} (r : Ru) (x : Vl) (hx : smallV x) : CallA T base 22 [eR r, eV x] h = some (i64 (fitsV r x), h) := by
  rw [S22]
  obtain ⟨id, kind, a, b, c, lo, hi, d⟩ := r
  have hV : ∀ base h, _ := fun base h => val_spec (base := base) (h := h) x hx
  have hZ := fun h' => size_spec (base := size h) (h := h') x
  have n1 : (size h < size h) = False := by simp
  rw [valV_eA] at hV
  have hk : (viV (clW x)).k = (viV x).k := by cases x <;> rfl
  unfold eA at hV
  rw [hk] at hV
  unfold eR fitsV
  generalize (viV x).k = xk at *
  generalize (viV (clW x)).n = xn at *
  generalize (viV (clW x)).s = xs at *
  generalize (viV (clW x)).b = xb at *
  generalize (viV (clW x)).o = xo at *
  generalize (viV (clW x)).i = xi at *
  generalize sizV x = z at *
  obtain ⟨z, zb⟩ := z
  simp only at hZ
  simp only
  cases hq : (xk != kind)
  · have hne : xk = kind := by simpa [bne] using hq
    cases x with
    | nil => simp only [eV] at hV hZ; simp only [hV, hZ, hq, hne, eV, isNl, n1, ne_eq, ↓evD, evU, evL, Nat.reduceAdd, Nat.reduceSub, Nat.reduceMul, Nat.reduceLeDiff, Nat.reduceLT, Nat.reduceEqDiff, Nat.reduceBEq, reduceIte, reduceCtorEq, Int.reduceBEq, Int.reduceEq, Int.reduceLT, Int.reduceLE, Int.reduceGT, Int.reduceGE, Int.reduceAdd, Int.reduceSub, Int.reduceNeg, Int.reduceBNe, ite_true, ite_false, if_true, if_false, implies_true, forall_const]
    | _ =>
      simp only [eV] at hV hZ
      cases zb
      · simp only [hV, hZ, hq, hne, n1, eV, isNl, ne_eq, ↓evD, evU, evL, Nat.reduceAdd, Nat.reduceSub, Nat.reduceMul, Nat.reduceLeDiff, Nat.reduceLT, Nat.reduceEqDiff, Nat.reduceBEq, reduceIte, reduceCtorEq, Int.reduceBEq, Int.reduceEq, Int.reduceLT, Int.reduceLE, Int.reduceGT, Int.reduceGE, Int.reduceAdd, Int.reduceSub, Int.reduceNeg, Int.reduceBNe, ite_true, ite_false, if_true, if_false, implies_true, forall_const]
      · by_cases q1 : z < lo
        · simp only [hV, hZ, hq, hne, n1, q1, eV, isNl, ne_eq, ↓evD, evU, evL, Nat.reduceAdd, Nat.reduceSub, Nat.reduceMul, Nat.reduceLeDiff, Nat.reduceLT, Nat.reduceEqDiff, Nat.reduceBEq, reduceIte, reduceCtorEq, Int.reduceBEq, Int.reduceEq, Int.reduceLT, Int.reduceLE, Int.reduceGT, Int.reduceGE, Int.reduceAdd, Int.reduceSub, Int.reduceNeg, Int.reduceBNe, ite_true, ite_false, if_true, if_false, implies_true, forall_const]
        · by_cases q2 : z > hi
          · simp only [hV, hZ, hq, hne, n1, q1, q2, eV, isNl, ne_eq, ↓evD, evU, evL, Nat.reduceAdd, Nat.reduceSub, Nat.reduceMul, Nat.reduceLeDiff, Nat.reduceLT, Nat.reduceEqDiff, Nat.reduceBEq, reduceIte, reduceCtorEq, Int.reduceBEq, Int.reduceEq, Int.reduceLT, Int.reduceLE, Int.reduceGT, Int.reduceGE, Int.reduceAdd, Int.reduceSub, Int.reduceNeg, Int.reduceBNe, ite_true, ite_false, if_true, if_false, implies_true, forall_const]
          · simp only [hV, hZ, hq, hne, n1, q1, q2, eV, isNl, ne_eq, ↓evD, evU, evL, Nat.reduceAdd, Nat.reduceSub, Nat.reduceMul, Nat.reduceLeDiff, Nat.reduceLT, Nat.reduceEqDiff, Nat.reduceBEq, reduceIte, reduceCtorEq, Int.reduceBEq, Int.reduceEq, Int.reduceLT, Int.reduceLE, Int.reduceGT, Int.reduceGE, Int.reduceAdd, Int.reduceSub, Int.reduceNeg, Int.reduceBNe, ite_true, ite_false, if_true, if_false, implies_true, forall_const]
  · have hne : ¬ xk = kind := by rw [bne_iff_ne] at hq; exact hq
    simp only [hV, hZ, hq, hne, n1, ne_eq, ↓evD, evU, evL, Nat.reduceAdd, Nat.reduceSub, Nat.reduceMul, Nat.reduceLeDiff, Nat.reduceLT, Nat.reduceEqDiff, Nat.reduceBEq, reduceIte, reduceCtorEq, Int.reduceBEq, Int.reduceEq, Int.reduceLT, Int.reduceLE, Int.reduceGT, Int.reduceGE, Int.reduceAdd, Int.reduceSub, Int.reduceNeg, Int.reduceBNe, ite_true, ite_false, if_true, if_false, implies_true, forall_const]
noncomputable def fitsR (r : Ru) (v : Vi) : Int :=
  if v.k ≠ r.kind then 70 else if v.k = 2 ∨ v.k = 6 then 0 else
    (fun n : Int => if n < r.lo ∨ n > r.hi then 1 else 0) (if v.k = 3 then (v.s.length : Int) else if v.k = 4 then ((bxL v.b).length : Int) else v.n)
theorem fitsE {h : Hp} (r : Ru) (m : List PV) (n : Int) :
    P23_0 (size h) (size h) (.ptr (size h) 0) (i64 n) (ext h [.cells [i64 r.id, i64 r.kind, .bool r.a, .bool r.b, .bool r.c, i64 r.lo, i64 r.hi, .bool r.d], .cells m]) = some (i64 (if n < r.lo ∨ n > r.hi then 1 else 0), h) := by
  rw [P23_0_eq]
  have n1 : (size h < size h) = False := by simp
  by_cases q1 : n < r.lo
  · simp only [n1, q1, ↓evD, evU, evL, Nat.reduceAdd, Nat.reduceSub, Nat.reduceMul, Nat.reduceLeDiff, Nat.reduceLT, Nat.reduceEqDiff, Nat.reduceBEq, reduceIte, reduceCtorEq, Int.reduceBEq, Int.reduceEq, Int.reduceLT, Int.reduceLE, Int.reduceGT, Int.reduceGE, Int.reduceAdd, Int.reduceSub, Int.reduceNeg, Int.reduceBNe, ite_true, ite_false, if_true, if_false, implies_true, forall_const]
  · by_cases q2 : n > r.hi
    · simp only [n1, q1, q2, ↓evD, evU, evL, Nat.reduceAdd, Nat.reduceSub, Nat.reduceMul, Nat.reduceLeDiff, Nat.reduceLT, Nat.reduceEqDiff, Nat.reduceBEq, reduceIte, reduceCtorEq, Int.reduceBEq, Int.reduceEq, Int.reduceLT, Int.reduceLE, Int.reduceGT, Int.reduceGE, Int.reduceAdd, Int.reduceSub, Int.reduceNeg, Int.reduceBNe, ite_true, ite_false, if_true, if_false, implies_true, forall_const]
    · simp only [n1, q1, q2, ↓evD, evU, evL, Nat.reduceAdd, Nat.reduceSub, Nat.reduceMul, Nat.reduceLeDiff, Nat.reduceLT, Nat.reduceEqDiff, Nat.reduceBEq, reduceIte, reduceCtorEq, Int.reduceBEq, Int.reduceEq, Int.reduceLT, Int.reduceLE, Int.reduceGT, Int.reduceGE, Int.reduceAdd, Int.reduceSub, Int.reduceNeg, Int.reduceBNe, ite_true, ite_false, if_true, if_false, implies_true, forall_const]
theorem fitsR_spec {base : Nat} {h : Hp} (r : Ru) (v : Vi) : CallA T base 23 [eR r, eA v] h = some (i64 (fitsR r v), h) := by
  rw [S23]
  have hE := fun m n => fitsE (h := h) r m n
  obtain ⟨id, kind, a, b, c, lo, hi, d⟩ := r
  obtain ⟨k, n, s, bb, o, i⟩ := v
  unfold eR eA fitsR
  simp only at hE
  simp only
  have sc := (bxV bb).scalar
  have ce := (bxV bb).cells
  have hln := (bxV bb).len
  have n1 : (size h < size h) = False := by simp
  have n2 : (size h + 1 < size h) = False := by simp
  cases hq : (k != kind)
  · have hne : k = kind := by simpa [bne] using hq
    subst hne
    by_cases h2 : k = 2
    · subst h2; simp only [sc, ce, hln, n1, n2, hq, ne_eq, ↓evD, evU, evL, Nat.reduceAdd, Nat.reduceSub, Nat.reduceMul, Nat.reduceLeDiff, Nat.reduceLT, Nat.reduceEqDiff, Nat.reduceBEq, reduceIte, reduceCtorEq, Int.reduceBEq, Int.reduceEq, Int.reduceLT, Int.reduceLE, Int.reduceGT, Int.reduceGE, Int.reduceAdd, Int.reduceSub, Int.reduceNeg, Int.reduceBNe, ite_true, ite_false, if_true, if_false, implies_true, forall_const]
    by_cases h6 : k = 6
    · subst h6; simp only [sc, ce, hln, n1, n2, hq, ne_eq, ↓evD, evU, evL, Nat.reduceAdd, Nat.reduceSub, Nat.reduceMul, Nat.reduceLeDiff, Nat.reduceLT, Nat.reduceEqDiff, Nat.reduceBEq, reduceIte, reduceCtorEq, Int.reduceBEq, Int.reduceEq, Int.reduceLT, Int.reduceLE, Int.reduceGT, Int.reduceGE, Int.reduceAdd, Int.reduceSub, Int.reduceNeg, Int.reduceBNe, ite_true, ite_false, if_true, if_false, implies_true, forall_const]
    by_cases h3 : k = 3
    · subst h3; simp only [sc, ce, hln, n1, n2, hq, hE, ne_eq, ↓evD, evU, evL, Nat.reduceAdd, Nat.reduceSub, Nat.reduceMul, Nat.reduceLeDiff, Nat.reduceLT, Nat.reduceEqDiff, Nat.reduceBEq, reduceIte, reduceCtorEq, Int.reduceBEq, Int.reduceEq, Int.reduceLT, Int.reduceLE, Int.reduceGT, Int.reduceGE, Int.reduceAdd, Int.reduceSub, Int.reduceNeg, Int.reduceBNe, ite_true, ite_false, if_true, if_false, implies_true, forall_const]
    by_cases h4 : k = 4
    · subst h4; simp only [sc, ce, hln, n1, n2, hq, hE, ne_eq, ↓evD, evU, evL, Nat.reduceAdd, Nat.reduceSub, Nat.reduceMul, Nat.reduceLeDiff, Nat.reduceLT, Nat.reduceEqDiff, Nat.reduceBEq, reduceIte, reduceCtorEq, Int.reduceBEq, Int.reduceEq, Int.reduceLT, Int.reduceLE, Int.reduceGT, Int.reduceGE, Int.reduceAdd, Int.reduceSub, Int.reduceNeg, Int.reduceBNe, ite_true, ite_false, if_true, if_false, implies_true, forall_const]
    simp only [sc, ce, hln, n1, n2, hq, hE, h2, h3, h4, h6, beq_false_of h2, beq_false_of h3, beq_false_of h4, beq_false_of h6, ne_eq, ↓evD, evU, evL, Nat.reduceAdd, Nat.reduceSub, Nat.reduceMul, Nat.reduceLeDiff, Nat.reduceLT, Nat.reduceEqDiff, Nat.reduceBEq, reduceIte, reduceCtorEq, Int.reduceBEq, Int.reduceEq, Int.reduceLT, Int.reduceLE, Int.reduceGT, Int.reduceGE, Int.reduceAdd, Int.reduceSub, Int.reduceNeg, Int.reduceBNe, ite_true, ite_false, if_true, if_false, implies_true, forall_const]
  · have hne : ¬ k = kind := by rw [bne_iff_ne] at hq; exact hq
    simp only [sc, ce, hln, n1, n2, hq, hne, ne_eq, ↓evD, evU, evL, Nat.reduceAdd, Nat.reduceSub, Nat.reduceMul, Nat.reduceLeDiff, Nat.reduceLT, Nat.reduceEqDiff, Nat.reduceBEq, reduceIte, reduceCtorEq, Int.reduceBEq, Int.reduceEq, Int.reduceLT, Int.reduceLE, Int.reduceGT, Int.reduceGE, Int.reduceAdd, Int.reduceSub, Int.reduceNeg, Int.reduceBNe, ite_true, ite_false, if_true, if_false, implies_true, forall_const]
theorem fits_law (r : Ru) {v : Vi} (h : errV v = 0) : fitsV r (ofV v) = fitsR r v := by
  obtain ⟨e, hk, hb⟩ := of_nrm h
  obtain ⟨k, n, s, b, o, i⟩ := v
  unfold nrm at e
  unfold fitsV fitsR
  simp only at hk
  unfold ofV at *
  simp only at *
  by_cases h2 : k = 2
  · subst h2; simp [viV, sizV, isNl]
  by_cases h3 : k = 3
  · subst h3; simp [viV, sizV, isNl]
  by_cases h4 : k = 4
  · subst h4; simp [viV, sizV, isNl, bxL_clX]
  by_cases h5 : k = 5
  · subst h5; simp [viV, sizV, numV, isNl]
  by_cases h6 : k = 6
  · subst h6; simp [viV, sizV, numV, isNl]
  have h1 : k = 1 := by omega
  subst h1; simp [viV, sizV, numV, isNl]
theorem short_spec {base : Nat} {h : Hp} (v : Vi) : CallA T base 9 [eA v] h = some (.bool (decide (v.s.length ≤ 1000) && decide ((bxL v.b).length ≤ 1000)), h) := by
  rw [S9]
  obtain ⟨k, n, s, b, o, i⟩ := v
  unfold eA
  simp only
  have sc := (bxV b).scalar
  have ce := (bxV b).cells
  have hln := (bxV b).len
  by_cases h1 : s.length ≤ 1000
  · have q1 : ((s.length : Int) ≤ 1000) = True := by simp; omega
    by_cases h2 : (bxL b).length ≤ 1000
    · have q2 : (((bxL b).length : Int) ≤ 1000) = True := by simp; omega
      simp only [sc, ce, hln, h1, h2, q1, q2, ↓evD, evU, evL, Nat.reduceAdd, Nat.reduceSub, Nat.reduceMul, Nat.reduceLeDiff, Nat.reduceLT, Nat.reduceEqDiff, Nat.reduceBEq, reduceIte, reduceCtorEq, Int.reduceBEq, Int.reduceEq, Int.reduceLT, Int.reduceLE, Int.reduceGT, Int.reduceGE, Int.reduceAdd, Int.reduceSub, Int.reduceNeg, Int.reduceBNe, ite_true, ite_false, if_true, if_false, implies_true, forall_const]
    · have q2 : (((bxL b).length : Int) ≤ 1000) = False := by simp; omega
      simp only [sc, ce, hln, h1, h2, q1, q2, ↓evD, evU, evL, Nat.reduceAdd, Nat.reduceSub, Nat.reduceMul, Nat.reduceLeDiff, Nat.reduceLT, Nat.reduceEqDiff, Nat.reduceBEq, reduceIte, reduceCtorEq, Int.reduceBEq, Int.reduceEq, Int.reduceLT, Int.reduceLE, Int.reduceGT, Int.reduceGE, Int.reduceAdd, Int.reduceSub, Int.reduceNeg, Int.reduceBNe, ite_true, ite_false, if_true, if_false, implies_true, forall_const]
  · have q1 : ((s.length : Int) ≤ 1000) = False := by simp; omega
    simp only [sc, ce, hln, h1, q1, ↓evD, evU, evL, Nat.reduceAdd, Nat.reduceSub, Nat.reduceMul, Nat.reduceLeDiff, Nat.reduceLT, Nat.reduceEqDiff, Nat.reduceBEq, reduceIte, reduceCtorEq, Int.reduceBEq, Int.reduceEq, Int.reduceLT, Int.reduceLE, Int.reduceGT, Int.reduceGE, Int.reduceAdd, Int.reduceSub, Int.reduceNeg, Int.reduceBNe, ite_true, ite_false, if_true, if_false, implies_true, forall_const]
end Go.Am.YtppkffebmoffnaaDoor
namespace Go.Am.YtppkffebmoffnaaDoor
set_option maxRecDepth 100000
set_option linter.unusedSimpArgs false
set_option linter.unusedVariables false
/-- A number's byte, from the lowest on. -/
def byteAt (n : Int) (i : Nat) : UInt8 := UInt8.ofNat ((n / 2 ^ (8 * i)) % 256).toNat
/-- A number in so many bytes, the highest first. -/
def laidL (n : Int) : Nat → List UInt8
  | 0 => []
  | w + 1 => byteAt n w :: laidL n w
theorem laidL_len (n : Int) : ∀ w, (laidL n w).length = w
  | 0 => rfl
  | w + 1 => by simp [laidL, laidL_len n w]
theorem byteAt_val (n : Int) (i : Nat) : (((byteAt n i).toNat : Nat) : Int) = (n / 2 ^ (8 * i)) % 256 := by
  unfold byteAt
  rw [UInt8.toNat_ofNat']
  have h1 : 0 ≤ (n / 2 ^ (8 * i)) % 256 := Int.emod_nonneg _ (by decide)
  have h2 : (n / 2 ^ (8 * i)) % 256 < 256 := Int.emod_lt_of_pos _ (by decide)
  omega
theorem wrap_u8i (n : Int) : IntKind.u8.wrap n = n % 256 := rfl
theorem set_u8s (l : List UInt8) (i : Nat) (c : UInt8) : (u8s l).set i (.int .u8 c.toNat) = u8s (l.set i c) := by simp [u8s, List.map_set]
theorem make_u8 {h : Hp} (w : Nat) (hw : w ≤ lim2) : makeV 5 [.int .u8 0] (i64 w) (i64 w) h = some (.bsl true (size h) 0 w 1, ext h [.cells (u8s (List.replicate w 0))]) := by
  have h1 : makeN (i64 w) (i64 w) = some (w, w) := by
    unfold makeN
    simp only
    rw [if_pos ⟨by omega, Int.le_refl _, by exact Int.ofNat_le.2 hw⟩]
    simp
  rw [makeV_eq, h1, Option.bnd_some, makeB_eq]
  have : (List.replicate w [PV.int .u8 0]).flatten = u8s (List.replicate w 0) := by
    induction w with
    | zero => rfl
    | succ w ih =>
      rw [List.replicate_succ, List.flatten_cons, ih (by omega) (by
        unfold makeN
        simp only
        rw [if_pos ⟨by omega, Int.le_refl _, by exact Int.ofNat_le.2 (by omega)⟩]
        simp), List.replicate_succ]; rfl
  rw [this]; rfl
theorem store_u8 {h : Hp} {l : List UInt8} {j : Nat} (hj : j < l.length) (c : UInt8) : storeV (size h) 1 (.ptr (size h) j) (.int .u8 c.toNat) (ext h [.cells (u8s l)]) = some (ext h [.cells (u8s (l.set j c))]) := by
  have hle : j + 1 ≤ (u8s l).length := by rw [Bu.len]; exact hj
  have n1 : (size h < size h) = False := by simp
  have eset : setRange (u8s l) j [.int .u8 c.toNat] = u8s (l.set j c) := by rw [setRange_cons, setRange_nil, set_u8s]
  simp only [hle, n1, eset, ↓evD, evU, evL, Nat.reduceAdd, Nat.reduceSub, Nat.reduceMul, Nat.reduceLeDiff, Nat.reduceLT, Nat.reduceEqDiff, Nat.reduceBEq, reduceIte, reduceCtorEq, Int.reduceBEq, Int.reduceEq, Int.reduceLT, Int.reduceLE, Int.reduceGT, Int.reduceGE, Int.reduceAdd, Int.reduceSub, Int.reduceNeg, Int.reduceBNe, ite_true, ite_false, if_true, if_false, implies_true, forall_const]
theorem rep_set (m : Nat) (L : List UInt8) (x : UInt8) : (List.replicate (m + 1) 0 ++ L).set m x = List.replicate m 0 ++ x :: L := by
  rw [List.replicate_succ', List.append_assoc, List.set_append_right _ _ (by simp)]
  simp
theorem laid_loop {h : Hp} (n : Int) (w : Nat) (hw : w ≤ 8) : ∀ (m i : Nat), i + m = w →
    P35_0 (size h) (size h) (i64 i) (i64 n) (i64 w) (.bsl true (size h) 0 w 1) (i64 w) (ext h [.cells (u8s (List.replicate m 0 ++ laidL n i))]) = some (.bsl true (size h) 0 w 1, ext h [.cells (u8s (laidL n w))])
  | 0, i, hi => by
    rw [P35_0_eq]
    have e : i = w := by omega
    subst e
    have h1 : ((i : Int) < (i : Int)) = False := by simp
    have n1 : (size h < size h) = False := by simp
    simp only [h1, n1, Bu.below, finV_own, ownEnd_bsl, List.replicate_zero, List.nil_append, ↓evD, evU, evL, Nat.reduceAdd, Nat.reduceSub, Nat.reduceMul, Nat.reduceLeDiff, Nat.reduceLT, Nat.reduceEqDiff, Nat.reduceBEq, reduceIte, reduceCtorEq, Int.reduceBEq, Int.reduceEq, Int.reduceLT, Int.reduceLE, Int.reduceGT, Int.reduceGE, Int.reduceAdd, Int.reduceSub, Int.reduceNeg, Int.reduceBNe, ite_true, ite_false, if_true, if_false, implies_true, forall_const]
  | m + 1, i, hi => by
    rw [P35_0_eq]
    have h1 : ((i : Int) < (w : Int)) = True := by simp; omega
    have w1 : IntKind.i64.wrap ((w : Int) - 1) = (w : Int) - 1 := by rw [wrap_small] <;> omega
    have w2 : IntKind.i64.wrap ((w : Int) - 1 - (i : Int)) = (m : Int) := by rw [wrap_small] <;> omega
    have w3 : IntKind.i64.wrap (8 * (i : Int)) = ((8 * i : Nat) : Int) := by rw [wrap_small] <;> omega
    have w4 : IntKind.i64.wrap ((i : Int) + 1) = ((i + 1 : Nat) : Int) := by rw [wrap_small] <;> omega
    have w5 : IntKind.i64.wrap (n / 2 ^ (8 * i)) = IntKind.i64.wrap (n / 2 ^ (8 * i)) := rfl
    have hsh : shiftOp .shr .i64 n ((8 * i : Nat) : Int) = some (i64 (n / 2 ^ (8 * i))) := by
      unfold shiftOp
      rw [if_neg (by omega)]
      have : min ((8 * i : Nat) : Int).toNat IntKind.i64.bits = 8 * i := by
        have : IntKind.i64.bits = 64 := rfl
        rw [this]; omega
      simp only [this]
      rw [Int.fdiv_eq_ediv_of_nonneg _ (by exact Int.le_of_lt (Int.pow_pos (by decide)))]
    have hix : ix (i64 m) w = some m := ix_nat .i64 m w (by omega)
    have hb : IntKind.u8.wrap (n / 2 ^ (8 * i)) = (((byteAt n i).toNat : Nat) : Int) := by rw [byteAt_val, wrap_u8i]
    have ih := laid_loop (h := h) n w hw m (i + 1) (by omega)
    simp only [laidL] at ih
    have hid : idxAB (.bsl true (size h) 0 w 1) (i64 m) 1 = some (.ptr (size h) m) := by
      simp only [hix, Nat.mul_one, ↓evD, evU, evL, Nat.reduceAdd, Nat.reduceSub, Nat.reduceMul, Nat.reduceLeDiff, Nat.reduceLT, Nat.reduceEqDiff, Nat.reduceBEq, reduceIte, reduceCtorEq, Int.reduceBEq, Int.reduceEq, Int.reduceLT, Int.reduceLE, Int.reduceGT, Int.reduceGE, Int.reduceAdd, Int.reduceSub, Int.reduceNeg, Int.reduceBNe, ite_true, ite_false, if_true, if_false, implies_true, forall_const]
    have hset : (u8s (List.replicate (m + 1) 0 ++ laidL n i)).set m (.int .u8 (byteAt n i).toNat) = u8s (List.replicate m 0 ++ byteAt n i :: laidL n i) := by rw [set_u8s, rep_set]
    have hle : (m + 1 ≤ (u8s (List.replicate (m + 1) 0 ++ laidL n i)).length) = True := by rw [Bu.len]; simp
    have n1 : (size h < size h) = False := by simp
    generalize List.replicate (m + 1) 0 ++ laidL n i = l at *
    simp only [h1, w1, w2, w3, w4, hsh, hid, hb, hset, hle, n1, ih, ↓evD, evU, evL, Nat.reduceAdd, Nat.reduceSub, Nat.reduceMul, Nat.reduceLeDiff, Nat.reduceLT, Nat.reduceEqDiff, Nat.reduceBEq, reduceIte, reduceCtorEq, Int.reduceBEq, Int.reduceEq, Int.reduceLT, Int.reduceLE, Int.reduceGT, Int.reduceGE, Int.reduceAdd, Int.reduceSub, Int.reduceNeg, Int.reduceBNe, ite_true, ite_false, if_true, if_false, implies_true, forall_const]
theorem laid_spec {base : Nat} {h : Hp} (n : Int) (w : Nat) (hw : w ≤ 8) : CallA T base 35 [i64 n, i64 w] h = some (.bsl true (size h) 0 w 1, ext h [.cells (u8s (laidL n w))]) := by
  rw [S35]
  have h1 := make_u8 (h := h) w (by unfold lim2; omega)
  have h2 := laid_loop (h := h) n w hw w 0 (by omega)
  simp only [laidL, List.append_nil] at h2
  simp only [h1, ↓evD, evU, evL, Nat.reduceAdd, Nat.reduceSub, Nat.reduceMul, Nat.reduceLeDiff, Nat.reduceLT, Nat.reduceEqDiff, Nat.reduceBEq, reduceIte, reduceCtorEq, Int.reduceBEq, Int.reduceEq, Int.reduceLT, Int.reduceLE, Int.reduceGT, Int.reduceGE, Int.reduceAdd, Int.reduceSub, Int.reduceNeg, Int.reduceBNe, ite_true, ite_false, if_true, if_false, implies_true, forall_const]
  exact h2
def widN (n : Int) : Nat := if -128 ≤ n ∧ n ≤ 127 then 1 else if -32768 ≤ n ∧ n ≤ 32767 then 2 else if -2147483648 ≤ n ∧ n ≤ 2147483647 then 4 else 8
theorem widN_le (n : Int) : widN n ≤ 8 := by unfold widN; split <;> (try omega); split <;> (try omega); split <;> omega
theorem width_spec {base : Nat} {h : Hp} (n : Int) (hn : in64 n) : CallA T base 36 [i64 n] h = some (i64 (widN n), h) := by
  rw [S36]
  unfold in64 at hn
  have e8 : IntKind.i8.wrap n = if n % 256 ≥ 128 then n % 256 - 256 else n % 256 := by simp [IntKind.wrap, IntKind.bits, IntKind.signed]
  have e16 : IntKind.i16.wrap n = if n % 65536 ≥ 32768 then n % 65536 - 65536 else n % 65536 := by simp [IntKind.wrap, IntKind.bits, IntKind.signed]
  have e32 : IntKind.i32.wrap n = if n % 4294967296 ≥ 2147483648 then n % 4294967296 - 4294967296 else n % 4294967296 := by simp [IntKind.wrap, IntKind.bits, IntKind.signed]
  have s8 : IntKind.i64.wrap (IntKind.i8.wrap n) = IntKind.i8.wrap n := by rw [wrap_small] <;> rw [e8] <;> split <;> omega
  have s16 : IntKind.i64.wrap (IntKind.i16.wrap n) = IntKind.i16.wrap n := by rw [wrap_small] <;> rw [e16] <;> split <;> omega
  have s32 : IntKind.i64.wrap (IntKind.i32.wrap n) = IntKind.i32.wrap n := by rw [wrap_small] <;> rw [e32] <;> split <;> omega
  have q8 : (n == IntKind.i8.wrap n) = decide (-128 ≤ n ∧ n ≤ 127) := by
    rw [Bool.eq_iff_iff, beq_iff_eq, decide_eq_true_eq, e8]; split <;> omega
  have q16 : (n == IntKind.i16.wrap n) = decide (-32768 ≤ n ∧ n ≤ 32767) := by
    rw [Bool.eq_iff_iff, beq_iff_eq, decide_eq_true_eq, e16]; split <;> omega
  have q32 : (n == IntKind.i32.wrap n) = decide (-2147483648 ≤ n ∧ n ≤ 2147483647) := by
    rw [Bool.eq_iff_iff, beq_iff_eq, decide_eq_true_eq, e32]; split <;> omega
  unfold widN
  by_cases h1 : -128 ≤ n ∧ n ≤ 127
  · simp only [s8, q8, h1, ↓evD, evU, evL, Nat.reduceAdd, Nat.reduceSub, Nat.reduceMul, Nat.reduceLeDiff, Nat.reduceLT, Nat.reduceEqDiff, Nat.reduceBEq, reduceIte, reduceCtorEq, Int.reduceBEq, Int.reduceEq, Int.reduceLT, Int.reduceLE, Int.reduceGT, Int.reduceGE, Int.reduceAdd, Int.reduceSub, Int.reduceNeg, Int.reduceBNe, ite_true, ite_false, if_true, if_false, implies_true, forall_const]; rfl
  by_cases h2 : -32768 ≤ n ∧ n ≤ 32767
  · simp only [s8, q8, s16, q16, h1, h2, ↓evD, evU, evL, Nat.reduceAdd, Nat.reduceSub, Nat.reduceMul, Nat.reduceLeDiff, Nat.reduceLT, Nat.reduceEqDiff, Nat.reduceBEq, reduceIte, reduceCtorEq, Int.reduceBEq, Int.reduceEq, Int.reduceLT, Int.reduceLE, Int.reduceGT, Int.reduceGE, Int.reduceAdd, Int.reduceSub, Int.reduceNeg, Int.reduceBNe, ite_true, ite_false, if_true, if_false, implies_true, forall_const]; rfl
  by_cases h3 : -2147483648 ≤ n ∧ n ≤ 2147483647
  · simp only [s8, q8, s16, q16, s32, q32, h1, h2, h3, ↓evD, evU, evL, Nat.reduceAdd, Nat.reduceSub, Nat.reduceMul, Nat.reduceLeDiff, Nat.reduceLT, Nat.reduceEqDiff, Nat.reduceBEq, reduceIte, reduceCtorEq, Int.reduceBEq, Int.reduceEq, Int.reduceLT, Int.reduceLE, Int.reduceGT, Int.reduceGE, Int.reduceAdd, Int.reduceSub, Int.reduceNeg, Int.reduceBNe, ite_true, ite_false, if_true, if_false, implies_true, forall_const]; rfl
  · simp only [s8, q8, s16, q16, s32, q32, h1, h2, h3, ↓evD, evU, evL, Nat.reduceAdd, Nat.reduceSub, Nat.reduceMul, Nat.reduceLeDiff, Nat.reduceLT, Nat.reduceEqDiff, Nat.reduceBEq, reduceIte, reduceCtorEq, Int.reduceBEq, Int.reduceEq, Int.reduceLT, Int.reduceLE, Int.reduceGT, Int.reduceGE, Int.reduceAdd, Int.reduceSub, Int.reduceNeg, Int.reduceBNe, ite_true, ite_false, if_true, if_false, implies_true, forall_const]; rfl
/-- A value as bytes. -/
noncomputable def wireL : Vl → List UInt8
  | .nil => []
  | .int n => laidL n (widN n)
  | .time n => laidL n (widN n)
  | .bool b => laidL (tru b) 1
  | .text s => s
  | .bytes b => bxL b
  | .link o i => laidL o 2 ++ laidL i 2
theorem forget_box {h : Hp} {l : List UInt8} {f : Bool} {n : Nat} (hn : n = l.length) : forget h (.bsl f (size h) 0 n 1, ext h [.cells (u8s l)]) = some (.sl (if f then .full else .no) 1 (u8s l), h) := by
  subst hn
  unfold forget
  rw [if_neg (by
    intro q
    have := congrArg size q
    rw [size_ext] at this
    simp at this)]
  simp only
  rw [frz_box rfl (Nat.le_refl _), Option.bnd_some, if_pos ⟨by cases f <;> (show (true && belows _ _) = true; rw [Bu.below]; rfl), by rw [size_ext]; omega, trunc_ext⟩]
theorem strBytes_box {h : Hp} {s : List UInt8} (hs : s.length ≤ 1000000) : strBytesB true (.str s) h = some (.bsl false (size h) 0 s.length 1, ext h [.cells (u8s s)]) := strBytesB_box _ _ (by unfold limS; omega)
/-- A value's bytes, as Wire hands them back. -/
noncomputable def wireV (h : Hp) : Vl → PV × Hp
  | .nil => (.nils, h)
  | .int n => (.bsl true (size h) 0 (widN n) 1, ext h [.cells (u8s (laidL n (widN n)))])
  | .time n => (.bsl true (size h) 0 (widN n) 1, ext h [.cells (u8s (laidL n (widN n)))])
  | .bool b => (.bsl true (size h) 0 1 1, ext h [.cells (u8s (laidL (tru b) 1))])
  | .text s => (.bsl false (size h) 0 s.length 1, ext h [.cells (u8s s)])
  | .bytes b => (clV h b, clH h b)
  | .link o i => (.bsl false (size h) 0 4 1, ext h [.cells (u8s (laidL o 2 ++ laidL i 2))])
def in64V : Vl → Prop
  | .int n => in64 n
  | .time n => in64 n
  | .text s => s.length ≤ 1000000
  | .bytes b => (bxL b).length ≤ 1000000
  | _ => True
set_option maxHeartbeats 2000000 in
theorem wire_spec {base : Nat} {h : Hp} (x : Vl) (hx : in64V x) : CallA T base 18 [eV x] h = some ((wireV h x).1, (wireV h x).2) := by
  rw [S18]
  have hN := fun h' => number_spec (base := size h) (h := h') x
  have hT := fun b => truth_spec (base := size h) (h := h) b
  have hL := fun n w (hw : w ≤ 8) h' => laid_spec (base := size h) (h := h') n w hw
  have n1 : (size h < size h) = False := by simp
  have n2 : (size h + 1 < size h) = False := by simp
  have n3 : (size h + 2 < size h) = False := by simp
  cases x with
  | nil => simp only [eV, numV] at hN; simp only [eV, wireV, hN, finV_own, ↓evD, evU, evL, Nat.reduceAdd, Nat.reduceSub, Nat.reduceMul, Nat.reduceLeDiff, Nat.reduceLT, Nat.reduceEqDiff, Nat.reduceBEq, reduceIte, reduceCtorEq, Int.reduceBEq, Int.reduceEq, Int.reduceLT, Int.reduceLE, Int.reduceGT, Int.reduceGE, Int.reduceAdd, Int.reduceSub, Int.reduceNeg, Int.reduceBNe, ite_true, ite_false, if_true, if_false, implies_true, forall_const]
  | bool b =>
    have := hL (tru b) 1 (by omega) h
    simp only [Int.natCast_one, Int.ofNat_one] at this
    simp only [eV, wireV, hT, this, n1, Bu.below, finV_own, ownEnd_bsl, ↓evD, evU, evL, Nat.reduceAdd, Nat.reduceSub, Nat.reduceMul, Nat.reduceLeDiff, Nat.reduceLT, Nat.reduceEqDiff, Nat.reduceBEq, reduceIte, reduceCtorEq, Int.reduceBEq, Int.reduceEq, Int.reduceLT, Int.reduceLE, Int.reduceGT, Int.reduceGE, Int.reduceAdd, Int.reduceSub, Int.reduceNeg, Int.reduceBNe, ite_true, ite_false, if_true, if_false, implies_true, forall_const]
  | int n =>
    simp only [eV, numV] at hN
    have hW := width_spec (base := size h) (h := h) n hx
    have := hL n (widN n) (widN_le n) h
    simp only [eV, wireV, hN, hW, this, n1, Bu.below, finV_own, ownEnd_bsl, ↓evD, evU, evL, Nat.reduceAdd, Nat.reduceSub, Nat.reduceMul, Nat.reduceLeDiff, Nat.reduceLT, Nat.reduceEqDiff, Nat.reduceBEq, reduceIte, reduceCtorEq, Int.reduceBEq, Int.reduceEq, Int.reduceLT, Int.reduceLE, Int.reduceGT, Int.reduceGE, Int.reduceAdd, Int.reduceSub, Int.reduceNeg, Int.reduceBNe, ite_true, ite_false, if_true, if_false, implies_true, forall_const]
  | time n =>
    simp only [eV, numV] at hN
    have hW := width_spec (base := size h) (h := h) n hx
    have := hL n (widN n) (widN_le n) h
    simp only [eV, wireV, hN, hW, this, n1, Bu.below, finV_own, ownEnd_bsl, ↓evD, evU, evL, Nat.reduceAdd, Nat.reduceSub, Nat.reduceMul, Nat.reduceLeDiff, Nat.reduceLT, Nat.reduceEqDiff, Nat.reduceBEq, reduceIte, reduceCtorEq, Int.reduceBEq, Int.reduceEq, Int.reduceLT, Int.reduceLE, Int.reduceGT, Int.reduceGE, Int.reduceAdd, Int.reduceSub, Int.reduceNeg, Int.reduceBNe, ite_true, ite_false, if_true, if_false, implies_true, forall_const]
  | text s =>
    simp only [eV, numV] at hN
    have := strBytes_box (h := h) (s := s) hx
    simp only [eV, wireV, hN, this, n1, Bu.below, finV_own, ownEnd_bsl, ↓evD, evU, evL, Nat.reduceAdd, Nat.reduceSub, Nat.reduceMul, Nat.reduceLeDiff, Nat.reduceLT, Nat.reduceEqDiff, Nat.reduceBEq, reduceIte, reduceCtorEq, Int.reduceBEq, Int.reduceEq, Int.reduceLT, Int.reduceLE, Int.reduceGT, Int.reduceGE, Int.reduceAdd, Int.reduceSub, Int.reduceNeg, Int.reduceBNe, ite_true, ite_false, if_true, if_false, implies_true, forall_const]
  | bytes b =>
    simp only [eV, numV] at hN
    have hc := fun h' => clone_spec (base := size h) (h := h') b hx
    by_cases h0 : b.1 = .nils
    · simp only [clV, clH, if_pos h0] at hc
      simp only [eV, wireV, clV, clH, if_pos h0, hN, hc, finV_own, ↓evD, evU, evL, Nat.reduceAdd, Nat.reduceSub, Nat.reduceMul, Nat.reduceLeDiff, Nat.reduceLT, Nat.reduceEqDiff, Nat.reduceBEq, reduceIte, reduceCtorEq, Int.reduceBEq, Int.reduceEq, Int.reduceLT, Int.reduceLE, Int.reduceGT, Int.reduceGE, Int.reduceAdd, Int.reduceSub, Int.reduceNeg, Int.reduceBNe, ite_true, ite_false, if_true, if_false, implies_true, forall_const]
    simp only [clV, clH, if_neg h0] at hc
    by_cases hne : bxL b = []
    · simp only [if_pos hne] at hc
      simp only [eV, wireV, clV, clH, if_neg h0, if_pos hne, hN, hc, finV_own, ↓evD, evU, evL, Nat.reduceAdd, Nat.reduceSub, Nat.reduceMul, Nat.reduceLeDiff, Nat.reduceLT, Nat.reduceEqDiff, Nat.reduceBEq, reduceIte, reduceCtorEq, Int.reduceBEq, Int.reduceEq, Int.reduceLT, Int.reduceLE, Int.reduceGT, Int.reduceGE, Int.reduceAdd, Int.reduceSub, Int.reduceNeg, Int.reduceBNe, ite_true, ite_false, if_true, if_false, implies_true, forall_const]
    · simp only [if_neg hne] at hc
      simp only [eV, wireV, clV, clH, if_neg h0, if_neg hne, hN, hc, n1, Bu.below, finV_own, ownEnd_bsl, ↓evD, evU, evL, Nat.reduceAdd, Nat.reduceSub, Nat.reduceMul, Nat.reduceLeDiff, Nat.reduceLT, Nat.reduceEqDiff, Nat.reduceBEq, reduceIte, reduceCtorEq, Int.reduceBEq, Int.reduceEq, Int.reduceLT, Int.reduceLE, Int.reduceGT, Int.reduceGE, Int.reduceAdd, Int.reduceSub, Int.reduceNeg, Int.reduceBNe, ite_true, ite_false, if_true, if_false, implies_true, forall_const]
  | link o i =>
    simp only [eV, numV] at hN
    have l1 := fun h' => hL o 2 (by omega) h'
    have l2 := fun h' => hL i 2 (by omega) h'
    have z2 : ((2 : Nat) : Int) = 2 := rfl
    rw [z2] at l1 l2
    have hq : ∀ h', orcQ (CallA T (size h)) 35 [i64 o, .int .i64 2] h' = some (.sl .full 1 (u8s (laidL o 2)), h') := by
      intro h'
      have := l1 h'
      rw [orcQ_eq, this, Option.bnd_some, forget_box (laidL_len o 2).symm]
      rfl
    have hq2 : ∀ h', (CallA T (size h) 35 [i64 o, .int .i64 2] h').bnd (forget h') = some (.sl .full 1 (u8s (laidL o 2)), h') := hq
    have ha : appBoxV 1 (.sl .full 1 (u8s (laidL o 2))) (.bsl true (size h + 1) 0 2 1) (ext h [.cells [i64 o, i64 i], .cells (u8s (laidL i 2))]) =
        some (.bsl false (size h + 2) 0 4 1, ext h [.cells [i64 o, i64 i], .cells (u8s (laidL i 2)), .cells (u8s (laidL o 2 ++ laidL i 2))]) := by
      have e1 : elems (ext h [.cells [i64 o, i64 i], .cells (u8s (laidL i 2))]) (.bsl true (size h + 1) 0 2 1) = some (u8s (laidL i 2)) := by
        have g : getBox (ext h [.cells [i64 o, i64 i], .cells (u8s (laidL i 2))]) (size h + 1) = some (u8s (laidL i 2)) := by rw [getBox_ext_n]; rfl
        have t : (u8s (laidL i 2)).take 2 = u8s (laidL i 2) := List.take_of_length_le (by rw [Bu.len, laidL_len]; exact Nat.le_refl _)
        rw [elems_bsl, g, Option.bnd_some, List.drop_zero, t, if_pos ⟨by rw [Bu.len, laidL_len]; exact Nat.le_refl _, Bu.scalar _⟩]
      have all1 : ∀ l : List UInt8, (u8s l).all (fun x => x.cells.length == 1) = true := by
        intro l
        rw [List.all_eq_true]; intro x hx; simp only [u8s, List.mem_map] at hx; obtain ⟨c, _, rfl⟩ := hx; rfl
      unfold appBoxV
      rw [e1, Option.bnd_some]
      simp only [fullEs, Option.bnd_some]
      rw [if_neg (Bu.ne (by intro q; have := congrArg List.length q; rw [laidL_len] at this; simp at this)), if_pos ⟨trivial, all1 _, all1 _, by rw [Bu.len, Bu.len, laidL_len, laidL_len]; unfold lim2; omega, Bu.scalar _, Bu.scalar _⟩, Bu.len, Bu.len, laidL_len, laidL_len, Bu.append]
      simp [size_ext, ext_ext]
    simp only [eV, wireV, hN, hq2, l2, ha, n1, n2, n3, Bu.below, finV_own, ownEnd_bsl, ↓evD, evU, evL, Nat.reduceAdd, Nat.reduceSub, Nat.reduceMul, Nat.reduceLeDiff, Nat.reduceLT, Nat.reduceEqDiff, Nat.reduceBEq, reduceIte, reduceCtorEq, Int.reduceBEq, Int.reduceEq, Int.reduceLT, Int.reduceLE, Int.reduceGT, Int.reduceGE, Int.reduceAdd, Int.reduceSub, Int.reduceNeg, Int.reduceBNe, ite_true, ite_false, if_true, if_false, implies_true, forall_const]
end Go.Am.YtppkffebmoffnaaDoor
namespace Go.Am.YtppkffebmoffnaaDoor
set_option maxRecDepth 100000
set_option linter.unusedSimpArgs false
set_option linter.unusedVariables false
abbrev zF1 : PV := .sl .full 1 []
theorem copy_loop {h : Hp} {b : PV} {l : List UInt8} (hb : Bv b l) (hl : l.length ≤ 1000000) : ∀ (r q : List UInt8), l = q ++ r →
    P25_0 (size h) (size h) (i64 q.length) b (gV h zF1 1 (u8s q)) (gH h 5 (u8s q)) = some (gD zF1 1 (u8s l), h)
  | [], q, hp => by
    rw [P25_0_eq]
    have e : l = q := by rw [hp]; simp
    subst e
    have h1 : ((l.length : Int) < (l.length : Int)) = False := by simp
    simp only [hb.len, h1, frz_gV (gZ_full 1), below_gD (gZ_full 1) _ _ (Bu.below _ _), trunc_gH, ↓evD, evU, evL, Nat.reduceAdd, Nat.reduceSub, Nat.reduceMul, Nat.reduceLeDiff, Nat.reduceLT, Nat.reduceEqDiff, Nat.reduceBEq, reduceIte, reduceCtorEq, Int.reduceBEq, Int.reduceEq, Int.reduceLT, Int.reduceLE, Int.reduceGT, Int.reduceGE, Int.reduceAdd, Int.reduceSub, Int.reduceNeg, Int.reduceBNe, ite_true, ite_false, if_true, if_false, implies_true, forall_const]
  | x :: r, q, hp => by
    rw [P25_0_eq]
    have el : l.length = q.length + (r.length + 1) := by rw [hp]; simp
    have h1 : ((q.length : Int) < (l.length : Int)) = True := by simp; omega
    have hx : l[q.length]? = some x := by rw [hp]; simp
    have w1 : IntKind.i64.wrap ((q.length : Int) + 1) = (((q ++ [x]).length : Nat) : Int) := by rw [show (q ++ [x]).length = q.length + 1 by simp, wrap_small] <;> omega
    have gg := gOne (h := h) (T := 5) (gZ_full 1) q x (by unfold lim2; omega)
    have ih := copy_loop (h := h) hb hl r (q ++ [x]) (by rw [hp]; simp)
    simp only [hb.len, h1, hb.idx hx, gg, w1, ih, ↓evD, evU, evL, Nat.reduceAdd, Nat.reduceSub, Nat.reduceMul, Nat.reduceLeDiff, Nat.reduceLT, Nat.reduceEqDiff, Nat.reduceBEq, reduceIte, reduceCtorEq, Int.reduceBEq, Int.reduceEq, Int.reduceLT, Int.reduceLE, Int.reduceGT, Int.reduceGE, Int.reduceAdd, Int.reduceSub, Int.reduceNeg, Int.reduceBNe, ite_true, ite_false, if_true, if_false, implies_true, forall_const]
theorem copy_spec {base : Nat} {h : Hp} {b : PV} {l : List UInt8} (hb : Bv b l) (hl : l.length ≤ 1000000) : CallA T base 25 [b] h = some (gD zF1 1 (u8s l), h) := by
  rw [S25]
  have := copy_loop (h := h) hb hl l [] rfl
  rw [Bu.nil, gV_nil, gH_nil] at this
  simp only [↓evD, evU, evL, Nat.reduceAdd, Nat.reduceSub, Nat.reduceMul, Nat.reduceLeDiff, Nat.reduceLT, Nat.reduceEqDiff, Nat.reduceBEq, reduceIte, reduceCtorEq, Int.reduceBEq, Int.reduceEq, Int.reduceLT, Int.reduceLE, Int.reduceGT, Int.reduceGE, Int.reduceAdd, Int.reduceSub, Int.reduceNeg, Int.reduceBNe, ite_true, ite_false, if_true, if_false, implies_true, forall_const]
  exact this
theorem byte_mod {n : Int} {j : Nat} (hj : j < 8) : ((n % 18446744073709551616) / 2 ^ (8 * j)) % 256 = (n / 2 ^ (8 * j)) % 256 := by
  have : j = 0 ∨ j = 1 ∨ j = 2 ∨ j = 3 ∨ j = 4 ∨ j = 5 ∨ j = 6 ∨ j = 7 := by omega
  rcases this with rfl | rfl | rfl | rfl | rfl | rfl | rfl | rfl <;> simp only [Nat.mul_zero, Nat.reduceMul, Int.reducePow] <;> omega
/-- What is left of a number. -/
def rest (n : Int) (j : Nat) : Int := (n % 18446744073709551616) / 2 ^ (8 * j)
theorem rest_0 (n : Int) : rest n 0 = n % 18446744073709551616 := by unfold rest; simp
theorem rest_succ (n : Int) (j : Nat) : rest n j / 256 = rest n (j + 1) := by
  unfold rest
  rw [Int.ediv_ediv_of_nonneg (by exact Int.le_of_lt (Int.pow_pos (by decide)))]
  congr 1
  rw [show 8 * (j + 1) = 8 * j + 8 by omega, Int.pow_add]; rfl
theorem rest_b (n : Int) (j : Nat) : 0 ≤ rest n j ∧ rest n j < 18446744073709551616 := by
  unfold rest
  have h1 : 0 ≤ n % 18446744073709551616 := Int.emod_nonneg _ (by decide)
  have h2 : n % 18446744073709551616 < 18446744073709551616 := Int.emod_lt_of_pos _ (by decide)
  have hp : (0 : Int) < 2 ^ (8 * j) := Int.pow_pos (by decide)
  refine ⟨Int.ediv_nonneg h1 (Int.le_of_lt hp), ?_⟩
  exact Int.lt_of_le_of_lt (Int.ediv_le_self _ h1) h2
theorem fill_loop {h : Hp} (c : List PV) (n : Int) (w : Nat) (hw : w ≤ 8) : ∀ (m j : Nat), j + m = w →
    P19_2 (size h) (size h) (i64 ((m : Int) - 1)) (.int .u64 (rest n j)) (.bsl true (size h + 1) 0 w 1) (ext h [.cells c, .cells (u8s (List.replicate m 0 ++ laidL n j))]) = some (.sl .full 1 (u8s (laidL n w)), h)
  | 0, j, hj => by
    rw [P19_2_eq]
    have e : j = w := by omega
    subst e
    have h1 : (((0 : Nat) : Int) - 1 ≥ 0) = False := by simp
    have n1 : (size h + 1 < size h) = False := by simp
    have t : (u8s (laidL n j)).take j = u8s (laidL n j) := List.take_of_length_le (by rw [Bu.len, laidL_len]; exact Nat.le_refl _)
    have t2 : (u8s (laidL n j)).length = j := by rw [Bu.len, laidL_len]
    simp only [h1, n1, elemsOf, t, t2, Bu.scalar, Bu.strips, Bu.below, List.replicate_zero, List.nil_append, ↓evD, evU, evL, Nat.reduceAdd, Nat.reduceSub, Nat.reduceMul, Nat.reduceLeDiff, Nat.reduceLT, Nat.reduceEqDiff, Nat.reduceBEq, reduceIte, reduceCtorEq, Int.reduceBEq, Int.reduceEq, Int.reduceLT, Int.reduceLE, Int.reduceGT, Int.reduceGE, Int.reduceAdd, Int.reduceSub, Int.reduceNeg, Int.reduceBNe, ite_true, ite_false, if_true, if_false, implies_true, forall_const]
  | m + 1, j, hj => by
    rw [P19_2_eq]
    have h1 : (((m + 1 : Nat) : Int) - 1 ≥ 0) = True := by simp
    have w0 : ((m + 1 : Nat) : Int) - 1 = (m : Int) := by omega
    have h2 : ((m : Int) ≥ 0) = True := by simp
    have w1 : IntKind.i64.wrap ((m : Int) - 1) = (m : Int) - 1 := by rw [wrap_small] <;> omega
    obtain ⟨r0, r1⟩ := rest_b n j
    have e1 : (rest n j).tmod 256 = rest n j % 256 := Int.tmod_eq_emod_of_nonneg r0
    have e2 : (rest n j).tdiv 256 = rest n j / 256 := Int.tdiv_eq_ediv_of_nonneg r0
    have e3 : IntKind.u8.wrap (rest n j % 256) = (((byteAt n j).toNat : Nat) : Int) := by
      rw [byteAt_val, wrap_u8i, Int.emod_emod_of_dvd _ (Int.dvd_refl _)]
      exact byte_mod (by omega)
    obtain ⟨s0, s1⟩ := rest_b n (j + 1)
    have e4 : IntKind.u64.wrap (rest n j / 256) = rest n (j + 1) := by
      rw [rest_succ]
      show rest n (j + 1) % 18446744073709551616 = _
      omega
    have z : ((256 : Int) = 0) = False := by simp
    have hix : ix (.int .i64 (m : Int)) w = some m := ix_nat .i64 m w (by omega)
    have hset : (u8s (List.replicate (m + 1) 0 ++ laidL n j)).set m (.int .u8 (byteAt n j).toNat) = u8s (List.replicate m 0 ++ byteAt n j :: laidL n j) := by rw [set_u8s, rep_set]
    have hle : (m + 1 ≤ (u8s (List.replicate (m + 1) 0 ++ laidL n j)).length) = True := by rw [Bu.len]; simp
    have n1 : (size h + 1 < size h) = False := by simp
    have ih := fill_loop (h := h) c n w hw m (j + 1) (by omega)
    simp only [laidL] at ih
    generalize List.replicate (m + 1) 0 ++ laidL n j = l at *
    simp only [h1, h2, w0, w1, e1, e2, e3, e4, z, hix, hset, hle, n1, ih, Nat.mul_one, ↓evD, evU, evL, Nat.reduceAdd, Nat.reduceSub, Nat.reduceMul, Nat.reduceLeDiff, Nat.reduceLT, Nat.reduceEqDiff, Nat.reduceBEq, reduceIte, reduceCtorEq, Int.reduceBEq, Int.reduceEq, Int.reduceLT, Int.reduceLE, Int.reduceGT, Int.reduceGE, Int.reduceAdd, Int.reduceSub, Int.reduceNeg, Int.reduceBNe, ite_true, ite_false, if_true, if_false, implies_true, forall_const]
theorem within_spec {base : Nat} {h : Hp} (n : Int) (w : Nat) (hw : w = 1 ∨ w = 2 ∨ w = 4) : CallA T base 37 [i64 n, i64 w] h =
    some (.bool (decide (-(if w = 1 then 128 else if w = 2 then 32768 else 2147483648) ≤ n ∧ n ≤ (if w = 1 then 127 else if w = 2 then 32767 else 2147483647))), h) := by
  rw [S37]
  have e1 : IntKind.i64.wrap (0 - 127) = -127 := rfl
  have e2 : IntKind.i64.wrap (0 - 32767) = -32767 := rfl
  have e3 : IntKind.i64.wrap (0 - 2147483647) = -2147483647 := rfl
  have f1 : IntKind.i64.wrap (-127 - 1) = -128 := rfl
  have f2 : IntKind.i64.wrap (-32767 - 1) = -32768 := rfl
  have f3 : IntKind.i64.wrap (-2147483647 - 1) = -2147483648 := rfl
  have e1' : IntKind.i64.wrap (-127) = -127 := rfl
  have e2' : IntKind.i64.wrap (-32767) = -32767 := rfl
  have e3' : IntKind.i64.wrap (-2147483647) = -2147483647 := rfl
  have f1' : IntKind.i64.wrap (-128) = -128 := rfl
  have f2' : IntKind.i64.wrap (-32768) = -32768 := rfl
  have f3' : IntKind.i64.wrap (-2147483648) = -2147483648 := rfl
  rcases hw with rfl | rfl | rfl
  · by_cases a : n ≤ 127
    · by_cases b : -128 ≤ n
      · have b' : n ≥ -128 := b
        simp only [e1, f1, e1', f1', a, b, b', Int.natCast_one, Int.ofNat_one, ↓evD, evU, evL, Nat.reduceAdd, Nat.reduceSub, Nat.reduceMul, Nat.reduceLeDiff, Nat.reduceLT, Nat.reduceEqDiff, Nat.reduceBEq, reduceIte, reduceCtorEq, Int.reduceBEq, Int.reduceEq, Int.reduceLT, Int.reduceLE, Int.reduceGT, Int.reduceGE, Int.reduceAdd, Int.reduceSub, Int.reduceNeg, Int.reduceBNe, ite_true, ite_false, if_true, if_false, implies_true, forall_const]
      · have b' : ¬ n ≥ -128 := b
        simp only [e1, f1, e1', f1', a, b, b', Int.natCast_one, Int.ofNat_one, ↓evD, evU, evL, Nat.reduceAdd, Nat.reduceSub, Nat.reduceMul, Nat.reduceLeDiff, Nat.reduceLT, Nat.reduceEqDiff, Nat.reduceBEq, reduceIte, reduceCtorEq, Int.reduceBEq, Int.reduceEq, Int.reduceLT, Int.reduceLE, Int.reduceGT, Int.reduceGE, Int.reduceAdd, Int.reduceSub, Int.reduceNeg, Int.reduceBNe, ite_true, ite_false, if_true, if_false, implies_true, forall_const]
    · simp only [e1, f1, e1', f1', a, Int.natCast_one, Int.ofNat_one, ↓evD, evU, evL, Nat.reduceAdd, Nat.reduceSub, Nat.reduceMul, Nat.reduceLeDiff, Nat.reduceLT, Nat.reduceEqDiff, Nat.reduceBEq, reduceIte, reduceCtorEq, Int.reduceBEq, Int.reduceEq, Int.reduceLT, Int.reduceLE, Int.reduceGT, Int.reduceGE, Int.reduceAdd, Int.reduceSub, Int.reduceNeg, Int.reduceBNe, ite_true, ite_false, if_true, if_false, implies_true, forall_const]
  · have z : ((2 : Nat) : Int) = 2 := rfl
    by_cases a : n ≤ 32767
    · by_cases b : -32768 ≤ n
      · have b' : n ≥ -32768 := b
        simp only [z, e2, f2, e2', f2', a, b, b', ↓evD, evU, evL, Nat.reduceAdd, Nat.reduceSub, Nat.reduceMul, Nat.reduceLeDiff, Nat.reduceLT, Nat.reduceEqDiff, Nat.reduceBEq, reduceIte, reduceCtorEq, Int.reduceBEq, Int.reduceEq, Int.reduceLT, Int.reduceLE, Int.reduceGT, Int.reduceGE, Int.reduceAdd, Int.reduceSub, Int.reduceNeg, Int.reduceBNe, ite_true, ite_false, if_true, if_false, implies_true, forall_const]
      · have b' : ¬ n ≥ -32768 := b
        simp only [z, e2, f2, e2', f2', a, b, b', ↓evD, evU, evL, Nat.reduceAdd, Nat.reduceSub, Nat.reduceMul, Nat.reduceLeDiff, Nat.reduceLT, Nat.reduceEqDiff, Nat.reduceBEq, reduceIte, reduceCtorEq, Int.reduceBEq, Int.reduceEq, Int.reduceLT, Int.reduceLE, Int.reduceGT, Int.reduceGE, Int.reduceAdd, Int.reduceSub, Int.reduceNeg, Int.reduceBNe, ite_true, ite_false, if_true, if_false, implies_true, forall_const]
    · simp only [z, e2, f2, e2', f2', a, ↓evD, evU, evL, Nat.reduceAdd, Nat.reduceSub, Nat.reduceMul, Nat.reduceLeDiff, Nat.reduceLT, Nat.reduceEqDiff, Nat.reduceBEq, reduceIte, reduceCtorEq, Int.reduceBEq, Int.reduceEq, Int.reduceLT, Int.reduceLE, Int.reduceGT, Int.reduceGE, Int.reduceAdd, Int.reduceSub, Int.reduceNeg, Int.reduceBNe, ite_true, ite_false, if_true, if_false, implies_true, forall_const]
  · have z : ((4 : Nat) : Int) = 4 := rfl
    by_cases a : n ≤ 2147483647
    · by_cases b : -2147483648 ≤ n
      · have b' : n ≥ -2147483648 := b
        simp only [z, e3, f3, e3', f3', a, b, b', ↓evD, evU, evL, Nat.reduceAdd, Nat.reduceSub, Nat.reduceMul, Nat.reduceLeDiff, Nat.reduceLT, Nat.reduceEqDiff, Nat.reduceBEq, reduceIte, reduceCtorEq, Int.reduceBEq, Int.reduceEq, Int.reduceLT, Int.reduceLE, Int.reduceGT, Int.reduceGE, Int.reduceAdd, Int.reduceSub, Int.reduceNeg, Int.reduceBNe, ite_true, ite_false, if_true, if_false, implies_true, forall_const]
      · have b' : ¬ n ≥ -2147483648 := b
        simp only [z, e3, f3, e3', f3', a, b, b', ↓evD, evU, evL, Nat.reduceAdd, Nat.reduceSub, Nat.reduceMul, Nat.reduceLeDiff, Nat.reduceLT, Nat.reduceEqDiff, Nat.reduceBEq, reduceIte, reduceCtorEq, Int.reduceBEq, Int.reduceEq, Int.reduceLT, Int.reduceLE, Int.reduceGT, Int.reduceGE, Int.reduceAdd, Int.reduceSub, Int.reduceNeg, Int.reduceBNe, ite_true, ite_false, if_true, if_false, implies_true, forall_const]
    · simp only [z, e3, f3, e3', f3', a, ↓evD, evU, evL, Nat.reduceAdd, Nat.reduceSub, Nat.reduceMul, Nat.reduceLeDiff, Nat.reduceLT, Nat.reduceEqDiff, Nat.reduceBEq, reduceIte, reduceCtorEq, Int.reduceBEq, Int.reduceEq, Int.reduceLT, Int.reduceLE, Int.reduceGT, Int.reduceGE, Int.reduceAdd, Int.reduceSub, Int.reduceNeg, Int.reduceBNe, ite_true, ite_false, if_true, if_false, implies_true, forall_const]
abbrev vC (v : Vi) : List PV := [i64 v.k, i64 v.n, .str v.s, v.b.1, i64 v.o, i64 v.i]
theorem fill_spec {h : Hp} (v : Vi) (w : Nat) (hw : w ≤ 8) : (bnd2 (makeV 5 [(.int .u8 0)] (i64 w) (i64 w) (ext h [.cells (vC v)])) fun x28 h29 =>
     (fieldAB (.ptr (size h) 0) 1).bnd fun x31 =>
     (loadV 1 false x31 h29).bnd fun x32 =>
     (toIntB x32 .u64).bnd fun x33 =>
     (binOp .sub (i64 w) (.int .i64 1)).bnd fun x36 =>
     P19_2 (size h) (size h) x36 x33 x28 h29) = some (.sl .full 1 (u8s (laidL v.n w)), h) := by
  have hm := make_u8 (h := ext h [.cells (vC v)]) w (by unfold lim2; omega)
  have hf := fill_loop (h := h) (vC v) v.n w hw w 0 (by omega)
  rw [rest_0] at hf
  simp only [laidL, List.append_nil] at hf
  have w1 : IntKind.i64.wrap ((w : Int) - 1) = (w : Int) - 1 := by rw [wrap_small] <;> omega
  have w2 : IntKind.u64.wrap v.n = v.n % 18446744073709551616 := rfl
  simp only [hm, w1, w2, vC, ↓evD, evU, evL, Nat.reduceAdd, Nat.reduceSub, Nat.reduceMul, Nat.reduceLeDiff, Nat.reduceLT, Nat.reduceEqDiff, Nat.reduceBEq, reduceIte, reduceCtorEq, Int.reduceBEq, Int.reduceEq, Int.reduceLT, Int.reduceLE, Int.reduceGT, Int.reduceGE, Int.reduceAdd, Int.reduceSub, Int.reduceNeg, Int.reduceBNe, ite_true, ite_false, if_true, if_false, implies_true, forall_const]
  exact hf
theorem wid_stop {h : Hp} (v : Vi) (w : Nat) (hw : (w = 8) ∨ ((w = 1 ∨ w = 2 ∨ w = 4) ∧ (-(if w = 1 then 128 else if w = 2 then 32768 else 2147483648) ≤ v.n ∧ v.n ≤ (if w = 1 then 127 else if w = 2 then 32767 else 2147483647)))) :
    P19_1 (size h) (size h) (i64 w) (.ptr (size h) 0) (ext h [.cells (vC v)]) = some (.sl .full 1 (u8s (laidL v.n w)), h) := by
  rw [P19_1_eq]
  have hf := fill_spec (h := h) v w (by omega)
  rcases hw with rfl | ⟨hw, hq⟩
  · have h1 : (((8 : Nat) : Int) < 8) = False := by simp
    have z : ((8 : Nat) : Int) = 8 := rfl
    rw [z] at h1
    simp only [z, h1, ↓evD, evU, evL, Nat.reduceAdd, Nat.reduceSub, Nat.reduceMul, Nat.reduceLeDiff, Nat.reduceLT, Nat.reduceEqDiff, Nat.reduceBEq, reduceIte, reduceCtorEq, Int.reduceBEq, Int.reduceEq, Int.reduceLT, Int.reduceLE, Int.reduceGT, Int.reduceGE, Int.reduceAdd, Int.reduceSub, Int.reduceNeg, Int.reduceBNe, ite_true, ite_false, if_true, if_false, implies_true, forall_const]
    rw [z] at hf
    simp only [vC, ↓evD, evU, evL, Nat.reduceAdd, Nat.reduceSub, Nat.reduceMul, Nat.reduceLeDiff, Nat.reduceLT, Nat.reduceEqDiff, Nat.reduceBEq, reduceIte, reduceCtorEq, Int.reduceBEq, Int.reduceEq, Int.reduceLT, Int.reduceLE, Int.reduceGT, Int.reduceGE, Int.reduceAdd, Int.reduceSub, Int.reduceNeg, Int.reduceBNe, ite_true, ite_false, if_true, if_false, implies_true, forall_const] at hf
    exact hf
  · have h1 : ((w : Int) < 8) = True := by simp; omega
    have hW : ∀ h', _ := fun h' => within_spec (base := size h) (h := h') v.n w hw
    rw [decide_eq_true hq] at hW
    simp only [vC] at hf
    simp only [h1, hW, vC, ↓evD, evU, evL, Nat.reduceAdd, Nat.reduceSub, Nat.reduceMul, Nat.reduceLeDiff, Nat.reduceLT, Nat.reduceEqDiff, Nat.reduceBEq, reduceIte, reduceCtorEq, Int.reduceBEq, Int.reduceEq, Int.reduceLT, Int.reduceLE, Int.reduceGT, Int.reduceGE, Int.reduceAdd, Int.reduceSub, Int.reduceNeg, Int.reduceBNe, ite_true, ite_false, if_true, if_false, implies_true, forall_const]
    simp only [↓evD, evU, evL, Nat.reduceAdd, Nat.reduceSub, Nat.reduceMul, Nat.reduceLeDiff, Nat.reduceLT, Nat.reduceEqDiff, Nat.reduceBEq, reduceIte, reduceCtorEq, Int.reduceBEq, Int.reduceEq, Int.reduceLT, Int.reduceLE, Int.reduceGT, Int.reduceGE, Int.reduceAdd, Int.reduceSub, Int.reduceNeg, Int.reduceBNe, ite_true, ite_false, if_true, if_false, implies_true, forall_const] at hf
    exact hf
theorem wid_step {h : Hp} (v : Vi) (w : Nat) (hw : w = 1 ∨ w = 2 ∨ w = 4) (hq : ¬ (-(if w = 1 then 128 else if w = 2 then 32768 else 2147483648) ≤ v.n ∧ v.n ≤ (if w = 1 then 127 else if w = 2 then 32767 else 2147483647))) :
    P19_1 (size h) (size h) (i64 w) (.ptr (size h) 0) (ext h [.cells (vC v)]) = P19_1 (size h) (size h) (i64 ((2 * w : Nat) : Int)) (.ptr (size h) 0) (ext h [.cells (vC v)]) := by
  rw [P19_1_eq]
  have h1 : ((w : Int) < 8) = True := by simp; omega
  have hW : ∀ h', _ := fun h' => within_spec (base := size h) (h := h') v.n w hw
  rw [decide_eq_false hq] at hW
  have w1 : IntKind.i64.wrap ((w : Int) * 2) = ((2 * w : Nat) : Int) := by rw [wrap_small] <;> omega
  simp only [h1, hW, w1, vC, ↓evD, evU, evL, Nat.reduceAdd, Nat.reduceSub, Nat.reduceMul, Nat.reduceLeDiff, Nat.reduceLT, Nat.reduceEqDiff, Nat.reduceBEq, reduceIte, reduceCtorEq, Int.reduceBEq, Int.reduceEq, Int.reduceLT, Int.reduceLE, Int.reduceGT, Int.reduceGE, Int.reduceAdd, Int.reduceSub, Int.reduceNeg, Int.reduceBNe, ite_true, ite_false, if_true, if_false, implies_true, forall_const]
theorem wid_spec {h : Hp} (v : Vi) : P19_1 (size h) (size h) (.int .i64 1) (.ptr (size h) 0) (ext h [.cells (vC v)]) = some (.sl .full 1 (u8s (laidL v.n (widN v.n))), h) := by
  have z1 : (PV.int .i64 1) = i64 ((1 : Nat) : Int) := rfl
  rw [z1]
  unfold widN
  by_cases h1 : -128 ≤ v.n ∧ v.n ≤ 127
  · rw [if_pos h1]; exact wid_stop v 1 (.inr ⟨.inl rfl, h1⟩)
  rw [if_neg h1, wid_step v 1 (.inl rfl) h1]
  by_cases h2 : -32768 ≤ v.n ∧ v.n ≤ 32767
  · rw [if_pos h2]; exact wid_stop v 2 (.inr ⟨.inr (.inl rfl), h2⟩)
  rw [if_neg h2, wid_step v 2 (.inr (.inl rfl)) h2]
  by_cases h3 : -2147483648 ≤ v.n ∧ v.n ≤ 2147483647
  · rw [if_pos h3]; exact wid_stop v 4 (.inr ⟨.inr (.inr rfl), h3⟩)
  rw [if_neg h3, wid_step v 4 (.inr (.inr rfl)) h3]
  exact wid_stop v 8 (.inl rfl)
/-- What the reference writes. -/
noncomputable def wireR (v : Vi) : List UInt8 :=
  if v.k = 1 ∨ v.k = 5 then laidL v.n (widN v.n) else if v.k = 2 then laidL v.n 1 else if v.k = 3 then v.s else if v.k = 4 then bxL v.b else if v.k = 6 then laidL v.o 2 ++ laidL v.i 2 else []
theorem wireR_spec (v : Vi) (hv : v.ok) (ho : v.k = 6 → 0 ≤ v.o ∧ v.o ≤ 65535 ∧ 0 ≤ v.i ∧ v.i ≤ 65535) :
    ∃ p, Bv p (wireR v) ∧ ∀ base h, CallA T base 19 [eA v] h = some (p, h) := by
  have hw := fun h => wid_spec (h := h) v
  obtain ⟨k, n, s, b, o, i⟩ := v
  have hs := hv.hs
  have hl := hv.hl
  simp only at hs hl ho
  unfold wireR eA
  simp only [vC] at hw
  simp only
  have sc := (bxV b).scalar
  have ce := (bxV b).cells
  by_cases h1 : k = 1
  · subst h1
    refine ⟨_, .full _, ?_⟩
    rw [if_pos (.inl rfl)]
    intro base h
    rw [S19]
    have hw := hw h
    have n1 : (size h < size h) = False := by simp
    simp only [sc, ce, P19_0_eq, hw, ↓evD, evU, evL, Nat.reduceAdd, Nat.reduceSub, Nat.reduceMul, Nat.reduceLeDiff, Nat.reduceLT, Nat.reduceEqDiff, Nat.reduceBEq, reduceIte, reduceCtorEq, Int.reduceBEq, Int.reduceEq, Int.reduceLT, Int.reduceLE, Int.reduceGT, Int.reduceGE, Int.reduceAdd, Int.reduceSub, Int.reduceNeg, Int.reduceBNe, ite_true, ite_false, if_true, if_false, implies_true, forall_const]
  by_cases h5 : k = 5
  · subst h5
    refine ⟨_, .full _, ?_⟩
    rw [if_pos (.inr rfl)]
    intro base h
    rw [S19]
    have hw := hw h
    have n1 : (size h < size h) = False := by simp
    simp only [sc, ce, P19_0_eq, hw, ↓evD, evU, evL, Nat.reduceAdd, Nat.reduceSub, Nat.reduceMul, Nat.reduceLeDiff, Nat.reduceLT, Nat.reduceEqDiff, Nat.reduceBEq, reduceIte, reduceCtorEq, Int.reduceBEq, Int.reduceEq, Int.reduceLT, Int.reduceLE, Int.reduceGT, Int.reduceGE, Int.reduceAdd, Int.reduceSub, Int.reduceNeg, Int.reduceBNe, ite_true, ite_false, if_true, if_false, implies_true, forall_const]
  rw [if_neg (by rintro (q | q) <;> contradiction)]
  have byte0 : ∀ x : Int, IntKind.u8.wrap x = (((byteAt x 0).toNat : Nat) : Int) := by
    intro x; rw [byteAt_val, wrap_u8i]; simp
  by_cases h2 : k = 2
  · subst h2
    rw [if_pos rfl]
    refine ⟨.sl .full 1 (u8s (laidL n 1)), .full _, ?_⟩
    have e : u8s (laidL n 1) = [.int .u8 ((byteAt n 0).toNat : Nat)] := rfl
    rw [e]
    intro base h
    rw [S19]
    have hw := hw h
    have n1 : (size h < size h) = False := by simp
    simp only [sc, ce, P19_0_eq, byte0, ↓evD, evU, evL, Nat.reduceAdd, Nat.reduceSub, Nat.reduceMul, Nat.reduceLeDiff, Nat.reduceLT, Nat.reduceEqDiff, Nat.reduceBEq, reduceIte, reduceCtorEq, Int.reduceBEq, Int.reduceEq, Int.reduceLT, Int.reduceLE, Int.reduceGT, Int.reduceGE, Int.reduceAdd, Int.reduceSub, Int.reduceNeg, Int.reduceBNe, ite_true, ite_false, if_true, if_false, implies_true, forall_const]
  rw [if_neg h2]
  by_cases h3 : k = 3
  · subst h3
    rw [if_pos rfl]
    refine ⟨.sl .no 1 (u8s s), .no _, ?_⟩
    have hsb : ∀ h', strBytesB false (.str s) h' = some (.sl .no 1 (u8s s), h') := by
      intro h'
      unfold strBytesB
      simp only
      rw [if_pos (by unfold limS; omega)]; rfl
    intro base h
    rw [S19]
    have hw := hw h
    have n1 : (size h < size h) = False := by simp
    simp only [sc, ce, P19_0_eq, hsb, Bu.below, ↓evD, evU, evL, Nat.reduceAdd, Nat.reduceSub, Nat.reduceMul, Nat.reduceLeDiff, Nat.reduceLT, Nat.reduceEqDiff, Nat.reduceBEq, reduceIte, reduceCtorEq, Int.reduceBEq, Int.reduceEq, Int.reduceLT, Int.reduceLE, Int.reduceGT, Int.reduceGE, Int.reduceAdd, Int.reduceSub, Int.reduceNeg, Int.reduceBNe, ite_true, ite_false, if_true, if_false, implies_true, forall_const]
  rw [if_neg h3]
  by_cases h4 : k = 4
  · subst h4
    rw [if_pos rfl]
    refine ⟨gD zF1 1 (u8s (bxL b)), Bv.done (gZ_full 1) _, ?_⟩
    have hc := fun base h' => copy_spec (base := base) (h := h') (bxV b) (by omega)
    have hd := Bv.done (gZ_full 1) (bxL b)
    generalize gD zF1 1 (u8s (bxL b)) = d at *
    intro base h
    rw [S19]
    have hw := hw h
    have n1 : (size h < size h) = False := by simp
    simp only [sc, ce, P19_0_eq, hc, hd.frz, hd.below, ↓evD, evU, evL, Nat.reduceAdd, Nat.reduceSub, Nat.reduceMul, Nat.reduceLeDiff, Nat.reduceLT, Nat.reduceEqDiff, Nat.reduceBEq, reduceIte, reduceCtorEq, Int.reduceBEq, Int.reduceEq, Int.reduceLT, Int.reduceLE, Int.reduceGT, Int.reduceGE, Int.reduceAdd, Int.reduceSub, Int.reduceNeg, Int.reduceBNe, ite_true, ite_false, if_true, if_false, implies_true, forall_const]
  rw [if_neg h4]
  by_cases h6 : k = 6
  · subst h6
    rw [if_pos rfl]
    obtain ⟨o0, o1, i0, i1⟩ := ho rfl
    refine ⟨.sl .full 1 (u8s (laidL o 2 ++ laidL i 2)), .full _, ?_⟩
    have e : u8s (laidL o 2 ++ laidL i 2) = [.int .u8 ((byteAt o 1).toNat : Nat), .int .u8 ((byteAt o 0).toNat : Nat), .int .u8 ((byteAt i 1).toNat : Nat), .int .u8 ((byteAt i 0).toNat : Nat)] := rfl
    rw [e]
    have hi1 : ∀ x : Int, 0 ≤ x → x ≤ 65535 → IntKind.u8.wrap (IntKind.i64.wrap (x.tdiv 256)) = (((byteAt x 1).toNat : Nat) : Int) ∧ IntKind.u8.wrap (x.tmod 256) = (((byteAt x 0).toNat : Nat) : Int) := by
      intro x h0 h1
      rw [byteAt_val, byteAt_val, wrap_u8i, wrap_u8i, Int.tdiv_eq_ediv_of_nonneg h0, Int.tmod_eq_emod_of_nonneg h0, wrap_small (by omega) (by omega)]
      have p1 : (2 : Int) ^ (8 * 1) = 256 := by decide
      have p0 : (2 : Int) ^ (8 * 0) = 1 := by decide
      rw [p1, p0]
      omega
    obtain ⟨a1, a0⟩ := hi1 o o0 o1
    obtain ⟨b1, b0⟩ := hi1 i i0 i1
    have z : ((256 : Int) = 0) = False := by simp
    intro base h
    rw [S19]
    have hw := hw h
    have n1 : (size h < size h) = False := by simp
    simp only [sc, ce, P19_0_eq, a1, a0, b1, b0, z, ↓evD, evU, evL, Nat.reduceAdd, Nat.reduceSub, Nat.reduceMul, Nat.reduceLeDiff, Nat.reduceLT, Nat.reduceEqDiff, Nat.reduceBEq, reduceIte, reduceCtorEq, Int.reduceBEq, Int.reduceEq, Int.reduceLT, Int.reduceLE, Int.reduceGT, Int.reduceGE, Int.reduceAdd, Int.reduceSub, Int.reduceNeg, Int.reduceBNe, ite_true, ite_false, if_true, if_false, implies_true, forall_const]
  rw [if_neg h6]
  refine ⟨.sl .full 1 [], .full [], ?_⟩
  intro base h
  rw [S19]
  simp only [sc, ce, P19_0_eq, h1, h2, h3, h4, h5, h6, beq_false_of h1, beq_false_of h2, beq_false_of h3, beq_false_of h4, beq_false_of h5, beq_false_of h6, ↓evD, evU, evL, Nat.reduceAdd, Nat.reduceSub, Nat.reduceMul, Nat.reduceLeDiff, Nat.reduceLT, Nat.reduceEqDiff, Nat.reduceBEq, reduceIte, reduceCtorEq, Int.reduceBEq, Int.reduceEq, Int.reduceLT, Int.reduceLE, Int.reduceGT, Int.reduceGE, Int.reduceAdd, Int.reduceSub, Int.reduceNeg, Int.reduceBNe, ite_true, ite_false, if_true, if_false, implies_true, forall_const]
end Go.Am.YtppkffebmoffnaaDoor
namespace Go.Am.YtppkffebmoffnaaDoor
set_option maxRecDepth 100000
set_option linter.unusedSimpArgs false
set_option linter.unusedVariables false
theorem or_low {n c : Int} (h0 : -36028797018963968 ≤ n) (h1 : n < 36028797018963968) (c0 : 0 ≤ c) (c1 : c < 256) : intBits .or .i64 (n * 256) c = some (i64 (n * 256 + c)) := by
  have e1 : BitVec.ofInt 64 (n * 256) = BitVec.ofInt 64 n <<< 8 := by
    rw [BitVec.shiftLeft_eq_mul_twoPow, BitVec.ofInt_mul]; rfl
  have e2 : BitVec.ofInt 64 (n * 256) &&& BitVec.ofInt 64 c = 0#64 := by
    rw [e1]
    obtain ⟨m, rfl⟩ := Int.eq_ofNat_of_zero_le c0
    apply BitVec.eq_of_getLsbD_eq
    intro i hi
    rw [BitVec.getLsbD_and, BitVec.getLsbD_shiftLeft, BitVec.ofInt_natCast, BitVec.getLsbD_ofNat]
    by_cases h8 : i < 8
    · simp [h8]
    · have : m.testBit i = false := Nat.testBit_lt_two_pow (by
        have : 2 ^ 8 ≤ 2 ^ i := Nat.pow_le_pow_right (by decide) (by omega)
        omega)
      simp [this]
  have e3 : BitVec.ofInt 64 (n * 256) ||| BitVec.ofInt 64 c = BitVec.ofInt 64 (n * 256 + c) := by
    rw [← BitVec.add_eq_or_of_and_eq_zero _ _ e2, BitVec.ofInt_add]
  unfold intBits
  change some (PV.int .i64 (IntKind.i64.wrap ((BitVec.ofInt 64 (n * 256) ||| BitVec.ofInt 64 c).toNat : Int))) = _
  rw [e3, BitVec.toNat_ofInt]
  congr 2
  rw [IntKind.wrap_i64]
  have : ((2 : Nat) ^ 64 : Nat) = (18446744073709551616 : Int) := rfl
  rw [Int.toNat_of_nonneg (Int.emod_nonneg _ (by decide)), this]
  omega
/-- A number of bytes, the highest first, the first one with its sign. -/
def foldZ (n : Int) (l : List UInt8) : Int := l.foldl (fun n c => n * 256 + c.toNat) n
def i8Z (c : UInt8) : Int := if c.toNat < 128 then c.toNat else (c.toNat : Int) - 256
def numZ : List UInt8 → Int
  | [] => 0
  | c :: r => foldZ (i8Z c) r
theorem i8_wrap (c : UInt8) : IntKind.i64.wrap (IntKind.i8.wrap (c.toNat : Int)) = i8Z c := by
  have hc := c.toNat_lt
  have e8 : ∀ n : Int, IntKind.i8.wrap n = if n % 256 ≥ 128 then n % 256 - 256 else n % 256 := by intro n; simp [IntKind.wrap, IntKind.bits, IntKind.signed]
  rw [e8]
  unfold i8Z
  rw [wrap_small] <;> split <;> (try split) <;> omega
theorem i8Z_b (c : UInt8) : -128 ≤ i8Z c ∧ i8Z c < 128 := by
  have hc := c.toNat_lt
  unfold i8Z; split <;> omega
theorem num_loop {h : Hp} {o : Own} (l : List UInt8) (hl : l.length ≤ 7) : ∀ (r q : List UInt8) (n : Int), l = q ++ r → -(128 * 256 ^ q.length) ≤ n → n < 128 * 256 ^ q.length →
    P48_0 (size h) (size h) (i64 q.length) (i64 n) (.sl o 1 (u8s l)) (i64 l.length) h = some (.tup [i64 (foldZ n r), .bool true], h)
  | [], q, n, hp, h0, h1 => by
    rw [P48_0_eq]
    have e : l = q := by rw [hp]; simp
    subst e
    have h1 : ((l.length : Int) < (l.length : Int)) = False := by simp
    simp only [h1, foldZ, List.foldl_nil, ↓evD, evU, evL, Nat.reduceAdd, Nat.reduceSub, Nat.reduceMul, Nat.reduceLeDiff, Nat.reduceLT, Nat.reduceEqDiff, Nat.reduceBEq, reduceIte, reduceCtorEq, Int.reduceBEq, Int.reduceEq, Int.reduceLT, Int.reduceLE, Int.reduceGT, Int.reduceGE, Int.reduceAdd, Int.reduceSub, Int.reduceNeg, Int.reduceBNe, ite_true, ite_false, if_true, if_false, implies_true, forall_const]
  | x :: r, q, n, hp, h0, h1 => by
    rw [P48_0_eq]
    have el : l.length = q.length + (r.length + 1) := by rw [hp]; simp
    have hlt : ((q.length : Int) < (l.length : Int)) = True := by simp; omega
    have hx : l[q.length]? = some x := by rw [hp]; simp
    have w1 : IntKind.i64.wrap ((q.length : Int) + 1) = (((q ++ [x]).length : Nat) : Int) := by rw [show (q ++ [x]).length = q.length + 1 by simp, wrap_small] <;> omega
    have hx256 := x.toNat_lt
    have hp6 : (256 : Int) ^ q.length ≤ 256 ^ 6 := by
      have : (256 : Nat) ^ q.length ≤ 256 ^ 6 := Nat.pow_le_pow_right (by decide) (by omega)
      exact_mod_cast this
    have e6 : (256 : Int) ^ 6 = 281474976710656 := by decide
    rw [e6] at hp6
    have hsh : shiftOp .shl .i64 n 8 = some (i64 (n * 256)) := by
      unfold shiftOp
      rw [if_neg (by decide)]
      have : min (8 : Int).toNat IntKind.i64.bits = 8 := rfl
      simp only [this]
      have p8 : (2 : Int) ^ 8 = 256 := by decide
      rw [p8, wrap_small] <;> omega
    have w2 : IntKind.i64.wrap (x.toNat : Int) = x.toNat := by rw [wrap_small] <;> omega
    have hor := or_low (n := n) (c := x.toNat) (by omega) (by omega) (by omega) (by omega)
    have hid := (rd_sl o l).idx (k := .i64) hx
    have elp : (q ++ [x]).length = q.length + 1 := by simp
    have ih := num_loop (h := h) (o := o) l hl r (q ++ [x]) (n * 256 + x.toNat) (by rw [hp]; simp) (by rw [elp, Int.pow_succ]; omega) (by rw [elp, Int.pow_succ]; omega)
    have hf : foldZ n (x :: r) = foldZ (n * 256 + x.toNat) r := rfl
    have hior : intOp .or .i64 (n * 256) (x.toNat : Int) = intBits .or .i64 (n * 256) (x.toNat : Int) := rfl
    simp only [hlt, hid, hsh, w1, w2, hior, hor, ih, hf, ↓evD, evU, evL, Nat.reduceAdd, Nat.reduceSub, Nat.reduceMul, Nat.reduceLeDiff, Nat.reduceLT, Nat.reduceEqDiff, Nat.reduceBEq, reduceIte, reduceCtorEq, Int.reduceBEq, Int.reduceEq, Int.reduceLT, Int.reduceLE, Int.reduceGT, Int.reduceGE, Int.reduceAdd, Int.reduceSub, Int.reduceNeg, Int.reduceBNe, ite_true, ite_false, if_true, if_false, implies_true, forall_const]
def lens (n : Nat) : Bool := n == 1 || (n == 2 || (n == 4 || n == 8))
def idxZ (n : Int) : List Int → Int → Int
  | [], _ => -1
  | x :: r, i => if n == x then i else idxZ n r (i + 1)
theorem idx_loop {h : Hp} {b : PV} {xs : List Int} (hb : Rl eI 1 b xs) (hl : xs.length ≤ 1000000) (n : Int) : ∀ (r q : List Int), xs = q ++ r →
    P68_0 (size h) (size h) (i64 q.length) b (i64 n) (i64 xs.length) h = some (i64 (idxZ n r q.length), h)
  | [], q, hp => by
    rw [P68_0_eq]
    have e : xs = q := by rw [hp]; simp
    subst e
    have h1 : ((xs.length : Int) < (xs.length : Int)) = False := by simp
    simp only [h1, idxZ, ↓evD, evU, evL, Nat.reduceAdd, Nat.reduceSub, Nat.reduceMul, Nat.reduceLeDiff, Nat.reduceLT, Nat.reduceEqDiff, Nat.reduceBEq, reduceIte, reduceCtorEq, Int.reduceBEq, Int.reduceEq, Int.reduceLT, Int.reduceLE, Int.reduceGT, Int.reduceGE, Int.reduceAdd, Int.reduceSub, Int.reduceNeg, Int.reduceBNe, ite_true, ite_false, if_true, if_false, implies_true, forall_const]
  | x :: r, q, hp => by
    rw [P68_0_eq]
    have el : xs.length = q.length + (r.length + 1) := by rw [hp]; simp
    have h1 : ((q.length : Int) < (xs.length : Int)) = True := by simp; omega
    have hx : xs[q.length]? = some x := by rw [hp]; simp
    have hec : (eI x).cells = [i64 x] := rfl
    have e1 : ((q ++ [x]).length : Int) = (q.length : Int) + 1 := by simp
    have w1 : IntKind.i64.wrap ((q.length : Int) + 1) = (((q ++ [x]).length : Nat) : Int) := by rw [e1, wrap_small] <;> omega
    have ih := idx_loop (h := h) hb hl n r (q ++ [x]) (by rw [hp]; simp)
    cases hq : (n == x)
    · have e2 : idxZ n (x :: r) (q.length : Int) = idxZ n r ((q ++ [x]).length : Int) := by
        rw [e1]
        show (if (n == x) = true then _ else _) = _
        rw [hq]; rfl
      simp only [h1, hb.idx hx, hec, hq, w1, ih, e2, ↓evD, evU, evL, Nat.reduceAdd, Nat.reduceSub, Nat.reduceMul, Nat.reduceLeDiff, Nat.reduceLT, Nat.reduceEqDiff, Nat.reduceBEq, reduceIte, reduceCtorEq, Int.reduceBEq, Int.reduceEq, Int.reduceLT, Int.reduceLE, Int.reduceGT, Int.reduceGE, Int.reduceAdd, Int.reduceSub, Int.reduceNeg, Int.reduceBNe, ite_true, ite_false, if_true, if_false, implies_true, forall_const]
    · have e2 : idxZ n (x :: r) (q.length : Int) = (q.length : Int) := by
        show (if (n == x) = true then _ else _) = _
        rw [hq]; rfl
      simp only [h1, hb.idx hx, hec, hq, e2, ↓evD, evU, evL, Nat.reduceAdd, Nat.reduceSub, Nat.reduceMul, Nat.reduceLeDiff, Nat.reduceLT, Nat.reduceEqDiff, Nat.reduceBEq, reduceIte, reduceCtorEq, Int.reduceBEq, Int.reduceEq, Int.reduceLT, Int.reduceLE, Int.reduceGT, Int.reduceGE, Int.reduceAdd, Int.reduceSub, Int.reduceNeg, Int.reduceBNe, ite_true, ite_false, if_true, if_false, implies_true, forall_const]
theorem contains_spec {base : Nat} {h : Hp} (n : Nat) : CallA T base 59 [.sl .full 1 [.int .i64 1, .int .i64 2, .int .i64 4, .int .i64 8], i64 n] h = some (.bool (lens n), h) := by
  rw [S59]
  have hr : Rl eI 1 (.sl .full 1 [.int .i64 1, .int .i64 2, .int .i64 4, .int .i64 8]) [1, 2, 4, 8] := rl_sl (e := eI) (sz := 1) .full [1, 2, 4, 8]
  have h68 : CallA T (size h) 68 [.sl .full 1 [.int .i64 1, .int .i64 2, .int .i64 4, .int .i64 8], i64 n] h = some (i64 (idxZ n [1, 2, 4, 8] 0), h) := by
    rw [S68]
    have := idx_loop (h := h) hr (by decide) n [1, 2, 4, 8] [] rfl
    generalize PV.sl .full 1 [.int .i64 1, .int .i64 2, .int .i64 4, .int .i64 8] = L at *
    simp only [hr.len, ↓evD, evU, evL, Nat.reduceAdd, Nat.reduceSub, Nat.reduceMul, Nat.reduceLeDiff, Nat.reduceLT, Nat.reduceEqDiff, Nat.reduceBEq, reduceIte, reduceCtorEq, Int.reduceBEq, Int.reduceEq, Int.reduceLT, Int.reduceLE, Int.reduceGT, Int.reduceGE, Int.reduceAdd, Int.reduceSub, Int.reduceNeg, Int.reduceBNe, ite_true, ite_false, if_true, if_false, implies_true, forall_const]
    exact this
  have b1 : ((n : Int) == 1) = (n == 1) := by rw [Bool.eq_iff_iff, beq_iff_eq, beq_iff_eq]; omega
  have b2 : ((n : Int) == 2) = (n == 2) := by rw [Bool.eq_iff_iff, beq_iff_eq, beq_iff_eq]; omega
  have b4 : ((n : Int) == 4) = (n == 4) := by rw [Bool.eq_iff_iff, beq_iff_eq, beq_iff_eq]; omega
  have b8 : ((n : Int) == 8) = (n == 8) := by rw [Bool.eq_iff_iff, beq_iff_eq, beq_iff_eq]; omega
  have hz : decide (idxZ n [1, 2, 4, 8] 0 ≥ 0) = lens n := by
    simp only [idxZ, b1, b2, b4, b8]
    unfold lens
    cases (n == 1) <;> cases (n == 2) <;> cases (n == 4) <;> cases (n == 8) <;> rfl
  generalize idxZ n [1, 2, 4, 8] 0 = z at *
  generalize PV.sl .full 1 [.int .i64 1, .int .i64 2, .int .i64 4, .int .i64 8] = L at *
  rw [← hz]
  simp only [h68, ↓evD, evU, evL, Nat.reduceAdd, Nat.reduceSub, Nat.reduceMul, Nat.reduceLeDiff, Nat.reduceLT, Nat.reduceEqDiff, Nat.reduceBEq, reduceIte, reduceCtorEq, Int.reduceBEq, Int.reduceEq, Int.reduceLT, Int.reduceLE, Int.reduceGT, Int.reduceGE, Int.reduceAdd, Int.reduceSub, Int.reduceNeg, Int.reduceBNe, ite_true, ite_false, if_true, if_false, implies_true, forall_const]
def numB (l : List UInt8) : Int × Bool := if lens l.length = true then (numZ l, true) else (0, false)
theorem bnumber_spec {base : Nat} {h : Hp} {b : PV} {l : List UInt8} (hb : Bv b l) : CallA T base 48 [b] h = some (.tup [i64 (numB l).1, .bool (numB l).2], h) := by
  rw [S48]
  have hC := fun h' => contains_spec (base := size h) (h := h') l.length
  unfold numB
  cases hq : lens l.length
  · rw [hq] at hC
    simp only [hb.len, hC, ↓evD, evU, evL, Nat.reduceAdd, Nat.reduceSub, Nat.reduceMul, Nat.reduceLeDiff, Nat.reduceLT, Nat.reduceEqDiff, Nat.reduceBEq, reduceIte, reduceCtorEq, Int.reduceBEq, Int.reduceEq, Int.reduceLT, Int.reduceLE, Int.reduceGT, Int.reduceGE, Int.reduceAdd, Int.reduceSub, Int.reduceNeg, Int.reduceBNe, ite_true, ite_false, if_true, if_false, implies_true, forall_const]
  · rw [hq] at hC
    obtain ⟨c, r, rfl⟩ : ∃ c r, l = c :: r := by
      cases l with
      | nil => cases hq
      | cons c r => exact ⟨c, r, rfl⟩
    simp only [List.length_cons] at hC
    have hr : r.length ≤ 7 := by
      unfold lens at hq
      simp only [List.length_cons, Bool.or_eq_true, beq_iff_eq] at hq
      omega
    have hid := hb.idx (k := .i64) (i := 0) (c := c) rfl
    have z0 : ((0 : Nat) : Int) = 0 := rfl
    rw [z0] at hid
    obtain ⟨o, hs⟩ : ∃ o, sliceV (some 1) (some (.int .i64 1)) none none b = some (.sl o 1 (u8s r)) := by
      have hb1 := bdV_nat (r.length + 1) .i64 1 (by omega)
      have z1 : ((1 : Nat) : Int) = 1 := rfl
      rw [z1] at hb1
      have ht : (u8s r).take (r.length + 1 - 1) = u8s r := List.take_of_length_le (by rw [Bu.len]; omega)
      have hl : (u8s (c :: r)).length = r.length + 1 := by rw [Bu.len]; rfl
      rcases hb with ⟨_, q⟩ | rfl | rfl
      · cases q
      · refine ⟨.no, ?_⟩
        rw [sliceV_sl, hl, bdW_none, Option.bnd_some, bdW_some, hb1, Option.bnd_some]
        have : (u8s (c :: r)).drop 1 = u8s r := rfl
        rw [this, ht]; rfl
      · refine ⟨.full, ?_⟩
        rw [sliceV_sl, hl, bdW_none, Option.bnd_some, bdW_some, hb1, Option.bnd_some]
        have : (u8s (c :: r)).drop 1 = u8s r := rfl
        rw [this, ht]
        simp [isFull]
    have hln : lenB false (.sl o 1 (u8s r)) = some (i64 r.length) := (rd_sl o r).len
    have hb8 := i8Z_b c
    have hl := num_loop (h := h) (o := o) r hr r [] (i8Z c) rfl (by simp; omega) (by simp; omega)
    have z : (i64 (([] : List UInt8).length : Int)) = .int .i64 0 := rfl
    rw [z] at hl
    have hN : numZ (c :: r) = foldZ (i8Z c) r := rfl
    have h8 := i8_wrap c
    rw [if_pos rfl, hN]
    simp only [hb.len, hC, hid, hs, hln, h8, hl, ↓evD, evU, evL, Nat.reduceAdd, Nat.reduceSub, Nat.reduceMul, Nat.reduceLeDiff, Nat.reduceLT, Nat.reduceEqDiff, Nat.reduceBEq, reduceIte, reduceCtorEq, Int.reduceBEq, Int.reduceEq, Int.reduceLT, Int.reduceLE, Int.reduceGT, Int.reduceGE, Int.reduceAdd, Int.reduceSub, Int.reduceNeg, Int.reduceBNe, ite_true, ite_false, if_true, if_false, implies_true, forall_const]
end Go.Am.YtppkffebmoffnaaDoor
namespace Go.Am.YtppkffebmoffnaaDoor
set_option maxRecDepth 100000
set_option linter.unusedSimpArgs false
set_option linter.unusedVariables false
theorem foldZ_b : ∀ (r : List UInt8) (j : Nat) (n : Int), -(128 * 256 ^ j) ≤ n → n < 128 * 256 ^ j → -(128 * 256 ^ (j + r.length)) ≤ foldZ n r ∧ foldZ n r < 128 * 256 ^ (j + r.length)
  | [], j, n, h0, h1 => ⟨h0, h1⟩
  | x :: r, j, n, h0, h1 => by
    have hx := x.toNat_lt
    have := foldZ_b r (j + 1) (n * 256 + x.toNat) (by rw [Int.pow_succ]; omega) (by rw [Int.pow_succ]; omega)
    rw [show j + 1 + r.length = j + (x :: r).length by simp; omega] at this
    exact this
theorem numZ_in {l : List UInt8} (h : l.length ≤ 8) : in64 (numZ l) := by
  cases l with
  | nil => exact ⟨by decide, by decide⟩
  | cons c r =>
    have hc := i8Z_b c
    have := foldZ_b r 0 (i8Z c) (by simp; omega) (by simp; omega)
    have hp : (256 : Int) ^ (0 + r.length) ≤ 256 ^ 7 := by
      have : (256 : Nat) ^ (0 + r.length) ≤ 256 ^ 7 := Nat.pow_le_pow_right (by decide) (by simp only [List.length_cons] at h; omega)
      exact_mod_cast this
    have e7 : (256 : Int) ^ 7 = 72057594037927936 := by decide
    rw [e7] at hp
    have hN : numZ (c :: r) = foldZ (i8Z c) r := rfl
    unfold in64
    rw [hN]
    omega
abbrev nB : Bx := ⟨.nils, [], Bv.nils⟩
/-- The error of a kind's bytes. -/
def uwE (k : Int) (l : List UInt8) : Int :=
  if k = 1 ∨ k = 5 then (if lens l.length = true then 0 else 20) else
  if k = 2 then (match l with | [c] => if c.toNat ≤ 1 then 0 else 20 | _ => 20) else
  if k = 3 then (if 200 < l.length then 2 else if (runesG l).2 = true then 0 else 20) else
  if k = 4 then (if 200 < l.length then 2 else 0) else
  if k = 6 then (if l.length = 4 then 0 else 20) else 70
def byN (l : List UInt8) (i : Nat) : Int := ((l.getD i 0).toNat : Int)
/-- The value of a kind's bytes. -/
noncomputable def uwW (k : Int) (b : Bx) : Vi :=
  if k = 1 ∨ k = 5 then ⟨k, numZ (bxL b), [], nB, 0, 0⟩ else
  if k = 2 then ⟨2, byN (bxL b) 0, [], nB, 0, 0⟩ else
  if k = 3 then ⟨3, 0, bxL b, nB, 0, 0⟩ else
  if k = 4 then ⟨4, 0, [], b, 0, 0⟩ else
  ⟨6, 0, [], nB, byN (bxL b) 0 * 256 + byN (bxL b) 1, byN (bxL b) 2 * 256 + byN (bxL b) 3⟩
abbrev zV : List PV := [.int .i64 0, .int .i64 0, .str [], .nils, .int .i64 0, .int .i64 0]
abbrev uwH (h : Hp) (k n : Int) (s : List UInt8) (b : PV) (o i : Int) : Hp := ext h [.cells zV, .cells [i64 k, i64 n, .str s, b, i64 o, i64 i]]
theorem uw_end {h : Hp} (k n : Int) (s : List UInt8) (b : Bx) (o i : Int) (ok : Bool) :
    P38_1 (size h) (size h) (.ptr (size h) 0) (.ptr (size h + 1) 0) (.bool ok) (uwH h k n s b.1 o i) = some (.tup [val k n s b.1 o i, i64 (if ok then 0 else 20)], h) := by
  rw [P38_1_eq]
  have sc := (bxV b).scalar
  have ce := (bxV b).cells
  have fr := (bxV b).frz
  have be := (bxV b).below
  have n1 : (size h < size h) = False := by simp
  have n2 : (size h + 1 < size h) = False := by simp
  cases ok <;> simp only [uwH, resB_ptr, sc, ce, fr, be, n1, n2, ↓evD, evU, evL, Nat.reduceAdd, Nat.reduceSub, Nat.reduceMul, Nat.reduceLeDiff, Nat.reduceLT, Nat.reduceEqDiff, Nat.reduceBEq, reduceIte, reduceCtorEq, Int.reduceBEq, Int.reduceEq, Int.reduceLT, Int.reduceLE, Int.reduceGT, Int.reduceGE, Int.reduceAdd, Int.reduceSub, Int.reduceNeg, Int.reduceBNe, ite_true, ite_false, if_true, if_false, implies_true, forall_const]
theorem or_bytes (x y : UInt8) : shiftOp .shl .i64 (x.toNat : Int) 8 = some (i64 ((x.toNat : Int) * 256)) ∧ intOp .or .i64 ((x.toNat : Int) * 256) (y.toNat : Int) = some (i64 ((x.toNat : Int) * 256 + y.toNat)) := by
  have hx := x.toNat_lt
  have hy := y.toNat_lt
  refine ⟨?_, or_low (by omega) (by omega) (by omega) (by omega)⟩
  unfold shiftOp
  rw [if_neg (by decide)]
  have : min (8 : Int).toNat IntKind.i64.bits = 8 := rfl
  simp only [this]
  have p8 : (2 : Int) ^ 8 = 256 := by decide
  rw [p8, wrap_small] <;> omega
theorem len_cases4 {l : List UInt8} (h : l.length = 4) : ∃ a b c d, l = [a, b, c, d] := by
  match l, h with
  | [a, b, c, d], _ => exact ⟨a, b, c, d, rfl⟩
set_option maxHeartbeats 4000000 in
theorem unwire_spec {base : Nat} {h : Hp} (k : Int) (b : Bx) (hl : (bxL b).length ≤ 1000000) :
    ∃ w : Vi, (uwE k (bxL b) = 0 → w = uwW k b) ∧ CallA T base 38 [i64 k, b.1] h = some (.tup [eA w, i64 (uwE k (bxL b))], h) := by
  rw [S38]
  have hN := fun h' => bnumber_spec (base := size h) (h := h') (bxV b)
  have hR := fun h' => runes_spec (base := size h) (h := h') (s := bxL b) (by omega)
  have hE := fun k n s b o i ok => uw_end (h := h) k n s b o i ok
  have hbs := fun h' => bytesStr_bv (bxV b) h'
  have sc := (bxV b).scalar
  have ce := (bxV b).cells
  have st := (bxV b).strip
  have fr := (bxV b).frz
  have be := (bxV b).below
  have hln := (bxV b).len
  have n1 : (size h < size h) = False := by simp
  have n2 : (size h + 1 < size h) = False := by simp
  unfold uwE uwW
  unfold uwH at hE
  have hE0 := fun k n s o i ok => hE k n s nB o i ok
  simp only at hE0
  by_cases h1 : k = 1
  · subst h1
    have hc : ((1 : Int) = 1 ∨ (1 : Int) = 5) := .inl rfl
    rw [if_pos hc, if_pos hc]
    unfold numB at hN
    cases hq : lens (bxL b).length
    · rw [hq] at hN
      refine ⟨⟨1, 0, [], nB, 0, 0⟩, by simp, ?_⟩
      simp only [eA, P38_0_eq, hN, hE0, n1, n2, ↓evD, evU, evL, Nat.reduceAdd, Nat.reduceSub, Nat.reduceMul, Nat.reduceLeDiff, Nat.reduceLT, Nat.reduceEqDiff, Nat.reduceBEq, reduceIte, reduceCtorEq, Int.reduceBEq, Int.reduceEq, Int.reduceLT, Int.reduceLE, Int.reduceGT, Int.reduceGE, Int.reduceAdd, Int.reduceSub, Int.reduceNeg, Int.reduceBNe, ite_true, ite_false, if_true, if_false, implies_true, forall_const]
    · rw [hq] at hN
      refine ⟨_, fun _ => rfl, ?_⟩
      simp only [eA, P38_0_eq, hN, hE0, n1, n2, ↓evD, evU, evL, Nat.reduceAdd, Nat.reduceSub, Nat.reduceMul, Nat.reduceLeDiff, Nat.reduceLT, Nat.reduceEqDiff, Nat.reduceBEq, reduceIte, reduceCtorEq, Int.reduceBEq, Int.reduceEq, Int.reduceLT, Int.reduceLE, Int.reduceGT, Int.reduceGE, Int.reduceAdd, Int.reduceSub, Int.reduceNeg, Int.reduceBNe, ite_true, ite_false, if_true, if_false, implies_true, forall_const]
  by_cases h5 : k = 5
  · subst h5
    have hc : ((5 : Int) = 1 ∨ (5 : Int) = 5) := .inr rfl
    rw [if_pos hc, if_pos hc]
    unfold numB at hN
    cases hq : lens (bxL b).length
    · rw [hq] at hN
      refine ⟨⟨5, 0, [], nB, 0, 0⟩, by simp, ?_⟩
      simp only [eA, P38_0_eq, hN, hE0, n1, n2, ↓evD, evU, evL, Nat.reduceAdd, Nat.reduceSub, Nat.reduceMul, Nat.reduceLeDiff, Nat.reduceLT, Nat.reduceEqDiff, Nat.reduceBEq, reduceIte, reduceCtorEq, Int.reduceBEq, Int.reduceEq, Int.reduceLT, Int.reduceLE, Int.reduceGT, Int.reduceGE, Int.reduceAdd, Int.reduceSub, Int.reduceNeg, Int.reduceBNe, ite_true, ite_false, if_true, if_false, implies_true, forall_const]
    · rw [hq] at hN
      refine ⟨_, fun _ => rfl, ?_⟩
      simp only [eA, P38_0_eq, hN, hE0, n1, n2, ↓evD, evU, evL, Nat.reduceAdd, Nat.reduceSub, Nat.reduceMul, Nat.reduceLeDiff, Nat.reduceLT, Nat.reduceEqDiff, Nat.reduceBEq, reduceIte, reduceCtorEq, Int.reduceBEq, Int.reduceEq, Int.reduceLT, Int.reduceLE, Int.reduceGT, Int.reduceGE, Int.reduceAdd, Int.reduceSub, Int.reduceNeg, Int.reduceBNe, ite_true, ite_false, if_true, if_false, implies_true, forall_const]
  have hc : ¬ (k = 1 ∨ k = 5) := by rintro (q | q) <;> contradiction
  rw [if_neg hc, if_neg hc]
  by_cases h2 : k = 2
  · subst h2
    rw [if_pos (rfl : (2 : Int) = 2), if_pos (rfl : (2 : Int) = 2)]
    cases hb : bxL b with
    | nil =>
      rw [hb] at hln
      refine ⟨⟨2, 0, [], nB, 0, 0⟩, by simp, ?_⟩
      have z : (((0 : Nat) : Int) == 1) = false := rfl
      simp only [eA, P38_0_eq, hln, z, hE0, n1, n2, Int.ofNat_zero, Int.natCast_zero, ↓evD, evU, evL, Nat.reduceAdd, Nat.reduceSub, Nat.reduceMul, Nat.reduceLeDiff, Nat.reduceLT, Nat.reduceEqDiff, Nat.reduceBEq, reduceIte, reduceCtorEq, Int.reduceBEq, Int.reduceEq, Int.reduceLT, Int.reduceLE, Int.reduceGT, Int.reduceGE, Int.reduceAdd, Int.reduceSub, Int.reduceNeg, Int.reduceBNe, ite_true, ite_false, if_true, if_false, implies_true, forall_const]
    | cons c r =>
      have hid := (bxV b).idx (k := .i64) (i := 0) (c := c) (by rw [hb]; rfl)
      have z0 : ((0 : Nat) : Int) = 0 := rfl
      rw [z0] at hid
      rw [hb] at hln
      have hc := c.toNat_lt
      cases r with
      | nil =>
        have z : (((1 : Nat) : Int) == 1) = true := rfl
        have w1 : IntKind.i64.wrap (c.toNat : Int) = (c.toNat : Int) := by rw [wrap_small] <;> omega
        have hb0 : byN [c] 0 = (c.toNat : Int) := rfl
        by_cases hc1 : c.toNat ≤ 1
        · have hc2 : ((c.toNat : Int) ≤ 1) = True := by simp; omega
          refine ⟨_, fun _ => rfl, ?_⟩
          simp only [eA, P38_0_eq, hln, z, hid, hc1, hc2, w1, hb0, hE0, n1, n2, ↓evD, evU, evL, Nat.reduceAdd, Nat.reduceSub, Nat.reduceMul, Nat.reduceLeDiff, Nat.reduceLT, Nat.reduceEqDiff, Nat.reduceBEq, reduceIte, reduceCtorEq, Int.reduceBEq, Int.reduceEq, Int.reduceLT, Int.reduceLE, Int.reduceGT, Int.reduceGE, Int.reduceAdd, Int.reduceSub, Int.reduceNeg, Int.reduceBNe, ite_true, ite_false, if_true, if_false, implies_true, forall_const]
        · have hc2 : ((c.toNat : Int) ≤ 1) = False := by simp; omega
          refine ⟨⟨2, 0, [], nB, 0, 0⟩, by simp [hc1], ?_⟩
          simp only [eA, P38_0_eq, hln, z, hid, hc1, hc2, w1, hE0, n1, n2, ↓evD, evU, evL, Nat.reduceAdd, Nat.reduceSub, Nat.reduceMul, Nat.reduceLeDiff, Nat.reduceLT, Nat.reduceEqDiff, Nat.reduceBEq, reduceIte, reduceCtorEq, Int.reduceBEq, Int.reduceEq, Int.reduceLT, Int.reduceLE, Int.reduceGT, Int.reduceGE, Int.reduceAdd, Int.reduceSub, Int.reduceNeg, Int.reduceBNe, ite_true, ite_false, if_true, if_false, implies_true, forall_const]
      | cons d r =>
        have z : (((r.length + 1 + 1 : Nat) : Int) == 1) = false := by rw [beq_eq_false_iff_ne]; omega
        refine ⟨⟨2, 0, [], nB, 0, 0⟩, by simp, ?_⟩
        simp only [eA, P38_0_eq, hln, z, hE0, n1, n2, ↓evD, evU, evL, Nat.reduceAdd, Nat.reduceSub, Nat.reduceMul, Nat.reduceLeDiff, Nat.reduceLT, Nat.reduceEqDiff, Nat.reduceBEq, reduceIte, reduceCtorEq, Int.reduceBEq, Int.reduceEq, Int.reduceLT, Int.reduceLE, Int.reduceGT, Int.reduceGE, Int.reduceAdd, Int.reduceSub, Int.reduceNeg, Int.reduceBNe, ite_true, ite_false, if_true, if_false, implies_true, forall_const]
  rw [if_neg h2, if_neg h2]
  by_cases h3 : k = 3
  · subst h3
    rw [if_pos (rfl : (3 : Int) = 3), if_pos (rfl : (3 : Int) = 3)]
    by_cases hl2 : 200 < (bxL b).length
    · have q : (((bxL b).length : Int) > 200) = True := by simp; omega
      refine ⟨⟨3, 0, [], nB, 0, 0⟩, by simp [hl2], ?_⟩
      simp only [eA, P38_0_eq, P38_2_eq, hln, q, hl2, resB_ptr, n1, n2, ↓evD, evU, evL, Nat.reduceAdd, Nat.reduceSub, Nat.reduceMul, Nat.reduceLeDiff, Nat.reduceLT, Nat.reduceEqDiff, Nat.reduceBEq, reduceIte, reduceCtorEq, Int.reduceBEq, Int.reduceEq, Int.reduceLT, Int.reduceLE, Int.reduceGT, Int.reduceGE, Int.reduceAdd, Int.reduceSub, Int.reduceNeg, Int.reduceBNe, ite_true, ite_false, if_true, if_false, implies_true, forall_const]
    · have q : (((bxL b).length : Int) > 200) = False := by simp; omega
      cases hr : (runesG (bxL b)).2
      · rw [hr] at hR
        refine ⟨⟨3, 0, bxL b, nB, 0, 0⟩, by simp [hl2], ?_⟩
        simp only [eA, P38_0_eq, P38_2_eq, hln, q, hl2, hbs, hR, hE0, n1, n2, ↓evD, evU, evL, Nat.reduceAdd, Nat.reduceSub, Nat.reduceMul, Nat.reduceLeDiff, Nat.reduceLT, Nat.reduceEqDiff, Nat.reduceBEq, reduceIte, reduceCtorEq, Int.reduceBEq, Int.reduceEq, Int.reduceLT, Int.reduceLE, Int.reduceGT, Int.reduceGE, Int.reduceAdd, Int.reduceSub, Int.reduceNeg, Int.reduceBNe, ite_true, ite_false, if_true, if_false, implies_true, forall_const]
      · rw [hr] at hR
        refine ⟨_, fun _ => rfl, ?_⟩
        simp only [eA, P38_0_eq, P38_2_eq, hln, q, hl2, hbs, hR, hE0, n1, n2, ↓evD, evU, evL, Nat.reduceAdd, Nat.reduceSub, Nat.reduceMul, Nat.reduceLeDiff, Nat.reduceLT, Nat.reduceEqDiff, Nat.reduceBEq, reduceIte, reduceCtorEq, Int.reduceBEq, Int.reduceEq, Int.reduceLT, Int.reduceLE, Int.reduceGT, Int.reduceGE, Int.reduceAdd, Int.reduceSub, Int.reduceNeg, Int.reduceBNe, ite_true, ite_false, if_true, if_false, implies_true, forall_const]
  rw [if_neg h3, if_neg h3]
  by_cases h4 : k = 4
  · subst h4
    rw [if_pos (rfl : (4 : Int) = 4), if_pos (rfl : (4 : Int) = 4)]
    by_cases hl2 : 200 < (bxL b).length
    · have q : (((bxL b).length : Int) > 200) = True := by simp; omega
      refine ⟨⟨4, 0, [], nB, 0, 0⟩, by simp [hl2], ?_⟩
      simp only [eA, P38_0_eq, P38_2_eq, hln, q, hl2, resB_ptr, n1, n2, ↓evD, evU, evL, Nat.reduceAdd, Nat.reduceSub, Nat.reduceMul, Nat.reduceLeDiff, Nat.reduceLT, Nat.reduceEqDiff, Nat.reduceBEq, reduceIte, reduceCtorEq, Int.reduceBEq, Int.reduceEq, Int.reduceLT, Int.reduceLE, Int.reduceGT, Int.reduceGE, Int.reduceAdd, Int.reduceSub, Int.reduceNeg, Int.reduceBNe, ite_true, ite_false, if_true, if_false, implies_true, forall_const]
    · have q : (((bxL b).length : Int) > 200) = False := by simp; omega
      have hEb := fun k n s o i ok => hE k n s b o i ok
      refine ⟨_, fun _ => rfl, ?_⟩
      simp only [eA, P38_0_eq, P38_2_eq, hln, q, hl2, sc, ce, st, hEb, n1, n2, ↓evD, evU, evL, Nat.reduceAdd, Nat.reduceSub, Nat.reduceMul, Nat.reduceLeDiff, Nat.reduceLT, Nat.reduceEqDiff, Nat.reduceBEq, reduceIte, reduceCtorEq, Int.reduceBEq, Int.reduceEq, Int.reduceLT, Int.reduceLE, Int.reduceGT, Int.reduceGE, Int.reduceAdd, Int.reduceSub, Int.reduceNeg, Int.reduceBNe, ite_true, ite_false, if_true, if_false, implies_true, forall_const]
  rw [if_neg h4, if_neg h4]
  by_cases h6 : k = 6
  · subst h6
    rw [if_pos (rfl : (6 : Int) = 6)]
    by_cases hl4 : (bxL b).length = 4
    · rw [if_pos hl4]
      obtain ⟨c0, c1, c2, c3, hq⟩ := len_cases4 hl4
      have i0 := (bxV b).idx (k := .i64) (i := 0) (c := c0) (by rw [hq]; rfl)
      have i1 := (bxV b).idx (k := .i64) (i := 1) (c := c1) (by rw [hq]; rfl)
      have i2 := (bxV b).idx (k := .i64) (i := 2) (c := c2) (by rw [hq]; rfl)
      have i3 := (bxV b).idx (k := .i64) (i := 3) (c := c3) (by rw [hq]; rfl)
      have z0 : ((0 : Nat) : Int) = 0 := rfl
      have z1 : ((1 : Nat) : Int) = 1 := rfl
      have z2 : ((2 : Nat) : Int) = 2 := rfl
      have z3 : ((3 : Nat) : Int) = 3 := rfl
      rw [z0] at i0; rw [z1] at i1; rw [z2] at i2; rw [z3] at i3
      have q : (((bxL b).length : Int) == 4) = true := by rw [hl4]; rfl
      obtain ⟨a1, a2⟩ := or_bytes c0 c1
      obtain ⟨a3, a4⟩ := or_bytes c2 c3
      have hw : ∀ c : UInt8, IntKind.i64.wrap (c.toNat : Int) = (c.toNat : Int) := by intro c; have := c.toNat_lt; rw [wrap_small] <;> omega
      have e0 : byN (bxL b) 0 = (c0.toNat : Int) := by rw [hq]; rfl
      have e1 : byN (bxL b) 1 = (c1.toNat : Int) := by rw [hq]; rfl
      have e2 : byN (bxL b) 2 = (c2.toNat : Int) := by rw [hq]; rfl
      have e3 : byN (bxL b) 3 = (c3.toNat : Int) := by rw [hq]; rfl
      refine ⟨_, fun _ => rfl, ?_⟩
      simp only [eA, P38_0_eq, P38_2_eq, hln, q, i0, i1, i2, i3, hw, a1, a2, a3, a4, e0, e1, e2, e3, hE0, n1, n2, loadNV_ep, storeNV_ptr, ↓evD, evU, evL, Nat.reduceAdd, Nat.reduceSub, Nat.reduceMul, Nat.reduceLeDiff, Nat.reduceLT, Nat.reduceEqDiff, Nat.reduceBEq, reduceIte, reduceCtorEq, Int.reduceBEq, Int.reduceEq, Int.reduceLT, Int.reduceLE, Int.reduceGT, Int.reduceGE, Int.reduceAdd, Int.reduceSub, Int.reduceNeg, Int.reduceBNe, ite_true, ite_false, if_true, if_false, implies_true, forall_const]
    · rw [if_neg hl4]
      have q : (((bxL b).length : Int) == 4) = false := by rw [beq_eq_false_iff_ne]; omega
      refine ⟨⟨6, 0, [], nB, 0, 0⟩, by simp, ?_⟩
      simp only [eA, P38_0_eq, P38_2_eq, hln, q, hE0, n1, n2, ↓evD, evU, evL, Nat.reduceAdd, Nat.reduceSub, Nat.reduceMul, Nat.reduceLeDiff, Nat.reduceLT, Nat.reduceEqDiff, Nat.reduceBEq, reduceIte, reduceCtorEq, Int.reduceBEq, Int.reduceEq, Int.reduceLT, Int.reduceLE, Int.reduceGT, Int.reduceGE, Int.reduceAdd, Int.reduceSub, Int.reduceNeg, Int.reduceBNe, ite_true, ite_false, if_true, if_false, implies_true, forall_const]
  rw [if_neg h6]
  refine ⟨⟨k, 0, [], nB, 0, 0⟩, by simp, ?_⟩
  simp only [eA, P38_0_eq, P38_2_eq, h1, h2, h3, h4, h5, h6, beq_false_of h1, beq_false_of h2, beq_false_of h3, beq_false_of h4, beq_false_of h5, beq_false_of h6, resB_ptr, n1, n2, ↓evD, evU, evL, Nat.reduceAdd, Nat.reduceSub, Nat.reduceMul, Nat.reduceLeDiff, Nat.reduceLT, Nat.reduceEqDiff, Nat.reduceBEq, reduceIte, reduceCtorEq, Int.reduceBEq, Int.reduceEq, Int.reduceLT, Int.reduceLE, Int.reduceGT, Int.reduceGE, Int.reduceAdd, Int.reduceSub, Int.reduceNeg, Int.reduceBNe, ite_true, ite_false, if_true, if_false, implies_true, forall_const]
end Go.Am.YtppkffebmoffnaaDoor
namespace Go.Am.YtppkffebmoffnaaDoor
set_option maxRecDepth 100000
set_option linter.unusedSimpArgs false
set_option linter.unusedVariables false
theorem right_err {v : Vi} (hk : 1 ≤ v.k ∧ v.k ≤ 6) (hr : rightG v.k v.n v.s (bxL v.b).length v.o v.i (runesG v.s).2 = true) : errV v = 0 := by
  unfold errV writeG
  rw [if_neg (by simpa using hk), if_neg (by rw [hr]; simp)]
  split
  · rfl
  · split
    · rfl
    · split <;> rfl
theorem byN_b (l : List UInt8) (i : Nat) : 0 ≤ byN l i ∧ byN l i ≤ 255 := by
  unfold byN
  have := (l.getD i 0).toNat_lt
  omega
theorem in64_of {n : Int} (h : 0 ≤ n ∧ n ≤ 65535) : in64 n := by unfold in64; omega
/-- What is read is right. -/
theorem uw_right {k : Int} {b : Bx} (hl : (bxL b).length ≤ 1000) (he : uwE k (bxL b) = 0) : (uwW k b).ok ∧ errV (uwW k b) = 0 ∧ (uwW k b).k = k := by
  have n0 := nil_b
  have z0 : in64 0 := in64_of (by omega)
  unfold uwE at he
  unfold uwW
  by_cases h1 : k = 1 ∨ k = 5
  · rw [if_pos h1] at he ⊢
    have hq : lens (bxL b).length = true := by
      cases hq : lens (bxL b).length
      · rw [hq] at he; exact absurd he (by decide)
      · rfl
    have hN : in64 (numZ (bxL b)) := numZ_in (by unfold lens at hq; simp only [Bool.or_eq_true, beq_iff_eq] at hq; omega)
    refine ⟨⟨by rw [n0]; simp, by simp, hN, z0, z0⟩, right_err (by simp only; omega) ?_, rfl⟩
    simp only [n0]
    rcases h1 with rfl | rfl <;> simp [rightG, extraG, onlyN]
  rw [if_neg h1] at he ⊢
  by_cases h2 : k = 2
  · subst h2
    rw [if_pos rfl] at he ⊢
    have hb : 0 ≤ byN (bxL b) 0 ∧ byN (bxL b) 0 ≤ 1 := by
      cases hq : bxL b with
      | nil => rw [hq] at he; exact absurd he (by decide)
      | cons c r =>
        cases r with
        | nil =>
          rw [hq] at he
          simp only at he
          split at he
          · show 0 ≤ (c.toNat : Int) ∧ (c.toNat : Int) ≤ 1
            omega
          · exact absurd he (by decide)
        | cons d r => rw [hq] at he; exact absurd he (by simp)
    refine ⟨⟨by rw [n0]; simp, by simp, in64_of (by show 0 ≤ byN (bxL b) 0 ∧ byN (bxL b) 0 ≤ 65535; omega), z0, z0⟩, right_err (by simp) ?_, rfl⟩
    simp only [n0]
    have : byN (bxL b) 0 = 0 ∨ byN (bxL b) 0 = 1 := by omega
    rcases this with q | q <;> rw [q] <;> simp [rightG, extraG, onlyN]
  rw [if_neg h2] at he ⊢
  by_cases h3 : k = 3
  · subst h3
    rw [if_pos rfl] at he ⊢
    split at he
    · exact absurd he (by decide)
    rename_i hl2
    have hr : (runesG (bxL b)).2 = true := by
      cases hq : (runesG (bxL b)).2
      · rw [hq] at he; exact absurd he (by decide)
      · rfl
    refine ⟨⟨by rw [n0]; simp, hl, z0, z0, z0⟩, right_err (by simp) ?_, rfl⟩
    simp only [n0, hr]
    simp [rightG, extraG, onlyN]
    omega
  rw [if_neg h3] at he ⊢
  by_cases h4 : k = 4
  · subst h4
    rw [if_pos rfl] at he ⊢
    split at he
    · exact absurd he (by decide)
    rename_i hl2
    refine ⟨⟨hl, by simp, z0, z0, z0⟩, right_err (by simp) ?_, rfl⟩
    simp [rightG, extraG, onlyN]
    omega
  rw [if_neg h4] at he ⊢
  by_cases h6 : k = 6
  · subst h6
    have b0 := byN_b (bxL b) 0
    have b1 := byN_b (bxL b) 1
    have b2 := byN_b (bxL b) 2
    have b3 := byN_b (bxL b) 3
    refine ⟨⟨by rw [n0]; simp, by simp, z0, in64_of (by simp only; omega), in64_of (by simp only; omega)⟩, right_err (by simp) ?_, rfl⟩
    simp only [n0]
    simp [rightG, extraG, onlyN]
    omega
  rw [if_neg h6] at he
  exact absurd he (by decide)
theorem unwireV_spec {base : Nat} {h : Hp} (k : Int) (b : Bx) (hl : (bxL b).length ≤ 1000) :
    CallA T base 20 [i64 k, b.1] h = some (.tup [if uwE k (bxL b) = 0 then eV (ofV (uwW k b)) else .nilif, i64 (uwE k (bxL b))], h) := by
  rw [S20]
  obtain ⟨w, hw, hU⟩ := unwire_spec (base := size h) (h := h) k b (by omega)
  have n1 : (size h < size h) = False := by simp
  by_cases he : uwE k (bxL b) = 0
  · obtain ⟨q1, q2, _⟩ := uw_right hl he
    have hO := fun h' => of_spec (base := size h) (h := h') (uwW k b) q1
    rw [q2] at hO
    rw [hw he, he] at hU
    rw [he, if_pos rfl]
    have sc := (bxV (uwW k b).b).scalar
    have ce := (bxV (uwW k b).b).cells
    have ef := fun n h' => eV_frz n h' (ofV (uwW k b))
    have eb := fun n => eV_below n (ofV (uwW k b))
    have es := eV_strip (ofV (uwW k b))
    unfold eA at hU hO
    generalize uwW k b = v at *
    obtain ⟨vk, vn, vs, vb, vo, vi⟩ := v
    generalize hx : eV (ofV ⟨vk, vn, vs, vb, vo, vi⟩) = x at *
    simp only [if_true] at hU hO sc ce
    simp only [hU, hO, sc, ce, ef, eb, n1, ↓evD, evU, evL, Nat.reduceAdd, Nat.reduceSub, Nat.reduceMul, Nat.reduceLeDiff, Nat.reduceLT, Nat.reduceEqDiff, Nat.reduceBEq, reduceIte, reduceCtorEq, Int.reduceBEq, Int.reduceEq, Int.reduceLT, Int.reduceLE, Int.reduceGT, Int.reduceGE, Int.reduceAdd, Int.reduceSub, Int.reduceNeg, Int.reduceBNe, ite_true, ite_false, if_true, if_false, implies_true, forall_const]
  · rw [if_neg he]
    have sc := (bxV w.b).scalar
    have ce := (bxV w.b).cells
    unfold eA at hU
    simp only [hU, sc, ce, bne_true_of he, n1, ↓evD, evU, evL, Nat.reduceAdd, Nat.reduceSub, Nat.reduceMul, Nat.reduceLeDiff, Nat.reduceLT, Nat.reduceEqDiff, Nat.reduceBEq, reduceIte, reduceCtorEq, Int.reduceBEq, Int.reduceEq, Int.reduceLT, Int.reduceLE, Int.reduceGT, Int.reduceGE, Int.reduceAdd, Int.reduceSub, Int.reduceNeg, Int.reduceBNe, ite_true, ite_false, if_true, if_false, implies_true, forall_const]
/-- Unsigned. -/
def foldU (x : Int) (l : List UInt8) : Int := l.foldl (fun x c => (x * 256 % 18446744073709551616 + c.toNat) % 18446744073709551616) x
theorem foldU_mod : ∀ (l : List UInt8) (z : Int), foldU (z % 18446744073709551616) l = foldZ z l % 18446744073709551616
  | [], z => rfl
  | c :: r, z => by
    have e : (z % 18446744073709551616 * 256 % 18446744073709551616 + (c.toNat : Int)) % 18446744073709551616 = (z * 256 + c.toNat) % 18446744073709551616 := by omega
    show foldU ((z % 18446744073709551616 * 256 % 18446744073709551616 + (c.toNat : Int)) % 18446744073709551616) r = foldZ (z * 256 + c.toNat) r % 18446744073709551616
    rw [e]
    exact foldU_mod r _
theorem wrap_u64i (n : Int) : IntKind.u64.wrap n = n % 18446744073709551616 := rfl
theorem val_end {h : Hp} (w : Vi) : P21_2 (size h) (size h) (.ptr (size h) 0) (.ptr (size h + 1) 0) (uwH h w.k w.n w.s w.b.1 w.o w.i) = some (.tup [eA w, i64 0], h) := by
  rw [P21_2_eq]
  have sc := (bxV w.b).scalar
  have ce := (bxV w.b).cells
  have fr := (bxV w.b).frz
  have be := (bxV w.b).below
  have n1 : (size h < size h) = False := by simp
  have n2 : (size h + 1 < size h) = False := by simp
  simp only [uwH, eA, resB_ptr, sc, ce, fr, be, n1, n2, ↓evD, evU, evL, Nat.reduceAdd, Nat.reduceSub, Nat.reduceMul, Nat.reduceLeDiff, Nat.reduceLT, Nat.reduceEqDiff, Nat.reduceBEq, reduceIte, reduceCtorEq, Int.reduceBEq, Int.reduceEq, Int.reduceLT, Int.reduceLE, Int.reduceGT, Int.reduceGE, Int.reduceAdd, Int.reduceSub, Int.reduceNeg, Int.reduceBNe, ite_true, ite_false, if_true, if_false, implies_true, forall_const]
theorem numR_loop {h : Hp} (k : Int) {b : PV} {l : List UInt8} (hb : Bv b l) (hl : l.length ≤ 8) : ∀ (r q : List UInt8) (x : Int), l = q ++ r →
    P21_4 (size h) (size h) (i64 q.length) b (.int .u64 x) (.ptr (size h) 0) (.ptr (size h + 1) 0) (uwH h k 0 [] .nils 0 0) = some (.tup [val k (IntKind.i64.wrap (foldU x r)) [] .nils 0 0, i64 0], h)
  | [], q, x, hp => by
    rw [P21_4_eq]
    have e : l = q := by rw [hp]; simp
    subst e
    have h1 : ((l.length : Int) < (l.length : Int)) = False := by simp
    have n2 : (size h + 1 < size h) = False := by simp
    have hv := val_end (h := h) ⟨k, IntKind.i64.wrap x, [], nB, 0, 0⟩
    have hf : foldU x [] = x := rfl
    unfold uwH eA at hv
    simp only at hv
    simp only [uwH, hb.len, h1, n2, hf, hv, ↓evD, evU, evL, Nat.reduceAdd, Nat.reduceSub, Nat.reduceMul, Nat.reduceLeDiff, Nat.reduceLT, Nat.reduceEqDiff, Nat.reduceBEq, reduceIte, reduceCtorEq, Int.reduceBEq, Int.reduceEq, Int.reduceLT, Int.reduceLE, Int.reduceGT, Int.reduceGE, Int.reduceAdd, Int.reduceSub, Int.reduceNeg, Int.reduceBNe, ite_true, ite_false, if_true, if_false, implies_true, forall_const]
  | c :: r, q, x, hp => by
    rw [P21_4_eq]
    have el : l.length = q.length + (r.length + 1) := by rw [hp]; simp
    have h1 : ((q.length : Int) < (l.length : Int)) = True := by simp; omega
    have hx : l[q.length]? = some c := by rw [hp]; simp
    have w1 : IntKind.i64.wrap ((q.length : Int) + 1) = (((q ++ [c]).length : Nat) : Int) := by rw [show (q ++ [c]).length = q.length + 1 by simp, wrap_small] <;> omega
    have hc := c.toNat_lt
    have w2 : (c.toNat : Int) % 18446744073709551616 = c.toNat := by omega
    have ih := numR_loop (h := h) k hb hl r (q ++ [c]) ((x * 256 % 18446744073709551616 + c.toNat) % 18446744073709551616) (by rw [hp]; simp)
    have hf : foldU x (c :: r) = foldU ((x * 256 % 18446744073709551616 + c.toNat) % 18446744073709551616) r := rfl
    unfold uwH at ih
    simp only [uwH, hb.len, h1, hb.idx hx, wrap_u64i, w2, w1, hf, ih, ↓evD, evU, evL, Nat.reduceAdd, Nat.reduceSub, Nat.reduceMul, Nat.reduceLeDiff, Nat.reduceLT, Nat.reduceEqDiff, Nat.reduceBEq, reduceIte, reduceCtorEq, Int.reduceBEq, Int.reduceEq, Int.reduceLT, Int.reduceLE, Int.reduceGT, Int.reduceGE, Int.reduceAdd, Int.reduceSub, Int.reduceNeg, Int.reduceBNe, ite_true, ite_false, if_true, if_false, implies_true, forall_const]
theorem wrap_num {l : List UInt8} {c : UInt8} {r : List UInt8} (hl : l = c :: r) (h8 : l.length ≤ 8) (z : Int) (hz : z * 256 + c.toNat = i8Z c) : IntKind.i64.wrap (foldU (z % 18446744073709551616) l) = numZ l := by
  rw [foldU_mod]
  have e : foldZ z l = numZ l := by
    subst hl
    show foldZ (z * 256 + c.toNat) r = foldZ (i8Z c) r
    rw [hz]
  rw [e]
  have := numZ_in h8
  unfold in64 at this
  rw [IntKind.wrap_i64]
  omega
end Go.Am.YtppkffebmoffnaaDoor
namespace Go.Am.YtppkffebmoffnaaDoor
set_option maxRecDepth 100000
set_option linter.unusedSimpArgs false
set_option linter.unusedVariables false
theorem numR_at {h : Hp} (k : Int) (b : Bx) (hq : lens (bxL b).length = true) :
    ((idxAB b.1 (.int .i64 0) 1).bnd fun x51 =>
     (loadV 1 false x51 (uwH h k 0 [] .nils 0 0)).bnd fun x52 =>
     (binOp .geq x52 (.int .u8 128)).bnd fun x53 =>
     condB x53 (
     P21_1 (size h) (size h) b.1 (.int .u64 18446744073709551615) (.ptr (size h) 0) (.ptr (size h + 1) 0) (uwH h k 0 [] .nils 0 0)) (
     P21_1 (size h) (size h) b.1 (.int .u64 0) (.ptr (size h) 0) (.ptr (size h + 1) 0) (uwH h k 0 [] .nils 0 0))) = some (.tup [val k (numZ (bxL b)) [] .nils 0 0, i64 0], h) := by
  have h8 : (bxL b).length ≤ 8 := by unfold lens at hq; simp only [Bool.or_eq_true, beq_iff_eq] at hq; omega
  obtain ⟨c, r, hl⟩ : ∃ c r, bxL b = c :: r := by
    cases hb : bxL b with
    | nil => rw [hb] at hq; cases hq
    | cons c r => exact ⟨c, r, rfl⟩
  have hid := (bxV b).idx (k := .i64) (i := 0) (c := c) (by rw [hl]; rfl)
  have z0 : ((0 : Nat) : Int) = 0 := rfl
  rw [z0] at hid
  have hc := c.toNat_lt
  have hL := fun x => numR_loop (h := h) k (bxV b) h8 (bxL b) [] x rfl
  have z : (i64 (([] : List UInt8).length : Int)) = .int .i64 0 := rfl
  rw [z] at hL
  have m1 : (18446744073709551615 : Int) = (-1) % 18446744073709551616 := by decide
  have m0 : (0 : Int) = 0 % 18446744073709551616 := by decide
  by_cases h128 : c.toNat < 128
  · have q : ((c.toNat : Int) ≥ 128) = False := by simp; omega
    have hw := wrap_num hl h8 0 (by unfold i8Z; rw [if_pos h128]; omega)
    rw [← m0] at hw
    have hL0 := hL 0
    rw [hw] at hL0
    simp only [hid, q, P21_1_eq, hL0, ↓evD, evU, evL, Nat.reduceAdd, Nat.reduceSub, Nat.reduceMul, Nat.reduceLeDiff, Nat.reduceLT, Nat.reduceEqDiff, Nat.reduceBEq, reduceIte, reduceCtorEq, Int.reduceBEq, Int.reduceEq, Int.reduceLT, Int.reduceLE, Int.reduceGT, Int.reduceGE, Int.reduceAdd, Int.reduceSub, Int.reduceNeg, Int.reduceBNe, ite_true, ite_false, if_true, if_false, implies_true, forall_const]
  · have q : ((c.toNat : Int) ≥ 128) = True := by simp; omega
    have hw := wrap_num hl h8 (-1) (by unfold i8Z; rw [if_neg h128]; omega)
    rw [← m1] at hw
    have hL0 := hL 18446744073709551615
    rw [hw] at hL0
    simp only [hid, q, P21_1_eq, hL0, ↓evD, evU, evL, Nat.reduceAdd, Nat.reduceSub, Nat.reduceMul, Nat.reduceLeDiff, Nat.reduceLT, Nat.reduceEqDiff, Nat.reduceBEq, reduceIte, reduceCtorEq, Int.reduceBEq, Int.reduceEq, Int.reduceLT, Int.reduceLE, Int.reduceGT, Int.reduceGE, Int.reduceAdd, Int.reduceSub, Int.reduceNeg, Int.reduceBNe, ite_true, ite_false, if_true, if_false, implies_true, forall_const]
set_option maxHeartbeats 4000000 in
theorem unwireR_spec {base : Nat} {h : Hp} (k : Int) (b : Bx) (hl : (bxL b).length ≤ 1000000) :
    CallA T base 21 [i64 k, b.1] h = some (.tup [if uwE k (bxL b) = 0 then eA (uwW k b) else val 0 0 [] .nils 0 0, i64 (uwE k (bxL b))], h) := by
  rw [S21]
  have hR := fun h' => runes2_spec (base := size h) (h := h') (s := bxL b) hl
  have hbs := fun h' => bytesStr_bv (bxV b) h'
  have hA := fun k => numR_at (h := h) k b
  have hV := fun w => val_end (h := h) w
  have sc := (bxV b).scalar
  have ce := (bxV b).cells
  have st := (bxV b).strip
  have fr := (bxV b).frz
  have be := (bxV b).below
  have hln := (bxV b).len
  have n1 : (size h < size h) = False := by simp
  have n2 : (size h + 1 < size h) = False := by simp
  unfold uwH at hA hV
  have num : ∀ k : Int, P21_0 (size h) (size h) (.bool true) (.ptr (size h) 0) b.1 (.ptr (size h + 1) 0) (i64 k) (i64 k) (ext h [.cells zV, .cells [i64 k, i64 0, .str [], .nils, i64 0, i64 0]]) =
      some (.tup [if lens (bxL b).length = true then val k (numZ (bxL b)) [] .nils 0 0 else val 0 0 [] .nils 0 0, i64 (if lens (bxL b).length = true then 0 else 20)], h) := by
    intro k
    rw [P21_0_eq]
    by_cases q1 : (bxL b).length = 1
    · have e : lens (bxL b).length = true := by rw [q1]; rfl
      have hk := hA k e
      rw [e, if_pos rfl, if_pos rfl]
      rw [q1] at hln
      have z1 : (((1 : Nat) : Int) != 1) = false := rfl
      simp only [hln, z1, ↓evD, evU, evL, Nat.reduceAdd, Nat.reduceSub, Nat.reduceMul, Nat.reduceLeDiff, Nat.reduceLT, Nat.reduceEqDiff, Nat.reduceBEq, reduceIte, reduceCtorEq, Int.reduceBEq, Int.reduceEq, Int.reduceLT, Int.reduceLE, Int.reduceGT, Int.reduceGE, Int.reduceAdd, Int.reduceSub, Int.reduceNeg, Int.reduceBNe, ite_true, ite_false, if_true, if_false, implies_true, forall_const]
      exact hk
    have b1 : (((bxL b).length : Int) != 1) = true := by rw [bne_iff_ne]; omega
    by_cases q2 : (bxL b).length = 2
    · have e : lens (bxL b).length = true := by rw [q2]; rfl
      have hk := hA k e
      rw [e, if_pos rfl, if_pos rfl]
      rw [q2] at hln
      have z1 : (((2 : Nat) : Int) != 1) = true := rfl
      have z2 : (((2 : Nat) : Int) != 2) = false := rfl
      simp only [hln, z1, z2, ↓evD, evU, evL, Nat.reduceAdd, Nat.reduceSub, Nat.reduceMul, Nat.reduceLeDiff, Nat.reduceLT, Nat.reduceEqDiff, Nat.reduceBEq, reduceIte, reduceCtorEq, Int.reduceBEq, Int.reduceEq, Int.reduceLT, Int.reduceLE, Int.reduceGT, Int.reduceGE, Int.reduceAdd, Int.reduceSub, Int.reduceNeg, Int.reduceBNe, ite_true, ite_false, if_true, if_false, implies_true, forall_const]
      exact hk
    have b2 : (((bxL b).length : Int) != 2) = true := by rw [bne_iff_ne]; omega
    by_cases q4 : (bxL b).length = 4
    · have e : lens (bxL b).length = true := by rw [q4]; rfl
      have hk := hA k e
      rw [e, if_pos rfl, if_pos rfl]
      rw [q4] at hln
      have z1 : (((4 : Nat) : Int) != 1) = true := rfl
      have z2 : (((4 : Nat) : Int) != 2) = true := rfl
      have z4 : (((4 : Nat) : Int) != 4) = false := rfl
      simp only [hln, z1, z2, z4, ↓evD, evU, evL, Nat.reduceAdd, Nat.reduceSub, Nat.reduceMul, Nat.reduceLeDiff, Nat.reduceLT, Nat.reduceEqDiff, Nat.reduceBEq, reduceIte, reduceCtorEq, Int.reduceBEq, Int.reduceEq, Int.reduceLT, Int.reduceLE, Int.reduceGT, Int.reduceGE, Int.reduceAdd, Int.reduceSub, Int.reduceNeg, Int.reduceBNe, ite_true, ite_false, if_true, if_false, implies_true, forall_const]
      exact hk
    have b4 : (((bxL b).length : Int) != 4) = true := by rw [bne_iff_ne]; omega
    by_cases q8 : (bxL b).length = 8
    · have e : lens (bxL b).length = true := by rw [q8]; rfl
      have hk := hA k e
      rw [e, if_pos rfl, if_pos rfl]
      rw [q8] at hln
      have z1 : (((8 : Nat) : Int) != 1) = true := rfl
      have z2 : (((8 : Nat) : Int) != 2) = true := rfl
      have z4 : (((8 : Nat) : Int) != 4) = true := rfl
      have z8 : (((8 : Nat) : Int) != 8) = false := rfl
      simp only [hln, z1, z2, z4, z8, ↓evD, evU, evL, Nat.reduceAdd, Nat.reduceSub, Nat.reduceMul, Nat.reduceLeDiff, Nat.reduceLT, Nat.reduceEqDiff, Nat.reduceBEq, reduceIte, reduceCtorEq, Int.reduceBEq, Int.reduceEq, Int.reduceLT, Int.reduceLE, Int.reduceGT, Int.reduceGE, Int.reduceAdd, Int.reduceSub, Int.reduceNeg, Int.reduceBNe, ite_true, ite_false, if_true, if_false, implies_true, forall_const]
      exact hk
    have b8 : (((bxL b).length : Int) != 8) = true := by rw [bne_iff_ne]; omega
    have e : lens (bxL b).length = false := by
      cases hq : lens (bxL b).length
      · rfl
      · unfold lens at hq; simp only [Bool.or_eq_true, beq_iff_eq] at hq; omega
    simp only [hln, b1, b2, b4, b8, e, resB_ptr, n1, n2, ↓evD, evU, evL, Nat.reduceAdd, Nat.reduceSub, Nat.reduceMul, Nat.reduceLeDiff, Nat.reduceLT, Nat.reduceEqDiff, Nat.reduceBEq, reduceIte, reduceCtorEq, Int.reduceBEq, Int.reduceEq, Int.reduceLT, Int.reduceLE, Int.reduceGT, Int.reduceGE, Int.reduceAdd, Int.reduceSub, Int.reduceNeg, Int.reduceBNe, ite_true, ite_false, if_true, if_false, implies_true, forall_const]
  unfold uwE uwW
  by_cases h1 : k = 1
  · subst h1
    have hc : ((1 : Int) = 1 ∨ (1 : Int) = 5) := .inl rfl
    rw [if_pos hc, if_pos hc]
    have hn := num 1
    have z01 : ((0 : Int) = 0) = True := by simp
    have z20 : ((20 : Int) = 0) = False := by simp
    cases hq : lens (bxL b).length
    · rw [hq] at hn
      simp only [Bool.false_eq_true, if_false] at hn
      simp only [z20, hn, n1, n2, ↓evD, evU, evL, Nat.reduceAdd, Nat.reduceSub, Nat.reduceMul, Nat.reduceLeDiff, Nat.reduceLT, Nat.reduceEqDiff, Nat.reduceBEq, reduceIte, reduceCtorEq, Int.reduceBEq, Int.reduceEq, Int.reduceLT, Int.reduceLE, Int.reduceGT, Int.reduceGE, Int.reduceAdd, Int.reduceSub, Int.reduceNeg, Int.reduceBNe, ite_true, ite_false, if_true, if_false, implies_true, forall_const]
    · rw [hq] at hn
      simp only [if_true] at hn
      simp only [z01, hn, eA, n1, n2, ↓evD, evU, evL, Nat.reduceAdd, Nat.reduceSub, Nat.reduceMul, Nat.reduceLeDiff, Nat.reduceLT, Nat.reduceEqDiff, Nat.reduceBEq, reduceIte, reduceCtorEq, Int.reduceBEq, Int.reduceEq, Int.reduceLT, Int.reduceLE, Int.reduceGT, Int.reduceGE, Int.reduceAdd, Int.reduceSub, Int.reduceNeg, Int.reduceBNe, ite_true, ite_false, if_true, if_false, implies_true, forall_const]
  by_cases h5 : k = 5
  · subst h5
    have hc : ((5 : Int) = 1 ∨ (5 : Int) = 5) := .inr rfl
    rw [if_pos hc, if_pos hc]
    have hn := num 5
    have z20 : ((20 : Int) = 0) = False := by simp
    cases hq : lens (bxL b).length
    · rw [hq] at hn
      simp only [Bool.false_eq_true, if_false] at hn
      simp only [z20, hn, n1, n2, ↓evD, evU, evL, Nat.reduceAdd, Nat.reduceSub, Nat.reduceMul, Nat.reduceLeDiff, Nat.reduceLT, Nat.reduceEqDiff, Nat.reduceBEq, reduceIte, reduceCtorEq, Int.reduceBEq, Int.reduceEq, Int.reduceLT, Int.reduceLE, Int.reduceGT, Int.reduceGE, Int.reduceAdd, Int.reduceSub, Int.reduceNeg, Int.reduceBNe, ite_true, ite_false, if_true, if_false, implies_true, forall_const]
    · rw [hq] at hn
      simp only [if_true] at hn
      simp only [hn, eA, n1, n2, ↓evD, evU, evL, Nat.reduceAdd, Nat.reduceSub, Nat.reduceMul, Nat.reduceLeDiff, Nat.reduceLT, Nat.reduceEqDiff, Nat.reduceBEq, reduceIte, reduceCtorEq, Int.reduceBEq, Int.reduceEq, Int.reduceLT, Int.reduceLE, Int.reduceGT, Int.reduceGE, Int.reduceAdd, Int.reduceSub, Int.reduceNeg, Int.reduceBNe, ite_true, ite_false, if_true, if_false, implies_true, forall_const]
  have hc : ¬ (k = 1 ∨ k = 5) := by rintro (q | q) <;> contradiction
  rw [if_neg hc, if_neg hc]
  by_cases h2 : k = 2
  · subst h2
    rw [if_pos (rfl : (2 : Int) = 2), if_pos (rfl : (2 : Int) = 2)]
    cases hb : bxL b with
    | nil =>
      rw [hb] at hln
      have z : (((0 : Nat) : Int) != 1) = true := rfl
      simp only [P21_0_eq, hln, z, resB_ptr, n1, n2, Int.ofNat_zero, Int.natCast_zero, ↓evD, evU, evL, Nat.reduceAdd, Nat.reduceSub, Nat.reduceMul, Nat.reduceLeDiff, Nat.reduceLT, Nat.reduceEqDiff, Nat.reduceBEq, reduceIte, reduceCtorEq, Int.reduceBEq, Int.reduceEq, Int.reduceLT, Int.reduceLE, Int.reduceGT, Int.reduceGE, Int.reduceAdd, Int.reduceSub, Int.reduceNeg, Int.reduceBNe, ite_true, ite_false, if_true, if_false, implies_true, forall_const]
    | cons c r =>
      have hid := (bxV b).idx (k := .i64) (i := 0) (c := c) (by rw [hb]; rfl)
      have z0 : ((0 : Nat) : Int) = 0 := rfl
      rw [z0] at hid
      rw [hb] at hln
      have hc := c.toNat_lt
      cases r with
      | nil =>
        have z : (((1 : Nat) : Int) != 1) = false := rfl
        have w1 : IntKind.i64.wrap (c.toNat : Int) = (c.toNat : Int) := by rw [wrap_small] <;> omega
        have hb0 : byN [c] 0 = (c.toNat : Int) := rfl
        by_cases hc1 : c.toNat ≤ 1
        · have hc2 : ((c.toNat : Int) > 1) = False := by simp; omega
          have hv := hV ⟨2, c.toNat, [], nB, 0, 0⟩
          unfold eA at hv
          simp only at hv
          simp only [P21_0_eq, hln, z, hid, hc1, hc2, w1, hb0, hv, eA, n1, n2, ↓evD, evU, evL, Nat.reduceAdd, Nat.reduceSub, Nat.reduceMul, Nat.reduceLeDiff, Nat.reduceLT, Nat.reduceEqDiff, Nat.reduceBEq, reduceIte, reduceCtorEq, Int.reduceBEq, Int.reduceEq, Int.reduceLT, Int.reduceLE, Int.reduceGT, Int.reduceGE, Int.reduceAdd, Int.reduceSub, Int.reduceNeg, Int.reduceBNe, ite_true, ite_false, if_true, if_false, implies_true, forall_const]
        · have hc2 : ((c.toNat : Int) > 1) = True := by simp; omega
          simp only [P21_0_eq, hln, z, hid, hc1, hc2, w1, resB_ptr, n1, n2, ↓evD, evU, evL, Nat.reduceAdd, Nat.reduceSub, Nat.reduceMul, Nat.reduceLeDiff, Nat.reduceLT, Nat.reduceEqDiff, Nat.reduceBEq, reduceIte, reduceCtorEq, Int.reduceBEq, Int.reduceEq, Int.reduceLT, Int.reduceLE, Int.reduceGT, Int.reduceGE, Int.reduceAdd, Int.reduceSub, Int.reduceNeg, Int.reduceBNe, ite_true, ite_false, if_true, if_false, implies_true, forall_const]
      | cons d r =>
        have z : (((r.length + 1 + 1 : Nat) : Int) != 1) = true := by rw [bne_iff_ne]; omega
        simp only [P21_0_eq, hln, z, resB_ptr, n1, n2, ↓evD, evU, evL, Nat.reduceAdd, Nat.reduceSub, Nat.reduceMul, Nat.reduceLeDiff, Nat.reduceLT, Nat.reduceEqDiff, Nat.reduceBEq, reduceIte, reduceCtorEq, Int.reduceBEq, Int.reduceEq, Int.reduceLT, Int.reduceLE, Int.reduceGT, Int.reduceGE, Int.reduceAdd, Int.reduceSub, Int.reduceNeg, Int.reduceBNe, ite_true, ite_false, if_true, if_false, implies_true, forall_const]
  rw [if_neg h2, if_neg h2]
  by_cases h3 : k = 3
  · subst h3
    rw [if_pos (rfl : (3 : Int) = 3), if_pos (rfl : (3 : Int) = 3)]
    by_cases hl2 : 200 < (bxL b).length
    · have q : (((bxL b).length : Int) > 200) = True := by simp; omega
      simp only [P21_0_eq, P21_3_eq, hln, q, hl2, resB_ptr, n1, n2, ↓evD, evU, evL, Nat.reduceAdd, Nat.reduceSub, Nat.reduceMul, Nat.reduceLeDiff, Nat.reduceLT, Nat.reduceEqDiff, Nat.reduceBEq, reduceIte, reduceCtorEq, Int.reduceBEq, Int.reduceEq, Int.reduceLT, Int.reduceLE, Int.reduceGT, Int.reduceGE, Int.reduceAdd, Int.reduceSub, Int.reduceNeg, Int.reduceBNe, ite_true, ite_false, if_true, if_false, implies_true, forall_const]
    · have q : (((bxL b).length : Int) > 200) = False := by simp; omega
      cases hr : (runesG (bxL b)).2
      · rw [hr] at hR
        simp only [P21_0_eq, P21_3_eq, hln, q, hl2, hbs, hR, resB_ptr, n1, n2, ↓evD, evU, evL, Nat.reduceAdd, Nat.reduceSub, Nat.reduceMul, Nat.reduceLeDiff, Nat.reduceLT, Nat.reduceEqDiff, Nat.reduceBEq, reduceIte, reduceCtorEq, Int.reduceBEq, Int.reduceEq, Int.reduceLT, Int.reduceLE, Int.reduceGT, Int.reduceGE, Int.reduceAdd, Int.reduceSub, Int.reduceNeg, Int.reduceBNe, ite_true, ite_false, if_true, if_false, implies_true, forall_const]
      · rw [hr] at hR
        have hv := hV ⟨3, 0, bxL b, nB, 0, 0⟩
        unfold eA at hv
        simp only at hv
        simp only [P21_0_eq, P21_3_eq, hln, q, hl2, hbs, hR, hv, eA, n1, n2, ↓evD, evU, evL, Nat.reduceAdd, Nat.reduceSub, Nat.reduceMul, Nat.reduceLeDiff, Nat.reduceLT, Nat.reduceEqDiff, Nat.reduceBEq, reduceIte, reduceCtorEq, Int.reduceBEq, Int.reduceEq, Int.reduceLT, Int.reduceLE, Int.reduceGT, Int.reduceGE, Int.reduceAdd, Int.reduceSub, Int.reduceNeg, Int.reduceBNe, ite_true, ite_false, if_true, if_false, implies_true, forall_const]
  rw [if_neg h3, if_neg h3]
  by_cases h4 : k = 4
  · subst h4
    rw [if_pos (rfl : (4 : Int) = 4), if_pos (rfl : (4 : Int) = 4)]
    by_cases hl2 : 200 < (bxL b).length
    · have q : (((bxL b).length : Int) > 200) = True := by simp; omega
      simp only [P21_0_eq, P21_3_eq, hln, q, hl2, resB_ptr, n1, n2, ↓evD, evU, evL, Nat.reduceAdd, Nat.reduceSub, Nat.reduceMul, Nat.reduceLeDiff, Nat.reduceLT, Nat.reduceEqDiff, Nat.reduceBEq, reduceIte, reduceCtorEq, Int.reduceBEq, Int.reduceEq, Int.reduceLT, Int.reduceLE, Int.reduceGT, Int.reduceGE, Int.reduceAdd, Int.reduceSub, Int.reduceNeg, Int.reduceBNe, ite_true, ite_false, if_true, if_false, implies_true, forall_const]
    · have q : (((bxL b).length : Int) > 200) = False := by simp; omega
      simp only [P21_0_eq, P21_3_eq, hln, q, hl2, sc, ce, st, fr, be, eA, resB_ptr, n1, n2, ↓evD, evU, evL, Nat.reduceAdd, Nat.reduceSub, Nat.reduceMul, Nat.reduceLeDiff, Nat.reduceLT, Nat.reduceEqDiff, Nat.reduceBEq, reduceIte, reduceCtorEq, Int.reduceBEq, Int.reduceEq, Int.reduceLT, Int.reduceLE, Int.reduceGT, Int.reduceGE, Int.reduceAdd, Int.reduceSub, Int.reduceNeg, Int.reduceBNe, ite_true, ite_false, if_true, if_false, implies_true, forall_const]
  rw [if_neg h4, if_neg h4]
  by_cases h6 : k = 6
  · subst h6
    rw [if_pos (rfl : (6 : Int) = 6)]
    by_cases hl4 : (bxL b).length = 4
    · rw [if_pos hl4]
      obtain ⟨c0, c1, c2, c3, hq⟩ := len_cases4 hl4
      have i0 := (bxV b).idx (k := .i64) (i := 0) (c := c0) (by rw [hq]; rfl)
      have i1 := (bxV b).idx (k := .i64) (i := 1) (c := c1) (by rw [hq]; rfl)
      have i2 := (bxV b).idx (k := .i64) (i := 2) (c := c2) (by rw [hq]; rfl)
      have i3 := (bxV b).idx (k := .i64) (i := 3) (c := c3) (by rw [hq]; rfl)
      have z0 : ((0 : Nat) : Int) = 0 := rfl
      have z1 : ((1 : Nat) : Int) = 1 := rfl
      have z2 : ((2 : Nat) : Int) = 2 := rfl
      have z3 : ((3 : Nat) : Int) = 3 := rfl
      rw [z0] at i0; rw [z1] at i1; rw [z2] at i2; rw [z3] at i3
      have q : (((bxL b).length : Int) != 4) = false := by rw [hl4]; rfl
      have hw : ∀ c : UInt8, IntKind.i64.wrap (c.toNat : Int) = (c.toNat : Int) := by intro c; have := c.toNat_lt; rw [wrap_small] <;> omega
      have hm : ∀ c : UInt8, IntKind.i64.wrap ((c.toNat : Int) * 256) = (c.toNat : Int) * 256 := by intro c; have := c.toNat_lt; rw [wrap_small] <;> omega
      have ha : ∀ c d : UInt8, IntKind.i64.wrap ((c.toNat : Int) * 256 + d.toNat) = (c.toNat : Int) * 256 + d.toNat := by intro c d; have := c.toNat_lt; have := d.toNat_lt; rw [wrap_small] <;> omega
      have e0 : byN (bxL b) 0 = (c0.toNat : Int) := by rw [hq]; rfl
      have e1 : byN (bxL b) 1 = (c1.toNat : Int) := by rw [hq]; rfl
      have e2 : byN (bxL b) 2 = (c2.toNat : Int) := by rw [hq]; rfl
      have e3 : byN (bxL b) 3 = (c3.toNat : Int) := by rw [hq]; rfl
      have hv := hV ⟨6, 0, [], nB, (c0.toNat : Int) * 256 + c1.toNat, (c2.toNat : Int) * 256 + c3.toNat⟩
      unfold eA at hv
      simp only at hv
      simp only [P21_0_eq, P21_3_eq, hln, q, i0, i1, i2, i3, hw, hm, ha, e0, e1, e2, e3, hv, eA, n1, n2, ↓evD, evU, evL, Nat.reduceAdd, Nat.reduceSub, Nat.reduceMul, Nat.reduceLeDiff, Nat.reduceLT, Nat.reduceEqDiff, Nat.reduceBEq, reduceIte, reduceCtorEq, Int.reduceBEq, Int.reduceEq, Int.reduceLT, Int.reduceLE, Int.reduceGT, Int.reduceGE, Int.reduceAdd, Int.reduceSub, Int.reduceNeg, Int.reduceBNe, ite_true, ite_false, if_true, if_false, implies_true, forall_const]
    · rw [if_neg hl4]
      have q : (((bxL b).length : Int) != 4) = true := by rw [bne_iff_ne]; omega
      simp only [P21_0_eq, P21_3_eq, hln, q, resB_ptr, n1, n2, ↓evD, evU, evL, Nat.reduceAdd, Nat.reduceSub, Nat.reduceMul, Nat.reduceLeDiff, Nat.reduceLT, Nat.reduceEqDiff, Nat.reduceBEq, reduceIte, reduceCtorEq, Int.reduceBEq, Int.reduceEq, Int.reduceLT, Int.reduceLE, Int.reduceGT, Int.reduceGE, Int.reduceAdd, Int.reduceSub, Int.reduceNeg, Int.reduceBNe, ite_true, ite_false, if_true, if_false, implies_true, forall_const]
  rw [if_neg h6]
  simp only [P21_0_eq, P21_3_eq, h1, h2, h3, h4, h5, h6, beq_false_of h1, beq_false_of h2, beq_false_of h3, beq_false_of h4, beq_false_of h5, beq_false_of h6, resB_ptr, n1, n2, ↓evD, evU, evL, Nat.reduceAdd, Nat.reduceSub, Nat.reduceMul, Nat.reduceLeDiff, Nat.reduceLT, Nat.reduceEqDiff, Nat.reduceBEq, reduceIte, reduceCtorEq, Int.reduceBEq, Int.reduceEq, Int.reduceLT, Int.reduceLE, Int.reduceGT, Int.reduceGE, Int.reduceAdd, Int.reduceSub, Int.reduceNeg, Int.reduceBNe, ite_true, ite_false, if_true, if_false, implies_true, forall_const]
/-- The bytes of a value that has them, copied. -/
noncomputable def mustV : Vl → PV × Bool
  | .bytes b => ((clX b).1, false)
  | _ => (.nils, true)
theorem must_spec {base : Nat} {h : Hp} (x : Vl) (hx : smallV x) : CallA T base 14 [eV x] h = some (.tup [(mustV x).1, .bool (mustV x).2], h) := by
  rw [CallA_prim T_14]
  cases x with
  | bytes b =>
    have hb := bxV b
    have hl : (bxL b).length ≤ lim2 := by have : (bxL b).length ≤ 1000000 := hx; unfold lim2; omega
    have hc : cloneV b.1 = some (clP b) := by
      unfold clP
      by_cases h0 : b.1 = .nils
      · rw [if_pos h0, h0]; rfl
      · rw [if_neg h0]
        have fin : ∀ o : Own, (∀ t, o ≠ .tok t) → b.1 = .sl o 1 (u8s (bxL b)) → cloneV b.1 = some (gD (.sl .full 1 []) 1 (u8s (bxL b))) := by
          intro o ho q
          rw [q]
          have e : gD (.sl .full 1 []) 1 (u8s (bxL b)) = if (bxL b).isEmpty then .sl .full 1 [] else .sl .no 1 (u8s (bxL b)) := by
            unfold gD; cases bxL b <;> rfl
          rw [e]
          have hb2 : bytesOf (u8s (bxL b)) = some (bxL b) := Bu.bytesOf _
          cases o with
          | tok t => exact (ho t rfl).elim
          | _ => simp only [cloneV, hb2, hl, and_self, if_true]
        rcases hb with ⟨q, _⟩ | q | q
        · exact (h0 q).elim
        · exact fin .no (by intro t q; cases q) q
        · exact fin .full (by intro t q; cases q) q
    show (pMust 62 [.iface 62 b.1] h).bnd _ = _
    unfold pMust
    simp only [if_true, hc, Option.bnd_some]
    rfl
  | _ => rfl
/-- What Wire hands back, by value. -/
noncomputable def wireB : Vl → PV
  | .nil => .nils
  | .int n => .sl .full 1 (u8s (laidL n (widN n)))
  | .time n => .sl .full 1 (u8s (laidL n (widN n)))
  | .bool b => .sl .full 1 (u8s (laidL (tru b) 1))
  | .text s => .sl .no 1 (u8s s)
  | .bytes b => (clX b).1
  | .link o i => .sl .no 1 (u8s (laidL o 2 ++ laidL i 2))
theorem wireB_bv (x : Vl) : Bv (wireB x) (wireL x) := by
  cases x with
  | nil => exact .nils
  | bytes b => exact clP_bv b
  | text s => exact .no _
  | link o i => exact .no _
  | _ => exact .full _
theorem wire_q {base : Nat} {h : Hp} (x : Vl) (hx : in64V x) : (CallA T base 18 [eV x] h).bnd (forget h) = some (wireB x, h) := by
  rw [wire_spec x hx, Option.bnd_some]
  cases x with
  | nil => exact forget_same _ _
  | int n => exact forget_box (laidL_len _ _).symm
  | time n => exact forget_box (laidL_len _ _).symm
  | bool b => exact forget_box (laidL_len _ _).symm
  | text s => exact forget_box rfl
  | link o i => exact forget_box (by rw [List.length_append, laidL_len, laidL_len])
  | bytes b =>
    show forget h (clV h b, clH h b) = some (clP b, h)
    unfold clV clH clP gD
    by_cases h0 : b.1 = .nils
    · rw [if_pos h0, if_pos h0, if_pos h0]; exact forget_same _ _
    rw [if_neg h0, if_neg h0, if_neg h0]
    by_cases hne : bxL b = []
    · rw [if_pos hne, if_pos hne, hne]; exact forget_same _ _
    · rw [if_neg hne, if_neg hne, forget_box rfl]
      cases hq : bxL b with
      | nil => exact (hne hq).elim
      | cons x l => rfl
end Go.Am.YtppkffebmoffnaaDoor
namespace Go.Am.YtppkffebmoffnaaDoor
set_option maxRecDepth 100000
set_option linter.unusedSimpArgs false
set_option linter.unusedVariables false
theorem in64_0 : in64 0 := in64_of (by omega)
theorem ok_n (k n : Int) (hn : in64 n) : (⟨k, n, [], nB, 0, 0⟩ : Vi).ok := ⟨by rw [nil_b]; simp, by simp, hn, in64_0, in64_0⟩
theorem err_1 (n : Int) : errV ⟨1, n, [], nB, 0, 0⟩ = 0 := right_err (by simp) (by simp only [nil_b]; simp [rightG, extraG, onlyN])
def fB : Bx := ⟨.sl .full 1 (u8s [255, 127]), [255, 127], .full _⟩
theorem fB_l : bxL fB = [255, 127] := bxL_of (Bv.full [255, 127])
set_option maxHeartbeats 4000000 in
theorem alive_spec {base : Nat} {h : Hp} : CallA T base 8 [] h = some (.bool true, h) := by
  rw [S8]
  have r120 : (runesG [120]).2 = true := by kernel_rfl
  have e3 : errV ⟨3, 0, [120], nB, 0, 0⟩ = 0 := right_err (by simp) (by simp only [nil_b, r120]; simp [rightG, extraG, onlyN])
  have e9 : errV ⟨9, 0, [], nB, 0, 0⟩ = 70 := by unfold errV writeG; rw [if_pos (by simp)]
  have hO1 : ∀ base h, CallA T base 10 [val 1 128 [] .nils 0 0] h = some (.tup [.iface 66 (i64 128), i64 0], h) := fun base h => by
    have := of_spec (base := base) (h := h) ⟨1, 128, [], nB, 0, 0⟩ (ok_n _ _ (in64_of (by omega)))
    rw [err_1, if_pos rfl] at this; exact this
  have hO2 : ∀ base h, CallA T base 10 [val 3 0 [120] .nils 0 0] h = some (.tup [.iface 61 (.str [120]), i64 0], h) := fun base h => by
    have := of_spec (base := base) (h := h) ⟨3, 0, [120], nB, 0, 0⟩ ⟨by rw [nil_b]; simp, by simp, in64_0, in64_0, in64_0⟩
    rw [e3, if_pos rfl] at this; exact this
  have hO3 : ∀ base h, CallA T base 10 [val 9 0 [] .nils 0 0] h = some (.tup [.nilif, i64 70], h) := fun base h => by
    have := of_spec (base := base) (h := h) ⟨9, 0, [], nB, 0, 0⟩ (ok_n _ _ in64_0)
    rw [e9, if_neg (by decide)] at this; exact this
  have hN1 : ∀ base h, CallA T base 12 [.iface 66 (i64 128)] h = some (.tup [i64 128, .bool true], h) := fun base h => number_spec (.int 128)
  have hN2 : ∀ base h, CallA T base 12 [.iface 61 (.str [120])] h = some (.tup [i64 0, .bool false], h) := fun base h => number_spec (.text [120])
  have hW : ∀ base h, CallA T base 13 [.iface 61 (.str [120])] h = some (.tup [.str [120], .bool true], h) := fun base h => words_spec (.text [120])
  have hM : ∀ base h, CallA T base 14 [.iface 61 (.str [120])] h = some (.tup [.nils, .bool true], h) := fun base h => must_spec (.text [120]) trivial
  have uw0 : uwE 1 [255, 127] = 0 := by decide
  have hU : ∀ base h, CallA T base 20 [i64 1, .sl .full 1 [.int .u8 255, .int .u8 127]] h = some (.tup [.iface 66 (i64 (-129)), i64 0], h) := fun base h => by
    have := unwireV_spec (base := base) (h := h) 1 fB (by rw [fB_l]; decide)
    rw [fB_l, uw0, if_pos rfl] at this
    have hw : uwW 1 fB = ⟨1, -129, [], nB, 0, 0⟩ := by
      have : numZ [255, 127] = -129 := by decide
      unfold uwW
      rw [if_pos (.inl rfl), fB_l, this]
    rw [hw] at this
    exact this
  have w2 : widN 128 = 2 := by decide
  have l2 : laidL 128 2 = [0, 128] := by decide
  have h18 : ∀ base h, CallA T base 18 [.iface 66 (i64 128)] h = some (.bsl true (size h) 0 2 1, ext h [.cells [.int .u8 0, .int .u8 128]]) := fun base h => by
    have := wire_spec (base := base) (h := h) (.int 128) (in64_of (by omega))
    simp only [wireV, w2, l2] at this
    exact this
  have hs : bytesStrB (ext h [.cells [.int .u8 0, .int .u8 128]]) (.bsl true (size h) 0 2 1) = some (.str [0, 128]) := by
    have g : getBox (ext h [.cells [.int .u8 0, .int .u8 128]]) (size h) = some [.int .u8 0, .int .u8 128] := by rw [getBox_ext_0]; rfl
    rw [bytesStrB_bsl, elems_bsl, g]; rfl
  have hV : ∀ base h, CallA T base 16 [.iface 66 (i64 (-129))] h = some (val 1 (-129) [] .nils 0 0, h) := fun base h => val_spec (.int (-129)) trivial
  have s1 : ∀ base h, CallA T base 24 [.iface 66 (i64 128), .iface 66 (i64 128)] h = some (.bool true, h) := fun base h => by
    have := same_val (base := base) (h := h) (.int 128) (.int 128) trivial trivial
    rw [show sameI (viV (.int 128)) (viV (.int 128)) = true by simp [sameI, viV]] at this; exact this
  have s2 : ∀ base h, CallA T base 24 [.iface 66 (i64 128), .iface 61 (.str [120])] h = some (.bool false, h) := fun base h => by
    have := same_val (base := base) (h := h) (.int 128) (.text [120]) trivial trivial
    rw [show sameI (viV (.int 128)) (viV (.text [120])) = false by simp [sameI, viV]] at this; exact this
  have s3 : ∀ base h, CallA T base 24 [.nilif, .iface 66 (i64 128)] h = some (.bool false, h) := fun base h => by
    have := same_val (base := base) (h := h) .nil (.int 128) trivial trivial
    rw [show sameI (viV .nil) (viV (.int 128)) = false by simp [sameI, viV]] at this; exact this
  have f1 : ∀ base h, CallA T base 22 [.agg [i64 0, i64 1, .bool false, .bool false, .bool false, i64 0, i64 200, .bool false], .iface 66 (i64 128)] h = some (i64 0, h) := fun base h => by
    have := fits_spec (base := base) (h := h) ⟨0, 1, false, false, false, 0, 200, false⟩ (.int 128) trivial
    rw [show fitsV ⟨0, 1, false, false, false, 0, 200, false⟩ (.int 128) = 0 by simp [fitsV, viV, isNl, sizV, numV]] at this; exact this
  have f2 : ∀ base h, CallA T base 22 [.agg [i64 0, i64 1, .bool false, .bool false, .bool false, i64 0, i64 100, .bool false], .iface 66 (i64 128)] h = some (i64 1, h) := fun base h => by
    have := fits_spec (base := base) (h := h) ⟨0, 1, false, false, false, 0, 100, false⟩ (.int 128) trivial
    rw [show fitsV ⟨0, 1, false, false, false, 0, 100, false⟩ (.int 128) = 1 by simp [fitsV, viV, isNl, sizV, numV]] at this; exact this
  have f3 : ∀ base h, CallA T base 22 [.agg [i64 0, i64 2, .bool false, .bool false, .bool false, i64 0, i64 0, .bool false], .iface 66 (i64 128)] h = some (i64 70, h) := fun base h => by
    have := fits_spec (base := base) (h := h) ⟨0, 2, false, false, false, 0, 0, false⟩ (.int 128) trivial
    rw [show fitsV ⟨0, 2, false, false, false, 0, 0, false⟩ (.int 128) = 70 by simp [fitsV, viV, isNl, sizV, numV]] at this; exact this
  have n1 : (size h < size h) = False := by simp
  simp only [hO1, hO2, hO3, hN1, hN2, hW, hM, hU, h18, hs, hV, s1, s2, s3, f1, f2, f3, n1, ↓evD, evU, evL, Nat.reduceAdd, Nat.reduceSub, Nat.reduceMul, Nat.reduceLeDiff, Nat.reduceLT, Nat.reduceEqDiff, Nat.reduceBEq, reduceIte, reduceCtorEq, Int.reduceBEq, Int.reduceEq, Int.reduceLT, Int.reduceLE, Int.reduceGT, Int.reduceGE, Int.reduceAdd, Int.reduceSub, Int.reduceNeg, Int.reduceBNe, ite_true, ite_false, if_true, if_false, implies_true, forall_const]
end Go.Am.YtppkffebmoffnaaDoor
namespace Go.Am.YtppkffebmoffnaaDoor
set_option maxRecDepth 100000
set_option linter.unusedSimpArgs false
set_option linter.unusedVariables false
theorem trunc_ext_le {k : Hp} (l : List Box) {n : Nat} (hn : n ≤ size k) : trunc (ext k l) n = trunc k n := trunc_ext_ge l hn
theorem sameN_self (a : Int × Int × List UInt8 × List UInt8 × Int × Int) : sameN a a = true := by unfold sameN; simp
theorem eV_nn {x : Vl} (hx : isNl x = false) : isnilV 2 false (eV x) = some (.bool false) ∧ isnilV 2 true (eV x) = some (.bool true) := by
  cases x <;> first | exact ⟨rfl, rfl⟩ | cases hx
theorem ofV_nn (v : Vi) : isNl (ofV v) = false := by
  unfold ofV
  split
  · rfl
  · split
    · rfl
    · split
      · rfl
      · split
        · rfl
        · split <;> rfl
theorem ofV_in64 {v : Vi} (hv : v.ok) : in64V (ofV v) := by
  unfold ofV
  split
  · trivial
  · split
    · show v.s.length ≤ _; have := hv.hs; omega
    · split
      · show (bxL (clX v.b)).length ≤ _; rw [bxL_clX]; have := hv.hl; omega
      · split
        · exact hv.hn
        · split
          · trivial
          · exact hv.hn
theorem viV_cl (x : Vl) : nrm (viV (clW x)) = nrm (viV x) := by
  cases x <;> simp only [clW, nrm, viV, bxL_clX]
theorem uwW_len {k : Int} {b : Bx} (hl : (bxL b).length ≤ 1000) : (bxL (uwW k b).b).length ≤ 1000000 := by
  unfold uwW
  split
  · rw [nil_b]; simp
  · split
    · rw [nil_b]; simp
    · split
      · rw [nil_b]; simp
      · split
        · simp only; omega
        · rw [nil_b]; simp
theorem wires_loop {h : Hp} {b : Bx} (hl : (bxL b).length ≤ 1000) {K : PV} {ks : List Int} (hK : Rl eI 1 K ks) (hkl : ks.length ≤ 1000) : ∀ (r q : List Int) (H : Hp), ks = q ++ r → trunc H (size h) = h → size h ≤ size H →
    P4_0 (size h) (size h) (i64 q.length) b.1 K (i64 ks.length) H = some (.bool true, h)
  | [], q, H, hp, ht, hz => by
    rw [P4_0_eq]
    have e : ks = q := by rw [hp]; simp
    subst e
    have h1 : ((ks.length : Int) < (ks.length : Int)) = False := by simp
    simp only [h1, ht, ↓evD, evU, evL, Nat.reduceAdd, Nat.reduceSub, Nat.reduceMul, Nat.reduceLeDiff, Nat.reduceLT, Nat.reduceEqDiff, Nat.reduceBEq, reduceIte, reduceCtorEq, Int.reduceBEq, Int.reduceEq, Int.reduceLT, Int.reduceLE, Int.reduceGT, Int.reduceGE, Int.reduceAdd, Int.reduceSub, Int.reduceNeg, Int.reduceBNe, ite_true, ite_false, if_true, if_false, implies_true, forall_const]
  | k :: r, q, H, hp, ht, hz => by
    rw [P4_0_eq]
    have el : ks.length = q.length + (r.length + 1) := by rw [hp]; simp
    have h1 : ((q.length : Int) < (ks.length : Int)) = True := by simp; omega
    have hx : ks[q.length]? = some k := by rw [hp]; simp
    have hec : (eI k).cells = [i64 k] := rfl
    have w1 : IntKind.i64.wrap ((q.length : Int) + 1) = (((q ++ [k]).length : Nat) : Int) := by rw [show (q ++ [k]).length = q.length + 1 by simp, wrap_small] <;> omega
    have hU : ∀ h', _ := fun h' => unwireV_spec (base := size h) (h := h') k b hl
    have hR : ∀ h', _ := fun h' => unwireR_spec (base := size h) (h := h') k b (by omega)
    have n1 : (size H < size h) = False := by simp; omega
    have ih := fun c : List PV => wires_loop (h := h) hl hK hkl r (q ++ [k]) (ext H [.cells c]) (by rw [hp]; simp) (by rw [trunc_ext_le _ hz]; exact ht) (by rw [size_ext]; omega)
    by_cases he : uwE k (bxL b) = 0
    · obtain ⟨q1, q2, q3⟩ := uw_right hl he
      obtain ⟨f1, _, _⟩ := of_nrm q2
      have hV : ∀ h', _ := fun h' => val_spec (base := size h) (h := h') (ofV (uwW k b)) (ofV_small q1)
      have hS : ∀ h', _ := fun h' => sameR_spec (base := size h) (h := h') (viV (clW (ofV (uwW k b)))) (uwW k b) (by
        have : bxL (viV (clW (ofV (uwW k b)))).b = bxL (uwW k b).b := by have := viV_cl (ofV (uwW k b)); rw [f1] at this; exact congrArg (fun a => a.2.2.2.1) this
        rw [this]; exact uwW_len hl)
      rw [sameI_nrm, viV_cl, f1, sameN_self] at hS
      rw [valV_eA] at hV
      obtain ⟨nn1, nn2⟩ := eV_nn (ofV_nn (uwW k b))
      have sc := (bxV (uwW k b).b).scalar
      have ce := (bxV (uwW k b).b).cells
      have e0 : ((0 : Int) != 0) = false := rfl
      rw [he] at hU hR
      simp only [if_true] at hU hR
      generalize eV (ofV (uwW k b)) = x at *
      generalize eA (viV (clW (ofV (uwW k b)))) = y at *
      unfold eA at hR hS
      generalize uwW k b = w at *
      simp only [h1, hK.idx hx, hec, hU, hR, hV, hS, nn1, nn2, sc, ce, n1, w1, ih, ↓evD, evU, evL, Nat.reduceAdd, Nat.reduceSub, Nat.reduceMul, Nat.reduceLeDiff, Nat.reduceLT, Nat.reduceEqDiff, Nat.reduceBEq, reduceIte, reduceCtorEq, Int.reduceBEq, Int.reduceEq, Int.reduceLT, Int.reduceLE, Int.reduceGT, Int.reduceGE, Int.reduceAdd, Int.reduceSub, Int.reduceNeg, Int.reduceBNe, ite_true, ite_false, if_true, if_false, implies_true, forall_const]
    · rw [if_neg he] at hU hR
      have e0 : (uwE k (bxL b) != uwE k (bxL b)) = false := by simp
      have e1 : (uwE k (bxL b) != 0) = true := bne_true_of he
      have e2 : (uwE k (bxL b) == 0) = false := beq_false_of he
      generalize uwE k (bxL b) = e at *
      simp only [h1, hK.idx hx, hec, hU, hR, e0, e1, e2, n1, w1, ih, ↓evD, evU, evL, Nat.reduceAdd, Nat.reduceSub, Nat.reduceMul, Nat.reduceLeDiff, Nat.reduceLT, Nat.reduceEqDiff, Nat.reduceBEq, reduceIte, reduceCtorEq, Int.reduceBEq, Int.reduceEq, Int.reduceLT, Int.reduceLE, Int.reduceGT, Int.reduceGE, Int.reduceAdd, Int.reduceSub, Int.reduceNeg, Int.reduceBNe, ite_true, ite_false, if_true, if_false, implies_true, forall_const]
theorem wires_true (k : Int) (b : Bx) : CallA T 0 4 [i64 k, b.1] [] = some (.bool true, []) := by
  rw [S4]
  have ha := alive_spec (base := size []) (h := [])
  have hln := (bxV b).len
  by_cases hl : ((bxL b).length : Int) > 1000
  · simp only [ha, hln, hl, ↓evD, evU, evL, Nat.reduceAdd, Nat.reduceSub, Nat.reduceMul, Nat.reduceLeDiff, Nat.reduceLT, Nat.reduceEqDiff, Nat.reduceBEq, reduceIte, reduceCtorEq, Int.reduceBEq, Int.reduceEq, Int.reduceLT, Int.reduceLE, Int.reduceGT, Int.reduceGE, Int.reduceAdd, Int.reduceSub, Int.reduceNeg, Int.reduceBNe, ite_true, ite_false, if_true, if_false, implies_true, forall_const]
  · have hK : Rl eI 1 (.sl .full 1 ([k, 1, 2, 3, 4, 5, 6].map eI)) [k, 1, 2, 3, 4, 5, 6] := rl_sl .full _
    have hL := wires_loop (h := []) (b := b) (by omega) hK (by simp) [k, 1, 2, 3, 4, 5, 6] [] [] rfl rfl (Nat.le_refl _)
    simp only [ha, hln, hl, ↓evD, evU, evL, Nat.reduceAdd, Nat.reduceSub, Nat.reduceMul, Nat.reduceLeDiff, Nat.reduceLT, Nat.reduceEqDiff, Nat.reduceBEq, reduceIte, reduceCtorEq, Int.reduceBEq, Int.reduceEq, Int.reduceLT, Int.reduceLE, Int.reduceGT, Int.reduceGE, Int.reduceAdd, Int.reduceSub, Int.reduceNeg, Int.reduceBNe, ite_true, ite_false, if_true, if_false, implies_true, forall_const]
    exact hL
theorem sameI_vals {v w : Vi} (hv : errV v = 0) (hw : errV w = 0) : sameI (viV (ofV v)) (viV (ofV w)) = sameI v w := by
  rw [sameI_nrm, sameI_nrm, (of_nrm hv).1, (of_nrm hw).1]
set_option maxHeartbeats 4000000 in
theorem fits_true (r : Ru) (v w : Vi) (hvn : in64 v.n) (hvo : in64 v.o) (hvi : in64 v.i) (hwn : in64 w.n) (hwo : in64 w.o) (hwi : in64 w.i) : CallA T 0 5 [eR r, eA v, eA w] [] = some (.bool true, []) := by
  rw [S5]
  have ha : ∀ base h, _ := fun base h => alive_spec (base := base) (h := h)
  have hsv : ∀ base h, _ := fun base h => short_spec (base := base) (h := h) v
  have hsw : ∀ base h, _ := fun base h => short_spec (base := base) (h := h) w
  have scv := (bxV v.b).scalar
  have cev := (bxV v.b).cells
  have scw := (bxV w.b).scalar
  have cew := (bxV w.b).cells
  have tr : ∀ l : Hp, trunc (ext [] l) (size []) = [] := fun l => trunc_ext
  by_cases c1 : v.s.length ≤ 1000 ∧ (bxL v.b).length ≤ 1000
  rotate_left
  · have q : (decide (v.s.length ≤ 1000) && decide ((bxL v.b).length ≤ 1000)) = false := by
      rw [Bool.and_eq_false_iff, decide_eq_false_iff_not, decide_eq_false_iff_not]; omega
    rw [q] at hsv
    unfold eR eA at *
    simp only [ha, hsv, scv, cev, scw, cew, ↓evD, evU, evL, Nat.reduceAdd, Nat.reduceSub, Nat.reduceMul, Nat.reduceLeDiff, Nat.reduceLT, Nat.reduceEqDiff, Nat.reduceBEq, reduceIte, reduceCtorEq, Int.reduceBEq, Int.reduceEq, Int.reduceLT, Int.reduceLE, Int.reduceGT, Int.reduceGE, Int.reduceAdd, Int.reduceSub, Int.reduceNeg, Int.reduceBNe, ite_true, ite_false, if_true, if_false, implies_true, forall_const]
  by_cases c2 : w.s.length ≤ 1000 ∧ (bxL w.b).length ≤ 1000
  rotate_left
  · have q : (decide (w.s.length ≤ 1000) && decide ((bxL w.b).length ≤ 1000)) = false := by
      rw [Bool.and_eq_false_iff, decide_eq_false_iff_not, decide_eq_false_iff_not]; omega
    have q1 : (decide (v.s.length ≤ 1000) && decide ((bxL v.b).length ≤ 1000)) = true := by simp [c1.1, c1.2]
    rw [q1] at hsv
    rw [q] at hsw
    unfold eR eA at *
    simp only [ha, hsv, hsw, scv, cev, scw, cew, ↓evD, evU, evL, Nat.reduceAdd, Nat.reduceSub, Nat.reduceMul, Nat.reduceLeDiff, Nat.reduceLT, Nat.reduceEqDiff, Nat.reduceBEq, reduceIte, reduceCtorEq, Int.reduceBEq, Int.reduceEq, Int.reduceLT, Int.reduceLE, Int.reduceGT, Int.reduceGE, Int.reduceAdd, Int.reduceSub, Int.reduceNeg, Int.reduceBNe, ite_true, ite_false, if_true, if_false, implies_true, forall_const]
  have q1 : (decide (v.s.length ≤ 1000) && decide ((bxL v.b).length ≤ 1000)) = true := by simp [c1.1, c1.2]
  have q2 : (decide (w.s.length ≤ 1000) && decide ((bxL w.b).length ≤ 1000)) = true := by simp [c2.1, c2.2]
  rw [q1] at hsv
  rw [q2] at hsw
  have okv : v.ok := ⟨c1.2, c1.1, hvn, hvo, hvi⟩
  have okw : w.ok := ⟨c2.2, c2.1, hwn, hwo, hwi⟩
  have hov : ∀ base h, _ := fun base h => of_spec (base := base) (h := h) v okv
  have how : ∀ base h, _ := fun base h => of_spec (base := base) (h := h) w okw
  by_cases e1 : errV v = 0
  rotate_left
  · rw [if_neg e1] at hov
    have b1 := bne_true_of e1
    by_cases e2 : errV w = 0
    · rw [if_pos e2, e2] at how
      generalize eV (ofV w) = y at *
      unfold eR eA at *
      simp only [ha, hsv, hsw, hov, how, b1, scv, cev, scw, cew, ↓evD, evU, evL, Nat.reduceAdd, Nat.reduceSub, Nat.reduceMul, Nat.reduceLeDiff, Nat.reduceLT, Nat.reduceEqDiff, Nat.reduceBEq, reduceIte, reduceCtorEq, Int.reduceBEq, Int.reduceEq, Int.reduceLT, Int.reduceLE, Int.reduceGT, Int.reduceGE, Int.reduceAdd, Int.reduceSub, Int.reduceNeg, Int.reduceBNe, ite_true, ite_false, if_true, if_false, implies_true, forall_const]
    · rw [if_neg e2] at how
      unfold eR eA at *
      simp only [ha, hsv, hsw, hov, how, b1, scv, cev, scw, cew, ↓evD, evU, evL, Nat.reduceAdd, Nat.reduceSub, Nat.reduceMul, Nat.reduceLeDiff, Nat.reduceLT, Nat.reduceEqDiff, Nat.reduceBEq, reduceIte, reduceCtorEq, Int.reduceBEq, Int.reduceEq, Int.reduceLT, Int.reduceLE, Int.reduceGT, Int.reduceGE, Int.reduceAdd, Int.reduceSub, Int.reduceNeg, Int.reduceBNe, ite_true, ite_false, if_true, if_false, implies_true, forall_const]
  rw [if_pos e1, e1] at hov
  obtain ⟨nv1, nv2⟩ := eV_nn (ofV_nn v)
  by_cases e2 : errV w = 0
  rotate_left
  · rw [if_neg e2] at how
    have b2 := bne_true_of e2
    generalize eV (ofV v) = x at *
    unfold eR eA at *
    simp only [ha, hsv, hsw, hov, how, b2, nv1, nv2, scv, cev, scw, cew, ↓evD, evU, evL, Nat.reduceAdd, Nat.reduceSub, Nat.reduceMul, Nat.reduceLeDiff, Nat.reduceLT, Nat.reduceEqDiff, Nat.reduceBEq, reduceIte, reduceCtorEq, Int.reduceBEq, Int.reduceEq, Int.reduceLT, Int.reduceLE, Int.reduceGT, Int.reduceGE, Int.reduceAdd, Int.reduceSub, Int.reduceNeg, Int.reduceBNe, ite_true, ite_false, if_true, if_false, implies_true, forall_const]
  rw [if_pos e2, e2] at how
  obtain ⟨nw1, nw2⟩ := eV_nn (ofV_nn w)
  have hf : ∀ base h, _ := fun base h => fits_spec (base := base) (h := h) r (ofV v) (ofV_small okv)
  have hfn : ∀ base h, _ := fun base h => fits_spec (base := base) (h := h) r .nil trivial
  have hfr : ∀ base h, _ := fun base h => fitsR_spec (base := base) (h := h) r v
  rw [fits_law r e1] at hf
  have fnil : fitsV r .nil = 70 := by unfold fitsV; rw [if_pos (.inr rfl)]
  rw [fnil] at hfn
  have hs : ∀ base h, _ := fun base h => same_val (base := base) (h := h) (ofV v) (ofV w) (ofV_small okv) (ofV_small okw)
  have hsr : ∀ base h, _ := fun base h => sameR_spec (base := base) (h := h) v w (by omega)
  rw [sameI_vals e1 e2] at hs
  have hn1 : ∀ base h, _ := fun base h => same_val (base := base) (h := h) .nil (ofV v) trivial (ofV_small okv)
  have kv := (of_nrm e1).2.1
  have z1 : sameI (viV .nil) (viV (ofV v)) = false := by
    rw [sameI_nrm, (of_nrm e1).1]
    unfold sameN nrm
    have : ((viV .nil).k == v.k) = false := by rw [beq_eq_false_iff_ne]; show (0 : Int) ≠ v.k; omega
    rw [this]; rfl
  rw [z1] at hn1
  have hn2 : ∀ base h, _ := fun base h => same_val (base := base) (h := h) .nil .nil trivial trivial
  have z2 : sameI (viV .nil) (viV .nil) = true := by rw [sameI_nrm]; exact sameN_self _
  rw [z2] at hn2
  have hv0 : ∀ base h, CallA T base 16 [.nilif] h = some (val 0 0 [] .nils 0 0, h) := fun base h => val_spec .nil trivial
  have hw0 : ∀ base h, CallA T base 18 [.nilif] h = some (.nils, h) := fun base h => wire_spec .nil trivial
  have enil : eV .nil = .nilif := rfl
  rw [enil] at hfn hn1 hn2
  have bb : (fitsR r v == fitsR r v) = true := by simp
  have bs : (sameI v w == sameI v w) = true := by simp
  generalize fitsR r v = fr at *
  generalize sameI v w = sr at *
  generalize eV (ofV v) = x at *
  generalize eV (ofV w) = y at *
  unfold eR eA at *
  simp only [ha, hsv, hsw, hov, how, hf, hfn, hfr, hs, hsr, hn1, hn2, hv0, hw0, bb, bs, nv1, nv2, nw1, nw2, scv, cev, scw, cew, ↓evD, evU, evL, Nat.reduceAdd, Nat.reduceSub, Nat.reduceMul, Nat.reduceLeDiff, Nat.reduceLT, Nat.reduceEqDiff, Nat.reduceBEq, reduceIte, reduceCtorEq, Int.reduceBEq, Int.reduceEq, Int.reduceLT, Int.reduceLE, Int.reduceGT, Int.reduceGE, Int.reduceAdd, Int.reduceSub, Int.reduceNeg, Int.reduceBNe, ite_true, ite_false, if_true, if_false, implies_true, forall_const]
end Go.Am.YtppkffebmoffnaaDoor
namespace Go.Am.YtppkffebmoffnaaDoor
set_option maxRecDepth 100000
set_option linter.unusedSimpArgs false
set_option linter.unusedVariables false
theorem wire_law {v : Vi} (h : errV v = 0) : wireL (ofV v) = wireR v := by
  obtain ⟨e, hk, hb⟩ := of_nrm h
  obtain ⟨k, n, s, b, o, i⟩ := v
  simp only at hk hb
  unfold ofV wireR
  simp only
  by_cases h2 : k = 2
  · subst h2
    have : tru (n == 1) = n := by rcases hb rfl with rfl | rfl <;> rfl
    simp [wireL, this]
  by_cases h3 : k = 3
  · subst h3; simp [wireL]
  by_cases h4 : k = 4
  · subst h4; simp [wireL, bxL_clX]
  by_cases h5 : k = 5
  · subst h5; simp [wireL]
  by_cases h6 : k = 6
  · subst h6; simp [wireL]
  have h1 : k = 1 := by omega
  subst h1; simp [wireL]
theorem wireL_len {x : Vl} (h : in64V x) : (wireL x).length ≤ 1000000 := by
  cases x with
  | nil => simp [wireL]
  | int n => rw [wireL, laidL_len]; have := widN_le n; omega
  | time n => rw [wireL, laidL_len]; have := widN_le n; omega
  | bool b => rw [wireL, laidL_len]; omega
  | text s => exact h
  | bytes b => exact h
  | link o i => rw [wireL, List.length_append, laidL_len, laidL_len]; omega
/-- What the statement asks of a value's number, words and bytes. -/
theorem ofs_facts {v : Vi} (h : errV v = 0) : (numV (ofV v)).2 = (v.k == 1 || (v.k == 2 || v.k == 5)) ∧ ((numV (ofV v)).2 = true → (numV (ofV v)).1 = v.n) ∧ ((numV (ofV v)).2 = false → (numV (ofV v)).1 = 0) ∧
    (wordsV (ofV v)).2 = (v.k == 3) ∧ (wordsV (ofV v)).1 = v.s ∧ (mustV (ofV v)).2 = (v.k != 4) ∧ Bv (mustV (ofV v)).1 (bxL v.b) := by
  obtain ⟨e, hk, hb⟩ := of_nrm h
  obtain ⟨e1, e2, e3, e4⟩ := extra_no (write_ok h).2
  obtain ⟨k, n, s, b, o, i⟩ := v
  simp only at hk hb e1 e2 e3 e4
  unfold ofV
  simp only
  have l0 : k ≠ 4 → Bv .nils (bxL b) := fun q => by
    have : bxL b = [] := List.length_eq_zero_iff.1 (by omega)
    rw [this]; exact .nils
  have s0 : k ≠ 3 → s = [] := fun q => by rcases e2 with q' | q'; exact (q q').elim; exact q'
  by_cases h2 : k = 2
  · subst h2
    have : tru (n == 1) = n := by rcases hb rfl with rfl | rfl <;> rfl
    have hs := s0 (by decide)
    subst hs
    simp [numV, wordsV, mustV, this, l0 (by decide)]
  by_cases h3 : k = 3
  · subst h3; simp [numV, wordsV, mustV, l0 (by decide)]
  by_cases h4 : k = 4
  · subst h4
    have hs := s0 (by decide)
    subst hs
    have := clP_bv (clX b)
    rw [bxL_clX] at this
    simp [numV, wordsV, mustV]
    exact this
  by_cases h5 : k = 5
  · subst h5
    have hs := s0 (by decide)
    subst hs
    simp [numV, wordsV, mustV, l0 (by decide)]
  by_cases h6 : k = 6
  · subst h6
    have hs := s0 (by decide)
    subst hs
    simp [numV, wordsV, mustV, l0 (by decide)]
  have h1 : k = 1 := by omega
  subst h1
  have hs := s0 (by decide)
  subst hs
  simp [numV, wordsV, mustV, l0 (by decide)]
theorem link_b {v : Vi} (h : errV v = 0) : v.k = 6 → 0 ≤ v.o ∧ v.o ≤ 65535 ∧ 0 ≤ v.i ∧ v.i ≤ 65535 := by
  intro h6
  have hr := (write_ok h).2
  unfold rightG at hr
  rw [h6, Bool.and_eq_true] at hr
  have := hr.2
  simp at this
  omega
set_option maxHeartbeats 4000000 in
theorem ofs_true (v : Vi) (hvn : in64 v.n) (hvo : in64 v.o) (hvi : in64 v.i) : CallA T 0 3 [eA v] [] = some (.bool true, []) := by
  rw [S3]
  have ha : ∀ base h, _ := fun base h => alive_spec (base := base) (h := h)
  have hsv : ∀ base h, _ := fun base h => short_spec (base := base) (h := h) v
  have scv := (bxV v.b).scalar
  have cev := (bxV v.b).cells
  by_cases c1 : v.s.length ≤ 1000 ∧ (bxL v.b).length ≤ 1000
  rotate_left
  · have q : (decide (v.s.length ≤ 1000) && decide ((bxL v.b).length ≤ 1000)) = false := by
      rw [Bool.and_eq_false_iff, decide_eq_false_iff_not, decide_eq_false_iff_not]; omega
    rw [q] at hsv
    unfold eA at *
    simp only [ha, hsv, scv, cev, ↓evD, evU, evL, Nat.reduceAdd, Nat.reduceSub, Nat.reduceMul, Nat.reduceLeDiff, Nat.reduceLT, Nat.reduceEqDiff, Nat.reduceBEq, reduceIte, reduceCtorEq, Int.reduceBEq, Int.reduceEq, Int.reduceLT, Int.reduceLE, Int.reduceGT, Int.reduceGE, Int.reduceAdd, Int.reduceSub, Int.reduceNeg, Int.reduceBNe, ite_true, ite_false, if_true, if_false, implies_true, forall_const]
  have q1 : (decide (v.s.length ≤ 1000) && decide ((bxL v.b).length ≤ 1000)) = true := by simp [c1.1, c1.2]
  rw [q1] at hsv
  have okv : v.ok := ⟨c1.2, c1.1, hvn, hvo, hvi⟩
  have hov : ∀ base h, _ := fun base h => of_spec (base := base) (h := h) v okv
  have hwr : ∀ base h, _ := fun base h => writeR_spec (base := base) (h := h) v.k v.n v.s v.o v.i (bxV v.b) (by omega) (runesE2 (by omega) : ∀ base h, CallA T base 39 [.str v.s] h = some (.tup [i64 (runesG v.s).1, .bool (runesG v.s).2], h)) hvn hvo hvi
  have eE : (writeG v.k v.n v.s (bxL v.b).length v.o v.i (runesG v.s).2 (encL (bxL v.b))).2 = errV v := rfl
  rw [eE] at hwr
  generalize (writeG v.k v.n v.s (bxL v.b).length v.o v.i (runesG v.s).2 (encL (bxL v.b))).1 = wt at *
  have bE : (errV v != errV v) = false := by simp
  by_cases e1 : errV v = 0
  rotate_left
  · rw [if_neg e1] at hov
    have b1 := bne_true_of e1
    generalize errV v = ee at *
    unfold eA at *
    simp only [ha, hsv, hov, hwr, bE, b1, scv, cev, ↓evD, evU, evL, Nat.reduceAdd, Nat.reduceSub, Nat.reduceMul, Nat.reduceLeDiff, Nat.reduceLT, Nat.reduceEqDiff, Nat.reduceBEq, reduceIte, reduceCtorEq, Int.reduceBEq, Int.reduceEq, Int.reduceLT, Int.reduceLE, Int.reduceGT, Int.reduceGE, Int.reduceAdd, Int.reduceSub, Int.reduceNeg, Int.reduceBNe, ite_true, ite_false, if_true, if_false, implies_true, forall_const]
  rw [if_pos e1, e1] at hov
  rw [e1] at hwr
  obtain ⟨nv1, nv2⟩ := eV_nn (ofV_nn v)
  obtain ⟨f1, f2, f3, f4, f5, f6, f7⟩ := ofs_facts e1
  have hi6 := ofV_in64 okv
  have hN : ∀ base h, _ := fun base h => number_spec (base := base) (h := h) (ofV v)
  have hW : ∀ base h, _ := fun base h => words_spec (base := base) (h := h) (ofV v)
  have hM : ∀ base h, _ := fun base h => must_spec (base := base) (h := h) (ofV v) (ofV_small okv)
  have hV : ∀ base h, _ := fun base h => val_spec (base := base) (h := h) (ofV v) (ofV_small okv)
  have hS : ∀ base h, _ := fun base h => sameR_spec (base := base) (h := h) (viV (clW (ofV v))) v (by
    have : bxL (viV (clW (ofV v))).b = bxL v.b := by have := viV_cl (ofV v); rw [(of_nrm e1).1] at this; exact congrArg (fun a => a.2.2.2.1) this
    rw [this]; omega)
  rw [sameI_nrm, viV_cl, (of_nrm e1).1, sameN_self] at hS
  rw [valV_eA] at hV
  have hq : ∀ base h, _ := fun base h => wire_q (base := base) (h := h) (ofV v) hi6
  obtain ⟨p, hp, hr⟩ := wireR_spec v okv (link_b e1)
  have hwl : (wireL (ofV v)).length ≤ 1000000 := wireL_len hi6
  have hB : ∀ base h, _ := fun base h => same_spec (base := base) (h := h) (wireB_bv (ofV v)).rd hp.rd (by omega)
  rw [wire_law e1] at hB
  have bw : (wireR v == wireR v) = true := by simp
  rw [bw] at hB
  have hC : ∀ base h, _ := fun base h => same_spec (base := base) (h := h) f7.rd (bxV v.b).rd (by omega)
  have bl : (bxL v.b == bxL v.b) = true := by simp
  rw [bl] at hC
  rw [f6] at hM
  rw [f4, f5] at hW
  rw [f1] at hN f2 f3
  have n1 : (size ([] : Hp) < size ([] : Hp)) = False := by simp
  generalize wireB (ofV v) = wb at *
  generalize (mustV (ofV v)).1 = mb at *
  generalize (numV (ofV v)).1 = nb at *
  generalize eV (ofV v) = x at *
  generalize eA (viV (clW (ofV v))) = y at *
  unfold eA at *
  by_cases k1 : v.k = 1
  · have := f2 (by rw [k1]; rfl)
    subst this
    simp only [k1] at *
    simp only [ha, hsv, hov, hwr, hN, hW, hM, hV, hS, hq, hr, hB, hC, nv1, nv2, scv, cev, ↓evD, evU, evL, Nat.reduceAdd, Nat.reduceSub, Nat.reduceMul, Nat.reduceLeDiff, Nat.reduceLT, Nat.reduceEqDiff, Nat.reduceBEq, reduceIte, reduceCtorEq, Int.reduceBEq, Int.reduceEq, Int.reduceLT, Int.reduceLE, Int.reduceGT, Int.reduceGE, Int.reduceAdd, Int.reduceSub, Int.reduceNeg, Int.reduceBNe, ite_true, ite_false, if_true, if_false, implies_true, forall_const]
  by_cases k2 : v.k = 2
  · have := f2 (by rw [k2]; rfl)
    subst this
    simp only [k2] at *
    simp only [ha, hsv, hov, hwr, hN, hW, hM, hV, hS, hq, hr, hB, hC, nv1, nv2, scv, cev, ↓evD, evU, evL, Nat.reduceAdd, Nat.reduceSub, Nat.reduceMul, Nat.reduceLeDiff, Nat.reduceLT, Nat.reduceEqDiff, Nat.reduceBEq, reduceIte, reduceCtorEq, Int.reduceBEq, Int.reduceEq, Int.reduceLT, Int.reduceLE, Int.reduceGT, Int.reduceGE, Int.reduceAdd, Int.reduceSub, Int.reduceNeg, Int.reduceBNe, ite_true, ite_false, if_true, if_false, implies_true, forall_const]
  by_cases k5 : v.k = 5
  · have := f2 (by rw [k5]; rfl)
    subst this
    simp only [k5] at *
    simp only [ha, hsv, hov, hwr, hN, hW, hM, hV, hS, hq, hr, hB, hC, nv1, nv2, scv, cev, ↓evD, evU, evL, Nat.reduceAdd, Nat.reduceSub, Nat.reduceMul, Nat.reduceLeDiff, Nat.reduceLT, Nat.reduceEqDiff, Nat.reduceBEq, reduceIte, reduceCtorEq, Int.reduceBEq, Int.reduceEq, Int.reduceLT, Int.reduceLE, Int.reduceGT, Int.reduceGE, Int.reduceAdd, Int.reduceSub, Int.reduceNeg, Int.reduceBNe, ite_true, ite_false, if_true, if_false, implies_true, forall_const]
  obtain ⟨_, hk, _⟩ := of_nrm e1
  by_cases k3 : v.k = 3
  · have := f3 (by rw [k3]; rfl)
    subst this
    simp only [k3] at *
    simp only [ha, hsv, hov, hwr, hN, hW, hM, hV, hS, hq, hr, hB, hC, nv1, nv2, scv, cev, ↓evD, evU, evL, Nat.reduceAdd, Nat.reduceSub, Nat.reduceMul, Nat.reduceLeDiff, Nat.reduceLT, Nat.reduceEqDiff, Nat.reduceBEq, reduceIte, reduceCtorEq, Int.reduceBEq, Int.reduceEq, Int.reduceLT, Int.reduceLE, Int.reduceGT, Int.reduceGE, Int.reduceAdd, Int.reduceSub, Int.reduceNeg, Int.reduceBNe, ite_true, ite_false, if_true, if_false, implies_true, forall_const]
  by_cases k4 : v.k = 4
  · have := f3 (by rw [k4]; rfl)
    subst this
    simp only [k4] at *
    simp only [ha, hsv, hov, hwr, hN, hW, hM, hV, hS, hq, hr, hB, hC, nv1, nv2, scv, cev, ↓evD, evU, evL, Nat.reduceAdd, Nat.reduceSub, Nat.reduceMul, Nat.reduceLeDiff, Nat.reduceLT, Nat.reduceEqDiff, Nat.reduceBEq, reduceIte, reduceCtorEq, Int.reduceBEq, Int.reduceEq, Int.reduceLT, Int.reduceLE, Int.reduceGT, Int.reduceGE, Int.reduceAdd, Int.reduceSub, Int.reduceNeg, Int.reduceBNe, ite_true, ite_false, if_true, if_false, implies_true, forall_const]
  have k6 : v.k = 6 := by omega
  have := f3 (by rw [k6]; rfl)
  subst this
  simp only [k6] at *
  simp only [ha, hsv, hov, hwr, hN, hW, hM, hV, hS, hq, hr, hB, hC, nv1, nv2, scv, cev, ↓evD, evU, evL, Nat.reduceAdd, Nat.reduceSub, Nat.reduceMul, Nat.reduceLeDiff, Nat.reduceLT, Nat.reduceEqDiff, Nat.reduceBEq, reduceIte, reduceCtorEq, Int.reduceBEq, Int.reduceEq, Int.reduceLT, Int.reduceLE, Int.reduceGT, Int.reduceGE, Int.reduceAdd, Int.reduceSub, Int.reduceNeg, Int.reduceBNe, ite_true, ite_false, if_true, if_false, implies_true, forall_const]
end Go.Am.YtppkffebmoffnaaDoor
namespace Go.Am.YtppkffebmoffnaaDoor
set_option maxRecDepth 100000
set_option linter.unusedSimpArgs false
set_option linter.unusedVariables false
/-- Bytes in a box: a place's byte. -/
theorem load_box {G : Hp} {n : Nat} {l : List UInt8} (hg : getBox G n = some (u8s l)) {i : Nat} {c : UInt8} (hc : l[i]? = some c) : loadV 1 false (.ptr n i) G = some (.int .u8 c.toNat) := by
  have : part (u8s l) i 1 false = some (.int .u8 c.toNat) := by
    unfold part
    rw [if_neg (by simp)]
    exact Bu.get hc
  show (getBox G n).bnd _ = _
  rw [hg, Option.bnd_some, this]
theorem numX_loop {h : Hp} {n : Nat} {c : UInt8} {l : List UInt8} (hg : getBox h n = some (u8s (c :: l))) (hl : l.length ≤ 7) (f : Bool) : ∀ (r q : List UInt8) (z : Int), l = q ++ r → -(128 * 256 ^ q.length) ≤ z → z < 128 * 256 ^ q.length →
    P48_0 (size h) (size h) (i64 q.length) (i64 z) (.bsl f n 1 l.length 1) (i64 l.length) h = some (.tup [i64 (foldZ z r), .bool true], h)
  | [], q, z, hp, h0, h1 => by
    rw [P48_0_eq]
    have e : l = q := by rw [hp]; simp
    subst e
    have h1 : ((l.length : Int) < (l.length : Int)) = False := by simp
    simp only [h1, foldZ, List.foldl_nil, ↓evD, evU, evL, Nat.reduceAdd, Nat.reduceSub, Nat.reduceMul, Nat.reduceLeDiff, Nat.reduceLT, Nat.reduceEqDiff, Nat.reduceBEq, reduceIte, reduceCtorEq, Int.reduceBEq, Int.reduceEq, Int.reduceLT, Int.reduceLE, Int.reduceGT, Int.reduceGE, Int.reduceAdd, Int.reduceSub, Int.reduceNeg, Int.reduceBNe, ite_true, ite_false, if_true, if_false, implies_true, forall_const]
  | x :: r, q, z, hp, h0, h1 => by
    rw [P48_0_eq]
    have el : l.length = q.length + (r.length + 1) := by rw [hp]; simp
    have hlt : ((q.length : Int) < (l.length : Int)) = True := by simp; omega
    have hx : (c :: l)[1 + q.length]? = some x := by rw [show 1 + q.length = q.length + 1 by omega, List.getElem?_cons_succ, hp]; simp
    have w1 : IntKind.i64.wrap ((q.length : Int) + 1) = (((q ++ [x]).length : Nat) : Int) := by rw [show (q ++ [x]).length = q.length + 1 by simp, wrap_small] <;> omega
    have hx256 := x.toNat_lt
    have hp6 : (256 : Int) ^ q.length ≤ 256 ^ 6 := by
      have : (256 : Nat) ^ q.length ≤ 256 ^ 6 := Nat.pow_le_pow_right (by decide) (by omega)
      exact_mod_cast this
    have e6 : (256 : Int) ^ 6 = 281474976710656 := by decide
    rw [e6] at hp6
    have hsh : shiftOp .shl .i64 z 8 = some (i64 (z * 256)) := by
      unfold shiftOp
      rw [if_neg (by decide)]
      have : min (8 : Int).toNat IntKind.i64.bits = 8 := rfl
      simp only [this]
      have p8 : (2 : Int) ^ 8 = 256 := by decide
      rw [p8, wrap_small] <;> omega
    have w2 : IntKind.i64.wrap (x.toNat : Int) = x.toNat := by rw [wrap_small] <;> omega
    have hor := or_low (n := z) (c := x.toNat) (by omega) (by omega) (by omega) (by omega)
    have hix : ix (i64 q.length) l.length = some q.length := ix_nat .i64 q.length l.length (by omega)
    have hid : idxAB (.bsl f n 1 l.length 1) (i64 q.length) 1 = some (.ptr n (1 + q.length)) := by simp only [hix, Nat.mul_one, ↓evD, evU, evL, Nat.reduceAdd, Nat.reduceSub, Nat.reduceMul, Nat.reduceLeDiff, Nat.reduceLT, Nat.reduceEqDiff, Nat.reduceBEq, reduceIte, reduceCtorEq, Int.reduceBEq, Int.reduceEq, Int.reduceLT, Int.reduceLE, Int.reduceGT, Int.reduceGE, Int.reduceAdd, Int.reduceSub, Int.reduceNeg, Int.reduceBNe, ite_true, ite_false, if_true, if_false, implies_true, forall_const]
    have hld := load_box hg hx
    have elp : (q ++ [x]).length = q.length + 1 := by simp
    have ih := numX_loop (h := h) hg hl f r (q ++ [x]) (z * 256 + x.toNat) (by rw [hp]; simp) (by rw [elp, Int.pow_succ]; omega) (by rw [elp, Int.pow_succ]; omega)
    have hf : foldZ z (x :: r) = foldZ (z * 256 + x.toNat) r := rfl
    have hior : intOp .or .i64 (z * 256) (x.toNat : Int) = intBits .or .i64 (z * 256) (x.toNat : Int) := rfl
    generalize PV.bsl f n 1 l.length 1 = B at *
    generalize PV.ptr n (1 + q.length) = P at *
    simp only [hlt, hid, hld, hsh, w1, w2, hior, hor, ih, hf, ↓evD, evU, evL, Nat.reduceAdd, Nat.reduceSub, Nat.reduceMul, Nat.reduceLeDiff, Nat.reduceLT, Nat.reduceEqDiff, Nat.reduceBEq, reduceIte, reduceCtorEq, Int.reduceBEq, Int.reduceEq, Int.reduceLT, Int.reduceLE, Int.reduceGT, Int.reduceGE, Int.reduceAdd, Int.reduceSub, Int.reduceNeg, Int.reduceBNe, ite_true, ite_false, if_true, if_false, implies_true, forall_const]
theorem bnumX_spec {base : Nat} {h : Hp} {n : Nat} {l : List UInt8} (hg : getBox h n = some (u8s l)) (hq : lens l.length = true) : CallA T base 48 [.bsl true n 0 l.length 1] h = some (.tup [i64 (numZ l), .bool true], h) := by
  rw [S48]
  have hC := fun h' => contains_spec (base := size h) (h := h') l.length
  rw [hq] at hC
  obtain ⟨c, r, rfl⟩ : ∃ c r, l = c :: r := by
    cases l with
    | nil => cases hq
    | cons c r => exact ⟨c, r, rfl⟩
  simp only [List.length_cons] at hC
  have hr : r.length ≤ 7 := by
    unfold lens at hq
    simp only [List.length_cons, Bool.or_eq_true, beq_iff_eq] at hq
    omega
  have hix : ix (.int .i64 0) (r.length + 1) = some 0 := by simp [ix]
  have hid : idxAB (.bsl true n 0 (r.length + 1) 1) (.int .i64 0) 1 = some (.ptr n 0) := by simp only [hix, Nat.mul_one, ↓evD, evU, evL, Nat.reduceAdd, Nat.reduceSub, Nat.reduceMul, Nat.reduceLeDiff, Nat.reduceLT, Nat.reduceEqDiff, Nat.reduceBEq, reduceIte, reduceCtorEq, Int.reduceBEq, Int.reduceEq, Int.reduceLT, Int.reduceLE, Int.reduceGT, Int.reduceGE, Int.reduceAdd, Int.reduceSub, Int.reduceNeg, Int.reduceBNe, ite_true, ite_false, if_true, if_false, implies_true, forall_const]
  have hld := load_box hg (i := 0) (c := c) rfl
  have hln : lenB false (.bsl true n 0 (r.length + 1) 1) = some (i64 (r.length + 1 : Nat)) := rfl
  have hb1 := bdV_nat (r.length + 1) .i64 1 (by omega)
  have z1 : ((1 : Nat) : Int) = 1 := rfl
  rw [z1] at hb1
  have hb8 := i8Z_b c
  have h8 := i8_wrap c
  have hN : numZ (c :: r) = foldZ (i8Z c) r := rfl
  have z : (i64 (([] : List UInt8).length : Int)) = .int .i64 0 := rfl
  rw [hN]
  cases r with
  | nil =>
    have hs : sliceV (some 1) (some (.int .i64 1)) none none (.bsl true n 0 ([] : List UInt8).length.succ 1) = some (.sl .no 1 []) := by
      rw [sliceV_bsl, bdW_none, Option.bnd_some, bdW_some]
      have := hb1
      simp only [List.length_nil] at this ⊢
      rw [this, Option.bnd_some]; rfl
    have hl := num_loop (h := h) (o := .no) [] (by simp) [] [] (i8Z c) rfl (by simp; omega) (by simp; omega)
    rw [z] at hl
    have en : u8s [] = [] := rfl
    rw [en] at hl
    simp only [List.length_cons, List.length_nil, Nat.succ_eq_add_one, Nat.zero_add] at *
    have hln2 : lenB false (.sl .no 1 []) = some (i64 0) := rfl
    have hl2 : P48_0 (size h) (size h) (.int .i64 0) (i64 (i8Z c)) (.sl .no 1 []) (i64 0) h = some (.tup [i64 (foldZ (i8Z c) []), .bool true], h) := hl
    generalize PV.bsl true n 0 1 1 = B at *
    generalize PV.ptr n 0 = P at *
    simp only [hln, hC, hid, hld, hs, hln2, h8, hl2, ↓evD, evU, evL, Nat.reduceAdd, Nat.reduceSub, Nat.reduceMul, Nat.reduceLeDiff, Nat.reduceLT, Nat.reduceEqDiff, Nat.reduceBEq, reduceIte, reduceCtorEq, Int.reduceBEq, Int.reduceEq, Int.reduceLT, Int.reduceLE, Int.reduceGT, Int.reduceGE, Int.reduceAdd, Int.reduceSub, Int.reduceNeg, Int.reduceBNe, ite_true, ite_false, if_true, if_false, implies_true, forall_const]
  | cons d r =>
    have hs : sliceV (some 1) (some (.int .i64 1)) none none (.bsl true n 0 ((d :: r).length + 1) 1) = some (.bsl true n 1 (d :: r).length 1) := by
      rw [sliceV_bsl, bdW_none, Option.bnd_some, bdW_some, hb1, Option.bnd_some]
      simp
    have hl := numX_loop (h := h) hg hr true (d :: r) [] (i8Z c) rfl (by simp; omega) (by simp; omega)
    rw [z] at hl
    have hln2 : lenB false (.bsl true n 1 (d :: r).length 1) = some (i64 (d :: r).length) := rfl
    simp only [List.length_cons] at *
    generalize PV.bsl true n 0 (r.length + 1 + 1) 1 = B at *
    generalize PV.bsl true n 1 (r.length + 1) 1 = B2 at *
    generalize PV.ptr n 0 = P at *
    simp only [hln, hC, hid, hld, hs, hln2, h8, hl, ↓evD, evU, evL, Nat.reduceAdd, Nat.reduceSub, Nat.reduceMul, Nat.reduceLeDiff, Nat.reduceLT, Nat.reduceEqDiff, Nat.reduceBEq, reduceIte, reduceCtorEq, Int.reduceBEq, Int.reduceEq, Int.reduceLT, Int.reduceLE, Int.reduceGT, Int.reduceGE, Int.reduceAdd, Int.reduceSub, Int.reduceNeg, Int.reduceBNe, ite_true, ite_false, if_true, if_false, implies_true, forall_const]
/-- A number's bytes are read as it. -/
theorem num_laid {n : Int} (hn : in64 n) : numZ (laidL n (widN n)) = n ∧ lens (laidL n (widN n)).length = true := by
  unfold in64 at hn
  rw [laidL_len]
  have p0 : (2 : Int) ^ (8 * 0) = 1 := by decide
  have p1 : (2 : Int) ^ (8 * 1) = 256 := by decide
  have p2 : (2 : Int) ^ (8 * 2) = 65536 := by decide
  have p3 : (2 : Int) ^ (8 * 3) = 16777216 := by decide
  have p4 : (2 : Int) ^ (8 * 4) = 4294967296 := by decide
  have p5 : (2 : Int) ^ (8 * 5) = 1099511627776 := by decide
  have p6 : (2 : Int) ^ (8 * 6) = 281474976710656 := by decide
  have p7 : (2 : Int) ^ (8 * 7) = 72057594037927936 := by decide
  have top : ∀ i, i8Z (byteAt n i) = if (n / 2 ^ (8 * i)) % 256 < 128 then (n / 2 ^ (8 * i)) % 256 else (n / 2 ^ (8 * i)) % 256 - 256 := by
    intro i
    have := byteAt_val n i
    unfold i8Z
    by_cases q : (byteAt n i).toNat < 128
    · rw [if_pos q, if_pos (by omega)]; omega
    · rw [if_neg q, if_neg (by omega)]; omega
  unfold widN
  split
  · refine ⟨?_, rfl⟩
    show foldZ (i8Z (byteAt n 0)) [] = n
    simp only [foldZ, List.foldl_nil, top, p0]
    split <;> omega
  · split
    · refine ⟨?_, rfl⟩
      show foldZ (i8Z (byteAt n 1)) [byteAt n 0] = n
      simp only [foldZ, List.foldl_nil, List.foldl_cons, top, byteAt_val, p0, p1]
      split <;> omega
    · split
      · refine ⟨?_, rfl⟩
        show foldZ (i8Z (byteAt n 3)) [byteAt n 2, byteAt n 1, byteAt n 0] = n
        simp only [foldZ, List.foldl_nil, List.foldl_cons, top, byteAt_val, p0, p1, p2, p3]
        split <;> omega
      · refine ⟨?_, rfl⟩
        show foldZ (i8Z (byteAt n 7)) [byteAt n 6, byteAt n 5, byteAt n 4, byteAt n 3, byteAt n 2, byteAt n 1, byteAt n 0] = n
        simp only [foldZ, List.foldl_nil, List.foldl_cons, top, byteAt_val, p0, p1, p2, p3, p4, p5, p6, p7]
        split <;> omega
end Go.Am.YtppkffebmoffnaaDoor
namespace Go.Am.YtppkffebmoffnaaDoor
set_option maxRecDepth 100000
set_option linter.unusedSimpArgs false
set_option linter.unusedVariables false
theorem unwX_spec {base : Nat} {h : Hp} {l : List UInt8} (hq : lens l.length = true) :
    CallA T base 20 [.int .i64 1, .bsl true (size h) 0 l.length 1] (ext h [.cells (u8s l)]) = some (.tup [.iface 66 (i64 (numZ l)), i64 0], ext h [.cells (u8s l)]) := by
  have h8 : l.length ≤ 8 := by unfold lens at hq; simp only [Bool.or_eq_true, beq_iff_eq] at hq; omega
  have hU : CallA T (size (ext h [.cells (u8s l)])) 38 [.int .i64 1, .bsl true (size h) 0 l.length 1] (ext h [.cells (u8s l)]) = some (.tup [val 1 (numZ l) [] .nils 0 0, i64 0], ext h [.cells (u8s l)]) := by
    rw [S38]
    generalize hH : ext h [.cells (u8s l)] = H
    have hg : ∀ m, getBox (ext H m) (size h) = some (u8s l) := by
      intro m
      rw [← hH, getBox_ext_lt (by rw [size_ext]; simp), getBox_ext_0]; rfl
    have hN := fun m => bnumX_spec (base := size H) (h := ext H m) (hg m) hq
    have hE := fun k n s o i ok => uw_end (h := H) k n s nB o i ok
    unfold uwH at hE
    simp only at hE
    have n1 : (size H < size H) = False := by simp
    have n2 : (size H + 1 < size H) = False := by simp
    generalize PV.bsl true (size h) 0 l.length 1 = B at *
    simp only [P38_0_eq, hN, hE, n1, n2, ↓evD, evU, evL, Nat.reduceAdd, Nat.reduceSub, Nat.reduceMul, Nat.reduceLeDiff, Nat.reduceLT, Nat.reduceEqDiff, Nat.reduceBEq, reduceIte, reduceCtorEq, Int.reduceBEq, Int.reduceEq, Int.reduceLT, Int.reduceLE, Int.reduceGT, Int.reduceGE, Int.reduceAdd, Int.reduceSub, Int.reduceNeg, Int.reduceBNe, ite_true, ite_false, if_true, if_false, implies_true, forall_const]
  rw [S20]
  have hO := fun h' => of_spec (base := size (ext h [.cells (u8s l)])) (h := h') ⟨1, numZ l, [], nB, 0, 0⟩ (ok_n _ _ (numZ_in h8))
  rw [err_1, if_pos rfl] at hO
  have hO' : ∀ h', CallA T (size (ext h [.cells (u8s l)])) 10 [val 1 (numZ l) [] .nils 0 0] h' = some (.tup [.iface 66 (i64 (numZ l)), i64 0], h') := hO
  generalize ext h [.cells (u8s l)] = H at *
  generalize PV.bsl true (size h) 0 l.length 1 = B at *
  have n1 : (size H < size H) = False := by simp
  simp only [hU, hO', n1, ↓evD, evU, evL, Nat.reduceAdd, Nat.reduceSub, Nat.reduceMul, Nat.reduceLeDiff, Nat.reduceLT, Nat.reduceEqDiff, Nat.reduceBEq, reduceIte, reduceCtorEq, Int.reduceBEq, Int.reduceEq, Int.reduceLT, Int.reduceLE, Int.reduceGT, Int.reduceGE, Int.reduceAdd, Int.reduceSub, Int.reduceNeg, Int.reduceBNe, ite_true, ite_false, if_true, if_false, implies_true, forall_const]
set_option maxHeartbeats 1000000 in
theorem numbers_true (n : Int) (hn : in64 n) : CallA T 0 7 [i64 n] [] = some (.bool true, []) := by
  rw [S7]
  have ha := alive_spec (base := size ([] : Hp)) (h := [])
  have hO := of_spec (base := size ([] : Hp)) (h := []) ⟨1, n, [], nB, 0, 0⟩ (ok_n _ _ hn)
  rw [err_1, if_pos rfl] at hO
  have hO' : CallA T (size ([] : Hp)) 10 [val 1 n [] .nils 0 0] [] = some (.tup [.iface 66 (i64 n), i64 0], []) := hO
  have hW : CallA T (size ([] : Hp)) 18 [.iface 66 (i64 n)] [] = some (.bsl true (size ([] : Hp)) 0 (widN n) 1, ext [] [.cells (u8s (laidL n (widN n)))]) := wire_spec (.int n) hn
  obtain ⟨e1, e2⟩ := num_laid hn
  have hU := unwX_spec (base := size ([] : Hp)) (h := []) e2
  rw [e1, laidL_len] at hU
  have hN : ∀ h', CallA T (size ([] : Hp)) 12 [.iface 66 (i64 n)] h' = some (.tup [i64 n, .bool true], h') := fun h' => number_spec (.int n)
  have hln : lenB false (.bsl true (size ([] : Hp)) 0 (widN n) 1) = some (i64 (widN n)) := rfl
  have ht : trunc (ext [] [.cells (u8s (laidL n (widN n)))]) (size ([] : Hp)) = [] := trunc_ext
  generalize ext [] [.cells (u8s (laidL n (widN n)))] = H at *
  have en : (n == n) = true := by simp
  have hw : (widN n = 1 ∧ True) ∨ (widN n = 2 ∧ ¬ (-128 ≤ n ∧ n ≤ 127)) ∨ (widN n = 4 ∧ ¬ (-32768 ≤ n ∧ n ≤ 32767)) ∨ (widN n = 8 ∧ ¬ (-2147483648 ≤ n ∧ n ≤ 2147483647)) := by
    unfold widN
    split
    · exact .inl ⟨rfl, trivial⟩
    · split
      · exact .inr (.inl ⟨rfl, by assumption⟩)
      · split
        · exact .inr (.inr (.inl ⟨rfl, by assumption⟩))
        · exact .inr (.inr (.inr ⟨rfl, by assumption⟩))
  have s1 : shiftOp .shl .i64 (-1) 7 = some (i64 (-128)) := rfl
  have s2 : shiftOp .shl .i64 1 7 = some (i64 128) := rfl
  have s3 : shiftOp .shl .i64 (-1) 15 = some (i64 (-32768)) := rfl
  have s4 : shiftOp .shl .i64 1 15 = some (i64 32768) := rfl
  have s5 : shiftOp .shl .i64 (-1) 31 = some (i64 (-2147483648)) := rfl
  have s6 : shiftOp .shl .i64 1 31 = some (i64 2147483648) := rfl
  have z1 : ((1 : Nat) : Int) = 1 := rfl
  have z2 : ((2 : Nat) : Int) = 2 := rfl
  have z4 : ((4 : Nat) : Int) = 4 := rfl
  have z8 : ((8 : Nat) : Int) = 8 := rfl
  have t8 : IntKind.i64.wrap (8 * 1) = 8 := rfl
  have t16 : IntKind.i64.wrap (8 * 2) = 16 := rfl
  have t32 : IntKind.i64.wrap (8 * 4) = 32 := rfl
  have t64 : IntKind.i64.wrap (8 * 8) = 64 := rfl
  have d8 : IntKind.i64.wrap ((8 : Int).tdiv 2) = 4 := rfl
  have d16 : IntKind.i64.wrap ((16 : Int).tdiv 2) = 8 := rfl
  have d32 : IntKind.i64.wrap ((32 : Int).tdiv 2) = 16 := rfl
  have d64 : IntKind.i64.wrap ((64 : Int).tdiv 2) = 32 := rfl
  have m8 : IntKind.i64.wrap (8 - 1) = 7 := rfl
  have m16 : IntKind.i64.wrap (16 - 1) = 15 := rfl
  have m32 : IntKind.i64.wrap (32 - 1) = 31 := rfl
  have m7 : IntKind.i64.wrap 7 = 7 := rfl
  have m15 : IntKind.i64.wrap 15 = 15 := rfl
  have m31 : IntKind.i64.wrap 31 = 31 := rfl
  have z20 : ((2 : Int) = 0) = False := by simp
  rcases hw with ⟨hw, _⟩ | ⟨hw, hq⟩ | ⟨hw, hq⟩ | ⟨hw, hq⟩
  · rw [hw] at hW hU hln
    rw [z1] at hln
    generalize PV.bsl true (size ([] : Hp)) 0 1 1 = B at *
    simp only [ha, hO', hW, hU, hN, hln, ht, en, t8, d8, z20, ↓evD, evU, evL, Nat.reduceAdd, Nat.reduceSub, Nat.reduceMul, Nat.reduceLeDiff, Nat.reduceLT, Nat.reduceEqDiff, Nat.reduceBEq, reduceIte, reduceCtorEq, Int.reduceBEq, Int.reduceEq, Int.reduceLT, Int.reduceLE, Int.reduceGT, Int.reduceGE, Int.reduceAdd, Int.reduceSub, Int.reduceNeg, Int.reduceBNe, ite_true, ite_false, if_true, if_false, implies_true, forall_const]
  · rw [hw] at hW hU hln
    rw [z2] at hln
    generalize PV.bsl true (size ([] : Hp)) 0 2 1 = B at *
    by_cases a : n ≥ -128
    · have b : (n < 128) = False := by simp; omega
      simp only [ha, hO', hW, hU, hN, hln, ht, en, t16, d16, z20, m8, m7, s1, s2, a, b, ↓evD, evU, evL, Nat.reduceAdd, Nat.reduceSub, Nat.reduceMul, Nat.reduceLeDiff, Nat.reduceLT, Nat.reduceEqDiff, Nat.reduceBEq, reduceIte, reduceCtorEq, Int.reduceBEq, Int.reduceEq, Int.reduceLT, Int.reduceLE, Int.reduceGT, Int.reduceGE, Int.reduceAdd, Int.reduceSub, Int.reduceNeg, Int.reduceBNe, ite_true, ite_false, if_true, if_false, implies_true, forall_const]
    · simp only [ha, hO', hW, hU, hN, hln, ht, en, t16, d16, z20, m8, m7, s1, s2, a, ↓evD, evU, evL, Nat.reduceAdd, Nat.reduceSub, Nat.reduceMul, Nat.reduceLeDiff, Nat.reduceLT, Nat.reduceEqDiff, Nat.reduceBEq, reduceIte, reduceCtorEq, Int.reduceBEq, Int.reduceEq, Int.reduceLT, Int.reduceLE, Int.reduceGT, Int.reduceGE, Int.reduceAdd, Int.reduceSub, Int.reduceNeg, Int.reduceBNe, ite_true, ite_false, if_true, if_false, implies_true, forall_const]
  · rw [hw] at hW hU hln
    rw [z4] at hln
    generalize PV.bsl true (size ([] : Hp)) 0 4 1 = B at *
    by_cases a : n ≥ -32768
    · have b : (n < 32768) = False := by simp; omega
      simp only [ha, hO', hW, hU, hN, hln, ht, en, t32, d32, z20, m16, m15, s3, s4, a, b, ↓evD, evU, evL, Nat.reduceAdd, Nat.reduceSub, Nat.reduceMul, Nat.reduceLeDiff, Nat.reduceLT, Nat.reduceEqDiff, Nat.reduceBEq, reduceIte, reduceCtorEq, Int.reduceBEq, Int.reduceEq, Int.reduceLT, Int.reduceLE, Int.reduceGT, Int.reduceGE, Int.reduceAdd, Int.reduceSub, Int.reduceNeg, Int.reduceBNe, ite_true, ite_false, if_true, if_false, implies_true, forall_const]
    · simp only [ha, hO', hW, hU, hN, hln, ht, en, t32, d32, z20, m16, m15, s3, s4, a, ↓evD, evU, evL, Nat.reduceAdd, Nat.reduceSub, Nat.reduceMul, Nat.reduceLeDiff, Nat.reduceLT, Nat.reduceEqDiff, Nat.reduceBEq, reduceIte, reduceCtorEq, Int.reduceBEq, Int.reduceEq, Int.reduceLT, Int.reduceLE, Int.reduceGT, Int.reduceGE, Int.reduceAdd, Int.reduceSub, Int.reduceNeg, Int.reduceBNe, ite_true, ite_false, if_true, if_false, implies_true, forall_const]
  · rw [hw] at hW hU hln
    rw [z8] at hln
    generalize PV.bsl true (size ([] : Hp)) 0 8 1 = B at *
    by_cases a : n ≥ -2147483648
    · have b : (n < 2147483648) = False := by simp; omega
      simp only [ha, hO', hW, hU, hN, hln, ht, en, t64, d64, z20, m32, m31, s5, s6, a, b, ↓evD, evU, evL, Nat.reduceAdd, Nat.reduceSub, Nat.reduceMul, Nat.reduceLeDiff, Nat.reduceLT, Nat.reduceEqDiff, Nat.reduceBEq, reduceIte, reduceCtorEq, Int.reduceBEq, Int.reduceEq, Int.reduceLT, Int.reduceLE, Int.reduceGT, Int.reduceGE, Int.reduceAdd, Int.reduceSub, Int.reduceNeg, Int.reduceBNe, ite_true, ite_false, if_true, if_false, implies_true, forall_const]
    · simp only [ha, hO', hW, hU, hN, hln, ht, en, t64, d64, z20, m32, m31, s5, s6, a, ↓evD, evU, evL, Nat.reduceAdd, Nat.reduceSub, Nat.reduceMul, Nat.reduceLeDiff, Nat.reduceLT, Nat.reduceEqDiff, Nat.reduceBEq, reduceIte, reduceCtorEq, Int.reduceBEq, Int.reduceEq, Int.reduceLT, Int.reduceLE, Int.reduceGT, Int.reduceGE, Int.reduceAdd, Int.reduceSub, Int.reduceNeg, Int.reduceBNe, ite_true, ite_false, if_true, if_false, implies_true, forall_const]
end Go.Am.YtppkffebmoffnaaDoor
