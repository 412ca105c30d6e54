/- More evaluating equations. By the session's AI agent. | The machine's code as plain functions of what lies in its slots: each operation hands on what it gives. | Points of a function's code: what the rest of the function does from there, as a plain function of the slots. | Code that keeps fewer slots: what it answers, the code answers. | The functions of the seat as the abstract machine's code, printed by a program of this work (wip/v2/shcode.sh, mksh.py). | What the machine answers in the midst of a run, the program answers. | Evaluating equations of the plain functions. | The evaluating equations, bundled. Printed by a program of this work. By the session's AI agent. | Slices that grow on top of a heap; bytes.
   By the session's AI agent. -/
import Derived.Test.YtppkffebmoffnaaDoorVa2
import Derived.IntWalk
namespace Go.Am
set_option linter.unusedVariables false
set_option linter.unusedSimpArgs false
theorem evParts_nil (e : Env) : evParts e [] = some [] := (rfl)
theorem evParts_cons (e : Env) (i x r) : evParts e ((i, x) :: r) = (ev e x).bnd fun v => (evParts e r).bnd fun l => some ((i, strip v) :: l) := by
  show Option.bnd _ _ = _
  congr 1; funext v; cases evParts e r <;> rfl
theorem evParts3_nil (e : Env) : evParts3 e [] = some [] := (rfl)
theorem evParts3_cons (e : Env) (i n x r) : evParts3 e ((i, n, x) :: r) = (ev e x).bnd fun v => (evParts3 e r).bnd fun l => some ((i, n, v) :: l) := by
  show Option.bnd _ _ = _
  congr 1; funext v; cases evParts3 e r <;> rfl
theorem fillParts_nil (sz cs) : fillParts sz [] cs = some cs := (rfl)
theorem fillParts_cons (sz i v r cs) : fillParts sz ((i, v) :: r) cs = if v.cells.length = sz ∧ i < cs.length ∧ v.cells.all scalar = true then fillParts sz r (cs.set i v) else none := (rfl)
theorem buildAgg_nil (cs) : buildAgg [] cs = some cs := (rfl)
theorem buildAgg_cons (off n v r cs) : buildAgg ((off, n, v) :: r) cs = if v.cells.length = n ∧ off + n ≤ cs.length ∧ v.cells.all scalar = true then buildAgg r (setRange cs off v.cells) else none := (rfl)
theorem elems_nils (h) : elems h .nils = some [] := (rfl)
theorem elems_sl (h o sz es) : elems h (.sl o sz es) = some es := (rfl)
theorem elems_bsl (h f b off len) : elems h (.bsl f b off len 1) = (getBox h b).bnd fun cs => if off + len ≤ cs.length ∧ ((cs.drop off).take len).all scalar = true then some ((cs.drop off).take len) else none := (rfl)
theorem elems_str (h s) : elems h (.str s) = some (s.map fun c => .int .u8 c.toNat) := (rfl)
theorem appB_full (xs : List PV) (sz es e h) (hx : xs.all (fun x => x.cells.length == sz) = true) (hl : es.length + xs.length ≤ lim2) :
    appB xs sz (.sl .full sz es) e h = some (if xs.isEmpty then .sl .full sz es else .sl .no sz (es ++ strips xs), e, h) := by
  simp [appB, hx, hl]

/-! Frames of which not all is known. -/
def orr : Option PV → Option PV → Option PV
  | some v, _ => some v
  | none, o => o
theorem orr_some (v o) : orr (some v) o = some v := (rfl)
theorem orr_none (o) : orr none o = o := (rfl)
theorem orr_right (o) : orr o none = o := by cases o <;> rfl
theorem look_pruneC (t o r s) : look (pruneC t o r) s = if t = s then orr o (look r s) else look r s := by
  cases o with
  | none => show look r s = _; split <;> rfl
  | some v => rfl
theorem fits_def (sz x) : fits sz x = (x.cells.length == sz && x.cells.all scalar) := (rfl)
theorem ix_nat (k : IntKind) (i n : Nat) (h : i < n) : ix (.int k i) n = some i := by
  simp [ix, h]
theorem getElem_append_mid {α : Type} (a : List α) (x : α) (r : List α) : (a ++ x :: r)[a.length]? = some x := by simp
theorem wrap_small {n : Int} (h0 : -9223372036854775808 ≤ n) (h1 : n ≤ 9223372036854775807) : IntKind.i64.wrap n = n := by rw [IntKind.wrap_i64]; omega

/-! Answers of which a law alone is known. -/
def Ans {α : Type} (x : Option α) (Q : α → Prop) : Prop := ∃ a, x = some a ∧ Q a
theorem Ans.some {α : Type} {a : α} {Q : α → Prop} (h : Q a) : Ans (some a) Q := ⟨a, rfl, h⟩
theorem Ans.of {α : Type} {x : Option α} {a : α} {Q : α → Prop} (hx : x = Option.some a) (h : Q a) : Ans x Q := ⟨a, hx, h⟩
theorem Ans.mono {α : Type} {x : Option α} {P Q : α → Prop} (h : Ans x P) (hPQ : ∀ a, P a → Q a) : Ans x Q := by
  obtain ⟨a, h1, h2⟩ := h
  exact ⟨a, h1, hPQ a h2⟩
theorem Ans.bndX {α : Type} {X : Option (AEx × Env × Hp)} {K : AEx → Env → Hp → Option α} {P : AEx × Env × Hp → Prop} {Q : α → Prop} (hX : Ans X P) (hK : ∀ x e h, P (x, e, h) → Ans (K x e h) Q) : Ans (bndX X K) Q := by
  obtain ⟨⟨x, e, h⟩, rfl, hp⟩ := hX
  exact hK x e h hp
theorem bndX_assoc {α : Type} (X : Option (AEx × Env × Hp)) (f : AEx → Env → Hp → Option (AEx × Env × Hp)) (g : AEx → Env → Hp → Option α) : bndX (bndX X f) g = bndX X fun x e h => bndX (f x e h) g := by
  cases X with
  | none => rfl
  | some r => rfl
theorem Ans.ite {α : Type} {c : Prop} [Decidable c] {x y : Option α} {Q : α → Prop} (hx : c → Ans x Q) (hy : ¬ c → Ans y Q) : Ans (if c then x else y) Q := by
  split
  · rename_i hc; exact hx hc
  · rename_i hc; exact hy hc
theorem Ans.eq {α : Type} {x y : Option α} {Q : α → Prop} (h : x = y) (hy : Ans y Q) : Ans x Q := h ▸ hy
theorem R_loop_of {T : Table} {a b : ACode} {base : Nat} {e : Env} {h : Hp} (hab : a = b) : ExecA T (.loop a) base e h = Go.Am.bndX (ExecA T b base e h) fun x e h => onNorm x (ExecA T (.loop a) base e h) (Option.some (x, e, h)) := by
  subst hab; exact R_loop

noncomputable def appBoxB (xs : List PV) (sz : Nat) (v : PV) (e : Env) (h : Hp) : Option (PV × Env × Hp) := (fullEs h v).bnd fun es =>
      if xs = [] then some (v, e, h) else
      if sz = 1 ∧ xs.all (fun x => x.cells.length == sz) = true ∧ es.all (fun x => x.cells.length == sz) = true ∧ es.length + xs.length ≤ lim2 ∧ xs.all scalar = true ∧ es.all scalar = true then
        some (.bsl false (size h) 0 (es.length + xs.length) sz, e, ext h [.cells (es ++ xs)])
      else none
theorem step_appendBox {orc : Nat → List PV → Hp → Option (PV × Hp)} {base : Nat} {draw : Bool} {e : Env} {h : Hp} (sz s x) : step orc base draw (.appendBox sz s x) e h = (ev e s).bnd fun v => (ev e x).bnd fun u => (elems h u).bnd fun xs => appBoxB xs sz v e h := (rfl)
theorem X_appendBox {orc : Nat → List PV → Hp → Option (PV × Hp)} {base : Nat} {draw : Bool} {e : Env} {h : Hp} (d sz s x r) : execOps orc base draw (⟨d, none, .appendBox sz s x⟩ :: r) e h = (ev e s).bnd fun v => (ev e x).bnd fun u => (elems h u).bnd fun xs => bnd3 (appBoxB xs sz v e h) fun v e h => execOps orc base draw r (putD e d v) h := by
  rw [execOps_plain, step_appendBox]; simp only [bnd3_bnd, bnd3_some]
theorem appBoxB_full (xs : List PV) (e h) (h1 : xs.all (fun x => x.cells.length == 1) = true) (h2 : 0 < xs.length) (h3 : xs.length ≤ lim2) (h4 : xs.all scalar = true) :
    appBoxB xs 1 (.sl .full 1 []) e h = some (.bsl false (size h) 0 xs.length 1, e, ext h [.cells xs]) := by
  have hne : xs ≠ [] := by rintro rfl; cases h2
  simp [appBoxB, fullEs, Option.bnd, h1, h3, h4, hne]

/-! The other operations. -/
section more
variable {orc : Nat → List PV → Hp → Option (PV × Hp)} {base : Nat} {draw : Bool} {e : Env} {h : Hp}
def strBytesB (bx : Bool) (v : PV) (h : Hp) : Option (PV × Hp) := match v with
    | .str s => if s.length ≤ limS then (if bx then some (.bsl false (size h) 0 s.length 1, ext h [.cells (s.map fun c => .int .u8 c.toNat)]) else some (.sl .no 1 (s.map fun c => .int .u8 c.toNat), h)) else none
    | _ => none
theorem strBytesB_val (s h) (hs : s.length ≤ limS) : strBytesB false (.str s) h = some (.sl .no 1 (s.map fun c => .int .u8 c.toNat), h) := by simp [strBytesB, hs]
theorem strBytesB_box (s h) (hs : s.length ≤ limS) : strBytesB true (.str s) h = some (.bsl false (size h) 0 s.length 1, ext h [.cells (s.map fun c => .int .u8 c.toNat)]) := by simp [strBytesB, hs]
theorem X_strBytes (d bx x r) : execOps orc base draw (⟨d, none, .strBytes bx x⟩ :: r) e h = (ev e x).bnd fun v => bnd2 (strBytesB bx v h) fun v h => execOps orc base draw r (putD e d v) h := by
  rw [execOps_plain]
  show bnd3 (Option.bnd _ _) _ = _
  rw [bnd3_bnd]
  congr 1; funext v
  cases v <;> try rfl
  rename_i s
  simp only [strBytesB]
  split
  · cases bx <;> rfl
  · rfl
noncomputable def bytesStrB (h : Hp) (v : PV) : Option PV := match v with
    | .str _ => none
    | v => (elems h v).bnd fun es => (bytesOf es).bnd fun s => some (.str s)
theorem bytesStrB_sl (h o z es) : bytesStrB h (.sl o z es) = (bytesOf es).bnd fun s => some (.str s) := (rfl)
theorem bytesStrB_nils (h) : bytesStrB h .nils = some (.str []) := (rfl)
theorem bytesStrB_bsl (h f b off len z) : bytesStrB h (.bsl f b off len z) = (elems h (.bsl f b off len z)).bnd fun es => (bytesOf es).bnd fun s => some (.str s) := (rfl)
theorem bytesOf_bytes : ∀ s : List UInt8, bytesOf (s.map fun c => .int .u8 (c.toNat : Int)) = some s
  | [] => rfl
  | c :: s => by simp [bytesOf, bytesOf_bytes s]
theorem X_bytesStr (d x r) : execOps orc base draw (⟨d, none, .bytesStr x⟩ :: r) e h = (ev e x).bnd fun v => (bytesStrB h v).bnd fun v => execOps orc base draw r (putD e d v) h := by
  rw [execOps_plain]
  show bnd3 (Option.bnd _ _) _ = _
  rw [bnd3_bnd]
  congr 1; funext v
  cases v <;> first | rfl | (simp only [bytesStrB, bnd3_bnd, bnd_assoc, bnd3_some, Option.bnd_some])
theorem X_mkfn (d f cap r) : execOps orc base draw (⟨d, none, .mkfn f cap⟩ :: r) e h = (evs e cap).bnd fun vs => execOps orc base draw r (putD e d (.fn f vs)) h := by
  rw [execOps_plain]
  show bnd3 (Option.bnd _ _) _ = _
  rw [bnd3_bnd]; rfl
def rangeB (v : PV) (h : Hp) : Option (PV × Hp) := match v with
    | .str s => some (.it (size h), ext h [.iter s 0])
    | _ => none
theorem rangeB_str (s h) : rangeB (.str s) h = some (.it (size h), ext h [.iter s 0]) := (rfl)
theorem X_range (d x r) : execOps orc base draw (⟨d, none, .range x⟩ :: r) e h = (ev e x).bnd fun v => bnd2 (rangeB v h) fun v h => execOps orc base draw r (putD e d v) h := by
  rw [execOps_plain]
  show bnd3 (Option.bnd _ _) _ = _
  rw [bnd3_bnd]
  congr 1; funext v
  cases v <;> rfl
noncomputable def nextB (v : PV) (h : Hp) : Option (PV × Hp) := match v with
    | .it b => (getIter h b).bnd fun p =>
      if p.2 < p.1.length then some (.tup [.bool true, .int .i64 p.2, .int .i32 (runeAt p.1 p.2).1], setBx h b (.iter p.1 (p.2 + (runeAt p.1 p.2).2)))
      else some (.tup [.bool false], h)
    | _ => none
theorem nextB_more {h b s p} (hb : getIter h b = some (s, p)) (hp : p < s.length) : nextB (.it b) h = some (.tup [.bool true, .int .i64 p, .int .i32 (runeAt s p).1], setBx h b (.iter s (p + (runeAt s p).2))) := by
  simp only [nextB, hb, Option.bnd_some, if_pos hp]
theorem nextB_over {h b s p} (hb : getIter h b = some (s, p)) (hp : ¬ p < s.length) : nextB (.it b) h = some (.tup [.bool false], h) := by
  simp only [nextB, hb, Option.bnd_some, if_neg hp]
theorem X_next (d x r) : execOps orc base draw (⟨d, none, .next x⟩ :: r) e h = (ev e x).bnd fun v => bnd2 (nextB v h) fun v h => execOps orc base draw r (putD e d v) h := by
  rw [execOps_plain]
  show bnd3 (Option.bnd _ _) _ = _
  rw [bnd3_bnd]
  congr 1; funext v
  cases v <;> try rfl
  rename_i b
  simp only [nextB]
  cases getIter h b with
  | none => rfl
  | some p =>
    simp only [Option.bnd_some]
    split <;> rfl
def tassertB (t : Nat) (ok : Bool) (z v : PV) : Option PV := match v with
    | .iface t' u => if t' = t then (if ok then some (.tup [u, .bool true]) else some u) else if ok then some (.tup [z, .bool false]) else none
    | .nilif => if ok then some (.tup [z, .bool false]) else none
    | _ => none
theorem tassertB_iface (t ok z t' u) : tassertB t ok z (.iface t' u) = if t' = t then (if ok then some (.tup [u, .bool true]) else some u) else if ok then some (.tup [z, .bool false]) else none := (rfl)
theorem tassertB_nil (t ok z) : tassertB t ok z .nilif = if ok then some (.tup [z, .bool false]) else none := (rfl)
theorem X_tassert (d t ok z x r) : execOps orc base draw (⟨d, none, .tassert t ok z x⟩ :: r) e h = (ev e x).bnd fun v => (tassertB t ok z v).bnd fun v => execOps orc base draw r (putD e d v) h := by
  rw [execOps_plain]
  show bnd3 (Option.bnd _ _) _ = _
  rw [bnd3_bnd]
  congr 1; funext v
  cases v <;> try rfl
  · cases ok <;> rfl
  · simp only [tassertB]
    split
    · cases ok <;> rfl
    · cases ok <;> rfl
noncomputable def eqvB (neg : Bool) (ks : List Nat) (a b : PV) : Option PV := match a, b with
    | .agg cs, .agg ds => (eqCells ks cs ds).bnd fun b => some (.bool (if neg then !b else b))
    | _, _ => none
theorem eqvB_agg (neg ks cs ds) : eqvB neg ks (.agg cs) (.agg ds) = (eqCells ks cs ds).bnd fun b => some (.bool (if neg then !b else b)) := (rfl)
theorem eqCells_nil : eqCells [] [] [] = some true := (rfl)
theorem eqCells_cons (k ks x xs y ys) : eqCells (k :: ks) (x :: xs) (y :: ys) = (eqCell k x y).bnd fun b => (eqCells ks xs ys).bnd fun c => some (b && c) := (rfl)
theorem eqCell_bool (a b) : eqCell 0 (.bool a) (.bool b) = some (a == b) := (rfl)
theorem eqCell_int (k a j b) : eqCell 1 (.int k a) (.int j b) = if k = j then some (a == b) else none := (rfl)
theorem eqCell_str (a b) : eqCell 2 (.str a) (.str b) = some (a == b) := (rfl)
theorem X_eqv (d neg ks x y r) : execOps orc base draw (⟨d, none, .eqv neg ks x y⟩ :: r) e h = (ev e x).bnd fun a => (ev e y).bnd fun b => (eqvB neg ks a b).bnd fun v => execOps orc base draw r (putD e d v) h := by
  rw [execOps_plain]
  show bnd3 (Option.bnd _ _) _ = _
  rw [bnd3_bnd]
  congr 1; funext a
  rw [bnd3_bnd]
  congr 1; funext b
  cases a <;> try rfl
  cases b <;> try rfl
  simp only [eqvB, bnd_assoc, Option.bnd_some]
  rw [bnd3_bnd]; rfl
def makeB (T : Nat) (z : List PV) (n : Nat × Nat) (h : Hp) : Option (PV × Hp) :=
      if n.1 = n.2 then some (.bsl true (size h) 0 n.1 z.length, ext h [.cells (List.flatten (List.replicate n.1 z))])
      else if n.1 = 0 then some (.sl (.tok (size h)) z.length [], ext h [.tok 0 T]) else none
theorem makeB_eq (T z n h) : makeB T z (n, n) h = some (.bsl true (size h) 0 n z.length, ext h [.cells (List.flatten (List.replicate n z))]) := by simp [makeB]
theorem makeN_int (k l j c) : makeN (.int k l) (.int j c) = if 0 ≤ l ∧ l ≤ c ∧ c ≤ lim2 then some (l.toNat, c.toNat) else none := (rfl)
theorem makeN_nat (k j) (n : Nat) (hn : n ≤ lim2) : makeN (.int k n) (.int j n) = some (n, n) := by
  rw [makeN_int, if_pos (by omega)]; simp
theorem X_makeSl (d T z g l c r) : execOps orc base draw (⟨d, none, .makeSl T z g l c⟩ :: r) e h = (ev e l).bnd fun l => (ev e c).bnd fun c => (makeN l c).bnd fun n => bnd2 (makeB T z n h) fun v h => execOps orc base draw r (putD e d v) h := by
  rw [execOps_plain]
  show bnd3 (Option.bnd _ _) _ = _
  rw [bnd3_bnd]
  congr 1; funext a
  rw [bnd3_bnd]
  congr 1; funext b
  rw [bnd3_bnd]
  congr 1; funext n
  simp only [makeB]
  split
  · rfl
  · split <;> rfl

theorem nextB_it (b h) : nextB (.it b) h = (getIter h b).bnd fun p => if p.2 < p.1.length then some (.tup [.bool true, .int .i64 p.2, .int .i32 (runeAt p.1 p.2).1], setBx h b (.iter p.1 (p.2 + (runeAt p.1 p.2).2)))
      else some (.tup [.bool false], h) := (rfl)
def bdV (n : Nat) : PV → Option Nat
  | .int _ i => if 0 ≤ i ∧ i ≤ n then some i.toNat else none
  | _ => none
theorem bdV_int (n k i) : bdV n (.int k i) = if 0 ≤ i ∧ i ≤ n then some i.toNat else none := (rfl)
theorem bdV_nat (n k) (i : Nat) (h : i ≤ n) : bdV n (.int k i) = some i := by rw [bdV_int, if_pos (by omega)]; simp
theorem bd_none (e n d) : bd e n d none = some d := (rfl)
theorem bd_some (e n d x) : bd e n d (some x) = (ev e x).bnd fun v => bdV n v := (rfl)
theorem sliceOf_str (e lo hi s) : sliceOf e none lo hi none (.str s) = (bd e s.length s.length hi).bnd fun hh => (bd e hh 0 lo).bnd fun l => some (.str ((s.drop l).take (hh - l))) := (rfl)
theorem sliceOf_nils (e z lo hi mx) : sliceOf e (some z) lo hi mx .nils = (bd e 0 0 mx).bnd fun m => (bd e 0 0 hi).bnd fun hh => (bd e 0 0 lo).bnd fun l => some .nils := (rfl)
theorem sliceOf_sl (e z lo hi o es) : sliceOf e (some z) lo hi none (.sl o z es) = (bd e es.length es.length hi).bnd fun hh => (bd e hh 0 lo).bnd fun l =>
      some (.sl (if isFull o && hh == es.length then .full else .no) z ((es.drop l).take (hh - l))) := by
  simp [sliceOf, bd_none, Option.bnd_some]
theorem isFull_no : isFull .no = false := (rfl)
theorem isFull_full : isFull .full = true := (rfl)
theorem isFull_tok (t) : isFull (.tok t) = false := (rfl)

/-! Slices that grow. -/
theorem growT_one_nils (h T sz x) (hx : fits sz x = true) : growT h T sz .nils [x] = some (.sl (.tok (size h)) sz [strip x], ext h [.tok 1 T]) := by
  simp [growT, hx, lim2, strips]
/-- What grows: nothing yet, or all that is known of its token. -/
structure Buf (h : Hp) (o : PV) (T sz : Nat) (es : List PV) (v : PV) : Prop where
  is : (v = o ∧ es = [] ∧ (o = .nils ∨ o = .sl .full sz [])) ∨ ∃ t, v = .sl (.tok t) sz es ∧ getTok h t = some (es.length, T) ∧ es ≠ []
end more

/-! A heap over another: the other's boxes are as they were. -/
structure Ov (h k : Hp) : Prop where
  size : size h ≤ Go.Am.size k
  same : ∀ b, b < Go.Am.size h → box? k b = box? h b
theorem Ov.refl (h : Hp) : Ov h h := ⟨Nat.le_refl _, fun _ _ => rfl⟩
theorem Ov.trans {a b c : Hp} (x : Ov a b) (y : Ov b c) : Ov a c := ⟨Nat.le_trans x.size y.size, fun n hn => (y.same n (Nat.lt_of_lt_of_le hn x.size)).trans (x.same n hn)⟩
theorem Ov.ext {h k : Hp} (x : Ov h k) (l : List Box) : Ov h (Go.Am.ext k l) := ⟨by rw [size_ext]; exact Nat.le_trans x.size (Nat.le_add_right _ _), fun b hb => (box_ext_lt (Nat.lt_of_lt_of_le hb x.size)).trans (x.same b hb)⟩
theorem Ov.set {h k : Hp} (x : Ov h k) {b : Nat} (hb : Go.Am.size h ≤ b) (y : Box) : Ov h (setBx k b y) := ⟨by rw [size_setBx]; exact x.size, fun c hc => (box_set_ne (by omega)).trans (x.same c hc)⟩
theorem Ov.trunc {h k : Hp} (x : Ov h k) : Go.Am.trunc k (Go.Am.size h) = h := by
  apply List.ext_getElem?
  intro i
  rcases Nat.lt_or_ge i (Go.Am.size h) with hi | hi
  · have := x.same i hi
    simp only [box?] at this
    simp only [Go.Am.trunc, List.getElem?_take, if_pos hi, this]
  · simp only [Go.Am.trunc, List.getElem?_take, if_neg (by omega : ¬ i < Go.Am.size h)]
    exact (List.getElem?_eq_none hi).symm
theorem Ov.getBox {h k : Hp} (x : Ov h k) {b : Nat} {cs : List PV} (hb : Go.Am.getBox h b = some cs) : Go.Am.getBox k b = some cs := by
  rw [Go.Am.getBox, x.same b (lt_of_getBox hb)]; exact hb
theorem Ov.getTok {h k : Hp} (x : Ov h k) {b : Nat} {n : Nat × Nat} (hb : Go.Am.getTok h b = some n) : Go.Am.getTok k b = some n := by
  rw [Go.Am.getTok, x.same b (lt_of_getTok hb)]; exact hb

theorem strips_len (xs : List PV) : (strips xs).length = xs.length := by induction xs <;> simp_all [strips]
/-- A slice that grows in a frame: what it grows to; a box or more come on top, older boxes are left. -/
theorem Buf.grow {h0 h : Hp} {o : PV} {T sz : Nat} {es xs : List PV} {v : PV} (b : Buf h o T sz es v) (ht : ∀ t es, v = .sl (.tok t) sz es → size h0 ≤ t) (ov : Ov h0 h) (hx : xs.all (fits sz) = true) (hl : es.length + xs.length ≤ lim2) :
    ∃ v' h', growT h T sz v xs = some (v', h') ∧ Buf h' o T sz (es ++ strips xs) v' ∧ (∀ t es, v' = .sl (.tok t) sz es → size h0 ≤ t) ∧ Ov h0 h' ∧ size h ≤ size h' ∧ ∀ c cs, getBox h c = some cs → getBox h' c = some cs := by
  have sl := strips_len xs
  by_cases hne : xs = []
  · subst hne
    rcases b.is with ⟨rfl, rfl, rfl | rfl⟩ | ⟨t, rfl, h2, h3⟩
    · exact ⟨.nils, h, by simp [growT], ⟨.inl ⟨rfl, rfl, .inl rfl⟩⟩, ht, ov, Nat.le_refl _, fun _ _ h => h⟩
    · exact ⟨_, h, by simp [growT], ⟨.inl ⟨rfl, rfl, .inr rfl⟩⟩, ht, ov, Nat.le_refl _, fun _ _ h => h⟩
    · refine ⟨.sl (.tok t) sz es, setBx h t (.tok es.length T), ?_, ⟨.inr ⟨t, by simp [strips], ?_, by simpa [strips] using h3⟩⟩, ht, ov.set (ht t es rfl) _, by rw [size_setBx]; exact Nat.le_refl _, fun c cs hc => ?_⟩
      · simp at hl
        simp [growT, h2, hl, strips, Option.bnd_some]
      · rw [getTok_set_same (lt_of_getTok h2)]; simp [strips]
      · rw [getBox_set_ne]; exact hc
        rintro rfl
        have q1 := box_of_tok h2
        have q2 := box_of_get hc
        rw [q1] at q2; cases q2
  · have hpos : xs.isEmpty = false := by cases xs <;> simp_all
    have hns : strips xs ≠ [] := by cases xs <;> simp_all [strips]
    rcases b.is with ⟨rfl, rfl, rfl | rfl⟩ | ⟨t, rfl, h2, h3⟩
    · simp at hl
      refine ⟨.sl (.tok (size h)) sz (strips xs), Go.Am.ext h [.tok xs.length T], by simp [growT, hx, hl, hpos], ⟨.inr ⟨size h, by simp, by rw [getTok_ext_0]; simp [tokOf, sl], by simpa using hns⟩⟩, fun t es hq => by cases hq; exact ov.size, ov.ext _, by rw [size_ext]; omega, fun c cs hc => ?_⟩
      rw [getBox_ext_lt (lt_of_getBox hc)]; exact hc
    · simp at hl
      refine ⟨.sl (.tok (size h)) sz (strips xs), Go.Am.ext h [.tok xs.length T], by simp [growT, hx, hl, hpos], ⟨.inr ⟨size h, by simp, by rw [getTok_ext_0]; simp [tokOf, sl], by simpa using hns⟩⟩, fun t es hq => by cases hq; exact ov.size, ov.ext _, by rw [size_ext]; omega, fun c cs hc => ?_⟩
      rw [getBox_ext_lt (lt_of_getBox hc)]; exact hc
    · refine ⟨.sl (.tok t) sz (es ++ strips xs), setBx h t (.tok (es.length + xs.length) T), ?_, ⟨.inr ⟨t, rfl, ?_, by simp [h3]⟩⟩, fun t' es' hq => by cases hq; exact ht t es rfl, ov.set (ht t es rfl) _, by rw [size_setBx]; exact Nat.le_refl _, fun c cs hc => ?_⟩
      · simp [growT, hx, h2, hl, Option.bnd_some]
      · rw [getTok_set_same (lt_of_getTok h2)]; simp [sl]
      · rw [getBox_set_ne]; exact hc
        rintro rfl
        have q1 := box_of_tok h2
        have q2 := box_of_get hc
        rw [q1] at q2; cases q2
/-- What has grown, behind its frame. -/
def done (o : PV) (sz : Nat) (es : List PV) : PV := if es.isEmpty then o else .sl .no sz es
theorem Buf.frz {h : Hp} {o : PV} {T sz : Nat} {es : List PV} {v : PV} (b : Buf h o T sz es v) (n : Nat) (k : Hp) : Go.Am.frz n k v = some (done o sz es) := by
  rcases b.is with ⟨rfl, rfl, rfl | rfl⟩ | ⟨t, rfl, h2, h3⟩
  · rfl
  · rfl
  · have : es.isEmpty = false := by cases es <;> simp_all
    simp [Go.Am.frz, done, this, Own.strip]
theorem Buf.len {h : Hp} {o : PV} {T sz : Nat} {es : List PV} {v : PV} (b : Buf h o T sz es v) : lenB false v = some (.int .i64 es.length) := by
  rcases b.is with ⟨rfl, rfl, rfl | rfl⟩ | ⟨t, rfl, h2, h3⟩ <;> rfl
theorem Buf.elems {h : Hp} {o : PV} {T sz : Nat} {es : List PV} {v : PV} (b : Buf h o T sz es v) (k : Hp) : Go.Am.elems k v = some es := by
  rcases b.is with ⟨rfl, rfl, rfl | rfl⟩ | ⟨t, rfl, h2, h3⟩ <;> rfl
theorem done_elems {o : PV} {sz : Nat} (ho : o = .nils ∨ o = .sl .full sz []) (es : List PV) (k : Hp) : Go.Am.elems k (done o sz es) = some es := by
  unfold done
  cases es with
  | nil => rcases ho with rfl | rfl <;> rfl
  | cons x xs => rfl
theorem done_len {o : PV} {sz : Nat} (ho : o = .nils ∨ o = .sl .full sz []) (es : List PV) : lenB false (done o sz es) = some (.int .i64 es.length) := by
  unfold done
  cases es with
  | nil => rcases ho with rfl | rfl <;> rfl
  | cons x xs => rfl
theorem done_below {o : PV} {sz n : Nat} (ho : o = .nils ∨ o = .sl .full sz []) (es : List PV) (he : belows n es = true) : below n (done o sz es) = true := by
  unfold done
  cases es with
  | nil => rcases ho with rfl | rfl <;> rfl
  | cons x xs => simpa [below, Own.below] using he
end Go.Am
namespace Go.Am
set_option linter.unusedVariables false
set_option linter.unusedSimpArgs false

noncomputable def loadV (n : Nat) (agg : Bool) (v : PV) (h : Hp) : Option PV := match v with
  | .ptr b off => (getBox h b).bnd fun cs => part cs off n agg
  | .ep cs off => part cs off n agg
  | _ => none
noncomputable def storeV (base n : Nat) (v u : PV) (h : Hp) : Option Hp := match v with
  | .ptr b off => (getBox h b).bnd fun cs =>
      if u.cells.length = n ∧ off + n ≤ cs.length ∧ u.cells.all scalar = true ∧ (b < base → belows 0 (strips u.cells) = true)
      then some (setBox h b (setRange cs off (if b < base then strips u.cells else u.cells))) else none
  | _ => none
def allocK {α : Type} (z : List PV) (h : Hp) (K : PV → Hp → Option α) : Option α := K (.ptr (size h) 0) (ext h [.cells z])
def boxV (n : Nat) (v : PV) (h : Hp) : Option (PV × Hp) := if v.cells.length = n ∧ v.cells.all scalar = true then some (.ptr (size h) 0, ext h [.cells v.cells]) else none
noncomputable def buildV (z : List PV) (l : List (Nat × Nat × PV)) : Option PV := (buildAgg l z).bnd fun cs => some (.agg cs)
noncomputable def buildSlV (sz : Nat) (agg : Bool) (z : List PV) (len : Nat) (l : List (Nat × PV)) : Option PV :=
  (fillParts sz l (List.replicate len (if agg then .agg z else z.headD .undef))).bnd fun es => some (.sl .full sz es)
noncomputable def nilckV (v : PV) : Option PV := (isNil v).bnd fun b => if b then none else some v
noncomputable def isnilV (kd : Nat) (neg : Bool) (v : PV) : Option PV := (nilK kd v).bnd fun b => some (.bool (if neg then !b else b))
noncomputable def makeV (T : Nat) (z : List PV) (l c : PV) (h : Hp) : Option (PV × Hp) := (makeN l c).bnd fun n => makeB T z n h
noncomputable def copyV (base : Nat) (v u : PV) (h : Hp) : Option (PV × Hp) := (elems h u).bnd fun xs => match v with
    | .bsl _ b off len sz => (getBox h b).bnd fun cs =>
        if sz = 1 ∧ off + len ≤ cs.length ∧ xs.all scalar = true ∧ (b < base → belows 0 (xs.take len) = true)
        then some (.int .i64 (min xs.length len : Nat), setBox h b (setRange cs off (xs.take len))) else none
    | .nils => some (.int .i64 0, h)
    | _ => none
def bdW (n dflt : Nat) : Option PV → Option Nat
  | none => some dflt
  | some v => bdV n v
noncomputable def sliceV (n : Option Nat) (lo hi mx : Option PV) : PV → Option PV
  | .str s => if mx.isSome ∨ n.isSome then none else
    (bdW s.length s.length hi).bnd fun hh => (bdW hh 0 lo).bnd fun l => some (.str ((s.drop l).take (hh - l)))
  | .nils => if n.isSome then (bdW 0 0 mx).bnd fun m => (bdW 0 0 hi).bnd fun hh => (bdW 0 0 lo).bnd fun l => some .nils else none
  | .sl o sz es => if n = some sz then (bdW es.length es.length mx).bnd fun m => (bdW m es.length hi).bnd fun hh => (bdW hh 0 lo).bnd fun l =>
      some (.sl (if mx.isSome && m == hh then .full else if mx.isNone && isFull o && hh == es.length then .full else .no) sz ((es.drop l).take (hh - l)))
      else none
  | .bsl f b off len sz => if n = some sz then (bdW len len mx).bnd fun m => (bdW m len hi).bnd fun hh => (bdW hh 0 lo).bnd fun l =>
      if hh - l = 0 then some (.sl (if mx.isSome && m == hh then .full else .no) sz []) else some (.bsl (if mx.isSome && m == hh then true else mx.isNone && f && hh == len) b (off + l * sz) (hh - l) sz)
      else none
  | _ => none
noncomputable def idxArrV (sz len : Nat) (v i : PV) : Option PV := match v with
    | .ptr b o => (ix i len).bnd fun i => some (.ptr b (o + i * sz))
    | .ep cs o => (ix i len).bnd fun i => some (.ep cs (o + i * sz))
    | _ => none
noncomputable def idxAggV (sz : Nat) (agg : Bool) (len : Nat) (v i : PV) : Option PV := match v with
    | .agg cs => (ix i len).bnd fun i => part cs (i * sz) sz agg
    | _ => none
noncomputable def minmaxV (mx : Bool) (vs : List PV) : Option PV := match vs with
    | [] => none
    | x :: r => minMax mx x r
noncomputable def appV (sz : Nat) (v u : PV) (h : Hp) : Option PV := (elems h u).bnd fun xs =>
      if xs.all (fun x => x.cells.length == sz) then
      match v with
      | .nils => if xs.length ≤ lim2 then some (if xs.isEmpty then .nils else .sl .no sz (strips xs)) else none
      | .sl .full sz' es => if sz' = sz ∧ es.length + xs.length ≤ lim2 then some (if xs.isEmpty then .sl .full sz es else .sl .no sz (es ++ strips xs)) else none
      | _ => none
      else none
noncomputable def appTV (T sz : Nat) (v u : PV) (h : Hp) : Option (PV × Hp) := (elems h u).bnd fun xs => growT h T sz v xs
noncomputable def appBoxV (sz : Nat) (v u : PV) (h : Hp) : Option (PV × Hp) := (elems h u).bnd fun xs => (fullEs h v).bnd fun es =>
      if xs = [] then some (v, h) else
      if sz = 1 ∧ xs.all (fun x => x.cells.length == sz) = true ∧ es.all (fun x => x.cells.length == sz) = true ∧ es.length + xs.length ≤ lim2 ∧ xs.all scalar = true ∧ es.all scalar = true then
        some (.bsl false (size h) 0 (es.length + xs.length) sz, ext h [.cells (es ++ xs)])
      else none
noncomputable def loadNV (n : Nat) (agg : Bool) (q v : PV) (h : Hp) : Option PV := match q, v with
  | .ptr c _, .ptr b off => if b = c then none else loadV n agg (.ptr b off) h
  | .ptr _ _, .ep cs off => loadV n agg (.ep cs off) h
  | _, _ => none
noncomputable def storeNV (base n : Nat) (q v u : PV) (h : Hp) : Option Hp := match q, v with
  | .ptr c _, .ptr b off => if b = c then storeV base n (.ptr b off) u h else none
  | _, _ => none
def callvV (orc : Orc) (v : PV) (vs : List PV) (h : Hp) : Option (PV × Hp) := match v with
  | .fn f cap => orc f (vs ++ cap) h
  | _ => none
noncomputable def evO (e : Env) : Option Opnd → Option (Option PV)
  | none => some none
  | some x => (ev e x).bnd fun v => some (some v)

noncomputable def stepK {α : Type} (orc : Orc) (base : Nat) (draw : Bool) (op : AOp) (e : Env) (h : Hp) (K : PV → Hp → Option α) : Option α :=
  match op with
  | .mov x => (ev e x).bnd fun v => K v h
  | .pick c a b => (ev e c).bnd fun v => (condB v (ev e a) (ev e b)).bnd fun r => K r h
  | .alloc z => allocK z h K
  | .box n x => (ev e x).bnd fun v => bnd2 (boxV n v h) K
  | .build z ps => (evParts3 e ps).bnd fun l => (buildV z l).bnd fun r => K r h
  | .buildSl sz agg z len ps => (evParts e ps).bnd fun l => (buildSlV sz agg z len l).bnd fun r => K r h
  | .load n agg a => (ev e a).bnd fun v => (loadV n agg v h).bnd fun r => K r h
  | .store n a x => (ev e a).bnd fun v => (ev e x).bnd fun u => (storeV base n v u h).bnd fun h => K .undef h
  | .nilck x => (ev e x).bnd fun v => (nilckV v).bnd fun r => K r h
  | .bin op x y => (ev e x).bnd fun a => (ev e y).bnd fun b => (binOp op a b).bnd fun r => K r h
  | .binB neg x y => (ev e x).bnd fun a => (ev e y).bnd fun b => (boolB neg a b).bnd fun r => K r h
  | .isnil kd neg x => (ev e x).bnd fun v => (isnilV kd neg v).bnd fun r => K r h
  | .un op x => (ev e x).bnd fun a => (unOp op a).bnd fun r => K r h
  | .toInt k x => (ev e x).bnd fun v => (toIntB v k).bnd fun r => K r h
  | .strBytes bx x => (ev e x).bnd fun v => bnd2 (strBytesB bx v h) K
  | .bytesStr x => (ev e x).bnd fun v => (bytesStrB h v).bnd fun r => K r h
  | .mkif t x => (ev e x).bnd fun v => K (.iface t v) h
  | .mkfn f cap => (evs e cap).bnd fun vs => K (.fn f vs) h
  | .makeSl T z agg len cap => (ev e len).bnd fun l => (ev e cap).bnd fun c => bnd2 (makeV T z l c h) K
  | .copyB d x => (ev e d).bnd fun v => (ev e x).bnd fun u => bnd2 (copyV base v u h) K
  | .range x => (ev e x).bnd fun v => bnd2 (rangeB v h) K
  | .next x => (ev e x).bnd fun v => bnd2 (nextB v h) K
  | .eqv neg ks x y => (ev e x).bnd fun a => (ev e y).bnd fun b => (eqvB neg ks a b).bnd fun r => K r h
  | .slice n x lo hi mx => (ev e x).bnd fun v => (evO e lo).bnd fun lo => (evO e hi).bnd fun hi => (evO e mx).bnd fun mx => (sliceV n lo hi mx v).bnd fun r => K r h
  | .fieldA off x => (ev e x).bnd fun v => (fieldAB v off).bnd fun r => K r h
  | .field off n agg x => (ev e x).bnd fun v => (fieldB v off n agg).bnd fun r => K r h
  | .idxA sz x i => (ev e x).bnd fun v => (ev e i).bnd fun i => (idxAB v i sz).bnd fun r => K r h
  | .idxArr sz len x i => (ev e x).bnd fun v => (ev e i).bnd fun i => (idxArrV sz len v i).bnd fun r => K r h
  | .idxStr x i => (ev e x).bnd fun v => (ev e i).bnd fun i => (idxStrB v i).bnd fun r => K r h
  | .idxAgg sz agg len x i => (ev e x).bnd fun v => (ev e i).bnd fun i => (idxAggV sz agg len v i).bnd fun r => K r h
  | .extract x i => (ev e x).bnd fun v => (extractB v i).bnd fun r => K r h
  | .tassert t ok z x => (ev e x).bnd fun v => (tassertB t ok z v).bnd fun r => K r h
  | .len str x => (ev e x).bnd fun v => (lenB str v).bnd fun r => K r h
  | .minmax mx xs => (evs e xs).bnd fun vs => (minmaxV mx vs).bnd fun r => K r h
  | .append sz s x => (ev e s).bnd fun v => (ev e x).bnd fun u => (appV sz v u h).bnd fun r => K r h
  | .appendT T sz s x => (ev e s).bnd fun v => (ev e x).bnd fun u => bnd2 (appTV T sz v u h) K
  | .appendBox sz s x => (ev e s).bnd fun v => (ev e x).bnd fun u => bnd2 (appBoxV sz v u h) K
  | .call f args => (evs e args).bnd fun vs => bnd2 (orc f vs h) fun v h' => if draw then (if h' = h then K v h else none) else K v h'
  | .callv x args => (ev e x).bnd fun v => (evs e args).bnd fun vs => bnd2 (callvV orc v vs h) fun v h' => if draw then (if h' = h then K v h else none) else K v h'
  | .callQ f args => (evs e args).bnd fun vs => bnd2 (orcQ orc f vs h) fun v h' => if h' = h then K v h else none
  | .loadN t n agg a => (look e t).bnd fun q => (ev e a).bnd fun v => (loadNV n agg q v h).bnd fun r => K r h
  | .storeN t n a x => (look e t).bnd fun q => (ev e a).bnd fun v => (ev e x).bnd fun u => (storeNV base n q v u h).bnd fun h => K .undef h
  | .stuck => none

theorem bnd_fun {α β : Type} (x : Option α) {f g : α → Option β} (h : ∀ a, f a = g a) : x.bnd f = x.bnd g := by rw [show f = g from funext h]
theorem bnd_ite {α β : Type} {c : Prop} [Decidable c] (x y : Option α) (f : α → Option β) : (if c then x else y).bnd f = if c then x.bnd f else y.bnd f := by split <;> rfl
theorem bnd2_bnd {α β γ : Type} (x : Option γ) (f : γ → Option (β × Hp)) (k : β → Hp → Option α) : bnd2 (x.bnd f) k = x.bnd fun a => bnd2 (f a) k := by cases x <;> rfl

theorem bd_evO {α : Type} (e : Env) (n d : Nat) (x : Option Opnd) (g : Nat → Option α) : (bd e n d x).bnd g = (evO e x).bnd fun v => (bdW n d v).bnd g := by
  cases x with
  | none => rfl
  | some x => simp only [bd_some, evO, bnd_assoc, Option.bnd_some, bdW]
theorem isSome_evO {e : Env} {x : Option Opnd} {v : Option PV} (h : evO e x = some v) : v.isSome = x.isSome := by
  cases x with
  | none => cases h; rfl
  | some x => simp only [evO, Option.bnd_eq_some_iff] at h; obtain ⟨a, _, h⟩ := h; cases h; rfl
theorem sliceOf_evO (e : Env) (n lo hi mx) (v : PV) : sliceOf e n lo hi mx v = (evO e lo).bnd fun a => (evO e hi).bnd fun b => (evO e mx).bnd fun c => sliceV n a b c v := by
  have key : ∀ {α : Type} (x : Option α) (f : α → Option PV), (∀ a, f a = none) → x.bnd f = none := by intro α x f h; cases x <;> simp [Option.bnd, h]
  cases hl : evO e lo with
  | none =>
    have hz : ∀ {α : Type} (n d : Nat) (g : Nat → Option α), (bd e n d lo).bnd g = none := by intro α n d g; rw [bd_evO, hl]; rfl
    show _ = none
    cases v <;> simp only [sliceOf, hz] <;> first | rfl | (split <;> first | rfl | (apply key; intro a; first | rfl | (apply key; intro a; rfl)))
  | some a =>
    cases hh : evO e hi with
    | none =>
      have hz : ∀ {α : Type} (n d : Nat) (g : Nat → Option α), (bd e n d hi).bnd g = none := by intro α n d g; rw [bd_evO, hh]; rfl
      show _ = none
      cases v <;> simp only [sliceOf, hz] <;> first | rfl | (split <;> first | rfl | (apply key; intro a; rfl))
    | some b =>
      cases hm : evO e mx with
      | none =>
        have hz : ∀ {α : Type} (n d : Nat) (g : Nat → Option α), (bd e n d mx).bnd g = none := by intro α n d g; rw [bd_evO, hm]; rfl
        have hs : mx.isSome = true := by cases mx with | none => cases hm | some x => rfl
        show _ = none
        cases v <;> simp only [sliceOf, hz, hs, true_or, if_true] <;> first | rfl | (split <;> rfl)
      | some c =>
        have e1 := isSome_evO hm
        have e2 : c.isNone = mx.isNone := by cases c <;> cases mx <;> simp_all
        simp only [Option.bnd_some]
        cases v <;> simp only [sliceOf, sliceV, bd_evO, hl, hh, hm, Option.bnd_some, e1, e2]

theorem stepK_eq {α : Type} (orc : Orc) (base : Nat) (draw : Bool) (op : AOp) (e : Env) (h : Hp) (K : PV → Hp → Option α) :
    stepK orc base draw op e h K = (step orc base draw op e h).bnd fun x => K x.1 x.2.2 := by
  cases op with
  | mov x => simp only [stepK, step, bnd_assoc, Option.bnd_some]
  | pick c a b =>
    simp only [stepK, step, bnd_assoc]
    refine bnd_fun _ fun v => ?_
    cases v <;> try rfl
    rename_i b; cases b <;> simp only [condB, bnd_assoc, Option.bnd_some]
  | alloc z => rfl
  | box n x =>
    simp only [stepK, step, bnd_assoc]; refine bnd_fun _ fun v => ?_
    simp only [boxV]; split <;> rfl
  | build z ps => simp only [stepK, step, buildV, bnd_assoc, Option.bnd_some]
  | buildSl sz agg z len ps => simp only [stepK, step, buildSlV, bnd_assoc, Option.bnd_some]
  | load n agg a =>
    simp only [stepK, step, bnd_assoc]; refine bnd_fun _ fun v => ?_
    cases v <;> simp only [loadV, bnd_assoc, Option.bnd_some, Option.bnd_none]
  | store n a x =>
    simp only [stepK, step, bnd_assoc]; refine bnd_fun _ fun v => bnd_fun _ fun u => ?_
    cases v <;> simp only [storeV, bnd_assoc, Option.bnd_some, Option.bnd_none]
    refine bnd_fun _ fun cs => ?_
    split <;> rfl
  | nilck x =>
    simp only [stepK, step_nilck, nilckV, bnd_assoc]; refine bnd_fun _ fun v => bnd_fun _ fun b => ?_
    cases b <;> rfl
  | bin op x y => simp only [stepK, step, bnd_assoc, Option.bnd_some]
  | binB neg x y => simp only [stepK, step_binB, bnd_assoc, Option.bnd_some]
  | isnil kd neg x => simp only [stepK, step, isnilV, bnd_assoc, Option.bnd_some]
  | un op x => simp only [stepK, step, bnd_assoc, Option.bnd_some]
  | toInt k x => simp only [stepK, step_toInt, bnd_assoc, Option.bnd_some]
  | strBytes bx x =>
    simp only [stepK, step, bnd_assoc]; refine bnd_fun _ fun v => ?_
    cases v <;> try rfl
    simp only [strBytesB]; split
    · cases bx <;> rfl
    · rfl
  | bytesStr x =>
    simp only [stepK, step, bnd_assoc]; refine bnd_fun _ fun v => ?_
    cases v <;> first | rfl | simp only [bytesStrB, bnd_assoc, Option.bnd_some]
  | mkif t x => simp only [stepK, step, bnd_assoc, Option.bnd_some]
  | mkfn f cap => simp only [stepK, step, bnd_assoc, Option.bnd_some]
  | makeSl T z agg len cap =>
    simp only [stepK, step, makeV, bnd_assoc, bnd2_bnd]; refine bnd_fun _ fun l => bnd_fun _ fun c => bnd_fun _ fun n => ?_
    simp only [makeB]; split
    · rfl
    · split <;> rfl
  | copyB d x =>
    simp only [stepK, step, copyV, bnd_assoc, bnd2_bnd]; refine bnd_fun _ fun v => bnd_fun _ fun u => bnd_fun _ fun xs => ?_
    cases v <;> simp only [bnd_assoc, bnd2_bnd, Option.bnd_some, Option.bnd_none, bnd2_some, bnd2_none]
    refine bnd_fun _ fun cs => ?_
    split <;> rfl
  | range x =>
    simp only [stepK, step, bnd_assoc]; refine bnd_fun _ fun v => ?_
    cases v <;> rfl
  | next x =>
    simp only [stepK, step, bnd_assoc]; refine bnd_fun _ fun v => ?_
    cases v <;> try rfl
    simp only [nextB, bnd_assoc, bnd2_bnd]; refine bnd_fun _ fun p => ?_
    split <;> rfl
  | eqv neg ks x y =>
    simp only [stepK, step, bnd_assoc]; refine bnd_fun _ fun a => bnd_fun _ fun b => ?_
    cases a <;> try rfl
    cases b <;> try rfl
    simp only [eqvB, bnd_assoc, Option.bnd_some]
  | slice n x lo hi mx =>
    simp only [stepK, step, sliceOf_evO, bnd_assoc, Option.bnd_some]
  | fieldA off x => simp only [stepK, step_fieldA, bnd_assoc, Option.bnd_some]
  | field off n agg x => simp only [stepK, step_field, bnd_assoc, Option.bnd_some]
  | idxA sz x i => simp only [stepK, step_idxA, bnd_assoc, Option.bnd_some]
  | idxArr sz len x i =>
    simp only [stepK, step, bnd_assoc]; refine bnd_fun _ fun v => bnd_fun _ fun i => ?_
    cases v <;> simp only [idxArrV, bnd_assoc, Option.bnd_some, Option.bnd_none]
  | idxStr x i => simp only [stepK, step_idxStr, bnd_assoc, Option.bnd_some]
  | idxAgg sz agg len x i =>
    simp only [stepK, step, bnd_assoc]; refine bnd_fun _ fun v => bnd_fun _ fun i => ?_
    cases v <;> simp only [idxAggV, bnd_assoc, Option.bnd_some, Option.bnd_none]
  | extract x i => simp only [stepK, step_extract, bnd_assoc, Option.bnd_some]
  | tassert t ok z x =>
    simp only [stepK, step, bnd_assoc]; refine bnd_fun _ fun v => ?_
    cases v <;> try rfl
    · cases ok <;> rfl
    · simp only [tassertB]; split
      · cases ok <;> rfl
      · cases ok <;> rfl
  | len str x => simp only [stepK, step_len, bnd_assoc, Option.bnd_some]
  | minmax mx xs =>
    simp only [stepK, step, bnd_assoc]; refine bnd_fun _ fun vs => ?_
    cases vs <;> simp only [minmaxV, bnd_assoc, Option.bnd_some, Option.bnd_none]
  | append sz s x =>
    simp only [stepK, step, appV, bnd_assoc]; refine bnd_fun _ fun v => bnd_fun _ fun u => bnd_fun _ fun xs => ?_
    split
    · cases v with
      | nils => simp only; split <;> rfl
      | sl o z es => cases o <;> first | rfl | (simp only; split <;> rfl)
      | _ => rfl
    · rfl
  | appendT T sz s x =>
    simp only [stepK, step, appTV, bnd_assoc, bnd2_bnd]; refine bnd_fun _ fun v => bnd_fun _ fun u => bnd_fun _ fun xs => ?_
    cases growT h T sz v xs <;> rfl
  | appendBox sz s x =>
    simp only [stepK, step, appBoxV, bnd_assoc, bnd2_bnd]; refine bnd_fun _ fun v => bnd_fun _ fun u => bnd_fun _ fun xs => bnd_fun _ fun es => ?_
    split
    · rfl
    · split <;> rfl
  | call f args =>
    simp only [stepK, step, bnd_assoc]; refine bnd_fun _ fun vs => ?_
    cases orc f vs h with
    | none => rfl
    | some x =>
      obtain ⟨v, h'⟩ := x
      simp only [bnd2_some, Option.bnd_some]
      cases draw
      · rfl
      · simp only [if_true]; split <;> rfl
  | callv x args =>
    simp only [stepK, step, bnd_assoc]; refine bnd_fun _ fun v => ?_
    have key : ∀ (x : Option (List PV)) (f : List PV → Option α), (∀ a, f a = none) → x.bnd f = none := by intro x f h; cases x <;> simp [Option.bnd, h]
    cases v with
    | fn f cap =>
      simp only [bnd_assoc]
      refine bnd_fun _ fun vs => ?_
      simp only [callvV]
      cases orc f (vs ++ cap) h with
      | none => rfl
      | some x =>
        obtain ⟨v, h'⟩ := x
        simp only [bnd2_some, Option.bnd_some]
        cases draw
        · rfl
        · simp only [if_true]; split <;> rfl
    | _ => exact key _ _ fun _ => rfl
  | callQ f args =>
    simp only [stepK, step, bnd_assoc]; refine bnd_fun _ fun vs => ?_
    cases orcQ orc f vs h with
    | none => rfl
    | some x =>
      obtain ⟨v, h'⟩ := x
      simp only [bnd2_some, Option.bnd_some]
      split <;> rfl
  | loadN t n agg a =>
    simp only [stepK, step, bnd_assoc]; refine bnd_fun _ fun q => bnd_fun _ fun v => ?_
    cases q <;> try rfl
    cases v <;> try rfl
    · simp only [loadNV]; split
      · rfl
      · simp only [loadV, bnd_assoc, Option.bnd_some]
    · simp only [loadNV, loadV, bnd_assoc, Option.bnd_some]
  | storeN t n a x =>
    simp only [stepK, step, bnd_assoc]; refine bnd_fun _ fun q => bnd_fun _ fun v => bnd_fun _ fun u => ?_
    cases q <;> try rfl
    cases v <;> try rfl
    simp only [storeNV]; split
    · simp only [storeV, bnd_assoc]; refine bnd_fun _ fun cs => ?_
      split <;> rfl
    · rfl
  | stuck => rfl
end Go.Am
namespace Go.Am
set_option linter.unusedVariables false
set_option linter.unusedSimpArgs false

/-- Operations that leave the heap. -/
def pureOp : AOp → Bool
  | .mov _ | .pick _ _ _ | .bin _ _ _ | .binB _ _ _ | .isnil _ _ _ | .un _ _ | .toInt _ _ | .load _ _ _ | .loadN _ _ _ _ | .fieldA _ _ | .field _ _ _ _ | .idxA _ _ _ | .idxArr _ _ _ _
  | .idxStr _ _ | .idxAgg _ _ _ _ _ | .extract _ _ | .tassert _ _ _ _ | .len _ _ | .minmax _ _ | .slice _ _ _ _ _ | .nilck _ | .mkif _ _ | .build _ _ | .bytesStr _ | .eqv _ _ _ _ => true
  | _ => false
theorem stepK_pure {α : Type} {op : AOp} (hp : pureOp op = true) (orc : Orc) (base : Nat) (draw : Bool) (e : Env) (h : Hp) (K : PV → Hp → Option α) :
    stepK orc base draw op e h K = (stepK orc base draw op e h fun v _ => some v).bnd fun v => K v h := by
  cases op <;> first | (simp only [stepK, bnd_assoc, Option.bnd_some]; done) | cases hp
noncomputable def guardK {α : Type} (g : Option (Nat × Bool)) (p : Bool) (e : Env) (h : Hp) (z : Option PV) (x : Option (PV × Hp)) (y : Option α) (K : PV → Hp → Option α) : Option α :=
  match g with
  | none => y
  | some (t, w) => (look e t).bnd fun v => (wantB v w).bnd fun w => match p with
    | true => (whenB w z (some .undef)).bnd fun v => K v h
    | false => bnd2 (whenB w x (some (.undef, h))) K
noncomputable def opsK {α : Type} (orc : Orc) (base : Nat) (draw : Bool) (l : List AOper) : Env → Hp → (Env → Hp → Option α) → Option α :=
  List.rec (motive := fun _ => Env → Hp → (Env → Hp → Option α) → Option α) (fun e h K => K e h)
    (fun o _ ih e h K => guardK o.guard (pureOp o.op) e h (stepK orc base draw o.op e h fun v _ => some v) (stepK orc base draw o.op e h fun v h => some (v, h)) (stepK orc base draw o.op e h fun v h => ih (putD e o.dst v) h K)
      fun v h => ih (putD e o.dst v) h K) l
theorem opsK_cons {α : Type} (orc : Orc) (base : Nat) (draw : Bool) (o : AOper) (r : List AOper) (e : Env) (h : Hp) (K : Env → Hp → Option α) :
    opsK orc base draw (o :: r) e h K = guardK o.guard (pureOp o.op) e h (stepK orc base draw o.op e h fun v _ => some v) (stepK orc base draw o.op e h fun v h => some (v, h)) (stepK orc base draw o.op e h fun v h => opsK orc base draw r (putD e o.dst v) h K)
      fun v h => opsK orc base draw r (putD e o.dst v) h K := rfl

theorem stepE_env {orc : Orc} {base : Nat} {draw : Bool} {op : AOp} {e : Env} {h : Hp} {x : PV × Env × Hp} (hs : step orc base draw op e h = some x) : x.2.1 = e := by
  have key : ∀ {β : Type} {y : Option β} {f : β → Option (PV × Env × Hp)}, (∀ a, f a = some x → x.2.1 = e) → y.bnd f = some x → x.2.1 = e := by
    intro β y f hf hy
    rw [Option.bnd_eq_some_iff] at hy
    obtain ⟨a, _, ha⟩ := hy
    exact hf a ha
  have one : ∀ {v : PV} {k : Hp}, some (v, e, k) = some x → x.2.1 = e := by intro v k hq; cases hq; rfl
  unfold step at hs
  cases op <;> simp only at hs <;> first | exact one hs | cases hs | skip
  all_goals first
    | (refine key (fun a ha => ?_) hs; exact one ha)
    | (refine key (fun a ha => ?_) hs; refine key (fun b hb => ?_) ha; first | exact one hb | (split at hb <;> first | exact one hb | cases hb))
    | (refine key (fun a ha => ?_) hs; refine key (fun b hb => ?_) ha; refine key (fun c hc => ?_) hb; exact one hc)
    | skip
  case pick c a b =>
    refine key (fun v hv => ?_) hs
    rw [condB_some] at hv
    rcases hv with ⟨_, hv⟩ | ⟨_, hv⟩ <;> exact key (fun a ha => one ha) hv
  case box n y => refine key (fun v hv => ?_) hs; split at hv <;> first | exact one hv | cases hv
  case load n agg a =>
    refine key (fun v hv => ?_) hs
    split at hv
    · exact key (fun _ h1 => key (fun _ h2 => one h2) h1) hv
    · exact key (fun _ h1 => one h1) hv
    · cases hv
  case store n a y =>
    refine key (fun v hv => key (fun u hu => ?_) hv) hs
    split at hu
    · refine key (fun _ h1 => ?_) hu; split at h1 <;> first | exact one h1 | cases h1
    · cases hu
  case nilck y => refine key (fun v hv => ?_) hs; split at hv <;> first | exact one hv | cases hv
  case toInt k y => refine key (fun v hv => ?_) hs; split at hv <;> first | exact one hv | cases hv
  case strBytes bx y =>
    refine key (fun v hv => ?_) hs
    split at hv
    · split at hv
      · split at hv <;> exact one hv
      · cases hv
    · cases hv
  case bytesStr y =>
    refine key (fun v hv => ?_) hs
    split at hv
    · cases hv
    · exact key (fun _ h1 => key (fun _ h2 => one h2) h1) hv
  case makeSl T z agg l c =>
    refine key (fun _ h1 => key (fun _ h2 => key (fun _ h3 => ?_) h2) h1) hs
    split at h3
    · exact one h3
    · split at h3
      · exact one h3
      · cases h3
  case copyB d y =>
    refine key (fun _ h1 => key (fun _ h2 => key (fun _ h3 => ?_) h2) h1) hs
    split at h3
    · refine key (fun _ h1 => ?_) h3; split at h1 <;> first | exact one h1 | cases h1
    · exact one h3
    · cases h3
  case range y => refine key (fun v hv => ?_) hs; split at hv <;> first | exact one hv | cases hv
  case next y =>
    refine key (fun v hv => ?_) hs
    split at hv
    · refine key (fun _ h1 => ?_) hv; split at h1 <;> exact one h1
    · cases hv
  case eqv neg ks y z =>
    refine key (fun _ h1 => key (fun _ h2 => ?_) h1) hs
    split at h2
    · exact key (fun _ h3 => one h3) h2
    · cases h2
  case fieldA off y => refine key (fun v hv => ?_) hs; split at hv <;> first | exact one hv | cases hv
  case field off n agg y => refine key (fun v hv => ?_) hs; split at hv <;> first | exact key (fun _ h1 => one h1) hv | cases hv
  case idxA sz y i =>
    refine key (fun _ h1 => key (fun _ h2 => ?_) h1) hs
    split at h2
    · split at h2
      · exact key (fun _ h3 => key (fun _ h4 => one h4) h3) h2
      · cases h2
    · split at h2
      · exact key (fun _ h3 => one h3) h2
      · cases h2
    · cases h2
  case idxArr sz len y i =>
    refine key (fun _ h1 => key (fun _ h2 => ?_) h1) hs
    split at h2 <;> first | exact key (fun _ h3 => one h3) h2 | cases h2
  case idxStr y i =>
    refine key (fun _ h1 => key (fun _ h2 => ?_) h1) hs
    split at h2 <;> first | exact key (fun _ h3 => key (fun _ h4 => one h4) h3) h2 | cases h2
  case idxAgg sz agg len y i =>
    refine key (fun _ h1 => key (fun _ h2 => ?_) h1) hs
    split at h2 <;> first | exact key (fun _ h3 => key (fun _ h4 => one h4) h3) h2 | cases h2
  case extract y i => refine key (fun v hv => ?_) hs; split at hv <;> first | exact key (fun _ h1 => one h1) hv | cases hv
  case tassert t ok z y =>
    refine key (fun v hv => ?_) hs
    split at hv
    · split at hv
      · split at hv <;> exact one hv
      · split at hv <;> first | exact one hv | cases hv
    · split at hv <;> first | exact one hv | cases hv
    · cases hv
  case len str y => refine key (fun v hv => ?_) hs; split at hv <;> first | exact one hv | cases hv
  case minmax mx xs => refine key (fun v hv => ?_) hs; split at hv <;> first | exact key (fun _ h1 => one h1) hv | cases hv
  case append sz s y =>
    refine key (fun _ h1 => key (fun _ h2 => key (fun _ h3 => ?_) h2) h1) hs
    split at h3
    · split at h3
      · split at h3 <;> first | exact one h3 | cases h3
      · split at h3 <;> first | exact one h3 | cases h3
      · cases h3
    · cases h3
  case appendT T sz s y => exact key (fun _ h1 => key (fun _ h2 => key (fun _ h3 => key (fun _ h4 => one h4) h3) h2) h1) hs
  case appendBox sz s y =>
    refine key (fun _ h1 => key (fun _ h2 => key (fun _ h3 => key (fun _ h4 => ?_) h3) h2) h1) hs
    split at h4
    · exact one h4
    · split at h4
      · exact one h4
      · cases h4
  case call f args =>
    refine key (fun _ h1 => key (fun _ h2 => ?_) h1) hs
    split at h2
    · split at h2 <;> first | exact one h2 | cases h2
    · exact one h2
  case callv y args =>
    refine key (fun _ h1 => ?_) hs
    split at h1
    · refine key (fun _ h2 => key (fun _ h3 => ?_) h2) h1
      split at h3
      · split at h3 <;> first | exact one h3 | cases h3
      · exact one h3
    · cases h1
  case loadN t n agg a =>
    refine key (fun _ h1 => key (fun _ h2 => ?_) h1) hs
    split at h2
    · split at h2
      · cases h2
      · exact key (fun _ h3 => key (fun _ h4 => one h4) h3) h2
    · exact key (fun _ h3 => one h3) h2
    · cases h2
  case storeN t n a y =>
    refine key (fun _ h1 => key (fun _ h2 => key (fun _ h3 => ?_) h2) h1) hs
    split at h3
    · split at h3
      · refine key (fun _ h4 => ?_) h3; split at h4 <;> first | exact one h4 | cases h4
      · cases h3
    · cases h3

theorem opsK_eq {α : Type} (orc : Orc) (base : Nat) (draw : Bool) : ∀ (l : List AOper) (e : Env) (h : Hp) (K : Env → Hp → Option α),
    opsK orc base draw l e h K = (execOps orc base draw l e h).bnd fun x => K x.1 x.2
  | [], e, h, K => rfl
  | o :: r, e, h, K => by
    have ih : ∀ (v : PV) (h : Hp), opsK orc base draw r (putD e o.dst v) h K = (execOps orc base draw r (putD e o.dst v) h).bnd fun x => K x.1 x.2 := fun v h => opsK_eq orc base draw r _ h K
    have main : stepK orc base draw o.op e h (fun v h => opsK orc base draw r (putD e o.dst v) h K) =
        ((step orc base draw o.op e h).bnd fun x => execOps orc base draw r (putD x.2.1 o.dst x.1) x.2.2).bnd fun x => K x.1 x.2 := by
      rw [stepK_eq, bnd_assoc]
      cases hs : step orc base draw o.op e h with
      | none => rfl
      | some x => simp only [Option.bnd_some, ih, stepE_env hs]
    rw [opsK_cons, execOps]
    cases hg : o.guard with
    | none => simp only [guardK, wanted, Option.bnd_some, if_true]; exact main
    | some g =>
      obtain ⟨t, w⟩ := g
      simp only [guardK, wanted_some, bnd_assoc]
      refine bnd_fun _ fun v => ?_
      cases hw : wantB v w with
      | none => rfl
      | some b =>
        cases b with
        | true =>
          simp only [Option.bnd_some, whenB_true, if_true]
          rw [← main]
          cases hp : pureOp o.op with
          | true => simp only; rw [stepK_pure hp orc base draw e h (fun v h => opsK orc base draw r (putD e o.dst v) h K)]; rfl
          | false =>
            simp only
            rw [stepK_eq, stepK_eq]
            cases step orc base draw o.op e h <;> rfl
        | false => cases pureOp o.op <;> (simp only [Option.bnd_some, whenB_false, bnd2_some, Bool.false_eq_true, if_false]; exact ih _ _)

/-- What is still to come, as data. -/
inductive Fr where
  | seq (b : ACode)
  | block (i : Nat)
  | loop (a : ACode)
noncomputable def finV (keep own : Bool) (n0 : Nat) (vs : List PV) (h : Hp) : Option (PV × Hp) :=
  if keep then some (result1 vs, h)
    else if own then (ownEnd n0 h vs).bnd fun r => some (result1 r.1, r.2)
    else (frzs n0 h vs).bnd fun vs => if belows n0 vs = true then some (result1 vs, trunc h n0) else none
noncomputable def resultsK {α : Type} (e : Env) (h : Hp) : List (Nat × Option (Nat × Bool)) → (List PV → Option α) → Option α
  | [], K => K []
  | t :: ts, K => (resultOf e h t).bnd fun v => resultsK e h ts fun vs => K (v :: vs)
theorem resultsK_eq {α : Type} (e : Env) (h : Hp) : ∀ (rs : List (Nat × Option (Nat × Bool))) (K : List PV → Option α), resultsK e h rs K = (resultsOf e h rs).bnd K
  | [], K => rfl
  | t :: ts, K => by
    simp only [resultsK, resultsOf_cons, bnd_assoc, Option.bnd_some]
    exact bnd_fun _ fun v => resultsK_eq e h ts _
noncomputable def endK (fn : AFn) (n0 : Nat) (x : AEx) (e : Env) (h : Hp) : Option (PV × Hp) := match x with
  | .exit _ => none
  | _ => resultsK e h fn.results fun vs => finV fn.keep fn.own n0 vs h
theorem finish_eq (fn : AFn) (n0 : Nat) (e : Env) (h : Hp) : finish fn n0 e h = resultsK e h fn.results fun vs => finV fn.keep fn.own n0 vs h := by
  rw [resultsK_eq]; rfl

/-- What comes when a piece of code has ended so. -/
noncomputable def goF (fn : AFn) (n0 : Nat) (run : ACode → List Fr → Env → Hp → Option (PV × Hp)) (lp : ACode → List Fr → Env → Hp → Option (PV × Hp)) : List Fr → AEx → Env → Hp → Option (PV × Hp)
  | [], x, e, h => endK fn n0 x e h
  | .seq b :: r, x, e, h => match x with
    | .norm => run b r e h
    | x => goF fn n0 run lp r x e h
  | .block i :: r, x, e, h => match x with
    | .exit j => if j = i then goF fn n0 run lp r .norm e h else goF fn n0 run lp r (.exit j) e h
    | x => goF fn n0 run lp r x e h
  | .loop a :: r, x, e, h => match x with
    | .norm => lp a r e h
    | x => goF fn n0 run lp r x e h
noncomputable def kSem (T : Table) (fn : AFn) (base n0 : Nat) : List Fr → AEx → Env → Hp → Option (PV × Hp)
  | [], x, e, h => endK fn n0 x e h
  | .seq b :: r, x, e, h => match x with
    | .norm => bndX (ExecA T b base e h) (kSem T fn base n0 r)
    | x => kSem T fn base n0 r x e h
  | .block i :: r, x, e, h => match x with
    | .exit j => if j = i then kSem T fn base n0 r .norm e h else kSem T fn base n0 r (.exit j) e h
    | x => kSem T fn base n0 r x e h
  | .loop a :: r, x, e, h => match x with
    | .norm => bndX (ExecA T (.loop a) base e h) (kSem T fn base n0 r)
    | x => kSem T fn base n0 r x e h
/-- What the function does from a piece of code on. -/
noncomputable def Run (T : Table) (fn : AFn) (base n0 : Nat) (c : ACode) (fr : List Fr) (e : Env) (h : Hp) : Option (PV × Hp) := bndX (ExecA T c base e h) (kSem T fn base n0 fr)
noncomputable def cpsF (T : Table) (fn : AFn) (base n0 : Nat) : Nat → ACode → List Fr → Env → Hp → Option (PV × Hp)
  | 0, c, fr, e, h => Run T fn base n0 c fr e h
  | n + 1, c, fr, e, h => match c with
    | .skip => goF fn n0 (cpsF T fn base n0 n) (fun a => Run T fn base n0 (.loop a)) fr .norm e h
    | .ops l draw keep => opsK (CallA T base) base draw l e h fun e h => goF fn n0 (cpsF T fn base n0 n) (fun a => Run T fn base n0 (.loop a)) fr .norm (prune keep e) h
    | .seq a b => match a with
      | .ops [] _ k => Run T fn base n0 b fr (prune k e) h
      | a => cpsF T fn base n0 n a (.seq b :: fr) e h
    | .cond c a b => (ev e c).bnd fun v => condB v (cpsF T fn base n0 n a fr e h) (cpsF T fn base n0 n b fr e h)
    | .block i a => cpsF T fn base n0 n a (.block i :: fr) e h
    | .loop a => Run T fn base n0 (.loop a) fr e h
    | .scope a => cpsF T fn base n0 n a fr e h
    | .exit i => goF fn n0 (cpsF T fn base n0 n) (fun a => Run T fn base n0 (.loop a)) fr (.exit i) e h
    | .ret => goF fn n0 (cpsF T fn base n0 n) (fun a => Run T fn base n0 (.loop a)) fr .ret e h

theorem condB_bndX {α : Type} (v : PV) (x y : Option (AEx × Env × Hp)) (K : AEx → Env → Hp → Option α) : condB v (bndX x K) (bndX y K) = bndX (condB v x y) K := by
  cases v <;> try rfl
  rename_i b; cases b <;> rfl
section
variable {T : Table} {fn : AFn} {base n0 : Nat}
theorem goF_eq {run : ACode → List Fr → Env → Hp → Option (PV × Hp)} (hr : ∀ c fr e h, run c fr e h = Run T fn base n0 c fr e h) : ∀ (fr : List Fr) (x : AEx) (e : Env) (h : Hp), goF fn n0 run (fun a => Run T fn base n0 (.loop a)) fr x e h = kSem T fn base n0 fr x e h
  | [], x, e, h => rfl
  | .seq b :: r, x, e, h => by
    cases x with
    | norm => rw [goF, hr]; rfl
    | _ => exact goF_eq hr r _ e h
  | .block i :: r, x, e, h => by
    cases x with
    | exit j => simp only [goF, kSem, goF_eq hr r]
    | _ => exact goF_eq hr r _ e h
  | .loop a :: r, x, e, h => by
    cases x with
    | norm => rfl
    | _ => exact goF_eq hr r _ e h
theorem Run_seq (a b : ACode) (fr : List Fr) (e : Env) (h : Hp) : Run T fn base n0 (.seq a b) fr e h = Run T fn base n0 a (.seq b :: fr) e h := by
  unfold Run
  rw [R_seq]
  cases ExecA T a base e h with
  | none => rfl
  | some x => obtain ⟨x, e', h'⟩ := x; cases x <;> rfl
theorem Run_block (i : Nat) (a : ACode) (fr : List Fr) (e : Env) (h : Hp) : Run T fn base n0 (.block i a) fr e h = Run T fn base n0 a (.block i :: fr) e h := by
  unfold Run
  rw [R_block]
  cases ExecA T a base e h with
  | none => rfl
  | some x =>
    obtain ⟨x, e', h'⟩ := x
    cases x with
    | exit j => simp only [bndX_some, onExit_exit, kSem]; split <;> rfl
    | _ => rfl
theorem Run_loop (a : ACode) (fr : List Fr) (e : Env) (h : Hp) : Run T fn base n0 (.loop a) fr e h = Run T fn base n0 a (.loop a :: fr) e h := by
  unfold Run
  rw [R_loop]
  cases ExecA T a base e h with
  | none => rfl
  | some x => obtain ⟨x, e', h'⟩ := x; cases x <;> rfl
theorem Run_ops (l : List AOper) (d : Bool) (k : List Nat) (fr : List Fr) (e : Env) (h : Hp) : Run T fn base n0 (.ops l d k) fr e h = opsK (CallA T base) base d l e h fun e h => kSem T fn base n0 fr .norm (prune k e) h := by
  unfold Run
  rw [opsK_eq, R_ops]
  cases execOps (CallA T base) base d l e h <;> rfl
theorem cpsF_eq : ∀ (n : Nat) (c : ACode) (fr : List Fr) (e : Env) (h : Hp), cpsF T fn base n0 n c fr e h = Run T fn base n0 c fr e h
  | 0, c, fr, e, h => rfl
  | n + 1, c, fr, e, h => by
    have ih := cpsF_eq n
    cases c with
    | skip => rw [cpsF, goF_eq ih]; unfold Run; rw [ExecA_skip]; rfl
    | exit i => rw [cpsF, goF_eq ih]; unfold Run; rw [ExecA_exit]; rfl
    | ret => rw [cpsF, goF_eq ih]; unfold Run; rw [ExecA_ret]; rfl
    | ops l d k => rw [cpsF, Run_ops]; simp only [goF_eq ih]
    | seq a b =>
      rw [Run_seq]
      cases a with
      | ops l d k =>
        cases l with
        | nil => rw [Run_ops]; rfl
        | cons o l => exact ih _ _ _ _
      | _ => exact ih _ _ _ _
    | cond c a b =>
      rw [cpsF]
      simp only [ih]
      unfold Run
      rw [ExecA_cond]
      cases ev e c with
      | none => rfl
      | some v => simp only [Option.bnd_some, condB_bndX]
    | block i a => rw [cpsF, ih, Run_block]
    | loop a => rfl
    | scope a => rw [cpsF, ih]; unfold Run; rw [ExecA_scope]
end
/-- The code at a place, and what comes behind it. -/
def ctx : List Nat → ACode → List Fr → ACode × List Fr
  | [], c, fr => (c, fr)
  | i :: p, .seq a b, fr => if i = 0 then ctx p a (.seq b :: fr) else ctx p b fr
  | i :: p, .cond _ a b, fr => if i = 0 then ctx p a fr else ctx p b fr
  | _ :: p, .block i a, fr => ctx p a (.block i :: fr)
  | _ :: p, .loop a, fr => ctx p a (.loop a :: fr)
  | _ :: p, .scope a, fr => ctx p a fr
  | _ :: _, c, fr => (c, fr)
/-- What the function does from a place on. -/
noncomputable def Pt (T : Table) (fn : AFn) (p : List Nat) (base n0 : Nat) (e : Env) (h : Hp) : Option (PV × Hp) :=
  Run T fn base n0 (ctx p fn.body []).1 (ctx p fn.body []).2 e h
def unr : ACode × List Fr → ACode × List Fr
  | (.loop a, fr) => (a, .loop a :: fr)
  | x => x
theorem Pt_eq (T : Table) (fn : AFn) (p : List Nat) (base n0 : Nat) (e : Env) (h : Hp) :
    Pt T fn p base n0 e h = cpsF T fn base n0 200 (unr (ctx p fn.body [])).1 (unr (ctx p fn.body [])).2 e h := by
  rw [cpsF_eq]
  unfold Pt
  generalize ctx p fn.body [] = r
  obtain ⟨c, fr⟩ := r
  cases c with
  | loop a => exact Run_loop a fr e h
  | _ => rfl
theorem Pt_entry {T : Table} {f : Nat} {fn : AFn} (hT : T f = some (.code fn)) (base : Nat) (a : List PV) (h : Hp) :
    CallA T base f a h = cpsF T fn (if fn.keep then base else size h) (size h) 200 fn.body [] (params 0 a) h := by
  rw [CallA_code hT, cpsF_eq]
  unfold Run
  cases ExecA T fn.body (if fn.keep then base else size h) (params 0 a) h with
  | none => rfl
  | some x => obtain ⟨x, e', h'⟩ := x; cases x <;> simp only [Option.bnd_some, bndX_some, finish_eq] <;> rfl
theorem Pt_enter {T : Table} {f : Nat} {rs : List (Nat × Option (Nat × Bool))} {body : ACode} {own : Bool} (hT : T f = some (.code ⟨rs, body, false, own⟩)) (base : Nat) (a : List PV) (h : Hp) :
    CallA T base f a h = cpsF T ⟨rs, body, false, own⟩ (size h) (size h) 200 body [] (params 0 a) h := Pt_entry hT base a h
theorem Pt_enterK {T : Table} {f : Nat} {rs : List (Nat × Option (Nat × Bool))} {body : ACode} {own : Bool} (hT : T f = some (.code ⟨rs, body, true, own⟩)) (base : Nat) (a : List PV) (h : Hp) :
    CallA T base f a h = cpsF T ⟨rs, body, true, own⟩ base (size h) 200 body [] (params 0 a) h := Pt_entry hT base a h
def chkK {α : Type} (h h' : Hp) (y : Option α) : Option α := if h' = h then y else none
end Go.Am
namespace Go.Am
set_option linter.unusedVariables false
set_option linter.unusedSimpArgs false

def Sub (e e2 : Env) : Prop := ∀ t v, look e t = some v → look e2 t = some v
theorem Sub.refl (e : Env) : Sub e e := fun _ _ h => h
section
variable {e e2 : Env} (hs : Sub e e2)
include hs
theorem ev_sub {x : Opnd} {v : PV} (h : ev e x = some v) : ev e2 x = some v := by
  cases x with
  | tmp t => exact hs t v h
  | const c => exact h
theorem evs_sub : ∀ {xs : List Opnd} {vs : List PV}, evs e xs = some vs → evs e2 xs = some vs
  | [], vs, h => h
  | x :: xs, vs, h => by
    simp only [evs, Option.bnd_eq_some_iff] at h ⊢
    obtain ⟨v, h1, w, h2, h3⟩ := h
    exact ⟨v, ev_sub hs h1, w, evs_sub h2, h3⟩
theorem evParts_sub : ∀ {xs : List (Nat × Opnd)} {vs : List (Nat × PV)}, evParts e xs = some vs → evParts e2 xs = some vs
  | [], vs, h => h
  | (i, x) :: xs, vs, h => by
    simp only [evParts_cons, Option.bnd_eq_some_iff] at h ⊢
    obtain ⟨v, h1, w, h2, h3⟩ := h
    exact ⟨v, ev_sub hs h1, w, evParts_sub h2, h3⟩
theorem evParts3_sub : ∀ {xs : List (Nat × Nat × Opnd)} {vs : List (Nat × Nat × PV)}, evParts3 e xs = some vs → evParts3 e2 xs = some vs
  | [], vs, h => h
  | (i, n, x) :: xs, vs, h => by
    simp only [evParts3_cons, Option.bnd_eq_some_iff] at h ⊢
    obtain ⟨v, h1, w, h2, h3⟩ := h
    exact ⟨v, ev_sub hs h1, w, evParts3_sub h2, h3⟩
theorem evO_sub {x : Option Opnd} {v : Option PV} (h : evO e x = some v) : evO e2 x = some v := by
  cases x with
  | none => exact h
  | some x =>
    simp only [evO, Option.bnd_eq_some_iff] at h ⊢
    obtain ⟨a, h1, h2⟩ := h
    exact ⟨a, ev_sub hs h1, h2⟩
omit hs in
theorem bnd2_orc {orc orc2 : Orc} (ho : orc.le orc2) {f : Nat} {vs : List PV} {h : Hp} {K : PV → Hp → Option (PV × Hp)} {r : PV × Hp} (hr : bnd2 (orc f vs h) K = some r) : bnd2 (orc2 f vs h) K = some r := by
  cases hq : orc f vs h with
  | none => rw [hq] at hr; cases hr
  | some x => rw [hq] at hr; rw [ho _ _ _ _ hq]; exact hr
omit hs in
theorem orcQ_le {orc orc2 : Orc} (ho : orc.le orc2) : Orc.le (orcQ orc) (orcQ orc2) := by
  intro f a h r hr
  simp only [orcQ, Option.bnd_eq_some_iff] at hr ⊢
  obtain ⟨y, h1, h2⟩ := hr
  exact ⟨y, ho _ _ _ _ h1, h2⟩
theorem stepK_sub {orc orc2 : Orc} (ho : orc.le orc2) {base : Nat} {draw : Bool} {op : AOp} {h : Hp} {K : PV → Hp → Option (PV × Hp)} {r : PV × Hp} (hr : stepK orc base draw op e h K = some r) : stepK orc2 base draw op e2 h K = some r := by
  cases op <;> simp only [stepK, Option.bnd_eq_some_iff] at hr ⊢ <;> first
    | exact hr
    | (obtain ⟨a, h1, h2⟩ := hr; exact ⟨a, ev_sub hs h1, h2⟩)
    | (obtain ⟨a, h1, h2⟩ := hr; exact ⟨a, evs_sub hs h1, h2⟩)
    | (obtain ⟨a, h1, h2⟩ := hr; exact ⟨a, evs_sub hs h1, bnd2_orc ho h2⟩)
    | (obtain ⟨a, h1, h2⟩ := hr; exact ⟨a, evs_sub hs h1, bnd2_orc (orcQ_le ho) h2⟩)
    | (obtain ⟨a, h1, h2⟩ := hr; exact ⟨a, evParts_sub hs h1, h2⟩)
    | (obtain ⟨a, h1, h2⟩ := hr; exact ⟨a, evParts3_sub hs h1, h2⟩)
    | (obtain ⟨a, h1, b, h2, h3⟩ := hr; exact ⟨a, ev_sub hs h1, b, ev_sub hs h2, h3⟩)
    | (obtain ⟨a, h1, b, h2, h3⟩ := hr; exact ⟨a, hs _ _ h1, b, ev_sub hs h2, h3⟩)
    | (obtain ⟨a, h1, b, h2, c, h3, h4⟩ := hr; exact ⟨a, hs _ _ h1, b, ev_sub hs h2, c, ev_sub hs h3, h4⟩)
    | (obtain ⟨a, h1, b, h2, c, h3, d, h4, h5⟩ := hr; exact ⟨a, ev_sub hs h1, b, evO_sub hs h2, c, evO_sub hs h3, d, evO_sub hs h4, h5⟩)
    | skip
  case pick c a b =>
    obtain ⟨v, h1, w, h2, h3⟩ := hr
    rw [condB_some] at h2
    exact ⟨v, ev_sub hs h1, w, condB_some.2 (h2.imp (fun q => ⟨q.1, ev_sub hs q.2⟩) (fun q => ⟨q.1, ev_sub hs q.2⟩)), h3⟩
  case callv x args =>
    obtain ⟨v, h1, vs, h2, h3⟩ := hr
    refine ⟨v, ev_sub hs h1, vs, evs_sub hs h2, ?_⟩
    cases v <;> first | exact h3 | exact bnd2_orc ho h3
theorem step_sub {orc orc2 : Orc} (ho : orc.le orc2) {base : Nat} {draw : Bool} {op : AOp} {h : Hp} {x : PV × Env × Hp} (hx : step orc base draw op e h = some x) : step orc2 base draw op e2 h = some (x.1, e2, x.2.2) := by
  have h1 := stepK_eq orc base draw op e h fun v h => some (v, h)
  rw [hx, Option.bnd_some] at h1
  have h2 := stepK_sub hs ho h1
  rw [stepK_eq, Option.bnd_eq_some_iff] at h2
  obtain ⟨y, h3, h4⟩ := h2
  have h5 := stepE_env h3
  obtain ⟨a, b, c⟩ := y
  cases h4; simp only at h5; subst h5
  exact h3
theorem wanted_sub {g : Option (Nat × Bool)} {b : Bool} (h : wanted e g = some b) : wanted e2 g = some b := by
  cases g with
  | none => exact h
  | some g =>
    obtain ⟨t, w⟩ := g
    rw [wanted_some, Option.bnd_eq_some_iff] at h ⊢
    obtain ⟨v, h1, h2⟩ := h
    exact ⟨v, hs _ _ h1, h2⟩
theorem putD_sub (d : Option Nat) (v : PV) : Sub (putD e d v) (putD e2 d v) := by
  cases d with
  | none => exact hs
  | some d =>
    intro t w hw
    simp only [putD, look] at hw ⊢
    split at hw
    · rename_i hq; rw [if_pos hq]; exact hw
    · rename_i hq; rw [if_neg hq]; exact hs _ _ hw
end
theorem execOps_sub {orc orc2 : Orc} (ho : orc.le orc2) {base : Nat} {draw : Bool} : ∀ {l : List AOper} {e e2 : Env} {h : Hp} {r : Env × Hp}, Sub e e2 → execOps orc base draw l e h = some r → ∃ e3, execOps orc2 base draw l e2 h = some (e3, r.2) ∧ Sub r.1 e3
  | [], e, e2, h, r, hs, hr => by cases hr; exact ⟨e2, rfl, hs⟩
  | o :: l, e, e2, h, r, hs, hr => by
    simp only [execOps, Option.bnd_eq_some_iff] at hr ⊢
    obtain ⟨b, h1, h2⟩ := hr
    cases b with
    | true =>
      simp only [if_true, Option.bnd_eq_some_iff] at h2
      obtain ⟨x, h3, h4⟩ := h2
      rw [stepE_env h3] at h4
      obtain ⟨e3, h5, h6⟩ := execOps_sub ho (putD_sub hs o.dst x.1) h4
      exact ⟨e3, ⟨true, wanted_sub hs h1, by simp only [if_true, Option.bnd_eq_some_iff]; exact ⟨_, step_sub hs ho h3, h5⟩⟩, h6⟩
    | false =>
      simp only [Bool.false_eq_true, if_false] at h2
      obtain ⟨e3, h5, h6⟩ := execOps_sub ho (putD_sub hs o.dst .undef) h2
      exact ⟨e3, ⟨false, wanted_sub hs h1, by simpa using h5⟩, h6⟩
theorem look_prune_mem : ∀ (ts : List Nat) (e : Env) (t : Nat), t ∈ ts → look (prune ts e) t = look e t
  | t' :: ts, e, t, h => by
    rw [prune_cons, look_pruneC]
    by_cases hq : t' = t
    · subst hq
      rw [if_pos rfl]
      cases hl : look e t' with
      | some v => rfl
      | none =>
        rw [orr_none]
        cases hp : look (prune ts e) t' with
        | none => rfl
        | some v => rw [look_prune _ _ _ _ hp] at hl; cases hl
    · rw [if_neg hq]
      rcases List.mem_cons.1 h with h | h
      · exact (hq h.symm).elim
      · exact look_prune_mem ts e t h
theorem look_prune_not : ∀ (ts : List Nat) (e : Env) (t : Nat), t ∉ ts → look (prune ts e) t = none
  | [], e, t, h => rfl
  | t' :: ts, e, t, h => by
    simp only [List.mem_cons, not_or] at h
    rw [prune_cons, look_pruneC, if_neg (fun q => h.1 q.symm)]
    exact look_prune_not ts e t h.2
theorem prune_sub {k k' : List Nat} (hk : ∀ t ∈ k', t ∈ k) {e e2 : Env} (hs : Sub e e2) : Sub (prune k' e) (prune k e2) := by
  intro t v hv
  by_cases hm : t ∈ k'
  · rw [look_prune_mem _ _ _ hm] at hv
    rw [look_prune_mem _ _ _ (hk t hm)]
    exact hs _ _ hv
  · rw [look_prune_not _ _ _ hm] at hv; cases hv
theorem prune_sub1 (k' : List Nat) {e e2 : Env} (hs : Sub e e2) : Sub (prune k' e) e2 := fun t v hv => hs _ _ (look_prune _ _ _ _ hv)

/-- Code that keeps fewer slots than another. -/
inductive Le : ACode → ACode → Prop
  | skip : Le .skip .skip
  | exit (i) : Le (.exit i) (.exit i)
  | ret : Le .ret .ret
  | ops (l d k k') (hk : ∀ t ∈ k', t ∈ k) : Le (.ops l d k') (.ops l d k)
  | seq {a b a' b'} (ha : Le a' a) (hb : Le b' b) : Le (.seq a' b') (.seq a b)
  | cond (c) {a b a' b'} (ha : Le a' a) (hb : Le b' b) : Le (.cond c a' b') (.cond c a b)
  | block (i) {a a'} (ha : Le a' a) : Le (.block i a') (.block i a)
  | loop {a a'} (ha : Le a' a) : Le (.loop a') (.loop a)
  | scope {a a'} (ha : Le a' a) : Le (.scope a') (.scope a)
  | pre (k) {a a'} (ha : Le a' a) : Le (.seq (.ops [] false k) a') a
  | post (k) {a a'} (ha : Le a' a) : Le (.seq a' (.ops [] false k)) a
theorem Le.refl : ∀ c, Le c c
  | .skip => .skip
  | .exit i => .exit i
  | .ret => .ret
  | .ops l d k => .ops l d k k fun _ h => h
  | .seq a b => .seq (Le.refl a) (Le.refl b)
  | .cond c a b => .cond c (Le.refl a) (Le.refl b)
  | .block i a => .block i (Le.refl a)
  | .loop a => .loop (Le.refl a)
  | .scope a => .scope (Le.refl a)

/-- What is to be kept, piece by piece. -/
inductive An where
  | leaf
  | ops (k : List Nat)
  | node (a b : An)
  | pre (k : List Nat) (a : An)
  | loop (k : List Nat) (a : An)
def optC : An → ACode → ACode
  | .ops k', .ops l d k => .ops l d (k'.filter fun t => k.any fun s => Nat.beq t s)
  | .node x y, .seq a b => .seq (optC x a) (optC y b)
  | .node x y, .cond c a b => .cond c (optC x a) (optC y b)
  | .node x _, .block i a => .block i (optC x a)
  | .node x _, .scope a => .scope (optC x a)
  | .pre k x, c => .seq (.ops [] false k) (optC x c)
  | .loop k x, .loop a => .seq (.ops [] false k) (.loop (.seq (optC x a) (.ops [] false k)))
  | _, c => c
theorem optC_le : ∀ (x : An) (c : ACode), Le (optC x c) c
  | .leaf, c => by cases c <;> exact Le.refl _
  | .ops k', c => by
    cases c <;> try exact Le.refl _
    rename_i l d k
    refine .ops l d k _ fun t ht => ?_
    rw [List.mem_filter, List.any_eq_true] at ht
    obtain ⟨_, s, h1, h2⟩ := ht
    rw [Nat.eq_of_beq_eq_true h2]; exact h1
  | .node x y, c => by
    cases c with
    | seq a b => exact .seq (optC_le x a) (optC_le y b)
    | cond c a b => exact .cond c (optC_le x a) (optC_le y b)
    | block i a => exact .block i (optC_le x a)
    | scope a => exact .scope (optC_le x a)
    | _ => exact Le.refl _
  | .pre k x, c => by cases c <;> exact .pre k (optC_le x _)
  | .loop k x, c => by
    cases c with
    | loop a => exact .pre k (.loop (.post k (optC_le x a)))
    | _ => exact Le.refl _

def TLe (T' T : Table) : Prop := ∀ f it', T' f = some it' → match it' with
  | .prim g => T f = some (.prim g)
  | .code F' => ∃ F, T f = some (.code F) ∧ Le F'.body F.body ∧ F'.results = F.results ∧ F'.keep = F.keep ∧ F'.own = F.own
theorem resultsOf_sub {e e2 : Env} (hs : Sub e e2) (h : Hp) : ∀ {rs : List (Nat × Option (Nat × Bool))} {vs : List PV}, resultsOf e h rs = some vs → resultsOf e2 h rs = some vs
  | [], vs, hv => hv
  | (t, o) :: rs, vs, hv => by
    simp only [resultsOf_cons, Option.bnd_eq_some_iff] at hv ⊢
    obtain ⟨v, h1, ws, h2, h3⟩ := hv
    refine ⟨v, ?_, ws, resultsOf_sub hs h h2, h3⟩
    cases o with
    | none => exact hs _ _ h1
    | some o =>
      obtain ⟨n, g⟩ := o
      rw [resultOf_cell, Option.bnd_eq_some_iff] at h1 ⊢
      obtain ⟨a, h4, h5⟩ := h1
      exact ⟨a, hs _ _ h4, h5⟩
theorem finish_sub {F' F : AFn} (h1 : F'.results = F.results) (h2 : F'.keep = F.keep) (h3 : F'.own = F.own) {e e2 : Env} (hs : Sub e e2) {n0 : Nat} {h : Hp} {r : PV × Hp} (hr : finish F' n0 e h = some r) : finish F n0 e2 h = some r := by
  rw [finish, Option.bnd_eq_some_iff] at hr ⊢
  obtain ⟨vs, h4, h5⟩ := hr
  rw [h1] at h4
  rw [h2, h3] at h5
  exact ⟨vs, resultsOf_sub hs h h4, h5⟩

theorem le_sound {T' T : Table} (hT : TLe T' T) : ∀ n, (∀ c' c base e h x e1 h1 e2, Le c' c → exec T' n c' base e h = some (x, e1, h1) → Sub e e2 → ∃ e3, ExecA T c base e2 h = some (x, e3, h1) ∧ Sub e1 e3) ∧
    (∀ base f a h r, call T' n base f a h = some r → CallA T base f a h = some r)
  | 0 => ⟨fun _ _ _ _ _ _ _ _ _ _ hx => by simp [exec] at hx, fun _ _ _ _ _ hx => by simp [call] at hx⟩
  | n + 1 => by
    obtain ⟨ih, ihc⟩ := le_sound hT n
    refine ⟨fun c' c base e h x e1 h1 e2 hle hx hs => ?_, fun base f a h r hr => ?_⟩
    · cases hle with
      | skip => rw [exec] at hx; cases hx; exact ⟨e2, ExecA_skip, hs⟩
      | exit i => rw [exec] at hx; cases hx; exact ⟨e2, ExecA_exit, hs⟩
      | ret => rw [exec] at hx; cases hx; exact ⟨e2, ExecA_ret, hs⟩
      | ops l d k k' hk =>
        rw [exec, Option.bnd_eq_some_iff] at hx
        obtain ⟨y, h2, h3⟩ := hx
        obtain ⟨e3, h4, h5⟩ := execOps_sub (fun f a h r => ihc base f a h r) hs h2
        cases h3
        exact ⟨prune k e3, by rw [ExecA_ops, h4]; rfl, prune_sub hk h5⟩
      | seq ha hb =>
        rw [exec, Option.bnd_eq_some_iff] at hx
        obtain ⟨⟨y, ey, hy⟩, h2, h3⟩ := hx
        obtain ⟨e3, h4, h5⟩ := ih _ _ _ _ _ _ _ _ _ ha h2 hs
        cases y with
        | norm =>
          obtain ⟨e4, h6, h7⟩ := ih _ _ _ _ _ _ _ _ _ hb h3 h5
          exact ⟨e4, by rw [ExecA_seq, h4]; exact h6, h7⟩
        | _ => cases h3; exact ⟨e3, by rw [ExecA_seq, h4]; rfl, h5⟩
      | cond c ha hb =>
        rw [exec, Option.bnd_eq_some_iff] at hx
        obtain ⟨v, h2, h3⟩ := hx
        rw [condB_some] at h3
        rcases h3 with ⟨rfl, h3⟩ | ⟨rfl, h3⟩
        · obtain ⟨e3, h4, h5⟩ := ih _ _ _ _ _ _ _ _ _ ha h3 hs
          exact ⟨e3, by rw [ExecA_cond, ev_sub hs h2]; exact h4, h5⟩
        · obtain ⟨e3, h4, h5⟩ := ih _ _ _ _ _ _ _ _ _ hb h3 hs
          exact ⟨e3, by rw [ExecA_cond, ev_sub hs h2]; exact h4, h5⟩
      | block i ha =>
        rw [exec, Option.bnd_eq_some_iff] at hx
        obtain ⟨⟨y, ey, hy⟩, h2, h3⟩ := hx
        obtain ⟨e3, h4, h5⟩ := ih _ _ _ _ _ _ _ _ _ ha h2 hs
        rw [ExecA_block, h4, Option.bnd_some]
        cases y with
        | exit j =>
          simp only at h3 ⊢
          split at h3
          · rename_i hq; rw [if_pos hq]; cases h3; exact ⟨e3, rfl, h5⟩
          · rename_i hq; rw [if_neg hq]; cases h3; exact ⟨e3, rfl, h5⟩
        | _ => cases h3; exact ⟨e3, rfl, h5⟩
      | loop ha =>
        rw [exec, Option.bnd_eq_some_iff] at hx
        obtain ⟨⟨y, ey, hy⟩, h2, h3⟩ := hx
        obtain ⟨e3, h4, h5⟩ := ih _ _ _ _ _ _ _ _ _ ha h2 hs
        rw [ExecA_loop, h4, Option.bnd_some]
        cases y with
        | norm => exact ih _ _ _ _ _ _ _ _ _ (.loop ha) h3 h5
        | _ => cases h3; exact ⟨e3, rfl, h5⟩
      | scope ha =>
        rw [exec] at hx
        rw [ExecA_scope]
        exact ih _ _ _ _ _ _ _ _ _ ha hx hs
      | pre k ha =>
        rw [exec, Option.bnd_eq_some_iff] at hx
        obtain ⟨⟨y, ey, hy⟩, h2, h3⟩ := hx
        cases n with
        | zero => simp [exec] at h2
        | succ m =>
          rw [exec, execOps, Option.bnd_some] at h2
          cases h2
          exact ih _ _ _ _ _ _ _ _ _ ha h3 (prune_sub1 k hs)
      | post k ha =>
        rw [exec, Option.bnd_eq_some_iff] at hx
        obtain ⟨⟨y, ey, hy⟩, h2, h3⟩ := hx
        obtain ⟨e3, h4, h5⟩ := ih _ _ _ _ _ _ _ _ _ ha h2 hs
        cases y with
        | norm =>
          cases n with
          | zero => simp [exec] at h2
          | succ m =>
            simp only at h3
            rw [exec, execOps, Option.bnd_some] at h3
            cases h3
            exact ⟨e3, h4, prune_sub1 k h5⟩
        | _ => cases h3; exact ⟨e3, h4, h5⟩
    · rw [call] at hr
      cases hf : T' f with
      | none => rw [hf] at hr; cases hr
      | some it =>
        rw [hf] at hr
        cases it with
        | prim g => rw [CallA_prim (hT f _ hf)]; exact hr
        | code F' =>
          obtain ⟨F, h1, h2, h3, h4, h5⟩ := hT f _ hf
          simp only [Option.bnd_eq_some_iff] at hr
          obtain ⟨⟨y, ey, hy⟩, h6, h7⟩ := hr
          obtain ⟨e3, h8, h9⟩ := ih _ _ _ _ _ _ _ _ _ h2 h6 (Sub.refl _)
          rw [h4] at h8
          rw [CallA_code h1, h8, Option.bnd_some]
          cases y with
          | exit i => cases h7
          | norm => exact finish_sub h3 h4 h5 h9 h7
          | ret => exact finish_sub h3 h4 h5 h9 h7

def optF (x : An) (F : AFn) : AFn := { F with body := optC x F.body }
/-- A table whose code is the program's, with fewer slots kept. -/
def TableOk2 (P : Program) (gl : Globs) (I : Nat → World → Prop) (T : Table) : Prop := ∀ f it, T f = some it → match it with
  | .code fn => ∃ x an fn0, P.funcs[f]? = some fn0 ∧ (cFn P gl an fn0).map (optF x) = some fn
  | .prim pg => PrimOk P I f pg
theorem tableOk_of {P : Program} {gl : Globs} {I : Nat → World → Prop} {T' : Table} (hT : TableOk2 P gl I T') : ∃ T, TableOk P gl I T ∧ TLe T' T := by
  have hex : ∀ f, ∃ it : Option AItem, (∀ i, it = some i → match i with | .code fn => ∃ an fn0, P.funcs[f]? = some fn0 ∧ cFn P gl an fn0 = some fn | .prim pg => PrimOk P I f pg) ∧
      (∀ it', T' f = some it' → match it' with | .prim g => it = some (.prim g) | .code F' => ∃ F, it = some (.code F) ∧ Le F'.body F.body ∧ F'.results = F.results ∧ F'.keep = F.keep ∧ F'.own = F.own) := by
    intro f
    cases hf : T' f with
    | none => exact ⟨none, fun _ h => (nomatch h), fun _ h => (nomatch h)⟩
    | some it' =>
      have h1 := hT f it' hf
      cases it' with
      | prim g => exact ⟨some (.prim g), fun i hi => by cases hi; exact h1, fun i hi => by cases hi; rfl⟩
      | code F' =>
        obtain ⟨x, an, fn0, h2, h3⟩ := h1
        rw [Option.map_eq_some_iff] at h3
        obtain ⟨F, h4, rfl⟩ := h3
        exact ⟨some (.code F), fun i hi => by cases hi; exact ⟨an, fn0, h2, h4⟩, fun i hi => by cases hi; exact ⟨F, rfl, optC_le x F.body, rfl, rfl, rfl⟩⟩
  exact ⟨fun f => Classical.choose (hex f), fun f it h => (Classical.choose_spec (hex f)).1 it h, fun f it' h => (Classical.choose_spec (hex f)).2 it' h⟩
open Go.RowKit (Below) in
/-- What the machine answers with fewer slots kept, the program answers. -/
theorem sound2 {P : Program} {gl : Globs} {I : Nat → World → Prop} {T : Table} (hT : TableOk2 P gl I T) {f : Nat} {vs : List PV} {r : PV} {h' : Hp} (hs : CallA T 0 f vs [] = some (r, h')) (w : World) (hgl : GlobOk gl w.heap.size w) (hI : I w.heap.size w) (us : Array Value) (hlen : us.size = vs.length)
    (hrel : ∀ (j : Nat) (x : PV), vs[j]? = some x → RV w.heap.size { ι := id, n := 0, hw := fun _ => none } w x (us.getD j Go.undef)) :
    Calls P f us w fun en w' => ∃ u g', en = .returned u ∧ RV w.heap.size g' w' r u ∧ Below w.heap.size w w' := by
  obtain ⟨T0, h1, h2⟩ := tableOk_of hT
  obtain ⟨n, hn⟩ := CallA_iff.1 hs
  exact sound h1 ((le_sound h2 n).2 0 f vs [] _ hn) w hgl hI us hlen hrel
end Go.Am
namespace Go.Am.YtppkffebmoffnaaDoor
set_option maxRecDepth 100000
set_option linter.unusedVariables false
/-- outpost/outpostlaw14.ValueOfs -/
def A3 : An := (.node (.ops [1]) (.node (.node (.ops [15, 1]) (.node (.node (.ops [2]) .leaf) .leaf)) (.node (.node (.ops [18, 1]) (.node (.node (.ops [2]) .leaf) .leaf)) (.node (.ops [3, 1, 4]) (.node (.ops [3, 1, 4, 6]) (.node (.node (.ops [31, 3, 1, 4]) (.node (.node (.ops [2]) .leaf) .leaf)) (.node (.node (.ops [33, 3, 1]) (.node (.node (.ops [2]) .leaf) .leaf)) (.node (.node (.ops [37, 1, 3]) (.node (.node (.ops [2]) .leaf) .leaf)) (.node (.ops [1, 3, 7, 8]) (.node (.ops [1, 3, 9, 10, 7, 8]) (.node (.ops [1, 11, 12, 3, 9, 10, 7, 8]) (.node (.ops [1, 11, 12, 3, 9, 10, 7, 8, 13]) (.node (.node (.ops [98, 1, 11, 12, 3]) (.node (.node (.ops [2]) .leaf) .leaf)) (.node (.ops [2]) .leaf))))))))))))))
def F3 : AFn := ⟨[(2, none)], (.seq (.ops [⟨(some 1), none, .box 6 (.tmp 0)⟩, ⟨(some 2), none, .mov (.const (.bool false))⟩] false [1]) (.seq (.seq (.ops [⟨(some 14), none, .call 8 []⟩, ⟨(some 15), none, .un .not (.tmp 14)⟩] false [15, 1]) (.cond (.tmp 15) (.seq (.ops [⟨(some 2), none, .mov (.const (.bool false))⟩] false [2]) .ret) .skip)) (.seq (.seq (.ops [⟨(some 16), none, .load 6 true (.tmp 1)⟩, ⟨(some 17), none, .call 9 [(.tmp 16)]⟩, ⟨(some 18), none, .un .not (.tmp 17)⟩] false [18, 1]) (.cond (.tmp 18) (.seq (.ops [⟨(some 2), none, .mov (.const (.bool true))⟩] false [2]) .ret) .skip)) (.seq (.ops [⟨(some 20), none, .load 6 true (.tmp 1)⟩, ⟨(some 21), none, .call 10 [(.tmp 20)]⟩, ⟨(some 19), none, .mov (.tmp 21)⟩, ⟨(some 22), none, .extract (.tmp 19) 0⟩, ⟨(some 23), none, .extract (.tmp 19) 1⟩, ⟨(some 3), none, .mov (.tmp 22)⟩, ⟨(some 4), none, .mov (.tmp 23)⟩] false [3, 1, 4]) (.seq (.ops [⟨(some 25), none, .load 6 true (.tmp 1)⟩, ⟨(some 26), none, .call 11 [(.tmp 25)]⟩, ⟨(some 24), none, .mov (.tmp 26)⟩, ⟨(some 27), none, .extract (.tmp 24) 0⟩, ⟨(some 28), none, .extract (.tmp 24) 1⟩, ⟨(some 5), none, .mov (.tmp 27)⟩, ⟨(some 6), none, .mov (.tmp 28)⟩] false [3, 1, 4, 6]) (.seq (.seq (.ops [⟨(some 29), none, .mov (.tmp 4)⟩, ⟨(some 30), none, .mov (.tmp 6)⟩, ⟨(some 31), none, .bin .neq (.tmp 29) (.tmp 30)⟩] false [31, 3, 1, 4]) (.cond (.tmp 31) (.seq (.ops [⟨(some 2), none, .mov (.const (.bool false))⟩] false [2]) .ret) .skip)) (.seq (.seq (.ops [⟨(some 32), none, .mov (.tmp 4)⟩, ⟨(some 33), none, .bin .neq (.tmp 32) (.const (.int .i64 0))⟩] false [33, 3, 1]) (.cond (.tmp 33) (.seq (.ops [⟨(some 34), none, .mov (.tmp 3)⟩, ⟨(some 35), none, .isnil 2 false (.tmp 34)⟩, ⟨(some 2), none, .mov (.tmp 35)⟩] false [2]) .ret) .skip)) (.seq (.seq (.ops [⟨(some 36), none, .mov (.tmp 3)⟩, ⟨(some 37), none, .isnil 2 false (.tmp 36)⟩] false [37, 1, 3]) (.cond (.tmp 37) (.seq (.ops [⟨(some 2), none, .mov (.const (.bool false))⟩] false [2]) .ret) .skip)) (.seq (.ops [⟨(some 39), none, .mov (.tmp 3)⟩, ⟨(some 40), none, .call 12 [(.tmp 39)]⟩, ⟨(some 38), none, .mov (.tmp 40)⟩, ⟨(some 41), none, .extract (.tmp 38) 0⟩, ⟨(some 42), none, .extract (.tmp 38) 1⟩, ⟨(some 7), none, .mov (.tmp 41)⟩, ⟨(some 8), none, .mov (.tmp 42)⟩] false [1, 3, 7, 8]) (.seq (.ops [⟨(some 44), none, .mov (.tmp 3)⟩, ⟨(some 45), none, .call 13 [(.tmp 44)]⟩, ⟨(some 43), none, .mov (.tmp 45)⟩, ⟨(some 46), none, .extract (.tmp 43) 0⟩, ⟨(some 47), none, .extract (.tmp 43) 1⟩, ⟨(some 9), none, .mov (.tmp 46)⟩, ⟨(some 10), none, .mov (.tmp 47)⟩] false [1, 3, 9, 10, 7, 8]) (.seq (.ops [⟨(some 49), none, .mov (.tmp 3)⟩, ⟨(some 50), none, .call 14 [(.tmp 49)]⟩, ⟨(some 48), none, .mov (.tmp 50)⟩, ⟨(some 51), none, .extract (.tmp 48) 0⟩, ⟨(some 52), none, .extract (.tmp 48) 1⟩, ⟨(some 11), none, .mov (.tmp 51)⟩, ⟨(some 12), none, .mov (.tmp 52)⟩] false [1, 11, 12, 3, 9, 10, 7, 8]) (.seq (.ops [⟨(some 53), none, .fieldA 0 (.tmp 1)⟩, ⟨(some 54), none, .load 1 false (.tmp 53)⟩, ⟨(some 55), none, .bin .eql (.tmp 54) (.const (.int .i64 1))⟩, ⟨(some 56), none, .mov (.tmp 55)⟩, ⟨(some 57), (some (56, false)), .fieldA 0 (.tmp 1)⟩, ⟨(some 58), (some (56, false)), .load 1 false (.tmp 57)⟩, ⟨(some 59), (some (56, false)), .bin .eql (.tmp 58) (.const (.int .i64 2))⟩, ⟨(some 60), none, .pick (.tmp 56) (.const (.bool true)) (.tmp 59)⟩, ⟨(some 61), none, .mov (.tmp 60)⟩, ⟨(some 62), (some (61, false)), .fieldA 0 (.tmp 1)⟩, ⟨(some 63), (some (61, false)), .load 1 false (.tmp 62)⟩, ⟨(some 64), (some (61, false)), .bin .eql (.tmp 63) (.const (.int .i64 5))⟩, ⟨(some 65), none, .pick (.tmp 61) (.const (.bool true)) (.tmp 64)⟩, ⟨(some 13), none, .mov (.tmp 65)⟩] false [1, 11, 12, 3, 9, 10, 7, 8, 13]) (.seq (.seq (.ops [⟨(some 66), none, .mov (.tmp 8)⟩, ⟨(some 67), none, .mov (.tmp 13)⟩, ⟨(some 68), none, .binB true (.tmp 66) (.tmp 67)⟩, ⟨(some 69), none, .mov (.tmp 68)⟩, ⟨(some 70), (some (69, false)), .mov (.tmp 8)⟩, ⟨(some 71), (some (69, false)), .mov (.tmp 70)⟩, ⟨(some 72), (some (71, true)), .mov (.tmp 7)⟩, ⟨(some 73), (some (71, true)), .fieldA 1 (.tmp 1)⟩, ⟨(some 74), (some (71, true)), .load 1 false (.tmp 73)⟩, ⟨(some 75), (some (71, true)), .bin .neq (.tmp 72) (.tmp 74)⟩, ⟨(some 76), (some (69, false)), .pick (.tmp 71) (.tmp 75) (.const (.bool false))⟩, ⟨(some 77), none, .pick (.tmp 69) (.const (.bool true)) (.tmp 76)⟩, ⟨(some 78), none, .mov (.tmp 77)⟩, ⟨(some 79), (some (78, false)), .mov (.tmp 8)⟩, ⟨(some 80), (some (78, false)), .un .not (.tmp 79)⟩, ⟨(some 81), (some (78, false)), .mov (.tmp 80)⟩, ⟨(some 82), (some (81, true)), .mov (.tmp 7)⟩, ⟨(some 83), (some (81, true)), .bin .neq (.tmp 82) (.const (.int .i64 0))⟩, ⟨(some 84), (some (78, false)), .pick (.tmp 81) (.tmp 83) (.const (.bool false))⟩, ⟨(some 85), none, .pick (.tmp 78) (.const (.bool true)) (.tmp 84)⟩, ⟨(some 86), none, .mov (.tmp 85)⟩, ⟨(some 87), (some (86, false)), .mov (.tmp 10)⟩, ⟨(some 88), (some (86, false)), .fieldA 0 (.tmp 1)⟩, ⟨(some 89), (some (86, false)), .load 1 false (.tmp 88)⟩, ⟨(some 90), (some (86, false)), .bin .eql (.tmp 89) (.const (.int .i64 3))⟩, ⟨(some 91), (some (86, false)), .binB true (.tmp 87) (.tmp 90)⟩, ⟨(some 92), none, .pick (.tmp 86) (.const (.bool true)) (.tmp 91)⟩, ⟨(some 93), none, .mov (.tmp 92)⟩, ⟨(some 94), (some (93, false)), .mov (.tmp 9)⟩, ⟨(some 95), (some (93, false)), .fieldA 2 (.tmp 1)⟩, ⟨(some 96), (some (93, false)), .load 1 false (.tmp 95)⟩, ⟨(some 97), (some (93, false)), .bin .neq (.tmp 94) (.tmp 96)⟩, ⟨(some 98), none, .pick (.tmp 93) (.const (.bool true)) (.tmp 97)⟩] false [98, 1, 11, 12, 3]) (.cond (.tmp 98) (.seq (.ops [⟨(some 2), none, .mov (.const (.bool false))⟩] false [2]) .ret) .skip)) (.seq (.ops [⟨(some 99), none, .mov (.tmp 3)⟩, ⟨(some 100), none, .callQ 16 [(.tmp 99)]⟩, ⟨(some 101), none, .load 6 true (.tmp 1)⟩, ⟨(some 102), none, .call 15 [(.tmp 100), (.tmp 101)]⟩, ⟨(some 103), none, .mov (.tmp 102)⟩, ⟨(some 104), (some (103, true)), .mov (.tmp 3)⟩, ⟨(some 105), (some (103, true)), .callQ 18 [(.tmp 104)]⟩, ⟨(some 106), (some (103, true)), .load 6 true (.tmp 1)⟩, ⟨(some 107), (some (103, true)), .call 19 [(.tmp 106)]⟩, ⟨(some 108), (some (103, true)), .call 17 [(.tmp 105), (.tmp 107)]⟩, ⟨(some 109), none, .pick (.tmp 103) (.tmp 108) (.const (.bool false))⟩, ⟨(some 110), none, .mov (.tmp 109)⟩, ⟨(some 111), (some (110, true)), .mov (.tmp 12)⟩, ⟨(some 112), (some (110, true)), .fieldA 0 (.tmp 1)⟩, ⟨(some 113), (some (110, true)), .load 1 false (.tmp 112)⟩, ⟨(some 114), (some (110, true)), .bin .neq (.tmp 113) (.const (.int .i64 4))⟩, ⟨(some 115), (some (110, true)), .binB false (.tmp 111) (.tmp 114)⟩, ⟨(some 116), none, .pick (.tmp 110) (.tmp 115) (.const (.bool false))⟩, ⟨(some 117), none, .mov (.tmp 116)⟩, ⟨(some 118), (some (117, true)), .mov (.tmp 11)⟩, ⟨(some 119), (some (117, true)), .fieldA 3 (.tmp 1)⟩, ⟨(some 120), (some (117, true)), .load 1 false (.tmp 119)⟩, ⟨(some 121), (some (117, true)), .callQ 17 [(.tmp 118), (.tmp 120)]⟩, ⟨(some 122), none, .pick (.tmp 117) (.tmp 121) (.const (.bool false))⟩, ⟨(some 2), none, .mov (.tmp 122)⟩] false [2]) .ret)))))))))))))), false, false⟩
/-- outpost/outpostlaw14.ValueWires -/
def A4 : An := (.node (.ops [1, 0]) (.node (.node (.ops [12, 1, 0]) (.node (.node (.ops [4]) .leaf) .leaf)) (.node (.node (.ops [15, 1, 0]) (.node (.node (.ops [4]) .leaf) .leaf)) (.node (.node (.ops [19, 1, 17, 18]) (.node (.loop [19, 1, 17, 18] (.node (.ops [20, 1, 17, 18, 19]) (.node (.node .leaf .leaf) (.node (.node (.node (.ops [1, 17, 18, 19, 6]) (.node (.ops [1, 17, 18, 19, 7, 8, 6]) (.node (.ops [1, 17, 18, 19, 9, 7, 8, 10]) (.node (.ops [60, 1, 17, 18, 19]) (.node (.node (.ops [4]) .leaf) .leaf))))) .leaf) (.ops [19, 1, 17, 18]))))) .leaf)) (.node (.ops [4]) .leaf)))))
def F4 : AFn := ⟨[(4, none)], (.seq (.ops [⟨(some 4), none, .mov (.const (.bool false))⟩] false [1, 0]) (.seq (.seq (.ops [⟨(some 11), none, .call 8 []⟩, ⟨(some 12), none, .un .not (.tmp 11)⟩] false [12, 1, 0]) (.cond (.tmp 12) (.seq (.ops [⟨(some 4), none, .mov (.const (.bool false))⟩] false [4]) .ret) .skip)) (.seq (.seq (.ops [⟨(some 13), none, .mov (.tmp 1)⟩, ⟨(some 14), none, .len false (.tmp 13)⟩, ⟨(some 15), none, .bin .gtr (.tmp 14) (.const (.int .i64 1000))⟩] false [15, 1, 0]) (.cond (.tmp 15) (.seq (.ops [⟨(some 4), none, .mov (.const (.bool true))⟩] false [4]) .ret) .skip)) (.seq (.seq (.ops [⟨(some 16), none, .mov (.tmp 0)⟩, ⟨(some 17), none, .buildSl 1 false [(.int .i64 0)] 7 [(0, (.tmp 16)), (1, (.const (.int .i64 1))), (2, (.const (.int .i64 2))), (3, (.const (.int .i64 3))), (4, (.const (.int .i64 4))), (5, (.const (.int .i64 5))), (6, (.const (.int .i64 6)))]⟩, ⟨(some 18), none, .len false (.tmp 17)⟩, ⟨(some 19), none, .mov (.const (.int .i64 0))⟩] false [19, 1, 17, 18]) (.block 0 (.seq (.ops [] false [19, 1, 17, 18]) (.loop (.seq (.seq (.ops [⟨(some 20), none, .bin .lss (.tmp 19) (.tmp 18)⟩] false [20, 1, 17, 18, 19]) (.seq (.cond (.tmp 20) .skip (.exit 0)) (.seq (.block 1 (.seq (.ops [⟨(some 21), none, .idxA 1 (.tmp 17) (.tmp 19)⟩, ⟨(some 22), none, .load 1 false (.tmp 21)⟩, ⟨(some 6), none, .mov (.tmp 22)⟩] false [1, 17, 18, 19, 6]) (.seq (.ops [⟨(some 24), none, .mov (.tmp 6)⟩, ⟨(some 25), none, .mov (.tmp 1)⟩, ⟨(some 26), none, .call 20 [(.tmp 24), (.tmp 25)]⟩, ⟨(some 23), none, .mov (.tmp 26)⟩, ⟨(some 27), none, .extract (.tmp 23) 0⟩, ⟨(some 28), none, .extract (.tmp 23) 1⟩, ⟨(some 7), none, .mov (.tmp 27)⟩, ⟨(some 8), none, .mov (.tmp 28)⟩] false [1, 17, 18, 19, 7, 8, 6]) (.seq (.ops [⟨(some 30), none, .mov (.tmp 6)⟩, ⟨(some 31), none, .mov (.tmp 1)⟩, ⟨(some 32), none, .call 21 [(.tmp 30), (.tmp 31)]⟩, ⟨(some 29), none, .mov (.tmp 32)⟩, ⟨(some 33), none, .extract (.tmp 29) 0⟩, ⟨(some 34), none, .extract (.tmp 29) 1⟩, ⟨(some 9), none, .alloc [(.int .i64 0), (.int .i64 0), (.str []), .nils, (.int .i64 0), (.int .i64 0)]⟩, ⟨none, none, .store 6 (.tmp 9) (.tmp 33)⟩, ⟨(some 10), none, .mov (.tmp 34)⟩] false [1, 17, 18, 19, 9, 7, 8, 10]) (.seq (.ops [⟨(some 35), none, .mov (.tmp 8)⟩, ⟨(some 36), none, .mov (.tmp 10)⟩, ⟨(some 37), none, .bin .neq (.tmp 35) (.tmp 36)⟩, ⟨(some 38), none, .mov (.tmp 37)⟩, ⟨(some 39), (some (38, false)), .mov (.tmp 8)⟩, ⟨(some 40), (some (38, false)), .bin .neq (.tmp 39) (.const (.int .i64 0))⟩, ⟨(some 41), (some (38, false)), .mov (.tmp 40)⟩, ⟨(some 42), (some (41, true)), .mov (.tmp 7)⟩, ⟨(some 43), (some (41, true)), .isnil 2 true (.tmp 42)⟩, ⟨(some 44), (some (38, false)), .pick (.tmp 41) (.tmp 43) (.const (.bool false))⟩, ⟨(some 45), none, .pick (.tmp 38) (.const (.bool true)) (.tmp 44)⟩, ⟨(some 46), none, .mov (.tmp 45)⟩, ⟨(some 47), (some (46, false)), .mov (.tmp 8)⟩, ⟨(some 48), (some (46, false)), .bin .eql (.tmp 47) (.const (.int .i64 0))⟩, ⟨(some 49), (some (46, false)), .mov (.tmp 48)⟩, ⟨(some 50), (some (49, true)), .mov (.tmp 7)⟩, ⟨(some 51), (some (49, true)), .isnil 2 false (.tmp 50)⟩, ⟨(some 52), (some (49, true)), .mov (.tmp 51)⟩, ⟨(some 53), (some (52, false)), .mov (.tmp 7)⟩, ⟨(some 54), (some (52, false)), .callQ 16 [(.tmp 53)]⟩, ⟨(some 55), (some (52, false)), .load 6 true (.tmp 9)⟩, ⟨(some 56), (some (52, false)), .call 15 [(.tmp 54), (.tmp 55)]⟩, ⟨(some 57), (some (52, false)), .un .not (.tmp 56)⟩, ⟨(some 58), (some (49, true)), .pick (.tmp 52) (.const (.bool true)) (.tmp 57)⟩, ⟨(some 59), (some (46, false)), .pick (.tmp 49) (.tmp 58) (.const (.bool false))⟩, ⟨(some 60), none, .pick (.tmp 46) (.const (.bool true)) (.tmp 59)⟩] false [60, 1, 17, 18, 19]) (.cond (.tmp 60) (.seq (.ops [⟨(some 4), none, .mov (.const (.bool false))⟩] false [4]) .ret) .skip)))))) (.ops [⟨(some 61), none, .bin .add (.tmp 19) (.const (.int .i64 1))⟩, ⟨(some 19), none, .mov (.tmp 61)⟩] false [19, 1, 17, 18])))) (.ops [] false [19, 1, 17, 18])))))) (.seq (.ops [⟨(some 4), none, .mov (.const (.bool true))⟩] false [4]) .ret))))), false, false⟩
/-- outpost/outpostlaw14.ValueFits -/
def A5 : An := (.node (.ops [5, 4, 3]) (.node (.node (.ops [12, 5, 4, 3]) (.node (.node (.ops [6]) .leaf) .leaf)) (.node (.node (.ops [20, 5, 4, 3]) (.node (.node (.ops [6]) .leaf) .leaf)) (.node (.ops [8, 7, 5, 4, 3]) (.node (.ops [10, 8, 7, 5, 4, 9, 3]) (.node (.node (.ops [44, 10, 8, 7, 5, 4, 9, 3]) (.node (.node (.ops [6]) .leaf) .leaf)) (.node (.ops [6]) .leaf)))))))
def F5 : AFn := ⟨[(6, none)], (.seq (.ops [⟨(some 3), none, .box 8 (.tmp 0)⟩, ⟨(some 4), none, .box 6 (.tmp 1)⟩, ⟨(some 5), none, .box 6 (.tmp 2)⟩, ⟨(some 6), none, .mov (.const (.bool false))⟩] false [5, 4, 3]) (.seq (.seq (.ops [⟨(some 11), none, .call 8 []⟩, ⟨(some 12), none, .un .not (.tmp 11)⟩] false [12, 5, 4, 3]) (.cond (.tmp 12) (.seq (.ops [⟨(some 6), none, .mov (.const (.bool false))⟩] false [6]) .ret) .skip)) (.seq (.seq (.ops [⟨(some 13), none, .load 6 true (.tmp 4)⟩, ⟨(some 14), none, .call 9 [(.tmp 13)]⟩, ⟨(some 15), none, .un .not (.tmp 14)⟩, ⟨(some 16), none, .mov (.tmp 15)⟩, ⟨(some 17), (some (16, false)), .load 6 true (.tmp 5)⟩, ⟨(some 18), (some (16, false)), .call 9 [(.tmp 17)]⟩, ⟨(some 19), (some (16, false)), .un .not (.tmp 18)⟩, ⟨(some 20), none, .pick (.tmp 16) (.const (.bool true)) (.tmp 19)⟩] false [20, 5, 4, 3]) (.cond (.tmp 20) (.seq (.ops [⟨(some 6), none, .mov (.const (.bool true))⟩] false [6]) .ret) .skip)) (.seq (.ops [⟨(some 22), none, .load 6 true (.tmp 4)⟩, ⟨(some 23), none, .call 10 [(.tmp 22)]⟩, ⟨(some 21), none, .mov (.tmp 23)⟩, ⟨(some 24), none, .extract (.tmp 21) 0⟩, ⟨(some 25), none, .extract (.tmp 21) 1⟩, ⟨(some 7), none, .mov (.tmp 24)⟩, ⟨(some 8), none, .mov (.tmp 25)⟩] false [8, 7, 5, 4, 3]) (.seq (.ops [⟨(some 27), none, .load 6 true (.tmp 5)⟩, ⟨(some 28), none, .call 10 [(.tmp 27)]⟩, ⟨(some 26), none, .mov (.tmp 28)⟩, ⟨(some 29), none, .extract (.tmp 26) 0⟩, ⟨(some 30), none, .extract (.tmp 26) 1⟩, ⟨(some 9), none, .mov (.tmp 29)⟩, ⟨(some 10), none, .mov (.tmp 30)⟩] false [10, 8, 7, 5, 4, 9, 3]) (.seq (.seq (.ops [⟨(some 31), none, .mov (.tmp 8)⟩, ⟨(some 32), none, .bin .neq (.tmp 31) (.const (.int .i64 0))⟩, ⟨(some 33), none, .mov (.tmp 32)⟩, ⟨(some 34), (some (33, false)), .mov (.tmp 10)⟩, ⟨(some 35), (some (33, false)), .bin .neq (.tmp 34) (.const (.int .i64 0))⟩, ⟨(some 36), none, .pick (.tmp 33) (.const (.bool true)) (.tmp 35)⟩, ⟨(some 37), none, .mov (.tmp 36)⟩, ⟨(some 38), (some (37, false)), .mov (.tmp 7)⟩, ⟨(some 39), (some (37, false)), .isnil 2 false (.tmp 38)⟩, ⟨(some 40), none, .pick (.tmp 37) (.const (.bool true)) (.tmp 39)⟩, ⟨(some 41), none, .mov (.tmp 40)⟩, ⟨(some 42), (some (41, false)), .mov (.tmp 9)⟩, ⟨(some 43), (some (41, false)), .isnil 2 false (.tmp 42)⟩, ⟨(some 44), none, .pick (.tmp 41) (.const (.bool true)) (.tmp 43)⟩] false [44, 10, 8, 7, 5, 4, 9, 3]) (.cond (.tmp 44) (.seq (.ops [⟨(some 45), none, .mov (.tmp 8)⟩, ⟨(some 46), none, .bin .neq (.tmp 45) (.const (.int .i64 0))⟩, ⟨(some 47), none, .mov (.tmp 46)⟩, ⟨(some 48), (some (47, false)), .mov (.tmp 10)⟩, ⟨(some 49), (some (47, false)), .bin .neq (.tmp 48) (.const (.int .i64 0))⟩, ⟨(some 50), none, .pick (.tmp 47) (.const (.bool true)) (.tmp 49)⟩, ⟨(some 6), none, .mov (.tmp 50)⟩] false [6]) .ret) .skip)) (.seq (.ops [⟨(some 51), none, .load 8 true (.tmp 3)⟩, ⟨(some 52), none, .mov (.tmp 7)⟩, ⟨(some 53), none, .callQ 22 [(.tmp 51), (.tmp 52)]⟩, ⟨(some 54), none, .load 8 true (.tmp 3)⟩, ⟨(some 55), none, .load 6 true (.tmp 4)⟩, ⟨(some 56), none, .callQ 23 [(.tmp 54), (.tmp 55)]⟩, ⟨(some 57), none, .bin .eql (.tmp 53) (.tmp 56)⟩, ⟨(some 58), none, .mov (.tmp 57)⟩, ⟨(some 59), (some (58, true)), .load 8 true (.tmp 3)⟩, ⟨(some 60), (some (58, true)), .callQ 22 [(.tmp 59), (.const .nilif)]⟩, ⟨(some 61), (some (58, true)), .bin .eql (.tmp 60) (.const (.int .i64 70))⟩, ⟨(some 62), none, .pick (.tmp 58) (.tmp 61) (.const (.bool false))⟩, ⟨(some 63), none, .mov (.tmp 62)⟩, ⟨(some 64), (some (63, true)), .mov (.tmp 7)⟩, ⟨(some 65), (some (63, true)), .mov (.tmp 9)⟩, ⟨(some 66), (some (63, true)), .callQ 24 [(.tmp 64), (.tmp 65)]⟩, ⟨(some 67), (some (63, true)), .load 6 true (.tmp 4)⟩, ⟨(some 68), (some (63, true)), .load 6 true (.tmp 5)⟩, ⟨(some 69), (some (63, true)), .callQ 15 [(.tmp 67), (.tmp 68)]⟩, ⟨(some 70), (some (63, true)), .binB false (.tmp 66) (.tmp 69)⟩, ⟨(some 71), none, .pick (.tmp 63) (.tmp 70) (.const (.bool false))⟩, ⟨(some 72), none, .mov (.tmp 71)⟩, ⟨(some 73), (some (72, true)), .mov (.tmp 7)⟩, ⟨(some 74), (some (72, true)), .callQ 24 [(.const .nilif), (.tmp 73)]⟩, ⟨(some 75), (some (72, true)), .un .not (.tmp 74)⟩, ⟨(some 76), none, .pick (.tmp 72) (.tmp 75) (.const (.bool false))⟩, ⟨(some 77), none, .mov (.tmp 76)⟩, ⟨(some 78), (some (77, true)), .callQ 24 [(.const .nilif), (.const .nilif)]⟩, ⟨(some 79), none, .pick (.tmp 77) (.tmp 78) (.const (.bool false))⟩, ⟨(some 80), none, .mov (.tmp 79)⟩, ⟨(some 81), (some (80, true)), .callQ 16 [(.const .nilif)]⟩, ⟨(some 82), (some (80, true)), .field 0 1 false (.tmp 81)⟩, ⟨(some 83), (some (80, true)), .bin .eql (.tmp 82) (.const (.int .i64 0))⟩, ⟨(some 84), none, .pick (.tmp 80) (.tmp 83) (.const (.bool false))⟩, ⟨(some 85), none, .mov (.tmp 84)⟩, ⟨(some 86), (some (85, true)), .callQ 18 [(.const .nilif)]⟩, ⟨(some 87), (some (85, true)), .len false (.tmp 86)⟩, ⟨(some 88), (some (85, true)), .bin .eql (.tmp 87) (.const (.int .i64 0))⟩, ⟨(some 89), none, .pick (.tmp 85) (.tmp 88) (.const (.bool false))⟩, ⟨(some 6), none, .mov (.tmp 89)⟩] false [6]) .ret))))))), false, false⟩
/-- outpost/outpostlaw14.ValueNumbers -/
def A7 : An := (.node (.ops [0]) (.node (.node (.ops [13, 0]) (.node (.node (.ops [2]) .leaf) .leaf)) (.node (.ops [0, 3, 4]) (.node (.node (.ops [25, 0, 3]) (.node (.node (.ops [2]) .leaf) .leaf)) (.node (.ops [5, 0]) (.node (.ops [5, 0, 6, 7]) (.node (.node (.ops [38, 5, 0, 6]) (.node (.node (.ops [2]) .leaf) .leaf)) (.node (.ops [5, 0, 8, 9]) (.node (.ops [5, 0, 8, 9, 10]) (.node (.ops [11, 5, 0, 8, 9]) (.node (.ops [2]) .leaf)))))))))))
def F7 : AFn := ⟨[(2, none)], (.seq (.ops [⟨(some 2), none, .mov (.const (.bool false))⟩] false [0]) (.seq (.seq (.ops [⟨(some 12), none, .call 8 []⟩, ⟨(some 13), none, .un .not (.tmp 12)⟩] false [13, 0]) (.cond (.tmp 13) (.seq (.ops [⟨(some 2), none, .mov (.const (.bool false))⟩] false [2]) .ret) .skip)) (.seq (.ops [⟨(some 15), none, .mov (.tmp 0)⟩, ⟨(some 16), none, .build [(.int .i64 0), (.int .i64 0), (.str []), .nils, (.int .i64 0), (.int .i64 0)] [(0, 1, (.const (.int .i64 1))), (1, 1, (.tmp 15))]⟩, ⟨(some 17), none, .call 10 [(.tmp 16)]⟩, ⟨(some 14), none, .mov (.tmp 17)⟩, ⟨(some 18), none, .extract (.tmp 14) 0⟩, ⟨(some 19), none, .extract (.tmp 14) 1⟩, ⟨(some 3), none, .mov (.tmp 18)⟩, ⟨(some 4), none, .mov (.tmp 19)⟩] false [0, 3, 4]) (.seq (.seq (.ops [⟨(some 20), none, .mov (.tmp 4)⟩, ⟨(some 21), none, .bin .neq (.tmp 20) (.const (.int .i64 0))⟩, ⟨(some 22), none, .mov (.tmp 21)⟩, ⟨(some 23), (some (22, false)), .mov (.tmp 3)⟩, ⟨(some 24), (some (22, false)), .isnil 2 false (.tmp 23)⟩, ⟨(some 25), none, .pick (.tmp 22) (.const (.bool true)) (.tmp 24)⟩] false [25, 0, 3]) (.cond (.tmp 25) (.seq (.ops [⟨(some 2), none, .mov (.const (.bool false))⟩] false [2]) .ret) .skip)) (.seq (.ops [⟨(some 26), none, .mov (.tmp 3)⟩, ⟨(some 27), none, .call 18 [(.tmp 26)]⟩, ⟨(some 5), none, .mov (.tmp 27)⟩] false [5, 0]) (.seq (.ops [⟨(some 29), none, .mov (.tmp 5)⟩, ⟨(some 30), none, .call 20 [(.const (.int .i64 1)), (.tmp 29)]⟩, ⟨(some 28), none, .mov (.tmp 30)⟩, ⟨(some 31), none, .extract (.tmp 28) 0⟩, ⟨(some 32), none, .extract (.tmp 28) 1⟩, ⟨(some 6), none, .mov (.tmp 31)⟩, ⟨(some 7), none, .mov (.tmp 32)⟩] false [5, 0, 6, 7]) (.seq (.seq (.ops [⟨(some 33), none, .mov (.tmp 7)⟩, ⟨(some 34), none, .bin .neq (.tmp 33) (.const (.int .i64 0))⟩, ⟨(some 35), none, .mov (.tmp 34)⟩, ⟨(some 36), (some (35, false)), .mov (.tmp 6)⟩, ⟨(some 37), (some (35, false)), .isnil 2 false (.tmp 36)⟩, ⟨(some 38), none, .pick (.tmp 35) (.const (.bool true)) (.tmp 37)⟩] false [38, 5, 0, 6]) (.cond (.tmp 38) (.seq (.ops [⟨(some 2), none, .mov (.const (.bool false))⟩] false [2]) .ret) .skip)) (.seq (.ops [⟨(some 40), none, .mov (.tmp 6)⟩, ⟨(some 41), none, .call 12 [(.tmp 40)]⟩, ⟨(some 39), none, .mov (.tmp 41)⟩, ⟨(some 42), none, .extract (.tmp 39) 0⟩, ⟨(some 43), none, .extract (.tmp 39) 1⟩, ⟨(some 8), none, .mov (.tmp 42)⟩, ⟨(some 9), none, .mov (.tmp 43)⟩] false [5, 0, 8, 9]) (.seq (.ops [⟨(some 44), none, .mov (.tmp 5)⟩, ⟨(some 45), none, .len false (.tmp 44)⟩, ⟨(some 46), none, .bin .mul (.const (.int .i64 8)) (.tmp 45)⟩, ⟨(some 47), none, .bin .quo (.tmp 46) (.const (.int .i64 2))⟩, ⟨(some 10), none, .mov (.tmp 47)⟩] false [5, 0, 8, 9, 10]) (.seq (.ops [⟨(some 48), none, .mov (.tmp 10)⟩, ⟨(some 49), none, .bin .geq (.tmp 48) (.const (.int .i64 8))⟩, ⟨(some 50), none, .mov (.tmp 49)⟩, ⟨(some 51), (some (50, true)), .mov (.tmp 0)⟩, ⟨(some 52), (some (50, true)), .mov (.tmp 10)⟩, ⟨(some 53), (some (50, true)), .bin .sub (.tmp 52) (.const (.int .i64 1))⟩, ⟨(some 54), (some (50, true)), .bin .shl (.const (.int .i64 (-1))) (.tmp 53)⟩, ⟨(some 55), (some (50, true)), .bin .geq (.tmp 51) (.tmp 54)⟩, ⟨(some 56), none, .pick (.tmp 50) (.tmp 55) (.const (.bool false))⟩, ⟨(some 57), none, .mov (.tmp 56)⟩, ⟨(some 58), (some (57, true)), .mov (.tmp 0)⟩, ⟨(some 59), (some (57, true)), .mov (.tmp 10)⟩, ⟨(some 60), (some (57, true)), .bin .sub (.tmp 59) (.const (.int .i64 1))⟩, ⟨(some 61), (some (57, true)), .bin .shl (.const (.int .i64 1)) (.tmp 60)⟩, ⟨(some 62), (some (57, true)), .bin .lss (.tmp 58) (.tmp 61)⟩, ⟨(some 63), none, .pick (.tmp 57) (.tmp 62) (.const (.bool false))⟩, ⟨(some 11), none, .mov (.tmp 63)⟩] false [11, 5, 0, 8, 9]) (.seq (.ops [⟨(some 64), none, .mov (.tmp 9)⟩, ⟨(some 65), none, .mov (.tmp 64)⟩, ⟨(some 66), (some (65, true)), .mov (.tmp 8)⟩, ⟨(some 67), (some (65, true)), .mov (.tmp 0)⟩, ⟨(some 68), (some (65, true)), .bin .eql (.tmp 66) (.tmp 67)⟩, ⟨(some 69), none, .pick (.tmp 65) (.tmp 68) (.const (.bool false))⟩, ⟨(some 70), none, .mov (.tmp 69)⟩, ⟨(some 71), (some (70, true)), .mov (.tmp 5)⟩, ⟨(some 72), (some (70, true)), .len false (.tmp 71)⟩, ⟨(some 73), (some (70, true)), .bin .eql (.tmp 72) (.const (.int .i64 1))⟩, ⟨(some 74), (some (70, true)), .mov (.tmp 73)⟩, ⟨(some 75), (some (74, false)), .mov (.tmp 5)⟩, ⟨(some 76), (some (74, false)), .len false (.tmp 75)⟩, ⟨(some 77), (some (74, false)), .bin .eql (.tmp 76) (.const (.int .i64 2))⟩, ⟨(some 78), (some (70, true)), .pick (.tmp 74) (.const (.bool true)) (.tmp 77)⟩, ⟨(some 79), (some (70, true)), .mov (.tmp 78)⟩, ⟨(some 80), (some (79, false)), .mov (.tmp 5)⟩, ⟨(some 81), (some (79, false)), .len false (.tmp 80)⟩, ⟨(some 82), (some (79, false)), .bin .eql (.tmp 81) (.const (.int .i64 4))⟩, ⟨(some 83), (some (70, true)), .pick (.tmp 79) (.const (.bool true)) (.tmp 82)⟩, ⟨(some 84), (some (70, true)), .mov (.tmp 83)⟩, ⟨(some 85), (some (84, false)), .mov (.tmp 5)⟩, ⟨(some 86), (some (84, false)), .len false (.tmp 85)⟩, ⟨(some 87), (some (84, false)), .bin .eql (.tmp 86) (.const (.int .i64 8))⟩, ⟨(some 88), (some (70, true)), .pick (.tmp 84) (.const (.bool true)) (.tmp 87)⟩, ⟨(some 89), none, .pick (.tmp 70) (.tmp 88) (.const (.bool false))⟩, ⟨(some 90), none, .mov (.tmp 89)⟩, ⟨(some 91), (some (90, true)), .mov (.tmp 11)⟩, ⟨(some 92), (some (90, true)), .un .not (.tmp 91)⟩, ⟨(some 93), none, .pick (.tmp 90) (.tmp 92) (.const (.bool false))⟩, ⟨(some 2), none, .mov (.tmp 93)⟩] false [2]) .ret))))))))))), false, false⟩
/-- outpost/outpostlaw14.alive -/
def A8 : An := (.node (.ops []) (.node (.ops [1, 2]) (.node (.ops [1, 3, 4, 2]) (.node (.ops [1, 3, 6, 4, 2]) (.node (.node (.ops [49, 1, 3]) (.node (.node (.ops [0]) .leaf) .leaf)) (.node (.ops [1, 3, 8, 7]) (.node (.ops [1, 3, 10, 9, 8, 7]) (.node (.ops [1, 3, 12, 10, 9, 8, 7]) (.node (.ops [1, 3, 14, 12, 10, 9, 8, 7]) (.node (.ops [1, 3, 15, 14, 12, 10, 9, 8, 7, 16]) (.node (.node (.ops [80, 1, 3, 15, 14, 12, 10, 9, 8, 7]) (.node (.node (.ops [0]) .leaf) .leaf)) (.node (.ops [0]) .leaf))))))))))))
def F8 : AFn := ⟨[(0, none)], (.seq (.ops [⟨(some 0), none, .mov (.const (.bool false))⟩] false []) (.seq (.ops [⟨(some 18), none, .build [(.int .i64 0), (.int .i64 0), (.str []), .nils, (.int .i64 0), (.int .i64 0)] [(0, 1, (.const (.int .i64 1))), (1, 1, (.const (.int .i64 128)))]⟩, ⟨(some 19), none, .call 10 [(.tmp 18)]⟩, ⟨(some 17), none, .mov (.tmp 19)⟩, ⟨(some 20), none, .extract (.tmp 17) 0⟩, ⟨(some 21), none, .extract (.tmp 17) 1⟩, ⟨(some 1), none, .mov (.tmp 20)⟩, ⟨(some 2), none, .mov (.tmp 21)⟩] false [1, 2]) (.seq (.ops [⟨(some 23), none, .build [(.int .i64 0), (.int .i64 0), (.str []), .nils, (.int .i64 0), (.int .i64 0)] [(0, 1, (.const (.int .i64 3))), (2, 1, (.const (.str [120])))]⟩, ⟨(some 24), none, .call 10 [(.tmp 23)]⟩, ⟨(some 22), none, .mov (.tmp 24)⟩, ⟨(some 25), none, .extract (.tmp 22) 0⟩, ⟨(some 26), none, .extract (.tmp 22) 1⟩, ⟨(some 3), none, .mov (.tmp 25)⟩, ⟨(some 4), none, .mov (.tmp 26)⟩] false [1, 3, 4, 2]) (.seq (.ops [⟨(some 28), none, .build [(.int .i64 0), (.int .i64 0), (.str []), .nils, (.int .i64 0), (.int .i64 0)] [(0, 1, (.const (.int .i64 9)))]⟩, ⟨(some 29), none, .call 10 [(.tmp 28)]⟩, ⟨(some 27), none, .mov (.tmp 29)⟩, ⟨(some 30), none, .extract (.tmp 27) 0⟩, ⟨(some 31), none, .extract (.tmp 27) 1⟩, ⟨(some 5), none, .mov (.tmp 30)⟩, ⟨(some 6), none, .mov (.tmp 31)⟩] false [1, 3, 6, 4, 2]) (.seq (.seq (.ops [⟨(some 32), none, .mov (.tmp 2)⟩, ⟨(some 33), none, .bin .neq (.tmp 32) (.const (.int .i64 0))⟩, ⟨(some 34), none, .mov (.tmp 33)⟩, ⟨(some 35), (some (34, false)), .mov (.tmp 4)⟩, ⟨(some 36), (some (34, false)), .bin .neq (.tmp 35) (.const (.int .i64 0))⟩, ⟨(some 37), none, .pick (.tmp 34) (.const (.bool true)) (.tmp 36)⟩, ⟨(some 38), none, .mov (.tmp 37)⟩, ⟨(some 39), (some (38, false)), .mov (.tmp 6)⟩, ⟨(some 40), (some (38, false)), .bin .neq (.tmp 39) (.const (.int .i64 70))⟩, ⟨(some 41), none, .pick (.tmp 38) (.const (.bool true)) (.tmp 40)⟩, ⟨(some 42), none, .mov (.tmp 41)⟩, ⟨(some 43), (some (42, false)), .mov (.tmp 1)⟩, ⟨(some 44), (some (42, false)), .isnil 2 false (.tmp 43)⟩, ⟨(some 45), none, .pick (.tmp 42) (.const (.bool true)) (.tmp 44)⟩, ⟨(some 46), none, .mov (.tmp 45)⟩, ⟨(some 47), (some (46, false)), .mov (.tmp 3)⟩, ⟨(some 48), (some (46, false)), .isnil 2 false (.tmp 47)⟩, ⟨(some 49), none, .pick (.tmp 46) (.const (.bool true)) (.tmp 48)⟩] false [49, 1, 3]) (.cond (.tmp 49) (.seq (.ops [⟨(some 0), none, .mov (.const (.bool false))⟩] false [0]) .ret) .skip)) (.seq (.ops [⟨(some 51), none, .mov (.tmp 1)⟩, ⟨(some 52), none, .call 12 [(.tmp 51)]⟩, ⟨(some 50), none, .mov (.tmp 52)⟩, ⟨(some 53), none, .extract (.tmp 50) 0⟩, ⟨(some 54), none, .extract (.tmp 50) 1⟩, ⟨(some 7), none, .mov (.tmp 53)⟩, ⟨(some 8), none, .mov (.tmp 54)⟩] false [1, 3, 8, 7]) (.seq (.ops [⟨(some 56), none, .mov (.tmp 3)⟩, ⟨(some 57), none, .call 13 [(.tmp 56)]⟩, ⟨(some 55), none, .mov (.tmp 57)⟩, ⟨(some 58), none, .extract (.tmp 55) 0⟩, ⟨(some 59), none, .extract (.tmp 55) 1⟩, ⟨(some 9), none, .mov (.tmp 58)⟩, ⟨(some 10), none, .mov (.tmp 59)⟩] false [1, 3, 10, 9, 8, 7]) (.seq (.ops [⟨(some 61), none, .mov (.tmp 3)⟩, ⟨(some 62), none, .call 12 [(.tmp 61)]⟩, ⟨(some 60), none, .mov (.tmp 62)⟩, ⟨(some 63), none, .extract (.tmp 60) 0⟩, ⟨(some 64), none, .extract (.tmp 60) 1⟩, ⟨(some 11), none, .mov (.tmp 63)⟩, ⟨(some 12), none, .mov (.tmp 64)⟩] false [1, 3, 12, 10, 9, 8, 7]) (.seq (.ops [⟨(some 66), none, .mov (.tmp 3)⟩, ⟨(some 67), none, .call 14 [(.tmp 66)]⟩, ⟨(some 65), none, .mov (.tmp 67)⟩, ⟨(some 68), none, .extract (.tmp 65) 0⟩, ⟨(some 69), none, .extract (.tmp 65) 1⟩, ⟨(some 13), none, .mov (.tmp 68)⟩, ⟨(some 14), none, .mov (.tmp 69)⟩] false [1, 3, 14, 12, 10, 9, 8, 7]) (.seq (.ops [⟨(some 71), none, .buildSl 1 false [(.int .u8 0)] 2 [(0, (.const (.int .u8 255))), (1, (.const (.int .u8 127)))]⟩, ⟨(some 72), none, .call 20 [(.const (.int .i64 1)), (.tmp 71)]⟩, ⟨(some 70), none, .mov (.tmp 72)⟩, ⟨(some 73), none, .extract (.tmp 70) 0⟩, ⟨(some 74), none, .extract (.tmp 70) 1⟩, ⟨(some 15), none, .mov (.tmp 73)⟩, ⟨(some 16), none, .mov (.tmp 74)⟩] false [1, 3, 15, 14, 12, 10, 9, 8, 7, 16]) (.seq (.seq (.ops [⟨(some 75), none, .mov (.tmp 16)⟩, ⟨(some 76), none, .bin .neq (.tmp 75) (.const (.int .i64 0))⟩, ⟨(some 77), none, .mov (.tmp 76)⟩, ⟨(some 78), (some (77, false)), .mov (.tmp 15)⟩, ⟨(some 79), (some (77, false)), .isnil 2 false (.tmp 78)⟩, ⟨(some 80), none, .pick (.tmp 77) (.const (.bool true)) (.tmp 79)⟩] false [80, 1, 3, 15, 14, 12, 10, 9, 8, 7]) (.cond (.tmp 80) (.seq (.ops [⟨(some 0), none, .mov (.const (.bool false))⟩] false [0]) .ret) .skip)) (.seq (.ops [⟨(some 81), none, .mov (.tmp 7)⟩, ⟨(some 82), none, .bin .eql (.tmp 81) (.const (.int .i64 128))⟩, ⟨(some 83), none, .mov (.tmp 82)⟩, ⟨(some 84), (some (83, true)), .mov (.tmp 8)⟩, ⟨(some 85), none, .pick (.tmp 83) (.tmp 84) (.const (.bool false))⟩, ⟨(some 86), none, .mov (.tmp 85)⟩, ⟨(some 87), (some (86, true)), .mov (.tmp 9)⟩, ⟨(some 88), (some (86, true)), .bin .eql (.tmp 87) (.const (.str [120]))⟩, ⟨(some 89), none, .pick (.tmp 86) (.tmp 88) (.const (.bool false))⟩, ⟨(some 90), none, .mov (.tmp 89)⟩, ⟨(some 91), (some (90, true)), .mov (.tmp 10)⟩, ⟨(some 92), none, .pick (.tmp 90) (.tmp 91) (.const (.bool false))⟩, ⟨(some 93), none, .mov (.tmp 92)⟩, ⟨(some 94), (some (93, true)), .mov (.tmp 12)⟩, ⟨(some 95), (some (93, true)), .un .not (.tmp 94)⟩, ⟨(some 96), none, .pick (.tmp 93) (.tmp 95) (.const (.bool false))⟩, ⟨(some 97), none, .mov (.tmp 96)⟩, ⟨(some 98), (some (97, true)), .mov (.tmp 14)⟩, ⟨(some 99), none, .pick (.tmp 97) (.tmp 98) (.const (.bool false))⟩, ⟨(some 100), none, .mov (.tmp 99)⟩, ⟨(some 101), (some (100, true)), .mov (.tmp 1)⟩, ⟨(some 102), (some (100, true)), .call 18 [(.tmp 101)]⟩, ⟨(some 103), (some (100, true)), .bytesStr (.tmp 102)⟩, ⟨(some 104), (some (100, true)), .bin .eql (.tmp 103) (.const (.str [0, 128]))⟩, ⟨(some 105), none, .pick (.tmp 100) (.tmp 104) (.const (.bool false))⟩, ⟨(some 106), none, .mov (.tmp 105)⟩, ⟨(some 107), (some (106, true)), .mov (.tmp 15)⟩, ⟨(some 108), (some (106, true)), .call 16 [(.tmp 107)]⟩, ⟨(some 109), (some (106, true)), .field 1 1 false (.tmp 108)⟩, ⟨(some 110), (some (106, true)), .bin .eql (.tmp 109) (.const (.int .i64 (-129)))⟩, ⟨(some 111), none, .pick (.tmp 106) (.tmp 110) (.const (.bool false))⟩, ⟨(some 112), none, .mov (.tmp 111)⟩, ⟨(some 113), (some (112, true)), .mov (.tmp 1)⟩, ⟨(some 114), (some (112, true)), .mov (.tmp 1)⟩, ⟨(some 115), (some (112, true)), .call 24 [(.tmp 113), (.tmp 114)]⟩, ⟨(some 116), none, .pick (.tmp 112) (.tmp 115) (.const (.bool false))⟩, ⟨(some 117), none, .mov (.tmp 116)⟩, ⟨(some 118), (some (117, true)), .mov (.tmp 1)⟩, ⟨(some 119), (some (117, true)), .mov (.tmp 3)⟩, ⟨(some 120), (some (117, true)), .call 24 [(.tmp 118), (.tmp 119)]⟩, ⟨(some 121), (some (117, true)), .un .not (.tmp 120)⟩, ⟨(some 122), none, .pick (.tmp 117) (.tmp 121) (.const (.bool false))⟩, ⟨(some 123), none, .mov (.tmp 122)⟩, ⟨(some 124), (some (123, true)), .mov (.tmp 1)⟩, ⟨(some 125), (some (123, true)), .call 24 [(.const .nilif), (.tmp 124)]⟩, ⟨(some 126), (some (123, true)), .un .not (.tmp 125)⟩, ⟨(some 127), none, .pick (.tmp 123) (.tmp 126) (.const (.bool false))⟩, ⟨(some 128), none, .mov (.tmp 127)⟩, ⟨(some 129), (some (128, true)), .build [(.int .i64 0), (.int .i64 0), (.bool false), (.bool false), (.bool false), (.int .i64 0), (.int .i64 0), (.bool false)] [(1, 1, (.const (.int .i64 1))), (6, 1, (.const (.int .i64 200)))]⟩, ⟨(some 130), (some (128, true)), .mov (.tmp 1)⟩, ⟨(some 131), (some (128, true)), .call 22 [(.tmp 129), (.tmp 130)]⟩, ⟨(some 132), (some (128, true)), .bin .eql (.tmp 131) (.const (.int .i64 0))⟩, ⟨(some 133), none, .pick (.tmp 128) (.tmp 132) (.const (.bool false))⟩, ⟨(some 134), none, .mov (.tmp 133)⟩, ⟨(some 135), (some (134, true)), .build [(.int .i64 0), (.int .i64 0), (.bool false), (.bool false), (.bool false), (.int .i64 0), (.int .i64 0), (.bool false)] [(1, 1, (.const (.int .i64 1))), (6, 1, (.const (.int .i64 100)))]⟩, ⟨(some 136), (some (134, true)), .mov (.tmp 1)⟩, ⟨(some 137), (some (134, true)), .call 22 [(.tmp 135), (.tmp 136)]⟩, ⟨(some 138), (some (134, true)), .bin .eql (.tmp 137) (.const (.int .i64 1))⟩, ⟨(some 139), none, .pick (.tmp 134) (.tmp 138) (.const (.bool false))⟩, ⟨(some 140), none, .mov (.tmp 139)⟩, ⟨(some 141), (some (140, true)), .build [(.int .i64 0), (.int .i64 0), (.bool false), (.bool false), (.bool false), (.int .i64 0), (.int .i64 0), (.bool false)] [(1, 1, (.const (.int .i64 2)))]⟩, ⟨(some 142), (some (140, true)), .mov (.tmp 1)⟩, ⟨(some 143), (some (140, true)), .call 22 [(.tmp 141), (.tmp 142)]⟩, ⟨(some 144), (some (140, true)), .bin .eql (.tmp 143) (.const (.int .i64 70))⟩, ⟨(some 145), none, .pick (.tmp 140) (.tmp 144) (.const (.bool false))⟩, ⟨(some 0), none, .mov (.tmp 145)⟩] false [0]) .ret)))))))))))), false, false⟩
/-- outpost/outpostlaw14.short -/
def A9 : An := (.node (.ops [1]) (.node (.ops [2]) .leaf))
def F9 : AFn := ⟨[(2, none)], (.seq (.ops [⟨(some 1), none, .box 6 (.tmp 0)⟩, ⟨(some 2), none, .mov (.const (.bool false))⟩] false [1]) (.seq (.ops [⟨(some 3), none, .fieldA 2 (.tmp 1)⟩, ⟨(some 4), none, .load 1 false (.tmp 3)⟩, ⟨(some 5), none, .len true (.tmp 4)⟩, ⟨(some 6), none, .bin .leq (.tmp 5) (.const (.int .i64 1000))⟩, ⟨(some 7), none, .mov (.tmp 6)⟩, ⟨(some 8), (some (7, true)), .fieldA 3 (.tmp 1)⟩, ⟨(some 9), (some (7, true)), .load 1 false (.tmp 8)⟩, ⟨(some 10), (some (7, true)), .len false (.tmp 9)⟩, ⟨(some 11), (some (7, true)), .bin .leq (.tmp 10) (.const (.int .i64 1000))⟩, ⟨(some 12), none, .pick (.tmp 7) (.tmp 11) (.const (.bool false))⟩, ⟨(some 2), none, .mov (.tmp 12)⟩] false [2]) .ret)), false, false⟩
/-- outpost/value.Of -/
def A10 : An := (.node (.ops [1]) (.node (.node (.ops [5, 1]) (.node (.ops [12, 5, 1]) (.node (.node (.ops [2, 3]) .leaf) .leaf))) (.node (.node (.ops [1, 15]) (.node (.node (.ops [16, 1, 15]) (.node (.node (.ops [2, 3]) .leaf) (.node (.ops [22, 1, 15]) (.node (.node (.ops [2, 3]) .leaf) (.node (.ops [27, 1, 15]) (.node (.node (.ops [2, 3]) .leaf) (.node (.ops [33, 1, 15]) (.node (.node (.ops [2, 3]) .leaf) (.node (.ops [38, 1]) (.node (.node (.ops [2, 3]) .leaf) .leaf)))))))))) .leaf)) (.node (.ops [2, 3]) .leaf))))
def F10 : AFn := ⟨[(2, none), (3, none)], (.seq (.ops [⟨(some 1), none, .box 6 (.tmp 0)⟩, ⟨(some 2), none, .mov (.const .nilif)⟩, ⟨(some 3), none, .mov (.const (.int .i64 0))⟩] false [1]) (.seq (.seq (.ops [⟨(some 7), none, .load 6 true (.tmp 1)⟩, ⟨(some 8), none, .call 26 [(.tmp 7)]⟩, ⟨(some 6), none, .mov (.tmp 8)⟩, ⟨(some 9), none, .extract (.tmp 6) 0⟩, ⟨(some 10), none, .extract (.tmp 6) 1⟩, ⟨(some 4), none, .mov (.tmp 9)⟩, ⟨(some 5), none, .mov (.tmp 10)⟩] false [5, 1]) (.seq (.ops [⟨(some 11), none, .mov (.tmp 5)⟩, ⟨(some 12), none, .bin .neq (.tmp 11) (.const (.int .i64 0))⟩] false [12, 5, 1]) (.cond (.tmp 12) (.seq (.ops [⟨(some 13), none, .mov (.tmp 5)⟩, ⟨(some 2), none, .mov (.const .nilif)⟩, ⟨(some 3), none, .mov (.tmp 13)⟩] false [2, 3]) .ret) .skip))) (.seq (.seq (.ops [⟨(some 14), none, .fieldA 0 (.tmp 1)⟩, ⟨(some 15), none, .load 1 false (.tmp 14)⟩] false [1, 15]) (.block 0 (.seq (.ops [⟨(some 17), none, .bin .eql (.tmp 15) (.const (.int .i64 2))⟩, ⟨(some 16), none, .mov (.tmp 17)⟩] false [16, 1, 15]) (.cond (.tmp 16) (.seq (.ops [⟨(some 18), none, .fieldA 1 (.tmp 1)⟩, ⟨(some 19), none, .load 1 false (.tmp 18)⟩, ⟨(some 20), none, .bin .eql (.tmp 19) (.const (.int .i64 1))⟩, ⟨(some 21), none, .mkif 60 (.tmp 20)⟩, ⟨(some 2), none, .mov (.tmp 21)⟩, ⟨(some 3), none, .mov (.const (.int .i64 0))⟩] false [2, 3]) .ret) (.seq (.ops [⟨(some 23), none, .bin .eql (.tmp 15) (.const (.int .i64 3))⟩, ⟨(some 22), none, .mov (.tmp 23)⟩] false [22, 1, 15]) (.cond (.tmp 22) (.seq (.ops [⟨(some 24), none, .fieldA 2 (.tmp 1)⟩, ⟨(some 25), none, .load 1 false (.tmp 24)⟩, ⟨(some 26), none, .mkif 61 (.tmp 25)⟩, ⟨(some 2), none, .mov (.tmp 26)⟩, ⟨(some 3), none, .mov (.const (.int .i64 0))⟩] false [2, 3]) .ret) (.seq (.ops [⟨(some 28), none, .bin .eql (.tmp 15) (.const (.int .i64 4))⟩, ⟨(some 27), none, .mov (.tmp 28)⟩] false [27, 1, 15]) (.cond (.tmp 27) (.seq (.ops [⟨(some 29), none, .fieldA 3 (.tmp 1)⟩, ⟨(some 30), none, .load 1 false (.tmp 29)⟩, ⟨(some 31), none, .call 27 [(.tmp 30)]⟩, ⟨(some 32), none, .mkif 62 (.tmp 31)⟩, ⟨(some 2), none, .mov (.tmp 32)⟩, ⟨(some 3), none, .mov (.const (.int .i64 0))⟩] false [2, 3]) .ret) (.seq (.ops [⟨(some 34), none, .bin .eql (.tmp 15) (.const (.int .i64 5))⟩, ⟨(some 33), none, .mov (.tmp 34)⟩] false [33, 1, 15]) (.cond (.tmp 33) (.seq (.ops [⟨(some 35), none, .fieldA 1 (.tmp 1)⟩, ⟨(some 36), none, .load 1 false (.tmp 35)⟩, ⟨(some 37), none, .mkif 63 (.tmp 36)⟩, ⟨(some 2), none, .mov (.tmp 37)⟩, ⟨(some 3), none, .mov (.const (.int .i64 0))⟩] false [2, 3]) .ret) (.seq (.ops [⟨(some 39), none, .bin .eql (.tmp 15) (.const (.int .i64 6))⟩, ⟨(some 38), none, .mov (.tmp 39)⟩] false [38, 1]) (.cond (.tmp 38) (.seq (.ops [⟨(some 40), none, .fieldA 4 (.tmp 1)⟩, ⟨(some 41), none, .load 1 false (.tmp 40)⟩, ⟨(some 42), none, .fieldA 5 (.tmp 1)⟩, ⟨(some 43), none, .load 1 false (.tmp 42)⟩, ⟨(some 44), none, .build [(.int .i64 0), (.int .i64 0)] [(0, 1, (.tmp 41)), (1, 1, (.tmp 43))]⟩, ⟨(some 45), none, .mkif 65 (.tmp 44)⟩, ⟨(some 2), none, .mov (.tmp 45)⟩, ⟨(some 3), none, .mov (.const (.int .i64 0))⟩] false [2, 3]) .ret) .skip)))))))))))) (.seq (.ops [⟨(some 46), none, .fieldA 1 (.tmp 1)⟩, ⟨(some 47), none, .load 1 false (.tmp 46)⟩, ⟨(some 48), none, .mkif 66 (.tmp 47)⟩, ⟨(some 2), none, .mov (.tmp 48)⟩, ⟨(some 3), none, .mov (.const (.int .i64 0))⟩] false [2, 3]) .ret)))), false, false⟩
/-- outpost/outpostref13.Write -/
def A11 : An := (.node (.ops [1]) (.node (.node (.ops [11, 1]) (.node (.node (.ops [2, 3]) .leaf) .leaf)) (.node (.node (.ops [14, 1]) (.node (.node (.ops [2, 3]) .leaf) .leaf)) (.node (.node (.ops [1, 16]) (.node (.node (.ops [17, 1, 16]) (.node (.node (.ops [2, 3]) .leaf) (.node (.ops [21, 1, 16]) (.node (.node (.ops [2, 3]) .leaf) (.node (.ops [26, 1]) (.node (.node (.ops [2, 3]) .leaf) .leaf)))))) .leaf)) (.node (.ops [2, 3]) .leaf)))))
def F11 : AFn := ⟨[(2, none), (3, none)], (.seq (.ops [⟨(some 1), none, .box 6 (.tmp 0)⟩, ⟨(some 2), none, .mov (.const (.str []))⟩, ⟨(some 3), none, .mov (.const (.int .i64 0))⟩] false [1]) (.seq (.seq (.ops [⟨(some 4), none, .fieldA 0 (.tmp 1)⟩, ⟨(some 5), none, .load 1 false (.tmp 4)⟩, ⟨(some 6), none, .bin .lss (.tmp 5) (.const (.int .i64 1))⟩, ⟨(some 7), none, .mov (.tmp 6)⟩, ⟨(some 8), (some (7, false)), .fieldA 0 (.tmp 1)⟩, ⟨(some 9), (some (7, false)), .load 1 false (.tmp 8)⟩, ⟨(some 10), (some (7, false)), .bin .gtr (.tmp 9) (.const (.int .i64 6))⟩, ⟨(some 11), none, .pick (.tmp 7) (.const (.bool true)) (.tmp 10)⟩] false [11, 1]) (.cond (.tmp 11) (.seq (.ops [⟨(some 2), none, .mov (.const (.str []))⟩, ⟨(some 3), none, .mov (.const (.int .i64 70))⟩] false [2, 3]) .ret) .skip)) (.seq (.seq (.ops [⟨(some 12), none, .load 6 true (.tmp 1)⟩, ⟨(some 13), none, .call 28 [(.tmp 12)]⟩, ⟨(some 14), none, .un .not (.tmp 13)⟩] false [14, 1]) (.cond (.tmp 14) (.seq (.ops [⟨(some 2), none, .mov (.const (.str []))⟩, ⟨(some 3), none, .mov (.const (.int .i64 1))⟩] false [2, 3]) .ret) .skip)) (.seq (.seq (.ops [⟨(some 15), none, .fieldA 0 (.tmp 1)⟩, ⟨(some 16), none, .load 1 false (.tmp 15)⟩] false [1, 16]) (.block 0 (.seq (.ops [⟨(some 18), none, .bin .eql (.tmp 16) (.const (.int .i64 3))⟩, ⟨(some 17), none, .mov (.tmp 18)⟩] false [17, 1, 16]) (.cond (.tmp 17) (.seq (.ops [⟨(some 19), none, .fieldA 2 (.tmp 1)⟩, ⟨(some 20), none, .load 1 false (.tmp 19)⟩, ⟨(some 2), none, .mov (.tmp 20)⟩, ⟨(some 3), none, .mov (.const (.int .i64 0))⟩] false [2, 3]) .ret) (.seq (.ops [⟨(some 22), none, .bin .eql (.tmp 16) (.const (.int .i64 4))⟩, ⟨(some 21), none, .mov (.tmp 22)⟩] false [21, 1, 16]) (.cond (.tmp 21) (.seq (.ops [⟨(some 23), none, .fieldA 3 (.tmp 1)⟩, ⟨(some 24), none, .load 1 false (.tmp 23)⟩, ⟨(some 25), none, .call 29 [(.tmp 24)]⟩, ⟨(some 2), none, .mov (.tmp 25)⟩, ⟨(some 3), none, .mov (.const (.int .i64 0))⟩] false [2, 3]) .ret) (.seq (.ops [⟨(some 27), none, .bin .eql (.tmp 16) (.const (.int .i64 6))⟩, ⟨(some 26), none, .mov (.tmp 27)⟩] false [26, 1]) (.cond (.tmp 26) (.seq (.ops [⟨(some 28), none, .fieldA 4 (.tmp 1)⟩, ⟨(some 29), none, .load 1 false (.tmp 28)⟩, ⟨(some 30), none, .callQ 30 [(.tmp 29)]⟩, ⟨(some 31), none, .bin .add (.tmp 30) (.const (.str [58]))⟩, ⟨(some 32), none, .fieldA 5 (.tmp 1)⟩, ⟨(some 33), none, .load 1 false (.tmp 32)⟩, ⟨(some 34), none, .call 30 [(.tmp 33)]⟩, ⟨(some 35), none, .bin .add (.tmp 31) (.tmp 34)⟩, ⟨(some 2), none, .mov (.tmp 35)⟩, ⟨(some 3), none, .mov (.const (.int .i64 0))⟩] false [2, 3]) .ret) .skip)))))))) (.seq (.ops [⟨(some 36), none, .fieldA 1 (.tmp 1)⟩, ⟨(some 37), none, .load 1 false (.tmp 36)⟩, ⟨(some 38), none, .call 31 [(.tmp 37), (.const (.int .i64 10))]⟩, ⟨(some 2), none, .mov (.tmp 38)⟩, ⟨(some 3), none, .mov (.const (.int .i64 0))⟩] false [2, 3]) .ret))))), false, false⟩
/-- outpost/value.Number -/
def A12 : An := (.node (.ops [0]) (.node (.node (.ops [4, 0, 5]) (.node (.ops [15, 4, 0]) (.node (.node (.ops [2, 3]) .leaf) .leaf))) (.node (.node (.ops [6, 0, 7]) (.node (.ops [22, 6, 0]) (.node (.node (.ops [2, 3]) .leaf) .leaf))) (.node (.node (.ops [8, 9]) (.node (.ops [29, 8]) (.node (.node (.ops [2, 3]) .leaf) .leaf))) (.node (.ops [2, 3]) .leaf)))))
def F12 : AFn := ⟨[(2, none), (3, none)], (.seq (.ops [⟨(some 2), none, .mov (.const (.int .i64 0))⟩, ⟨(some 3), none, .mov (.const (.bool false))⟩] false [0]) (.seq (.seq (.ops [⟨(some 11), none, .mov (.tmp 0)⟩, ⟨(some 12), none, .tassert 66 true (.int .i64 0) (.tmp 11)⟩, ⟨(some 10), none, .mov (.tmp 12)⟩, ⟨(some 13), none, .extract (.tmp 10) 0⟩, ⟨(some 14), none, .extract (.tmp 10) 1⟩, ⟨(some 4), none, .mov (.tmp 13)⟩, ⟨(some 5), none, .mov (.tmp 14)⟩] false [4, 0, 5]) (.seq (.ops [⟨(some 15), none, .mov (.tmp 5)⟩] false [15, 4, 0]) (.cond (.tmp 15) (.seq (.ops [⟨(some 16), none, .mov (.tmp 4)⟩, ⟨(some 2), none, .mov (.tmp 16)⟩, ⟨(some 3), none, .mov (.const (.bool true))⟩] false [2, 3]) .ret) .skip))) (.seq (.seq (.ops [⟨(some 18), none, .mov (.tmp 0)⟩, ⟨(some 19), none, .tassert 63 true (.int .i64 0) (.tmp 18)⟩, ⟨(some 17), none, .mov (.tmp 19)⟩, ⟨(some 20), none, .extract (.tmp 17) 0⟩, ⟨(some 21), none, .extract (.tmp 17) 1⟩, ⟨(some 6), none, .mov (.tmp 20)⟩, ⟨(some 7), none, .mov (.tmp 21)⟩] false [6, 0, 7]) (.seq (.ops [⟨(some 22), none, .mov (.tmp 7)⟩] false [22, 6, 0]) (.cond (.tmp 22) (.seq (.ops [⟨(some 23), none, .mov (.tmp 6)⟩, ⟨(some 2), none, .mov (.tmp 23)⟩, ⟨(some 3), none, .mov (.const (.bool true))⟩] false [2, 3]) .ret) .skip))) (.seq (.seq (.ops [⟨(some 25), none, .mov (.tmp 0)⟩, ⟨(some 26), none, .tassert 60 true (.bool false) (.tmp 25)⟩, ⟨(some 24), none, .mov (.tmp 26)⟩, ⟨(some 27), none, .extract (.tmp 24) 0⟩, ⟨(some 28), none, .extract (.tmp 24) 1⟩, ⟨(some 8), none, .mov (.tmp 27)⟩, ⟨(some 9), none, .mov (.tmp 28)⟩] false [8, 9]) (.seq (.ops [⟨(some 29), none, .mov (.tmp 9)⟩] false [29, 8]) (.cond (.tmp 29) (.seq (.ops [⟨(some 30), none, .mov (.tmp 8)⟩, ⟨(some 31), none, .call 32 [(.tmp 30)]⟩, ⟨(some 2), none, .mov (.tmp 31)⟩, ⟨(some 3), none, .mov (.const (.bool true))⟩] false [2, 3]) .ret) .skip))) (.seq (.ops [⟨(some 2), none, .mov (.const (.int .i64 0))⟩, ⟨(some 3), none, .mov (.const (.bool false))⟩] false [2, 3]) .ret))))), false, false⟩
/-- outpost/value.Words -/
def A13 : An := (.node (.ops [0]) (.node (.ops [5, 4]) (.node (.ops [2, 3]) .leaf)))
def F13 : AFn := ⟨[(2, none), (3, none)], (.seq (.ops [⟨(some 2), none, .mov (.const (.str []))⟩, ⟨(some 3), none, .mov (.const (.bool false))⟩] false [0]) (.seq (.ops [⟨(some 7), none, .mov (.tmp 0)⟩, ⟨(some 8), none, .tassert 61 true (.str []) (.tmp 7)⟩, ⟨(some 6), none, .mov (.tmp 8)⟩, ⟨(some 9), none, .extract (.tmp 6) 0⟩, ⟨(some 10), none, .extract (.tmp 6) 1⟩, ⟨(some 4), none, .mov (.tmp 9)⟩, ⟨(some 5), none, .mov (.tmp 10)⟩] false [5, 4]) (.seq (.ops [⟨(some 11), none, .mov (.tmp 4)⟩, ⟨(some 12), none, .mov (.tmp 5)⟩, ⟨(some 2), none, .mov (.tmp 11)⟩, ⟨(some 3), none, .mov (.tmp 12)⟩] false [2, 3]) .ret))), false, false⟩
/-- outpost/outpostref13.Same -/
def A15 : An := (.node (.ops [3, 2]) (.node (.ops [4]) .leaf))
def F15 : AFn := ⟨[(4, none)], (.seq (.ops [⟨(some 2), none, .box 6 (.tmp 0)⟩, ⟨(some 3), none, .box 6 (.tmp 1)⟩, ⟨(some 4), none, .mov (.const (.bool false))⟩] false [3, 2]) (.seq (.ops [⟨(some 5), none, .fieldA 0 (.tmp 2)⟩, ⟨(some 6), none, .load 1 false (.tmp 5)⟩, ⟨(some 7), none, .fieldA 0 (.tmp 3)⟩, ⟨(some 8), none, .load 1 false (.tmp 7)⟩, ⟨(some 9), none, .bin .eql (.tmp 6) (.tmp 8)⟩, ⟨(some 10), none, .mov (.tmp 9)⟩, ⟨(some 11), (some (10, true)), .fieldA 1 (.tmp 2)⟩, ⟨(some 12), (some (10, true)), .load 1 false (.tmp 11)⟩, ⟨(some 13), (some (10, true)), .fieldA 1 (.tmp 3)⟩, ⟨(some 14), (some (10, true)), .load 1 false (.tmp 13)⟩, ⟨(some 15), (some (10, true)), .bin .eql (.tmp 12) (.tmp 14)⟩, ⟨(some 16), none, .pick (.tmp 10) (.tmp 15) (.const (.bool false))⟩, ⟨(some 17), none, .mov (.tmp 16)⟩, ⟨(some 18), (some (17, true)), .fieldA 2 (.tmp 2)⟩, ⟨(some 19), (some (17, true)), .load 1 false (.tmp 18)⟩, ⟨(some 20), (some (17, true)), .fieldA 2 (.tmp 3)⟩, ⟨(some 21), (some (17, true)), .load 1 false (.tmp 20)⟩, ⟨(some 22), (some (17, true)), .bin .eql (.tmp 19) (.tmp 21)⟩, ⟨(some 23), none, .pick (.tmp 17) (.tmp 22) (.const (.bool false))⟩, ⟨(some 24), none, .mov (.tmp 23)⟩, ⟨(some 25), (some (24, true)), .fieldA 3 (.tmp 2)⟩, ⟨(some 26), (some (24, true)), .load 1 false (.tmp 25)⟩, ⟨(some 27), (some (24, true)), .fieldA 3 (.tmp 3)⟩, ⟨(some 28), (some (24, true)), .load 1 false (.tmp 27)⟩, ⟨(some 29), (some (24, true)), .call 17 [(.tmp 26), (.tmp 28)]⟩, ⟨(some 30), none, .pick (.tmp 24) (.tmp 29) (.const (.bool false))⟩, ⟨(some 31), none, .mov (.tmp 30)⟩, ⟨(some 32), (some (31, true)), .fieldA 4 (.tmp 2)⟩, ⟨(some 33), (some (31, true)), .load 1 false (.tmp 32)⟩, ⟨(some 34), (some (31, true)), .fieldA 4 (.tmp 3)⟩, ⟨(some 35), (some (31, true)), .load 1 false (.tmp 34)⟩, ⟨(some 36), (some (31, true)), .bin .eql (.tmp 33) (.tmp 35)⟩, ⟨(some 37), none, .pick (.tmp 31) (.tmp 36) (.const (.bool false))⟩, ⟨(some 38), none, .mov (.tmp 37)⟩, ⟨(some 39), (some (38, true)), .fieldA 5 (.tmp 2)⟩, ⟨(some 40), (some (38, true)), .load 1 false (.tmp 39)⟩, ⟨(some 41), (some (38, true)), .fieldA 5 (.tmp 3)⟩, ⟨(some 42), (some (38, true)), .load 1 false (.tmp 41)⟩, ⟨(some 43), (some (38, true)), .bin .eql (.tmp 40) (.tmp 42)⟩, ⟨(some 44), none, .pick (.tmp 38) (.tmp 43) (.const (.bool false))⟩, ⟨(some 4), none, .mov (.tmp 44)⟩] false [4]) .ret)), false, false⟩
/-- outpost/value.Val -/
def A16 : An := (.node (.ops [2, 0]) (.node (.node (.ops [2, 9]) (.node (.node (.ops [11, 2, 12, 9]) (.node (.node (.ops [2, 3]) (.node (.ops [2]) .leaf)) (.node (.ops [16, 2, 17, 9]) (.node (.node (.ops [2, 4]) (.node (.ops [2]) .leaf)) (.node (.ops [22, 2, 23, 9]) (.node (.node (.ops [2, 5]) (.node (.ops [2]) .leaf)) (.node (.ops [27, 2, 28, 9]) (.node (.node (.ops [2, 6]) (.node (.ops [2]) .leaf)) (.node (.ops [33, 2, 34, 9]) (.node (.node (.ops [2, 7]) (.node (.ops [2]) .leaf)) (.node (.ops [38, 2, 39]) (.node (.node (.ops [2, 8]) (.node (.ops [2]) .leaf)) .leaf)))))))))))) .leaf)) (.node (.ops [2]) .leaf)))
def F16 : AFn := ⟨[(2, (some (6, true)))], (.seq (.ops [⟨(some 2), none, .alloc [(.int .i64 0), (.int .i64 0), (.str []), .nils, (.int .i64 0), (.int .i64 0)]⟩] false [2, 0]) (.seq (.seq (.ops [⟨(some 9), none, .mov (.tmp 0)⟩] false [2, 9]) (.block 0 (.seq (.ops [⟨(some 10), none, .tassert 66 true (.int .i64 0) (.tmp 9)⟩, ⟨(some 11), none, .extract (.tmp 10) 1⟩, ⟨(some 12), none, .extract (.tmp 10) 0⟩] false [11, 2, 12, 9]) (.cond (.tmp 11) (.seq (.ops [⟨(some 3), none, .mov (.tmp 12)⟩] false [2, 3]) (.seq (.ops [⟨(some 13), none, .mov (.tmp 3)⟩, ⟨(some 14), none, .build [(.int .i64 0), (.int .i64 0), (.str []), .nils, (.int .i64 0), (.int .i64 0)] [(0, 1, (.const (.int .i64 1))), (1, 1, (.tmp 13))]⟩, ⟨none, none, .store 6 (.tmp 2) (.tmp 14)⟩] false [2]) .ret)) (.seq (.ops [⟨(some 15), none, .tassert 60 true (.bool false) (.tmp 9)⟩, ⟨(some 16), none, .extract (.tmp 15) 1⟩, ⟨(some 17), none, .extract (.tmp 15) 0⟩] false [16, 2, 17, 9]) (.cond (.tmp 16) (.seq (.ops [⟨(some 4), none, .mov (.tmp 17)⟩] false [2, 4]) (.seq (.ops [⟨(some 18), none, .mov (.tmp 4)⟩, ⟨(some 19), none, .call 32 [(.tmp 18)]⟩, ⟨(some 20), none, .build [(.int .i64 0), (.int .i64 0), (.str []), .nils, (.int .i64 0), (.int .i64 0)] [(0, 1, (.const (.int .i64 2))), (1, 1, (.tmp 19))]⟩, ⟨none, none, .store 6 (.tmp 2) (.tmp 20)⟩] false [2]) .ret)) (.seq (.ops [⟨(some 21), none, .tassert 61 true (.str []) (.tmp 9)⟩, ⟨(some 22), none, .extract (.tmp 21) 1⟩, ⟨(some 23), none, .extract (.tmp 21) 0⟩] false [22, 2, 23, 9]) (.cond (.tmp 22) (.seq (.ops [⟨(some 5), none, .mov (.tmp 23)⟩] false [2, 5]) (.seq (.ops [⟨(some 24), none, .mov (.tmp 5)⟩, ⟨(some 25), none, .build [(.int .i64 0), (.int .i64 0), (.str []), .nils, (.int .i64 0), (.int .i64 0)] [(0, 1, (.const (.int .i64 3))), (2, 1, (.tmp 24))]⟩, ⟨none, none, .store 6 (.tmp 2) (.tmp 25)⟩] false [2]) .ret)) (.seq (.ops [⟨(some 26), none, .tassert 62 true .nils (.tmp 9)⟩, ⟨(some 27), none, .extract (.tmp 26) 1⟩, ⟨(some 28), none, .extract (.tmp 26) 0⟩] false [27, 2, 28, 9]) (.cond (.tmp 27) (.seq (.ops [⟨(some 6), none, .mov (.tmp 28)⟩] false [2, 6]) (.seq (.ops [⟨(some 29), none, .mov (.tmp 6)⟩, ⟨(some 30), none, .call 27 [(.tmp 29)]⟩, ⟨(some 31), none, .build [(.int .i64 0), (.int .i64 0), (.str []), .nils, (.int .i64 0), (.int .i64 0)] [(0, 1, (.const (.int .i64 4))), (3, 1, (.tmp 30))]⟩, ⟨none, none, .store 6 (.tmp 2) (.tmp 31)⟩] false [2]) .ret)) (.seq (.ops [⟨(some 32), none, .tassert 63 true (.int .i64 0) (.tmp 9)⟩, ⟨(some 33), none, .extract (.tmp 32) 1⟩, ⟨(some 34), none, .extract (.tmp 32) 0⟩] false [33, 2, 34, 9]) (.cond (.tmp 33) (.seq (.ops [⟨(some 7), none, .mov (.tmp 34)⟩] false [2, 7]) (.seq (.ops [⟨(some 35), none, .mov (.tmp 7)⟩, ⟨(some 36), none, .build [(.int .i64 0), (.int .i64 0), (.str []), .nils, (.int .i64 0), (.int .i64 0)] [(0, 1, (.const (.int .i64 5))), (1, 1, (.tmp 35))]⟩, ⟨none, none, .store 6 (.tmp 2) (.tmp 36)⟩] false [2]) .ret)) (.seq (.ops [⟨(some 37), none, .tassert 65 true (.agg [(.int .i64 0), (.int .i64 0)]) (.tmp 9)⟩, ⟨(some 38), none, .extract (.tmp 37) 1⟩, ⟨(some 39), none, .extract (.tmp 37) 0⟩] false [38, 2, 39]) (.cond (.tmp 38) (.seq (.ops [⟨(some 8), none, .alloc [(.int .i64 0), (.int .i64 0)]⟩, ⟨none, none, .store 2 (.tmp 8) (.tmp 39)⟩] false [2, 8]) (.seq (.ops [⟨(some 40), none, .fieldA 0 (.tmp 8)⟩, ⟨(some 41), none, .load 1 false (.tmp 40)⟩, ⟨(some 42), none, .fieldA 1 (.tmp 8)⟩, ⟨(some 43), none, .load 1 false (.tmp 42)⟩, ⟨(some 44), none, .build [(.int .i64 0), (.int .i64 0), (.str []), .nils, (.int .i64 0), (.int .i64 0)] [(0, 1, (.const (.int .i64 6))), (4, 1, (.tmp 41)), (5, 1, (.tmp 43))]⟩, ⟨none, none, .store 6 (.tmp 2) (.tmp 44)⟩] false [2]) .ret)) .skip)))))))))))))) (.seq (.ops [⟨(some 45), none, .build [(.int .i64 0), (.int .i64 0), (.str []), .nils, (.int .i64 0), (.int .i64 0)] []⟩, ⟨none, none, .store 6 (.tmp 2) (.tmp 45)⟩] false [2]) .ret))), false, false⟩
/-- outpost/outpostref01.Same -/
def A17 : An := (.node (.ops [1, 0]) (.node (.node (.ops [10, 1, 0]) (.node (.node (.ops [4]) .leaf) .leaf)) (.node (.node (.ops [5, 1, 0]) (.node (.loop [5, 1, 0] (.node (.node (.ops [14, 1, 0, 5]) (.node .leaf .leaf)) (.node (.node (.node (.ops [25, 1, 0, 5]) (.node (.node (.ops [4]) .leaf) .leaf)) .leaf) (.ops [5, 1, 0])))) .leaf)) (.node (.ops [4]) .leaf))))
def F17 : AFn := ⟨[(4, none)], (.seq (.ops [⟨(some 4), none, .mov (.const (.bool false))⟩] false [1, 0]) (.seq (.seq (.ops [⟨(some 6), none, .mov (.tmp 0)⟩, ⟨(some 7), none, .len false (.tmp 6)⟩, ⟨(some 8), none, .mov (.tmp 1)⟩, ⟨(some 9), none, .len false (.tmp 8)⟩, ⟨(some 10), none, .bin .neq (.tmp 7) (.tmp 9)⟩] false [10, 1, 0]) (.cond (.tmp 10) (.seq (.ops [⟨(some 4), none, .mov (.const (.bool false))⟩] false [4]) .ret) .skip)) (.seq (.seq (.ops [⟨(some 5), none, .mov (.const (.int .i64 0))⟩] false [5, 1, 0]) (.block 0 (.seq (.ops [] false [5, 1, 0]) (.loop (.seq (.seq (.seq (.ops [⟨(some 11), none, .mov (.tmp 5)⟩, ⟨(some 12), none, .mov (.tmp 0)⟩, ⟨(some 13), none, .len false (.tmp 12)⟩, ⟨(some 14), none, .bin .lss (.tmp 11) (.tmp 13)⟩] false [14, 1, 0, 5]) (.cond (.tmp 14) .skip (.exit 0))) (.seq (.block 1 (.seq (.ops [⟨(some 17), none, .mov (.tmp 0)⟩, ⟨(some 18), none, .mov (.tmp 5)⟩, ⟨(some 19), none, .idxA 1 (.tmp 17) (.tmp 18)⟩, ⟨(some 20), none, .load 1 false (.tmp 19)⟩, ⟨(some 21), none, .mov (.tmp 1)⟩, ⟨(some 22), none, .mov (.tmp 5)⟩, ⟨(some 23), none, .idxA 1 (.tmp 21) (.tmp 22)⟩, ⟨(some 24), none, .load 1 false (.tmp 23)⟩, ⟨(some 25), none, .bin .neq (.tmp 20) (.tmp 24)⟩] false [25, 1, 0, 5]) (.cond (.tmp 25) (.seq (.ops [⟨(some 4), none, .mov (.const (.bool false))⟩] false [4]) .ret) .skip))) (.ops [⟨(some 15), none, .mov (.tmp 5)⟩, ⟨(some 16), none, .bin .add (.tmp 15) (.const (.int .i64 1))⟩, ⟨(some 5), none, .mov (.tmp 16)⟩] false [5, 1, 0]))) (.ops [] false [5, 1, 0])))))) (.seq (.ops [⟨(some 4), none, .mov (.const (.bool true))⟩] false [4]) .ret)))), false, false⟩
/-- outpost/value.Wire -/
def A18 : An := (.node (.ops [0]) (.node (.node (.ops [3, 0, 4]) (.node (.ops [15, 3, 0]) (.node (.node (.ops [2]) .leaf) .leaf))) (.node (.node (.ops [5, 0, 6]) (.node (.ops [24, 5, 0]) (.node (.node (.ops [2]) .leaf) .leaf))) (.node (.node (.ops [29]) (.node (.node (.ops [31, 32, 29]) (.node (.node (.ops [7]) (.node (.ops [2]) .leaf)) (.node (.ops [36, 37, 29]) (.node (.node (.ops [8]) (.node (.ops [2]) .leaf)) (.node (.ops [41, 42]) (.node (.node (.ops [9]) (.node (.ops [2]) .leaf)) .leaf)))))) .leaf)) (.node (.ops [2]) .leaf)))))
def F18 : AFn := ⟨[(2, none)], (.seq (.ops [⟨(some 2), none, .mov (.const .nils)⟩] false [0]) (.seq (.seq (.ops [⟨(some 11), none, .mov (.tmp 0)⟩, ⟨(some 12), none, .tassert 60 true (.bool false) (.tmp 11)⟩, ⟨(some 10), none, .mov (.tmp 12)⟩, ⟨(some 13), none, .extract (.tmp 10) 0⟩, ⟨(some 14), none, .extract (.tmp 10) 1⟩, ⟨(some 3), none, .mov (.tmp 13)⟩, ⟨(some 4), none, .mov (.tmp 14)⟩] false [3, 0, 4]) (.seq (.ops [⟨(some 15), none, .mov (.tmp 4)⟩] false [15, 3, 0]) (.cond (.tmp 15) (.seq (.ops [⟨(some 16), none, .mov (.tmp 3)⟩, ⟨(some 17), none, .call 32 [(.tmp 16)]⟩, ⟨(some 18), none, .call 35 [(.tmp 17), (.const (.int .i64 1))]⟩, ⟨(some 2), none, .mov (.tmp 18)⟩] false [2]) .ret) .skip))) (.seq (.seq (.ops [⟨(some 20), none, .mov (.tmp 0)⟩, ⟨(some 21), none, .call 12 [(.tmp 20)]⟩, ⟨(some 19), none, .mov (.tmp 21)⟩, ⟨(some 22), none, .extract (.tmp 19) 0⟩, ⟨(some 23), none, .extract (.tmp 19) 1⟩, ⟨(some 5), none, .mov (.tmp 22)⟩, ⟨(some 6), none, .mov (.tmp 23)⟩] false [5, 0, 6]) (.seq (.ops [⟨(some 24), none, .mov (.tmp 6)⟩] false [24, 5, 0]) (.cond (.tmp 24) (.seq (.ops [⟨(some 25), none, .mov (.tmp 5)⟩, ⟨(some 26), none, .mov (.tmp 5)⟩, ⟨(some 27), none, .call 36 [(.tmp 26)]⟩, ⟨(some 28), none, .call 35 [(.tmp 25), (.tmp 27)]⟩, ⟨(some 2), none, .mov (.tmp 28)⟩] false [2]) .ret) .skip))) (.seq (.seq (.ops [⟨(some 29), none, .mov (.tmp 0)⟩] false [29]) (.block 0 (.seq (.ops [⟨(some 30), none, .tassert 61 true (.str []) (.tmp 29)⟩, ⟨(some 31), none, .extract (.tmp 30) 1⟩, ⟨(some 32), none, .extract (.tmp 30) 0⟩] false [31, 32, 29]) (.cond (.tmp 31) (.seq (.ops [⟨(some 7), none, .mov (.tmp 32)⟩] false [7]) (.seq (.ops [⟨(some 33), none, .mov (.tmp 7)⟩, ⟨(some 34), none, .strBytes true (.tmp 33)⟩, ⟨(some 2), none, .mov (.tmp 34)⟩] false [2]) .ret)) (.seq (.ops [⟨(some 35), none, .tassert 62 true .nils (.tmp 29)⟩, ⟨(some 36), none, .extract (.tmp 35) 1⟩, ⟨(some 37), none, .extract (.tmp 35) 0⟩] false [36, 37, 29]) (.cond (.tmp 36) (.seq (.ops [⟨(some 8), none, .mov (.tmp 37)⟩] false [8]) (.seq (.ops [⟨(some 38), none, .mov (.tmp 8)⟩, ⟨(some 39), none, .call 27 [(.tmp 38)]⟩, ⟨(some 2), none, .mov (.tmp 39)⟩] false [2]) .ret)) (.seq (.ops [⟨(some 40), none, .tassert 65 true (.agg [(.int .i64 0), (.int .i64 0)]) (.tmp 29)⟩, ⟨(some 41), none, .extract (.tmp 40) 1⟩, ⟨(some 42), none, .extract (.tmp 40) 0⟩] false [41, 42]) (.cond (.tmp 41) (.seq (.ops [⟨(some 9), none, .alloc [(.int .i64 0), (.int .i64 0)]⟩, ⟨none, none, .store 2 (.tmp 9) (.tmp 42)⟩] false [9]) (.seq (.ops [⟨(some 43), none, .fieldA 0 (.tmp 9)⟩, ⟨(some 44), none, .load 1 false (.tmp 43)⟩, ⟨(some 45), none, .callQ 35 [(.tmp 44), (.const (.int .i64 2))]⟩, ⟨(some 46), none, .fieldA 1 (.tmp 9)⟩, ⟨(some 47), none, .load 1 false (.tmp 46)⟩, ⟨(some 48), none, .call 35 [(.tmp 47), (.const (.int .i64 2))]⟩, ⟨(some 49), none, .appendBox 1 (.tmp 45) (.tmp 48)⟩, ⟨(some 2), none, .mov (.tmp 49)⟩] false [2]) .ret)) .skip)))))))) (.seq (.ops [⟨(some 2), none, .mov (.const .nils)⟩] false [2]) .ret))))), false, true⟩
/-- outpost/outpostref14.Wire -/
def A19 : An := (.node (.ops [1]) (.node (.node (.ops [1, 8]) (.node (.node (.node (.ops [9, 1, 8]) (.node .leaf (.ops [9, 1, 8]))) (.pre [9, 1, 8] (.node (.node (.ops [3, 1]) (.node (.node (.loop [3, 1] (.node (.node (.ops [20, 1, 3]) (.node .leaf .leaf)) (.node (.ops [3, 1]) .leaf))) .leaf) (.node (.ops [4, 3, 1]) (.node (.ops [5, 4, 3]) (.node (.node (.ops [6, 5, 4]) (.node (.loop [6, 5, 4] (.node (.node (.ops [31, 4, 6, 5]) (.node .leaf .leaf)) (.node (.node (.node (.ops [4, 6, 5]) (.ops [5, 4, 6])) .leaf) (.ops [6, 5, 4])))) .leaf)) (.node (.ops [2]) .leaf)))))) (.node (.ops [43, 1, 8]) (.node (.node (.ops [2]) .leaf) (.node (.ops [49, 1, 8]) (.node (.node (.ops [2]) .leaf) (.node (.ops [54, 1, 8]) (.node (.node (.ops [2]) .leaf) (.node (.ops [59, 1]) (.node (.node (.ops [2]) .leaf) .leaf))))))))))) .leaf)) (.node (.ops [2]) .leaf)))
def F19 : AFn := ⟨[(2, none)], (.seq (.ops [⟨(some 1), none, .box 6 (.tmp 0)⟩, ⟨(some 2), none, .mov (.const .nils)⟩] false [1]) (.seq (.seq (.ops [⟨(some 7), none, .fieldA 0 (.tmp 1)⟩, ⟨(some 8), none, .load 1 false (.tmp 7)⟩] false [1, 8]) (.block 0 (.seq (.seq (.ops [⟨(some 10), none, .bin .eql (.tmp 8) (.const (.int .i64 1))⟩, ⟨(some 9), none, .mov (.tmp 10)⟩] false [9, 1, 8]) (.cond (.tmp 9) .skip (.ops [⟨(some 11), none, .bin .eql (.tmp 8) (.const (.int .i64 5))⟩, ⟨(some 9), none, .mov (.tmp 11)⟩] false [9, 1, 8]))) (.seq (.ops [] false [9, 1, 8]) (.cond (.tmp 9) (.seq (.ops [⟨(some 3), none, .mov (.const (.int .i64 1))⟩] false [3, 1]) (.seq (.block 1 (.seq (.ops [] false [3, 1]) (.loop (.seq (.seq (.seq (.ops [⟨(some 12), none, .mov (.tmp 3)⟩, ⟨(some 13), none, .bin .lss (.tmp 12) (.const (.int .i64 8))⟩, ⟨(some 14), none, .mov (.tmp 13)⟩, ⟨(some 15), (some (14, true)), .fieldA 1 (.tmp 1)⟩, ⟨(some 16), (some (14, true)), .load 1 false (.tmp 15)⟩, ⟨(some 17), (some (14, true)), .mov (.tmp 3)⟩, ⟨(some 18), (some (14, true)), .call 37 [(.tmp 16), (.tmp 17)]⟩, ⟨(some 19), (some (14, true)), .un .not (.tmp 18)⟩, ⟨(some 20), none, .pick (.tmp 14) (.tmp 19) (.const (.bool false))⟩] false [20, 1, 3]) (.cond (.tmp 20) .skip (.exit 1))) (.block 2 (.ops [⟨(some 21), none, .mov (.tmp 3)⟩, ⟨(some 22), none, .bin .mul (.tmp 21) (.const (.int .i64 2))⟩, ⟨(some 3), none, .mov (.tmp 22)⟩] false [3, 1]))) (.ops [] false [3, 1]))))) (.seq (.ops [⟨(some 23), none, .mov (.tmp 3)⟩, ⟨(some 24), none, .makeSl 5 [(.int .u8 0)] false (.tmp 23) (.tmp 23)⟩, ⟨(some 4), none, .mov (.tmp 24)⟩] false [4, 3, 1]) (.seq (.ops [⟨(some 25), none, .fieldA 1 (.tmp 1)⟩, ⟨(some 26), none, .load 1 false (.tmp 25)⟩, ⟨(some 27), none, .toInt .u64 (.tmp 26)⟩, ⟨(some 5), none, .mov (.tmp 27)⟩] false [5, 4, 3]) (.seq (.seq (.ops [⟨(some 28), none, .mov (.tmp 3)⟩, ⟨(some 29), none, .bin .sub (.tmp 28) (.const (.int .i64 1))⟩, ⟨(some 6), none, .mov (.tmp 29)⟩] false [6, 5, 4]) (.block 3 (.seq (.ops [] false [6, 5, 4]) (.loop (.seq (.seq (.seq (.ops [⟨(some 30), none, .mov (.tmp 6)⟩, ⟨(some 31), none, .bin .geq (.tmp 30) (.const (.int .i64 0))⟩] false [31, 4, 6, 5]) (.cond (.tmp 31) .skip (.exit 3))) (.seq (.block 4 (.seq (.ops [⟨(some 34), none, .mov (.tmp 4)⟩, ⟨(some 35), none, .mov (.tmp 6)⟩, ⟨(some 36), none, .mov (.tmp 5)⟩, ⟨(some 37), none, .bin .rem (.tmp 36) (.const (.int .u64 256))⟩, ⟨(some 38), none, .toInt .u8 (.tmp 37)⟩, ⟨(some 39), none, .idxA 1 (.tmp 34) (.tmp 35)⟩, ⟨none, none, .store 1 (.tmp 39) (.tmp 38)⟩] false [4, 6, 5]) (.ops [⟨(some 40), none, .mov (.tmp 5)⟩, ⟨(some 41), none, .bin .quo (.tmp 40) (.const (.int .u64 256))⟩, ⟨(some 5), none, .mov (.tmp 41)⟩] false [5, 4, 6]))) (.ops [⟨(some 32), none, .mov (.tmp 6)⟩, ⟨(some 33), none, .bin .sub (.tmp 32) (.const (.int .i64 1))⟩, ⟨(some 6), none, .mov (.tmp 33)⟩] false [6, 5, 4]))) (.ops [] false [6, 5, 4])))))) (.seq (.ops [⟨(some 42), none, .mov (.tmp 4)⟩, ⟨(some 2), none, .mov (.tmp 42)⟩] false [2]) .ret)))))) (.seq (.ops [⟨(some 44), none, .bin .eql (.tmp 8) (.const (.int .i64 2))⟩, ⟨(some 43), none, .mov (.tmp 44)⟩] false [43, 1, 8]) (.cond (.tmp 43) (.seq (.ops [⟨(some 45), none, .fieldA 1 (.tmp 1)⟩, ⟨(some 46), none, .load 1 false (.tmp 45)⟩, ⟨(some 47), none, .toInt .u8 (.tmp 46)⟩, ⟨(some 48), none, .buildSl 1 false [(.int .u8 0)] 1 [(0, (.tmp 47))]⟩, ⟨(some 2), none, .mov (.tmp 48)⟩] false [2]) .ret) (.seq (.ops [⟨(some 50), none, .bin .eql (.tmp 8) (.const (.int .i64 3))⟩, ⟨(some 49), none, .mov (.tmp 50)⟩] false [49, 1, 8]) (.cond (.tmp 49) (.seq (.ops [⟨(some 51), none, .fieldA 2 (.tmp 1)⟩, ⟨(some 52), none, .load 1 false (.tmp 51)⟩, ⟨(some 53), none, .strBytes false (.tmp 52)⟩, ⟨(some 2), none, .mov (.tmp 53)⟩] false [2]) .ret) (.seq (.ops [⟨(some 55), none, .bin .eql (.tmp 8) (.const (.int .i64 4))⟩, ⟨(some 54), none, .mov (.tmp 55)⟩] false [54, 1, 8]) (.cond (.tmp 54) (.seq (.ops [⟨(some 56), none, .fieldA 3 (.tmp 1)⟩, ⟨(some 57), none, .load 1 false (.tmp 56)⟩, ⟨(some 58), none, .call 25 [(.tmp 57)]⟩, ⟨(some 2), none, .mov (.tmp 58)⟩] false [2]) .ret) (.seq (.ops [⟨(some 60), none, .bin .eql (.tmp 8) (.const (.int .i64 6))⟩, ⟨(some 59), none, .mov (.tmp 60)⟩] false [59, 1]) (.cond (.tmp 59) (.seq (.ops [⟨(some 61), none, .fieldA 4 (.tmp 1)⟩, ⟨(some 62), none, .load 1 false (.tmp 61)⟩, ⟨(some 63), none, .bin .quo (.tmp 62) (.const (.int .i64 256))⟩, ⟨(some 64), none, .toInt .u8 (.tmp 63)⟩, ⟨(some 65), none, .fieldA 4 (.tmp 1)⟩, ⟨(some 66), none, .load 1 false (.tmp 65)⟩, ⟨(some 67), none, .bin .rem (.tmp 66) (.const (.int .i64 256))⟩, ⟨(some 68), none, .toInt .u8 (.tmp 67)⟩, ⟨(some 69), none, .fieldA 5 (.tmp 1)⟩, ⟨(some 70), none, .load 1 false (.tmp 69)⟩, ⟨(some 71), none, .bin .quo (.tmp 70) (.const (.int .i64 256))⟩, ⟨(some 72), none, .toInt .u8 (.tmp 71)⟩, ⟨(some 73), none, .fieldA 5 (.tmp 1)⟩, ⟨(some 74), none, .load 1 false (.tmp 73)⟩, ⟨(some 75), none, .bin .rem (.tmp 74) (.const (.int .i64 256))⟩, ⟨(some 76), none, .toInt .u8 (.tmp 75)⟩, ⟨(some 77), none, .buildSl 1 false [(.int .u8 0)] 4 [(0, (.tmp 64)), (1, (.tmp 68)), (2, (.tmp 72)), (3, (.tmp 76))]⟩, ⟨(some 2), none, .mov (.tmp 77)⟩] false [2]) .ret) .skip))))))))))))) (.seq (.ops [⟨(some 78), none, .buildSl 1 false [(.int .u8 0)] 0 []⟩, ⟨(some 2), none, .mov (.tmp 78)⟩] false [2]) .ret))), false, false⟩
/-- outpost/value.Unwire -/
def A20 : An := (.node (.ops [1, 0]) (.node (.ops [7, 6]) (.node (.node (.ops [15, 7, 6]) (.node (.node (.ops [4, 5]) .leaf) .leaf)) (.node (.ops [4, 5]) .leaf))))
def F20 : AFn := ⟨[(4, none), (5, none)], (.seq (.ops [⟨(some 4), none, .mov (.const .nilif)⟩, ⟨(some 5), none, .mov (.const (.int .i64 0))⟩] false [1, 0]) (.seq (.ops [⟨(some 9), none, .mov (.tmp 0)⟩, ⟨(some 10), none, .mov (.tmp 1)⟩, ⟨(some 11), none, .call 38 [(.tmp 9), (.tmp 10)]⟩, ⟨(some 8), none, .mov (.tmp 11)⟩, ⟨(some 12), none, .extract (.tmp 8) 0⟩, ⟨(some 13), none, .extract (.tmp 8) 1⟩, ⟨(some 6), none, .alloc [(.int .i64 0), (.int .i64 0), (.str []), .nils, (.int .i64 0), (.int .i64 0)]⟩, ⟨none, none, .store 6 (.tmp 6) (.tmp 12)⟩, ⟨(some 7), none, .mov (.tmp 13)⟩] false [7, 6]) (.seq (.seq (.ops [⟨(some 14), none, .mov (.tmp 7)⟩, ⟨(some 15), none, .bin .neq (.tmp 14) (.const (.int .i64 0))⟩] false [15, 7, 6]) (.cond (.tmp 15) (.seq (.ops [⟨(some 16), none, .mov (.tmp 7)⟩, ⟨(some 4), none, .mov (.const .nilif)⟩, ⟨(some 5), none, .mov (.tmp 16)⟩] false [4, 5]) .ret) .skip)) (.seq (.ops [⟨(some 17), none, .load 6 true (.tmp 6)⟩, ⟨(some 18), none, .call 10 [(.tmp 17)]⟩, ⟨(some 19), none, .extract (.tmp 18) 0⟩, ⟨(some 20), none, .extract (.tmp 18) 1⟩, ⟨(some 4), none, .mov (.tmp 19)⟩, ⟨(some 5), none, .mov (.tmp 20)⟩] false [4, 5]) .ret)))), false, false⟩
/-- outpost/outpostref14.Unwire -/
def A21 : An := (.node (.ops [4, 1, 0]) (.node (.ops [4, 1, 6, 0]) (.node (.node (.ops [4, 1, 6, 0, 13]) (.node (.node (.node (.ops [15, 4, 1, 6, 0, 13]) (.node .leaf (.ops [15, 4, 1, 6, 0, 13]))) (.pre [15, 4, 1, 6, 0, 13] (.node (.node (.node (.ops [35, 4, 1, 6]) (.node (.node (.ops [4, 5]) .leaf) .leaf)) (.node (.ops [1, 4, 6, 7]) (.node (.node (.ops [40, 1, 4, 6, 7]) (.node (.ops [1, 7, 4, 6]) .leaf)) (.pre [1, 7, 4, 6] (.node (.node (.ops [8, 1, 7, 4, 6]) (.node (.loop [8, 1, 7, 4, 6] (.node (.node (.ops [44, 1, 4, 6, 8, 7]) (.node .leaf .leaf)) (.node (.node (.ops [1, 7, 4, 6, 8]) .leaf) (.ops [8, 1, 7, 4, 6])))) .leaf)) (.ops [4, 6])))))) (.node (.ops [58, 4, 6, 1, 0, 13]) (.node (.node (.node (.ops [68, 4, 6, 1]) (.node (.node (.ops [4, 5]) .leaf) .leaf)) (.ops [4, 6])) (.node (.node (.ops [75, 4, 6, 1, 0, 13]) (.node .leaf (.ops [75, 4, 6, 1, 0, 13]))) (.pre [75, 4, 6, 1, 0, 13] (.node (.node (.node (.ops [80, 4, 6, 1, 0]) (.node (.node (.ops [4, 5]) .leaf) .leaf)) (.node (.node (.ops [83, 4, 6, 1]) (.node (.node (.ops [4, 6]) (.node (.ops [4, 5]) .leaf)) .leaf)) (.node (.node (.ops [4, 6, 1, 10]) (.node (.ops [94, 4, 6, 1]) (.node (.node (.ops [4, 5]) .leaf) .leaf))) (.ops [4, 6])))) (.node (.ops [99, 4, 6, 1]) (.node (.node (.node (.ops [103, 4, 6, 1]) (.node (.node (.ops [4, 5]) .leaf) .leaf)) (.node (.ops [4, 6, 1]) (.ops [4, 6]))) (.node (.ops [4, 5]) .leaf))))))))))) .leaf)) (.pre [4, 6] (.node (.ops [4, 5]) .leaf)))))
def F21 : AFn := ⟨[(4, (some (6, true))), (5, none)], (.seq (.ops [⟨(some 4), none, .alloc [(.int .i64 0), (.int .i64 0), (.str []), .nils, (.int .i64 0), (.int .i64 0)]⟩, ⟨(some 5), none, .mov (.const (.int .i64 0))⟩] false [4, 1, 0]) (.seq (.ops [⟨(some 11), none, .mov (.tmp 0)⟩, ⟨(some 12), none, .build [(.int .i64 0), (.int .i64 0), (.str []), .nils, (.int .i64 0), (.int .i64 0)] [(0, 1, (.tmp 11))]⟩, ⟨(some 6), none, .alloc [(.int .i64 0), (.int .i64 0), (.str []), .nils, (.int .i64 0), (.int .i64 0)]⟩, ⟨none, none, .store 6 (.tmp 6) (.tmp 12)⟩] false [4, 1, 6, 0]) (.seq (.seq (.ops [⟨(some 13), none, .mov (.tmp 0)⟩] false [4, 1, 6, 0, 13]) (.block 0 (.seq (.seq (.ops [⟨(some 16), none, .bin .eql (.tmp 13) (.const (.int .i64 1))⟩, ⟨(some 15), none, .mov (.tmp 16)⟩] false [15, 4, 1, 6, 0, 13]) (.cond (.tmp 15) .skip (.ops [⟨(some 17), none, .bin .eql (.tmp 13) (.const (.int .i64 5))⟩, ⟨(some 15), none, .mov (.tmp 17)⟩] false [15, 4, 1, 6, 0, 13]))) (.seq (.ops [] false [15, 4, 1, 6, 0, 13]) (.cond (.tmp 15) (.seq (.seq (.ops [⟨(some 18), none, .mov (.tmp 1)⟩, ⟨(some 19), none, .len false (.tmp 18)⟩, ⟨(some 20), none, .bin .neq (.tmp 19) (.const (.int .i64 1))⟩, ⟨(some 21), none, .mov (.tmp 20)⟩, ⟨(some 22), (some (21, true)), .mov (.tmp 1)⟩, ⟨(some 23), (some (21, true)), .len false (.tmp 22)⟩, ⟨(some 24), (some (21, true)), .bin .neq (.tmp 23) (.const (.int .i64 2))⟩, ⟨(some 25), none, .pick (.tmp 21) (.tmp 24) (.const (.bool false))⟩, ⟨(some 26), none, .mov (.tmp 25)⟩, ⟨(some 27), (some (26, true)), .mov (.tmp 1)⟩, ⟨(some 28), (some (26, true)), .len false (.tmp 27)⟩, ⟨(some 29), (some (26, true)), .bin .neq (.tmp 28) (.const (.int .i64 4))⟩, ⟨(some 30), none, .pick (.tmp 26) (.tmp 29) (.const (.bool false))⟩, ⟨(some 31), none, .mov (.tmp 30)⟩, ⟨(some 32), (some (31, true)), .mov (.tmp 1)⟩, ⟨(some 33), (some (31, true)), .len false (.tmp 32)⟩, ⟨(some 34), (some (31, true)), .bin .neq (.tmp 33) (.const (.int .i64 8))⟩, ⟨(some 35), none, .pick (.tmp 31) (.tmp 34) (.const (.bool false))⟩] false [35, 4, 1, 6]) (.cond (.tmp 35) (.seq (.ops [⟨(some 36), none, .build [(.int .i64 0), (.int .i64 0), (.str []), .nils, (.int .i64 0), (.int .i64 0)] []⟩, ⟨none, none, .store 6 (.tmp 4) (.tmp 36)⟩, ⟨(some 5), none, .mov (.const (.int .i64 20))⟩] false [4, 5]) .ret) .skip)) (.seq (.ops [⟨(some 7), none, .mov (.const (.int .u64 0))⟩] false [1, 4, 6, 7]) (.seq (.seq (.ops [⟨(some 37), none, .mov (.tmp 1)⟩, ⟨(some 38), none, .idxA 1 (.tmp 37) (.const (.int .i64 0))⟩, ⟨(some 39), none, .load 1 false (.tmp 38)⟩, ⟨(some 40), none, .bin .geq (.tmp 39) (.const (.int .u8 128))⟩] false [40, 1, 4, 6, 7]) (.cond (.tmp 40) (.ops [⟨(some 7), none, .mov (.const (.int .u64 18446744073709551615))⟩] false [1, 7, 4, 6]) .skip)) (.seq (.ops [] false [1, 7, 4, 6]) (.seq (.seq (.ops [⟨(some 8), none, .mov (.const (.int .i64 0))⟩] false [8, 1, 7, 4, 6]) (.block 1 (.seq (.ops [] false [8, 1, 7, 4, 6]) (.loop (.seq (.seq (.seq (.ops [⟨(some 41), none, .mov (.tmp 8)⟩, ⟨(some 42), none, .mov (.tmp 1)⟩, ⟨(some 43), none, .len false (.tmp 42)⟩, ⟨(some 44), none, .bin .lss (.tmp 41) (.tmp 43)⟩] false [44, 1, 4, 6, 8, 7]) (.cond (.tmp 44) .skip (.exit 1))) (.seq (.block 2 (.ops [⟨(some 47), none, .mov (.tmp 7)⟩, ⟨(some 48), none, .bin .mul (.tmp 47) (.const (.int .u64 256))⟩, ⟨(some 49), none, .mov (.tmp 1)⟩, ⟨(some 50), none, .mov (.tmp 8)⟩, ⟨(some 51), none, .idxA 1 (.tmp 49) (.tmp 50)⟩, ⟨(some 52), none, .load 1 false (.tmp 51)⟩, ⟨(some 53), none, .toInt .u64 (.tmp 52)⟩, ⟨(some 54), none, .bin .add (.tmp 48) (.tmp 53)⟩, ⟨(some 7), none, .mov (.tmp 54)⟩] false [1, 7, 4, 6, 8])) (.ops [⟨(some 45), none, .mov (.tmp 8)⟩, ⟨(some 46), none, .bin .add (.tmp 45) (.const (.int .i64 1))⟩, ⟨(some 8), none, .mov (.tmp 46)⟩] false [8, 1, 7, 4, 6]))) (.ops [] false [8, 1, 7, 4, 6])))))) (.ops [⟨(some 55), none, .mov (.tmp 7)⟩, ⟨(some 56), none, .toInt .i64 (.tmp 55)⟩, ⟨(some 57), none, .fieldA 1 (.tmp 6)⟩, ⟨none, none, .store 1 (.tmp 57) (.tmp 56)⟩] false [4, 6])))))) (.seq (.ops [⟨(some 59), none, .bin .eql (.tmp 13) (.const (.int .i64 2))⟩, ⟨(some 58), none, .mov (.tmp 59)⟩] false [58, 4, 6, 1, 0, 13]) (.cond (.tmp 58) (.seq (.seq (.ops [⟨(some 60), none, .mov (.tmp 1)⟩, ⟨(some 61), none, .len false (.tmp 60)⟩, ⟨(some 62), none, .bin .neq (.tmp 61) (.const (.int .i64 1))⟩, ⟨(some 63), none, .mov (.tmp 62)⟩, ⟨(some 64), (some (63, false)), .mov (.tmp 1)⟩, ⟨(some 65), (some (63, false)), .idxA 1 (.tmp 64) (.const (.int .i64 0))⟩, ⟨(some 66), (some (63, false)), .load 1 false (.tmp 65)⟩, ⟨(some 67), (some (63, false)), .bin .gtr (.tmp 66) (.const (.int .u8 1))⟩, ⟨(some 68), none, .pick (.tmp 63) (.const (.bool true)) (.tmp 67)⟩] false [68, 4, 6, 1]) (.cond (.tmp 68) (.seq (.ops [⟨(some 69), none, .build [(.int .i64 0), (.int .i64 0), (.str []), .nils, (.int .i64 0), (.int .i64 0)] []⟩, ⟨none, none, .store 6 (.tmp 4) (.tmp 69)⟩, ⟨(some 5), none, .mov (.const (.int .i64 20))⟩] false [4, 5]) .ret) .skip)) (.ops [⟨(some 70), none, .mov (.tmp 1)⟩, ⟨(some 71), none, .idxA 1 (.tmp 70) (.const (.int .i64 0))⟩, ⟨(some 72), none, .load 1 false (.tmp 71)⟩, ⟨(some 73), none, .toInt .i64 (.tmp 72)⟩, ⟨(some 74), none, .fieldA 1 (.tmp 6)⟩, ⟨none, none, .store 1 (.tmp 74) (.tmp 73)⟩] false [4, 6])) (.seq (.seq (.ops [⟨(some 76), none, .bin .eql (.tmp 13) (.const (.int .i64 3))⟩, ⟨(some 75), none, .mov (.tmp 76)⟩] false [75, 4, 6, 1, 0, 13]) (.cond (.tmp 75) .skip (.ops [⟨(some 77), none, .bin .eql (.tmp 13) (.const (.int .i64 4))⟩, ⟨(some 75), none, .mov (.tmp 77)⟩] false [75, 4, 6, 1, 0, 13]))) (.seq (.ops [] false [75, 4, 6, 1, 0, 13]) (.cond (.tmp 75) (.seq (.seq (.ops [⟨(some 78), none, .mov (.tmp 1)⟩, ⟨(some 79), none, .len false (.tmp 78)⟩, ⟨(some 80), none, .bin .gtr (.tmp 79) (.const (.int .i64 200))⟩] false [80, 4, 6, 1, 0]) (.cond (.tmp 80) (.seq (.ops [⟨(some 81), none, .build [(.int .i64 0), (.int .i64 0), (.str []), .nils, (.int .i64 0), (.int .i64 0)] []⟩, ⟨none, none, .store 6 (.tmp 4) (.tmp 81)⟩, ⟨(some 5), none, .mov (.const (.int .i64 2))⟩] false [4, 5]) .ret) .skip)) (.seq (.seq (.ops [⟨(some 82), none, .mov (.tmp 0)⟩, ⟨(some 83), none, .bin .eql (.tmp 82) (.const (.int .i64 4))⟩] false [83, 4, 6, 1]) (.cond (.tmp 83) (.seq (.ops [⟨(some 84), none, .mov (.tmp 1)⟩, ⟨(some 85), none, .fieldA 3 (.tmp 6)⟩, ⟨none, none, .store 1 (.tmp 85) (.tmp 84)⟩] false [4, 6]) (.seq (.ops [⟨(some 86), none, .load 6 true (.tmp 6)⟩, ⟨none, none, .store 6 (.tmp 4) (.tmp 86)⟩, ⟨(some 5), none, .mov (.const (.int .i64 0))⟩] false [4, 5]) .ret)) .skip)) (.seq (.seq (.ops [⟨(some 88), none, .mov (.tmp 1)⟩, ⟨(some 89), none, .bytesStr (.tmp 88)⟩, ⟨(some 90), none, .call 39 [(.tmp 89)]⟩, ⟨(some 87), none, .mov (.tmp 90)⟩, ⟨(some 91), none, .extract (.tmp 87) 0⟩, ⟨(some 92), none, .extract (.tmp 87) 1⟩, ⟨(some 9), none, .mov (.tmp 91)⟩, ⟨(some 10), none, .mov (.tmp 92)⟩] false [4, 6, 1, 10]) (.seq (.ops [⟨(some 93), none, .mov (.tmp 10)⟩, ⟨(some 94), none, .un .not (.tmp 93)⟩] false [94, 4, 6, 1]) (.cond (.tmp 94) (.seq (.ops [⟨(some 95), none, .build [(.int .i64 0), (.int .i64 0), (.str []), .nils, (.int .i64 0), (.int .i64 0)] []⟩, ⟨none, none, .store 6 (.tmp 4) (.tmp 95)⟩, ⟨(some 5), none, .mov (.const (.int .i64 20))⟩] false [4, 5]) .ret) .skip))) (.ops [⟨(some 96), none, .mov (.tmp 1)⟩, ⟨(some 97), none, .bytesStr (.tmp 96)⟩, ⟨(some 98), none, .fieldA 2 (.tmp 6)⟩, ⟨none, none, .store 1 (.tmp 98) (.tmp 97)⟩] false [4, 6])))) (.seq (.ops [⟨(some 100), none, .bin .eql (.tmp 13) (.const (.int .i64 6))⟩, ⟨(some 99), none, .mov (.tmp 100)⟩] false [99, 4, 6, 1]) (.cond (.tmp 99) (.seq (.seq (.ops [⟨(some 101), none, .mov (.tmp 1)⟩, ⟨(some 102), none, .len false (.tmp 101)⟩, ⟨(some 103), none, .bin .neq (.tmp 102) (.const (.int .i64 4))⟩] false [103, 4, 6, 1]) (.cond (.tmp 103) (.seq (.ops [⟨(some 104), none, .build [(.int .i64 0), (.int .i64 0), (.str []), .nils, (.int .i64 0), (.int .i64 0)] []⟩, ⟨none, none, .store 6 (.tmp 4) (.tmp 104)⟩, ⟨(some 5), none, .mov (.const (.int .i64 20))⟩] false [4, 5]) .ret) .skip)) (.seq (.ops [⟨(some 105), none, .mov (.tmp 1)⟩, ⟨(some 106), none, .idxA 1 (.tmp 105) (.const (.int .i64 0))⟩, ⟨(some 107), none, .load 1 false (.tmp 106)⟩, ⟨(some 108), none, .toInt .i64 (.tmp 107)⟩, ⟨(some 109), none, .bin .mul (.tmp 108) (.const (.int .i64 256))⟩, ⟨(some 110), none, .mov (.tmp 1)⟩, ⟨(some 111), none, .idxA 1 (.tmp 110) (.const (.int .i64 1))⟩, ⟨(some 112), none, .load 1 false (.tmp 111)⟩, ⟨(some 113), none, .toInt .i64 (.tmp 112)⟩, ⟨(some 114), none, .bin .add (.tmp 109) (.tmp 113)⟩, ⟨(some 115), none, .fieldA 4 (.tmp 6)⟩, ⟨none, none, .store 1 (.tmp 115) (.tmp 114)⟩] false [4, 6, 1]) (.ops [⟨(some 116), none, .mov (.tmp 1)⟩, ⟨(some 117), none, .idxA 1 (.tmp 116) (.const (.int .i64 2))⟩, ⟨(some 118), none, .load 1 false (.tmp 117)⟩, ⟨(some 119), none, .toInt .i64 (.tmp 118)⟩, ⟨(some 120), none, .bin .mul (.tmp 119) (.const (.int .i64 256))⟩, ⟨(some 121), none, .mov (.tmp 1)⟩, ⟨(some 122), none, .idxA 1 (.tmp 121) (.const (.int .i64 3))⟩, ⟨(some 123), none, .load 1 false (.tmp 122)⟩, ⟨(some 124), none, .toInt .i64 (.tmp 123)⟩, ⟨(some 125), none, .bin .add (.tmp 120) (.tmp 124)⟩, ⟨(some 126), none, .fieldA 5 (.tmp 6)⟩, ⟨none, none, .store 1 (.tmp 126) (.tmp 125)⟩] false [4, 6]))) (.seq (.ops [⟨(some 14), none, .build [(.int .i64 0), (.int .i64 0), (.str []), .nils, (.int .i64 0), (.int .i64 0)] []⟩, ⟨none, none, .store 6 (.tmp 4) (.tmp 14)⟩, ⟨(some 5), none, .mov (.const (.int .i64 70))⟩] false [4, 5]) .ret))))))))))))) (.seq (.ops [] false [4, 6]) (.seq (.ops [⟨(some 127), none, .load 6 true (.tmp 6)⟩, ⟨none, none, .store 6 (.tmp 4) (.tmp 127)⟩, ⟨(some 5), none, .mov (.const (.int .i64 0))⟩] false [4, 5]) .ret))))), false, false⟩
/-- outpost/value.Fits -/
def A22 : An := (.node (.ops [2, 1]) (.node (.node (.ops [16, 2, 1]) (.node (.node (.ops [4]) .leaf) .leaf)) (.node (.node (.ops [2, 5, 6]) (.node (.ops [34]) (.node (.node (.ops [4]) .leaf) .leaf))) (.node (.ops [4]) .leaf))))
def F22 : AFn := ⟨[(4, none)], (.seq (.ops [⟨(some 2), none, .box 8 (.tmp 0)⟩, ⟨(some 4), none, .mov (.const (.int .i64 0))⟩] false [2, 1]) (.seq (.seq (.ops [⟨(some 7), none, .mov (.tmp 1)⟩, ⟨(some 8), none, .callQ 16 [(.tmp 7)]⟩, ⟨(some 9), none, .field 0 1 false (.tmp 8)⟩, ⟨(some 10), none, .fieldA 1 (.tmp 2)⟩, ⟨(some 11), none, .load 1 false (.tmp 10)⟩, ⟨(some 12), none, .bin .neq (.tmp 9) (.tmp 11)⟩, ⟨(some 13), none, .mov (.tmp 12)⟩, ⟨(some 14), (some (13, false)), .mov (.tmp 1)⟩, ⟨(some 15), (some (13, false)), .isnil 2 false (.tmp 14)⟩, ⟨(some 16), none, .pick (.tmp 13) (.const (.bool true)) (.tmp 15)⟩] false [16, 2, 1]) (.cond (.tmp 16) (.seq (.ops [⟨(some 4), none, .mov (.const (.int .i64 70))⟩] false [4]) .ret) .skip)) (.seq (.seq (.ops [⟨(some 18), none, .mov (.tmp 1)⟩, ⟨(some 19), none, .call 40 [(.tmp 18)]⟩, ⟨(some 17), none, .mov (.tmp 19)⟩, ⟨(some 20), none, .extract (.tmp 17) 0⟩, ⟨(some 21), none, .extract (.tmp 17) 1⟩, ⟨(some 5), none, .mov (.tmp 20)⟩, ⟨(some 6), none, .mov (.tmp 21)⟩] false [2, 5, 6]) (.seq (.ops [⟨(some 22), none, .mov (.tmp 6)⟩, ⟨(some 23), none, .mov (.tmp 22)⟩, ⟨(some 24), (some (23, true)), .mov (.tmp 5)⟩, ⟨(some 25), (some (23, true)), .fieldA 5 (.tmp 2)⟩, ⟨(some 26), (some (23, true)), .load 1 false (.tmp 25)⟩, ⟨(some 27), (some (23, true)), .bin .lss (.tmp 24) (.tmp 26)⟩, ⟨(some 28), (some (23, true)), .mov (.tmp 27)⟩, ⟨(some 29), (some (28, false)), .mov (.tmp 5)⟩, ⟨(some 30), (some (28, false)), .fieldA 6 (.tmp 2)⟩, ⟨(some 31), (some (28, false)), .load 1 false (.tmp 30)⟩, ⟨(some 32), (some (28, false)), .bin .gtr (.tmp 29) (.tmp 31)⟩, ⟨(some 33), (some (23, true)), .pick (.tmp 28) (.const (.bool true)) (.tmp 32)⟩, ⟨(some 34), none, .pick (.tmp 23) (.tmp 33) (.const (.bool false))⟩] false [34]) (.cond (.tmp 34) (.seq (.ops [⟨(some 4), none, .mov (.const (.int .i64 1))⟩] false [4]) .ret) .skip))) (.seq (.ops [⟨(some 4), none, .mov (.const (.int .i64 0))⟩] false [4]) .ret)))), false, false⟩
/-- outpost/outpostref14.Fits -/
def A23 : An := (.node (.ops [2, 3]) (.node (.node (.ops [10, 2, 3]) (.node (.node (.ops [4]) .leaf) .leaf)) (.node (.ops [2, 3, 5]) (.node (.node (.ops [2, 3, 5, 14]) (.node (.node (.node (.ops [15, 2, 3, 5, 14]) (.node .leaf (.ops [15, 2, 3, 5, 14]))) (.node (.node (.ops [4]) .leaf) (.node (.ops [18, 2, 3, 5, 14]) (.node (.ops [2, 5]) (.node (.ops [23, 2, 3, 5]) (.node (.ops [2, 5]) .leaf)))))) .leaf)) (.pre [2, 5] (.node (.node (.ops [37]) (.node (.node (.ops [4]) .leaf) .leaf)) (.node (.ops [4]) .leaf)))))))
def F23 : AFn := ⟨[(4, none)], (.seq (.ops [⟨(some 2), none, .box 8 (.tmp 0)⟩, ⟨(some 3), none, .box 6 (.tmp 1)⟩, ⟨(some 4), none, .mov (.const (.int .i64 0))⟩] false [2, 3]) (.seq (.seq (.ops [⟨(some 6), none, .fieldA 0 (.tmp 3)⟩, ⟨(some 7), none, .load 1 false (.tmp 6)⟩, ⟨(some 8), none, .fieldA 1 (.tmp 2)⟩, ⟨(some 9), none, .load 1 false (.tmp 8)⟩, ⟨(some 10), none, .bin .neq (.tmp 7) (.tmp 9)⟩] false [10, 2, 3]) (.cond (.tmp 10) (.seq (.ops [⟨(some 4), none, .mov (.const (.int .i64 70))⟩] false [4]) .ret) .skip)) (.seq (.ops [⟨(some 11), none, .fieldA 1 (.tmp 3)⟩, ⟨(some 12), none, .load 1 false (.tmp 11)⟩, ⟨(some 5), none, .mov (.tmp 12)⟩] false [2, 3, 5]) (.seq (.seq (.ops [⟨(some 13), none, .fieldA 0 (.tmp 3)⟩, ⟨(some 14), none, .load 1 false (.tmp 13)⟩] false [2, 3, 5, 14]) (.block 0 (.seq (.seq (.ops [⟨(some 16), none, .bin .eql (.tmp 14) (.const (.int .i64 2))⟩, ⟨(some 15), none, .mov (.tmp 16)⟩] false [15, 2, 3, 5, 14]) (.cond (.tmp 15) .skip (.ops [⟨(some 17), none, .bin .eql (.tmp 14) (.const (.int .i64 6))⟩, ⟨(some 15), none, .mov (.tmp 17)⟩] false [15, 2, 3, 5, 14]))) (.cond (.tmp 15) (.seq (.ops [⟨(some 4), none, .mov (.const (.int .i64 0))⟩] false [4]) .ret) (.seq (.ops [⟨(some 19), none, .bin .eql (.tmp 14) (.const (.int .i64 3))⟩, ⟨(some 18), none, .mov (.tmp 19)⟩] false [18, 2, 3, 5, 14]) (.cond (.tmp 18) (.ops [⟨(some 20), none, .fieldA 2 (.tmp 3)⟩, ⟨(some 21), none, .load 1 false (.tmp 20)⟩, ⟨(some 22), none, .len true (.tmp 21)⟩, ⟨(some 5), none, .mov (.tmp 22)⟩] false [2, 5]) (.seq (.ops [⟨(some 24), none, .bin .eql (.tmp 14) (.const (.int .i64 4))⟩, ⟨(some 23), none, .mov (.tmp 24)⟩] false [23, 2, 3, 5]) (.cond (.tmp 23) (.ops [⟨(some 25), none, .fieldA 3 (.tmp 3)⟩, ⟨(some 26), none, .load 1 false (.tmp 25)⟩, ⟨(some 27), none, .len false (.tmp 26)⟩, ⟨(some 5), none, .mov (.tmp 27)⟩] false [2, 5]) .skip)))))))) (.seq (.ops [] false [2, 5]) (.seq (.seq (.ops [⟨(some 28), none, .mov (.tmp 5)⟩, ⟨(some 29), none, .fieldA 5 (.tmp 2)⟩, ⟨(some 30), none, .load 1 false (.tmp 29)⟩, ⟨(some 31), none, .bin .lss (.tmp 28) (.tmp 30)⟩, ⟨(some 32), none, .mov (.tmp 31)⟩, ⟨(some 33), (some (32, false)), .mov (.tmp 5)⟩, ⟨(some 34), (some (32, false)), .fieldA 6 (.tmp 2)⟩, ⟨(some 35), (some (32, false)), .load 1 false (.tmp 34)⟩, ⟨(some 36), (some (32, false)), .bin .gtr (.tmp 33) (.tmp 35)⟩, ⟨(some 37), none, .pick (.tmp 32) (.const (.bool true)) (.tmp 36)⟩] false [37]) (.cond (.tmp 37) (.seq (.ops [⟨(some 4), none, .mov (.const (.int .i64 1))⟩] false [4]) .ret) .skip)) (.seq (.ops [⟨(some 4), none, .mov (.const (.int .i64 0))⟩] false [4]) .ret))))))), false, false⟩
/-- outpost/value.Same -/
def A24 : An := (.node (.ops [1, 0]) (.node (.ops [6, 5]) (.node (.ops [4]) .leaf)))
def F24 : AFn := ⟨[(4, none)], (.seq (.ops [⟨(some 4), none, .mov (.const (.bool false))⟩] false [1, 0]) (.seq (.ops [⟨(some 7), none, .mov (.tmp 0)⟩, ⟨(some 8), none, .call 16 [(.tmp 7)]⟩, ⟨(some 9), none, .mov (.tmp 1)⟩, ⟨(some 10), none, .call 16 [(.tmp 9)]⟩, ⟨(some 5), none, .alloc [(.int .i64 0), (.int .i64 0), (.str []), .nils, (.int .i64 0), (.int .i64 0)]⟩, ⟨(some 6), none, .alloc [(.int .i64 0), (.int .i64 0), (.str []), .nils, (.int .i64 0), (.int .i64 0)]⟩, ⟨none, none, .store 6 (.tmp 5) (.tmp 8)⟩, ⟨none, none, .store 6 (.tmp 6) (.tmp 10)⟩] false [6, 5]) (.seq (.ops [⟨(some 11), none, .fieldA 0 (.tmp 5)⟩, ⟨(some 12), none, .load 1 false (.tmp 11)⟩, ⟨(some 13), none, .fieldA 0 (.tmp 6)⟩, ⟨(some 14), none, .load 1 false (.tmp 13)⟩, ⟨(some 15), none, .bin .eql (.tmp 12) (.tmp 14)⟩, ⟨(some 16), none, .mov (.tmp 15)⟩, ⟨(some 17), (some (16, true)), .fieldA 1 (.tmp 5)⟩, ⟨(some 18), (some (16, true)), .load 1 false (.tmp 17)⟩, ⟨(some 19), (some (16, true)), .fieldA 1 (.tmp 6)⟩, ⟨(some 20), (some (16, true)), .load 1 false (.tmp 19)⟩, ⟨(some 21), (some (16, true)), .bin .eql (.tmp 18) (.tmp 20)⟩, ⟨(some 22), none, .pick (.tmp 16) (.tmp 21) (.const (.bool false))⟩, ⟨(some 23), none, .mov (.tmp 22)⟩, ⟨(some 24), (some (23, true)), .fieldA 2 (.tmp 5)⟩, ⟨(some 25), (some (23, true)), .load 1 false (.tmp 24)⟩, ⟨(some 26), (some (23, true)), .fieldA 2 (.tmp 6)⟩, ⟨(some 27), (some (23, true)), .load 1 false (.tmp 26)⟩, ⟨(some 28), (some (23, true)), .bin .eql (.tmp 25) (.tmp 27)⟩, ⟨(some 29), none, .pick (.tmp 23) (.tmp 28) (.const (.bool false))⟩, ⟨(some 30), none, .mov (.tmp 29)⟩, ⟨(some 31), (some (30, true)), .fieldA 3 (.tmp 5)⟩, ⟨(some 32), (some (30, true)), .load 1 false (.tmp 31)⟩, ⟨(some 33), (some (30, true)), .fieldA 3 (.tmp 6)⟩, ⟨(some 34), (some (30, true)), .load 1 false (.tmp 33)⟩, ⟨(some 35), (some (30, true)), .call 41 [(.tmp 32), (.tmp 34)]⟩, ⟨(some 36), none, .pick (.tmp 30) (.tmp 35) (.const (.bool false))⟩, ⟨(some 37), none, .mov (.tmp 36)⟩, ⟨(some 38), (some (37, true)), .fieldA 4 (.tmp 5)⟩, ⟨(some 39), (some (37, true)), .load 1 false (.tmp 38)⟩, ⟨(some 40), (some (37, true)), .fieldA 4 (.tmp 6)⟩, ⟨(some 41), (some (37, true)), .load 1 false (.tmp 40)⟩, ⟨(some 42), (some (37, true)), .bin .eql (.tmp 39) (.tmp 41)⟩, ⟨(some 43), none, .pick (.tmp 37) (.tmp 42) (.const (.bool false))⟩, ⟨(some 44), none, .mov (.tmp 43)⟩, ⟨(some 45), (some (44, true)), .fieldA 5 (.tmp 5)⟩, ⟨(some 46), (some (44, true)), .load 1 false (.tmp 45)⟩, ⟨(some 47), (some (44, true)), .fieldA 5 (.tmp 6)⟩, ⟨(some 48), (some (44, true)), .load 1 false (.tmp 47)⟩, ⟨(some 49), (some (44, true)), .bin .eql (.tmp 46) (.tmp 48)⟩, ⟨(some 50), none, .pick (.tmp 44) (.tmp 49) (.const (.bool false))⟩, ⟨(some 4), none, .mov (.tmp 50)⟩] false [4]) .ret))), false, false⟩
/-- outpost/outpostref01.Copy -/
def A25 : An := (.node (.ops [0]) (.node (.ops [0, 3]) (.node (.node (.ops [4, 0, 3]) (.node (.loop [4, 0, 3] (.node (.node (.ops [9, 0, 4, 3]) (.node .leaf .leaf)) (.node (.node (.ops [0, 3, 4]) .leaf) (.ops [4, 0, 3])))) .leaf)) (.node (.ops [2]) .leaf))))
def F25 : AFn := ⟨[(2, none)], (.seq (.ops [⟨(some 2), none, .mov (.const .nils)⟩] false [0]) (.seq (.ops [⟨(some 5), none, .buildSl 1 false [(.int .u8 0)] 0 []⟩, ⟨(some 3), none, .mov (.tmp 5)⟩] false [0, 3]) (.seq (.seq (.ops [⟨(some 4), none, .mov (.const (.int .i64 0))⟩] false [4, 0, 3]) (.block 0 (.seq (.ops [] false [4, 0, 3]) (.loop (.seq (.seq (.seq (.ops [⟨(some 6), none, .mov (.tmp 4)⟩, ⟨(some 7), none, .mov (.tmp 0)⟩, ⟨(some 8), none, .len false (.tmp 7)⟩, ⟨(some 9), none, .bin .lss (.tmp 6) (.tmp 8)⟩] false [9, 0, 4, 3]) (.cond (.tmp 9) .skip (.exit 0))) (.seq (.block 1 (.ops [⟨(some 12), none, .mov (.tmp 3)⟩, ⟨(some 13), none, .mov (.tmp 0)⟩, ⟨(some 14), none, .mov (.tmp 4)⟩, ⟨(some 15), none, .idxA 1 (.tmp 13) (.tmp 14)⟩, ⟨(some 16), none, .load 1 false (.tmp 15)⟩, ⟨(some 17), none, .buildSl 1 false [(.int .u8 0)] 1 [(0, (.tmp 16))]⟩, ⟨(some 18), none, .appendT 5 1 (.tmp 12) (.tmp 17)⟩, ⟨(some 3), none, .mov (.tmp 18)⟩] false [0, 3, 4])) (.ops [⟨(some 10), none, .mov (.tmp 4)⟩, ⟨(some 11), none, .bin .add (.tmp 10) (.const (.int .i64 1))⟩, ⟨(some 4), none, .mov (.tmp 11)⟩] false [4, 0, 3]))) (.ops [] false [4, 0, 3])))))) (.seq (.ops [⟨(some 19), none, .mov (.tmp 3)⟩, ⟨(some 2), none, .mov (.tmp 19)⟩] false [2]) .ret)))), false, false⟩
/-- outpost/plain.Write -/
def A26 : An := (.node (.ops [1]) (.node (.node (.node (.ops [4, 1]) (.node (.node (.ops [2, 3]) .leaf) (.node (.ops [9, 1]) (.node (.node (.ops [2, 3]) .leaf) .leaf)))) .leaf) (.node (.node (.ops [1, 14]) (.node (.node (.ops [15, 1, 14]) (.node (.node (.ops [2, 3]) .leaf) (.node (.ops [19, 1, 14]) (.node (.node (.ops [2, 3]) .leaf) (.node (.ops [24, 1]) (.node (.node (.ops [2, 3]) .leaf) .leaf)))))) .leaf)) (.node (.ops [2, 3]) .leaf))))
def F26 : AFn := ⟨[(2, none), (3, none)], (.seq (.ops [⟨(some 1), none, .box 6 (.tmp 0)⟩, ⟨(some 2), none, .mov (.const (.str []))⟩, ⟨(some 3), none, .mov (.const (.int .i64 0))⟩] false [1]) (.seq (.block 0 (.seq (.ops [⟨(some 5), none, .fieldA 0 (.tmp 1)⟩, ⟨(some 6), none, .load 1 false (.tmp 5)⟩, ⟨(some 7), none, .call 42 [(.tmp 6)]⟩, ⟨(some 8), none, .un .not (.tmp 7)⟩, ⟨(some 4), none, .mov (.tmp 8)⟩] false [4, 1]) (.cond (.tmp 4) (.seq (.ops [⟨(some 2), none, .mov (.const (.str []))⟩, ⟨(some 3), none, .mov (.const (.int .i64 70))⟩] false [2, 3]) .ret) (.seq (.ops [⟨(some 10), none, .load 6 true (.tmp 1)⟩, ⟨(some 11), none, .call 43 [(.tmp 10)]⟩, ⟨(some 12), none, .un .not (.tmp 11)⟩, ⟨(some 9), none, .mov (.tmp 12)⟩] false [9, 1]) (.cond (.tmp 9) (.seq (.ops [⟨(some 2), none, .mov (.const (.str []))⟩, ⟨(some 3), none, .mov (.const (.int .i64 1))⟩] false [2, 3]) .ret) .skip))))) (.seq (.seq (.ops [⟨(some 13), none, .fieldA 0 (.tmp 1)⟩, ⟨(some 14), none, .load 1 false (.tmp 13)⟩] false [1, 14]) (.block 1 (.seq (.ops [⟨(some 16), none, .bin .eql (.tmp 14) (.const (.int .i64 3))⟩, ⟨(some 15), none, .mov (.tmp 16)⟩] false [15, 1, 14]) (.cond (.tmp 15) (.seq (.ops [⟨(some 17), none, .fieldA 2 (.tmp 1)⟩, ⟨(some 18), none, .load 1 false (.tmp 17)⟩, ⟨(some 2), none, .mov (.tmp 18)⟩, ⟨(some 3), none, .mov (.const (.int .i64 0))⟩] false [2, 3]) .ret) (.seq (.ops [⟨(some 20), none, .bin .eql (.tmp 14) (.const (.int .i64 4))⟩, ⟨(some 19), none, .mov (.tmp 20)⟩] false [19, 1, 14]) (.cond (.tmp 19) (.seq (.ops [⟨(some 21), none, .fieldA 3 (.tmp 1)⟩, ⟨(some 22), none, .load 1 false (.tmp 21)⟩, ⟨(some 23), none, .call 44 [(.tmp 22)]⟩, ⟨(some 2), none, .mov (.tmp 23)⟩, ⟨(some 3), none, .mov (.const (.int .i64 0))⟩] false [2, 3]) .ret) (.seq (.ops [⟨(some 25), none, .bin .eql (.tmp 14) (.const (.int .i64 6))⟩, ⟨(some 24), none, .mov (.tmp 25)⟩] false [24, 1]) (.cond (.tmp 24) (.seq (.ops [⟨(some 26), none, .fieldA 4 (.tmp 1)⟩, ⟨(some 27), none, .load 1 false (.tmp 26)⟩, ⟨(some 28), none, .callQ 30 [(.tmp 27)]⟩, ⟨(some 29), none, .bin .add (.tmp 28) (.const (.str [58]))⟩, ⟨(some 30), none, .fieldA 5 (.tmp 1)⟩, ⟨(some 31), none, .load 1 false (.tmp 30)⟩, ⟨(some 32), none, .call 30 [(.tmp 31)]⟩, ⟨(some 33), none, .bin .add (.tmp 29) (.tmp 32)⟩, ⟨(some 2), none, .mov (.tmp 33)⟩, ⟨(some 3), none, .mov (.const (.int .i64 0))⟩] false [2, 3]) .ret) .skip)))))))) (.seq (.ops [⟨(some 34), none, .fieldA 1 (.tmp 1)⟩, ⟨(some 35), none, .load 1 false (.tmp 34)⟩, ⟨(some 36), none, .call 31 [(.tmp 35), (.const (.int .i64 10))]⟩, ⟨(some 2), none, .mov (.tmp 36)⟩, ⟨(some 3), none, .mov (.const (.int .i64 0))⟩] false [2, 3]) .ret)))), false, false⟩
/-- slices.Clone[[]byte,byte] -/
def A27 : An := (.node (.ops [0]) (.node (.node (.ops [4, 0]) (.node (.node (.ops [2]) .leaf) .leaf)) (.node (.ops [2]) .leaf)))
def F27 : AFn := ⟨[(2, none)], (.seq (.ops [⟨(some 2), none, .mov (.const .nils)⟩] false [0]) (.seq (.seq (.ops [⟨(some 3), none, .mov (.tmp 0)⟩, ⟨(some 4), none, .isnil 1 false (.tmp 3)⟩] false [4, 0]) (.cond (.tmp 4) (.seq (.ops [⟨(some 2), none, .mov (.const .nils)⟩] false [2]) .ret) .skip)) (.seq (.ops [⟨(some 5), none, .buildSl 1 false [(.int .u8 0)] 0 []⟩, ⟨(some 6), none, .mov (.tmp 0)⟩, ⟨(some 7), none, .appendBox 1 (.tmp 5) (.tmp 6)⟩, ⟨(some 2), none, .mov (.tmp 7)⟩] false [2]) .ret))), false, true⟩
/-- outpost/outpostref13.Right -/
def A28 : An := (.node (.ops [1]) (.node (.ops [1, 3]) (.node (.node (.ops [55, 1, 3]) (.node (.node (.ops [2]) .leaf) .leaf)) (.node (.node (.ops [1, 56]) (.node (.node (.node (.ops [57, 1, 56]) (.node .leaf (.ops [57, 1, 56]))) (.pre [57, 1, 56] (.node (.node (.ops [2]) .leaf) (.node (.ops [60, 1, 56]) (.node (.node (.ops [2]) .leaf) (.node (.ops [70, 1, 56]) (.node (.node (.ops [1, 5]) (.node (.ops [2]) .leaf)) (.node (.ops [85, 1, 56]) (.node (.node (.ops [2]) .leaf) (.node (.ops [91, 1]) (.node (.node (.ops [2]) .leaf) .leaf))))))))))) .leaf)) (.node (.ops [2]) .leaf)))))
def F28 : AFn := ⟨[(2, none)], (.seq (.ops [⟨(some 1), none, .box 6 (.tmp 0)⟩, ⟨(some 2), none, .mov (.const (.bool false))⟩] false [1]) (.seq (.ops [⟨(some 6), none, .fieldA 0 (.tmp 1)⟩, ⟨(some 7), none, .load 1 false (.tmp 6)⟩, ⟨(some 3), none, .mov (.tmp 7)⟩] false [1, 3]) (.seq (.seq (.ops [⟨(some 8), none, .mov (.tmp 3)⟩, ⟨(some 9), none, .bin .neq (.tmp 8) (.const (.int .i64 1))⟩, ⟨(some 10), none, .mov (.tmp 9)⟩, ⟨(some 11), (some (10, true)), .mov (.tmp 3)⟩, ⟨(some 12), (some (10, true)), .bin .neq (.tmp 11) (.const (.int .i64 2))⟩, ⟨(some 13), none, .pick (.tmp 10) (.tmp 12) (.const (.bool false))⟩, ⟨(some 14), none, .mov (.tmp 13)⟩, ⟨(some 15), (some (14, true)), .mov (.tmp 3)⟩, ⟨(some 16), (some (14, true)), .bin .neq (.tmp 15) (.const (.int .i64 5))⟩, ⟨(some 17), none, .pick (.tmp 14) (.tmp 16) (.const (.bool false))⟩, ⟨(some 18), none, .mov (.tmp 17)⟩, ⟨(some 19), (some (18, true)), .fieldA 1 (.tmp 1)⟩, ⟨(some 20), (some (18, true)), .load 1 false (.tmp 19)⟩, ⟨(some 21), (some (18, true)), .bin .neq (.tmp 20) (.const (.int .i64 0))⟩, ⟨(some 22), none, .pick (.tmp 18) (.tmp 21) (.const (.bool false))⟩, ⟨(some 23), none, .mov (.tmp 22)⟩, ⟨(some 24), (some (23, false)), .mov (.tmp 3)⟩, ⟨(some 25), (some (23, false)), .bin .neq (.tmp 24) (.const (.int .i64 3))⟩, ⟨(some 26), (some (23, false)), .mov (.tmp 25)⟩, ⟨(some 27), (some (26, true)), .fieldA 2 (.tmp 1)⟩, ⟨(some 28), (some (26, true)), .load 1 false (.tmp 27)⟩, ⟨(some 29), (some (26, true)), .bin .neq (.tmp 28) (.const (.str []))⟩, ⟨(some 30), (some (23, false)), .pick (.tmp 26) (.tmp 29) (.const (.bool false))⟩, ⟨(some 31), none, .pick (.tmp 23) (.const (.bool true)) (.tmp 30)⟩, ⟨(some 32), none, .mov (.tmp 31)⟩, ⟨(some 33), (some (32, false)), .mov (.tmp 3)⟩, ⟨(some 34), (some (32, false)), .bin .neq (.tmp 33) (.const (.int .i64 4))⟩, ⟨(some 35), (some (32, false)), .mov (.tmp 34)⟩, ⟨(some 36), (some (35, true)), .fieldA 3 (.tmp 1)⟩, ⟨(some 37), (some (35, true)), .load 1 false (.tmp 36)⟩, ⟨(some 38), (some (35, true)), .len false (.tmp 37)⟩, ⟨(some 39), (some (35, true)), .bin .gtr (.tmp 38) (.const (.int .i64 0))⟩, ⟨(some 40), (some (32, false)), .pick (.tmp 35) (.tmp 39) (.const (.bool false))⟩, ⟨(some 41), none, .pick (.tmp 32) (.const (.bool true)) (.tmp 40)⟩, ⟨(some 42), none, .mov (.tmp 41)⟩, ⟨(some 43), (some (42, false)), .mov (.tmp 3)⟩, ⟨(some 44), (some (42, false)), .bin .neq (.tmp 43) (.const (.int .i64 6))⟩, ⟨(some 45), (some (42, false)), .mov (.tmp 44)⟩, ⟨(some 46), (some (45, true)), .fieldA 4 (.tmp 1)⟩, ⟨(some 47), (some (45, true)), .load 1 false (.tmp 46)⟩, ⟨(some 48), (some (45, true)), .bin .neq (.tmp 47) (.const (.int .i64 0))⟩, ⟨(some 49), (some (45, true)), .mov (.tmp 48)⟩, ⟨(some 50), (some (49, false)), .fieldA 5 (.tmp 1)⟩, ⟨(some 51), (some (49, false)), .load 1 false (.tmp 50)⟩, ⟨(some 52), (some (49, false)), .bin .neq (.tmp 51) (.const (.int .i64 0))⟩, ⟨(some 53), (some (45, true)), .pick (.tmp 49) (.const (.bool true)) (.tmp 52)⟩, ⟨(some 54), (some (42, false)), .pick (.tmp 45) (.tmp 53) (.const (.bool false))⟩, ⟨(some 55), none, .pick (.tmp 42) (.const (.bool true)) (.tmp 54)⟩] false [55, 1, 3]) (.cond (.tmp 55) (.seq (.ops [⟨(some 2), none, .mov (.const (.bool false))⟩] false [2]) .ret) .skip)) (.seq (.seq (.ops [⟨(some 56), none, .mov (.tmp 3)⟩] false [1, 56]) (.block 0 (.seq (.seq (.ops [⟨(some 58), none, .bin .eql (.tmp 56) (.const (.int .i64 1))⟩, ⟨(some 57), none, .mov (.tmp 58)⟩] false [57, 1, 56]) (.cond (.tmp 57) .skip (.ops [⟨(some 59), none, .bin .eql (.tmp 56) (.const (.int .i64 5))⟩, ⟨(some 57), none, .mov (.tmp 59)⟩] false [57, 1, 56]))) (.seq (.ops [] false [57, 1, 56]) (.cond (.tmp 57) (.seq (.ops [⟨(some 2), none, .mov (.const (.bool true))⟩] false [2]) .ret) (.seq (.ops [⟨(some 61), none, .bin .eql (.tmp 56) (.const (.int .i64 2))⟩, ⟨(some 60), none, .mov (.tmp 61)⟩] false [60, 1, 56]) (.cond (.tmp 60) (.seq (.ops [⟨(some 62), none, .fieldA 1 (.tmp 1)⟩, ⟨(some 63), none, .load 1 false (.tmp 62)⟩, ⟨(some 64), none, .bin .eql (.tmp 63) (.const (.int .i64 0))⟩, ⟨(some 65), none, .mov (.tmp 64)⟩, ⟨(some 66), (some (65, false)), .fieldA 1 (.tmp 1)⟩, ⟨(some 67), (some (65, false)), .load 1 false (.tmp 66)⟩, ⟨(some 68), (some (65, false)), .bin .eql (.tmp 67) (.const (.int .i64 1))⟩, ⟨(some 69), none, .pick (.tmp 65) (.const (.bool true)) (.tmp 68)⟩, ⟨(some 2), none, .mov (.tmp 69)⟩] false [2]) .ret) (.seq (.ops [⟨(some 71), none, .bin .eql (.tmp 56) (.const (.int .i64 3))⟩, ⟨(some 70), none, .mov (.tmp 71)⟩] false [70, 1, 56]) (.cond (.tmp 70) (.seq (.ops [⟨(some 73), none, .fieldA 2 (.tmp 1)⟩, ⟨(some 74), none, .load 1 false (.tmp 73)⟩, ⟨(some 75), none, .call 39 [(.tmp 74)]⟩, ⟨(some 72), none, .mov (.tmp 75)⟩, ⟨(some 76), none, .extract (.tmp 72) 0⟩, ⟨(some 77), none, .extract (.tmp 72) 1⟩, ⟨(some 4), none, .mov (.tmp 76)⟩, ⟨(some 5), none, .mov (.tmp 77)⟩] false [1, 5]) (.seq (.ops [⟨(some 78), none, .mov (.tmp 5)⟩, ⟨(some 79), none, .mov (.tmp 78)⟩, ⟨(some 80), (some (79, true)), .fieldA 2 (.tmp 1)⟩, ⟨(some 81), (some (79, true)), .load 1 false (.tmp 80)⟩, ⟨(some 82), (some (79, true)), .len true (.tmp 81)⟩, ⟨(some 83), (some (79, true)), .bin .leq (.tmp 82) (.const (.int .i64 200))⟩, ⟨(some 84), none, .pick (.tmp 79) (.tmp 83) (.const (.bool false))⟩, ⟨(some 2), none, .mov (.tmp 84)⟩] false [2]) .ret)) (.seq (.ops [⟨(some 86), none, .bin .eql (.tmp 56) (.const (.int .i64 4))⟩, ⟨(some 85), none, .mov (.tmp 86)⟩] false [85, 1, 56]) (.cond (.tmp 85) (.seq (.ops [⟨(some 87), none, .fieldA 3 (.tmp 1)⟩, ⟨(some 88), none, .load 1 false (.tmp 87)⟩, ⟨(some 89), none, .len false (.tmp 88)⟩, ⟨(some 90), none, .bin .leq (.tmp 89) (.const (.int .i64 200))⟩, ⟨(some 2), none, .mov (.tmp 90)⟩] false [2]) .ret) (.seq (.ops [⟨(some 92), none, .bin .eql (.tmp 56) (.const (.int .i64 6))⟩, ⟨(some 91), none, .mov (.tmp 92)⟩] false [91, 1]) (.cond (.tmp 91) (.seq (.ops [⟨(some 93), none, .fieldA 4 (.tmp 1)⟩, ⟨(some 94), none, .load 1 false (.tmp 93)⟩, ⟨(some 95), none, .bin .geq (.tmp 94) (.const (.int .i64 0))⟩, ⟨(some 96), none, .mov (.tmp 95)⟩, ⟨(some 97), (some (96, true)), .fieldA 4 (.tmp 1)⟩, ⟨(some 98), (some (96, true)), .load 1 false (.tmp 97)⟩, ⟨(some 99), (some (96, true)), .bin .leq (.tmp 98) (.const (.int .i64 65535))⟩, ⟨(some 100), none, .pick (.tmp 96) (.tmp 99) (.const (.bool false))⟩, ⟨(some 101), none, .mov (.tmp 100)⟩, ⟨(some 102), (some (101, true)), .fieldA 5 (.tmp 1)⟩, ⟨(some 103), (some (101, true)), .load 1 false (.tmp 102)⟩, ⟨(some 104), (some (101, true)), .bin .geq (.tmp 103) (.const (.int .i64 0))⟩, ⟨(some 105), none, .pick (.tmp 101) (.tmp 104) (.const (.bool false))⟩, ⟨(some 106), none, .mov (.tmp 105)⟩, ⟨(some 107), (some (106, true)), .fieldA 5 (.tmp 1)⟩, ⟨(some 108), (some (106, true)), .load 1 false (.tmp 107)⟩, ⟨(some 109), (some (106, true)), .bin .leq (.tmp 108) (.const (.int .i64 65535))⟩, ⟨(some 110), none, .pick (.tmp 106) (.tmp 109) (.const (.bool false))⟩, ⟨(some 2), none, .mov (.tmp 110)⟩] false [2]) .ret) .skip))))))))))))) (.seq (.ops [⟨(some 2), none, .mov (.const (.bool false))⟩] false [2]) .ret))))), false, false⟩
/-- outpost/outpostref13.Base64 -/
def A29 : An := (.node (.ops [0]) (.node (.ops [3, 0]) (.node (.ops [3, 5, 0, 4]) (.node (.node (.ops [3, 6, 5, 0, 4]) (.node (.loop [3, 6, 5, 0, 4] (.node (.node (.ops [11, 3, 0, 6, 5, 4]) (.node .leaf .leaf)) (.node (.node (.node (.ops [4, 3, 0, 6, 5]) (.node (.ops [4, 3, 5, 0, 6]) (.node (.node (.loop [4, 3, 5, 0, 6] (.node (.node (.ops [25, 4, 0, 6, 3, 5]) (.node .leaf .leaf)) (.node (.node (.ops [4, 5, 0, 6, 3]) (.ops [4, 3, 5, 0, 6])) .leaf))) .leaf) (.ops [3, 5, 0, 4, 6])))) .leaf) (.ops [3, 6, 5, 0, 4])))) .leaf)) (.node (.node (.ops [39, 5, 4, 3]) (.node (.ops [3]) .leaf)) (.pre [3] (.node (.node (.loop [3] (.node (.node (.ops [52, 3]) (.node .leaf .leaf)) (.node (.ops [3]) .leaf))) .leaf) (.node (.ops [2]) .leaf))))))))
def F29 : AFn := ⟨[(2, none)], (.seq (.ops [⟨(some 2), none, .mov (.const (.str []))⟩] false [0]) (.seq (.ops [⟨(some 7), none, .buildSl 1 false [(.int .u8 0)] 0 []⟩, ⟨(some 3), none, .mov (.tmp 7)⟩] false [3, 0]) (.seq (.ops [⟨(some 4), none, .mov (.const (.int .i64 0))⟩, ⟨(some 5), none, .mov (.const (.int .i64 0))⟩] false [3, 5, 0, 4]) (.seq (.seq (.ops [⟨(some 6), none, .mov (.const (.int .i64 0))⟩] false [3, 6, 5, 0, 4]) (.block 0 (.seq (.ops [] false [3, 6, 5, 0, 4]) (.loop (.seq (.seq (.seq (.ops [⟨(some 8), none, .mov (.tmp 6)⟩, ⟨(some 9), none, .mov (.tmp 0)⟩, ⟨(some 10), none, .len false (.tmp 9)⟩, ⟨(some 11), none, .bin .lss (.tmp 8) (.tmp 10)⟩] false [11, 3, 0, 6, 5, 4]) (.cond (.tmp 11) .skip (.exit 0))) (.seq (.block 1 (.seq (.ops [⟨(some 14), none, .mov (.tmp 4)⟩, ⟨(some 15), none, .bin .mul (.tmp 14) (.const (.int .i64 256))⟩, ⟨(some 16), none, .mov (.tmp 0)⟩, ⟨(some 17), none, .mov (.tmp 6)⟩, ⟨(some 18), none, .idxA 1 (.tmp 16) (.tmp 17)⟩, ⟨(some 19), none, .load 1 false (.tmp 18)⟩, ⟨(some 20), none, .toInt .i64 (.tmp 19)⟩, ⟨(some 21), none, .bin .add (.tmp 15) (.tmp 20)⟩, ⟨(some 4), none, .mov (.tmp 21)⟩] false [4, 3, 0, 6, 5]) (.seq (.ops [⟨(some 22), none, .mov (.tmp 5)⟩, ⟨(some 23), none, .bin .add (.tmp 22) (.const (.int .i64 8))⟩, ⟨(some 5), none, .mov (.tmp 23)⟩] false [4, 3, 5, 0, 6]) (.seq (.block 2 (.seq (.ops [] false [4, 3, 5, 0, 6]) (.loop (.seq (.seq (.seq (.ops [⟨(some 24), none, .mov (.tmp 5)⟩, ⟨(some 25), none, .bin .geq (.tmp 24) (.const (.int .i64 6))⟩] false [25, 4, 0, 6, 3, 5]) (.cond (.tmp 25) .skip (.exit 2))) (.block 3 (.seq (.ops [⟨(some 26), none, .mov (.tmp 5)⟩, ⟨(some 27), none, .bin .sub (.tmp 26) (.const (.int .i64 6))⟩, ⟨(some 5), none, .mov (.tmp 27)⟩] false [4, 5, 0, 6, 3]) (.ops [⟨(some 28), none, .mov (.tmp 3)⟩, ⟨(some 29), none, .mov (.tmp 4)⟩, ⟨(some 30), none, .mov (.tmp 5)⟩, ⟨(some 31), none, .bin .shr (.tmp 29) (.tmp 30)⟩, ⟨(some 32), none, .bin .and (.tmp 31) (.const (.int .i64 63))⟩, ⟨(some 33), none, .call 45 [(.tmp 32)]⟩, ⟨(some 34), none, .buildSl 1 false [(.int .u8 0)] 1 [(0, (.tmp 33))]⟩, ⟨(some 35), none, .appendT 5 1 (.tmp 28) (.tmp 34)⟩, ⟨(some 3), none, .mov (.tmp 35)⟩] false [4, 3, 5, 0, 6])))) (.ops [] false [4, 3, 5, 0, 6]))))) (.ops [⟨(some 36), none, .mov (.tmp 4)⟩, ⟨(some 37), none, .bin .and (.tmp 36) (.const (.int .i64 63))⟩, ⟨(some 4), none, .mov (.tmp 37)⟩] false [3, 5, 0, 4, 6]))))) (.ops [⟨(some 12), none, .mov (.tmp 6)⟩, ⟨(some 13), none, .bin .add (.tmp 12) (.const (.int .i64 1))⟩, ⟨(some 6), none, .mov (.tmp 13)⟩] false [3, 6, 5, 0, 4]))) (.ops [] false [3, 6, 5, 0, 4])))))) (.seq (.seq (.ops [⟨(some 38), none, .mov (.tmp 5)⟩, ⟨(some 39), none, .bin .gtr (.tmp 38) (.const (.int .i64 0))⟩] false [39, 5, 4, 3]) (.cond (.tmp 39) (.ops [⟨(some 40), none, .mov (.tmp 3)⟩, ⟨(some 41), none, .mov (.tmp 4)⟩, ⟨(some 42), none, .mov (.tmp 5)⟩, ⟨(some 43), none, .bin .sub (.const (.int .i64 6)) (.tmp 42)⟩, ⟨(some 44), none, .bin .shl (.tmp 41) (.tmp 43)⟩, ⟨(some 45), none, .bin .and (.tmp 44) (.const (.int .i64 63))⟩, ⟨(some 46), none, .call 45 [(.tmp 45)]⟩, ⟨(some 47), none, .buildSl 1 false [(.int .u8 0)] 1 [(0, (.tmp 46))]⟩, ⟨(some 48), none, .appendT 5 1 (.tmp 40) (.tmp 47)⟩, ⟨(some 3), none, .mov (.tmp 48)⟩] false [3]) .skip)) (.seq (.ops [] false [3]) (.seq (.block 4 (.seq (.ops [] false [3]) (.loop (.seq (.seq (.seq (.ops [⟨(some 49), none, .mov (.tmp 3)⟩, ⟨(some 50), none, .len false (.tmp 49)⟩, ⟨(some 51), none, .bin .rem (.tmp 50) (.const (.int .i64 4))⟩, ⟨(some 52), none, .bin .neq (.tmp 51) (.const (.int .i64 0))⟩] false [52, 3]) (.cond (.tmp 52) .skip (.exit 4))) (.block 5 (.ops [⟨(some 53), none, .mov (.tmp 3)⟩, ⟨(some 54), none, .buildSl 1 false [(.int .u8 0)] 1 [(0, (.const (.int .u8 61)))]⟩, ⟨(some 55), none, .appendT 5 1 (.tmp 53) (.tmp 54)⟩, ⟨(some 3), none, .mov (.tmp 55)⟩] false [3]))) (.ops [] false [3]))))) (.seq (.ops [⟨(some 56), none, .mov (.tmp 3)⟩, ⟨(some 57), none, .bytesStr (.tmp 56)⟩, ⟨(some 2), none, .mov (.tmp 57)⟩] false [2]) .ret)))))))), false, false⟩
/-- outpost/value.truth -/
def A32 : An := (.node (.ops [0]) (.node (.node (.ops [3]) (.node (.node (.ops [2]) .leaf) .leaf)) (.node (.ops [2]) .leaf)))
def F32 : AFn := ⟨[(2, none)], (.seq (.ops [⟨(some 2), none, .mov (.const (.int .i64 0))⟩] false [0]) (.seq (.seq (.ops [⟨(some 3), none, .mov (.tmp 0)⟩] false [3]) (.cond (.tmp 3) (.seq (.ops [⟨(some 2), none, .mov (.const (.int .i64 1))⟩] false [2]) .ret) .skip)) (.seq (.ops [⟨(some 2), none, .mov (.const (.int .i64 0))⟩] false [2]) .ret))), false, false⟩
/-- outpost/value.MustBytes -/
def A34 : An := (.node (.ops [0]) (.node (.ops [2]) .leaf))
def F34 : AFn := ⟨[(2, none)], (.seq (.ops [⟨(some 2), none, .mov (.const .nils)⟩] false [0]) (.seq (.ops [⟨(some 3), none, .mov (.tmp 0)⟩, ⟨(some 4), none, .tassert 62 false .nils (.tmp 3)⟩, ⟨(some 5), none, .call 27 [(.tmp 4)]⟩, ⟨(some 2), none, .mov (.tmp 5)⟩] false [2]) .ret)), false, false⟩
/-- outpost/value.laid -/
def A35 : An := (.node (.ops [0, 1]) (.node (.ops [0, 1, 5]) (.node (.node (.ops [10, 0, 1, 5, 9]) (.node (.loop [10, 0, 1, 5, 9] (.node (.ops [11, 0, 1, 5, 9, 10]) (.node (.node .leaf .leaf) (.node (.node (.node (.ops [0, 1, 5, 9, 10, 6]) (.ops [0, 1, 5, 9, 10])) .leaf) (.ops [10, 0, 1, 5, 9]))))) .leaf)) (.node (.ops [4]) .leaf))))
def F35 : AFn := ⟨[(4, none)], (.seq (.ops [⟨(some 4), none, .mov (.const .nils)⟩] false [0, 1]) (.seq (.ops [⟨(some 7), none, .mov (.tmp 1)⟩, ⟨(some 8), none, .makeSl 5 [(.int .u8 0)] false (.tmp 7) (.tmp 7)⟩, ⟨(some 5), none, .mov (.tmp 8)⟩] false [0, 1, 5]) (.seq (.seq (.ops [⟨(some 9), none, .mov (.tmp 1)⟩, ⟨(some 10), none, .mov (.const (.int .i64 0))⟩] false [10, 0, 1, 5, 9]) (.block 0 (.seq (.ops [] false [10, 0, 1, 5, 9]) (.loop (.seq (.seq (.ops [⟨(some 11), none, .bin .lss (.tmp 10) (.tmp 9)⟩] false [11, 0, 1, 5, 9, 10]) (.seq (.cond (.tmp 11) .skip (.exit 0)) (.seq (.block 1 (.seq (.ops [⟨(some 12), none, .mov (.tmp 10)⟩, ⟨(some 6), none, .mov (.tmp 12)⟩] false [0, 1, 5, 9, 10, 6]) (.ops [⟨(some 13), none, .mov (.tmp 5)⟩, ⟨(some 14), none, .mov (.tmp 1)⟩, ⟨(some 15), none, .bin .sub (.tmp 14) (.const (.int .i64 1))⟩, ⟨(some 16), none, .mov (.tmp 6)⟩, ⟨(some 17), none, .bin .sub (.tmp 15) (.tmp 16)⟩, ⟨(some 18), none, .mov (.tmp 0)⟩, ⟨(some 19), none, .mov (.tmp 6)⟩, ⟨(some 20), none, .bin .mul (.const (.int .i64 8)) (.tmp 19)⟩, ⟨(some 21), none, .bin .shr (.tmp 18) (.tmp 20)⟩, ⟨(some 22), none, .toInt .u8 (.tmp 21)⟩, ⟨(some 23), none, .idxA 1 (.tmp 13) (.tmp 17)⟩, ⟨none, none, .store 1 (.tmp 23) (.tmp 22)⟩] false [0, 1, 5, 9, 10]))) (.ops [⟨(some 24), none, .bin .add (.tmp 10) (.const (.int .i64 1))⟩, ⟨(some 10), none, .mov (.tmp 24)⟩] false [10, 0, 1, 5, 9])))) (.ops [] false [10, 0, 1, 5, 9])))))) (.seq (.ops [⟨(some 25), none, .mov (.tmp 5)⟩, ⟨(some 4), none, .mov (.tmp 25)⟩] false [4]) .ret)))), false, true⟩
/-- outpost/value.width -/
def A36 : An := (.node (.ops [0]) (.node (.node (.node (.ops [3, 0]) (.node (.node (.ops [2]) .leaf) (.node (.ops [9, 0]) (.node (.node (.ops [2]) .leaf) (.node (.ops [15]) (.node (.node (.ops [2]) .leaf) .leaf)))))) .leaf) (.node (.ops [2]) .leaf)))
def F36 : AFn := ⟨[(2, none)], (.seq (.ops [⟨(some 2), none, .mov (.const (.int .i64 0))⟩] false [0]) (.seq (.block 0 (.seq (.ops [⟨(some 4), none, .mov (.tmp 0)⟩, ⟨(some 5), none, .mov (.tmp 0)⟩, ⟨(some 6), none, .toInt .i8 (.tmp 5)⟩, ⟨(some 7), none, .toInt .i64 (.tmp 6)⟩, ⟨(some 8), none, .bin .eql (.tmp 4) (.tmp 7)⟩, ⟨(some 3), none, .mov (.tmp 8)⟩] false [3, 0]) (.cond (.tmp 3) (.seq (.ops [⟨(some 2), none, .mov (.const (.int .i64 1))⟩] false [2]) .ret) (.seq (.ops [⟨(some 10), none, .mov (.tmp 0)⟩, ⟨(some 11), none, .mov (.tmp 0)⟩, ⟨(some 12), none, .toInt .i16 (.tmp 11)⟩, ⟨(some 13), none, .toInt .i64 (.tmp 12)⟩, ⟨(some 14), none, .bin .eql (.tmp 10) (.tmp 13)⟩, ⟨(some 9), none, .mov (.tmp 14)⟩] false [9, 0]) (.cond (.tmp 9) (.seq (.ops [⟨(some 2), none, .mov (.const (.int .i64 2))⟩] false [2]) .ret) (.seq (.ops [⟨(some 16), none, .mov (.tmp 0)⟩, ⟨(some 17), none, .mov (.tmp 0)⟩, ⟨(some 18), none, .toInt .i32 (.tmp 17)⟩, ⟨(some 19), none, .toInt .i64 (.tmp 18)⟩, ⟨(some 20), none, .bin .eql (.tmp 16) (.tmp 19)⟩, ⟨(some 15), none, .mov (.tmp 20)⟩] false [15]) (.cond (.tmp 15) (.seq (.ops [⟨(some 2), none, .mov (.const (.int .i64 4))⟩] false [2]) .ret) .skip))))))) (.seq (.ops [⟨(some 2), none, .mov (.const (.int .i64 8))⟩] false [2]) .ret))), false, false⟩
/-- outpost/outpostref14.within -/
def A37 : An := (.node (.ops [0, 1]) (.node (.ops [0, 1, 5]) (.node (.node (.ops [7, 0, 1, 5]) (.node (.ops [0, 5, 1]) .leaf)) (.node (.node (.ops [9, 0, 5]) (.node (.ops [5, 0]) .leaf)) (.node (.ops [4]) .leaf)))))
def F37 : AFn := ⟨[(4, none)], (.seq (.ops [⟨(some 4), none, .mov (.const (.bool false))⟩] false [0, 1]) (.seq (.ops [⟨(some 5), none, .mov (.const (.int .i64 127))⟩] false [0, 1, 5]) (.seq (.seq (.ops [⟨(some 6), none, .mov (.tmp 1)⟩, ⟨(some 7), none, .bin .eql (.tmp 6) (.const (.int .i64 2))⟩] false [7, 0, 1, 5]) (.cond (.tmp 7) (.ops [⟨(some 5), none, .mov (.const (.int .i64 32767))⟩] false [0, 5, 1]) .skip)) (.seq (.seq (.ops [⟨(some 8), none, .mov (.tmp 1)⟩, ⟨(some 9), none, .bin .eql (.tmp 8) (.const (.int .i64 4))⟩] false [9, 0, 5]) (.cond (.tmp 9) (.ops [⟨(some 5), none, .mov (.const (.int .i64 2147483647))⟩] false [5, 0]) .skip)) (.seq (.ops [⟨(some 10), none, .mov (.tmp 0)⟩, ⟨(some 11), none, .mov (.tmp 5)⟩, ⟨(some 12), none, .bin .leq (.tmp 10) (.tmp 11)⟩, ⟨(some 13), none, .mov (.tmp 12)⟩, ⟨(some 14), (some (13, true)), .mov (.tmp 0)⟩, ⟨(some 15), (some (13, true)), .mov (.tmp 5)⟩, ⟨(some 16), (some (13, true)), .un .neg (.tmp 15)⟩, ⟨(some 17), (some (13, true)), .bin .sub (.tmp 16) (.const (.int .i64 1))⟩, ⟨(some 18), (some (13, true)), .bin .geq (.tmp 14) (.tmp 17)⟩, ⟨(some 19), none, .pick (.tmp 13) (.tmp 18) (.const (.bool false))⟩, ⟨(some 4), none, .mov (.tmp 19)⟩] false [4]) .ret))))), false, false⟩
/-- outpost/value.unwire -/
def A38 : An := (.node (.ops [4, 1, 0]) (.node (.ops [4, 6, 1, 0]) (.node (.ops [4, 6, 1, 7, 0]) (.node (.node (.ops [4, 6, 1, 7, 0, 10]) (.node (.node (.node (.ops [12, 4, 6, 1, 7, 0, 10]) (.node .leaf (.ops [12, 4, 6, 1, 7, 0, 10]))) (.pre [12, 4, 6, 1, 7, 0, 10] (.node (.ops [4, 6, 7]) (.node (.ops [21, 4, 6, 1, 7, 0, 10]) (.node (.node (.ops [4, 6, 7, 1]) (.node (.ops [32, 4, 6, 7, 1]) (.node (.ops [4, 6, 7]) .leaf))) (.node (.node (.ops [38, 4, 6, 7, 1, 0, 10]) (.node .leaf (.ops [38, 4, 6, 7, 1, 0, 10]))) (.pre [38, 4, 6, 7, 1, 0, 10] (.node (.node (.node (.ops [43, 4, 6, 7, 1, 0]) (.node (.node (.ops [4, 5]) .leaf) .leaf)) (.node (.node (.ops [46, 4, 6, 7, 1]) (.node (.node (.ops [4, 6, 7]) .leaf) .leaf)) (.node (.ops [4, 6, 7, 1]) (.ops [4, 6, 7])))) (.node (.ops [58, 4, 6, 1]) (.node (.node (.ops [4, 6, 7, 1]) (.node (.ops [63, 4, 6, 7, 1]) (.node (.ops [4, 6, 7]) .leaf))) (.node (.ops [4, 5]) .leaf))))))))))) .leaf)) (.pre [4, 6, 7] (.node (.node (.ops [87, 4, 6]) (.node (.node (.ops [4, 5]) .leaf) .leaf)) (.node (.ops [4, 5]) .leaf)))))))
def F38 : AFn := ⟨[(4, (some (6, true))), (5, none)], (.seq (.ops [⟨(some 4), none, .alloc [(.int .i64 0), (.int .i64 0), (.str []), .nils, (.int .i64 0), (.int .i64 0)]⟩, ⟨(some 5), none, .mov (.const (.int .i64 0))⟩] false [4, 1, 0]) (.seq (.ops [⟨(some 8), none, .mov (.tmp 0)⟩, ⟨(some 9), none, .build [(.int .i64 0), (.int .i64 0), (.str []), .nils, (.int .i64 0), (.int .i64 0)] [(0, 1, (.tmp 8))]⟩, ⟨(some 6), none, .alloc [(.int .i64 0), (.int .i64 0), (.str []), .nils, (.int .i64 0), (.int .i64 0)]⟩, ⟨none, none, .store 6 (.tmp 6) (.tmp 9)⟩] false [4, 6, 1, 0]) (.seq (.ops [⟨(some 7), none, .mov (.const (.bool true))⟩] false [4, 6, 1, 7, 0]) (.seq (.seq (.ops [⟨(some 10), none, .mov (.tmp 0)⟩] false [4, 6, 1, 7, 0, 10]) (.block 0 (.seq (.seq (.ops [⟨(some 13), none, .bin .eql (.tmp 10) (.const (.int .i64 1))⟩, ⟨(some 12), none, .mov (.tmp 13)⟩] false [12, 4, 6, 1, 7, 0, 10]) (.cond (.tmp 12) .skip (.ops [⟨(some 14), none, .bin .eql (.tmp 10) (.const (.int .i64 5))⟩, ⟨(some 12), none, .mov (.tmp 14)⟩] false [12, 4, 6, 1, 7, 0, 10]))) (.seq (.ops [] false [12, 4, 6, 1, 7, 0, 10]) (.cond (.tmp 12) (.ops [⟨(some 16), none, .mov (.tmp 1)⟩, ⟨(some 17), none, .call 48 [(.tmp 16)]⟩, ⟨(some 15), none, .mov (.tmp 17)⟩, ⟨(some 18), none, .extract (.tmp 15) 0⟩, ⟨(some 19), none, .extract (.tmp 15) 1⟩, ⟨(some 20), none, .fieldA 1 (.tmp 6)⟩, ⟨none, none, .store 1 (.tmp 20) (.tmp 18)⟩, ⟨(some 7), none, .mov (.tmp 19)⟩] false [4, 6, 7]) (.seq (.ops [⟨(some 22), none, .bin .eql (.tmp 10) (.const (.int .i64 2))⟩, ⟨(some 21), none, .mov (.tmp 22)⟩] false [21, 4, 6, 1, 7, 0, 10]) (.cond (.tmp 21) (.seq (.ops [⟨(some 23), none, .mov (.tmp 1)⟩, ⟨(some 24), none, .len false (.tmp 23)⟩, ⟨(some 25), none, .bin .eql (.tmp 24) (.const (.int .i64 1))⟩, ⟨(some 26), none, .mov (.tmp 25)⟩, ⟨(some 27), (some (26, true)), .mov (.tmp 1)⟩, ⟨(some 28), (some (26, true)), .idxA 1 (.tmp 27) (.const (.int .i64 0))⟩, ⟨(some 29), (some (26, true)), .load 1 false (.tmp 28)⟩, ⟨(some 30), (some (26, true)), .bin .leq (.tmp 29) (.const (.int .u8 1))⟩, ⟨(some 31), none, .pick (.tmp 26) (.tmp 30) (.const (.bool false))⟩, ⟨(some 7), none, .mov (.tmp 31)⟩] false [4, 6, 7, 1]) (.seq (.ops [⟨(some 32), none, .mov (.tmp 7)⟩] false [32, 4, 6, 7, 1]) (.cond (.tmp 32) (.ops [⟨(some 33), none, .mov (.tmp 1)⟩, ⟨(some 34), none, .idxA 1 (.tmp 33) (.const (.int .i64 0))⟩, ⟨(some 35), none, .load 1 false (.tmp 34)⟩, ⟨(some 36), none, .toInt .i64 (.tmp 35)⟩, ⟨(some 37), none, .fieldA 1 (.tmp 6)⟩, ⟨none, none, .store 1 (.tmp 37) (.tmp 36)⟩] false [4, 6, 7]) .skip))) (.seq (.seq (.ops [⟨(some 39), none, .bin .eql (.tmp 10) (.const (.int .i64 3))⟩, ⟨(some 38), none, .mov (.tmp 39)⟩] false [38, 4, 6, 7, 1, 0, 10]) (.cond (.tmp 38) .skip (.ops [⟨(some 40), none, .bin .eql (.tmp 10) (.const (.int .i64 4))⟩, ⟨(some 38), none, .mov (.tmp 40)⟩] false [38, 4, 6, 7, 1, 0, 10]))) (.seq (.ops [] false [38, 4, 6, 7, 1, 0, 10]) (.cond (.tmp 38) (.seq (.seq (.ops [⟨(some 41), none, .mov (.tmp 1)⟩, ⟨(some 42), none, .len false (.tmp 41)⟩, ⟨(some 43), none, .bin .gtr (.tmp 42) (.const (.int .i64 200))⟩] false [43, 4, 6, 7, 1, 0]) (.cond (.tmp 43) (.seq (.ops [⟨(some 44), none, .load 6 true (.tmp 6)⟩, ⟨none, none, .store 6 (.tmp 4) (.tmp 44)⟩, ⟨(some 5), none, .mov (.const (.int .i64 2))⟩] false [4, 5]) .ret) .skip)) (.seq (.seq (.ops [⟨(some 45), none, .mov (.tmp 0)⟩, ⟨(some 46), none, .bin .eql (.tmp 45) (.const (.int .i64 4))⟩] false [46, 4, 6, 7, 1]) (.cond (.tmp 46) (.seq (.ops [⟨(some 47), none, .mov (.tmp 1)⟩, ⟨(some 48), none, .fieldA 3 (.tmp 6)⟩, ⟨none, none, .store 1 (.tmp 48) (.tmp 47)⟩] false [4, 6, 7]) (.exit 0)) .skip)) (.seq (.ops [⟨(some 50), none, .mov (.tmp 1)⟩, ⟨(some 51), none, .bytesStr (.tmp 50)⟩, ⟨(some 52), none, .call 49 [(.tmp 51)]⟩, ⟨(some 49), none, .mov (.tmp 52)⟩, ⟨(some 53), none, .extract (.tmp 49) 0⟩, ⟨(some 54), none, .extract (.tmp 49) 1⟩, ⟨(some 7), none, .mov (.tmp 54)⟩] false [4, 6, 7, 1]) (.ops [⟨(some 55), none, .mov (.tmp 1)⟩, ⟨(some 56), none, .bytesStr (.tmp 55)⟩, ⟨(some 57), none, .fieldA 2 (.tmp 6)⟩, ⟨none, none, .store 1 (.tmp 57) (.tmp 56)⟩] false [4, 6, 7])))) (.seq (.ops [⟨(some 59), none, .bin .eql (.tmp 10) (.const (.int .i64 6))⟩, ⟨(some 58), none, .mov (.tmp 59)⟩] false [58, 4, 6, 1]) (.cond (.tmp 58) (.seq (.ops [⟨(some 60), none, .mov (.tmp 1)⟩, ⟨(some 61), none, .len false (.tmp 60)⟩, ⟨(some 62), none, .bin .eql (.tmp 61) (.const (.int .i64 4))⟩, ⟨(some 7), none, .mov (.tmp 62)⟩] false [4, 6, 7, 1]) (.seq (.ops [⟨(some 63), none, .mov (.tmp 7)⟩] false [63, 4, 6, 7, 1]) (.cond (.tmp 63) (.ops [⟨(some 64), none, .mov (.tmp 1)⟩, ⟨(some 65), none, .idxA 1 (.tmp 64) (.const (.int .i64 0))⟩, ⟨(some 66), none, .loadN 6 1 false (.tmp 65)⟩, ⟨(some 67), none, .toInt .i64 (.tmp 66)⟩, ⟨(some 68), none, .bin .shl (.tmp 67) (.const (.int .u64 8))⟩, ⟨(some 69), none, .mov (.tmp 1)⟩, ⟨(some 70), none, .idxA 1 (.tmp 69) (.const (.int .i64 1))⟩, ⟨(some 71), none, .loadN 6 1 false (.tmp 70)⟩, ⟨(some 72), none, .toInt .i64 (.tmp 71)⟩, ⟨(some 73), none, .bin .or (.tmp 68) (.tmp 72)⟩, ⟨(some 74), none, .mov (.tmp 1)⟩, ⟨(some 75), none, .idxA 1 (.tmp 74) (.const (.int .i64 2))⟩, ⟨(some 76), none, .loadN 6 1 false (.tmp 75)⟩, ⟨(some 77), none, .toInt .i64 (.tmp 76)⟩, ⟨(some 78), none, .bin .shl (.tmp 77) (.const (.int .u64 8))⟩, ⟨(some 79), none, .mov (.tmp 1)⟩, ⟨(some 80), none, .idxA 1 (.tmp 79) (.const (.int .i64 3))⟩, ⟨(some 81), none, .loadN 6 1 false (.tmp 80)⟩, ⟨(some 82), none, .toInt .i64 (.tmp 81)⟩, ⟨(some 83), none, .bin .or (.tmp 78) (.tmp 82)⟩, ⟨(some 84), none, .fieldA 4 (.tmp 6)⟩, ⟨none, none, .storeN 6 1 (.tmp 84) (.tmp 73)⟩, ⟨(some 85), none, .fieldA 5 (.tmp 6)⟩, ⟨none, none, .storeN 6 1 (.tmp 85) (.tmp 83)⟩] false [4, 6, 7]) .skip))) (.seq (.ops [⟨(some 11), none, .load 6 true (.tmp 6)⟩, ⟨none, none, .store 6 (.tmp 4) (.tmp 11)⟩, ⟨(some 5), none, .mov (.const (.int .i64 70))⟩] false [4, 5]) .ret))))))))))))) (.seq (.ops [] false [4, 6, 7]) (.seq (.seq (.ops [⟨(some 86), none, .mov (.tmp 7)⟩, ⟨(some 87), none, .un .not (.tmp 86)⟩] false [87, 4, 6]) (.cond (.tmp 87) (.seq (.ops [⟨(some 88), none, .load 6 true (.tmp 6)⟩, ⟨none, none, .store 6 (.tmp 4) (.tmp 88)⟩, ⟨(some 5), none, .mov (.const (.int .i64 20))⟩] false [4, 5]) .ret) .skip)) (.seq (.ops [⟨(some 89), none, .load 6 true (.tmp 6)⟩, ⟨none, none, .store 6 (.tmp 4) (.tmp 89)⟩, ⟨(some 5), none, .mov (.const (.int .i64 0))⟩] false [4, 5]) .ret))))))), false, false⟩
/-- outpost/outpostref13.Runes -/
def A39 : An := (.node (.ops [0]) (.node (.ops [4, 0]) (.node (.node (.loop [4, 0] (.node (.node (.ops [9, 4, 0]) (.node .leaf .leaf)) (.node (.node (.ops [4, 5, 0, 6]) (.node (.node (.ops [24, 4, 5, 0]) (.node (.node (.ops [2, 3]) .leaf) .leaf)) (.node (.ops [0, 4]) (.ops [4, 0])))) .leaf))) .leaf) (.node (.ops [2, 3]) .leaf))))
def F39 : AFn := ⟨[(2, none), (3, none)], (.seq (.ops [⟨(some 2), none, .mov (.const (.int .i64 0))⟩, ⟨(some 3), none, .mov (.const (.bool false))⟩] false [0]) (.seq (.ops [⟨(some 4), none, .mov (.const (.int .i64 0))⟩] false [4, 0]) (.seq (.block 0 (.seq (.ops [] false [4, 0]) (.loop (.seq (.seq (.seq (.ops [⟨(some 7), none, .mov (.tmp 0)⟩, ⟨(some 8), none, .len true (.tmp 7)⟩, ⟨(some 9), none, .bin .gtr (.tmp 8) (.const (.int .i64 0))⟩] false [9, 4, 0]) (.cond (.tmp 9) .skip (.exit 0))) (.block 1 (.seq (.ops [⟨(some 11), none, .mov (.tmp 0)⟩, ⟨(some 12), none, .call 50 [(.tmp 11)]⟩, ⟨(some 10), none, .mov (.tmp 12)⟩, ⟨(some 13), none, .extract (.tmp 10) 0⟩, ⟨(some 14), none, .extract (.tmp 10) 1⟩, ⟨(some 5), none, .mov (.tmp 13)⟩, ⟨(some 6), none, .mov (.tmp 14)⟩] false [4, 5, 0, 6]) (.seq (.seq (.ops [⟨(some 15), none, .mov (.tmp 5)⟩, ⟨(some 16), none, .bin .eql (.tmp 15) (.const (.int .i64 0))⟩, ⟨(some 17), none, .mov (.tmp 16)⟩, ⟨(some 18), (some (17, false)), .mov (.tmp 6)⟩, ⟨(some 19), (some (17, false)), .bin .lss (.tmp 18) (.const (.int .i64 32))⟩, ⟨(some 20), none, .pick (.tmp 17) (.const (.bool true)) (.tmp 19)⟩, ⟨(some 21), none, .mov (.tmp 20)⟩, ⟨(some 22), (some (21, false)), .mov (.tmp 6)⟩, ⟨(some 23), (some (21, false)), .bin .eql (.tmp 22) (.const (.int .i64 127))⟩, ⟨(some 24), none, .pick (.tmp 21) (.const (.bool true)) (.tmp 23)⟩] false [24, 4, 5, 0]) (.cond (.tmp 24) (.seq (.ops [⟨(some 2), none, .mov (.const (.int .i64 0))⟩, ⟨(some 3), none, .mov (.const (.bool false))⟩] false [2, 3]) .ret) .skip)) (.seq (.ops [⟨(some 25), none, .mov (.tmp 0)⟩, ⟨(some 26), none, .mov (.tmp 5)⟩, ⟨(some 27), none, .slice none (.tmp 25) (some (.tmp 26)) none none⟩, ⟨(some 0), none, .mov (.tmp 27)⟩] false [0, 4]) (.ops [⟨(some 28), none, .mov (.tmp 4)⟩, ⟨(some 29), none, .bin .add (.tmp 28) (.const (.int .i64 1))⟩, ⟨(some 4), none, .mov (.tmp 29)⟩] false [4, 0])))))) (.ops [] false [4, 0]))))) (.seq (.ops [⟨(some 30), none, .mov (.tmp 4)⟩, ⟨(some 2), none, .mov (.tmp 30)⟩, ⟨(some 3), none, .mov (.const (.bool true))⟩] false [2, 3]) .ret)))), false, false⟩
/-- outpost/value.size -/
def A40 : An := (.node (.ops [0]) (.node (.node (.ops [4, 0, 5]) (.node (.ops [15, 4, 0]) (.node (.node (.ops [2, 3]) .leaf) .leaf))) (.node (.node (.ops [6, 0, 7]) (.node (.ops [23, 6, 0]) (.node (.node (.ops [2, 3]) .leaf) .leaf))) (.node (.node (.ops [0, 9]) (.node (.ops [31, 0]) (.node (.node (.ops [2, 3]) .leaf) .leaf))) (.node (.ops [2, 3]) .leaf)))))
def F40 : AFn := ⟨[(2, none), (3, none)], (.seq (.ops [⟨(some 2), none, .mov (.const (.int .i64 0))⟩, ⟨(some 3), none, .mov (.const (.bool false))⟩] false [0]) (.seq (.seq (.ops [⟨(some 11), none, .mov (.tmp 0)⟩, ⟨(some 12), none, .tassert 61 true (.str []) (.tmp 11)⟩, ⟨(some 10), none, .mov (.tmp 12)⟩, ⟨(some 13), none, .extract (.tmp 10) 0⟩, ⟨(some 14), none, .extract (.tmp 10) 1⟩, ⟨(some 4), none, .mov (.tmp 13)⟩, ⟨(some 5), none, .mov (.tmp 14)⟩] false [4, 0, 5]) (.seq (.ops [⟨(some 15), none, .mov (.tmp 5)⟩] false [15, 4, 0]) (.cond (.tmp 15) (.seq (.ops [⟨(some 16), none, .mov (.tmp 4)⟩, ⟨(some 17), none, .len true (.tmp 16)⟩, ⟨(some 2), none, .mov (.tmp 17)⟩, ⟨(some 3), none, .mov (.const (.bool true))⟩] false [2, 3]) .ret) .skip))) (.seq (.seq (.ops [⟨(some 19), none, .mov (.tmp 0)⟩, ⟨(some 20), none, .tassert 62 true .nils (.tmp 19)⟩, ⟨(some 18), none, .mov (.tmp 20)⟩, ⟨(some 21), none, .extract (.tmp 18) 0⟩, ⟨(some 22), none, .extract (.tmp 18) 1⟩, ⟨(some 6), none, .mov (.tmp 21)⟩, ⟨(some 7), none, .mov (.tmp 22)⟩] false [6, 0, 7]) (.seq (.ops [⟨(some 23), none, .mov (.tmp 7)⟩] false [23, 6, 0]) (.cond (.tmp 23) (.seq (.ops [⟨(some 24), none, .mov (.tmp 6)⟩, ⟨(some 25), none, .len false (.tmp 24)⟩, ⟨(some 2), none, .mov (.tmp 25)⟩, ⟨(some 3), none, .mov (.const (.bool true))⟩] false [2, 3]) .ret) .skip))) (.seq (.seq (.ops [⟨(some 27), none, .mov (.tmp 0)⟩, ⟨(some 28), none, .tassert 60 true (.bool false) (.tmp 27)⟩, ⟨(some 26), none, .mov (.tmp 28)⟩, ⟨(some 29), none, .extract (.tmp 26) 0⟩, ⟨(some 30), none, .extract (.tmp 26) 1⟩, ⟨(some 8), none, .mov (.tmp 29)⟩, ⟨(some 9), none, .mov (.tmp 30)⟩] false [0, 9]) (.seq (.ops [⟨(some 31), none, .mov (.tmp 9)⟩] false [31, 0]) (.cond (.tmp 31) (.seq (.ops [⟨(some 2), none, .mov (.const (.int .i64 0))⟩, ⟨(some 3), none, .mov (.const (.bool false))⟩] false [2, 3]) .ret) .skip))) (.seq (.ops [⟨(some 32), none, .mov (.tmp 0)⟩, ⟨(some 33), none, .call 12 [(.tmp 32)]⟩, ⟨(some 34), none, .extract (.tmp 33) 0⟩, ⟨(some 35), none, .extract (.tmp 33) 1⟩, ⟨(some 2), none, .mov (.tmp 34)⟩, ⟨(some 3), none, .mov (.tmp 35)⟩] false [2, 3]) .ret))))), false, false⟩
/-- bytes.Equal -/
def A41 : An := (.node (.ops [1, 0]) (.node (.ops [4]) .leaf))
def F41 : AFn := ⟨[(4, none)], (.seq (.ops [⟨(some 4), none, .mov (.const (.bool false))⟩] false [1, 0]) (.seq (.ops [⟨(some 5), none, .mov (.tmp 0)⟩, ⟨(some 6), none, .bytesStr (.tmp 5)⟩, ⟨(some 7), none, .mov (.tmp 1)⟩, ⟨(some 8), none, .bytesStr (.tmp 7)⟩, ⟨(some 9), none, .bin .eql (.tmp 6) (.tmp 8)⟩, ⟨(some 4), none, .mov (.tmp 9)⟩] false [4]) .ret)), false, false⟩
/-- outpost/plain.kind -/
def A42 : An := (.node (.ops [0]) (.node (.ops [2]) .leaf))
def F42 : AFn := ⟨[(2, none)], (.seq (.ops [⟨(some 2), none, .mov (.const (.bool false))⟩] false [0]) (.seq (.ops [⟨(some 3), none, .mov (.tmp 0)⟩, ⟨(some 4), none, .bin .geq (.tmp 3) (.const (.int .i64 1))⟩, ⟨(some 5), none, .mov (.tmp 4)⟩, ⟨(some 6), (some (5, true)), .mov (.tmp 0)⟩, ⟨(some 7), (some (5, true)), .bin .leq (.tmp 6) (.const (.int .i64 6))⟩, ⟨(some 8), none, .pick (.tmp 5) (.tmp 7) (.const (.bool false))⟩, ⟨(some 2), none, .mov (.tmp 8)⟩] false [2]) .ret)), false, false⟩
/-- outpost/plain.Right -/
def A43 : An := (.node (.ops [1]) (.node (.node (.ops [6, 1]) (.node (.node (.ops [2]) .leaf) .leaf)) (.node (.node (.ops [1, 8]) (.node (.node (.node (.ops [9, 1, 8]) (.node .leaf (.ops [9, 1, 8]))) (.pre [9, 1, 8] (.node (.node (.ops [2]) .leaf) (.node (.ops [12, 1, 8]) (.node (.node (.ops [2]) .leaf) (.node (.ops [22, 1, 8]) (.node (.node (.ops [1, 4]) (.node (.ops [2]) .leaf)) (.node (.ops [37, 1, 8]) (.node (.node (.ops [2]) .leaf) (.node (.ops [43, 1]) (.node (.node (.ops [2]) .leaf) .leaf))))))))))) .leaf)) (.node (.ops [2]) .leaf))))
def F43 : AFn := ⟨[(2, none)], (.seq (.ops [⟨(some 1), none, .box 6 (.tmp 0)⟩, ⟨(some 2), none, .mov (.const (.bool false))⟩] false [1]) (.seq (.seq (.ops [⟨(some 5), none, .load 6 true (.tmp 1)⟩, ⟨(some 6), none, .call 51 [(.tmp 5)]⟩] false [6, 1]) (.cond (.tmp 6) (.seq (.ops [⟨(some 2), none, .mov (.const (.bool false))⟩] false [2]) .ret) .skip)) (.seq (.seq (.ops [⟨(some 7), none, .fieldA 0 (.tmp 1)⟩, ⟨(some 8), none, .load 1 false (.tmp 7)⟩] false [1, 8]) (.block 0 (.seq (.seq (.ops [⟨(some 10), none, .bin .eql (.tmp 8) (.const (.int .i64 1))⟩, ⟨(some 9), none, .mov (.tmp 10)⟩] false [9, 1, 8]) (.cond (.tmp 9) .skip (.ops [⟨(some 11), none, .bin .eql (.tmp 8) (.const (.int .i64 5))⟩, ⟨(some 9), none, .mov (.tmp 11)⟩] false [9, 1, 8]))) (.seq (.ops [] false [9, 1, 8]) (.cond (.tmp 9) (.seq (.ops [⟨(some 2), none, .mov (.const (.bool true))⟩] false [2]) .ret) (.seq (.ops [⟨(some 13), none, .bin .eql (.tmp 8) (.const (.int .i64 2))⟩, ⟨(some 12), none, .mov (.tmp 13)⟩] false [12, 1, 8]) (.cond (.tmp 12) (.seq (.ops [⟨(some 14), none, .fieldA 1 (.tmp 1)⟩, ⟨(some 15), none, .load 1 false (.tmp 14)⟩, ⟨(some 16), none, .bin .eql (.tmp 15) (.const (.int .i64 0))⟩, ⟨(some 17), none, .mov (.tmp 16)⟩, ⟨(some 18), (some (17, false)), .fieldA 1 (.tmp 1)⟩, ⟨(some 19), (some (17, false)), .load 1 false (.tmp 18)⟩, ⟨(some 20), (some (17, false)), .bin .eql (.tmp 19) (.const (.int .i64 1))⟩, ⟨(some 21), none, .pick (.tmp 17) (.const (.bool true)) (.tmp 20)⟩, ⟨(some 2), none, .mov (.tmp 21)⟩] false [2]) .ret) (.seq (.ops [⟨(some 23), none, .bin .eql (.tmp 8) (.const (.int .i64 3))⟩, ⟨(some 22), none, .mov (.tmp 23)⟩] false [22, 1, 8]) (.cond (.tmp 22) (.seq (.ops [⟨(some 25), none, .fieldA 2 (.tmp 1)⟩, ⟨(some 26), none, .load 1 false (.tmp 25)⟩, ⟨(some 27), none, .call 49 [(.tmp 26)]⟩, ⟨(some 24), none, .mov (.tmp 27)⟩, ⟨(some 28), none, .extract (.tmp 24) 0⟩, ⟨(some 29), none, .extract (.tmp 24) 1⟩, ⟨(some 3), none, .mov (.tmp 28)⟩, ⟨(some 4), none, .mov (.tmp 29)⟩] false [1, 4]) (.seq (.ops [⟨(some 30), none, .mov (.tmp 4)⟩, ⟨(some 31), none, .mov (.tmp 30)⟩, ⟨(some 32), (some (31, true)), .fieldA 2 (.tmp 1)⟩, ⟨(some 33), (some (31, true)), .load 1 false (.tmp 32)⟩, ⟨(some 34), (some (31, true)), .len true (.tmp 33)⟩, ⟨(some 35), (some (31, true)), .bin .leq (.tmp 34) (.const (.int .i64 200))⟩, ⟨(some 36), none, .pick (.tmp 31) (.tmp 35) (.const (.bool false))⟩, ⟨(some 2), none, .mov (.tmp 36)⟩] false [2]) .ret)) (.seq (.ops [⟨(some 38), none, .bin .eql (.tmp 8) (.const (.int .i64 4))⟩, ⟨(some 37), none, .mov (.tmp 38)⟩] false [37, 1, 8]) (.cond (.tmp 37) (.seq (.ops [⟨(some 39), none, .fieldA 3 (.tmp 1)⟩, ⟨(some 40), none, .load 1 false (.tmp 39)⟩, ⟨(some 41), none, .len false (.tmp 40)⟩, ⟨(some 42), none, .bin .leq (.tmp 41) (.const (.int .i64 200))⟩, ⟨(some 2), none, .mov (.tmp 42)⟩] false [2]) .ret) (.seq (.ops [⟨(some 44), none, .bin .eql (.tmp 8) (.const (.int .i64 6))⟩, ⟨(some 43), none, .mov (.tmp 44)⟩] false [43, 1]) (.cond (.tmp 43) (.seq (.ops [⟨(some 45), none, .fieldA 4 (.tmp 1)⟩, ⟨(some 46), none, .load 1 false (.tmp 45)⟩, ⟨(some 47), none, .call 52 [(.tmp 46)]⟩, ⟨(some 48), none, .mov (.tmp 47)⟩, ⟨(some 49), (some (48, true)), .fieldA 5 (.tmp 1)⟩, ⟨(some 50), (some (48, true)), .load 1 false (.tmp 49)⟩, ⟨(some 51), (some (48, true)), .call 52 [(.tmp 50)]⟩, ⟨(some 52), none, .pick (.tmp 48) (.tmp 51) (.const (.bool false))⟩, ⟨(some 2), none, .mov (.tmp 52)⟩] false [2]) .ret) .skip))))))))))))) (.seq (.ops [⟨(some 2), none, .mov (.const (.bool false))⟩] false [2]) .ret)))), false, false⟩
/-- outpost/plain.encode -/
def A44 : An := (.node (.ops [0]) (.node (.ops [0, 3]) (.node (.node (.loop [0, 3] (.node (.node (.ops [10, 0, 3]) (.node .leaf .leaf)) (.node (.node (.ops [0, 4, 3]) (.node (.ops [0, 4, 5, 3]) (.node (.node (.ops [14, 0, 4, 5, 3]) (.node (.loop [14, 0, 4, 5, 3] (.node (.ops [15, 0, 4, 3, 14, 5]) (.node (.node .leaf .leaf) (.node (.node (.node (.ops [0, 4, 3, 14, 6, 5]) (.node (.ops [0, 4, 3, 14, 6, 5]) (.node (.ops [21, 0, 4, 3, 14, 6, 5]) (.node (.ops [0, 4, 5, 3, 14]) .leaf)))) .leaf) (.ops [14, 0, 4, 5, 3]))))) .leaf)) (.node (.node (.ops [30, 3, 5, 4, 0]) (.node (.loop [30, 3, 5, 4, 0] (.node (.ops [31, 3, 5, 4, 0, 30]) (.node (.node .leaf .leaf) (.node (.node (.node (.ops [3, 5, 4, 0, 30, 7]) (.node (.ops [35, 3, 5, 4, 0, 30, 7]) (.node (.ops [3, 5, 4, 0, 30]) (.ops [3, 5, 4, 0, 30])))) .leaf) (.ops [30, 3, 5, 4, 0]))))) .leaf)) (.ops [0, 3]))))) .leaf))) .leaf) (.node (.ops [2]) .leaf))))
def F44 : AFn := ⟨[(2, none)], (.seq (.ops [⟨(some 2), none, .mov (.const (.str []))⟩] false [0]) (.seq (.ops [⟨(some 3), none, .alloc [(.bnil 94), .nils]⟩] false [0, 3]) (.seq (.block 0 (.seq (.ops [] false [0, 3]) (.loop (.seq (.seq (.seq (.ops [⟨(some 8), none, .mov (.tmp 0)⟩, ⟨(some 9), none, .len false (.tmp 8)⟩, ⟨(some 10), none, .bin .gtr (.tmp 9) (.const (.int .i64 0))⟩] false [10, 0, 3]) (.cond (.tmp 10) .skip (.exit 0))) (.block 1 (.seq (.ops [⟨(some 11), none, .mov (.tmp 0)⟩, ⟨(some 12), none, .len false (.tmp 11)⟩, ⟨(some 13), none, .minmax false [(.tmp 12), (.const (.int .i64 3))]⟩, ⟨(some 4), none, .mov (.tmp 13)⟩] false [0, 4, 3]) (.seq (.ops [⟨(some 5), none, .mov (.const (.int .u32 0))⟩] false [0, 4, 5, 3]) (.seq (.seq (.ops [⟨(some 14), none, .mov (.const (.int .i64 0))⟩] false [14, 0, 4, 5, 3]) (.block 2 (.seq (.ops [] false [14, 0, 4, 5, 3]) (.loop (.seq (.seq (.ops [⟨(some 15), none, .bin .lss (.tmp 14) (.const (.int .i64 3))⟩] false [15, 0, 4, 3, 14, 5]) (.seq (.cond (.tmp 15) .skip (.exit 2)) (.seq (.block 3 (.seq (.ops [⟨(some 16), none, .mov (.tmp 14)⟩, ⟨(some 6), none, .mov (.tmp 16)⟩] false [0, 4, 3, 14, 6, 5]) (.seq (.ops [⟨(some 17), none, .mov (.tmp 5)⟩, ⟨(some 18), none, .bin .shl (.tmp 17) (.const (.int .u64 8))⟩, ⟨(some 5), none, .mov (.tmp 18)⟩] false [0, 4, 3, 14, 6, 5]) (.seq (.ops [⟨(some 19), none, .mov (.tmp 6)⟩, ⟨(some 20), none, .mov (.tmp 4)⟩, ⟨(some 21), none, .bin .lss (.tmp 19) (.tmp 20)⟩] false [21, 0, 4, 3, 14, 6, 5]) (.cond (.tmp 21) (.ops [⟨(some 22), none, .mov (.tmp 5)⟩, ⟨(some 23), none, .mov (.tmp 0)⟩, ⟨(some 24), none, .mov (.tmp 6)⟩, ⟨(some 25), none, .idxA 1 (.tmp 23) (.tmp 24)⟩, ⟨(some 26), none, .load 1 false (.tmp 25)⟩, ⟨(some 27), none, .toInt .u32 (.tmp 26)⟩, ⟨(some 28), none, .bin .or (.tmp 22) (.tmp 27)⟩, ⟨(some 5), none, .mov (.tmp 28)⟩] false [0, 4, 5, 3, 14]) .skip))))) (.ops [⟨(some 29), none, .bin .add (.tmp 14) (.const (.int .i64 1))⟩, ⟨(some 14), none, .mov (.tmp 29)⟩] false [14, 0, 4, 5, 3])))) (.ops [] false [14, 0, 4, 5, 3])))))) (.seq (.seq (.ops [⟨(some 30), none, .mov (.const (.int .i64 0))⟩] false [30, 3, 5, 4, 0]) (.block 4 (.seq (.ops [] false [30, 3, 5, 4, 0]) (.loop (.seq (.seq (.ops [⟨(some 31), none, .bin .lss (.tmp 30) (.const (.int .i64 4))⟩] false [31, 3, 5, 4, 0, 30]) (.seq (.cond (.tmp 31) .skip (.exit 4)) (.seq (.block 5 (.seq (.ops [⟨(some 32), none, .mov (.tmp 30)⟩, ⟨(some 7), none, .mov (.tmp 32)⟩] false [3, 5, 4, 0, 30, 7]) (.seq (.ops [⟨(some 33), none, .mov (.tmp 7)⟩, ⟨(some 34), none, .mov (.tmp 4)⟩, ⟨(some 35), none, .bin .gtr (.tmp 33) (.tmp 34)⟩] false [35, 3, 5, 4, 0, 30, 7]) (.cond (.tmp 35) (.ops [⟨(some 36), none, .call 53 [(.tmp 3), (.const (.int .u8 61))]⟩] false [3, 5, 4, 0, 30]) (.ops [⟨(some 37), none, .mov (.tmp 5)⟩, ⟨(some 38), none, .mov (.tmp 7)⟩, ⟨(some 39), none, .bin .mul (.const (.int .i64 6)) (.tmp 38)⟩, ⟨(some 40), none, .bin .sub (.const (.int .i64 18)) (.tmp 39)⟩, ⟨(some 41), none, .bin .shr (.tmp 37) (.tmp 40)⟩, ⟨(some 42), none, .bin .and (.tmp 41) (.const (.int .u32 63))⟩, ⟨(some 43), none, .idxStr (.const (.str [65, 66, 67, 68, 69, 70, 71, 72, 73, 74, 75, 76, 77, 78, 79, 80, 81, 82, 83, 84, 85, 86, 87, 88, 89, 90, 97, 98, 99, 100, 101, 102, 103, 104, 105, 106, 107, 108, 109, 110, 111, 112, 113, 114, 115, 116, 117, 118, 119, 120, 121, 122, 48, 49, 50, 51, 52, 53, 54, 55, 56, 57, 43, 47])) (.tmp 42)⟩, ⟨(some 44), none, .call 53 [(.tmp 3), (.tmp 43)]⟩] false [3, 5, 4, 0, 30]))))) (.ops [⟨(some 45), none, .bin .add (.tmp 30) (.const (.int .i64 1))⟩, ⟨(some 30), none, .mov (.tmp 45)⟩] false [30, 3, 5, 4, 0])))) (.ops [] false [30, 3, 5, 4, 0])))))) (.ops [⟨(some 46), none, .mov (.tmp 0)⟩, ⟨(some 47), none, .mov (.tmp 4)⟩, ⟨(some 48), none, .slice (some 1) (.tmp 46) (some (.tmp 47)) none none⟩, ⟨(some 0), none, .mov (.tmp 48)⟩] false [0, 3]))))))) (.ops [] false [0, 3]))))) (.seq (.ops [⟨(some 49), none, .call 54 [(.tmp 3)]⟩, ⟨(some 2), none, .mov (.tmp 49)⟩] false [2]) .ret)))), false, false⟩
/-- outpost/outpostref13.letter -/
def A45 : An := (.node (.ops [0]) (.node (.node (.node (.ops [3, 0]) (.node (.node (.ops [2]) .leaf) (.node (.ops [9, 0]) (.node (.node (.ops [2]) .leaf) (.node (.ops [16, 0]) (.node (.node (.ops [2]) .leaf) (.node (.ops [23]) (.node (.node (.ops [2]) .leaf) .leaf)))))))) .leaf) (.node (.ops [2]) .leaf)))
def F45 : AFn := ⟨[(2, none)], (.seq (.ops [⟨(some 2), none, .mov (.const (.int .u8 0))⟩] false [0]) (.seq (.block 0 (.seq (.ops [⟨(some 4), none, .mov (.tmp 0)⟩, ⟨(some 5), none, .bin .lss (.tmp 4) (.const (.int .i64 26))⟩, ⟨(some 3), none, .mov (.tmp 5)⟩] false [3, 0]) (.cond (.tmp 3) (.seq (.ops [⟨(some 6), none, .mov (.tmp 0)⟩, ⟨(some 7), none, .bin .add (.const (.int .i64 65)) (.tmp 6)⟩, ⟨(some 8), none, .toInt .u8 (.tmp 7)⟩, ⟨(some 2), none, .mov (.tmp 8)⟩] false [2]) .ret) (.seq (.ops [⟨(some 10), none, .mov (.tmp 0)⟩, ⟨(some 11), none, .bin .lss (.tmp 10) (.const (.int .i64 52))⟩, ⟨(some 9), none, .mov (.tmp 11)⟩] false [9, 0]) (.cond (.tmp 9) (.seq (.ops [⟨(some 12), none, .mov (.tmp 0)⟩, ⟨(some 13), none, .bin .add (.const (.int .i64 97)) (.tmp 12)⟩, ⟨(some 14), none, .bin .sub (.tmp 13) (.const (.int .i64 26))⟩, ⟨(some 15), none, .toInt .u8 (.tmp 14)⟩, ⟨(some 2), none, .mov (.tmp 15)⟩] false [2]) .ret) (.seq (.ops [⟨(some 17), none, .mov (.tmp 0)⟩, ⟨(some 18), none, .bin .lss (.tmp 17) (.const (.int .i64 62))⟩, ⟨(some 16), none, .mov (.tmp 18)⟩] false [16, 0]) (.cond (.tmp 16) (.seq (.ops [⟨(some 19), none, .mov (.tmp 0)⟩, ⟨(some 20), none, .bin .add (.const (.int .i64 48)) (.tmp 19)⟩, ⟨(some 21), none, .bin .sub (.tmp 20) (.const (.int .i64 52))⟩, ⟨(some 22), none, .toInt .u8 (.tmp 21)⟩, ⟨(some 2), none, .mov (.tmp 22)⟩] false [2]) .ret) (.seq (.ops [⟨(some 24), none, .mov (.tmp 0)⟩, ⟨(some 25), none, .bin .eql (.tmp 24) (.const (.int .i64 62))⟩, ⟨(some 23), none, .mov (.tmp 25)⟩] false [23]) (.cond (.tmp 23) (.seq (.ops [⟨(some 2), none, .mov (.const (.int .u8 43))⟩] false [2]) .ret) .skip))))))))) (.seq (.ops [⟨(some 2), none, .mov (.const (.int .u8 47))⟩] false [2]) .ret))), false, false⟩
/-- outpost/value.number -/
def A48 : An := (.node (.ops [0]) (.node (.node (.ops [11, 0]) (.node (.node (.ops [2, 3]) .leaf) .leaf)) (.node (.ops [4, 0]) (.node (.node (.ops [20, 4, 18, 19]) (.node (.loop [20, 4, 18, 19] (.node (.ops [21, 18, 19, 20, 4]) (.node (.node .leaf .leaf) (.node (.node (.node (.ops [18, 19, 20, 6, 4]) (.ops [4, 18, 19, 20])) .leaf) (.ops [20, 4, 18, 19]))))) .leaf)) (.node (.ops [2, 3]) .leaf)))))
def F48 : AFn := ⟨[(2, none), (3, none)], (.seq (.ops [⟨(some 2), none, .mov (.const (.int .i64 0))⟩, ⟨(some 3), none, .mov (.const (.bool false))⟩] false [0]) (.seq (.seq (.ops [⟨(some 7), none, .buildSl 1 false [(.int .i64 0)] 4 [(0, (.const (.int .i64 1))), (1, (.const (.int .i64 2))), (2, (.const (.int .i64 4))), (3, (.const (.int .i64 8)))]⟩, ⟨(some 8), none, .mov (.tmp 0)⟩, ⟨(some 9), none, .len false (.tmp 8)⟩, ⟨(some 10), none, .call 59 [(.tmp 7), (.tmp 9)]⟩, ⟨(some 11), none, .un .not (.tmp 10)⟩] false [11, 0]) (.cond (.tmp 11) (.seq (.ops [⟨(some 2), none, .mov (.const (.int .i64 0))⟩, ⟨(some 3), none, .mov (.const (.bool false))⟩] false [2, 3]) .ret) .skip)) (.seq (.ops [⟨(some 12), none, .mov (.tmp 0)⟩, ⟨(some 13), none, .idxA 1 (.tmp 12) (.const (.int .i64 0))⟩, ⟨(some 14), none, .load 1 false (.tmp 13)⟩, ⟨(some 15), none, .toInt .i8 (.tmp 14)⟩, ⟨(some 16), none, .toInt .i64 (.tmp 15)⟩, ⟨(some 4), none, .mov (.tmp 16)⟩] false [4, 0]) (.seq (.seq (.ops [⟨(some 17), none, .mov (.tmp 0)⟩, ⟨(some 18), none, .slice (some 1) (.tmp 17) (some (.const (.int .i64 1))) none none⟩, ⟨(some 19), none, .len false (.tmp 18)⟩, ⟨(some 20), none, .mov (.const (.int .i64 0))⟩] false [20, 4, 18, 19]) (.block 0 (.seq (.ops [] false [20, 4, 18, 19]) (.loop (.seq (.seq (.ops [⟨(some 21), none, .bin .lss (.tmp 20) (.tmp 19)⟩] false [21, 18, 19, 20, 4]) (.seq (.cond (.tmp 21) .skip (.exit 0)) (.seq (.block 1 (.seq (.ops [⟨(some 22), none, .idxA 1 (.tmp 18) (.tmp 20)⟩, ⟨(some 23), none, .load 1 false (.tmp 22)⟩, ⟨(some 6), none, .mov (.tmp 23)⟩] false [18, 19, 20, 6, 4]) (.ops [⟨(some 24), none, .mov (.tmp 4)⟩, ⟨(some 25), none, .bin .shl (.tmp 24) (.const (.int .u64 8))⟩, ⟨(some 26), none, .mov (.tmp 6)⟩, ⟨(some 27), none, .toInt .i64 (.tmp 26)⟩, ⟨(some 28), none, .bin .or (.tmp 25) (.tmp 27)⟩, ⟨(some 4), none, .mov (.tmp 28)⟩] false [4, 18, 19, 20]))) (.ops [⟨(some 29), none, .bin .add (.tmp 20) (.const (.int .i64 1))⟩, ⟨(some 20), none, .mov (.tmp 29)⟩] false [20, 4, 18, 19])))) (.ops [] false [20, 4, 18, 19])))))) (.seq (.ops [⟨(some 30), none, .mov (.tmp 4)⟩, ⟨(some 2), none, .mov (.tmp 30)⟩, ⟨(some 3), none, .mov (.const (.bool true))⟩] false [2, 3]) .ret))))), false, false⟩
/-- outpost/plain.Runes -/
def A49 : An := (.node (.ops [0]) (.node (.ops [4, 0]) (.node (.node (.ops [4, 0, 10]) (.node (.loop [4, 0, 10] (.node (.ops [12, 0, 10, 4, 11]) (.node (.node .leaf .leaf) (.node (.node (.ops [0, 10, 4, 6, 5]) (.node (.ops [0, 10, 4, 6, 8]) (.node (.node (.ops [35, 0, 10, 4]) (.node (.node (.ops [2, 3]) .leaf) .leaf)) (.ops [4, 0, 10])))) .leaf)))) .leaf)) (.node (.ops [2, 3]) .leaf))))
def F49 : AFn := ⟨[(2, none), (3, none)], (.seq (.ops [⟨(some 2), none, .mov (.const (.int .i64 0))⟩, ⟨(some 3), none, .mov (.const (.bool false))⟩] false [0]) (.seq (.ops [⟨(some 4), none, .mov (.const (.int .i64 0))⟩] false [4, 0]) (.seq (.seq (.ops [⟨(some 9), none, .mov (.tmp 0)⟩, ⟨(some 10), none, .range (.tmp 9)⟩] false [4, 0, 10]) (.block 0 (.seq (.ops [] false [4, 0, 10]) (.loop (.seq (.seq (.ops [⟨(some 11), none, .next (.tmp 10)⟩, ⟨(some 12), none, .extract (.tmp 11) 0⟩] false [12, 0, 10, 4, 11]) (.seq (.cond (.tmp 12) .skip (.exit 0)) (.block 1 (.seq (.ops [⟨(some 13), none, .extract (.tmp 11) 1⟩, ⟨(some 14), none, .extract (.tmp 11) 2⟩, ⟨(some 5), none, .mov (.tmp 13)⟩, ⟨(some 6), none, .mov (.tmp 14)⟩] false [0, 10, 4, 6, 5]) (.seq (.ops [⟨(some 16), none, .mov (.tmp 0)⟩, ⟨(some 17), none, .mov (.tmp 5)⟩, ⟨(some 18), none, .slice none (.tmp 16) (some (.tmp 17)) none none⟩, ⟨(some 19), none, .call 60 [(.tmp 18)]⟩, ⟨(some 15), none, .mov (.tmp 19)⟩, ⟨(some 20), none, .extract (.tmp 15) 0⟩, ⟨(some 21), none, .extract (.tmp 15) 1⟩, ⟨(some 7), none, .mov (.tmp 20)⟩, ⟨(some 8), none, .mov (.tmp 21)⟩] false [0, 10, 4, 6, 8]) (.seq (.seq (.ops [⟨(some 22), none, .mov (.tmp 6)⟩, ⟨(some 23), none, .bin .eql (.tmp 22) (.const (.int .i32 65533))⟩, ⟨(some 24), none, .mov (.tmp 23)⟩, ⟨(some 25), (some (24, true)), .mov (.tmp 8)⟩, ⟨(some 26), (some (24, true)), .bin .eql (.tmp 25) (.const (.int .i64 1))⟩, ⟨(some 27), none, .pick (.tmp 24) (.tmp 26) (.const (.bool false))⟩, ⟨(some 28), none, .mov (.tmp 27)⟩, ⟨(some 29), (some (28, false)), .mov (.tmp 6)⟩, ⟨(some 30), (some (28, false)), .bin .lss (.tmp 29) (.const (.int .i32 32))⟩, ⟨(some 31), none, .pick (.tmp 28) (.const (.bool true)) (.tmp 30)⟩, ⟨(some 32), none, .mov (.tmp 31)⟩, ⟨(some 33), (some (32, false)), .mov (.tmp 6)⟩, ⟨(some 34), (some (32, false)), .bin .eql (.tmp 33) (.const (.int .i32 127))⟩, ⟨(some 35), none, .pick (.tmp 32) (.const (.bool true)) (.tmp 34)⟩] false [35, 0, 10, 4]) (.cond (.tmp 35) (.seq (.ops [⟨(some 2), none, .mov (.const (.int .i64 0))⟩, ⟨(some 3), none, .mov (.const (.bool false))⟩] false [2, 3]) .ret) .skip)) (.ops [⟨(some 36), none, .mov (.tmp 4)⟩, ⟨(some 37), none, .bin .add (.tmp 36) (.const (.int .i64 1))⟩, ⟨(some 4), none, .mov (.tmp 37)⟩] false [4, 0, 10]))))))) (.ops [] false [4, 0, 10])))))) (.seq (.ops [⟨(some 38), none, .mov (.tmp 4)⟩, ⟨(some 2), none, .mov (.tmp 38)⟩, ⟨(some 3), none, .mov (.const (.bool true))⟩] false [2, 3]) .ret)))), false, false⟩
/-- outpost/outpostref13.sign -/
def A50 : An := (.node (.ops [0]) (.node (.ops [4, 0]) (.node (.ops [4, 0]) (.node (.node (.node (.ops [11, 4, 0]) (.node (.node (.ops [2, 3]) .leaf) (.node (.ops [15, 0, 4]) (.node (.ops [0, 4, 5, 6]) (.node (.ops [24, 0, 4]) (.node (.ops [0, 4, 5, 6]) (.node (.ops [33, 0, 4]) (.node (.ops [0, 4, 5, 6]) (.node (.ops [2, 3]) .leaf))))))))) .leaf) (.pre [0, 4, 5, 6] (.node (.node (.ops [45, 0, 4, 5, 6]) (.node (.node (.ops [2, 3]) .leaf) .leaf)) (.node (.node (.ops [7, 0, 4, 5, 6]) (.node (.loop [7, 0, 4, 5, 6] (.node (.node (.ops [48, 0, 5, 6, 7, 4]) (.node .leaf .leaf)) (.node (.node (.node (.node (.ops [60, 0, 5, 6, 7, 4]) (.node (.node (.ops [2, 3]) .leaf) .leaf)) (.ops [0, 4, 5, 6, 7])) .leaf) (.ops [7, 0, 4, 5, 6])))) .leaf)) (.node (.node (.ops [83, 4, 5]) (.node (.node (.ops [2, 3]) .leaf) .leaf)) (.node (.ops [2, 3]) .leaf)))))))))
def F50 : AFn := ⟨[(2, none), (3, none)], (.seq (.ops [⟨(some 2), none, .mov (.const (.int .i64 0))⟩, ⟨(some 3), none, .mov (.const (.int .i64 0))⟩] false [0]) (.seq (.ops [⟨(some 8), none, .mov (.tmp 0)⟩, ⟨(some 9), none, .idxStr (.tmp 8) (.const (.int .i64 0))⟩, ⟨(some 10), none, .toInt .i64 (.tmp 9)⟩, ⟨(some 4), none, .mov (.tmp 10)⟩] false [4, 0]) (.seq (.ops [⟨(some 5), none, .mov (.const (.int .i64 0))⟩, ⟨(some 6), none, .mov (.const (.int .i64 0))⟩] false [4, 0]) (.seq (.block 0 (.seq (.ops [⟨(some 12), none, .mov (.tmp 4)⟩, ⟨(some 13), none, .bin .lss (.tmp 12) (.const (.int .i64 128))⟩, ⟨(some 11), none, .mov (.tmp 13)⟩] false [11, 4, 0]) (.cond (.tmp 11) (.seq (.ops [⟨(some 14), none, .mov (.tmp 4)⟩, ⟨(some 2), none, .mov (.const (.int .i64 1))⟩, ⟨(some 3), none, .mov (.tmp 14)⟩] false [2, 3]) .ret) (.seq (.ops [⟨(some 16), none, .mov (.tmp 4)⟩, ⟨(some 17), none, .bin .geq (.tmp 16) (.const (.int .i64 194))⟩, ⟨(some 18), none, .mov (.tmp 17)⟩, ⟨(some 19), (some (18, true)), .mov (.tmp 4)⟩, ⟨(some 20), (some (18, true)), .bin .lss (.tmp 19) (.const (.int .i64 224))⟩, ⟨(some 21), none, .pick (.tmp 18) (.tmp 20) (.const (.bool false))⟩, ⟨(some 15), none, .mov (.tmp 21)⟩] false [15, 0, 4]) (.cond (.tmp 15) (.ops [⟨(some 22), none, .mov (.tmp 4)⟩, ⟨(some 23), none, .bin .sub (.tmp 22) (.const (.int .i64 192))⟩, ⟨(some 5), none, .mov (.const (.int .i64 2))⟩, ⟨(some 6), none, .mov (.const (.int .i64 128))⟩, ⟨(some 4), none, .mov (.tmp 23)⟩] false [0, 4, 5, 6]) (.seq (.ops [⟨(some 25), none, .mov (.tmp 4)⟩, ⟨(some 26), none, .bin .geq (.tmp 25) (.const (.int .i64 224))⟩, ⟨(some 27), none, .mov (.tmp 26)⟩, ⟨(some 28), (some (27, true)), .mov (.tmp 4)⟩, ⟨(some 29), (some (27, true)), .bin .lss (.tmp 28) (.const (.int .i64 240))⟩, ⟨(some 30), none, .pick (.tmp 27) (.tmp 29) (.const (.bool false))⟩, ⟨(some 24), none, .mov (.tmp 30)⟩] false [24, 0, 4]) (.cond (.tmp 24) (.ops [⟨(some 31), none, .mov (.tmp 4)⟩, ⟨(some 32), none, .bin .sub (.tmp 31) (.const (.int .i64 224))⟩, ⟨(some 5), none, .mov (.const (.int .i64 3))⟩, ⟨(some 6), none, .mov (.const (.int .i64 2048))⟩, ⟨(some 4), none, .mov (.tmp 32)⟩] false [0, 4, 5, 6]) (.seq (.ops [⟨(some 34), none, .mov (.tmp 4)⟩, ⟨(some 35), none, .bin .geq (.tmp 34) (.const (.int .i64 240))⟩, ⟨(some 36), none, .mov (.tmp 35)⟩, ⟨(some 37), (some (36, true)), .mov (.tmp 4)⟩, ⟨(some 38), (some (36, true)), .bin .lss (.tmp 37) (.const (.int .i64 245))⟩, ⟨(some 39), none, .pick (.tmp 36) (.tmp 38) (.const (.bool false))⟩, ⟨(some 33), none, .mov (.tmp 39)⟩] false [33, 0, 4]) (.cond (.tmp 33) (.ops [⟨(some 40), none, .mov (.tmp 4)⟩, ⟨(some 41), none, .bin .sub (.tmp 40) (.const (.int .i64 240))⟩, ⟨(some 5), none, .mov (.const (.int .i64 4))⟩, ⟨(some 6), none, .mov (.const (.int .i64 65536))⟩, ⟨(some 4), none, .mov (.tmp 41)⟩] false [0, 4, 5, 6]) (.seq (.ops [⟨(some 2), none, .mov (.const (.int .i64 0))⟩, ⟨(some 3), none, .mov (.const (.int .i64 0))⟩] false [2, 3]) .ret)))))))))) (.seq (.ops [] false [0, 4, 5, 6]) (.seq (.seq (.ops [⟨(some 42), none, .mov (.tmp 0)⟩, ⟨(some 43), none, .len true (.tmp 42)⟩, ⟨(some 44), none, .mov (.tmp 5)⟩, ⟨(some 45), none, .bin .lss (.tmp 43) (.tmp 44)⟩] false [45, 0, 4, 5, 6]) (.cond (.tmp 45) (.seq (.ops [⟨(some 2), none, .mov (.const (.int .i64 0))⟩, ⟨(some 3), none, .mov (.const (.int .i64 0))⟩] false [2, 3]) .ret) .skip)) (.seq (.seq (.ops [⟨(some 7), none, .mov (.const (.int .i64 1))⟩] false [7, 0, 4, 5, 6]) (.block 1 (.seq (.ops [] false [7, 0, 4, 5, 6]) (.loop (.seq (.seq (.seq (.ops [⟨(some 46), none, .mov (.tmp 7)⟩, ⟨(some 47), none, .mov (.tmp 5)⟩, ⟨(some 48), none, .bin .lss (.tmp 46) (.tmp 47)⟩] false [48, 0, 5, 6, 7, 4]) (.cond (.tmp 48) .skip (.exit 1))) (.seq (.block 2 (.seq (.seq (.ops [⟨(some 51), none, .mov (.tmp 0)⟩, ⟨(some 52), none, .mov (.tmp 7)⟩, ⟨(some 53), none, .idxStr (.tmp 51) (.tmp 52)⟩, ⟨(some 54), none, .bin .lss (.tmp 53) (.const (.int .u8 128))⟩, ⟨(some 55), none, .mov (.tmp 54)⟩, ⟨(some 56), (some (55, false)), .mov (.tmp 0)⟩, ⟨(some 57), (some (55, false)), .mov (.tmp 7)⟩, ⟨(some 58), (some (55, false)), .idxStr (.tmp 56) (.tmp 57)⟩, ⟨(some 59), (some (55, false)), .bin .gtr (.tmp 58) (.const (.int .u8 191))⟩, ⟨(some 60), none, .pick (.tmp 55) (.const (.bool true)) (.tmp 59)⟩] false [60, 0, 5, 6, 7, 4]) (.cond (.tmp 60) (.seq (.ops [⟨(some 2), none, .mov (.const (.int .i64 0))⟩, ⟨(some 3), none, .mov (.const (.int .i64 0))⟩] false [2, 3]) .ret) .skip)) (.ops [⟨(some 61), none, .mov (.tmp 4)⟩, ⟨(some 62), none, .bin .mul (.tmp 61) (.const (.int .i64 64))⟩, ⟨(some 63), none, .mov (.tmp 0)⟩, ⟨(some 64), none, .mov (.tmp 7)⟩, ⟨(some 65), none, .idxStr (.tmp 63) (.tmp 64)⟩, ⟨(some 66), none, .toInt .i64 (.tmp 65)⟩, ⟨(some 67), none, .bin .add (.tmp 62) (.tmp 66)⟩, ⟨(some 68), none, .bin .sub (.tmp 67) (.const (.int .i64 128))⟩, ⟨(some 4), none, .mov (.tmp 68)⟩] false [0, 4, 5, 6, 7]))) (.ops [⟨(some 49), none, .mov (.tmp 7)⟩, ⟨(some 50), none, .bin .add (.tmp 49) (.const (.int .i64 1))⟩, ⟨(some 7), none, .mov (.tmp 50)⟩] false [7, 0, 4, 5, 6]))) (.ops [] false [7, 0, 4, 5, 6])))))) (.seq (.seq (.ops [⟨(some 69), none, .mov (.tmp 4)⟩, ⟨(some 70), none, .mov (.tmp 6)⟩, ⟨(some 71), none, .bin .lss (.tmp 69) (.tmp 70)⟩, ⟨(some 72), none, .mov (.tmp 71)⟩, ⟨(some 73), (some (72, false)), .mov (.tmp 4)⟩, ⟨(some 74), (some (72, false)), .bin .gtr (.tmp 73) (.const (.int .i64 1114111))⟩, ⟨(some 75), none, .pick (.tmp 72) (.const (.bool true)) (.tmp 74)⟩, ⟨(some 76), none, .mov (.tmp 75)⟩, ⟨(some 77), (some (76, false)), .mov (.tmp 4)⟩, ⟨(some 78), (some (76, false)), .bin .geq (.tmp 77) (.const (.int .i64 55296))⟩, ⟨(some 79), (some (76, false)), .mov (.tmp 78)⟩, ⟨(some 80), (some (79, true)), .mov (.tmp 4)⟩, ⟨(some 81), (some (79, true)), .bin .lss (.tmp 80) (.const (.int .i64 57344))⟩, ⟨(some 82), (some (76, false)), .pick (.tmp 79) (.tmp 81) (.const (.bool false))⟩, ⟨(some 83), none, .pick (.tmp 76) (.const (.bool true)) (.tmp 82)⟩] false [83, 4, 5]) (.cond (.tmp 83) (.seq (.ops [⟨(some 2), none, .mov (.const (.int .i64 0))⟩, ⟨(some 3), none, .mov (.const (.int .i64 0))⟩] false [2, 3]) .ret) .skip)) (.seq (.ops [⟨(some 84), none, .mov (.tmp 5)⟩, ⟨(some 85), none, .mov (.tmp 4)⟩, ⟨(some 2), none, .mov (.tmp 84)⟩, ⟨(some 3), none, .mov (.tmp 85)⟩] false [2, 3]) .ret))))))))), false, false⟩
/-- outpost/plain.extra -/
def A51 : An := (.node (.ops [1]) (.node (.ops [1, 3]) (.node (.ops [2]) .leaf)))
def F51 : AFn := ⟨[(2, none)], (.seq (.ops [⟨(some 1), none, .box 6 (.tmp 0)⟩, ⟨(some 2), none, .mov (.const (.bool false))⟩] false [1]) (.seq (.ops [⟨(some 4), none, .load 6 true (.tmp 1)⟩, ⟨(some 5), none, .call 61 [(.tmp 4)]⟩, ⟨(some 3), none, .alloc [(.int .i64 0), (.int .i64 0), (.str []), .nils, (.int .i64 0), (.int .i64 0)]⟩, ⟨none, none, .store 6 (.tmp 3) (.tmp 5)⟩] false [1, 3]) (.seq (.ops [⟨(some 6), none, .fieldA 1 (.tmp 3)⟩, ⟨(some 7), none, .load 1 false (.tmp 6)⟩, ⟨(some 8), none, .fieldA 1 (.tmp 1)⟩, ⟨(some 9), none, .load 1 false (.tmp 8)⟩, ⟨(some 10), none, .bin .neq (.tmp 7) (.tmp 9)⟩, ⟨(some 11), none, .mov (.tmp 10)⟩, ⟨(some 12), (some (11, false)), .fieldA 2 (.tmp 3)⟩, ⟨(some 13), (some (11, false)), .load 1 false (.tmp 12)⟩, ⟨(some 14), (some (11, false)), .fieldA 2 (.tmp 1)⟩, ⟨(some 15), (some (11, false)), .load 1 false (.tmp 14)⟩, ⟨(some 16), (some (11, false)), .bin .neq (.tmp 13) (.tmp 15)⟩, ⟨(some 17), none, .pick (.tmp 11) (.const (.bool true)) (.tmp 16)⟩, ⟨(some 18), none, .mov (.tmp 17)⟩, ⟨(some 19), (some (18, false)), .fieldA 3 (.tmp 3)⟩, ⟨(some 20), (some (18, false)), .load 1 false (.tmp 19)⟩, ⟨(some 21), (some (18, false)), .len false (.tmp 20)⟩, ⟨(some 22), (some (18, false)), .fieldA 3 (.tmp 1)⟩, ⟨(some 23), (some (18, false)), .load 1 false (.tmp 22)⟩, ⟨(some 24), (some (18, false)), .len false (.tmp 23)⟩, ⟨(some 25), (some (18, false)), .bin .neq (.tmp 21) (.tmp 24)⟩, ⟨(some 26), none, .pick (.tmp 18) (.const (.bool true)) (.tmp 25)⟩, ⟨(some 27), none, .mov (.tmp 26)⟩, ⟨(some 28), (some (27, false)), .fieldA 4 (.tmp 3)⟩, ⟨(some 29), (some (27, false)), .load 1 false (.tmp 28)⟩, ⟨(some 30), (some (27, false)), .fieldA 4 (.tmp 1)⟩, ⟨(some 31), (some (27, false)), .load 1 false (.tmp 30)⟩, ⟨(some 32), (some (27, false)), .bin .neq (.tmp 29) (.tmp 31)⟩, ⟨(some 33), none, .pick (.tmp 27) (.const (.bool true)) (.tmp 32)⟩, ⟨(some 34), none, .mov (.tmp 33)⟩, ⟨(some 35), (some (34, false)), .fieldA 5 (.tmp 3)⟩, ⟨(some 36), (some (34, false)), .load 1 false (.tmp 35)⟩, ⟨(some 37), (some (34, false)), .fieldA 5 (.tmp 1)⟩, ⟨(some 38), (some (34, false)), .load 1 false (.tmp 37)⟩, ⟨(some 39), (some (34, false)), .bin .neq (.tmp 36) (.tmp 38)⟩, ⟨(some 40), none, .pick (.tmp 34) (.const (.bool true)) (.tmp 39)⟩, ⟨(some 2), none, .mov (.tmp 40)⟩] false [2]) .ret))), false, false⟩
/-- outpost/plain.numbered -/
def A52 : An := (.node (.ops [0]) (.node (.ops [2]) .leaf))
def F52 : AFn := ⟨[(2, none)], (.seq (.ops [⟨(some 2), none, .mov (.const (.bool false))⟩] false [0]) (.seq (.ops [⟨(some 3), none, .mov (.tmp 0)⟩, ⟨(some 4), none, .bin .geq (.tmp 3) (.const (.int .i64 0))⟩, ⟨(some 5), none, .mov (.tmp 4)⟩, ⟨(some 6), (some (5, true)), .mov (.tmp 0)⟩, ⟨(some 7), (some (5, true)), .bin .leq (.tmp 6) (.const (.int .i64 65535))⟩, ⟨(some 8), none, .pick (.tmp 5) (.tmp 7) (.const (.bool false))⟩, ⟨(some 2), none, .mov (.tmp 8)⟩] false [2]) .ret)), false, false⟩
/-- (strings.Builder).WriteByte -/
def A53 : An := (.node (.ops [1, 0]) (.node (.ops [1, 0]) (.node (.ops []) (.node (.ops [4]) .leaf))))
def F53 : AFn := ⟨[(4, none)], (.seq (.ops [⟨(some 4), none, .mov (.const .nilif)⟩] false [1, 0]) (.seq (.ops [⟨(some 5), none, .mov (.tmp 0)⟩, ⟨(some 6), none, .call 62 [(.tmp 5)]⟩] false [1, 0]) (.seq (.ops [⟨(some 7), none, .mov (.tmp 0)⟩, ⟨(some 8), none, .mov (.tmp 0)⟩, ⟨(some 9), none, .nilck (.tmp 8)⟩, ⟨(some 10), none, .fieldA 1 (.tmp 9)⟩, ⟨(some 11), none, .load 1 false (.tmp 10)⟩, ⟨(some 12), none, .mov (.tmp 1)⟩, ⟨(some 13), none, .buildSl 1 false [(.int .u8 0)] 1 [(0, (.tmp 12))]⟩, ⟨(some 14), none, .appendT 5 1 (.tmp 11) (.tmp 13)⟩, ⟨(some 15), none, .nilck (.tmp 7)⟩, ⟨(some 16), none, .fieldA 1 (.tmp 15)⟩, ⟨none, none, .store 1 (.tmp 16) (.tmp 14)⟩] false []) (.seq (.ops [⟨(some 4), none, .mov (.const .nilif)⟩] false [4]) .ret)))), true, false⟩
/-- slices.Contains[[]int,int] -/
def A59 : An := (.node (.ops [1, 0]) (.node (.ops [4]) .leaf))
def F59 : AFn := ⟨[(4, none)], (.seq (.ops [⟨(some 4), none, .mov (.const (.bool false))⟩] false [1, 0]) (.seq (.ops [⟨(some 5), none, .mov (.tmp 0)⟩, ⟨(some 6), none, .mov (.tmp 1)⟩, ⟨(some 7), none, .call 68 [(.tmp 5), (.tmp 6)]⟩, ⟨(some 8), none, .bin .geq (.tmp 7) (.const (.int .i64 0))⟩, ⟨(some 4), none, .mov (.tmp 8)⟩] false [4]) .ret)), false, false⟩
/-- outpost/plain.only -/
def A61 : An := (.node (.ops [2, 1]) (.node (.ops [2, 3, 1]) (.node (.node (.ops [2, 3, 1, 8]) (.node (.node (.node (.ops [9, 2, 3, 1, 8]) (.node .leaf (.node (.ops [9, 2, 3, 1, 8]) (.node .leaf (.ops [9, 2, 3, 1, 8]))))) (.pre [9, 2, 3, 1, 8] (.node (.ops [2, 3]) (.node (.ops [16, 2, 3, 1, 8]) (.node (.ops [2, 3]) (.node (.ops [21, 2, 3, 1, 8]) (.node (.ops [2, 3]) (.node (.ops [26, 2, 3, 1]) (.node (.ops [2, 3]) .leaf))))))))) .leaf)) (.pre [2, 3] (.node (.ops [2]) .leaf)))))
def F61 : AFn := ⟨[(2, (some (6, true)))], (.seq (.ops [⟨(some 1), none, .box 6 (.tmp 0)⟩, ⟨(some 2), none, .alloc [(.int .i64 0), (.int .i64 0), (.str []), .nils, (.int .i64 0), (.int .i64 0)]⟩] false [2, 1]) (.seq (.ops [⟨(some 4), none, .fieldA 0 (.tmp 1)⟩, ⟨(some 5), none, .load 1 false (.tmp 4)⟩, ⟨(some 6), none, .build [(.int .i64 0), (.int .i64 0), (.str []), .nils, (.int .i64 0), (.int .i64 0)] [(0, 1, (.tmp 5))]⟩, ⟨(some 3), none, .alloc [(.int .i64 0), (.int .i64 0), (.str []), .nils, (.int .i64 0), (.int .i64 0)]⟩, ⟨none, none, .store 6 (.tmp 3) (.tmp 6)⟩] false [2, 3, 1]) (.seq (.seq (.ops [⟨(some 7), none, .fieldA 0 (.tmp 1)⟩, ⟨(some 8), none, .load 1 false (.tmp 7)⟩] false [2, 3, 1, 8]) (.block 0 (.seq (.seq (.ops [⟨(some 10), none, .bin .eql (.tmp 8) (.const (.int .i64 1))⟩, ⟨(some 9), none, .mov (.tmp 10)⟩] false [9, 2, 3, 1, 8]) (.cond (.tmp 9) .skip (.seq (.ops [⟨(some 11), none, .bin .eql (.tmp 8) (.const (.int .i64 2))⟩, ⟨(some 9), none, .mov (.tmp 11)⟩] false [9, 2, 3, 1, 8]) (.cond (.tmp 9) .skip (.ops [⟨(some 12), none, .bin .eql (.tmp 8) (.const (.int .i64 5))⟩, ⟨(some 9), none, .mov (.tmp 12)⟩] false [9, 2, 3, 1, 8]))))) (.seq (.ops [] false [9, 2, 3, 1, 8]) (.cond (.tmp 9) (.ops [⟨(some 13), none, .fieldA 1 (.tmp 1)⟩, ⟨(some 14), none, .load 1 false (.tmp 13)⟩, ⟨(some 15), none, .fieldA 1 (.tmp 3)⟩, ⟨none, none, .store 1 (.tmp 15) (.tmp 14)⟩] false [2, 3]) (.seq (.ops [⟨(some 17), none, .bin .eql (.tmp 8) (.const (.int .i64 3))⟩, ⟨(some 16), none, .mov (.tmp 17)⟩] false [16, 2, 3, 1, 8]) (.cond (.tmp 16) (.ops [⟨(some 18), none, .fieldA 2 (.tmp 1)⟩, ⟨(some 19), none, .load 1 false (.tmp 18)⟩, ⟨(some 20), none, .fieldA 2 (.tmp 3)⟩, ⟨none, none, .store 1 (.tmp 20) (.tmp 19)⟩] false [2, 3]) (.seq (.ops [⟨(some 22), none, .bin .eql (.tmp 8) (.const (.int .i64 4))⟩, ⟨(some 21), none, .mov (.tmp 22)⟩] false [21, 2, 3, 1, 8]) (.cond (.tmp 21) (.ops [⟨(some 23), none, .fieldA 3 (.tmp 1)⟩, ⟨(some 24), none, .load 1 false (.tmp 23)⟩, ⟨(some 25), none, .fieldA 3 (.tmp 3)⟩, ⟨none, none, .store 1 (.tmp 25) (.tmp 24)⟩] false [2, 3]) (.seq (.ops [⟨(some 27), none, .bin .eql (.tmp 8) (.const (.int .i64 6))⟩, ⟨(some 26), none, .mov (.tmp 27)⟩] false [26, 2, 3, 1]) (.cond (.tmp 26) (.ops [⟨(some 28), none, .fieldA 4 (.tmp 1)⟩, ⟨(some 29), none, .loadN 3 1 false (.tmp 28)⟩, ⟨(some 30), none, .fieldA 5 (.tmp 1)⟩, ⟨(some 31), none, .loadN 3 1 false (.tmp 30)⟩, ⟨(some 32), none, .fieldA 4 (.tmp 3)⟩, ⟨none, none, .storeN 3 1 (.tmp 32) (.tmp 29)⟩, ⟨(some 33), none, .fieldA 5 (.tmp 3)⟩, ⟨none, none, .storeN 3 1 (.tmp 33) (.tmp 31)⟩] false [2, 3]) .skip))))))))))) (.seq (.ops [] false [2, 3]) (.seq (.ops [⟨(some 34), none, .load 6 true (.tmp 3)⟩, ⟨none, none, .store 6 (.tmp 2) (.tmp 34)⟩] false [2]) .ret))))), false, false⟩
/-- slices.Index[[]int,int] -/
def A68 : An := (.node (.ops [0, 1]) (.node (.node (.ops [8, 0, 1, 7]) (.node (.loop [8, 0, 1, 7] (.node (.ops [9, 0, 1, 7, 8]) (.node (.node .leaf .leaf) (.node (.node (.node (.ops [5, 0, 1, 7, 8]) (.node (.ops [16, 5, 0, 1, 7, 8]) (.node (.node (.ops [4]) .leaf) .leaf))) .leaf) (.ops [8, 0, 1, 7]))))) .leaf)) (.node (.ops [4]) .leaf)))
def F68 : AFn := ⟨[(4, none)], (.seq (.ops [⟨(some 4), none, .mov (.const (.int .i64 0))⟩] false [0, 1]) (.seq (.seq (.ops [⟨(some 6), none, .mov (.tmp 0)⟩, ⟨(some 7), none, .len false (.tmp 6)⟩, ⟨(some 8), none, .mov (.const (.int .i64 0))⟩] false [8, 0, 1, 7]) (.block 0 (.seq (.ops [] false [8, 0, 1, 7]) (.loop (.seq (.seq (.ops [⟨(some 9), none, .bin .lss (.tmp 8) (.tmp 7)⟩] false [9, 0, 1, 7, 8]) (.seq (.cond (.tmp 9) .skip (.exit 0)) (.seq (.block 1 (.seq (.ops [⟨(some 10), none, .mov (.tmp 8)⟩, ⟨(some 5), none, .mov (.tmp 10)⟩] false [5, 0, 1, 7, 8]) (.seq (.ops [⟨(some 11), none, .mov (.tmp 1)⟩, ⟨(some 12), none, .mov (.tmp 0)⟩, ⟨(some 13), none, .mov (.tmp 5)⟩, ⟨(some 14), none, .idxA 1 (.tmp 12) (.tmp 13)⟩, ⟨(some 15), none, .load 1 false (.tmp 14)⟩, ⟨(some 16), none, .bin .eql (.tmp 11) (.tmp 15)⟩] false [16, 5, 0, 1, 7, 8]) (.cond (.tmp 16) (.seq (.ops [⟨(some 17), none, .mov (.tmp 5)⟩, ⟨(some 4), none, .mov (.tmp 17)⟩] false [4]) .ret) .skip)))) (.ops [⟨(some 18), none, .bin .add (.tmp 8) (.const (.int .i64 1))⟩, ⟨(some 8), none, .mov (.tmp 18)⟩] false [8, 0, 1, 7])))) (.ops [] false [8, 0, 1, 7])))))) (.seq (.ops [⟨(some 4), none, .mov (.const (.int .i64 (-1)))⟩] false [4]) .ret))), false, false⟩
noncomputable def T : Table := fun f => match f with
  | 3 => some (.code F3)
  | 4 => some (.code F4)
  | 5 => some (.code F5)
  | 7 => some (.code F7)
  | 8 => some (.code F8)
  | 9 => some (.code F9)
  | 10 => some (.code F10)
  | 11 => some (.code F11)
  | 12 => some (.code F12)
  | 13 => some (.code F13)
  | 14 => some (.prim (pMust 62))
  | 15 => some (.code F15)
  | 16 => some (.code F16)
  | 17 => some (.code F17)
  | 18 => some (.code F18)
  | 19 => some (.code F19)
  | 20 => some (.code F20)
  | 21 => some (.code F21)
  | 22 => some (.code F22)
  | 23 => some (.code F23)
  | 24 => some (.code F24)
  | 25 => some (.code F25)
  | 26 => some (.code F26)
  | 27 => some (.code F27)
  | 28 => some (.code F28)
  | 29 => some (.code F29)
  | 30 => some (.prim (fun vs h => (pItoa vs).map fun r => (r, none)))
  | 31 => some (.prim (fun vs h => (pFormat vs).map fun r => (r, none)))
  | 32 => some (.code F32)
  | 34 => some (.code F34)
  | 35 => some (.code F35)
  | 36 => some (.code F36)
  | 37 => some (.code F37)
  | 38 => some (.code F38)
  | 39 => some (.code F39)
  | 40 => some (.code F40)
  | 41 => some (.code F41)
  | 42 => some (.code F42)
  | 43 => some (.code F43)
  | 44 => some (.code F44)
  | 45 => some (.code F45)
  | 48 => some (.code F48)
  | 49 => some (.code F49)
  | 50 => some (.code F50)
  | 51 => some (.code F51)
  | 52 => some (.code F52)
  | 53 => some (.code F53)
  | 54 => some (.prim (pString 5))
  | 59 => some (.code F59)
  | 60 => some (.prim (fun vs h => (pDecode vs).map fun r => (r, none)))
  | 61 => some (.code F61)
  | 62 => some (.prim (pCopyCheck 94))
  | 68 => some (.code F68)
  | _ => none
theorem T_3 : T 3 = some (.code F3) := rfl
theorem T_4 : T 4 = some (.code F4) := rfl
theorem T_5 : T 5 = some (.code F5) := rfl
theorem T_7 : T 7 = some (.code F7) := rfl
theorem T_8 : T 8 = some (.code F8) := rfl
theorem T_9 : T 9 = some (.code F9) := rfl
theorem T_10 : T 10 = some (.code F10) := rfl
theorem T_11 : T 11 = some (.code F11) := rfl
theorem T_12 : T 12 = some (.code F12) := rfl
theorem T_13 : T 13 = some (.code F13) := rfl
theorem T_14 : T 14 = some (.prim (pMust 62)) := rfl
theorem T_15 : T 15 = some (.code F15) := rfl
theorem T_16 : T 16 = some (.code F16) := rfl
theorem T_17 : T 17 = some (.code F17) := rfl
theorem T_18 : T 18 = some (.code F18) := rfl
theorem T_19 : T 19 = some (.code F19) := rfl
theorem T_20 : T 20 = some (.code F20) := rfl
theorem T_21 : T 21 = some (.code F21) := rfl
theorem T_22 : T 22 = some (.code F22) := rfl
theorem T_23 : T 23 = some (.code F23) := rfl
theorem T_24 : T 24 = some (.code F24) := rfl
theorem T_25 : T 25 = some (.code F25) := rfl
theorem T_26 : T 26 = some (.code F26) := rfl
theorem T_27 : T 27 = some (.code F27) := rfl
theorem T_28 : T 28 = some (.code F28) := rfl
theorem T_29 : T 29 = some (.code F29) := rfl
theorem T_30 : T 30 = some (.prim (fun vs h => (pItoa vs).map fun r => (r, none))) := rfl
theorem T_31 : T 31 = some (.prim (fun vs h => (pFormat vs).map fun r => (r, none))) := rfl
theorem T_32 : T 32 = some (.code F32) := rfl
theorem T_34 : T 34 = some (.code F34) := rfl
theorem T_35 : T 35 = some (.code F35) := rfl
theorem T_36 : T 36 = some (.code F36) := rfl
theorem T_37 : T 37 = some (.code F37) := rfl
theorem T_38 : T 38 = some (.code F38) := rfl
theorem T_39 : T 39 = some (.code F39) := rfl
theorem T_40 : T 40 = some (.code F40) := rfl
theorem T_41 : T 41 = some (.code F41) := rfl
theorem T_42 : T 42 = some (.code F42) := rfl
theorem T_43 : T 43 = some (.code F43) := rfl
theorem T_44 : T 44 = some (.code F44) := rfl
theorem T_45 : T 45 = some (.code F45) := rfl
theorem T_48 : T 48 = some (.code F48) := rfl
theorem T_49 : T 49 = some (.code F49) := rfl
theorem T_50 : T 50 = some (.code F50) := rfl
theorem T_51 : T 51 = some (.code F51) := rfl
theorem T_52 : T 52 = some (.code F52) := rfl
theorem T_53 : T 53 = some (.code F53) := rfl
theorem T_54 : T 54 = some (.prim (pString 5)) := rfl
theorem T_59 : T 59 = some (.code F59) := rfl
theorem T_60 : T 60 = some (.prim (fun vs h => (pDecode vs).map fun r => (r, none))) := rfl
theorem T_61 : T 61 = some (.code F61) := rfl
theorem T_62 : T 62 = some (.prim (pCopyCheck 94)) := rfl
theorem T_68 : T 68 = some (.code F68) := rfl
end Go.Am.YtppkffebmoffnaaDoor
namespace Go.Am
set_option linter.unusedVariables false
theorem sound_in {N0 : Nat} {P : Program} {w0 : World} {gl : Globs} {I : Nat → World → Prop} {T : Table} (hT : TableOk2 P gl I T) (hgl : GlobOk gl N0 w0) (hI : I N0 w0) {base f : Nat} {vs : List PV} {h h' : Hp} {r : PV}
    (hs : CallA T base f vs h = some (r, h')) (hb : base ≤ size h) (g : G) (us : Array Value) (w : World) (k : OkH N0 w0 g h w) (hl : us.size = vs.length) (hrel : ∀ (j : Nat) (x : PV), vs[j]? = some x → RV N0 g w x (us.getD j Go.undef)) :
    (callFunc f us).run P w = .ok (.enter f us) w ∧ Calls P f us w fun en w' => ∃ u g', en = .returned u ∧ Ext N0 g w g' w' ∧ OkH N0 w0 g' h' w' ∧ RV N0 g' w' r u := by
  obtain ⟨T0, h1, h2⟩ := tableOk_of hT
  obtain ⟨n, hn⟩ := CallA_iff.1 hs
  obtain ⟨m, hm⟩ := CallA_iff.1 ((le_sound h2 n).2 base f vs h _ hn)
  exact (sim_all hgl hI h1 m).2.2 base f vs h r h' hm hb g us w k hl hrel
end Go.Am
namespace Go.Am
set_option linter.unusedVariables false
set_option linter.unusedSimpArgs false
theorem loadV_ptr (n g b off h) : loadV n g (.ptr b off) h = (getBox h b).bnd fun cs => part cs off n g := (rfl)
theorem loadV_ep (n g cs off h) : loadV n g (.ep cs off) h = part cs off n g := (rfl)
theorem storeV_ptr (base n b off u h) : storeV base n (.ptr b off) u h = (getBox h b).bnd fun cs =>
      if u.cells.length = n ∧ off + n ≤ cs.length ∧ u.cells.all scalar = true ∧ (b < base → belows 0 (strips u.cells) = true)
      then some (setBox h b (setRange cs off (if b < base then strips u.cells else u.cells))) else none := (rfl)
theorem allocK_eq {α : Type} (z h) (K : PV → Hp → Option α) : allocK z h K = K (.ptr (size h) 0) (ext h [.cells z]) := (rfl)
theorem boxV_eq (n v h) : boxV n v h = if v.cells.length = n ∧ v.cells.all scalar = true then some (.ptr (size h) 0, ext h [.cells v.cells]) else none := (rfl)
theorem buildV_eq (z l) : buildV z l = (buildAgg l z).bnd fun cs => some (.agg cs) := (rfl)
theorem buildSlV_eq (sz g z len l) : buildSlV sz g z len l = (fillParts sz l (List.replicate len (if g then .agg z else z.headD .undef))).bnd fun es => some (.sl .full sz es) := (rfl)
theorem nilckV_eq (v) : nilckV v = (isNil v).bnd fun b => if b then none else some v := (rfl)
theorem isnilV_eq (kd neg v) : isnilV kd neg v = (nilK kd v).bnd fun b => some (.bool (if neg then !b else b)) := (rfl)
theorem makeV_eq (T z l c h) : makeV T z l c h = (makeN l c).bnd fun n => makeB T z n h := (rfl)
theorem copyV_bsl (base f b off len sz u h) : copyV base (.bsl f b off len sz) u h = (elems h u).bnd fun xs => (getBox h b).bnd fun cs =>
        if sz = 1 ∧ off + len ≤ cs.length ∧ xs.all scalar = true ∧ (b < base → belows 0 (xs.take len) = true)
        then some (.int .i64 (min xs.length len : Nat), setBox h b (setRange cs off (xs.take len))) else none := (rfl)
theorem copyV_nils (base u h) : copyV base .nils u h = (elems h u).bnd fun xs => some (.int .i64 0, h) := (rfl)
theorem bdW_none (n d) : bdW n d none = some d := (rfl)
theorem bdW_some (n d v) : bdW n d (some v) = bdV n v := (rfl)
theorem sliceV_str (lo hi s) : sliceV none lo hi none (.str s) = (bdW s.length s.length hi).bnd fun hh => (bdW hh 0 lo).bnd fun l => some (.str ((s.drop l).take (hh - l))) := (rfl)
theorem sliceV_nils (n lo hi mx) : sliceV (some n) lo hi mx .nils = (bdW 0 0 mx).bnd fun m => (bdW 0 0 hi).bnd fun hh => (bdW 0 0 lo).bnd fun l => some .nils := (rfl)
theorem sliceV_sl (n lo hi o es) : sliceV (some n) lo hi none (.sl o n es) = (bdW es.length es.length hi).bnd fun hh => (bdW hh 0 lo).bnd fun l =>
      some (.sl (if isFull o && hh == es.length then .full else .no) n ((es.drop l).take (hh - l))) := by
  simp [sliceV, bdW_none, Option.bnd_some]
theorem sliceV_bsl (n lo hi f b off len) : sliceV (some n) lo hi none (.bsl f b off len n) = (bdW len len hi).bnd fun hh => (bdW hh 0 lo).bnd fun l =>
      if hh - l = 0 then some (.sl .no n []) else some (.bsl (f && hh == len) b (off + l * n) (hh - l) n) := by
  simp [sliceV, bdW_none, Option.bnd_some]
theorem idxArrV_ptr (sz len b o i) : idxArrV sz len (.ptr b o) i = (ix i len).bnd fun i => some (.ptr b (o + i * sz)) := (rfl)
theorem idxArrV_ep (sz len b o i) : idxArrV sz len (.ep b o) i = (ix i len).bnd fun i => some (.ep b (o + i * sz)) := (rfl)
theorem idxAggV_agg (sz g len cs i) : idxAggV sz g len (.agg cs) i = (ix i len).bnd fun i => part cs (i * sz) sz g := (rfl)
theorem minmaxV_cons (m x r) : minmaxV m (x :: r) = minMax m x r := (rfl)
theorem appTV_eq (T sz v u h) : appTV T sz v u h = (elems h u).bnd fun xs => growT h T sz v xs := (rfl)
theorem loadNV_ptr (n g c o b off h) : loadNV n g (.ptr c o) (.ptr b off) h = if b = c then none else loadV n g (.ptr b off) h := (rfl)
theorem loadNV_ep (n g c o cs off h) : loadNV n g (.ptr c o) (.ep cs off) h = loadV n g (.ep cs off) h := (rfl)
theorem storeNV_ptr (base n c o b off u h) : storeNV base n (.ptr c o) (.ptr b off) u h = if b = c then storeV base n (.ptr b off) u h else none := (rfl)
theorem callvV_fn (orc f cap vs h) : callvV orc (.fn f cap) vs h = orc f (vs ++ cap) h := (rfl)
theorem forget_same (v : PV) (h : Hp) : forget h (v, h) = some (v, h) := by simp [forget]
theorem orcQ_eq (orc : Orc) (f vs h) : orcQ orc f vs h = (orc f vs h).bnd (forget h) := (rfl)
theorem chkK_eq {α : Type} (h) (y : Option α) : chkK h h y = y := by simp [chkK]
theorem finV_code (n0 vs h) : finV false false n0 vs h = (frzs n0 h vs).bnd fun vs => if belows n0 vs = true then some (result1 vs, trunc h n0) else none := (rfl)
theorem finV_keep (o n0 vs h) : finV true o n0 vs h = some (result1 vs, h) := (rfl)
theorem finV_own (n0 vs h) : finV false true n0 vs h = (ownEnd n0 h vs).bnd fun r => some (result1 r.1, r.2) := (rfl)
theorem appV_nils (sz u h) : appV sz .nils u h = (elems h u).bnd fun xs => if xs.all (fun x => x.cells.length == sz) then (if xs.length ≤ lim2 then some (if xs.isEmpty then .nils else .sl .no sz (strips xs)) else none) else none := (rfl)
theorem appV_full (sz es u h) : appV sz (.sl .full sz es) u h = (elems h u).bnd fun xs => if xs.all (fun x => x.cells.length == sz) then (if es.length + xs.length ≤ lim2 then some (if xs.isEmpty then .sl .full sz es else .sl .no sz (es ++ strips xs)) else none) else none := by
  unfold appV; simp
theorem bnd_some_id {α : Type} (x : Option α) : x.bnd some = x := by cases x <;> rfl
end Go.Am
namespace Go.Am
set_option maxRecDepth 100000
set_option linter.defProp false
def evD :=
  And.intro @bnd2_some <|
  And.intro @bnd2_none <|
  And.intro @bnd2_ite <|
  And.intro @Option.bnd_some <|
  And.intro @Option.bnd_none <|
  And.intro @Option.bnd_ite <|
  And.intro @condB_true <|
  And.intro @condB_false <|
  And.intro @condB_b <|
  And.intro @whenB_true <|
  And.intro @whenB_false <|
  @allocK_eq
def evU :=
  And.intro @Int.toNat_natCast <|
  And.intro @Nat.zero_add <|
  And.intro @Nat.add_zero <|
  And.intro @Nat.le_refl <|
  And.intro @Nat.succ_eq_add_one <|
  And.intro @Nat.add_eq_zero_iff <|
  And.intro @Nat.succ_ne_self <|
  And.intro @and_true <|
  And.intro @true_and <|
  And.intro @and_self <|
  And.intro @Bool.false_eq_true <|
  And.intro @Bool.true_and <|
  And.intro @Bool.and_true <|
  And.intro @Bool.and_self <|
  And.intro @Bool.not_true <|
  And.intro @Bool.not_false <|
  And.intro @Bool.not_not <|
  And.intro @Bool.true_beq <|
  And.intro @Bool.false_beq <|
  And.intro @beq_true <|
  And.intro @beq_false <|
  And.intro @imp_self <|
  And.intro @false_implies <|
  And.intro @decide_eq_true_eq <|
  And.intro @not_true_eq_false <|
  And.intro @not_false_eq_true <|
  And.intro @Bool.not_eq_true' <|
  And.intro @decide_true <|
  And.intro @decide_false <|
  And.intro @Bool.true_or <|
  And.intro @Bool.false_or <|
  And.intro @Bool.or_true <|
  And.intro @Bool.or_false <|
  And.intro @Bool.false_and <|
  And.intro @Bool.and_false <|
  And.intro @true_or <|
  And.intro @or_true <|
  And.intro @false_or <|
  And.intro @or_false <|
  And.intro @or_self <|
  And.intro @false_and <|
  And.intro @and_false <|
  And.intro @Nat.add_eq_left <|
  And.intro @Nat.left_eq_add <|
  And.intro @Nat.add_left_cancel_iff <|
  And.intro @size_ext <|
  And.intro @size_setBox <|
  And.intro @getBox_ext_0 <|
  And.intro @getBox_ext_n <|
  And.intro @ext_ext <|
  And.intro @trunc_ext <|
  And.intro @trunc_self <|
  And.intro @trunc_exts <|
  And.intro @trunc_set <|
  And.intro @not_lt_size <|
  And.intro @size_add_lt <|
  And.intro @strip_undef <|
  And.intro @strip_bool <|
  And.intro @strip_int <|
  And.intro @strip_str <|
  And.intro @strip_nilp <|
  And.intro @strip_bnil <|
  And.intro @strip_ptr <|
  And.intro @strip_ep <|
  And.intro @strip_nils <|
  And.intro @strip_bsl <|
  And.intro @strip_nilif <|
  And.intro @strip_iface <|
  And.intro @strip_nilf <|
  And.intro @strip_fn <|
  And.intro @strip_agg <|
  And.intro @strip_tup <|
  And.intro @cells_agg <|
  And.intro @cells_bool <|
  And.intro @cells_int <|
  And.intro @cells_str <|
  And.intro @cells_nilp <|
  And.intro @cells_bnil <|
  And.intro @cells_ptr <|
  And.intro @cells_nils <|
  And.intro @cells_sl <|
  And.intro @cells_bsl <|
  And.intro @cells_nilif <|
  And.intro @cells_iface <|
  And.intro @cells_nilf <|
  And.intro @cells_fn <|
  And.intro @isNil_nilp <|
  And.intro @isNil_bnil <|
  And.intro @isNil_nils <|
  And.intro @isNil_nilif <|
  And.intro @isNil_nilf <|
  And.intro @isNil_ptr <|
  And.intro @isNil_ep <|
  And.intro @isNil_sl <|
  And.intro @isNil_bsl <|
  And.intro @isNil_iface <|
  And.intro @isNil_fn <|
  And.intro @wantB_bool <|
  And.intro @wantB_undef <|
  And.intro @boolB_eq <|
  And.intro @boolB_ne <|
  And.intro @nilK_00 <|
  And.intro @nilK_0b <|
  And.intro @nilK_01 <|
  And.intro @nilK_10 <|
  And.intro @nilK_11 <|
  And.intro @nilK_12 <|
  And.intro @nilK_20 <|
  And.intro @nilK_21 <|
  And.intro @nilK_30 <|
  And.intro @nilK_31 <|
  And.intro @scalar_bool <|
  And.intro @scalar_int <|
  And.intro @scalar_str <|
  And.intro @scalar_nilp <|
  And.intro @scalar_bnil <|
  And.intro @scalar_ptr <|
  And.intro @scalar_nils <|
  And.intro @scalar_sl <|
  And.intro @scalar_bsl <|
  And.intro @scalar_nilif <|
  And.intro @scalar_iface <|
  And.intro @scalar_nilf <|
  And.intro @scalar_fn <|
  And.intro @bdV_int <|
  And.intro @isFull_no <|
  And.intro @isFull_full <|
  And.intro @isFull_tok <|
  And.intro @toIntB_int <|
  And.intro @extractB_tup <|
  And.intro @fieldAB_ptr <|
  And.intro @fieldAB_ep <|
  And.intro @fieldB_agg <|
  And.intro @lenB_str <|
  And.intro @lenB_nils <|
  And.intro @lenB_sl <|
  And.intro @lenB_bsl <|
  And.intro @idxAB_sl <|
  And.intro @idxAB_bsl <|
  And.intro @idxStrB_str <|
  And.intro @binOp_int <|
  And.intro @binOp_str <|
  And.intro @isShift_add <|
  And.intro @isShift_sub <|
  And.intro @isShift_mul <|
  And.intro @isShift_quo <|
  And.intro @isShift_rem <|
  And.intro @isShift_and <|
  And.intro @isShift_or <|
  And.intro @isShift_xor <|
  And.intro @isShift_andNot <|
  And.intro @isShift_eql <|
  And.intro @isShift_neq <|
  And.intro @isShift_lss <|
  And.intro @isShift_leq <|
  And.intro @isShift_gtr <|
  And.intro @isShift_geq <|
  And.intro @isShift_shl <|
  And.intro @isShift_shr <|
  And.intro @intOp_add <|
  And.intro @intOp_sub <|
  And.intro @intOp_mul <|
  And.intro @intOp_quo <|
  And.intro @intOp_rem <|
  And.intro @intOp_eql <|
  And.intro @intOp_neq <|
  And.intro @intOp_lss <|
  And.intro @intOp_leq <|
  And.intro @intOp_gtr <|
  And.intro @intOp_geq <|
  And.intro @strOp_eql <|
  And.intro @strOp_neq <|
  And.intro @strOp_add <|
  And.intro @unOp_not <|
  And.intro @unOp_neg <|
  And.intro @part_agg <|
  And.intro @part_one <|
  And.intro @minMax_nil <|
  And.intro @minMax_cons <|
  And.intro @minMax2_max <|
  And.intro @minMax2_min <|
  And.intro @belows_nil <|
  And.intro @belows_cons <|
  And.intro @below_undef <|
  And.intro @below_bool <|
  And.intro @below_int <|
  And.intro @below_str <|
  And.intro @below_nilp <|
  And.intro @below_bnil <|
  And.intro @below_nils <|
  And.intro @below_nilif <|
  And.intro @below_nilf <|
  And.intro @below_ptr <|
  And.intro @below_sl <|
  And.intro @below_iface <|
  And.intro @below_agg <|
  And.intro @below_tup <|
  And.intro @resB_ptr <|
  And.intro @result1_one <|
  And.intro @result1_nil <|
  And.intro @result1_two <|
  And.intro @setRange_nil <|
  And.intro @setRange_cons <|
  And.intro @fillParts_nil <|
  And.intro @fillParts_cons <|
  And.intro @buildAgg_nil <|
  And.intro @buildAgg_cons <|
  And.intro @elems_nils <|
  And.intro @elems_sl <|
  And.intro @elems_bsl <|
  And.intro @setBox_eq <|
  And.intro @size_setBx <|
  And.intro @cellsOf_cells <|
  And.intro @tokOf_tok <|
  And.intro @iterOf_iter <|
  And.intro @getBox_exts_0 <|
  And.intro @getBox_exts_n <|
  And.intro @setBx_ext_0 <|
  And.intro @setBx_ext_n <|
  And.intro @setBx_exts_0 <|
  And.intro @setBx_exts_n <|
  And.intro @setBx_setBx <|
  And.intro @getTok_ext_0 <|
  And.intro @getTok_ext_n <|
  And.intro @getTok_exts_0 <|
  And.intro @getTok_exts_n <|
  And.intro @getIter_ext_0 <|
  And.intro @getIter_ext_n <|
  And.intro @getIter_exts_0 <|
  And.intro @getIter_exts_n <|
  And.intro @strip_sl <|
  And.intro @ostrip_no <|
  And.intro @ostrip_full <|
  And.intro @ostrip_tok <|
  And.intro @obelow_no <|
  And.intro @obelow_full <|
  And.intro @obelow_tok <|
  And.intro @strips_nil <|
  And.intro @strips_cons <|
  And.intro @below_bsl <|
  And.intro @below_fn <|
  And.intro @below_ep <|
  And.intro @frzs_nil <|
  And.intro @frzs_cons <|
  And.intro @frz_sl <|
  And.intro @frz_bsl <|
  And.intro @frz_agg <|
  And.intro @frz_tup <|
  And.intro @frz_iface <|
  And.intro @frz_undef <|
  And.intro @frz_bool <|
  And.intro @frz_int <|
  And.intro @frz_str <|
  And.intro @frz_nilp <|
  And.intro @frz_bnil <|
  And.intro @frz_ptr <|
  And.intro @frz_ep <|
  And.intro @frz_nils <|
  And.intro @frz_nilif <|
  And.intro @frz_nilf <|
  And.intro @frz_fn <|
  And.intro @ownEnd_tok <|
  And.intro @ownEnd_bsl <|
  And.intro @ownEnd_nils <|
  And.intro @ownEnd_no <|
  And.intro @ownEnd_full <|
  And.intro @elemsOf_one <|
  And.intro @elems_str <|
  And.intro @fits_def <|
  And.intro @rangeB_str <|
  And.intro @nextB_it <|
  And.intro @tassertB_iface <|
  And.intro @tassertB_nil <|
  And.intro @eqvB_agg <|
  And.intro @eqCells_nil <|
  And.intro @eqCells_cons <|
  And.intro @eqCell_bool <|
  And.intro @eqCell_int <|
  And.intro @eqCell_str <|
  And.intro @makeB_eq <|
  And.intro @bytesStrB_sl <|
  And.intro @bytesStrB_nils <|
  And.intro @bytesStrB_bsl <|
  And.intro @bytesOf_bytes <|
  And.intro @loadV_ptr <|
  And.intro @loadV_ep <|
  And.intro @storeV_ptr <|
  And.intro @boxV_eq <|
  And.intro @buildV_eq <|
  And.intro @buildSlV_eq <|
  And.intro @nilckV_eq <|
  And.intro @isnilV_eq <|
  And.intro @makeV_eq <|
  And.intro @copyV_bsl <|
  And.intro @copyV_nils <|
  And.intro @bdW_none <|
  And.intro @bdW_some <|
  And.intro @sliceV_str <|
  And.intro @sliceV_nils <|
  And.intro @sliceV_sl <|
  And.intro @sliceV_bsl <|
  And.intro @idxArrV_ptr <|
  And.intro @idxArrV_ep <|
  And.intro @idxAggV_agg <|
  And.intro @minmaxV_cons <|
  And.intro @appTV_eq <|
  And.intro @loadNV_ptr <|
  And.intro @loadNV_ep <|
  And.intro @storeNV_ptr <|
  And.intro @callvV_fn <|
  And.intro @chkK_eq <|
  And.intro @forget_same <|
  And.intro @orcQ_eq <|
  And.intro @finV_code <|
  And.intro @finV_keep <|
  And.intro @finV_own <|
  And.intro @appV_nils <|
  And.intro @appV_full <|
  @bnd_some_id
/-- Lists and the like, of plain types. -/
def evL :=
  And.intro @List.all_cons.{0} <|
  And.intro @List.all_nil.{0} <|
  And.intro @List.getElem?_cons_zero.{0} <|
  And.intro @List.getElem?_cons_succ.{0} <|
  And.intro @List.getElem?_nil.{0} <|
  And.intro @List.length_cons.{0} <|
  And.intro @List.length_nil.{0} <|
  And.intro @List.set_cons_zero.{0} <|
  And.intro @List.set_cons_succ.{0} <|
  And.intro @List.drop_zero.{0} <|
  And.intro @List.drop_succ_cons.{0} <|
  And.intro @List.drop_nil.{0} <|
  And.intro @List.take_zero.{0} <|
  And.intro @List.take_succ_cons.{0} <|
  And.intro @List.take_nil.{0} <|
  And.intro @List.replicate_succ.{0} <|
  And.intro @List.replicate_zero.{0} <|
  And.intro @List.headD_cons.{0} <|
  And.intro @List.cons_append.{0} <|
  And.intro @List.nil_append.{0} <|
  And.intro @bne_self_eq_false.{0} <|
  And.intro @beq_self_eq_true.{0} <|
  And.intro @Option.map_some.{0, 0} <|
  And.intro @List.map_cons.{0, 0} <|
  @List.map_nil.{0, 0}
end Go.Am
namespace Go.Am
set_option linter.unusedVariables false
set_option linter.unusedSimpArgs false
theorem Bu.strips : ∀ l : List UInt8, strips (u8s l) = u8s l
  | [] => rfl
  | c :: l => by show strip _ :: Go.Am.strips (u8s l) = _; rw [Bu.strips l]; rfl
theorem Bu.len (l : List UInt8) : (u8s l).length = l.length := by simp [u8s]
theorem Bu.append (a b : List UInt8) : u8s a ++ u8s b = u8s (a ++ b) := by simp [u8s]
theorem Bu.bytesOf (l : List UInt8) : bytesOf (u8s l) = some l := bytesOf_bytes l
theorem Bu.ne {l : List UInt8} (h : l ≠ []) : u8s l ≠ [] := by cases l <;> simp_all [u8s]
theorem Bu.nil : u8s [] = [] := rfl
theorem Bu.cons (c : UInt8) (l : List UInt8) : u8s (c :: l) = .int .u8 c.toNat :: u8s l := rfl
theorem Bu.one (c : UInt8) : [PV.int .u8 (c.toNat : Int)] = u8s [c] := rfl
theorem Bu.eq_nil {l : List UInt8} : u8s l = [] ↔ l = [] := by cases l <;> simp [u8s]
theorem Bu.fits : ∀ l : List UInt8, (u8s l).all (fits 1) = true
  | [] => rfl
  | c :: l => by show (_ && List.all (u8s l) _) = true; rw [Bu.fits l]; rfl
theorem Bu.scalar : ∀ l : List UInt8, (u8s l).all scalar = true
  | [] => rfl
  | c :: l => by show (_ && List.all (u8s l) _) = true; rw [Bu.scalar l]; rfl
theorem Bu.below (n : Nat) : ∀ l : List UInt8, belows n (u8s l) = true
  | [] => rfl
  | c :: l => by show (_ && belows n (u8s l)) = true; rw [Bu.below n l]; rfl
theorem Bu.get {l : List UInt8} {i : Nat} {c : UInt8} (h : l[i]? = some c) : (u8s l)[i]? = some (.int .u8 c.toNat) := by simp [u8s, h]
theorem Bu.drop (l : List UInt8) (n : Nat) : (u8s l).drop n = u8s (l.drop n) := by simp [u8s]
theorem Bu.take (l : List UInt8) (n : Nat) : (u8s l).take n = u8s (l.take n) := by simp [u8s]
theorem Bu.ix {k : IntKind} {l : List UInt8} {i : Nat} (h : i < l.length) : ix (.int k i) (u8s l).length = some i := ix_nat k i _ (by rw [Bu.len]; exact h)

/-- A slice that grows: what it is (z: while there is nothing in it), and its token on top of the heap. -/
def gV (h : Hp) (z : PV) (sz : Nat) (es : List PV) : PV := if es.isEmpty then z else .sl (.tok (size h)) sz es
def gH (h : Hp) (T : Nat) (es : List PV) : Hp := if es.isEmpty then h else ext h [.tok es.length T]
/-- What may stand for nothing. -/
def gZ (sz : Nat) (z : PV) : Prop := z = .nils ∨ z = .sl .full sz []
theorem gZ_nils (sz : Nat) : gZ sz .nils := .inl rfl
theorem gZ_full (sz : Nat) : gZ sz (.sl .full sz []) := .inr rfl
theorem gV_nil (h z sz) : gV h z sz [] = z := rfl
theorem gH_nil (h T) : gH h T [] = h := rfl
theorem gGrow {h : Hp} {T sz : Nat} {z : PV} (hz : gZ sz z) (es xs : List PV) (hf : xs.all (fits sz) = true) (hs : strips xs = xs) (hl : es.length + xs.length ≤ lim2) :
    growT (gH h T es) T sz (gV h z sz es) xs = some (gV h z sz (es ++ xs), gH h T (es ++ xs)) := by
  unfold growT
  rw [if_pos hf]
  cases es with
  | nil =>
    simp only [gV_nil, gH_nil, List.nil_append]
    simp only [List.length_nil] at hl
    rcases hz with rfl | rfl
    · simp only
      rw [if_pos (by omega)]
      cases xs with
      | nil => rfl
      | cons x xs => simp only [List.isEmpty_cons, Bool.false_eq_true, if_false, gV, gH, hs]
    · simp only
      rw [if_pos (by simp; omega)]
      cases xs with
      | nil => rfl
      | cons x xs => simp only [List.isEmpty_cons, Bool.false_eq_true, if_false, gV, gH, hs, List.nil_append, List.length_nil, Nat.zero_add]
  | cons e es =>
    have e1 : gV h z sz (e :: es) = .sl (.tok (size h)) sz (e :: es) := rfl
    have e2 : gH h T (e :: es) = ext h [.tok (e :: es).length T] := rfl
    rw [e1, e2]
    simp only [getTok_ext_0, tokOf_tok, Option.bnd_some, hs]
    rw [if_pos ⟨trivial, trivial, hl⟩, setBx_ext_0]
    simp only [gV, gH, List.cons_append, List.isEmpty_cons, Bool.false_eq_true, if_false, List.length_cons, List.length_append, Nat.add_right_comm]
theorem gOne {h : Hp} {T : Nat} {z : PV} (hz : gZ 1 z) (out : List UInt8) (c : UInt8) (hl : out.length + 1 ≤ lim2) :
    growT (gH h T (u8s out)) T 1 (gV h z 1 (u8s out)) [.int .u8 c.toNat] = some (gV h z 1 (u8s (out ++ [c])), gH h T (u8s (out ++ [c]))) := by
  have := gGrow (h := h) (T := T) hz (u8s out) (u8s [c]) (Bu.fits [c]) (Bu.strips [c]) (by rw [Bu.len]; exact hl)
  rw [Bu.append] at this
  exact this
theorem gU8 {h : Hp} {T : Nat} {z : PV} (hz : gZ 1 z) (out l : List UInt8) (hl : out.length + l.length ≤ lim2) :
    growT (gH h T (u8s out)) T 1 (gV h z 1 (u8s out)) (u8s l) = some (gV h z 1 (u8s (out ++ l)), gH h T (u8s (out ++ l))) := by
  have := gGrow (h := h) (T := T) hz (u8s out) (u8s l) (Bu.fits l) (Bu.strips l) (by rw [Bu.len, Bu.len]; exact hl)
  rw [Bu.append] at this
  exact this
theorem size_gH (h T es) : size h ≤ size (gH h T es) := by
  unfold gH; split
  · exact Nat.le_refl _
  · rw [size_ext]; omega
theorem trunc_gH (h T es) : trunc (gH h T es) (size h) = h := by
  unfold gH; split
  · exact trunc_self
  · exact trunc_ext
/-- What has grown, behind its frame. -/
def gD (z : PV) (sz : Nat) (es : List PV) : PV := if es.isEmpty then z else .sl .no sz es
theorem frz_gV {sz : Nat} {z : PV} (hz : gZ sz z) (n : Nat) (h k : Hp) (es : List PV) : frz n k (gV h z sz es) = some (gD z sz es) := by
  unfold gV gD
  cases es with
  | nil => rcases hz with rfl | rfl <;> rfl
  | cons x xs => rfl
theorem below_gD {sz : Nat} {z : PV} (hz : gZ sz z) (n : Nat) (es : List PV) (hb : belows n es = true) : below n (gD z sz es) = true := by
  unfold gD
  cases es with
  | nil => rcases hz with rfl | rfl <;> rfl
  | cons x xs => simp only [List.isEmpty_cons, Bool.false_eq_true, if_false, below_sl, obelow_no, Bool.true_and, hb]
theorem elems_gV {sz : Nat} {z : PV} (hz : gZ sz z) (h k : Hp) (es : List PV) : elems k (gV h z sz es) = some es := by
  unfold gV
  cases es with
  | nil => rcases hz with rfl | rfl <;> rfl
  | cons x xs => rfl
theorem elems_gD {sz : Nat} {z : PV} (hz : gZ sz z) (k : Hp) (es : List PV) : elems k (gD z sz es) = some es := by
  unfold gD
  cases es with
  | nil => rcases hz with rfl | rfl <;> rfl
  | cons x xs => rfl
theorem len_gV {sz : Nat} {z : PV} (hz : gZ sz z) (h : Hp) (es : List PV) : lenB false (gV h z sz es) = some (.int .i64 es.length) := by
  unfold gV
  cases es with
  | nil => rcases hz with rfl | rfl <;> rfl
  | cons x xs => rfl
theorem len_gD {sz : Nat} {z : PV} (hz : gZ sz z) (es : List PV) : lenB false (gD z sz es) = some (.int .i64 es.length) := by
  unfold gD
  cases es with
  | nil => rcases hz with rfl | rfl <;> rfl
  | cons x xs => rfl
theorem bytes_gV {z : PV} (hz : gZ 1 z) (h k : Hp) (l : List UInt8) : bytesStrB k (gV h z 1 (u8s l)) = some (.str l) := by
  unfold gV
  cases l with
  | nil => rcases hz with rfl | rfl <;> rfl
  | cons x xs =>
    show (Go.Am.bytesOf (u8s (x :: xs))).bnd _ = _
    rw [Bu.bytesOf]; rfl
/-- Bytes as a value: nil, or a slice by value. -/
def Bv (b : PV) (l : List UInt8) : Prop := (b = .nils ∧ l = []) ∨ b = .sl .no 1 (u8s l) ∨ b = .sl .full 1 (u8s l)
theorem Bv.nils : Bv .nils [] := .inl ⟨rfl, rfl⟩
theorem Bv.no (l) : Bv (.sl .no 1 (u8s l)) l := .inr (.inl rfl)
theorem Bv.full (l) : Bv (.sl .full 1 (u8s l)) l := .inr (.inr rfl)
section
variable {b : PV} {l : List UInt8} (hb : Bv b l)
include hb
theorem Bv.len : lenB false b = some (.int .i64 l.length) := by
  rcases hb with ⟨rfl, rfl⟩ | rfl | rfl
  · rfl
  · rw [lenB_sl, Bu.len]
  · rw [lenB_sl, Bu.len]
theorem Bv.elems (h : Hp) : Go.Am.elems h b = some (u8s l) := by rcases hb with ⟨rfl, rfl⟩ | rfl | rfl <;> rfl
theorem Bv.idx {k : IntKind} {i : Nat} {c : UInt8} (hc : l[i]? = some c) : idxAB b (.int k i) 1 = some (.ep [.int .u8 c.toNat] 0) := by
  have hi := (List.getElem?_eq_some_iff.1 hc).1
  rcases hb with ⟨rfl, rfl⟩ | rfl | rfl
  · simp at hc
  · rw [idxAB_sl, if_pos rfl, Bu.ix hi, Option.bnd_some, Bu.get hc]; rfl
  · rw [idxAB_sl, if_pos rfl, Bu.ix hi, Option.bnd_some, Bu.get hc]; rfl
theorem Bv.scalar : Go.Am.scalar b = true := by rcases hb with ⟨rfl, rfl⟩ | rfl | rfl <;> rfl
theorem Bv.frz (n : Nat) (h : Hp) : Go.Am.frz n h b = some b := by rcases hb with ⟨rfl, rfl⟩ | rfl | rfl <;> rfl
theorem Bv.strip : Go.Am.strip b = b := by rcases hb with ⟨rfl, rfl⟩ | rfl | rfl <;> rfl
theorem Bv.below (n : Nat) : Go.Am.below n b = true := by
  rcases hb with ⟨rfl, rfl⟩ | rfl | rfl
  · rfl
  · rw [below_sl, Bu.below]; rfl
  · rw [below_sl, Bu.below]; rfl
theorem Bv.cells : b.cells = [b] := by rcases hb with ⟨rfl, rfl⟩ | rfl | rfl <;> rfl
end
theorem Bv.done {z : PV} (hz : gZ 1 z) (l : List UInt8) : Bv (gD z 1 (u8s l)) l := by
  unfold gD
  cases l with
  | nil => rcases hz with rfl | rfl
           · exact .inl ⟨rfl, rfl⟩
           · exact .inr (.inr rfl)
  | cons x xs => exact .inr (.inl rfl)
/-- Bytes that can be read. -/
structure Rd (b : PV) (l : List UInt8) : Prop where
  len : lenB false b = some (.int .i64 l.length)
  idx : ∀ {k : IntKind} {i : Nat} {c : UInt8}, l[i]? = some c → idxAB b (.int k i) 1 = some (.ep [.int .u8 c.toNat] 0)
  elems : ∀ h, Go.Am.elems h b = some (u8s l)
theorem Bv.rd {b : PV} {l : List UInt8} (hb : Bv b l) : Rd b l := ⟨hb.len, hb.idx, hb.elems⟩
theorem rd_sl (o : Own) (l : List UInt8) : Rd (.sl o 1 (u8s l)) l := by
  refine ⟨by rw [lenB_sl, Bu.len], fun {k i c} hc => ?_, fun h => rfl⟩
  have hi := (List.getElem?_eq_some_iff.1 hc).1
  rw [idxAB_sl, if_pos rfl, Bu.ix hi, Option.bnd_some, Bu.get hc]; rfl
theorem gV_rd {z : PV} (hz : gZ 1 z) (h : Hp) (l : List UInt8) : Rd (gV h z 1 (u8s l)) l := by
  cases l with
  | nil =>
    rcases hz with rfl | rfl
    · exact Bv.nils.rd
    · exact (Bv.full []).rd
  | cons x l => exact rd_sl _ (x :: l)
end Go.Am
