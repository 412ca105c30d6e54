/- More evaluating equations. By the session's AI agent. -/
import Derived.Test.YthhceeaconflnaaDoorAm4
import Derived.IntWalk
namespace Go.Am
set_option linter.unusedVariables false
set_option linter.unusedSimpArgs false
theorem evParts_nil (e : Env) : evParts e [] = some [] := (rfl)
theorem evParts_cons (e : Env) (i x r) : evParts e ((i, x) :: r) = (ev e x).bnd fun v => (evParts e r).bnd fun l => some ((i, strip v) :: l) := by
  show Option.bnd _ _ = _
  congr 1; funext v; cases evParts e r <;> rfl
theorem evParts3_nil (e : Env) : evParts3 e [] = some [] := (rfl)
theorem evParts3_cons (e : Env) (i n x r) : evParts3 e ((i, n, x) :: r) = (ev e x).bnd fun v => (evParts3 e r).bnd fun l => some ((i, n, v) :: l) := by
  show Option.bnd _ _ = _
  congr 1; funext v; cases evParts3 e r <;> rfl
theorem fillParts_nil (sz cs) : fillParts sz [] cs = some cs := (rfl)
theorem fillParts_cons (sz i v r cs) : fillParts sz ((i, v) :: r) cs = if v.cells.length = sz ∧ i < cs.length ∧ v.cells.all scalar = true then fillParts sz r (cs.set i v) else none := (rfl)
theorem buildAgg_nil (cs) : buildAgg [] cs = some cs := (rfl)
theorem buildAgg_cons (off n v r cs) : buildAgg ((off, n, v) :: r) cs = if v.cells.length = n ∧ off + n ≤ cs.length ∧ v.cells.all scalar = true then buildAgg r (setRange cs off v.cells) else none := (rfl)
theorem elems_nils (h) : elems h .nils = some [] := (rfl)
theorem elems_sl (h o sz es) : elems h (.sl o sz es) = some es := (rfl)
theorem elems_bsl (h f b off len) : elems h (.bsl f b off len 1) = (getBox h b).bnd fun cs => if off + len ≤ cs.length ∧ ((cs.drop off).take len).all scalar = true then some ((cs.drop off).take len) else none := (rfl)
theorem elems_str (h s) : elems h (.str s) = some (s.map fun c => .int .u8 c.toNat) := (rfl)
theorem appB_full (xs : List PV) (sz es e h) (hx : xs.all (fun x => x.cells.length == sz) = true) (hl : es.length + xs.length ≤ lim2) :
    appB xs sz (.sl .full sz es) e h = some (if xs.isEmpty then .sl .full sz es else .sl .no sz (es ++ strips xs), e, h) := by
  simp [appB, hx, hl]

/-! Frames of which not all is known. -/
def orr : Option PV → Option PV → Option PV
  | some v, _ => some v
  | none, o => o
theorem orr_some (v o) : orr (some v) o = some v := (rfl)
theorem orr_none (o) : orr none o = o := (rfl)
theorem orr_right (o) : orr o none = o := by cases o <;> rfl
theorem look_pruneC (t o r s) : look (pruneC t o r) s = if t = s then orr o (look r s) else look r s := by
  cases o with
  | none => show look r s = _; split <;> rfl
  | some v => rfl
theorem fits_def (sz x) : fits sz x = (x.cells.length == sz && x.cells.all scalar) := (rfl)
theorem ix_nat (k : IntKind) (i n : Nat) (h : i < n) : ix (.int k i) n = some i := by
  simp [ix, h]
theorem getElem_append_mid {α : Type} (a : List α) (x : α) (r : List α) : (a ++ x :: r)[a.length]? = some x := by simp
theorem wrap_small {n : Int} (h0 : -9223372036854775808 ≤ n) (h1 : n ≤ 9223372036854775807) : IntKind.i64.wrap n = n := by rw [IntKind.wrap_i64]; omega

/-! Answers of which a law alone is known. -/
def Ans {α : Type} (x : Option α) (Q : α → Prop) : Prop := ∃ a, x = some a ∧ Q a
theorem Ans.some {α : Type} {a : α} {Q : α → Prop} (h : Q a) : Ans (some a) Q := ⟨a, rfl, h⟩
theorem Ans.of {α : Type} {x : Option α} {a : α} {Q : α → Prop} (hx : x = Option.some a) (h : Q a) : Ans x Q := ⟨a, hx, h⟩
theorem Ans.mono {α : Type} {x : Option α} {P Q : α → Prop} (h : Ans x P) (hPQ : ∀ a, P a → Q a) : Ans x Q := by
  obtain ⟨a, h1, h2⟩ := h
  exact ⟨a, h1, hPQ a h2⟩
theorem Ans.bndX {α : Type} {X : Option (AEx × Env × Hp)} {K : AEx → Env → Hp → Option α} {P : AEx × Env × Hp → Prop} {Q : α → Prop} (hX : Ans X P) (hK : ∀ x e h, P (x, e, h) → Ans (K x e h) Q) : Ans (bndX X K) Q := by
  obtain ⟨⟨x, e, h⟩, rfl, hp⟩ := hX
  exact hK x e h hp
theorem bndX_assoc {α : Type} (X : Option (AEx × Env × Hp)) (f : AEx → Env → Hp → Option (AEx × Env × Hp)) (g : AEx → Env → Hp → Option α) : bndX (bndX X f) g = bndX X fun x e h => bndX (f x e h) g := by
  cases X with
  | none => rfl
  | some r => rfl
theorem Ans.ite {α : Type} {c : Prop} [Decidable c] {x y : Option α} {Q : α → Prop} (hx : c → Ans x Q) (hy : ¬ c → Ans y Q) : Ans (if c then x else y) Q := by
  split
  · rename_i hc; exact hx hc
  · rename_i hc; exact hy hc
theorem Ans.eq {α : Type} {x y : Option α} {Q : α → Prop} (h : x = y) (hy : Ans y Q) : Ans x Q := h ▸ hy
theorem R_loop_of {T : Table} {a b : ACode} {base : Nat} {e : Env} {h : Hp} (hab : a = b) : ExecA T (.loop a) base e h = Go.Am.bndX (ExecA T b base e h) fun x e h => onNorm x (ExecA T (.loop a) base e h) (Option.some (x, e, h)) := by
  subst hab; exact R_loop

def appBoxB (xs : List PV) (sz : Nat) (v : PV) (e : Env) (h : Hp) : Option (PV × Env × Hp) :=
      if sz = 1 ∧ xs.all (fun x => x.cells.length == sz) = true ∧ 0 < xs.length ∧ xs.length ≤ lim2 ∧ xs.all scalar = true then
      match v with
      | .nils => some (.bsl false (size h) 0 xs.length sz, e, ext h [.cells xs])
      | .sl .full sz' [] => some (.bsl false (size h) 0 xs.length sz, e, ext h [.cells xs])
      | _ => none
      else none
theorem step_appendBox {orc : Nat → List PV → Hp → Option (PV × Hp)} {base : Nat} {draw : Bool} {e : Env} {h : Hp} (sz s x) : step orc base draw (.appendBox sz s x) e h = (ev e s).bnd fun v => (ev e x).bnd fun u => (elems h u).bnd fun xs => appBoxB xs sz v e h := (rfl)
theorem X_appendBox {orc : Nat → List PV → Hp → Option (PV × Hp)} {base : Nat} {draw : Bool} {e : Env} {h : Hp} (d sz s x r) : execOps orc base draw (⟨d, none, .appendBox sz s x⟩ :: r) e h = (ev e s).bnd fun v => (ev e x).bnd fun u => (elems h u).bnd fun xs => bnd3 (appBoxB xs sz v e h) fun v e h => execOps orc base draw r (putD e d v) h := by
  rw [execOps_plain, step_appendBox]; simp only [bnd3_bnd, bnd3_some]
theorem appBoxB_full (xs : List PV) (e h) (h1 : xs.all (fun x => x.cells.length == 1) = true) (h2 : 0 < xs.length) (h3 : xs.length ≤ lim2) (h4 : xs.all scalar = true) :
    appBoxB xs 1 (.sl .full 1 []) e h = some (.bsl false (size h) 0 xs.length 1, e, ext h [.cells xs]) := by
  simp [appBoxB, h1, h2, h3, h4]

/-! The other operations. -/
section more
variable {orc : Nat → List PV → Hp → Option (PV × Hp)} {base : Nat} {draw : Bool} {e : Env} {h : Hp}
def strBytesB (bx : Bool) (v : PV) (h : Hp) : Option (PV × Hp) := match v with
    | .str s => if s.length ≤ limS then (if bx then some (.bsl false (size h) 0 s.length 1, ext h [.cells (s.map fun c => .int .u8 c.toNat)]) else some (.sl .no 1 (s.map fun c => .int .u8 c.toNat), h)) else none
    | _ => none
theorem strBytesB_val (s h) (hs : s.length ≤ limS) : strBytesB false (.str s) h = some (.sl .no 1 (s.map fun c => .int .u8 c.toNat), h) := by simp [strBytesB, hs]
theorem strBytesB_box (s h) (hs : s.length ≤ limS) : strBytesB true (.str s) h = some (.bsl false (size h) 0 s.length 1, ext h [.cells (s.map fun c => .int .u8 c.toNat)]) := by simp [strBytesB, hs]
theorem X_strBytes (d bx x r) : execOps orc base draw (⟨d, none, .strBytes bx x⟩ :: r) e h = (ev e x).bnd fun v => bnd2 (strBytesB bx v h) fun v h => execOps orc base draw r (putD e d v) h := by
  rw [execOps_plain]
  show bnd3 (Option.bnd _ _) _ = _
  rw [bnd3_bnd]
  congr 1; funext v
  cases v <;> try rfl
  rename_i s
  simp only [strBytesB]
  split
  · cases bx <;> rfl
  · rfl
def bytesStrB (h : Hp) (v : PV) : Option PV := match v with
    | .str _ => none
    | v => (elems h v).bnd fun es => (bytesOf es).bnd fun s => some (.str s)
theorem bytesStrB_sl (h o z es) : bytesStrB h (.sl o z es) = (bytesOf es).bnd fun s => some (.str s) := (rfl)
theorem bytesStrB_nils (h) : bytesStrB h .nils = some (.str []) := (rfl)
theorem bytesStrB_bsl (h f b off len z) : bytesStrB h (.bsl f b off len z) = (elems h (.bsl f b off len z)).bnd fun es => (bytesOf es).bnd fun s => some (.str s) := (rfl)
theorem bytesOf_bytes : ∀ s : List UInt8, bytesOf (s.map fun c => .int .u8 (c.toNat : Int)) = some s
  | [] => rfl
  | c :: s => by simp [bytesOf, bytesOf_bytes s]
theorem X_bytesStr (d x r) : execOps orc base draw (⟨d, none, .bytesStr x⟩ :: r) e h = (ev e x).bnd fun v => (bytesStrB h v).bnd fun v => execOps orc base draw r (putD e d v) h := by
  rw [execOps_plain]
  show bnd3 (Option.bnd _ _) _ = _
  rw [bnd3_bnd]
  congr 1; funext v
  cases v <;> first | rfl | (simp only [bytesStrB, bnd3_bnd, bnd_assoc, bnd3_some, Option.bnd_some])
theorem X_mkfn (d f cap r) : execOps orc base draw (⟨d, none, .mkfn f cap⟩ :: r) e h = (evs e cap).bnd fun vs => execOps orc base draw r (putD e d (.fn f vs)) h := by
  rw [execOps_plain]
  show bnd3 (Option.bnd _ _) _ = _
  rw [bnd3_bnd]; rfl
def rangeB (v : PV) (h : Hp) : Option (PV × Hp) := match v with
    | .str s => some (.it (size h), ext h [.iter s 0])
    | _ => none
theorem rangeB_str (s h) : rangeB (.str s) h = some (.it (size h), ext h [.iter s 0]) := (rfl)
theorem X_range (d x r) : execOps orc base draw (⟨d, none, .range x⟩ :: r) e h = (ev e x).bnd fun v => bnd2 (rangeB v h) fun v h => execOps orc base draw r (putD e d v) h := by
  rw [execOps_plain]
  show bnd3 (Option.bnd _ _) _ = _
  rw [bnd3_bnd]
  congr 1; funext v
  cases v <;> rfl
def nextB (v : PV) (h : Hp) : Option (PV × Hp) := match v with
    | .it b => (getIter h b).bnd fun p =>
      if p.2 < p.1.length then some (.tup [.bool true, .int .i64 p.2, .int .i32 (runeAt p.1 p.2).1], setBx h b (.iter p.1 (p.2 + (runeAt p.1 p.2).2)))
      else some (.tup [.bool false], h)
    | _ => none
theorem nextB_more {h b s p} (hb : getIter h b = some (s, p)) (hp : p < s.length) : nextB (.it b) h = some (.tup [.bool true, .int .i64 p, .int .i32 (runeAt s p).1], setBx h b (.iter s (p + (runeAt s p).2))) := by
  simp only [nextB, hb, Option.bnd_some, if_pos hp]
theorem nextB_over {h b s p} (hb : getIter h b = some (s, p)) (hp : ¬ p < s.length) : nextB (.it b) h = some (.tup [.bool false], h) := by
  simp only [nextB, hb, Option.bnd_some, if_neg hp]
theorem X_next (d x r) : execOps orc base draw (⟨d, none, .next x⟩ :: r) e h = (ev e x).bnd fun v => bnd2 (nextB v h) fun v h => execOps orc base draw r (putD e d v) h := by
  rw [execOps_plain]
  show bnd3 (Option.bnd _ _) _ = _
  rw [bnd3_bnd]
  congr 1; funext v
  cases v <;> try rfl
  rename_i b
  simp only [nextB]
  cases getIter h b with
  | none => rfl
  | some p =>
    simp only [Option.bnd_some]
    split <;> rfl
def tassertB (t : Nat) (ok : Bool) (z v : PV) : Option PV := match v with
    | .iface t' u => if t' = t then (if ok then some (.tup [u, .bool true]) else some u) else if ok then some (.tup [z, .bool false]) else none
    | .nilif => if ok then some (.tup [z, .bool false]) else none
    | _ => none
theorem tassertB_iface (t ok z t' u) : tassertB t ok z (.iface t' u) = if t' = t then (if ok then some (.tup [u, .bool true]) else some u) else if ok then some (.tup [z, .bool false]) else none := (rfl)
theorem tassertB_nil (t ok z) : tassertB t ok z .nilif = if ok then some (.tup [z, .bool false]) else none := (rfl)
theorem X_tassert (d t ok z x r) : execOps orc base draw (⟨d, none, .tassert t ok z x⟩ :: r) e h = (ev e x).bnd fun v => (tassertB t ok z v).bnd fun v => execOps orc base draw r (putD e d v) h := by
  rw [execOps_plain]
  show bnd3 (Option.bnd _ _) _ = _
  rw [bnd3_bnd]
  congr 1; funext v
  cases v <;> try rfl
  · cases ok <;> rfl
  · simp only [tassertB]
    split
    · cases ok <;> rfl
    · cases ok <;> rfl
def eqvB (neg : Bool) (ks : List Nat) (a b : PV) : Option PV := match a, b with
    | .agg cs, .agg ds => (eqCells ks cs ds).bnd fun b => some (.bool (if neg then !b else b))
    | _, _ => none
theorem eqvB_agg (neg ks cs ds) : eqvB neg ks (.agg cs) (.agg ds) = (eqCells ks cs ds).bnd fun b => some (.bool (if neg then !b else b)) := (rfl)
theorem eqCells_nil : eqCells [] [] [] = some true := (rfl)
theorem eqCells_cons (k ks x xs y ys) : eqCells (k :: ks) (x :: xs) (y :: ys) = (eqCell k x y).bnd fun b => (eqCells ks xs ys).bnd fun c => some (b && c) := (rfl)
theorem eqCell_bool (a b) : eqCell 0 (.bool a) (.bool b) = some (a == b) := (rfl)
theorem eqCell_int (k a j b) : eqCell 1 (.int k a) (.int j b) = if k = j then some (a == b) else none := (rfl)
theorem eqCell_str (a b) : eqCell 2 (.str a) (.str b) = some (a == b) := (rfl)
theorem X_eqv (d neg ks x y r) : execOps orc base draw (⟨d, none, .eqv neg ks x y⟩ :: r) e h = (ev e x).bnd fun a => (ev e y).bnd fun b => (eqvB neg ks a b).bnd fun v => execOps orc base draw r (putD e d v) h := by
  rw [execOps_plain]
  show bnd3 (Option.bnd _ _) _ = _
  rw [bnd3_bnd]
  congr 1; funext a
  rw [bnd3_bnd]
  congr 1; funext b
  cases a <;> try rfl
  cases b <;> try rfl
  simp only [eqvB, bnd_assoc, Option.bnd_some]
  rw [bnd3_bnd]; rfl
def makeB (T : Nat) (z : List PV) (n : Nat × Nat) (h : Hp) : Option (PV × Hp) :=
      if n.1 = n.2 then some (.bsl true (size h) 0 n.1 z.length, ext h [.cells (List.flatten (List.replicate n.1 z))])
      else if n.1 = 0 then some (.sl (.tok (size h)) z.length [], ext h [.tok 0 T]) else none
theorem makeB_eq (T z n h) : makeB T z (n, n) h = some (.bsl true (size h) 0 n z.length, ext h [.cells (List.flatten (List.replicate n z))]) := by simp [makeB]
theorem makeN_int (k l j c) : makeN (.int k l) (.int j c) = if 0 ≤ l ∧ l ≤ c ∧ c ≤ lim2 then some (l.toNat, c.toNat) else none := (rfl)
theorem makeN_nat (k j) (n : Nat) (hn : n ≤ lim2) : makeN (.int k n) (.int j n) = some (n, n) := by
  rw [makeN_int, if_pos (by omega)]; simp
theorem X_makeSl (d T z g l c r) : execOps orc base draw (⟨d, none, .makeSl T z g l c⟩ :: r) e h = (ev e l).bnd fun l => (ev e c).bnd fun c => (makeN l c).bnd fun n => bnd2 (makeB T z n h) fun v h => execOps orc base draw r (putD e d v) h := by
  rw [execOps_plain]
  show bnd3 (Option.bnd _ _) _ = _
  rw [bnd3_bnd]
  congr 1; funext a
  rw [bnd3_bnd]
  congr 1; funext b
  rw [bnd3_bnd]
  congr 1; funext n
  simp only [makeB]
  split
  · rfl
  · split <;> rfl

theorem nextB_it (b h) : nextB (.it b) h = (getIter h b).bnd fun p => if p.2 < p.1.length then some (.tup [.bool true, .int .i64 p.2, .int .i32 (runeAt p.1 p.2).1], setBx h b (.iter p.1 (p.2 + (runeAt p.1 p.2).2)))
      else some (.tup [.bool false], h) := (rfl)
def bdV (n : Nat) : PV → Option Nat
  | .int _ i => if 0 ≤ i ∧ i ≤ n then some i.toNat else none
  | _ => none
theorem bdV_int (n k i) : bdV n (.int k i) = if 0 ≤ i ∧ i ≤ n then some i.toNat else none := (rfl)
theorem bdV_nat (n k) (i : Nat) (h : i ≤ n) : bdV n (.int k i) = some i := by rw [bdV_int, if_pos (by omega)]; simp
theorem bd_none (e n d) : bd e n d none = some d := (rfl)
theorem bd_some (e n d x) : bd e n d (some x) = (ev e x).bnd fun v => bdV n v := (rfl)
theorem sliceOf_str (e lo hi s) : sliceOf e none lo hi none (.str s) = (bd e s.length s.length hi).bnd fun hh => (bd e hh 0 lo).bnd fun l => some (.str ((s.drop l).take (hh - l))) := (rfl)
theorem sliceOf_nils (e z lo hi mx) : sliceOf e (some z) lo hi mx .nils = (bd e 0 0 mx).bnd fun m => (bd e 0 0 hi).bnd fun hh => (bd e 0 0 lo).bnd fun l => some .nils := (rfl)
theorem sliceOf_sl (e z lo hi o es) : sliceOf e (some z) lo hi none (.sl o z es) = (bd e es.length es.length hi).bnd fun hh => (bd e hh 0 lo).bnd fun l =>
      some (.sl (if isFull o && hh == es.length then .full else .no) z ((es.drop l).take (hh - l))) := by
  simp [sliceOf, bd_none, Option.bnd_some]
theorem isFull_no : isFull .no = false := (rfl)
theorem isFull_full : isFull .full = true := (rfl)
theorem isFull_tok (t) : isFull (.tok t) = false := (rfl)

/-! Slices that grow. -/
theorem growT_one_nils (h T sz x) (hx : fits sz x = true) : growT h T sz .nils [x] = some (.sl (.tok (size h)) sz [strip x], ext h [.tok 1 T]) := by
  simp [growT, hx, lim2, strips]
/-- What grows: nothing yet, or all that is known of its token. -/
structure Buf (h : Hp) (o : PV) (T sz : Nat) (es : List PV) (v : PV) : Prop where
  is : (v = o ∧ es = [] ∧ (o = .nils ∨ o = .sl .full sz [])) ∨ ∃ t, v = .sl (.tok t) sz es ∧ getTok h t = some (es.length, T) ∧ es ≠ []
end more

/-! A heap over another: the other's boxes are as they were. -/
structure Ov (h k : Hp) : Prop where
  size : size h ≤ Go.Am.size k
  same : ∀ b, b < Go.Am.size h → box? k b = box? h b
theorem Ov.refl (h : Hp) : Ov h h := ⟨Nat.le_refl _, fun _ _ => rfl⟩
theorem Ov.trans {a b c : Hp} (x : Ov a b) (y : Ov b c) : Ov a c := ⟨Nat.le_trans x.size y.size, fun n hn => (y.same n (Nat.lt_of_lt_of_le hn x.size)).trans (x.same n hn)⟩
theorem Ov.ext {h k : Hp} (x : Ov h k) (l : List Box) : Ov h (Go.Am.ext k l) := ⟨by rw [size_ext]; exact Nat.le_trans x.size (Nat.le_add_right _ _), fun b hb => (box_ext_lt (Nat.lt_of_lt_of_le hb x.size)).trans (x.same b hb)⟩
theorem Ov.set {h k : Hp} (x : Ov h k) {b : Nat} (hb : Go.Am.size h ≤ b) (y : Box) : Ov h (setBx k b y) := ⟨by rw [size_setBx]; exact x.size, fun c hc => (box_set_ne (by omega)).trans (x.same c hc)⟩
theorem Ov.trunc {h k : Hp} (x : Ov h k) : Go.Am.trunc k (Go.Am.size h) = h := by
  apply List.ext_getElem?
  intro i
  rcases Nat.lt_or_ge i (Go.Am.size h) with hi | hi
  · have := x.same i hi
    simp only [box?] at this
    simp only [Go.Am.trunc, List.getElem?_take, if_pos hi, this]
  · simp only [Go.Am.trunc, List.getElem?_take, if_neg (by omega : ¬ i < Go.Am.size h)]
    exact (List.getElem?_eq_none hi).symm
theorem Ov.getBox {h k : Hp} (x : Ov h k) {b : Nat} {cs : List PV} (hb : Go.Am.getBox h b = some cs) : Go.Am.getBox k b = some cs := by
  rw [Go.Am.getBox, x.same b (lt_of_getBox hb)]; exact hb
theorem Ov.getTok {h k : Hp} (x : Ov h k) {b : Nat} {n : Nat × Nat} (hb : Go.Am.getTok h b = some n) : Go.Am.getTok k b = some n := by
  rw [Go.Am.getTok, x.same b (lt_of_getTok hb)]; exact hb

theorem strips_len (xs : List PV) : (strips xs).length = xs.length := by induction xs <;> simp_all [strips]
/-- A slice that grows in a frame: what it grows to; a box or more come on top, older boxes are left. -/
theorem Buf.grow {h0 h : Hp} {o : PV} {T sz : Nat} {es xs : List PV} {v : PV} (b : Buf h o T sz es v) (ht : ∀ t es, v = .sl (.tok t) sz es → size h0 ≤ t) (ov : Ov h0 h) (hx : xs.all (fits sz) = true) (hl : es.length + xs.length ≤ lim2) :
    ∃ v' h', growT h T sz v xs = some (v', h') ∧ Buf h' o T sz (es ++ strips xs) v' ∧ (∀ t es, v' = .sl (.tok t) sz es → size h0 ≤ t) ∧ Ov h0 h' ∧ size h ≤ size h' ∧ ∀ c cs, getBox h c = some cs → getBox h' c = some cs := by
  have sl := strips_len xs
  by_cases hne : xs = []
  · subst hne
    rcases b.is with ⟨rfl, rfl, rfl | rfl⟩ | ⟨t, rfl, h2, h3⟩
    · exact ⟨.nils, h, by simp [growT], ⟨.inl ⟨rfl, rfl, .inl rfl⟩⟩, ht, ov, Nat.le_refl _, fun _ _ h => h⟩
    · exact ⟨_, h, by simp [growT], ⟨.inl ⟨rfl, rfl, .inr rfl⟩⟩, ht, ov, Nat.le_refl _, fun _ _ h => h⟩
    · refine ⟨.sl (.tok t) sz es, setBx h t (.tok es.length T), ?_, ⟨.inr ⟨t, by simp [strips], ?_, by simpa [strips] using h3⟩⟩, ht, ov.set (ht t es rfl) _, by rw [size_setBx]; exact Nat.le_refl _, fun c cs hc => ?_⟩
      · simp at hl
        simp [growT, h2, hl, strips, Option.bnd_some]
      · rw [getTok_set_same (lt_of_getTok h2)]; simp [strips]
      · rw [getBox_set_ne]; exact hc
        rintro rfl
        have q1 := box_of_tok h2
        have q2 := box_of_get hc
        rw [q1] at q2; cases q2
  · have hpos : xs.isEmpty = false := by cases xs <;> simp_all
    have hns : strips xs ≠ [] := by cases xs <;> simp_all [strips]
    rcases b.is with ⟨rfl, rfl, rfl | rfl⟩ | ⟨t, rfl, h2, h3⟩
    · simp at hl
      refine ⟨.sl (.tok (size h)) sz (strips xs), Go.Am.ext h [.tok xs.length T], by simp [growT, hx, hl, hpos], ⟨.inr ⟨size h, by simp, by rw [getTok_ext_0]; simp [tokOf, sl], by simpa using hns⟩⟩, fun t es hq => by cases hq; exact ov.size, ov.ext _, by rw [size_ext]; omega, fun c cs hc => ?_⟩
      rw [getBox_ext_lt (lt_of_getBox hc)]; exact hc
    · simp at hl
      refine ⟨.sl (.tok (size h)) sz (strips xs), Go.Am.ext h [.tok xs.length T], by simp [growT, hx, hl, hpos], ⟨.inr ⟨size h, by simp, by rw [getTok_ext_0]; simp [tokOf, sl], by simpa using hns⟩⟩, fun t es hq => by cases hq; exact ov.size, ov.ext _, by rw [size_ext]; omega, fun c cs hc => ?_⟩
      rw [getBox_ext_lt (lt_of_getBox hc)]; exact hc
    · refine ⟨.sl (.tok t) sz (es ++ strips xs), setBx h t (.tok (es.length + xs.length) T), ?_, ⟨.inr ⟨t, rfl, ?_, by simp [h3]⟩⟩, fun t' es' hq => by cases hq; exact ht t es rfl, ov.set (ht t es rfl) _, by rw [size_setBx]; exact Nat.le_refl _, fun c cs hc => ?_⟩
      · simp [growT, hx, h2, hl, Option.bnd_some]
      · rw [getTok_set_same (lt_of_getTok h2)]; simp [sl]
      · rw [getBox_set_ne]; exact hc
        rintro rfl
        have q1 := box_of_tok h2
        have q2 := box_of_get hc
        rw [q1] at q2; cases q2
/-- What has grown, behind its frame. -/
def done (o : PV) (sz : Nat) (es : List PV) : PV := if es.isEmpty then o else .sl .no sz es
theorem Buf.frz {h : Hp} {o : PV} {T sz : Nat} {es : List PV} {v : PV} (b : Buf h o T sz es v) (n : Nat) (k : Hp) : Go.Am.frz n k v = some (done o sz es) := by
  rcases b.is with ⟨rfl, rfl, rfl | rfl⟩ | ⟨t, rfl, h2, h3⟩
  · rfl
  · rfl
  · have : es.isEmpty = false := by cases es <;> simp_all
    simp [Go.Am.frz, done, this, Own.strip]
theorem Buf.len {h : Hp} {o : PV} {T sz : Nat} {es : List PV} {v : PV} (b : Buf h o T sz es v) : lenB false v = some (.int .i64 es.length) := by
  rcases b.is with ⟨rfl, rfl, rfl | rfl⟩ | ⟨t, rfl, h2, h3⟩ <;> rfl
theorem Buf.elems {h : Hp} {o : PV} {T sz : Nat} {es : List PV} {v : PV} (b : Buf h o T sz es v) (k : Hp) : Go.Am.elems k v = some es := by
  rcases b.is with ⟨rfl, rfl, rfl | rfl⟩ | ⟨t, rfl, h2, h3⟩ <;> rfl
theorem done_elems {o : PV} {sz : Nat} (ho : o = .nils ∨ o = .sl .full sz []) (es : List PV) (k : Hp) : Go.Am.elems k (done o sz es) = some es := by
  unfold done
  cases es with
  | nil => rcases ho with rfl | rfl <;> rfl
  | cons x xs => rfl
theorem done_len {o : PV} {sz : Nat} (ho : o = .nils ∨ o = .sl .full sz []) (es : List PV) : lenB false (done o sz es) = some (.int .i64 es.length) := by
  unfold done
  cases es with
  | nil => rcases ho with rfl | rfl <;> rfl
  | cons x xs => rfl
theorem done_below {o : PV} {sz n : Nat} (ho : o = .nils ∨ o = .sl .full sz []) (es : List PV) (he : belows n es = true) : below n (done o sz es) = true := by
  unfold done
  cases es with
  | nil => rcases ho with rfl | rfl <;> rfl
  | cons x xs => simpa [below, Own.below] using he
end Go.Am
