/- 'Am': the equations by which simp evaluates.
   By the session's AI agent. -/
import Derived.Test.YtlmfmjmpfcaliaaAm3
namespace Go.Am
set_option linter.unusedVariables false
set_option linter.unusedSimpArgs false

section heap
variable {h : Hp} {l m : List Box} {x y : Box} {b n : Nat}
theorem size_ext : size (ext h l) = size h + l.length := by simp [size, ext]
theorem size_setBox : size (setBox h b x) = size h := by simp [size, setBox]
theorem getBox_ext_0 : getBox (ext h (x :: l)) (size h) = some x := by simp [getBox, ext, size]
theorem getBox_ext_n : getBox (ext h l) (size h + n) = l[n]? := by simp [getBox, ext, size, List.getElem?_append_right]
theorem getBox_ext_lt (hb : b < size h) : getBox (ext h l) b = getBox h b := by simp only [getBox, ext, size] at *; exact List.getElem?_append_left hb
theorem setBox_ext_0 : setBox (ext h (x :: l)) (size h) y = ext h (y :: l) := by simp [setBox, ext, size]
theorem setBox_ext_n : setBox (ext h l) (size h + n) y = ext h (l.set n y) := by simp [setBox, ext, size, List.set_append]
theorem setBox_ext_lt (hb : b < size h) : setBox (ext h l) b y = ext (setBox h b y) l := by
  simp only [setBox, ext, size] at *; simp [List.set_append, hb]
theorem ext_ext : ext (ext h l) m = ext h (l ++ m) := by simp [ext]
theorem ext_nil : ext h [] = h := by simp [ext]
theorem getBox_exts_0 : getBox (ext (setBox h b y) (x :: l)) (size h) = some x := by rw [← size_setBox (h := h) (b := b) (x := y)]; exact getBox_ext_0
theorem getBox_exts_n : getBox (ext (setBox h b y) l) (size h + n) = l[n]? := by rw [← size_setBox (h := h) (b := b) (x := y)]; exact getBox_ext_n
theorem setBox_exts_0 {z : Box} : setBox (ext (setBox h b y) (x :: l)) (size h) z = ext (setBox h b y) (z :: l) := by
  conv => lhs; arg 2; rw [← size_setBox (h := h) (b := b) (x := y)]
  exact setBox_ext_0
theorem setBox_exts_n {z : Box} : setBox (ext (setBox h b y) l) (size h + n) z = ext (setBox h b y) (l.set n z) := by
  conv => lhs; arg 2; rw [← size_setBox (h := h) (b := b) (x := y)]
  exact setBox_ext_n
theorem getBox_set_eq {c : Box} (hb : getBox h b = some c) : getBox (setBox h b x) b = some x := by
  simp only [getBox, setBox] at *
  obtain ⟨hl, _⟩ := List.getElem?_eq_some_iff.1 hb
  simp [hl]
theorem getBox_set_same (hb : b < size h) : getBox (setBox h b x) b = some x := by
  simp only [getBox, setBox, size] at *; simp [hb]
theorem getBox_set_ne (hn : b ≠ n) : getBox (setBox h b x) n = getBox h n := by simp [getBox, setBox, hn]
theorem setBox_setBox : setBox (setBox h b x) b y = setBox h b y := by simp [setBox]
theorem setBox_self (hb : getBox h b = some x) : setBox h b x = h := by
  simp only [getBox, setBox] at *
  obtain ⟨hl, rfl⟩ := List.getElem?_eq_some_iff.1 hb
  simp
theorem trunc_ext : trunc (ext h l) (size h) = h := by simp [trunc, ext, size]
theorem trunc_self : trunc h (size h) = h := by simp [trunc, size]
theorem trunc_exts : trunc (ext (setBox h b x) l) (size h) = setBox h b x := by
  rw [← size_setBox (h := h) (b := b) (x := x)]; exact trunc_ext
theorem trunc_set : trunc (setBox h b x) (size h) = setBox h b x := by
  conv => lhs; arg 2; rw [← size_setBox (h := h) (b := b) (x := x)]
  exact trunc_self
theorem lt_of_getBox {c : Box} (hb : getBox h b = some c) : b < size h := (List.getElem?_eq_some_iff.1 hb).1
theorem not_lt_size : (size h < size h) = False := by simp
theorem size_add_lt : (size h + n < size h) = False := by simp
end heap

section vals
theorem strip_undef : strip .undef = .undef := (rfl)
theorem strip_bool (b) : strip (.bool b) = .bool b := (rfl)
theorem strip_int (k n) : strip (.int k n) = .int k n := (rfl)
theorem strip_str (s) : strip (.str s) = .str s := (rfl)
theorem strip_nilp : strip .nilp = .nilp := (rfl)
theorem strip_ptr (b o) : strip (.ptr b o) = .ptr b o := (rfl)
theorem strip_ep (b o) : strip (.ep b o) = .ep b o := (rfl)
theorem strip_nils : strip .nils = .nils := (rfl)
theorem strip_no (z e) : strip (.sl .no z e) = .sl .no z e := (rfl)
theorem strip_full (z e) : strip (.sl .full z e) = .sl .full z e := (rfl)
theorem strip_tail (z e) : strip (.sl .tail z e) = .sl .no z e := (rfl)
theorem strip_bsl (a b c d) : strip (.bsl a b c d) = .bsl a b c d := (rfl)
theorem strip_nilif : strip .nilif = .nilif := (rfl)
theorem strip_iface (t v) : strip (.iface t v) = .iface t v := (rfl)
theorem strip_nilf : strip .nilf = .nilf := (rfl)
theorem strip_fn (t v) : strip (.fn t v) = .fn t v := (rfl)
theorem strip_agg (c) : strip (.agg c) = .agg c := (rfl)
theorem strip_tup (c) : strip (.tup c) = .tup c := (rfl)
theorem strip_strip (v) : strip (strip v) = strip v := by
  cases v with
  | sl o z e => cases o <;> rfl
  | _ => rfl

theorem cells_agg (c) : PV.cells (.agg c) = c := (rfl)
theorem cells_bool (b) : PV.cells (.bool b) = [.bool b] := (rfl)
theorem cells_int (k n) : PV.cells (.int k n) = [.int k n] := (rfl)
theorem cells_str (s) : PV.cells (.str s) = [.str s] := (rfl)
theorem cells_nilp : PV.cells .nilp = [.nilp] := (rfl)
theorem cells_ptr (b o) : PV.cells (.ptr b o) = [.ptr b o] := (rfl)
theorem cells_nils : PV.cells .nils = [.nils] := (rfl)
theorem cells_sl (o z e) : PV.cells (.sl o z e) = [.sl o z e] := (rfl)
theorem cells_bsl (a b c d) : PV.cells (.bsl a b c d) = [.bsl a b c d] := (rfl)
theorem cells_nilif : PV.cells .nilif = [.nilif] := (rfl)
theorem cells_iface (t v) : PV.cells (.iface t v) = [.iface t v] := (rfl)
theorem cells_nilf : PV.cells .nilf = [.nilf] := (rfl)
theorem cells_fn (t v) : PV.cells (.fn t v) = [.fn t v] := (rfl)

theorem isNil_nilp : isNil .nilp = some true := (rfl)
theorem isNil_nils : isNil .nils = some true := (rfl)
theorem isNil_nilif : isNil .nilif = some true := (rfl)
theorem isNil_nilf : isNil .nilf = some true := (rfl)
theorem isNil_ptr (b o) : isNil (.ptr b o) = some false := (rfl)
theorem isNil_ep (b o) : isNil (.ep b o) = some false := (rfl)
theorem isNil_sl (b o c) : isNil (.sl b o c) = some false := (rfl)
theorem isNil_bsl (a b c d) : isNil (.bsl a b c d) = some false := (rfl)
theorem isNil_iface (b o) : isNil (.iface b o) = some false := (rfl)
theorem isNil_fn (b o) : isNil (.fn b o) = some false := (rfl)

theorem ev_tmp (e t) : ev e (.tmp t) = look e t := (rfl)
theorem ev_const (e v) : ev e (.const v) = some v := (rfl)
theorem look_cons (i v e t) : look ((i, v) :: e) t = if i = t then some v else look e t := (rfl)
theorem look_nil (t) : look [] t = none := (rfl)
theorem evs_nil (e) : evs e [] = some [] := (rfl)
theorem evs_cons (e x xs) : evs e (x :: xs) = (ev e x).bnd fun v => (evs e xs).bnd fun vs => some (strip v :: vs) := (rfl)
theorem prune_nil (e) : prune [] e = [] := (rfl)
def pruneC (t : Nat) (v : Option PV) (r : Env) : Env := match v with
  | some v => (t, v) :: r
  | none => r
@[congr] theorem pruneC_congr {t : Nat} {v w : Option PV} {r s : Env} (h : v = w) (h2 : r = s) : pruneC t v r = pruneC t w s := by rw [h, h2]
theorem pruneC_some (t v r) : pruneC t (some v) r = (t, v) :: r := (rfl)
theorem pruneC_none (t r) : pruneC t none r = r := (rfl)
theorem prune_cons (t ts e) : prune (t :: ts) e = pruneC t (look e t) (prune ts e) := by
  rw [prune]; cases look e t <;> rfl
theorem putD_none (e v) : putD e none v = e := (rfl)
theorem putD_some (e d v) : putD e (some d) v = (d, v) :: e := (rfl)
theorem wanted_none (e) : wanted e none = some true := (rfl)
def wantB (v : PV) (w : Bool) : Option Bool := match v with
    | .bool b => some (b == w)
    | .undef => some false
    | _ => none
theorem wantB_bool (b w) : wantB (.bool b) w = some (b == w) := (rfl)
theorem wantB_undef (w) : wantB .undef w = some false := (rfl)
theorem wanted_some (e t w) : wanted e (some (t, w)) = (look e t).bnd fun v => wantB v w := (rfl)
theorem params_nil (i) : params i [] = [] := (rfl)
theorem params_cons (i v vs) : params i (v :: vs) = (i, v) :: params (i + 1) vs := (rfl)

theorem execOps_nil (orc base draw e h) : execOps orc base draw [] e h = some (e, h) := (rfl)
def whenB {α : Type} (w : Bool) (x y : Option α) : Option α := if w then x else y
@[congr] theorem whenB_congr {α : Type} {w w' : Bool} {x y : Option α} (h : w = w') : whenB w x y = whenB w' x y := by rw [h]
theorem whenB_true {α : Type} (x y : Option α) : whenB true x y = x := (rfl)
theorem whenB_false {α : Type} (x y : Option α) : whenB false x y = y := (rfl)
end vals

def bnd3 {α : Type} (x : Option (PV × Env × Hp)) (k : PV → Env → Hp → Option α) : Option α := match x with
  | some (v, e, h) => k v e h
  | none => none
@[congr] theorem bnd3_congr {α : Type} {x y : Option (PV × Env × Hp)} {k : PV → Env → Hp → Option α} (h : x = y) : bnd3 x k = bnd3 y k := by rw [h]
theorem bnd3_some {α : Type} (v e h) (k : PV → Env → Hp → Option α) : bnd3 (some (v, e, h)) k = k v e h := (rfl)
theorem bnd3_none {α : Type} (k : PV → Env → Hp → Option α) : bnd3 none k = none := (rfl)
theorem bnd3_ite {α : Type} {c : Prop} [Decidable c] (x y) (k : PV → Env → Hp → Option α) : bnd3 (if c then x else y) k = if c then bnd3 x k else bnd3 y k := by split <;> (exact rfl)
def bnd2 {α β : Type} (x : Option (β × Hp)) (k : β → Hp → Option α) : Option α := match x with
  | some (v, h) => k v h
  | none => none
@[congr] theorem bnd2_congr {α β : Type} {x y : Option (β × Hp)} {k : β → Hp → Option α} (h : x = y) : bnd2 x k = bnd2 y k := by rw [h]
theorem bnd2_some {α β : Type} (v h) (k : β → Hp → Option α) : bnd2 (some (v, h)) k = k v h := (rfl)
theorem bnd2_none {α β : Type} (k : β → Hp → Option α) : bnd2 none k = none := (rfl)
theorem bnd2_ite {α β : Type} {c : Prop} [Decidable c] (x y) (k : β → Hp → Option α) : bnd2 (if c then x else y) k = if c then bnd2 x k else bnd2 y k := by split <;> (exact rfl)
theorem bnd3_bnd {α γ : Type} (x : Option γ) (f : γ → Option (PV × Env × Hp)) (k : PV → Env → Hp → Option α) : bnd3 (x.bnd f) k = x.bnd fun a => bnd3 (f a) k := by cases x <;> (exact rfl)

section steps
variable (orc : Orc) (base : Nat) (draw : Bool) (e : Env) (h : Hp)
theorem execOps_plain (d op r) : execOps orc base draw (⟨d, none, op⟩ :: r) e h = bnd3 (step orc base draw op e h) fun v e h => execOps orc base draw r (putD e d v) h := by
  show Option.bnd _ _ = _
  cases step orc base draw op e h <;> (exact rfl)
theorem execOps_guard (d t w op r) : execOps orc base draw (⟨d, some (t, w), op⟩ :: r) e h = (look e t).bnd fun v => (wantB v w).bnd fun w =>
    whenB w (execOps orc base draw (⟨d, none, op⟩ :: r) e h) (execOps orc base draw r (putD e d .undef) h) := by
  rw [execOps, wanted_some]
  cases look e t with
  | none => exact rfl
  | some v =>
    simp only [Option.bnd_some]
    cases wantB v w with
    | none => exact rfl
    | some w => cases w <;> (exact rfl)
theorem X_mov (d x r) : execOps orc base draw (⟨d, none, .mov x⟩ :: r) e h = (ev e x).bnd fun v => execOps orc base draw r (putD e d (strip v)) h := by
  rw [execOps_plain]; exact bnd3_bnd _ _ _
theorem step_mov (x) : step orc base draw (.mov x) e h = (ev e x).bnd fun v => some (strip v, e, h) := (rfl)
theorem step_pick (c a b) : step orc base draw (.pick c a b) e h = (ev e c).bnd fun v => condB v ((ev e a).bnd fun v => some (strip v, e, h)) ((ev e b).bnd fun v => some (strip v, e, h)) := (rfl)
theorem step_alloc (z) : step orc base draw (.alloc z) e h = some (.ptr (size h) 0, e, ext h [z]) := (rfl)
theorem step_box (n x) : step orc base draw (.box n x) e h = (ev e x).bnd fun v => if v.cells.length = n ∧ v.cells.all scalar = true then some (.ptr (size h) 0, e, ext h [v.cells.map strip]) else none := (rfl)
theorem step_nilck (x) : step orc base draw (.nilck x) e h = (ev e x).bnd fun v => (isNil v).bnd fun b => if b then none else some (strip v, e, h) := by
  show Option.bnd _ _ = Option.bnd _ _
  congr 1
  funext v
  cases v <;> rfl
def loadB (v : PV) (e : Env) (h : Hp) (n : Nat) (agg : Bool) : Option (PV × Env × Hp) := match v with
    | .ptr b off => (getBox h b).bnd fun cs => (part cs off n agg).bnd fun r => some (r, e, h)
    | .ep cs off => (part cs off n agg).bnd fun r => some (r, e, h)
    | _ => none
theorem step_load (n agg a) : step orc base draw (.load n agg a) e h = (ev e a).bnd fun v => loadB v e h n agg := (rfl)
theorem loadB_ptr (b off e h n agg) : loadB (.ptr b off) e h n agg = (getBox h b).bnd fun cs => (part cs off n agg).bnd fun r => some (r, e, h) := (rfl)
theorem loadB_ep (cs off e h n agg) : loadB (.ep cs off) e h n agg = (part cs off n agg).bnd fun r => some (r, e, h) := (rfl)
def storeB (v u : PV) (base : Nat) (e : Env) (h : Hp) (n : Nat) : Option (PV × Env × Hp) := match v with
    | .ptr b off => (getBox h b).bnd fun cs =>
        if u.cells.length = n ∧ off + n ≤ cs.length ∧ u.cells.all scalar = true ∧ (b < base → belows 0 u.cells = true)
        then some (.undef, e, setBox h b (setRange cs off (u.cells.map strip))) else none
    | _ => none
theorem step_store (n a x) : step orc base draw (.store n a x) e h = (ev e a).bnd fun v => (ev e x).bnd fun u => storeB v u base e h n := (rfl)
theorem storeB_ptr (b off u base e h n) : storeB (.ptr b off) u base e h n = (getBox h b).bnd fun cs =>
        if u.cells.length = n ∧ off + n ≤ cs.length ∧ u.cells.all scalar = true ∧ (b < base → belows 0 u.cells = true)
        then some (.undef, e, setBox h b (setRange cs off (u.cells.map strip))) else none := (rfl)
theorem step_bin (op x y) : step orc base draw (.bin op x y) e h = (ev e x).bnd fun a => (ev e y).bnd fun b => (binOp op a b).bnd fun r => some (r, e, h) := (rfl)
theorem step_isnil (kd neg x) : step orc base draw (.isnil kd neg x) e h = (ev e x).bnd fun v => (nilK kd v).bnd fun b => some (.bool (if neg then !b else b), e, h) := (rfl)
def boolB (neg : Bool) (a b : PV) : Option PV := match a, b with
    | .bool a, .bool b => some (.bool (if neg then a != b else a == b))
    | _, _ => none
theorem boolB_eq (a b) : boolB false (.bool a) (.bool b) = some (.bool (a == b)) := (rfl)
theorem boolB_ne (a b) : boolB true (.bool a) (.bool b) = some (.bool (a != b)) := (rfl)
theorem step_binB (neg x y) : step orc base draw (.binB neg x y) e h = (ev e x).bnd fun a => (ev e y).bnd fun b => (boolB neg a b).bnd fun r => some (r, e, h) := by
  show Option.bnd _ _ = Option.bnd _ _
  congr 1
  funext a
  congr 1
  funext b
  cases a <;> cases b <;> (exact rfl)
theorem step_un (op x) : step orc base draw (.un op x) e h = (ev e x).bnd fun a => (unOp op a).bnd fun r => some (r, e, h) := (rfl)
def toIntB (v : PV) (k : IntKind) : Option PV := match v with
    | .int _ n => some (.int k (k.wrap n))
    | _ => none
theorem toIntB_int (j n k) : toIntB (.int j n) k = some (.int k (k.wrap n)) := (rfl)
theorem step_toInt (k x) : step orc base draw (.toInt k x) e h = (ev e x).bnd fun v => (toIntB v k).bnd fun r => some (r, e, h) := by
  show Option.bnd _ _ = Option.bnd _ _
  congr 1
  funext v
  cases v <;> rfl
def extractB (v : PV) (i : Nat) : Option PV := match v with
    | .tup vs => vs[i]?
    | _ => none
theorem extractB_tup (vs i) : extractB (.tup vs) i = vs[i]? := (rfl)
theorem step_extract (x i) : step orc base draw (.extract x i) e h = (ev e x).bnd fun v => (extractB v i).bnd fun r => some (strip r, e, h) := by
  show Option.bnd _ _ = Option.bnd _ _
  congr 1
  funext v
  cases v <;> rfl
def fieldAB (v : PV) (off : Nat) : Option PV := match v with
    | .ptr b o => some (.ptr b (o + off))
    | .ep cs o => some (.ep cs (o + off))
    | _ => none
theorem fieldAB_ptr (b o off) : fieldAB (.ptr b o) off = some (.ptr b (o + off)) := (rfl)
theorem fieldAB_ep (b o off) : fieldAB (.ep b o) off = some (.ep b (o + off)) := (rfl)
theorem step_fieldA (off x) : step orc base draw (.fieldA off x) e h = (ev e x).bnd fun v => (fieldAB v off).bnd fun r => some (r, e, h) := by
  show Option.bnd _ _ = Option.bnd _ _
  congr 1
  funext v
  cases v <;> rfl
def fieldB (v : PV) (off n : Nat) (agg : Bool) : Option PV := match v with
    | .agg cs => part cs off n agg
    | _ => none
theorem fieldB_agg (cs off n agg) : fieldB (.agg cs) off n agg = part cs off n agg := (rfl)
theorem step_field (off n agg x) : step orc base draw (.field off n agg x) e h = (ev e x).bnd fun v => (fieldB v off n agg).bnd fun r => some (r, e, h) := by
  show Option.bnd _ _ = Option.bnd _ _
  congr 1
  funext v
  cases v <;> rfl
def lenB (str : Bool) (v : PV) : Option PV := match str, v with
    | true, .str s => some (.int .i64 s.length)
    | false, .nils => some (.int .i64 0)
    | false, .sl _ _ es => some (.int .i64 es.length)
    | false, .bsl _ _ len _ => some (.int .i64 len)
    | _, _ => none
theorem lenB_str (s) : lenB true (.str s) = some (.int .i64 s.length) := (rfl)
theorem lenB_nils : lenB false .nils = some (.int .i64 0) := (rfl)
theorem lenB_sl (o z es) : lenB false (.sl o z es) = some (.int .i64 es.length) := (rfl)
theorem lenB_bsl (a b c d) : lenB false (.bsl a b c d) = some (.int .i64 c) := (rfl)
theorem step_len (str x) : step orc base draw (.len str x) e h = (ev e x).bnd fun v => (lenB str v).bnd fun r => some (r, e, h) := by
  show Option.bnd _ _ = Option.bnd _ _
  congr 1
  funext v
  cases str <;> cases v <;> rfl
def idxAB (v i : PV) (sz : Nat) : Option PV := match v with
    | .sl _ sz' es => if sz' = sz then (ix i es.length).bnd fun i => (es[i]?).bnd fun w => some (.ep w.cells 0) else none
    | .bsl b off len sz' => if sz' = sz then (ix i len).bnd fun i => some (.ptr b (off + i * sz)) else none
    | _ => none
theorem idxAB_sl (o z es i sz) : idxAB (.sl o z es) i sz = if z = sz then (ix i es.length).bnd fun i => (es[i]?).bnd fun w => some (.ep w.cells 0) else none := (rfl)
theorem idxAB_bsl (b off len z i sz) : idxAB (.bsl b off len z) i sz = if z = sz then (ix i len).bnd fun i => some (.ptr b (off + i * sz)) else none := (rfl)
theorem bnd_assoc {α β γ : Type} (x : Option α) (f : α → Option β) (g : β → Option γ) : (x.bnd f).bnd g = x.bnd fun a => (f a).bnd g := by cases x <;> rfl
theorem step_idxA (sz x i) : step orc base draw (.idxA sz x i) e h = (ev e x).bnd fun v => (ev e i).bnd fun i => (idxAB v i sz).bnd fun r => some (r, e, h) := by
  show Option.bnd _ _ = Option.bnd _ _
  congr 1
  funext v
  congr 1
  funext i
  cases v with
  | sl o z es => simp only [idxAB]; split <;> simp only [bnd_assoc, Option.bnd_some, Option.bnd_none]
  | bsl a b c z => simp only [idxAB]; split <;> simp only [bnd_assoc, Option.bnd_some, Option.bnd_none]
  | _ => rfl
def idxStrB (v i : PV) : Option PV := match v with
    | .str s => (ix i s.length).bnd fun i => (s[i]?).bnd fun c => some (.int .u8 c.toNat)
    | _ => none
theorem idxStrB_str (s i) : idxStrB (.str s) i = (ix i s.length).bnd fun i => (s[i]?).bnd fun c => some (.int .u8 c.toNat) := (rfl)
theorem step_idxStr (x i) : step orc base draw (.idxStr x i) e h = (ev e x).bnd fun v => (ev e i).bnd fun i => (idxStrB v i).bnd fun r => some (r, e, h) := by
  show Option.bnd _ _ = Option.bnd _ _
  congr 1
  funext v
  congr 1
  funext i
  cases v <;> simp only [idxStrB, bnd_assoc, Option.bnd_some, Option.bnd_none]
theorem step_minmax (mx xs) : step orc base draw (.minmax mx xs) e h = (evs e xs).bnd fun vs => match vs with
    | [] => none
    | x :: r => (minMax mx x r).bnd fun r => some (r, e, h) := (rfl)
theorem step_mkif (t x) : step orc base draw (.mkif t x) e h = (ev e x).bnd fun v => some (.iface t (strip v), e, h) := (rfl)
theorem step_slice (n x lo hi mx) : step orc base draw (.slice n x lo hi mx) e h = (ev e x).bnd fun v => (sliceOf e n lo hi mx v).bnd fun r => some (r, e, h) := (rfl)
theorem step_call (f args) : step orc base draw (.call f args) e h = (evs e args).bnd fun vs => (orc f vs h).bnd fun r =>
      if draw then (if r.2 = h then some (r.1, e, h) else none) else some (r.1, e, r.2) := (rfl)
theorem X_call (d f args r) : execOps orc base false (⟨d, none, .call f args⟩ :: r) e h = (evs e args).bnd fun vs => bnd2 (orc f vs h) fun v h => execOps orc base false r (putD e d v) h := by
  rw [execOps_plain, step_call, bnd3_bnd]
  congr 1
  funext vs
  rw [bnd3_bnd]
  cases orc f vs h <;> (exact rfl)
theorem step_callQ (f args) : step orc base draw (.callQ f args) e h = (evs e args).bnd fun vs => (orc f vs h).bnd fun r => if r.2 = h then some (r.1, e, h) else none := (rfl)
theorem X_callQ (d f args r) : execOps orc base draw (⟨d, none, .callQ f args⟩ :: r) e h = (evs e args).bnd fun vs => bnd2 (orc f vs h) fun v h' => if h' = h then execOps orc base draw r (putD e d v) h else none := by
  rw [execOps_plain, step_callQ, bnd3_bnd]
  congr 1
  funext vs
  rw [bnd3_bnd]
  cases orc f vs h with
  | none => exact rfl
  | some x => obtain ⟨v, h'⟩ := x; simp only [Option.bnd_some]; by_cases hq : h' = h <;> simp [hq, bnd2, bnd3, Option.bnd]
theorem X_callD (d f args r) : execOps orc base true (⟨d, none, .call f args⟩ :: r) e h = (evs e args).bnd fun vs => bnd2 (orc f vs h) fun v h' => if h' = h then execOps orc base true r (putD e d v) h else none := by
  rw [execOps_plain, step_call, bnd3_bnd]
  congr 1
  funext vs
  rw [bnd3_bnd]
  cases orc f vs h with
  | none => exact rfl
  | some x =>
    simp only [Option.bnd_some, if_true, bnd3_ite, bnd3_some, bnd3_none]
    exact rfl
theorem step_build (z ps) : step orc base draw (.build z ps) e h = (evParts3 e ps).bnd fun l => (buildAgg l z).bnd fun cs => some (.agg cs, e, h) := (rfl)
theorem step_buildSl (sz agg z len ps) : step orc base draw (.buildSl sz agg z len ps) e h = (evParts e ps).bnd fun l =>
      (fillParts sz l (List.replicate len (if agg then .agg z else z.headD .undef))).bnd fun es => some (.sl .full sz es, e, h) := (rfl)
def appB (xs : List PV) (sz : Nat) (v : PV) (e : Env) (h : Hp) : Option (PV × Env × Hp) :=
      if xs.all (fun x => x.cells.length == sz) then
      match v with
      | .nils => if xs.length ≤ lim2 then some (if xs.isEmpty then .nils else .sl .tail sz (xs.map strip), e, h) else none
      | .sl .full sz' es => if sz' = sz ∧ es.length + xs.length ≤ lim2 then some (if xs.isEmpty then .sl .full sz es else .sl .tail sz (es ++ xs.map strip), e, h) else none
      | _ => none
      else none
theorem step_append (sz s x) : step orc base draw (.append sz s x) e h = (ev e s).bnd fun v => (ev e x).bnd fun u => (elems h u).bnd fun xs => appB xs sz v e h := (rfl)
theorem X_fieldA (d off x r) : execOps orc base draw (⟨d, none, .fieldA off x⟩ :: r) e h = (ev e x).bnd fun v => (fieldAB v off).bnd fun r' => execOps orc base draw r (putD e d r') h := by
  rw [execOps_plain, step_fieldA]; simp only [bnd3_bnd, bnd3_some]
theorem X_nilck (d x r) : execOps orc base draw (⟨d, none, .nilck x⟩ :: r) e h = (ev e x).bnd fun v => (isNil v).bnd fun b => whenB b none (execOps orc base draw r (putD e d (strip v)) h) := by
  rw [execOps_plain, step_nilck]; simp only [bnd3_bnd, bnd3_some, bnd3_ite, bnd3_none]; exact rfl
theorem X_bin (d op x y r) : execOps orc base draw (⟨d, none, .bin op x y⟩ :: r) e h = (ev e x).bnd fun a => (ev e y).bnd fun b => (binOp op a b).bnd fun r' => execOps orc base draw r (putD e d r') h := by
  rw [execOps_plain, step_bin]; simp only [bnd3_bnd, bnd3_some]
theorem X_binB (d neg x y r) : execOps orc base draw (⟨d, none, .binB neg x y⟩ :: r) e h = (ev e x).bnd fun a => (ev e y).bnd fun b => (boolB neg a b).bnd fun r' => execOps orc base draw r (putD e d r') h := by
  rw [execOps_plain, step_binB]; simp only [bnd3_bnd, bnd3_some]
theorem X_isnil (d kd neg x r) : execOps orc base draw (⟨d, none, .isnil kd neg x⟩ :: r) e h = (ev e x).bnd fun v => (nilK kd v).bnd fun b => execOps orc base draw r (putD e d (.bool (if neg then !b else b))) h := by
  rw [execOps_plain, step_isnil]; simp only [bnd3_bnd, bnd3_some]
theorem X_un (d op x r) : execOps orc base draw (⟨d, none, .un op x⟩ :: r) e h = (ev e x).bnd fun a => (unOp op a).bnd fun r' => execOps orc base draw r (putD e d r') h := by
  rw [execOps_plain, step_un]; simp only [bnd3_bnd, bnd3_some]
theorem X_toInt (d k x r) : execOps orc base draw (⟨d, none, .toInt k x⟩ :: r) e h = (ev e x).bnd fun v => (toIntB v k).bnd fun r' => execOps orc base draw r (putD e d r') h := by
  rw [execOps_plain, step_toInt]; simp only [bnd3_bnd, bnd3_some]
theorem X_extract (d x i r) : execOps orc base draw (⟨d, none, .extract x i⟩ :: r) e h = (ev e x).bnd fun v => (extractB v i).bnd fun r' => execOps orc base draw r (putD e d (strip r')) h := by
  rw [execOps_plain, step_extract]; simp only [bnd3_bnd, bnd3_some]
theorem X_field (d off n agg x r) : execOps orc base draw (⟨d, none, .field off n agg x⟩ :: r) e h = (ev e x).bnd fun v => (fieldB v off n agg).bnd fun r' => execOps orc base draw r (putD e d r') h := by
  rw [execOps_plain, step_field]; simp only [bnd3_bnd, bnd3_some]
theorem X_len (d str x r) : execOps orc base draw (⟨d, none, .len str x⟩ :: r) e h = (ev e x).bnd fun v => (lenB str v).bnd fun r' => execOps orc base draw r (putD e d r') h := by
  rw [execOps_plain, step_len]; simp only [bnd3_bnd, bnd3_some]
theorem X_idxA (d sz x i r) : execOps orc base draw (⟨d, none, .idxA sz x i⟩ :: r) e h = (ev e x).bnd fun v => (ev e i).bnd fun i => (idxAB v i sz).bnd fun r' => execOps orc base draw r (putD e d r') h := by
  rw [execOps_plain, step_idxA]; simp only [bnd3_bnd, bnd3_some]
theorem X_idxStr (d x i r) : execOps orc base draw (⟨d, none, .idxStr x i⟩ :: r) e h = (ev e x).bnd fun v => (ev e i).bnd fun i => (idxStrB v i).bnd fun r' => execOps orc base draw r (putD e d r') h := by
  rw [execOps_plain, step_idxStr]; simp only [bnd3_bnd, bnd3_some]
theorem X_alloc (d z r) : execOps orc base draw (⟨d, none, .alloc z⟩ :: r) e h = execOps orc base draw r (putD e d (.ptr (size h) 0)) (ext h [z]) := by
  rw [execOps_plain, step_alloc, bnd3_some]
theorem X_load (d n agg a r) : execOps orc base draw (⟨d, none, .load n agg a⟩ :: r) e h = (ev e a).bnd fun v => bnd3 (loadB v e h n agg) fun v e h => execOps orc base draw r (putD e d v) h := by
  rw [execOps_plain, step_load]; simp only [bnd3_bnd, bnd3_some]
theorem X_store (d n a x r) : execOps orc base draw (⟨d, none, .store n a x⟩ :: r) e h = (ev e a).bnd fun v => (ev e x).bnd fun u => bnd3 (storeB v u base e h n) fun v e h => execOps orc base draw r (putD e d v) h := by
  rw [execOps_plain, step_store]; simp only [bnd3_bnd, bnd3_some]
theorem X_box (d n x r) : execOps orc base draw (⟨d, none, .box n x⟩ :: r) e h = (ev e x).bnd fun v => bnd3 (if v.cells.length = n ∧ v.cells.all scalar = true then some (.ptr (size h) 0, e, ext h [v.cells.map strip]) else none) fun v e h => execOps orc base draw r (putD e d v) h := by
  rw [execOps_plain, step_box]; simp only [bnd3_bnd, bnd3_some]
theorem X_pick (d c a b r) : execOps orc base draw (⟨d, none, .pick c a b⟩ :: r) e h = (ev e c).bnd fun v => bnd3 (condB v ((ev e a).bnd fun v => some (strip v, e, h)) ((ev e b).bnd fun v => some (strip v, e, h))) fun v e h => execOps orc base draw r (putD e d v) h := by
  rw [execOps_plain, step_pick]; simp only [bnd3_bnd, bnd3_some]
theorem X_minmax (d mx xs r) : execOps orc base draw (⟨d, none, .minmax mx xs⟩ :: r) e h = (evs e xs).bnd fun vs => bnd3 (match vs with | [] => none | x :: r => (minMax mx x r).bnd fun r => some (r, e, h)) fun v e h => execOps orc base draw r (putD e d v) h := by
  rw [execOps_plain, step_minmax]; simp only [bnd3_bnd, bnd3_some]
theorem X_mkif (d t x r) : execOps orc base draw (⟨d, none, .mkif t x⟩ :: r) e h = (ev e x).bnd fun v => execOps orc base draw r (putD e d (.iface t (strip v))) h := by
  rw [execOps_plain, step_mkif]; simp only [bnd3_bnd, bnd3_some]
theorem X_slice (d n x lo hi mx r) : execOps orc base draw (⟨d, none, .slice n x lo hi mx⟩ :: r) e h = (ev e x).bnd fun v => (sliceOf e n lo hi mx v).bnd fun r' => execOps orc base draw r (putD e d r') h := by
  rw [execOps_plain, step_slice]; simp only [bnd3_bnd, bnd3_some]
theorem X_build (d z ps r) : execOps orc base draw (⟨d, none, .build z ps⟩ :: r) e h = (evParts3 e ps).bnd fun l => (buildAgg l z).bnd fun cs => execOps orc base draw r (putD e d (.agg cs)) h := by
  rw [execOps_plain, step_build]; simp only [bnd3_bnd, bnd3_some]
theorem X_buildSl (d sz agg z len ps r) : execOps orc base draw (⟨d, none, .buildSl sz agg z len ps⟩ :: r) e h = (evParts e ps).bnd fun l => (fillParts sz l (List.replicate len (if agg then .agg z else z.headD .undef))).bnd fun es => execOps orc base draw r (putD e d (.sl .full sz es)) h := by
  rw [execOps_plain, step_buildSl]; simp only [bnd3_bnd, bnd3_some]
theorem X_append (d sz s x r) : execOps orc base draw (⟨d, none, .append sz s x⟩ :: r) e h = (ev e s).bnd fun v => (ev e x).bnd fun u => (elems h u).bnd fun xs => bnd3 (appB xs sz v e h) fun v e h => execOps orc base draw r (putD e d v) h := by
  rw [execOps_plain, step_append]; simp only [bnd3_bnd, bnd3_some]
end steps

theorem binOp_int (op k a j b) : binOp op (.int k a) (.int j b) = if isShift op then shiftOp op k a b else if k = j then intOp op k a b else none := (rfl)
theorem binOp_str (op a b) : binOp op (.str a) (.str b) = strOp op a b := (rfl)
theorem nilK_00 : nilK 0 .nilp = some true := (rfl)
theorem nilK_01 (b o) : nilK 0 (.ptr b o) = some false := (rfl)
theorem nilK_10 : nilK 1 .nils = some true := (rfl)
theorem nilK_11 (a b c) : nilK 1 (.sl a b c) = some false := (rfl)
theorem nilK_12 (a b c d) : nilK 1 (.bsl a b c d) = some false := (rfl)
theorem nilK_20 : nilK 2 .nilif = some true := (rfl)
theorem nilK_21 (a b) : nilK 2 (.iface a b) = some false := (rfl)
theorem nilK_30 : nilK 3 .nilf = some true := (rfl)
theorem nilK_31 (a b) : nilK 3 (.fn a b) = some false := (rfl)
theorem scalar_bool (b) : scalar (.bool b) = true := (rfl)
theorem scalar_int (k n) : scalar (.int k n) = true := (rfl)
theorem scalar_str (s) : scalar (.str s) = true := (rfl)
theorem scalar_nilp : scalar .nilp = true := (rfl)
theorem scalar_ptr (b o) : scalar (.ptr b o) = true := (rfl)
theorem scalar_nils : scalar .nils = true := (rfl)
theorem scalar_sl (b o c) : scalar (.sl b o c) = true := (rfl)
theorem scalar_bsl (a b c d) : scalar (.bsl a b c d) = true := (rfl)
theorem scalar_nilif : scalar .nilif = true := (rfl)
theorem scalar_iface (b o) : scalar (.iface b o) = true := (rfl)
theorem scalar_nilf : scalar .nilf = true := (rfl)
theorem scalar_fn (b o) : scalar (.fn b o) = true := (rfl)
theorem isShift_add : isShift .add = false := (rfl)
theorem isShift_sub : isShift .sub = false := (rfl)
theorem isShift_mul : isShift .mul = false := (rfl)
theorem isShift_quo : isShift .quo = false := (rfl)
theorem isShift_rem : isShift .rem = false := (rfl)
theorem isShift_and : isShift .and = false := (rfl)
theorem isShift_or : isShift .or = false := (rfl)
theorem isShift_xor : isShift .xor = false := (rfl)
theorem isShift_andNot : isShift .andNot = false := (rfl)
theorem isShift_eql : isShift .eql = false := (rfl)
theorem isShift_neq : isShift .neq = false := (rfl)
theorem isShift_lss : isShift .lss = false := (rfl)
theorem isShift_leq : isShift .leq = false := (rfl)
theorem isShift_gtr : isShift .gtr = false := (rfl)
theorem isShift_geq : isShift .geq = false := (rfl)
theorem isShift_shl : isShift .shl = true := (rfl)
theorem isShift_shr : isShift .shr = true := (rfl)
theorem unOp_not (b) : unOp .not (.bool b) = some (.bool (!b)) := (rfl)
theorem unOp_neg (k n) : unOp .neg (.int k n) = some (.int k (k.wrap (0 - n))) := (rfl)
theorem part_agg (cs off n) : part cs off n true = if off + n ≤ cs.length then some (.agg (((cs.drop off).take n).map strip)) else none := (rfl)
theorem part_one (cs off n) : part cs off n false = (cs[off]?).map strip := (rfl)
theorem minMax_nil (m x) : minMax m x [] = some x := (rfl)
theorem minMax_cons (m x y r) : minMax m x (y :: r) = (minMax2 m x y).bnd fun z => minMax m z r := (rfl)
theorem minMax2_max (k x j y) : minMax2 true (.int k x) (.int j y) = some (.int k (if y > x then y else x)) := (rfl)
theorem minMax2_min (k x j y) : minMax2 false (.int k x) (.int j y) = some (.int k (if y < x then y else x)) := (rfl)
theorem ix_int (k i n) : ix (.int k i) n = if 0 ≤ i ∧ i < n then some i.toNat else none := (rfl)

/-! ### No pointers -/
theorem belows_nil (n) : belows n [] = true := (rfl)
theorem belows_cons (n v vs) : belows n (v :: vs) = (below n v && belows n vs) := (rfl)
theorem below_undef (n) : below n .undef = true := (rfl)
theorem below_bool (n b) : below n (.bool b) = true := (rfl)
theorem below_int (n k i) : below n (.int k i) = true := (rfl)
theorem below_str (n s) : below n (.str s) = true := (rfl)
theorem below_nilp (n) : below n .nilp = true := (rfl)
theorem below_nils (n) : below n .nils = true := (rfl)
theorem below_nilif (n) : below n .nilif = true := (rfl)
theorem below_nilf (n) : below n .nilf = true := (rfl)
theorem below_ptr (n b o) : below n (.ptr b o) = decide (b < n) := (rfl)
theorem below_sl (n o z es) : below n (.sl o z es) = belows n es := (rfl)
theorem below_iface (n t v) : below n (.iface t v) = below n v := (rfl)
theorem below_agg (n cs) : below n (.agg cs) = belows n cs := (rfl)
theorem below_tup (n cs) : below n (.tup cs) = belows n cs := (rfl)
theorem belows_map {α : Type} {n : Nat} {f : α → PV} (hf : ∀ x, below n (f x) = true) : ∀ xs : List α, belows n (xs.map f) = true
  | [] => rfl
  | x :: xs => by simp [belows, hf x, belows_map hf xs]


/-! ### Functions of the machine, said as equations that simp keeps a proof of -/
theorem intOp_add (k a b) : intOp .add k a b = some (.int k (k.wrap (a + b))) := (rfl)
theorem intOp_sub (k a b) : intOp .sub k a b = some (.int k (k.wrap (a - b))) := (rfl)
theorem intOp_mul (k a b) : intOp .mul k a b = some (.int k (k.wrap (a * b))) := (rfl)
theorem intOp_quo (k a b) : intOp .quo k a b = if b = 0 then none else some (.int k (k.wrap (a.tdiv b))) := (rfl)
theorem intOp_rem (k a b) : intOp .rem k a b = if b = 0 then none else some (.int k (a.tmod b)) := (rfl)
theorem intOp_eql (k a b) : intOp .eql k a b = some (.bool (a == b)) := (rfl)
theorem intOp_neq (k a b) : intOp .neq k a b = some (.bool (a != b)) := (rfl)
theorem intOp_lss (k a b) : intOp .lss k a b = some (.bool (decide (a < b))) := (rfl)
theorem intOp_leq (k a b) : intOp .leq k a b = some (.bool (decide (a ≤ b))) := (rfl)
theorem intOp_gtr (k a b) : intOp .gtr k a b = some (.bool (decide (a > b))) := (rfl)
theorem intOp_geq (k a b) : intOp .geq k a b = some (.bool (decide (a ≥ b))) := (rfl)
theorem strOp_eql (x y) : strOp .eql x y = some (.bool (x == y)) := (rfl)
theorem strOp_neq (x y) : strOp .neq x y = some (.bool (x != y)) := (rfl)
theorem strOp_add (x y) : strOp .add x y = if x.length + y.length ≤ limS then some (.str (x ++ y)) else none := (rfl)
theorem resultOf_tmp (e h t) : resultOf e h (t, none) = look e t := (rfl)
def resB (v : PV) (h : Hp) (n : Nat) (agg : Bool) : Option PV := match v with
    | .ptr b off => (getBox h b).bnd fun cs => part cs off n agg
    | _ => none
theorem resB_ptr (b off h n agg) : resB (.ptr b off) h n agg = (getBox h b).bnd fun cs => part cs off n agg := (rfl)
theorem resultOf_cell (e h t n agg) : resultOf e h (t, some (n, agg)) = (look e t).bnd fun v => resB v h n agg := (rfl)
theorem resultsOf_nil (own e h) : resultsOf own e h [] = some [] := (rfl)
theorem resultsOf_cons (e h t ts) : resultsOf false e h (t :: ts) = (resultOf e h t).bnd fun v => (resultsOf false e h ts).bnd fun vs => some (strip v :: vs) := (rfl)
theorem resultsOf_own (e h t ts) : resultsOf true e h (t :: ts) = (resultOf e h t).bnd fun v => (resultsOf true e h ts).bnd fun vs => some (v :: vs) := (rfl)
theorem result1_one (v) : result1 [v] = v := (rfl)
theorem result1_nil : result1 [] = .tup [] := (rfl)
theorem result1_two (v w vs) : result1 (v :: w :: vs) = .tup (v :: w :: vs) := (rfl)
theorem finish_code (rs body own h0 e h) : finish ⟨rs, body, false, own⟩ h0 e h = (resultsOf own e h rs).bnd fun vs => if belows h0 vs = true then some (result1 vs, trunc h h0) else none := (rfl)
theorem finish_keep (rs body own h0 e h) : finish ⟨rs, body, true, own⟩ h0 e h = (resultsOf own e h rs).bnd fun vs => some (result1 vs, h) := (rfl)
theorem setRange_nil (cs off) : setRange cs off [] = cs := (rfl)
theorem setRange_cons (cs off v vs) : setRange cs off (v :: vs) = setRange (cs.set off v) (off + 1) vs := (rfl)

section run
variable {T : Table} {base : Nat} {e : Env} {h : Hp}
theorem R_ops {l : List AOper} {draw : Bool} {keep : List Nat} :
    ExecA T (.ops l draw keep) base e h = bnd2 (execOps (CallA T base) base draw l e h) fun e h => some (.norm, prune keep e, h) := by
  rw [ExecA_ops]; cases execOps (CallA T base) base draw l e h <;> (exact rfl)
def seqB {α : Type} (x : AEx) (e : Env) (h : Hp) (k : Env → Hp → Option (AEx × Env × Hp)) : Option (AEx × Env × Hp) := match x with
  | .norm => k e h
  | x => some (x, e, h)
def bndX {α : Type} (x : Option (AEx × Env × Hp)) (k : AEx → Env → Hp → Option α) : Option α := match x with
  | some (x, e, h) => k x e h
  | none => none
@[congr] theorem bndX_congr {α : Type} {x y : Option (AEx × Env × Hp)} {k : AEx → Env → Hp → Option α} (h : x = y) : bndX x k = bndX y k := by rw [h]
theorem bndX_some {α : Type} (v e h) (k : AEx → Env → Hp → Option α) : bndX (some (v, e, h)) k = k v e h := (rfl)
theorem bndX_none {α : Type} (k : AEx → Env → Hp → Option α) : bndX none k = none := (rfl)
theorem bndX_ite {α : Type} {c : Prop} [Decidable c] (x y) (k : AEx → Env → Hp → Option α) : bndX (if c then x else y) k = if c then bndX x k else bndX y k := by split <;> (exact rfl)
def onNorm {α : Type} (x : AEx) (a b : Option α) : Option α := match x with
  | .norm => a
  | _ => b
@[congr] theorem onNorm_congr {α : Type} {x y : AEx} {a b : Option α} (h : x = y) : onNorm x a b = onNorm y a b := by rw [h]
theorem onNorm_norm {α : Type} (a b : Option α) : onNorm .norm a b = a := (rfl)
theorem onNorm_ret {α : Type} (a b : Option α) : onNorm .ret a b = b := (rfl)
theorem onNorm_exit {α : Type} (i) (a b : Option α) : onNorm (.exit i) a b = b := (rfl)
theorem R_seq {a b : ACode} : ExecA T (.seq a b) base e h = bndX (ExecA T a base e h) fun x e h => onNorm x (ExecA T b base e h) (some (x, e, h)) := by
  rw [ExecA_seq]
  cases ExecA T a base e h with
  | none => exact rfl
  | some x => obtain ⟨x, e', h'⟩ := x; cases x <;> (exact rfl)
theorem R_loop {a : ACode} : ExecA T (.loop a) base e h = bndX (ExecA T a base e h) fun x e h => onNorm x (ExecA T (.loop a) base e h) (some (x, e, h)) := by
  rw [ExecA_loop]
  cases ExecA T a base e h with
  | none => exact rfl
  | some x => obtain ⟨x, e', h'⟩ := x; cases x <;> (exact rfl)
def onExit {α : Type} (id : Nat) (x : AEx) (a b : Option α) : Option α := match x with
  | .exit i => if i = id then a else b
  | _ => b
@[congr] theorem onExit_congr {α : Type} {id : Nat} {x y : AEx} {a b : Option α} (h : x = y) : onExit id x a b = onExit id y a b := by rw [h]
theorem onExit_norm {α : Type} (id) (a b : Option α) : onExit id .norm a b = b := (rfl)
theorem onExit_ret {α : Type} (id) (a b : Option α) : onExit id .ret a b = b := (rfl)
theorem onExit_exit {α : Type} (id i) (a b : Option α) : onExit id (.exit i) a b = if i = id then a else b := (rfl)
theorem R_block {id : Nat} {a : ACode} : ExecA T (.block id a) base e h = bndX (ExecA T a base e h) fun x e h => onExit id x (some (.norm, e, h)) (some (x, e, h)) := by
  rw [ExecA_block]
  cases ExecA T a base e h with
  | none => exact rfl
  | some x =>
    obtain ⟨x, e', h'⟩ := x
    cases x with
    | exit i => simp only [Option.bnd_some, bndX_some, onExit_exit]
    | _ => exact rfl
def onEnd {α : Type} (x : AEx) (a : Option α) : Option α := match x with
  | .exit _ => none
  | _ => a
theorem onEnd_norm {α : Type} (a : Option α) : onEnd .norm a = a := (rfl)
theorem onEnd_ret {α : Type} (a : Option α) : onEnd .ret a = a := (rfl)
@[congr] theorem onEnd_congr {α : Type} {x y : AEx} {a : Option α} (h : x = y) : onEnd x a = onEnd y a := by rw [h]
theorem R_call {f : Nat} {rs : List (Nat × Option (Nat × Bool))} {body : ACode} {own : Bool} {a : List PV} (hT : T f = some (.code ⟨rs, body, false, own⟩)) :
    CallA T base f a h = bndX (ExecA T body (size h) (params 0 a) h) fun x e h' => onEnd x (finish ⟨rs, body, false, own⟩ (size h) e h') := by
  rw [CallA_code hT]
  show Option.bnd (ExecA T body (size h) (params 0 a) h) _ = _
  cases ExecA T body (size h) (params 0 a) h with
  | none => exact rfl
  | some x => obtain ⟨x, e', h'⟩ := x; cases x <;> (exact rfl)
theorem R_callK {f : Nat} {rs : List (Nat × Option (Nat × Bool))} {body : ACode} {own : Bool} {a : List PV} (hT : T f = some (.code ⟨rs, body, true, own⟩)) :
    CallA T base f a h = bndX (ExecA T body base (params 0 a) h) fun x e h' => onEnd x (finish ⟨rs, body, true, own⟩ (size h) e h') := by
  rw [CallA_code hT]
  show Option.bnd (ExecA T body base (params 0 a) h) _ = _
  cases ExecA T body base (params 0 a) h with
  | none => exact rfl
  | some x => obtain ⟨x, e', h'⟩ := x; cases x <;> (exact rfl)
end run
end Go.Am
