/- 'Am': the equations by which simp evaluates.
   By the session's AI agent. -/
import Derived.Test.YthhceeaconflnaaDoorAm3
namespace Go.Am
set_option linter.unusedVariables false
set_option linter.unusedSimpArgs false

section heap
variable {h k : Hp} {l m : List Box} {x y z : Box} {b c n : Nat} {u v : List PV}
theorem size_ext : size (ext h l) = size h + l.length := by simp [size, ext]
theorem size_setBx : size (setBx h b x) = size h := by simp [size, setBx]
theorem size_setBox : size (setBox h b u) = size h := size_setBx
theorem setBox_eq : setBox h b u = setBx h b (.cells u) := (rfl)
theorem box_ext_at (hk : size k = n) : box? (ext k (x :: l)) n = some x := by subst hk; simp [box?, ext, size]
theorem box_ext_n (hk : size k = n) : box? (ext k l) (n + c) = l[c]? := by subst hk; simp [box?, ext, size, List.getElem?_append_right]
theorem getBox_ext_0 : getBox (ext h (x :: l)) (size h) = cellsOf x := by rw [getBox, box_ext_at rfl]; rfl
theorem getBox_ext_n : getBox (ext h l) (size h + n) = (l[n]?).bnd cellsOf := by rw [getBox, box_ext_n rfl]
theorem getTok_ext_0 : getTok (ext h (x :: l)) (size h) = tokOf x := by rw [getTok, box_ext_at rfl]; rfl
theorem getTok_ext_n : getTok (ext h l) (size h + n) = (l[n]?).bnd tokOf := by rw [getTok, box_ext_n rfl]
theorem getIter_ext_0 : getIter (ext h (x :: l)) (size h) = iterOf x := by rw [getIter, box_ext_at rfl]; rfl
theorem getIter_ext_n : getIter (ext h l) (size h + n) = (l[n]?).bnd iterOf := by rw [getIter, box_ext_n rfl]
theorem getBox_exts_0 : getBox (ext (setBx h b y) (x :: l)) (size h) = cellsOf x := by rw [getBox, box_ext_at size_setBx]; rfl
theorem getBox_exts_n : getBox (ext (setBx h b y) l) (size h + n) = (l[n]?).bnd cellsOf := by rw [getBox, box_ext_n size_setBx]
theorem getTok_exts_0 : getTok (ext (setBx h b y) (x :: l)) (size h) = tokOf x := by rw [getTok, box_ext_at size_setBx]; rfl
theorem getTok_exts_n : getTok (ext (setBx h b y) l) (size h + n) = (l[n]?).bnd tokOf := by rw [getTok, box_ext_n size_setBx]
theorem getIter_exts_0 : getIter (ext (setBx h b y) (x :: l)) (size h) = iterOf x := by rw [getIter, box_ext_at size_setBx]; rfl
theorem getIter_exts_n : getIter (ext (setBx h b y) l) (size h + n) = (l[n]?).bnd iterOf := by rw [getIter, box_ext_n size_setBx]
theorem cellsOf_cells : cellsOf (.cells u) = some u := (rfl)
theorem tokOf_tok {m : Nat} : tokOf (.tok n m) = some (n, m) := (rfl)
theorem iterOf_iter {s : List UInt8} : iterOf (.iter s n) = some (s, n) := (rfl)
theorem box_ext_lt (hb : b < size h) : box? (ext h l) b = box? h b := by simp only [box?, ext, size] at *; exact List.getElem?_append_left hb
theorem getBox_ext_lt (hb : b < size h) : getBox (ext h l) b = getBox h b := by rw [getBox, box_ext_lt hb]; rfl
theorem getTok_ext_lt (hb : b < size h) : getTok (ext h l) b = getTok h b := by rw [getTok, box_ext_lt hb]; rfl
theorem setBx_ext_at (hk : size k = n) : setBx (ext k (x :: l)) n y = ext k (y :: l) := by subst hk; simp [setBx, ext, size]
theorem setBx_ext_nat (hk : size k = n) : setBx (ext k l) (n + c) y = ext k (l.set c y) := by subst hk; simp [setBx, ext, size, List.set_append]
theorem setBx_ext_0 : setBx (ext h (x :: l)) (size h) y = ext h (y :: l) := setBx_ext_at rfl
theorem setBx_ext_n : setBx (ext h l) (size h + n) y = ext h (l.set n y) := setBx_ext_nat rfl
theorem setBx_exts_0 : setBx (ext (setBx h b z) (x :: l)) (size h) y = ext (setBx h b z) (y :: l) := setBx_ext_at size_setBx
theorem setBx_exts_n : setBx (ext (setBx h b z) l) (size h + n) y = ext (setBx h b z) (l.set n y) := setBx_ext_nat size_setBx
theorem setBx_ext_lt (hb : b < size h) : setBx (ext h l) b y = ext (setBx h b y) l := by
  simp only [setBx, ext, size] at *; simp [List.set_append, hb]
theorem ext_ext : ext (ext h l) m = ext h (l ++ m) := by simp [ext]
theorem ext_nil : ext h [] = h := by simp [ext]
theorem box_set_eq (hb : b < size h) : box? (setBx h b x) b = some x := by
  simp only [box?, setBx, size] at *; simp [hb]
theorem box_set_ne (hn : b ≠ n) : box? (setBx h b x) n = box? h n := by simp [box?, setBx, hn]
theorem lt_of_box {c : Box} (hb : box? h b = some c) : b < size h := (List.getElem?_eq_some_iff.1 hb).1
theorem box_of_get (hb : getBox h b = some u) : box? h b = some (.cells u) := by
  rw [getBox, Option.bnd_eq_some_iff] at hb
  obtain ⟨x, h1, h2⟩ := hb
  cases x <;> simp only [cellsOf] at h2 <;> first | cases h2 | skip
  exact h1
theorem box_of_tok {n : Nat × Nat} (hb : getTok h b = some n) : box? h b = some (.tok n.1 n.2) := by
  rw [getTok, Option.bnd_eq_some_iff] at hb
  obtain ⟨x, h1, h2⟩ := hb
  cases x <;> simp only [tokOf] at h2 <;> first | cases h2 | skip
  exact h1
theorem box_of_iter {s : List UInt8} (hb : getIter h b = some (s, n)) : box? h b = some (.iter s n) := by
  rw [getIter, Option.bnd_eq_some_iff] at hb
  obtain ⟨x, h1, h2⟩ := hb
  cases x <;> simp only [iterOf] at h2 <;> first | cases h2 | skip
  exact h1
theorem lt_of_getBox (hb : getBox h b = some u) : b < size h := lt_of_box (box_of_get hb)
theorem lt_of_getTok {n : Nat × Nat} (hb : getTok h b = some n) : b < size h := lt_of_box (box_of_tok hb)
theorem getBox_set_eq (hb : getBox h b = some u) : getBox (setBox h b v) b = some v := by
  rw [getBox, setBox, box_set_eq (lt_of_getBox hb)]; rfl
theorem getBox_set_same (hb : b < size h) : getBox (setBx h b (.cells v)) b = some v := by
  rw [getBox, box_set_eq hb]; rfl
theorem getTok_set_same {m : Nat} (hb : b < size h) : getTok (setBx h b (.tok n m)) b = some (n, m) := by
  rw [getTok, box_set_eq hb]; rfl
theorem getBox_set_ne (hn : b ≠ n) : getBox (setBx h b x) n = getBox h n := by rw [getBox, box_set_ne hn]; rfl
theorem getTok_set_ne (hn : b ≠ n) : getTok (setBx h b x) n = getTok h n := by rw [getTok, box_set_ne hn]; rfl
theorem setBx_setBx : setBx (setBx h b x) b y = setBx h b y := by simp [setBx]
theorem setBox_setBox : setBox (setBox h b u) b v = setBox h b v := setBx_setBx
theorem setBx_self (hb : box? h b = some x) : setBx h b x = h := by
  simp only [box?, setBx] at *
  obtain ⟨hl, rfl⟩ := List.getElem?_eq_some_iff.1 hb
  simp
theorem setBox_self (hb : getBox h b = some u) : setBox h b u = h := setBx_self (box_of_get hb)
theorem trunc_ext : trunc (ext h l) (size h) = h := by simp [trunc, ext, size]
theorem trunc_self : trunc h (size h) = h := by simp [trunc, size]
theorem trunc_exts : trunc (ext (setBx h b x) l) (size h) = setBx h b x := by
  rw [← size_setBx (h := h) (b := b) (x := x)]; exact trunc_ext
theorem trunc_set : trunc (setBx h b x) (size h) = setBx h b x := by
  conv => lhs; arg 2; rw [← size_setBx (h := h) (b := b) (x := x)]
  exact trunc_self
theorem not_lt_size : (size h < size h) = False := by simp
theorem size_add_lt : (size h + n < size h) = False := by simp
end heap

section vals
theorem strip_undef : strip .undef = .undef := (rfl)
theorem strip_bool (b) : strip (.bool b) = .bool b := (rfl)
theorem strip_int (k n) : strip (.int k n) = .int k n := (rfl)
theorem strip_str (s) : strip (.str s) = .str s := (rfl)
theorem strip_nilp : strip .nilp = .nilp := (rfl)
theorem strip_bnil (t) : strip (.bnil t) = .bnil t := (rfl)
theorem strip_ptr (b o) : strip (.ptr b o) = .ptr b o := (rfl)
theorem strip_ep (b o) : strip (.ep b o) = .ep b o := (rfl)
theorem strip_nils : strip .nils = .nils := (rfl)
theorem ostrip_no : Own.strip .no = .no := (rfl)
theorem ostrip_full : Own.strip .full = .full := (rfl)
theorem ostrip_tok (t) : Own.strip (.tok t) = .no := (rfl)
theorem ostrip_idem (o : Own) : o.strip.strip = o.strip := by cases o <;> rfl
theorem obelow_no (n) : Own.below n .no = true := (rfl)
theorem obelow_full (n) : Own.below n .full = true := (rfl)
theorem obelow_tok (n t) : Own.below n (.tok t) = decide (t < n) := (rfl)
theorem obelow_strip (n) (o : Own) : o.strip.below n = true := by cases o <;> rfl
theorem strip_sl (o z e) : strip (.sl o z e) = .sl o.strip z e := (rfl)
theorem strip_bsl (f a b c d) : strip (.bsl f a b c d) = .bsl f a b c d := (rfl)
theorem strip_nilif : strip .nilif = .nilif := (rfl)
theorem strip_iface (t v) : strip (.iface t v) = .iface t (strip v) := (rfl)
theorem strip_nilf : strip .nilf = .nilf := (rfl)
theorem strip_fn (t v) : strip (.fn t v) = .fn t (strips v) := (rfl)
theorem strip_agg (c) : strip (.agg c) = .agg (strips c) := (rfl)
theorem strip_tup (c) : strip (.tup c) = .tup (strips c) := (rfl)
theorem strip_it (b) : strip (.it b) = .it b := (rfl)
theorem strips_nil : strips [] = [] := (rfl)
theorem strips_cons (v vs) : strips (v :: vs) = strip v :: strips vs := (rfl)
mutual
theorem strip_strip : ∀ v, strip (strip v) = strip v
  | .sl o z e => by simp only [strip, ostrip_idem]
  | .agg c => by simp only [strip, strips_strips c]
  | .tup c => by simp only [strip, strips_strips c]
  | .fn f c => by simp only [strip, strips_strips c]
  | .iface t v => by simp only [strip, strip_strip v]
  | .undef | .bool _ | .int _ _ | .str _ | .nilp | .bnil _ | .ptr _ _ | .ep _ _ | .nils | .bsl _ _ _ _ _ | .nilif | .nilf | .it _ => rfl
theorem strips_strips : ∀ v, strips (strips v) = strips v
  | [] => rfl
  | v :: vs => by simp only [strips, strip_strip v, strips_strips vs]
end
theorem strips_map (vs : List PV) : strips vs = vs.map strip := by induction vs <;> simp_all [strips]

theorem cells_agg (c) : PV.cells (.agg c) = c := (rfl)
theorem cells_bool (b) : PV.cells (.bool b) = [.bool b] := (rfl)
theorem cells_int (k n) : PV.cells (.int k n) = [.int k n] := (rfl)
theorem cells_str (s) : PV.cells (.str s) = [.str s] := (rfl)
theorem cells_nilp : PV.cells .nilp = [.nilp] := (rfl)
theorem cells_bnil (t) : PV.cells (.bnil t) = [.bnil t] := (rfl)
theorem cells_ptr (b o) : PV.cells (.ptr b o) = [.ptr b o] := (rfl)
theorem cells_nils : PV.cells .nils = [.nils] := (rfl)
theorem cells_sl (o z e) : PV.cells (.sl o z e) = [.sl o z e] := (rfl)
theorem cells_bsl (f a b c d) : PV.cells (.bsl f a b c d) = [.bsl f a b c d] := (rfl)
theorem cells_nilif : PV.cells .nilif = [.nilif] := (rfl)
theorem cells_iface (t v) : PV.cells (.iface t v) = [.iface t v] := (rfl)
theorem cells_nilf : PV.cells .nilf = [.nilf] := (rfl)
theorem cells_fn (t v) : PV.cells (.fn t v) = [.fn t v] := (rfl)

theorem isNil_nilp : isNil .nilp = some true := (rfl)
theorem isNil_bnil (t) : isNil (.bnil t) = some true := (rfl)
theorem isNil_nils : isNil .nils = some true := (rfl)
theorem isNil_nilif : isNil .nilif = some true := (rfl)
theorem isNil_nilf : isNil .nilf = some true := (rfl)
theorem isNil_ptr (b o) : isNil (.ptr b o) = some false := (rfl)
theorem isNil_ep (b o) : isNil (.ep b o) = some false := (rfl)
theorem isNil_sl (b o c) : isNil (.sl b o c) = some false := (rfl)
theorem isNil_bsl (f a b c d) : isNil (.bsl f a b c d) = some false := (rfl)
theorem isNil_iface (b o) : isNil (.iface b o) = some false := (rfl)
theorem isNil_fn (b o) : isNil (.fn b o) = some false := (rfl)

theorem ev_tmp (e t) : ev e (.tmp t) = look e t := (rfl)
theorem ev_const (e v) : ev e (.const v) = some v := (rfl)
theorem look_cons (i v e t) : look ((i, v) :: e) t = if i = t then some v else look e t := (rfl)
theorem look_nil (t) : look [] t = none := (rfl)
theorem evs_nil (e) : evs e [] = some [] := (rfl)
theorem evs_cons (e x xs) : evs e (x :: xs) = (ev e x).bnd fun v => (evs e xs).bnd fun vs => some (v :: vs) := (rfl)
theorem prune_nil (e) : prune [] e = [] := (rfl)
def pruneC (t : Nat) (v : Option PV) (r : Env) : Env := match v with
  | some v => (t, v) :: r
  | none => r
@[congr] theorem pruneC_congr {t : Nat} {v w : Option PV} {r s : Env} (h : v = w) (h2 : r = s) : pruneC t v r = pruneC t w s := by rw [h, h2]
theorem pruneC_some (t v r) : pruneC t (some v) r = (t, v) :: r := (rfl)
theorem pruneC_none (t r) : pruneC t none r = r := (rfl)
theorem prune_cons (t ts e) : prune (t :: ts) e = pruneC t (look e t) (prune ts e) := by
  rw [prune]; cases look e t <;> rfl
theorem putD_none (e v) : putD e none v = e := (rfl)
theorem putD_some (e d v) : putD e (some d) v = (d, v) :: e := (rfl)
theorem wanted_none (e) : wanted e none = some true := (rfl)
def wantB (v : PV) (w : Bool) : Option Bool := match v with
    | .bool b => some (b == w)
    | .undef => some false
    | _ => none
theorem wantB_bool (b w) : wantB (.bool b) w = some (b == w) := (rfl)
theorem wantB_undef (w) : wantB .undef w = some false := (rfl)
theorem wanted_some (e t w) : wanted e (some (t, w)) = (look e t).bnd fun v => wantB v w := (rfl)
theorem params_nil (i) : params i [] = [] := (rfl)
theorem params_cons (i v vs) : params i (v :: vs) = (i, v) :: params (i + 1) vs := (rfl)

theorem execOps_nil (orc base draw e h) : execOps orc base draw [] e h = some (e, h) := (rfl)
def whenB {α : Type} (w : Bool) (x y : Option α) : Option α := if w then x else y
@[congr] theorem whenB_congr {α : Type} {w w' : Bool} {x y : Option α} (h : w = w') : whenB w x y = whenB w' x y := by rw [h]
theorem whenB_true {α : Type} (x y : Option α) : whenB true x y = x := (rfl)
theorem whenB_false {α : Type} (x y : Option α) : whenB false x y = y := (rfl)
end vals

def bnd3 {α : Type} (x : Option (PV × Env × Hp)) (k : PV → Env → Hp → Option α) : Option α := match x with
  | some (v, e, h) => k v e h
  | none => none
@[congr] theorem bnd3_congr {α : Type} {x y : Option (PV × Env × Hp)} {k : PV → Env → Hp → Option α} (h : x = y) : bnd3 x k = bnd3 y k := by rw [h]
theorem bnd3_some {α : Type} (v e h) (k : PV → Env → Hp → Option α) : bnd3 (some (v, e, h)) k = k v e h := (rfl)
theorem bnd3_none {α : Type} (k : PV → Env → Hp → Option α) : bnd3 none k = none := (rfl)
theorem bnd3_ite {α : Type} {c : Prop} [Decidable c] (x y) (k : PV → Env → Hp → Option α) : bnd3 (if c then x else y) k = if c then bnd3 x k else bnd3 y k := by split <;> (exact rfl)
def bnd2 {α β : Type} (x : Option (β × Hp)) (k : β → Hp → Option α) : Option α := match x with
  | some (v, h) => k v h
  | none => none
@[congr] theorem bnd2_congr {α β : Type} {x y : Option (β × Hp)} {k : β → Hp → Option α} (h : x = y) : bnd2 x k = bnd2 y k := by rw [h]
theorem bnd2_some {α β : Type} (v h) (k : β → Hp → Option α) : bnd2 (some (v, h)) k = k v h := (rfl)
theorem bnd2_none {α β : Type} (k : β → Hp → Option α) : bnd2 none k = none := (rfl)
theorem bnd2_ite {α β : Type} {c : Prop} [Decidable c] (x y) (k : β → Hp → Option α) : bnd2 (if c then x else y) k = if c then bnd2 x k else bnd2 y k := by split <;> (exact rfl)
theorem bnd3_bnd {α γ : Type} (x : Option γ) (f : γ → Option (PV × Env × Hp)) (k : PV → Env → Hp → Option α) : bnd3 (x.bnd f) k = x.bnd fun a => bnd3 (f a) k := by cases x <;> (exact rfl)

section steps
variable (orc : Orc) (base : Nat) (draw : Bool) (e : Env) (h : Hp)
theorem execOps_plain (d op r) : execOps orc base draw (⟨d, none, op⟩ :: r) e h = bnd3 (step orc base draw op e h) fun v e h => execOps orc base draw r (putD e d v) h := by
  show Option.bnd _ _ = _
  cases step orc base draw op e h <;> (exact rfl)
theorem execOps_guard (d t w op r) : execOps orc base draw (⟨d, some (t, w), op⟩ :: r) e h = (look e t).bnd fun v => (wantB v w).bnd fun w =>
    whenB w (execOps orc base draw (⟨d, none, op⟩ :: r) e h) (execOps orc base draw r (putD e d .undef) h) := by
  rw [execOps, wanted_some]
  cases look e t with
  | none => exact rfl
  | some v =>
    simp only [Option.bnd_some]
    cases wantB v w with
    | none => exact rfl
    | some w => cases w <;> (exact rfl)
theorem X_mov (d x r) : execOps orc base draw (⟨d, none, .mov x⟩ :: r) e h = (ev e x).bnd fun v => execOps orc base draw r (putD e d v) h := by
  rw [execOps_plain]; exact bnd3_bnd _ _ _
theorem step_mov (x) : step orc base draw (.mov x) e h = (ev e x).bnd fun v => some (v, e, h) := (rfl)
theorem step_pick (c a b) : step orc base draw (.pick c a b) e h = (ev e c).bnd fun v => condB v ((ev e a).bnd fun v => some (v, e, h)) ((ev e b).bnd fun v => some (v, e, h)) := (rfl)
theorem step_alloc (z) : step orc base draw (.alloc z) e h = some (.ptr (size h) 0, e, ext h [.cells z]) := (rfl)
theorem step_box (n x) : step orc base draw (.box n x) e h = (ev e x).bnd fun v => if v.cells.length = n ∧ v.cells.all scalar = true then some (.ptr (size h) 0, e, ext h [.cells v.cells]) else none := (rfl)
theorem step_nilck (x) : step orc base draw (.nilck x) e h = (ev e x).bnd fun v => (isNil v).bnd fun b => if b then none else some (v, e, h) := by
  show Option.bnd _ _ = Option.bnd _ _
  congr 1
  funext v
  cases v <;> rfl
def loadB (v : PV) (e : Env) (h : Hp) (n : Nat) (agg : Bool) : Option (PV × Env × Hp) := match v with
    | .ptr b off => (getBox h b).bnd fun cs => (part cs off n agg).bnd fun r => some (r, e, h)
    | .ep cs off => (part cs off n agg).bnd fun r => some (r, e, h)
    | _ => none
theorem step_load (n agg a) : step orc base draw (.load n agg a) e h = (ev e a).bnd fun v => loadB v e h n agg := (rfl)
theorem loadB_ptr (b off e h n agg) : loadB (.ptr b off) e h n agg = (getBox h b).bnd fun cs => (part cs off n agg).bnd fun r => some (r, e, h) := (rfl)
theorem loadB_ep (cs off e h n agg) : loadB (.ep cs off) e h n agg = (part cs off n agg).bnd fun r => some (r, e, h) := (rfl)
def storeB (v u : PV) (base : Nat) (e : Env) (h : Hp) (n : Nat) : Option (PV × Env × Hp) := match v with
    | .ptr b off => (getBox h b).bnd fun cs =>
        if u.cells.length = n ∧ off + n ≤ cs.length ∧ u.cells.all scalar = true ∧ (b < base → belows 0 (strips u.cells) = true)
        then some (.undef, e, setBox h b (setRange cs off (if b < base then strips u.cells else u.cells))) else none
    | _ => none
theorem step_store (n a x) : step orc base draw (.store n a x) e h = (ev e a).bnd fun v => (ev e x).bnd fun u => storeB v u base e h n := (rfl)
theorem storeB_ptr (b off u base e h n) : storeB (.ptr b off) u base e h n = (getBox h b).bnd fun cs =>
        if u.cells.length = n ∧ off + n ≤ cs.length ∧ u.cells.all scalar = true ∧ (b < base → belows 0 (strips u.cells) = true)
        then some (.undef, e, setBox h b (setRange cs off (if b < base then strips u.cells else u.cells))) else none := (rfl)
theorem step_bin (op x y) : step orc base draw (.bin op x y) e h = (ev e x).bnd fun a => (ev e y).bnd fun b => (binOp op a b).bnd fun r => some (r, e, h) := (rfl)
theorem step_isnil (kd neg x) : step orc base draw (.isnil kd neg x) e h = (ev e x).bnd fun v => (nilK kd v).bnd fun b => some (.bool (if neg then !b else b), e, h) := (rfl)
def boolB (neg : Bool) (a b : PV) : Option PV := match a, b with
    | .bool a, .bool b => some (.bool (if neg then a != b else a == b))
    | _, _ => none
theorem boolB_eq (a b) : boolB false (.bool a) (.bool b) = some (.bool (a == b)) := (rfl)
theorem boolB_ne (a b) : boolB true (.bool a) (.bool b) = some (.bool (a != b)) := (rfl)
theorem step_binB (neg x y) : step orc base draw (.binB neg x y) e h = (ev e x).bnd fun a => (ev e y).bnd fun b => (boolB neg a b).bnd fun r => some (r, e, h) := by
  show Option.bnd _ _ = Option.bnd _ _
  congr 1
  funext a
  congr 1
  funext b
  cases a <;> cases b <;> (exact rfl)
theorem step_un (op x) : step orc base draw (.un op x) e h = (ev e x).bnd fun a => (unOp op a).bnd fun r => some (r, e, h) := (rfl)
def toIntB (v : PV) (k : IntKind) : Option PV := match v with
    | .int _ n => some (.int k (k.wrap n))
    | _ => none
theorem toIntB_int (j n k) : toIntB (.int j n) k = some (.int k (k.wrap n)) := (rfl)
theorem step_toInt (k x) : step orc base draw (.toInt k x) e h = (ev e x).bnd fun v => (toIntB v k).bnd fun r => some (r, e, h) := by
  show Option.bnd _ _ = Option.bnd _ _
  congr 1
  funext v
  cases v <;> rfl
def extractB (v : PV) (i : Nat) : Option PV := match v with
    | .tup vs => vs[i]?
    | _ => none
theorem extractB_tup (vs i) : extractB (.tup vs) i = vs[i]? := (rfl)
theorem step_extract (x i) : step orc base draw (.extract x i) e h = (ev e x).bnd fun v => (extractB v i).bnd fun r => some (r, e, h) := by
  show Option.bnd _ _ = Option.bnd _ _
  congr 1
  funext v
  cases v <;> rfl
def fieldAB (v : PV) (off : Nat) : Option PV := match v with
    | .ptr b o => some (.ptr b (o + off))
    | .ep cs o => some (.ep cs (o + off))
    | _ => none
theorem fieldAB_ptr (b o off) : fieldAB (.ptr b o) off = some (.ptr b (o + off)) := (rfl)
theorem fieldAB_ep (b o off) : fieldAB (.ep b o) off = some (.ep b (o + off)) := (rfl)
theorem step_fieldA (off x) : step orc base draw (.fieldA off x) e h = (ev e x).bnd fun v => (fieldAB v off).bnd fun r => some (r, e, h) := by
  show Option.bnd _ _ = Option.bnd _ _
  congr 1
  funext v
  cases v <;> rfl
def fieldB (v : PV) (off n : Nat) (agg : Bool) : Option PV := match v with
    | .agg cs => part cs off n agg
    | _ => none
theorem fieldB_agg (cs off n agg) : fieldB (.agg cs) off n agg = part cs off n agg := (rfl)
theorem step_field (off n agg x) : step orc base draw (.field off n agg x) e h = (ev e x).bnd fun v => (fieldB v off n agg).bnd fun r => some (r, e, h) := by
  show Option.bnd _ _ = Option.bnd _ _
  congr 1
  funext v
  cases v <;> rfl
def lenB (str : Bool) (v : PV) : Option PV := match str, v with
    | true, .str s => some (.int .i64 s.length)
    | false, .nils => some (.int .i64 0)
    | false, .sl _ _ es => some (.int .i64 es.length)
    | false, .bsl _ _ _ len _ => some (.int .i64 len)
    | _, _ => none
theorem lenB_str (s) : lenB true (.str s) = some (.int .i64 s.length) := (rfl)
theorem lenB_nils : lenB false .nils = some (.int .i64 0) := (rfl)
theorem lenB_sl (o z es) : lenB false (.sl o z es) = some (.int .i64 es.length) := (rfl)
theorem lenB_bsl (f a b c d) : lenB false (.bsl f a b c d) = some (.int .i64 c) := (rfl)
theorem step_len (str x) : step orc base draw (.len str x) e h = (ev e x).bnd fun v => (lenB str v).bnd fun r => some (r, e, h) := by
  show Option.bnd _ _ = Option.bnd _ _
  congr 1
  funext v
  cases str <;> cases v <;> rfl
def idxAB (v i : PV) (sz : Nat) : Option PV := match v with
    | .sl _ sz' es => if sz' = sz then (ix i es.length).bnd fun i => (es[i]?).bnd fun w => some (.ep w.cells 0) else none
    | .bsl _ b off len sz' => if sz' = sz then (ix i len).bnd fun i => some (.ptr b (off + i * sz)) else none
    | _ => none
theorem idxAB_sl (o z es i sz) : idxAB (.sl o z es) i sz = if z = sz then (ix i es.length).bnd fun i => (es[i]?).bnd fun w => some (.ep w.cells 0) else none := (rfl)
theorem idxAB_bsl (f b off len z i sz) : idxAB (.bsl f b off len z) i sz = if z = sz then (ix i len).bnd fun i => some (.ptr b (off + i * sz)) else none := (rfl)
theorem bnd_assoc {α β γ : Type} (x : Option α) (f : α → Option β) (g : β → Option γ) : (x.bnd f).bnd g = x.bnd fun a => (f a).bnd g := by cases x <;> rfl
theorem step_idxA (sz x i) : step orc base draw (.idxA sz x i) e h = (ev e x).bnd fun v => (ev e i).bnd fun i => (idxAB v i sz).bnd fun r => some (r, e, h) := by
  show Option.bnd _ _ = Option.bnd _ _
  congr 1
  funext v
  congr 1
  funext i
  cases v with
  | sl o z es => simp only [idxAB]; split <;> simp only [bnd_assoc, Option.bnd_some, Option.bnd_none]
  | bsl f a b c z => simp only [idxAB]; split <;> simp only [bnd_assoc, Option.bnd_some, Option.bnd_none]
  | _ => rfl
def idxStrB (v i : PV) : Option PV := match v with
    | .str s => (ix i s.length).bnd fun i => (s[i]?).bnd fun c => some (.int .u8 c.toNat)
    | _ => none
theorem idxStrB_str (s i) : idxStrB (.str s) i = (ix i s.length).bnd fun i => (s[i]?).bnd fun c => some (.int .u8 c.toNat) := (rfl)
theorem step_idxStr (x i) : step orc base draw (.idxStr x i) e h = (ev e x).bnd fun v => (ev e i).bnd fun i => (idxStrB v i).bnd fun r => some (r, e, h) := by
  show Option.bnd _ _ = Option.bnd _ _
  congr 1
  funext v
  congr 1
  funext i
  cases v <;> simp only [idxStrB, bnd_assoc, Option.bnd_some, Option.bnd_none]
theorem step_minmax (mx xs) : step orc base draw (.minmax mx xs) e h = (evs e xs).bnd fun vs => match vs with
    | [] => none
    | x :: r => (minMax mx x r).bnd fun r => some (r, e, h) := (rfl)
theorem step_mkif (t x) : step orc base draw (.mkif t x) e h = (ev e x).bnd fun v => some (.iface t v, e, h) := (rfl)
theorem step_slice (n x lo hi mx) : step orc base draw (.slice n x lo hi mx) e h = (ev e x).bnd fun v => (sliceOf e n lo hi mx v).bnd fun r => some (r, e, h) := (rfl)
theorem step_call (f args) : step orc base draw (.call f args) e h = (evs e args).bnd fun vs => (orc f vs h).bnd fun r =>
      if draw then (if r.2 = h then some (r.1, e, h) else none) else some (r.1, e, r.2) := (rfl)
theorem X_call (d f args r) : execOps orc base false (⟨d, none, .call f args⟩ :: r) e h = (evs e args).bnd fun vs => bnd2 (orc f vs h) fun v h => execOps orc base false r (putD e d v) h := by
  rw [execOps_plain, step_call, bnd3_bnd]
  congr 1
  funext vs
  rw [bnd3_bnd]
  cases orc f vs h <;> (exact rfl)
theorem step_callQ (f args) : step orc base draw (.callQ f args) e h = (evs e args).bnd fun vs => (orc f vs h).bnd fun r => if r.2 = h then some (r.1, e, h) else none := (rfl)
theorem X_callQ (d f args r) : execOps orc base draw (⟨d, none, .callQ f args⟩ :: r) e h = (evs e args).bnd fun vs => bnd2 (orc f vs h) fun v h' => if h' = h then execOps orc base draw r (putD e d v) h else none := by
  rw [execOps_plain, step_callQ, bnd3_bnd]
  congr 1
  funext vs
  rw [bnd3_bnd]
  cases orc f vs h with
  | none => exact rfl
  | some x => obtain ⟨v, h'⟩ := x; simp only [Option.bnd_some]; by_cases hq : h' = h <;> simp [hq, bnd2, bnd3, Option.bnd]
theorem X_callD (d f args r) : execOps orc base true (⟨d, none, .call f args⟩ :: r) e h = (evs e args).bnd fun vs => bnd2 (orc f vs h) fun v h' => if h' = h then execOps orc base true r (putD e d v) h else none := by
  rw [execOps_plain, step_call, bnd3_bnd]
  congr 1
  funext vs
  rw [bnd3_bnd]
  cases orc f vs h with
  | none => exact rfl
  | some x =>
    simp only [Option.bnd_some, if_true, bnd3_ite, bnd3_some, bnd3_none]
    exact rfl
theorem step_build (z ps) : step orc base draw (.build z ps) e h = (evParts3 e ps).bnd fun l => (buildAgg l z).bnd fun cs => some (.agg cs, e, h) := (rfl)
theorem step_buildSl (sz agg z len ps) : step orc base draw (.buildSl sz agg z len ps) e h = (evParts e ps).bnd fun l =>
      (fillParts sz l (List.replicate len (if agg then .agg z else z.headD .undef))).bnd fun es => some (.sl .full sz es, e, h) := (rfl)
def appB (xs : List PV) (sz : Nat) (v : PV) (e : Env) (h : Hp) : Option (PV × Env × Hp) :=
      if xs.all (fun x => x.cells.length == sz) then
      match v with
      | .nils => if xs.length ≤ lim2 then some (if xs.isEmpty then .nils else .sl .no sz (strips xs), e, h) else none
      | .sl .full sz' es => if sz' = sz ∧ es.length + xs.length ≤ lim2 then some (if xs.isEmpty then .sl .full sz es else .sl .no sz (es ++ strips xs), e, h) else none
      | _ => none
      else none
theorem step_appendT (T sz s x) : step orc base draw (.appendT T sz s x) e h = (ev e s).bnd fun v => (ev e x).bnd fun u => (elems h u).bnd fun xs => (growT h T sz v xs).bnd fun r => some (r.1, e, r.2) := (rfl)
theorem X_appendT (d T sz s x r) : execOps orc base draw (⟨d, none, .appendT T sz s x⟩ :: r) e h = (ev e s).bnd fun v => (ev e x).bnd fun u => (elems h u).bnd fun xs => bnd2 (growT h T sz v xs) fun v h => execOps orc base draw r (putD e d v) h := by
  rw [execOps_plain, step_appendT]; simp only [bnd3_bnd, bnd3_some]
  congr 1; funext v; congr 1; funext u; congr 1; funext xs
  cases growT h T sz v xs <;> (exact rfl)
theorem step_append (sz s x) : step orc base draw (.append sz s x) e h = (ev e s).bnd fun v => (ev e x).bnd fun u => (elems h u).bnd fun xs => appB xs sz v e h := (rfl)
theorem X_fieldA (d off x r) : execOps orc base draw (⟨d, none, .fieldA off x⟩ :: r) e h = (ev e x).bnd fun v => (fieldAB v off).bnd fun r' => execOps orc base draw r (putD e d r') h := by
  rw [execOps_plain, step_fieldA]; simp only [bnd3_bnd, bnd3_some]
theorem X_nilck (d x r) : execOps orc base draw (⟨d, none, .nilck x⟩ :: r) e h = (ev e x).bnd fun v => (isNil v).bnd fun b => whenB b none (execOps orc base draw r (putD e d v) h) := by
  rw [execOps_plain, step_nilck]; simp only [bnd3_bnd, bnd3_some, bnd3_ite, bnd3_none]; exact rfl
theorem X_bin (d op x y r) : execOps orc base draw (⟨d, none, .bin op x y⟩ :: r) e h = (ev e x).bnd fun a => (ev e y).bnd fun b => (binOp op a b).bnd fun r' => execOps orc base draw r (putD e d r') h := by
  rw [execOps_plain, step_bin]; simp only [bnd3_bnd, bnd3_some]
theorem X_binB (d neg x y r) : execOps orc base draw (⟨d, none, .binB neg x y⟩ :: r) e h = (ev e x).bnd fun a => (ev e y).bnd fun b => (boolB neg a b).bnd fun r' => execOps orc base draw r (putD e d r') h := by
  rw [execOps_plain, step_binB]; simp only [bnd3_bnd, bnd3_some]
theorem X_isnil (d kd neg x r) : execOps orc base draw (⟨d, none, .isnil kd neg x⟩ :: r) e h = (ev e x).bnd fun v => (nilK kd v).bnd fun b => execOps orc base draw r (putD e d (.bool (if neg then !b else b))) h := by
  rw [execOps_plain, step_isnil]; simp only [bnd3_bnd, bnd3_some]
theorem X_un (d op x r) : execOps orc base draw (⟨d, none, .un op x⟩ :: r) e h = (ev e x).bnd fun a => (unOp op a).bnd fun r' => execOps orc base draw r (putD e d r') h := by
  rw [execOps_plain, step_un]; simp only [bnd3_bnd, bnd3_some]
theorem X_toInt (d k x r) : execOps orc base draw (⟨d, none, .toInt k x⟩ :: r) e h = (ev e x).bnd fun v => (toIntB v k).bnd fun r' => execOps orc base draw r (putD e d r') h := by
  rw [execOps_plain, step_toInt]; simp only [bnd3_bnd, bnd3_some]
theorem X_extract (d x i r) : execOps orc base draw (⟨d, none, .extract x i⟩ :: r) e h = (ev e x).bnd fun v => (extractB v i).bnd fun r' => execOps orc base draw r (putD e d r') h := by
  rw [execOps_plain, step_extract]; simp only [bnd3_bnd, bnd3_some]
theorem X_field (d off n agg x r) : execOps orc base draw (⟨d, none, .field off n agg x⟩ :: r) e h = (ev e x).bnd fun v => (fieldB v off n agg).bnd fun r' => execOps orc base draw r (putD e d r') h := by
  rw [execOps_plain, step_field]; simp only [bnd3_bnd, bnd3_some]
theorem X_len (d str x r) : execOps orc base draw (⟨d, none, .len str x⟩ :: r) e h = (ev e x).bnd fun v => (lenB str v).bnd fun r' => execOps orc base draw r (putD e d r') h := by
  rw [execOps_plain, step_len]; simp only [bnd3_bnd, bnd3_some]
theorem X_idxA (d sz x i r) : execOps orc base draw (⟨d, none, .idxA sz x i⟩ :: r) e h = (ev e x).bnd fun v => (ev e i).bnd fun i => (idxAB v i sz).bnd fun r' => execOps orc base draw r (putD e d r') h := by
  rw [execOps_plain, step_idxA]; simp only [bnd3_bnd, bnd3_some]
theorem X_idxStr (d x i r) : execOps orc base draw (⟨d, none, .idxStr x i⟩ :: r) e h = (ev e x).bnd fun v => (ev e i).bnd fun i => (idxStrB v i).bnd fun r' => execOps orc base draw r (putD e d r') h := by
  rw [execOps_plain, step_idxStr]; simp only [bnd3_bnd, bnd3_some]
theorem X_alloc (d z r) : execOps orc base draw (⟨d, none, .alloc z⟩ :: r) e h = execOps orc base draw r (putD e d (.ptr (size h) 0)) (ext h [.cells z]) := by
  rw [execOps_plain, step_alloc, bnd3_some]
theorem X_load (d n agg a r) : execOps orc base draw (⟨d, none, .load n agg a⟩ :: r) e h = (ev e a).bnd fun v => bnd3 (loadB v e h n agg) fun v e h => execOps orc base draw r (putD e d v) h := by
  rw [execOps_plain, step_load]; simp only [bnd3_bnd, bnd3_some]
def loadNB (q v : PV) (e : Env) (h : Hp) (n : Nat) (agg : Bool) : Option (PV × Env × Hp) := match q, v with
  | .ptr c _, .ptr b off => if b = c then none else loadB (.ptr b off) e h n agg
  | .ptr _ _, .ep cs off => loadB (.ep cs off) e h n agg
  | _, _ => none
def storeNB (q v u : PV) (base : Nat) (e : Env) (h : Hp) (n : Nat) : Option (PV × Env × Hp) := match q, v with
  | .ptr c _, .ptr b off => if b = c then storeB (.ptr b off) u base e h n else none
  | _, _ => none
theorem loadNB_ptr (c o b off e h n g) : loadNB (.ptr c o) (.ptr b off) e h n g = if b = c then none else loadB (.ptr b off) e h n g := (rfl)
theorem loadNB_ep (c o cs off e h n g) : loadNB (.ptr c o) (.ep cs off) e h n g = loadB (.ep cs off) e h n g := (rfl)
theorem storeNB_ptr (c o b off u base e h n) : storeNB (.ptr c o) (.ptr b off) u base e h n = if b = c then storeB (.ptr b off) u base e h n else none := (rfl)
theorem X_loadN (d t n agg a r) : execOps orc base draw (⟨d, none, .loadN t n agg a⟩ :: r) e h = (look e t).bnd fun q => (ev e a).bnd fun v => bnd3 (loadNB q v e h n agg) fun v e h => execOps orc base draw r (putD e d v) h := by
  rw [execOps_plain]
  show bnd3 (Option.bnd _ _) _ = _
  simp only [bnd3_bnd]; rfl
theorem X_storeN (d t n a x r) : execOps orc base draw (⟨d, none, .storeN t n a x⟩ :: r) e h = (look e t).bnd fun q => (ev e a).bnd fun v => (ev e x).bnd fun u => bnd3 (storeNB q v u base e h n) fun v e h => execOps orc base draw r (putD e d v) h := by
  rw [execOps_plain]
  show bnd3 (Option.bnd _ _) _ = _
  simp only [bnd3_bnd]; rfl
theorem X_store (d n a x r) : execOps orc base draw (⟨d, none, .store n a x⟩ :: r) e h = (ev e a).bnd fun v => (ev e x).bnd fun u => bnd3 (storeB v u base e h n) fun v e h => execOps orc base draw r (putD e d v) h := by
  rw [execOps_plain, step_store]; simp only [bnd3_bnd, bnd3_some]
theorem X_box (d n x r) : execOps orc base draw (⟨d, none, .box n x⟩ :: r) e h = (ev e x).bnd fun v => bnd3 (if v.cells.length = n ∧ v.cells.all scalar = true then some (.ptr (size h) 0, e, ext h [.cells v.cells]) else none) fun v e h => execOps orc base draw r (putD e d v) h := by
  rw [execOps_plain, step_box]; simp only [bnd3_bnd, bnd3_some]
theorem X_pick (d c a b r) : execOps orc base draw (⟨d, none, .pick c a b⟩ :: r) e h = (ev e c).bnd fun v => bnd3 (condB v ((ev e a).bnd fun v => some (v, e, h)) ((ev e b).bnd fun v => some (v, e, h))) fun v e h => execOps orc base draw r (putD e d v) h := by
  rw [execOps_plain, step_pick]; simp only [bnd3_bnd, bnd3_some]
theorem X_minmax (d mx xs r) : execOps orc base draw (⟨d, none, .minmax mx xs⟩ :: r) e h = (evs e xs).bnd fun vs => bnd3 (match vs with | [] => none | x :: r => (minMax mx x r).bnd fun r => some (r, e, h)) fun v e h => execOps orc base draw r (putD e d v) h := by
  rw [execOps_plain, step_minmax]; simp only [bnd3_bnd, bnd3_some]
theorem X_mkif (d t x r) : execOps orc base draw (⟨d, none, .mkif t x⟩ :: r) e h = (ev e x).bnd fun v => execOps orc base draw r (putD e d (.iface t v)) h := by
  rw [execOps_plain, step_mkif]; simp only [bnd3_bnd, bnd3_some]
theorem X_slice (d n x lo hi mx r) : execOps orc base draw (⟨d, none, .slice n x lo hi mx⟩ :: r) e h = (ev e x).bnd fun v => (sliceOf e n lo hi mx v).bnd fun r' => execOps orc base draw r (putD e d r') h := by
  rw [execOps_plain, step_slice]; simp only [bnd3_bnd, bnd3_some]
theorem X_build (d z ps r) : execOps orc base draw (⟨d, none, .build z ps⟩ :: r) e h = (evParts3 e ps).bnd fun l => (buildAgg l z).bnd fun cs => execOps orc base draw r (putD e d (.agg cs)) h := by
  rw [execOps_plain, step_build]; simp only [bnd3_bnd, bnd3_some]
theorem X_buildSl (d sz agg z len ps r) : execOps orc base draw (⟨d, none, .buildSl sz agg z len ps⟩ :: r) e h = (evParts e ps).bnd fun l => (fillParts sz l (List.replicate len (if agg then .agg z else z.headD .undef))).bnd fun es => execOps orc base draw r (putD e d (.sl .full sz es)) h := by
  rw [execOps_plain, step_buildSl]; simp only [bnd3_bnd, bnd3_some]
theorem X_append (d sz s x r) : execOps orc base draw (⟨d, none, .append sz s x⟩ :: r) e h = (ev e s).bnd fun v => (ev e x).bnd fun u => (elems h u).bnd fun xs => bnd3 (appB xs sz v e h) fun v e h => execOps orc base draw r (putD e d v) h := by
  rw [execOps_plain, step_append]; simp only [bnd3_bnd, bnd3_some]
end steps

theorem binOp_int (op k a j b) : binOp op (.int k a) (.int j b) = if isShift op then shiftOp op k a b else if k = j then intOp op k a b else none := (rfl)
theorem binOp_str (op a b) : binOp op (.str a) (.str b) = strOp op a b := (rfl)
theorem nilK_00 : nilK 0 .nilp = some true := (rfl)
theorem nilK_0b (t) : nilK 0 (.bnil t) = some true := (rfl)
theorem nilK_01 (b o) : nilK 0 (.ptr b o) = some false := (rfl)
theorem nilK_10 : nilK 1 .nils = some true := (rfl)
theorem nilK_11 (a b c) : nilK 1 (.sl a b c) = some false := (rfl)
theorem nilK_12 (f a b c d) : nilK 1 (.bsl f a b c d) = some false := (rfl)
theorem nilK_20 : nilK 2 .nilif = some true := (rfl)
theorem nilK_21 (a b) : nilK 2 (.iface a b) = some false := (rfl)
theorem nilK_30 : nilK 3 .nilf = some true := (rfl)
theorem nilK_31 (a b) : nilK 3 (.fn a b) = some false := (rfl)
theorem scalar_bool (b) : scalar (.bool b) = true := (rfl)
theorem scalar_int (k n) : scalar (.int k n) = true := (rfl)
theorem scalar_str (s) : scalar (.str s) = true := (rfl)
theorem scalar_nilp : scalar .nilp = true := (rfl)
theorem scalar_bnil (t) : scalar (.bnil t) = false := (rfl)
theorem scalar_ptr (b o) : scalar (.ptr b o) = true := (rfl)
theorem scalar_nils : scalar .nils = true := (rfl)
theorem scalar_sl (b o c) : scalar (.sl b o c) = true := (rfl)
theorem scalar_bsl (f a b c d) : scalar (.bsl f a b c d) = true := (rfl)
theorem scalar_nilif : scalar .nilif = true := (rfl)
theorem scalar_iface (b o) : scalar (.iface b o) = true := (rfl)
theorem scalar_nilf : scalar .nilf = true := (rfl)
theorem scalar_fn (b o) : scalar (.fn b o) = true := (rfl)
theorem isShift_add : isShift .add = false := (rfl)
theorem isShift_sub : isShift .sub = false := (rfl)
theorem isShift_mul : isShift .mul = false := (rfl)
theorem isShift_quo : isShift .quo = false := (rfl)
theorem isShift_rem : isShift .rem = false := (rfl)
theorem isShift_and : isShift .and = false := (rfl)
theorem isShift_or : isShift .or = false := (rfl)
theorem isShift_xor : isShift .xor = false := (rfl)
theorem isShift_andNot : isShift .andNot = false := (rfl)
theorem isShift_eql : isShift .eql = false := (rfl)
theorem isShift_neq : isShift .neq = false := (rfl)
theorem isShift_lss : isShift .lss = false := (rfl)
theorem isShift_leq : isShift .leq = false := (rfl)
theorem isShift_gtr : isShift .gtr = false := (rfl)
theorem isShift_geq : isShift .geq = false := (rfl)
theorem isShift_shl : isShift .shl = true := (rfl)
theorem isShift_shr : isShift .shr = true := (rfl)
theorem unOp_not (b) : unOp .not (.bool b) = some (.bool (!b)) := (rfl)
theorem unOp_neg (k n) : unOp .neg (.int k n) = some (.int k (k.wrap (0 - n))) := (rfl)
theorem part_agg (cs off n) : part cs off n true = if off + n ≤ cs.length then some (.agg ((cs.drop off).take n)) else none := (rfl)
theorem part_one (cs off n) : part cs off n false = cs[off]? := (rfl)
theorem minMax_nil (m x) : minMax m x [] = some x := (rfl)
theorem minMax_cons (m x y r) : minMax m x (y :: r) = (minMax2 m x y).bnd fun z => minMax m z r := (rfl)
theorem minMax2_max (k x j y) : minMax2 true (.int k x) (.int j y) = some (.int k (if y > x then y else x)) := (rfl)
theorem minMax2_min (k x j y) : minMax2 false (.int k x) (.int j y) = some (.int k (if y < x then y else x)) := (rfl)
theorem ix_int (k i n) : ix (.int k i) n = if 0 ≤ i ∧ i < n then some i.toNat else none := (rfl)

/-! ### No pointers -/
theorem belows_nil (n) : belows n [] = true := (rfl)
theorem belows_cons (n v vs) : belows n (v :: vs) = (below n v && belows n vs) := (rfl)
theorem below_undef (n) : below n .undef = true := (rfl)
theorem below_bool (n b) : below n (.bool b) = true := (rfl)
theorem below_int (n k i) : below n (.int k i) = true := (rfl)
theorem below_str (n s) : below n (.str s) = true := (rfl)
theorem below_nilp (n) : below n .nilp = true := (rfl)
theorem below_bnil (n t) : below n (.bnil t) = true := (rfl)
theorem below_nils (n) : below n .nils = true := (rfl)
theorem below_nilif (n) : below n .nilif = true := (rfl)
theorem below_nilf (n) : below n .nilf = true := (rfl)
theorem below_ptr (n b o) : below n (.ptr b o) = decide (b < n) := (rfl)
theorem below_sl (n o z es) : below n (.sl o z es) = (o.below n && belows n es) := (rfl)
theorem below_bsl (n f b c d z) : below n (.bsl f b c d z) = decide (b < n) := (rfl)
theorem below_fn (n f c) : below n (.fn f c) = belows n c := (rfl)
theorem below_ep (n c o) : below n (.ep c o) = belows n c := (rfl)
theorem below_iface (n t v) : below n (.iface t v) = below n v := (rfl)
theorem below_agg (n cs) : below n (.agg cs) = belows n cs := (rfl)
theorem below_tup (n cs) : below n (.tup cs) = belows n cs := (rfl)
theorem belows_map {α : Type} {n : Nat} {f : α → PV} (hf : ∀ x, below n (f x) = true) : ∀ xs : List α, belows n (xs.map f) = true
  | [] => rfl
  | x :: xs => by simp [belows, hf x, belows_map hf xs]


/-! ### Functions of the machine, said as equations that simp keeps a proof of -/
theorem intOp_add (k a b) : intOp .add k a b = some (.int k (k.wrap (a + b))) := (rfl)
theorem intOp_sub (k a b) : intOp .sub k a b = some (.int k (k.wrap (a - b))) := (rfl)
theorem intOp_mul (k a b) : intOp .mul k a b = some (.int k (k.wrap (a * b))) := (rfl)
theorem intOp_quo (k a b) : intOp .quo k a b = if b = 0 then none else some (.int k (k.wrap (a.tdiv b))) := (rfl)
theorem intOp_rem (k a b) : intOp .rem k a b = if b = 0 then none else some (.int k (a.tmod b)) := (rfl)
theorem intOp_eql (k a b) : intOp .eql k a b = some (.bool (a == b)) := (rfl)
theorem intOp_neq (k a b) : intOp .neq k a b = some (.bool (a != b)) := (rfl)
theorem intOp_lss (k a b) : intOp .lss k a b = some (.bool (decide (a < b))) := (rfl)
theorem intOp_leq (k a b) : intOp .leq k a b = some (.bool (decide (a ≤ b))) := (rfl)
theorem intOp_gtr (k a b) : intOp .gtr k a b = some (.bool (decide (a > b))) := (rfl)
theorem intOp_geq (k a b) : intOp .geq k a b = some (.bool (decide (a ≥ b))) := (rfl)
theorem strOp_eql (x y) : strOp .eql x y = some (.bool (x == y)) := (rfl)
theorem strOp_neq (x y) : strOp .neq x y = some (.bool (x != y)) := (rfl)
theorem strOp_add (x y) : strOp .add x y = if x.length + y.length ≤ limS then some (.str (x ++ y)) else none := (rfl)
theorem resultOf_tmp (e h t) : resultOf e h (t, none) = look e t := (rfl)
def resB (v : PV) (h : Hp) (n : Nat) (agg : Bool) : Option PV := match v with
    | .ptr b off => (getBox h b).bnd fun cs => part cs off n agg
    | _ => none
theorem resB_ptr (b off h n agg) : resB (.ptr b off) h n agg = (getBox h b).bnd fun cs => part cs off n agg := (rfl)
theorem resultOf_cell (e h t n agg) : resultOf e h (t, some (n, agg)) = (look e t).bnd fun v => resB v h n agg := (rfl)
theorem resultsOf_nil (e h) : resultsOf e h [] = some [] := (rfl)
theorem resultsOf_cons (e h t ts) : resultsOf e h (t :: ts) = (resultOf e h t).bnd fun v => (resultsOf e h ts).bnd fun vs => some (v :: vs) := (rfl)
theorem result1_one (v) : result1 [v] = v := (rfl)
theorem result1_nil : result1 [] = .tup [] := (rfl)
theorem result1_two (v w vs) : result1 (v :: w :: vs) = .tup (v :: w :: vs) := (rfl)
theorem finish_code (rs body h0 e h) : finish ⟨rs, body, false, false⟩ h0 e h = (resultsOf e h rs).bnd fun vs => (frzs h0 h vs).bnd fun vs => if belows h0 vs = true then some (result1 vs, trunc h h0) else none := (rfl)
theorem finish_own (rs body h0 e h) : finish ⟨rs, body, false, true⟩ h0 e h = (resultsOf e h rs).bnd fun vs => bnd2 (ownEnd h0 h vs) fun vs h => some (result1 vs, h) := by
  show Option.bnd _ _ = Option.bnd _ _
  congr 1; funext vs
  show Option.bnd _ _ = _
  cases ownEnd h0 h vs <;> (exact rfl)
theorem finish_keep (rs body own h0 e h) : finish ⟨rs, body, true, own⟩ h0 e h = (resultsOf e h rs).bnd fun vs => some (result1 vs, h) := (rfl)
theorem frzs_nil (n h) : frzs n h [] = some [] := (rfl)
theorem frzs_cons (n h v vs) : frzs n h (v :: vs) = (frz n h v).bnd fun v => (frzs n h vs).bnd fun vs => some (v :: vs) := (rfl)
theorem frz_sl (n h o z es) : frz n h (.sl o z es) = some (.sl o.strip z es) := (rfl)
theorem frz_bsl (n h f b off len sz) : frz n h (.bsl f b off len sz) = if b < n then some (.bsl f b off len sz) else
      (getBox h b).bnd fun cs => (elemsOf sz len (cs.drop off)).bnd fun es => some (.sl (if f then .full else .no) sz es) := (rfl)
theorem frz_agg (n h cs) : frz n h (.agg cs) = (frzs n h cs).bnd fun cs => some (.agg cs) := (rfl)
theorem frz_tup (n h cs) : frz n h (.tup cs) = (frzs n h cs).bnd fun cs => some (.tup cs) := (rfl)
theorem frz_iface (n h t v) : frz n h (.iface t v) = (frz n h v).bnd fun v => some (.iface t v) := (rfl)
theorem frz_undef (n h) : frz n h .undef = some .undef := (rfl)
theorem frz_bool (n h b) : frz n h (.bool b) = some (.bool b) := (rfl)
theorem frz_int (n h k i) : frz n h (.int k i) = some (.int k i) := (rfl)
theorem frz_str (n h s) : frz n h (.str s) = some (.str s) := (rfl)
theorem frz_nilp (n h) : frz n h .nilp = some .nilp := (rfl)
theorem frz_bnil (n h t) : frz n h (.bnil t) = some (.bnil t) := (rfl)
theorem frz_ptr (n h b o) : frz n h (.ptr b o) = some (.ptr b o) := (rfl)
theorem frz_ep (n h b o) : frz n h (.ep b o) = some (.ep b o) := (rfl)
theorem frz_nils (n h) : frz n h .nils = some .nils := (rfl)
theorem frz_nilif (n h) : frz n h .nilif = some .nilif := (rfl)
theorem frz_nilf (n h) : frz n h .nilf = some .nilf := (rfl)
theorem frz_fn (n h f c) : frz n h (.fn f c) = some (.fn f c) := (rfl)
theorem frz_ptr_it (n h b) : frz n h (.it b) = some (.it b) := (rfl)
theorem ownEnd_tok (h0 h t sz es vs) : ownEnd h0 h (.sl (.tok t) sz es :: vs) = if belows h0 es = true ∧ belows h0 vs = true then
      (if t < h0 then some (.sl (.tok t) sz es :: vs, trunc h h0) else (getTok h t).bnd fun n => some (.sl (.tok h0) sz es :: vs, ext (trunc h h0) [.tok n.1 n.2])) else none := (rfl)
theorem ownEnd_bsl (h0 h f b off len sz vs) : ownEnd h0 h (.bsl f b off len sz :: vs) = if b < h0 then (if belows h0 vs = true then some (.bsl f b off len sz :: vs, trunc h h0) else none) else
      (getBox h b).bnd fun cs => if belows h0 vs = true ∧ belows h0 cs = true then some (.bsl f h0 off len sz :: vs, ext (trunc h h0) [.cells cs]) else none := (rfl)
theorem ownEnd_nils (h0 h vs) : ownEnd h0 h (.nils :: vs) = (frzs h0 h (.nils :: vs)).bnd fun vs => if belows h0 vs = true then some (vs, trunc h h0) else none := (rfl)
theorem ownEnd_no (h0 h sz es vs) : ownEnd h0 h (.sl .no sz es :: vs) = (frzs h0 h (.sl .no sz es :: vs)).bnd fun vs => if belows h0 vs = true then some (vs, trunc h h0) else none := (rfl)
theorem ownEnd_full (h0 h sz es vs) : ownEnd h0 h (.sl .full sz es :: vs) = (frzs h0 h (.sl .full sz es :: vs)).bnd fun vs => if belows h0 vs = true then some (vs, trunc h h0) else none := (rfl)
theorem elemsOf_one (len cs) : elemsOf 1 len cs = if len ≤ cs.length ∧ (cs.take len).all scalar = true then some (strips (cs.take len)) else none := (rfl)
theorem setRange_nil (cs off) : setRange cs off [] = cs := (rfl)
theorem setRange_cons (cs off v vs) : setRange cs off (v :: vs) = setRange (cs.set off v) (off + 1) vs := (rfl)

section run
variable {T : Table} {base : Nat} {e : Env} {h : Hp}
theorem R_ops {l : List AOper} {draw : Bool} {keep : List Nat} :
    ExecA T (.ops l draw keep) base e h = bnd2 (execOps (CallA T base) base draw l e h) fun e h => some (.norm, prune keep e, h) := by
  rw [ExecA_ops]; cases execOps (CallA T base) base draw l e h <;> (exact rfl)
def seqB {α : Type} (x : AEx) (e : Env) (h : Hp) (k : Env → Hp → Option (AEx × Env × Hp)) : Option (AEx × Env × Hp) := match x with
  | .norm => k e h
  | x => some (x, e, h)
def bndX {α : Type} (x : Option (AEx × Env × Hp)) (k : AEx → Env → Hp → Option α) : Option α := match x with
  | some (x, e, h) => k x e h
  | none => none
@[congr] theorem bndX_congr {α : Type} {x y : Option (AEx × Env × Hp)} {k : AEx → Env → Hp → Option α} (h : x = y) : bndX x k = bndX y k := by rw [h]
theorem bndX_some {α : Type} (v e h) (k : AEx → Env → Hp → Option α) : bndX (some (v, e, h)) k = k v e h := (rfl)
theorem bndX_none {α : Type} (k : AEx → Env → Hp → Option α) : bndX none k = none := (rfl)
theorem bndX_ite {α : Type} {c : Prop} [Decidable c] (x y) (k : AEx → Env → Hp → Option α) : bndX (if c then x else y) k = if c then bndX x k else bndX y k := by split <;> (exact rfl)
def onNorm {α : Type} (x : AEx) (a b : Option α) : Option α := match x with
  | .norm => a
  | _ => b
@[congr] theorem onNorm_congr {α : Type} {x y : AEx} {a b : Option α} (h : x = y) : onNorm x a b = onNorm y a b := by rw [h]
theorem onNorm_norm {α : Type} (a b : Option α) : onNorm .norm a b = a := (rfl)
theorem onNorm_ret {α : Type} (a b : Option α) : onNorm .ret a b = b := (rfl)
theorem onNorm_exit {α : Type} (i) (a b : Option α) : onNorm (.exit i) a b = b := (rfl)
theorem R_seq {a b : ACode} : ExecA T (.seq a b) base e h = bndX (ExecA T a base e h) fun x e h => onNorm x (ExecA T b base e h) (some (x, e, h)) := by
  rw [ExecA_seq]
  cases ExecA T a base e h with
  | none => exact rfl
  | some x => obtain ⟨x, e', h'⟩ := x; cases x <;> (exact rfl)
theorem R_loop {a : ACode} : ExecA T (.loop a) base e h = bndX (ExecA T a base e h) fun x e h => onNorm x (ExecA T (.loop a) base e h) (some (x, e, h)) := by
  rw [ExecA_loop]
  cases ExecA T a base e h with
  | none => exact rfl
  | some x => obtain ⟨x, e', h'⟩ := x; cases x <;> (exact rfl)
def onExit {α : Type} (id : Nat) (x : AEx) (a b : Option α) : Option α := match x with
  | .exit i => if i = id then a else b
  | _ => b
@[congr] theorem onExit_congr {α : Type} {id : Nat} {x y : AEx} {a b : Option α} (h : x = y) : onExit id x a b = onExit id y a b := by rw [h]
theorem onExit_norm {α : Type} (id) (a b : Option α) : onExit id .norm a b = b := (rfl)
theorem onExit_ret {α : Type} (id) (a b : Option α) : onExit id .ret a b = b := (rfl)
theorem onExit_exit {α : Type} (id i) (a b : Option α) : onExit id (.exit i) a b = if i = id then a else b := (rfl)
theorem R_block {id : Nat} {a : ACode} : ExecA T (.block id a) base e h = bndX (ExecA T a base e h) fun x e h => onExit id x (some (.norm, e, h)) (some (x, e, h)) := by
  rw [ExecA_block]
  cases ExecA T a base e h with
  | none => exact rfl
  | some x =>
    obtain ⟨x, e', h'⟩ := x
    cases x with
    | exit i => simp only [Option.bnd_some, bndX_some, onExit_exit]
    | _ => exact rfl
def onEnd {α : Type} (x : AEx) (a : Option α) : Option α := match x with
  | .exit _ => none
  | _ => a
theorem onEnd_norm {α : Type} (a : Option α) : onEnd .norm a = a := (rfl)
theorem onEnd_ret {α : Type} (a : Option α) : onEnd .ret a = a := (rfl)
@[congr] theorem onEnd_congr {α : Type} {x y : AEx} {a : Option α} (h : x = y) : onEnd x a = onEnd y a := by rw [h]
theorem R_call {f : Nat} {rs : List (Nat × Option (Nat × Bool))} {body : ACode} {own : Bool} {a : List PV} (hT : T f = some (.code ⟨rs, body, false, own⟩)) :
    CallA T base f a h = bndX (ExecA T body (size h) (params 0 a) h) fun x e h' => onEnd x (finish ⟨rs, body, false, own⟩ (size h) e h') := by
  rw [CallA_code hT]
  show Option.bnd (ExecA T body (size h) (params 0 a) h) _ = _
  cases ExecA T body (size h) (params 0 a) h with
  | none => exact rfl
  | some x => obtain ⟨x, e', h'⟩ := x; cases x <;> (exact rfl)
theorem R_callK {f : Nat} {rs : List (Nat × Option (Nat × Bool))} {body : ACode} {own : Bool} {a : List PV} (hT : T f = some (.code ⟨rs, body, true, own⟩)) :
    CallA T base f a h = bndX (ExecA T body base (params 0 a) h) fun x e h' => onEnd x (finish ⟨rs, body, true, own⟩ (size h) e h') := by
  rw [CallA_code hT]
  show Option.bnd (ExecA T body base (params 0 a) h) _ = _
  cases ExecA T body base (params 0 a) h with
  | none => exact rfl
  | some x => obtain ⟨x, e', h'⟩ := x; cases x <;> (exact rfl)
end run
end Go.Am
