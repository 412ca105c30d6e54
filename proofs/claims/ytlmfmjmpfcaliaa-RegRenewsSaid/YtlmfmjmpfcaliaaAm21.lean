/- More evaluating equations. By the session's AI agent. -/
import Derived.Test.YtlmfmjmpfcaliaaAm4
import Derived.IntWalk
namespace Go.Am
theorem evParts_nil (e : Env) : evParts e [] = some [] := (rfl)
theorem evParts_cons (e : Env) (i x r) : evParts e ((i, x) :: r) = (ev e x).bnd fun v => (evParts e r).bnd fun l => some ((i, strip v) :: l) := by
  show Option.bnd _ _ = _
  congr 1; funext v; cases evParts e r <;> rfl
theorem evParts3_nil (e : Env) : evParts3 e [] = some [] := (rfl)
theorem evParts3_cons (e : Env) (i n x r) : evParts3 e ((i, n, x) :: r) = (ev e x).bnd fun v => (evParts3 e r).bnd fun l => some ((i, n, strip v) :: l) := by
  show Option.bnd _ _ = _
  congr 1; funext v; cases evParts3 e r <;> rfl
theorem fillParts_nil (sz cs) : fillParts sz [] cs = some cs := (rfl)
theorem fillParts_cons (sz i v r cs) : fillParts sz ((i, v) :: r) cs = if v.cells.length = sz ∧ i < cs.length ∧ v.cells.all scalar = true then fillParts sz r (cs.set i v) else none := (rfl)
theorem buildAgg_nil (cs) : buildAgg [] cs = some cs := (rfl)
theorem buildAgg_cons (off n v r cs) : buildAgg ((off, n, v) :: r) cs = if v.cells.length = n ∧ off + n ≤ cs.length ∧ v.cells.all scalar = true then buildAgg r (setRange cs off v.cells) else none := (rfl)
theorem elems_nils (h) : elems h .nils = some [] := (rfl)
theorem elems_sl (h o sz es) : elems h (.sl o sz es) = some es := (rfl)
theorem elems_bsl (h b off len) : elems h (.bsl b off len 1) = (getBox h b).bnd fun cs => if off + len ≤ cs.length ∧ ((cs.drop off).take len).all scalar = true then some (((cs.drop off).take len).map strip) else none := (rfl)
theorem appB_full (xs : List PV) (sz es e h) (hx : xs.all (fun x => x.cells.length == sz) = true) (hl : es.length + xs.length ≤ lim2) :
    appB xs sz (.sl .full sz es) e h = some (if xs.isEmpty then .sl .full sz es else .sl .tail sz (es ++ xs.map strip), e, h) := by
  simp [appB, hx, hl]
theorem strip_own (o sz es) : strip (.sl o sz es) = .sl (if o = .tail then .no else o) sz es := by cases o <;> rfl
theorem strip_ifsl {c : Prop} [Decidable c] (x y : PV) : strip (if c then x else y) = if c then strip x else strip y := by split <;> rfl

/-! Frames of which not all is known. -/
def orr : Option PV → Option PV → Option PV
  | some v, _ => some v
  | none, o => o
theorem orr_some (v o) : orr (some v) o = some v := (rfl)
theorem orr_none (o) : orr none o = o := (rfl)
theorem orr_right (o) : orr o none = o := by cases o <;> rfl
theorem look_pruneC (t o r s) : look (pruneC t o r) s = if t = s then orr o (look r s) else look r s := by
  cases o with
  | none => show look r s = _; split <;> rfl
  | some v => rfl
theorem ix_nat (k : IntKind) (i n : Nat) (h : i < n) : ix (.int k i) n = some i := by
  simp [ix, h]
theorem getElem_append_mid {α : Type} (a : List α) (x : α) (r : List α) : (a ++ x :: r)[a.length]? = some x := by simp
theorem wrap_small {n : Int} (h0 : -9223372036854775808 ≤ n) (h1 : n ≤ 9223372036854775807) : IntKind.i64.wrap n = n := by rw [IntKind.wrap_i64]; omega

/-! Answers of which a law alone is known. -/
def Ans {α : Type} (x : Option α) (Q : α → Prop) : Prop := ∃ a, x = some a ∧ Q a
theorem Ans.some {α : Type} {a : α} {Q : α → Prop} (h : Q a) : Ans (some a) Q := ⟨a, rfl, h⟩
theorem Ans.of {α : Type} {x : Option α} {a : α} {Q : α → Prop} (hx : x = Option.some a) (h : Q a) : Ans x Q := ⟨a, hx, h⟩
theorem Ans.mono {α : Type} {x : Option α} {P Q : α → Prop} (h : Ans x P) (hPQ : ∀ a, P a → Q a) : Ans x Q := by
  obtain ⟨a, h1, h2⟩ := h
  exact ⟨a, h1, hPQ a h2⟩
theorem Ans.bndX {α : Type} {X : Option (AEx × Env × Hp)} {K : AEx → Env → Hp → Option α} {P : AEx × Env × Hp → Prop} {Q : α → Prop} (hX : Ans X P) (hK : ∀ x e h, P (x, e, h) → Ans (K x e h) Q) : Ans (bndX X K) Q := by
  obtain ⟨⟨x, e, h⟩, rfl, hp⟩ := hX
  exact hK x e h hp
theorem bndX_assoc {α : Type} (X : Option (AEx × Env × Hp)) (f : AEx → Env → Hp → Option (AEx × Env × Hp)) (g : AEx → Env → Hp → Option α) : bndX (bndX X f) g = bndX X fun x e h => bndX (f x e h) g := by
  cases X with
  | none => rfl
  | some r => rfl
theorem Ans.ite {α : Type} {c : Prop} [Decidable c] {x y : Option α} {Q : α → Prop} (hx : c → Ans x Q) (hy : ¬ c → Ans y Q) : Ans (if c then x else y) Q := by
  split
  · rename_i hc; exact hx hc
  · rename_i hc; exact hy hc
theorem Ans.eq {α : Type} {x y : Option α} {Q : α → Prop} (h : x = y) (hy : Ans y Q) : Ans x Q := h ▸ hy
theorem R_loop_of {T : Table} {a b : ACode} {base : Nat} {e : Env} {h : Hp} (hab : a = b) : ExecA T (.loop a) base e h = Go.Am.bndX (ExecA T b base e h) fun x e h => onNorm x (ExecA T (.loop a) base e h) (Option.some (x, e, h)) := by
  subst hab; exact R_loop

/-! A box beneath, with the frame's own on top. -/
theorem getBox_exs_0 {h : Hp} {b : Nat} {c x : Box} {l : List Box} : getBox (ext (setBox h b c) (x :: l)) (size h) = some x := by simp [getBox, ext, setBox, size]
theorem getBox_exs_n {h : Hp} {b n : Nat} {c : Box} {l : List Box} : getBox (ext (setBox h b c) l) (size h + n) = l[n]? := by simp [getBox, ext, setBox, size, List.getElem?_append]; omega
theorem setBox_exs_0 {h : Hp} {b : Nat} {c x y : Box} {l : List Box} : setBox (ext (setBox h b c) (x :: l)) (size h) y = ext (setBox h b c) (y :: l) := by simp [ext, setBox, size]
theorem setBox_exs_n {h : Hp} {b n : Nat} {c y : Box} {l : List Box} : setBox (ext (setBox h b c) l) (size h + n) y = ext (setBox h b c) (l.set n y) := by simp [ext, setBox, size]
theorem trunc_exs {h : Hp} {b : Nat} {c : Box} {l : List Box} : trunc (ext (setBox h b c) l) (size h) = setBox h b c := by simp [ext, setBox, size, trunc]

def appBoxB (xs : List PV) (sz : Nat) (v : PV) (e : Env) (h : Hp) : Option (PV × Env × Hp) :=
      if sz = 1 ∧ xs.all (fun x => x.cells.length == sz) = true ∧ 0 < xs.length ∧ xs.length ≤ lim2 ∧ xs.all scalar = true then
      match v with
      | .nils => some (.bsl (size h) 0 xs.length sz, e, ext h [xs.map strip])
      | .sl .full sz' [] => some (.bsl (size h) 0 xs.length sz, e, ext h [xs.map strip])
      | _ => none
      else none
theorem step_appendBox {orc : Nat → List PV → Hp → Option (PV × Hp)} {base : Nat} {draw : Bool} {e : Env} {h : Hp} (sz s x) : step orc base draw (.appendBox sz s x) e h = (ev e s).bnd fun v => (ev e x).bnd fun u => (elems h u).bnd fun xs => appBoxB xs sz v e h := (rfl)
theorem X_appendBox {orc : Nat → List PV → Hp → Option (PV × Hp)} {base : Nat} {draw : Bool} {e : Env} {h : Hp} (d sz s x r) : execOps orc base draw (⟨d, none, .appendBox sz s x⟩ :: r) e h = (ev e s).bnd fun v => (ev e x).bnd fun u => (elems h u).bnd fun xs => bnd3 (appBoxB xs sz v e h) fun v e h => execOps orc base draw r (putD e d v) h := by
  rw [execOps_plain, step_appendBox]; simp only [bnd3_bnd, bnd3_some]
theorem appBoxB_full (xs : List PV) (e h) (h1 : xs.all (fun x => x.cells.length == 1) = true) (h2 : 0 < xs.length) (h3 : xs.length ≤ lim2) (h4 : xs.all scalar = true) :
    appBoxB xs 1 (.sl .full 1 []) e h = some (.bsl (size h) 0 xs.length 1, e, ext h [xs.map strip]) := by
  simp [appBoxB, h1, h2, h3, h4]
end Go.Am
