/- The abstract machine 'Am': pure values, a heap of boxes, no order draws, no capacities. Definitions alone.
   By the session's AI agent. -/
import Derived.Calls
import GoSem.Core.Utf8
namespace Go.Am
set_option linter.unusedVariables false
set_option linter.unusedSimpArgs false

/-- 'bind', at which simp looks at what comes later only when it is due. -/
def _root_.Option.bnd {α β : Type} (x : Option α) (f : α → Option β) : Option β :=
  match x with
  | none => none
  | some a => f a
@[congr] theorem _root_.Option.bnd_congr {α β : Type} {x y : Option α} {f : α → Option β} (h : x = y) : x.bnd f = y.bnd f := by rw [h]
theorem _root_.Option.bnd_some {α β : Type} (a : α) (f : α → Option β) : (some a).bnd f = f a := (rfl)
theorem _root_.Option.bnd_none {α β : Type} (f : α → Option β) : (none : Option α).bnd f = none := (rfl)
theorem _root_.Option.bnd_ite {α β : Type} {c : Prop} [Decidable c] (x y : Option α) (f : α → Option β) : (if c then x else y).bnd f = if c then x.bnd f else y.bnd f := by
  split <;> rfl
theorem _root_.Option.bnd_eq_some_iff {α β : Type} {x : Option α} {f : α → Option β} {b : β} : x.bnd f = some b ↔ ∃ a, x = some a ∧ f a = some b := by
  cases x <;> simp [Option.bnd]

/-- What is known of the room behind a slice: nothing; there is none (capacity = length); a token tells how far it is used. -/
inductive Own where
  | no | full | tok (t : Nat)
  deriving DecidableEq

inductive PV where
  | undef
  | bool (b : Bool)
  | int (k : IntKind) (n : Int)
  | str (s : List UInt8)
  | nilp
  | bnil (T : Nat)
  | ptr (b off : Nat)
  | ep (e : List PV) (off : Nat)
  | nils
  | sl (o : Own) (sz : Nat) (es : List PV)
  | bsl (full : Bool) (b off len sz : Nat)
  | nilif
  | iface (t : Nat) (v : PV)
  | nilf
  | fn (f : Nat) (cap : List PV)
  | agg (cs : List PV)
  | tup (vs : List PV)
  | it (b : Nat)
  deriving Inhabited

mutual
def PV.eqB : PV → PV → Bool
  | .undef, .undef => true
  | .bool a, .bool b => a == b
  | .int k a, .int j b => decide (k = j) && a == b
  | .str a, .str b => a == b
  | .nilp, .nilp => true
  | .bnil a, .bnil b => a == b
  | .ptr a b, .ptr c d => a == c && b == d
  | .ep e o, .ep e' o' => PV.eqBs e e' && o == o'
  | .nils, .nils => true
  | .sl o s es, .sl o' s' es' => decide (o = o') && s == s' && PV.eqBs es es'
  | .bsl f a b c d, .bsl f' a' b' c' d' => f == f' && a == a' && b == b' && c == c' && d == d'
  | .nilif, .nilif => true
  | .iface t v, .iface t' v' => t == t' && PV.eqB v v'
  | .nilf, .nilf => true
  | .fn f c, .fn f' c' => f == f' && PV.eqBs c c'
  | .agg cs, .agg cs' => PV.eqBs cs cs'
  | .tup cs, .tup cs' => PV.eqBs cs cs'
  | .it b, .it c => b == c
  | _, _ => false
def PV.eqBs : List PV → List PV → Bool
  | [], [] => true
  | x :: xs, y :: ys => PV.eqB x y && PV.eqBs xs ys
  | _, _ => false
end

mutual
theorem PV.eqB_iff : ∀ (a b : PV), PV.eqB a b = true ↔ a = b := by
  intro a b
  cases a <;> cases b <;> simp [PV.eqB, PV.eqBs_iff, PV.eqB_iff, and_assoc]
theorem PV.eqBs_iff : ∀ (a b : List PV), PV.eqBs a b = true ↔ a = b := by
  intro a b
  cases a <;> cases b <;> simp [PV.eqBs, PV.eqBs_iff, PV.eqB_iff]
end
instance : DecidableEq PV := fun a b => decidable_of_iff _ (PV.eqB_iff a b)

/-- Cells; a token: how far a block is used; a round through a text. -/
inductive Box where
  | cells (cs : List PV)
  | tok (n T : Nat)
  | iter (s : List UInt8) (pos : Nat)
  deriving DecidableEq, Inhabited
abbrev Hp := List Box
abbrev Env := List (Nat × PV)

def size (h : Hp) : Nat := h.length
def cellsOf : Box → Option (List PV)
  | .cells cs => some cs
  | _ => none
def tokOf : Box → Option (Nat × Nat)
  | .tok n T => some (n, T)
  | _ => none
def iterOf : Box → Option (List UInt8 × Nat)
  | .iter s p => some (s, p)
  | _ => none
def box? (h : Hp) (b : Nat) : Option Box := h[b]?
def getBox (h : Hp) (b : Nat) : Option (List PV) := (box? h b).bnd cellsOf
def getTok (h : Hp) (b : Nat) : Option (Nat × Nat) := (box? h b).bnd tokOf
def getIter (h : Hp) (b : Nat) : Option (List UInt8 × Nat) := (box? h b).bnd iterOf
def setBx (h : Hp) (b : Nat) (c : Box) : Hp := h.set b c
def setBox (h : Hp) (b : Nat) (c : List PV) : Hp := setBx h b (.cells c)
def ext (h l : Hp) : Hp := h ++ l
def trunc (h : Hp) (n : Nat) : Hp := h.take n

def look : Env → Nat → Option PV
  | [], _ => none
  | (i, v) :: e, t => if i = t then some v else look e t

/-- Without its token. -/
def Own.strip : Own → Own
  | .tok _ => .no
  | o => o
mutual
def strip : PV → PV
  | .sl o sz es => .sl o.strip sz es
  | .agg cs => .agg (strips cs)
  | .tup cs => .tup (strips cs)
  | .iface t v => .iface t (strip v)
  | .fn f cs => .fn f (strips cs)
  | v => v
def strips : List PV → List PV
  | [] => []
  | v :: vs => strip v :: strips vs
end

def PV.cells : PV → List PV
  | .agg cs => cs
  | v => [v]

inductive Opnd where
  | tmp (t : Nat)
  | const (v : PV)

def ev (e : Env) : Opnd → Option PV
  | .tmp t => look e t
  | .const v => some v

def evs (e : Env) : List Opnd → Option (List PV)
  | [] => some []
  | x :: xs => (ev e x).bnd fun v => (evs e xs).bnd fun vs => some (v :: vs)

inductive AOp where
  | mov (x : Opnd)
  | pick (c a b : Opnd)
  | alloc (zero : List PV)
  | box (n : Nat) (x : Opnd)
  | build (zero : List PV) (parts : List (Nat × Nat × Opnd))
  | buildSl (sz : Nat) (agg : Bool) (zero : List PV) (len : Nat) (parts : List (Nat × Opnd))
  | load (n : Nat) (agg : Bool) (a : Opnd)
  | store (n : Nat) (a x : Opnd)
  | nilck (x : Opnd)
  | bin (op : BinOp) (x y : Opnd)
  | binB (neg : Bool) (x y : Opnd)
  | isnil (kind : Nat) (neg : Bool) (x : Opnd)
  | un (op : UnOp) (x : Opnd)
  | toInt (k : IntKind) (x : Opnd)
  | strBytes (box : Bool) (x : Opnd)
  | bytesStr (x : Opnd)
  | mkfn (f : Nat) (cap : List Opnd)
  | makeSl (T : Nat) (z : List PV) (agg : Bool) (len cap : Opnd)
  | copyB (d x : Opnd)
  | range (x : Opnd)
  | next (x : Opnd)
  | eqv (neg : Bool) (ks : List Nat) (x y : Opnd)
  | mkif (t : Nat) (x : Opnd)
  | slice (sz : Option Nat) (x : Opnd) (lo hi mx : Option Opnd)
  | fieldA (off : Nat) (x : Opnd)
  | field (off n : Nat) (agg : Bool) (x : Opnd)
  | idxA (sz : Nat) (x i : Opnd)
  | idxArr (sz len : Nat) (x i : Opnd)
  | idxStr (x i : Opnd)
  | idxAgg (sz : Nat) (agg : Bool) (len : Nat) (x i : Opnd)
  | extract (x : Opnd) (i : Nat)
  | tassert (t : Nat) (ok : Bool) (zero : PV) (x : Opnd)
  | len (str : Bool) (x : Opnd)
  | minmax (max : Bool) (xs : List Opnd)
  | append (sz : Nat) (s x : Opnd)
  | appendT (T sz : Nat) (s x : Opnd)
  | appendBox (sz : Nat) (s x : Opnd)
  | call (f : Nat) (args : List Opnd)
  | callv (x : Opnd) (args : List Opnd)
  | callQ (f : Nat) (args : List Opnd)
  | loadN (t n : Nat) (agg : Bool) (a : Opnd)
  | storeN (t n : Nat) (a x : Opnd)
  | stuck

structure AOper where
  dst : Option Nat
  guard : Option (Nat × Bool)
  op : AOp

inductive ACode where
  | skip
  | ops (l : List AOper) (draw : Bool) (keep : List Nat)
  | seq (a b : ACode)
  | cond (c : Opnd) (a b : ACode)
  | block (id : Nat) (a : ACode)
  | loop (a : ACode)
  | scope (a : ACode)
  | exit (id : Nat)
  | ret

/-- A function: where its results are; does its frame end with it ('keep': no); do its results keep the room behind them. -/
structure AFn where
  results : List (Nat × Option (Nat × Bool))
  body : ACode
  keep : Bool := false
  own : Bool := false

inductive AItem where
  | code (f : AFn)
  | prim (g : List PV → Hp → Option (PV × Option (Nat × List PV)))

abbrev Table := Nat → Option AItem

/-! ### Plain parts -/

def lim2 : Nat := 17179869184      -- 2 ^ 34: how long a slice may get by append
def limS : Nat := 4611686018427387904      -- 2 ^ 62

/-- May a value lie in one cell? -/
def scalar : PV → Bool
  | .undef | .agg _ | .tup _ | .it _ | .bnil _ => false
  | _ => true

def part (cs : List PV) (off n : Nat) (agg : Bool) : Option PV :=
  if agg then (if off + n ≤ cs.length then some (.agg ((cs.drop off).take n)) else none)
  else cs[off]?

def setRange : List PV → Nat → List PV → List PV
  | cs, _, [] => cs
  | cs, off, v :: vs => setRange (cs.set off v) (off + 1) vs



/-- A slice's elements: of a slice by value, or behind a box. -/
def chunks (sz : Nat) (agg : Bool) : Nat → List PV → List PV
  | 0, _ => []
  | n + 1, cs => (if agg then .agg (cs.take sz) else (cs.headD .undef)) :: chunks sz agg n (cs.drop sz)

def elems (h : Hp) : PV → Option (List PV)
  | .nils => some []
  | .sl _ _ es => some es
  | .bsl _ b off len sz => if sz = 1 then (getBox h b).bnd fun cs => if off + len ≤ cs.length ∧ ((cs.drop off).take len).all scalar = true then some ((cs.drop off).take len) else none else none
  | .str s => some (s.map fun c => .int .u8 c.toNat)
  | _ => none

def bytesOf : List PV → Option (List UInt8)
  | [] => some []
  | .int .u8 n :: r => (bytesOf r).map fun l => UInt8.ofNat n.toNat :: l
  | _ => none

def fillParts (sz : Nat) : List (Nat × PV) → List PV → Option (List PV)
  | [], cs => some cs
  | (i, v) :: r, cs => if v.cells.length = sz ∧ i < cs.length ∧ v.cells.all scalar = true then fillParts sz r (cs.set i v) else none

def buildAgg : List (Nat × Nat × PV) → List PV → Option (List PV)
  | [], cs => some cs
  | (off, n, v) :: r, cs => if v.cells.length = n ∧ off + n ≤ cs.length ∧ v.cells.all scalar = true then buildAgg r (setRange cs off v.cells) else none

def evParts (e : Env) : List (Nat × Opnd) → Option (List (Nat × PV))
  | [] => some []
  | (i, x) :: r => (ev e x).bnd fun v => (evParts e r).map fun l => (i, strip v) :: l

def evParts3 (e : Env) : List (Nat × Nat × Opnd) → Option (List (Nat × Nat × PV))
  | [] => some []
  | (i, n, x) :: r => (ev e x).bnd fun v => (evParts3 e r).map fun l => (i, n, v) :: l

def intBits (op : BinOp) (k : IntKind) (x y : Int) : Option PV :=
  let a := BitVec.ofInt k.bits x
  let b := BitVec.ofInt k.bits y
  match op with
  | .and => some (.int k (k.wrap (a &&& b).toNat))
  | .or => some (.int k (k.wrap (a ||| b).toNat))
  | .xor => some (.int k (k.wrap (a ^^^ b).toNat))
  | .andNot => some (.int k (k.wrap (a &&& ~~~b).toNat))
  | _ => none

def intOp (op : BinOp) (k : IntKind) (a b : Int) : Option PV :=
  match op with
  | .add => some (.int k (k.wrap (a + b)))
  | .sub => some (.int k (k.wrap (a - b)))
  | .mul => some (.int k (k.wrap (a * b)))
  | .quo => if b = 0 then none else some (.int k (k.wrap (a.tdiv b)))
  | .rem => if b = 0 then none else some (.int k (a.tmod b))
  | .eql => some (.bool (a == b))
  | .neq => some (.bool (a != b))
  | .lss => some (.bool (decide (a < b)))
  | .leq => some (.bool (decide (a ≤ b)))
  | .gtr => some (.bool (decide (a > b)))
  | .geq => some (.bool (decide (a ≥ b)))
  | op => intBits op k a b

def shiftOp (op : BinOp) (k : IntKind) (a b : Int) : Option PV :=
  if b < 0 then none else
  match op with
  | .shl => some (.int k (k.wrap (a * 2 ^ (min b.toNat k.bits))))
  | .shr => some (.int k (a.fdiv (2 ^ (min b.toNat k.bits))))
  | _ => none

def bytesLess : List UInt8 → List UInt8 → Bool
  | _, [] => false
  | [], _ :: _ => true
  | a :: x, b :: y => a < b || (a == b && bytesLess x y)

def strOp (op : BinOp) (x y : List UInt8) : Option PV :=
  match op with
  | .add => if x.length + y.length ≤ limS then some (.str (x ++ y)) else none
  | .eql => some (.bool (x == y))
  | .neq => some (.bool (x != y))
  | .lss => some (.bool (bytesLess x y))
  | .leq => some (.bool (bytesLess x y || x == y))
  | .gtr => some (.bool (!(bytesLess x y || x == y)))
  | .geq => some (.bool (!(bytesLess x y)))
  | _ => none

def isShift : BinOp → Bool
  | .shl | .shr => true
  | _ => false

def binOp (op : BinOp) : PV → PV → Option PV
  | .int k a, .int j b => if isShift op then shiftOp op k a b else if k = j then intOp op k a b else none
  | .str a, .str b => strOp op a b
  | _, _ => none

/-- Is a value of a kind (0 a pointer, 1 a slice, 2 an interface's, 3 a function) nil? -/
def nilK : Nat → PV → Option Bool
  | 0, .nilp => some true
  | 0, .bnil _ => some true
  | 0, .ptr _ _ => some false
  | 0, .ep _ _ => some false
  | 1, .nils => some true
  | 1, .sl _ _ _ => some false
  | 1, .bsl _ _ _ _ _ => some false
  | 2, .nilif => some true
  | 2, .iface _ _ => some false
  | 3, .nilf => some true
  | 3, .fn _ _ => some false
  | _, _ => none

def isNil : PV → Option Bool
  | .nilp | .nils | .nilif | .nilf | .bnil _ => some true
  | .ptr _ _ | .ep _ _ | .sl _ _ _ | .bsl _ _ _ _ _ | .iface _ _ | .fn _ _ => some false
  | _ => none

def unOp (op : UnOp) : PV → Option PV
  | .bool b => match op with
    | .not => some (.bool (!b))
    | _ => none
  | .int k n => match op with
    | .neg => some (.int k (k.wrap (0 - n)))
    | .xor => intBits .xor k (if k.signed then -1 else k.max) n
    | _ => none
  | _ => none

/-- An index in its bounds. -/
def ix (v : PV) (n : Nat) : Option Nat :=
  match v with
  | .int _ i => if 0 ≤ i ∧ i < n then some i.toNat else none
  | _ => none

def bd (e : Env) (n dflt : Nat) : Option Opnd → Option Nat
  | none => some dflt
  | some x => (ev e x).bnd fun v => match v with
    | .int _ i => if 0 ≤ i ∧ i ≤ n then some i.toNat else none
    | _ => none

def isFull : Own → Bool
  | .full => true
  | _ => false

def sliceOf (e : Env) (n : Option Nat) (lo hi mx : Option Opnd) : PV → Option PV
  | .str s => if mx.isSome ∨ n.isSome then none else
    (bd e s.length s.length hi).bnd fun hh => (bd e hh 0 lo).bnd fun l => some (.str ((s.drop l).take (hh - l)))
  | .nils => if n.isSome then (bd e 0 0 mx).bnd fun m => (bd e 0 0 hi).bnd fun hh => (bd e 0 0 lo).bnd fun l => some .nils else none
  | .sl o sz es => if n = some sz then (bd e es.length es.length mx).bnd fun m => (bd e m es.length hi).bnd fun hh => (bd e hh 0 lo).bnd fun l =>
      some (.sl (if mx.isSome && m == hh then .full else if mx.isNone && isFull o && hh == es.length then .full else .no) sz ((es.drop l).take (hh - l)))
      else none
  | .bsl f b off len sz => if n = some sz then (bd e len len mx).bnd fun m => (bd e m len hi).bnd fun hh => (bd e hh 0 lo).bnd fun l =>
      if hh - l = 0 then some (.sl (if mx.isSome && m == hh then .full else .no) sz []) else some (.bsl (if mx.isSome && m == hh then true else mx.isNone && f && hh == len) b (off + l * sz) (hh - l) sz)
      else none
  | _ => none

def minMax2 (mx : Bool) : PV → PV → Option PV
  | .int k x, .int _ y => some (.int k (if mx then (if y > x then y else x) else (if y < x then y else x)))
  | _, _ => none

def minMax (mx : Bool) : PV → List PV → Option PV
  | x, [] => some x
  | x, y :: r => (minMax2 mx x y).bnd fun z => minMax mx z r

def Own.below (n : Nat) : Own → Bool
  | .tok t => decide (t < n)
  | _ => true
mutual
/-- No pointer into a box at or above n. -/
def below (n : Nat) : PV → Bool
  | .ptr b _ | .bsl _ b _ _ _ | .it b => decide (b < n)
  | .ep e _ => belows n e
  | .sl o _ es => o.below n && belows n es
  | .iface _ v => below n v
  | .fn _ c => belows n c
  | .agg cs => belows n cs
  | .tup vs => belows n vs
  | _ => true
def belows (n : Nat) : List PV → Bool
  | [] => true
  | v :: vs => below n v && belows n vs
end

def canAppend : Own → Bool
  | .full => true
  | _ => false

def condB {α : Type} (v : PV) (x y : Option α) : Option α :=
  match v with
  | .bool true => x
  | .bool false => y
  | _ => none
theorem condB_true {α : Type} (x y : Option α) : condB (.bool true) x y = x := (rfl)
theorem condB_false {α : Type} (x y : Option α) : condB (.bool false) x y = y := (rfl)
theorem condB_some {α : Type} {v : PV} {x y : Option α} {r : α} : condB v x y = some r ↔ (v = .bool true ∧ x = some r) ∨ (v = .bool false ∧ y = some r) := by
  cases v with
  | bool b => cases b <;> simp [condB]
  | _ => simp [condB]
theorem condB_b {α : Type} (b : Bool) (x y : Option α) : condB (.bool b) x y = if b = true then x else y := by cases b <;> rfl

/-- Lengths of a slice that is made. -/
def makeN (l c : PV) : Option (Nat × Nat) :=
  match l, c with
  | .int _ l, .int _ c => if 0 ≤ l ∧ l ≤ c ∧ c ≤ lim2 then some (l.toNat, c.toNat) else none
  | _, _ => none

/-- The sign of a text at a place, and its width. -/
def runeAt (s : List UInt8) (pos : Nat) : Nat × Nat := Utf8.decode ⟨s.toArray⟩ pos

/-- Cells that are compared one by one. -/
def eqCell : Nat → PV → PV → Option Bool
  | 0, .bool a, .bool b => some (a == b)
  | 1, .int k a, .int j b => if k = j then some (a == b) else none
  | 2, .str a, .str b => some (a == b)
  | _, _, _ => none
def eqCells : List Nat → List PV → List PV → Option Bool
  | [], [], [] => some true
  | k :: ks, x :: xs, y :: ys => (eqCell k x y).bnd fun b => (eqCells ks xs ys).bnd fun c => some (b && c)
  | _, _, _ => none

/-- May a value be an element of so many cells? -/
def fits (sz : Nat) (x : PV) : Bool := x.cells.length == sz && x.cells.all scalar

/-- A slice that grows: its token tells whether nothing stands behind it yet. -/
def growT (h : Hp) (T sz : Nat) (v : PV) (xs : List PV) : Option (PV × Hp) :=
  if xs.all (fits sz) then
  match v with
  | .nils => if xs.length ≤ lim2 then some (if xs.isEmpty then (.nils, h) else (.sl (.tok (size h)) sz (strips xs), ext h [.tok xs.length T])) else none
  | .sl .full sz' es => if sz' = sz ∧ es.length + xs.length ≤ lim2 then some (if xs.isEmpty then (.sl .full sz es, h) else (.sl (.tok (size h)) sz (es ++ strips xs), ext h [.tok (es.length + xs.length) T])) else none
  | .sl (.tok t) sz' es => (getTok h t).bnd fun n => if sz' = sz ∧ n = (es.length, T) ∧ es.length + xs.length ≤ lim2 then some (.sl (.tok t) sz (es ++ strips xs), setBx h t (.tok (es.length + xs.length) T)) else none
  | _ => none
  else none

/-- What an operation gives: its value, the frame, the heap. 'orc': the calls. -/
def step (orc : Nat → List PV → Hp → Option (PV × Hp)) (base : Nat) (draw : Bool) (op : AOp) (e : Env) (h : Hp) : Option (PV × Env × Hp) :=
  match op with
  | .mov x => (ev e x).bnd fun v => some (v, e, h)
  | .pick c a b => (ev e c).bnd fun v => condB v ((ev e a).bnd fun v => some (v, e, h)) ((ev e b).bnd fun v => some (v, e, h))
  | .alloc z => some (.ptr (size h) 0, e, ext h [.cells z])
  | .box n x => (ev e x).bnd fun v => if v.cells.length = n ∧ v.cells.all scalar = true then some (.ptr (size h) 0, e, ext h [.cells v.cells]) else none
  | .build z ps => (evParts3 e ps).bnd fun l => (buildAgg l z).bnd fun cs => some (.agg cs, e, h)
  | .buildSl sz agg z len ps => (evParts e ps).bnd fun l =>
      (fillParts sz l (List.replicate len (if agg then .agg z else z.headD .undef))).bnd fun es => some (.sl .full sz es, e, h)
  | .load n agg a => (ev e a).bnd fun v => match v with
    | .ptr b off => (getBox h b).bnd fun cs => (part cs off n agg).bnd fun r => some (r, e, h)
    | .ep cs off => (part cs off n agg).bnd fun r => some (r, e, h)
    | _ => none
  | .store n a x => (ev e a).bnd fun v => (ev e x).bnd fun u => match v with
    | .ptr b off => (getBox h b).bnd fun cs =>
        if u.cells.length = n ∧ off + n ≤ cs.length ∧ u.cells.all scalar = true ∧ (b < base → belows 0 (strips u.cells) = true)
        then some (.undef, e, setBox h b (setRange cs off (if b < base then strips u.cells else u.cells))) else none
    | _ => none
  | .nilck x => (ev e x).bnd fun v => match isNil v with
    | some false => some (v, e, h)
    | _ => none
  | .bin op x y => (ev e x).bnd fun a => (ev e y).bnd fun b => (binOp op a b).bnd fun r => some (r, e, h)
  | .binB neg x y => (ev e x).bnd fun a => (ev e y).bnd fun b => match a, b with
    | .bool a, .bool b => some (.bool (if neg then a != b else a == b), e, h)
    | _, _ => none
  | .isnil kd neg x => (ev e x).bnd fun v => (nilK kd v).bnd fun b => some (.bool (if neg then !b else b), e, h)
  | .un op x => (ev e x).bnd fun a => (unOp op a).bnd fun r => some (r, e, h)
  | .toInt k x => (ev e x).bnd fun v => match v with
    | .int _ n => some (.int k (k.wrap n), e, h)
    | _ => none
  | .strBytes box x => (ev e x).bnd fun v => match v with
    | .str s => if s.length ≤ limS then (if box then some (.bsl false (size h) 0 s.length 1, e, ext h [.cells (s.map fun c => .int .u8 c.toNat)]) else some (.sl .no 1 (s.map fun c => .int .u8 c.toNat), e, h)) else none
    | _ => none
  | .bytesStr x => (ev e x).bnd fun v => match v with
    | .str _ => none
    | v => (elems h v).bnd fun es => (bytesOf es).bnd fun s => some (.str s, e, h)
  | .mkif t x => (ev e x).bnd fun v => some (.iface t v, e, h)
  | .mkfn f cap => (evs e cap).bnd fun vs => some (.fn f vs, e, h)
  | .makeSl T z agg len cap => (ev e len).bnd fun l => (ev e cap).bnd fun c => (makeN l c).bnd fun n =>
      if n.1 = n.2 then some (.bsl true (size h) 0 n.1 z.length, e, ext h [.cells (List.flatten (List.replicate n.1 z))])
      else if n.1 = 0 then some (.sl (.tok (size h)) z.length [], e, ext h [.tok 0 T]) else none
  | .copyB d x => (ev e d).bnd fun v => (ev e x).bnd fun u => (elems h u).bnd fun xs => match v with
    | .bsl _ b off len sz => (getBox h b).bnd fun cs =>
        if sz = 1 ∧ off + len ≤ cs.length ∧ xs.all scalar = true ∧ (b < base → belows 0 (xs.take len) = true)
        then some (.int .i64 (min xs.length len : Nat), e, setBox h b (setRange cs off (xs.take len))) else none
    | .nils => some (.int .i64 0, e, h)
    | _ => none
  | .range x => (ev e x).bnd fun v => match v with
    | .str s => some (.it (size h), e, ext h [.iter s 0])
    | _ => none
  | .next x => (ev e x).bnd fun v => match v with
    | .it b => (getIter h b).bnd fun p =>
      if p.2 < p.1.length then some (.tup [.bool true, .int .i64 p.2, .int .i32 (runeAt p.1 p.2).1], e, setBx h b (.iter p.1 (p.2 + (runeAt p.1 p.2).2)))
      else some (.tup [.bool false], e, h)
    | _ => none
  | .eqv neg ks x y => (ev e x).bnd fun a => (ev e y).bnd fun b => match a, b with
    | .agg cs, .agg ds => (eqCells ks cs ds).bnd fun b => some (.bool (if neg then !b else b), e, h)
    | _, _ => none
  | .slice n x lo hi mx => (ev e x).bnd fun v => (sliceOf e n lo hi mx v).bnd fun r => some (r, e, h)
  | .fieldA off x => (ev e x).bnd fun v => match v with
    | .ptr b o => some (.ptr b (o + off), e, h)
    | .ep cs o => some (.ep cs (o + off), e, h)
    | _ => none
  | .field off n agg x => (ev e x).bnd fun v => match v with
    | .agg cs => (part cs off n agg).bnd fun r => some (r, e, h)
    | _ => none
  | .idxA sz x i => (ev e x).bnd fun v => (ev e i).bnd fun i => match v with
    | .sl _ sz' es => if sz' = sz then (ix i es.length).bnd fun i => (es[i]?).bnd fun w => some (.ep w.cells 0, e, h) else none
    | .bsl _ b off len sz' => if sz' = sz then (ix i len).bnd fun i => some (.ptr b (off + i * sz), e, h) else none
    | _ => none
  | .idxArr sz len x i => (ev e x).bnd fun v => (ev e i).bnd fun i => match v with
    | .ptr b o => (ix i len).bnd fun i => some (.ptr b (o + i * sz), e, h)
    | .ep cs o => (ix i len).bnd fun i => some (.ep cs (o + i * sz), e, h)
    | _ => none
  | .idxStr x i => (ev e x).bnd fun v => (ev e i).bnd fun i => match v with
    | .str s => (ix i s.length).bnd fun i => (s[i]?).bnd fun c => some (.int .u8 c.toNat, e, h)
    | _ => none
  | .idxAgg sz agg len x i => (ev e x).bnd fun v => (ev e i).bnd fun i => match v with
    | .agg cs => (ix i len).bnd fun i => (part cs (i * sz) sz agg).bnd fun r => some (r, e, h)
    | _ => none
  | .extract x i => (ev e x).bnd fun v => match v with
    | .tup vs => (vs[i]?).bnd fun r => some (r, e, h)
    | _ => none
  | .tassert t ok z x => (ev e x).bnd fun v => match v with
    | .iface t' u =>
      if t' = t then (if ok then some (.tup [u, .bool true], e, h) else some (u, e, h))
      else if ok then some (.tup [z, .bool false], e, h) else none
    | .nilif => if ok then some (.tup [z, .bool false], e, h) else none
    | _ => none
  | .len str x => (ev e x).bnd fun v => match str, v with
    | true, .str s => some (.int .i64 s.length, e, h)
    | false, .nils => some (.int .i64 0, e, h)
    | false, .sl _ _ es => some (.int .i64 es.length, e, h)
    | false, .bsl _ _ _ len _ => some (.int .i64 len, e, h)
    | _, _ => none
  | .minmax mx xs => (evs e xs).bnd fun vs => match vs with
    | [] => none
    | x :: r => (minMax mx x r).bnd fun r => some (r, e, h)
  | .append sz s x => (ev e s).bnd fun v => (ev e x).bnd fun u => (elems h u).bnd fun xs =>
      if xs.all (fun x => x.cells.length == sz) then
      match v with
      | .nils => if xs.length ≤ lim2 then some (if xs.isEmpty then .nils else .sl .no sz (strips xs), e, h) else none
      | .sl .full sz' es => if sz' = sz ∧ es.length + xs.length ≤ lim2 then some (if xs.isEmpty then .sl .full sz es else .sl .no sz (es ++ strips xs), e, h) else none
      | _ => none
      else none
  | .appendT T sz s x => (ev e s).bnd fun v => (ev e x).bnd fun u => (elems h u).bnd fun xs => (growT h T sz v xs).bnd fun r => some (r.1, e, r.2)
  | .appendBox sz s x => (ev e s).bnd fun v => (ev e x).bnd fun u => (elems h u).bnd fun xs =>
      if sz = 1 ∧ xs.all (fun x => x.cells.length == sz) = true ∧ 0 < xs.length ∧ xs.length ≤ lim2 ∧ xs.all scalar = true then
      match v with
      | .nils => some (.bsl false (size h) 0 xs.length sz, e, ext h [.cells xs])
      | .sl .full sz' [] => some (.bsl false (size h) 0 xs.length sz, e, ext h [.cells xs])
      | _ => none
      else none
  | .call f args => (evs e args).bnd fun vs => (orc f vs h).bnd fun r =>
      if draw then (if r.2 = h then some (r.1, e, h) else none) else some (r.1, e, r.2)
  | .callQ f args => (evs e args).bnd fun vs => (orc f vs h).bnd fun r => if r.2 = h then some (r.1, e, h) else none
  | .callv x args => (ev e x).bnd fun v => match v with
    | .fn f cap => (evs e args).bnd fun vs => (orc f (vs ++ cap) h).bnd fun r =>
      if draw then (if r.2 = h then some (r.1, e, h) else none) else some (r.1, e, r.2)
    | _ => none
  | .loadN t n agg a => (look e t).bnd fun q => (ev e a).bnd fun v => match q, v with
    | .ptr c _, .ptr b off => if b = c then none else (getBox h b).bnd fun cs => (part cs off n agg).bnd fun r => some (r, e, h)
    | .ptr _ _, .ep cs off => (part cs off n agg).bnd fun r => some (r, e, h)
    | _, _ => none
  | .storeN t n a x => (look e t).bnd fun q => (ev e a).bnd fun v => (ev e x).bnd fun u => match q, v with
    | .ptr c _, .ptr b off => if b = c then (getBox h b).bnd fun cs =>
        if u.cells.length = n ∧ off + n ≤ cs.length ∧ u.cells.all scalar = true ∧ (b < base → belows 0 (strips u.cells) = true)
        then some (.undef, e, setBox h b (setRange cs off (if b < base then strips u.cells else u.cells))) else none else none
    | _, _ => none
  | .stuck => none

def putD (e : Env) (d : Option Nat) (v : PV) : Env :=
  match d with
  | none => e
  | some d => (d, v) :: e

/-- Is an operation asked for? -/
def wanted (e : Env) : Option (Nat × Bool) → Option Bool
  | none => some true
  | some (t, want) => (look e t).bnd fun v => match v with
    | .bool b => some (b == want)
    | .undef => some false
    | _ => none

def execOps (orc : Nat → List PV → Hp → Option (PV × Hp)) (base : Nat) (draw : Bool) : List AOper → Env → Hp → Option (Env × Hp)
  | [], e, h => some (e, h)
  | o :: r, e, h => (wanted e o.guard).bnd fun w =>
    if w then (step orc base draw o.op e h).bnd fun x => execOps orc base draw r (putD x.2.1 o.dst x.1) x.2.2
    else execOps orc base draw r (putD e o.dst .undef) h

inductive AEx where
  | norm
  | exit (id : Nat)
  | ret

/-- Only these slots, each once, in this order. -/
def prune : List Nat → Env → Env
  | [], _ => []
  | t :: ts, e => match look e t with
    | some v => (t, v) :: prune ts e
    | none => prune ts e

def params : Nat → List PV → Env
  | _, [] => []
  | i, v :: vs => (i, v) :: params (i + 1) vs

/-- One result: a slot, or a variable (of n cells) that a slot points to. -/
def resultOf (e : Env) (h : Hp) : Nat × Option (Nat × Bool) → Option PV
  | (t, none) => look e t
  | (t, some (n, agg)) => (look e t).bnd fun v => match v with
    | .ptr b off => (getBox h b).bnd fun cs => part cs off n agg
    | _ => none

def resultsOf (e : Env) (h : Hp) : List (Nat × Option (Nat × Bool)) → Option (List PV)
  | [] => some []
  | t :: ts => (resultOf e h t).bnd fun v => (resultsOf e h ts).bnd fun vs => some (v :: vs)

def result1 : List PV → PV
  | [v] => v
  | vs => .tup vs

/-- A row of cells as elements. -/
def elemsOf (sz len : Nat) (cs : List PV) : Option (List PV) :=
  if sz = 1 then (if len ≤ cs.length ∧ (cs.take len).all scalar = true then some (strips (cs.take len)) else none)
  else if sz ≠ 0 ∧ len * sz ≤ cs.length then some (chunks sz true len (strips cs)) else none

mutual
/-- What leaves a frame: no tokens; slices of the frame's own boxes by value. -/
def frz (n0 : Nat) (h : Hp) : PV → Option PV
  | .sl o sz es => some (.sl o.strip sz es)
  | .bsl f b off len sz => if b < n0 then some (.bsl f b off len sz) else
      (getBox h b).bnd fun cs => (elemsOf sz len (cs.drop off)).bnd fun es => some (.sl (if f then .full else .no) sz es)
  | .agg cs => (frzs n0 h cs).bnd fun cs => some (.agg cs)
  | .tup cs => (frzs n0 h cs).bnd fun cs => some (.tup cs)
  | .iface t v => (frz n0 h v).bnd fun v => some (.iface t v)
  | v => some v
def frzs (n0 : Nat) (h : Hp) : List PV → Option (List PV)
  | [] => some []
  | v :: vs => (frz n0 h v).bnd fun v => (frzs n0 h vs).bnd fun vs => some (v :: vs)
end

/-- How a function's frame ends. 'own': the slice that comes back keeps its token, or its box, which is then the first new one. -/
def ownEnd (h0 : Nat) (h : Hp) : List PV → Option (List PV × Hp)
  | .sl (.tok t) sz es :: vs => if belows h0 es = true ∧ belows h0 vs = true then
      (if t < h0 then some (.sl (.tok t) sz es :: vs, trunc h h0) else (getTok h t).bnd fun n => some (.sl (.tok h0) sz es :: vs, ext (trunc h h0) [.tok n.1 n.2])) else none
  | .bsl f b off len sz :: vs => if b < h0 then (if belows h0 vs = true then some (.bsl f b off len sz :: vs, trunc h h0) else none) else
      (getBox h b).bnd fun cs => if belows h0 vs = true ∧ belows h0 cs = true then some (.bsl f h0 off len sz :: vs, ext (trunc h h0) [.cells cs]) else none
  | vs => (frzs h0 h vs).bnd fun vs => if belows h0 vs = true then some (vs, trunc h h0) else none
def finish (fn : AFn) (h0 : Nat) (e : Env) (h : Hp) : Option (PV × Hp) :=
  (resultsOf e h fn.results).bnd fun vs =>
    if fn.keep then some (result1 vs, h)
    else if fn.own then (ownEnd h0 h vs).bnd fun r => some (result1 r.1, r.2)
    else (frzs h0 h vs).bnd fun vs => if belows h0 vs = true then some (result1 vs, trunc h h0) else none

/-- What a function of the library leaves: a box, or none, is written. -/
def primEnd (base : Nat) (h : Hp) : PV × Option (Nat × List PV) → Option (PV × Hp)
  | (v, none) => some (v, h)
  | (v, some (b, cs)) => if (getBox h b).isSome ∧ (b < base → belows 0 cs = true) then some (v, setBox h b cs) else none
def primHeap (h : Hp) : Option (Nat × List PV) → Hp
  | none => h
  | some (b, cs) => setBox h b cs

mutual
def exec (T : Table) : Nat → ACode → Nat → Env → Hp → Option (AEx × Env × Hp)
  | 0, _, _, _, _ => none
  | n + 1, .skip, base, e, h => some (.norm, e, h)
  | n + 1, .ops l draw keep, base, e, h => (execOps (call T n base) base draw l e h).bnd fun x => some (.norm, prune keep x.1, x.2)
  | n + 1, .seq a b, base, e, h => (exec T n a base e h).bnd fun x => match x with
    | (.norm, e', h') => exec T n b base e' h'
    | r => some r
  | n + 1, .cond c a b, base, e, h => (ev e c).bnd fun v => condB v (exec T n a base e h) (exec T n b base e h)
  | n + 1, .block id a, base, e, h => (exec T n a base e h).bnd fun x => match x with
    | (.exit i, e', h') => if i = id then some (.norm, e', h') else some (.exit i, e', h')
    | r => some r
  | n + 1, .loop a, base, e, h => (exec T n a base e h).bnd fun x => match x with
    | (.norm, e', h') => exec T n (.loop a) base e' h'
    | r => some r
  | n + 1, .scope a, base, e, h => exec T n a base e h
  | n + 1, .exit id, base, e, h => some (.exit id, e, h)
  | n + 1, .ret, base, e, h => some (.ret, e, h)
def call (T : Table) : Nat → Nat → Nat → List PV → Hp → Option (PV × Hp)
  | 0, _, _, _, _ => none
  | n + 1, base, f, args, h => match T f with
    | none => none
    | some (.prim g) => (g args h).bnd fun r => primEnd base h r
    | some (.code fn) => (exec T n fn.body (if fn.keep then base else size h) (params 0 args) h).bnd fun x => match x with
      | (.exit _, _, _) => none
      | (_, e, h') => finish fn (size h) e h'
end

end Go.Am
