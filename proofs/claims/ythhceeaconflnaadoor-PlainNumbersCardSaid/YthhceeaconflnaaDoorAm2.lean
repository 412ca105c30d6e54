/- 'Am': from the loaded program's code to the abstract machine's code. Definitions alone.
   By the session's AI agent. -/
import Derived.Test.YthhceeaconflnaaDoorAm1
namespace Go.Am
set_option linter.unusedVariables false
set_option linter.unusedSimpArgs false

mutual
def ofValue : Value → Option PV
  | .bool b => some (.bool b)
  | .int k n => some (.int k n)
  | .string s => some (.str s.data.toList)
  | .pointer none => some .nilp
  | .slice none 0 0 => some .nils
  | .nilIface => some .nilif
  | .nilFunc => some .nilf
  | .agg cs => (ofCells cs.toList).map .agg
  | _ => none
def ofCells : List Value → Option (List PV)
  | [] => some []
  | .bool b :: r => (ofCells r).map (.bool b :: ·)
  | .int k n :: r => (ofCells r).map (.int k n :: ·)
  | .string s :: r => (ofCells r).map (.str s.data.toList :: ·)
  | .pointer none :: r => (ofCells r).map (.nilp :: ·)
  | .slice none 0 0 :: r => (ofCells r).map (.nils :: ·)
  | .nilIface :: r => (ofCells r).map (.nilif :: ·)
  | .nilFunc :: r => (ofCells r).map (.nilf :: ·)
  | _ :: _ => none
end

/-- What is known of package-level variables that nobody writes: their cells. -/
abbrev Globs := List (Nat × List PV)
def glob : Globs → Nat → Option (List PV)
  | [], _ => none
  | (i, c) :: r, n => if i = n then some c else glob r n

def cOpnd (gl : Globs) : Operand → Option Opnd
  | .tmp t => some (.tmp t)
  | .const v => (ofValue v).map .const
  | .func f => some (.const (.fn f []))
  | .global n => (glob gl n).map fun cs => .const (.ep cs 0)

def cOpnds (gl : Globs) : List Operand → Option (List Opnd)
  | [] => some []
  | x :: xs => (cOpnd gl x).bind fun y => (cOpnds gl xs).map (y :: ·)

def cOpt (gl : Globs) : Option Operand → Option (Option Opnd)
  | none => some none
  | some x => (cOpnd gl x).map some

structure Ann where
  boxes : List (Nat × Nat) := []
  vals : List (Nat × Nat) := []
  keep : Bool := false
  own : Bool := false
  apart : List (Nat × Nat) := []

def aggOf (P : Program) (t : TypeId) : Option Bool :=
  match P.underlying t with
  | some (.struct _) | some (.array _ _) => some true
  | some _ => some false
  | none => none

def sizeOf (P : Program) (t : TypeId) : Option Nat := (P.info? t).map (·.size)

def zeroOf (P : Program) (t : TypeId) : Option (List PV) := ((P.info? t).bind (·.zero)).bind fun v => (ofValue v).map (·.cells)

def zeroV (P : Program) (t : TypeId) : Option PV := ((P.info? t).bind (·.zero)).bind ofValue

def isNilConst : Nat → Operand → Bool
  | 0, .const (.pointer none) => true
  | 1, .const (.slice none 0 0) => true
  | 2, .const .nilIface => true
  | 3, .const .nilFunc => true
  | _, _ => false

def nilKind : TypeDesc → Option Nat
  | .pointer _ => some 0
  | .slice _ => some 1
  | .interface _ => some 2
  | .func _ _ _ => some 3
  | _ => none

def isNeq : BinOp → Bool
  | .neq => true
  | _ => false

def isEq : BinOp → Bool
  | .eql | .neq => true
  | _ => false

def cParts (P : Program) (gl : Globs) (fs : Array Field) : List (Nat × Operand) → Option (List (Nat × Nat × Opnd))
  | [] => some []
  | (i, x) :: r => (fs[i]?).bind fun f => (sizeOf P f.type).bind fun n => (cOpnd gl x).bind fun y => (cParts P gl fs r).map ((f.offset, n, y) :: ·)

def cPartsA (P : Program) (gl : Globs) (n : Nat) : List (Nat × Operand) → Option (List (Nat × Nat × Opnd))
  | [] => some []
  | (i, x) :: r => (cOpnd gl x).bind fun y => (cPartsA P gl n r).map ((i * n, n, y) :: ·)

def cPartsS (gl : Globs) : List (Nat × Operand) → Option (List (Nat × Opnd))
  | [] => some []
  | (i, x) :: r => (cOpnd gl x).bind fun y => (cPartsS gl r).map ((i, y) :: ·)

def smallBytes (P : Program) (t : TypeId) : Bool := match P.info? t with
  | some i => i.bytes ≤ 4096
  | none => false

def cCall (P : Program) (gl : Globs) (md : Nat) (c : Call) (type : TypeId) : Option AOp :=
  match c.callee with
  | .value (.func f) => (cOpnds gl c.args.toList).map (.call f)
  | .value (.tmp t) => (cOpnds gl c.args.toList).map (.callv (.tmp t))
  | .builtin .len => match c.args.toList, c.argTypes.toList with
    | [x], [t] => match P.underlying t with
      | some .string => (cOpnd gl x).map (.len true)
      | some (.slice _) => (cOpnd gl x).map (.len false)
      | _ => none
    | _, _ => none
  | .builtin .min => (cOpnds gl c.args.toList).map (.minmax false)
  | .builtin .max => (cOpnds gl c.args.toList).map (.minmax true)
  | .builtin .append => match c.args.toList, c.argTypes.toList with
    | [s, x], [t, u] => match P.underlying t, P.underlying u with
      | some (.slice el), some (.slice _) | some (.slice el), some .string =>
        (sizeOf P el).bind fun sz => if smallBytes P el && sz != 0 && (zeroOf P el).any (fun z => z.length == sz) then
          (cOpnd gl x).bind fun x' => (cOpnd gl s).map fun s' => if md = 1 then .appendBox sz s' x' else if md = 2 then .append sz s' x' else .appendT el sz s' x' else none
      | _, _ => none
    | _, _ => none
  | _ => none

/-- Types whose values are compared cell by cell: bools, numbers, texts; structs of them. -/
def kindK (P : Program) (t : TypeId) : Option Nat := match P.underlying t, sizeOf P t with
  | some .bool, some 1 => some 0
  | some (.int _), some 1 => some 1
  | some .string, some 1 => some 2
  | _, _ => none
def flatK (P : Program) : Nat → List Field → Option (List Nat)
  | _, [] => some []
  | off, f :: r => if f.offset == off && f.name != "_" then (kindK P f.type).bind fun k => (flatK P (off + 1) r).map (k :: ·) else none

/-- A builder's first cell knows the builder's type. -/
def isBld (P : Program) (t : TypeId) : Bool := match P.info? t with
  | some i => (match i.desc with
    | TypeDesc.named n _ => n == "strings.Builder"
    | _ => false)
  | none => false
def bldZ (t : TypeId) : List PV → List PV
  | [.nilp, .nils] => [.bnil t, .nils]
  | z => z

def cOp (P : Program) (gl : Globs) (md : Nat) (o : Oper) : Option AOp :=
  match o.op with
  | .move x | .assign x => (cOpnd gl x).map .mov
  | .pick c a b => (cOpnd gl c).bind fun c => (cOpnd gl a).bind fun a => (cOpnd gl b).map fun b => .pick c a b
  | .alloc t => (zeroOf P t).map fun z => .alloc (if isBld P t then bldZ t z else z)
  | .box t x => (sizeOf P t).bind fun n => (cOpnd gl x).map (.box n)
  | .build t ps => (zeroOf P t).bind fun z => match P.underlying t with
    | some (.struct fs) => if (fs.toList.mapM fun f => (P.info? f.type).map fun i => (f.offset, i.size)).isSome then (cParts P gl fs ps.toList).map (.build z) else none
    | some (.array _ el) => (sizeOf P el).bind fun n => (cPartsA P gl n ps.toList).map (.build z)
    | _ => none
  | .buildSlice t len ps => match P.underlying t with
    | some (.slice el) => (sizeOf P el).bind fun n => (aggOf P el).bind fun a => (zeroOf P el).bind fun z =>
      if len * n ≤ 16777216 && n != 0 && z.length == n && z.all scalar && (a || n == 1) then (cPartsS gl ps.toList).map (.buildSl n a z len) else none
    | _ => none
  | .load t a => (sizeOf P t).bind fun n => (aggOf P t).bind fun g => (cOpnd gl a).bind fun a =>
      if g then some (.load n true a) else some (.load 1 false a)
  | .store t a x => (sizeOf P t).bind fun n => (cOpnd gl a).bind fun a' => (cOpnd gl x).map (.store n a')
  | .nilCheck x => (cOpnd gl x).map .nilck
  | .binOp op t x y _ =>
    match P.underlying t with
    | some (.int _) | some .string => (cOpnd gl x).bind fun x => (cOpnd gl y).map (.bin op x)
    | some (.struct fs) => if isEq op && !(P.stoodInHeld t) && !(P.eqGuardType P.depth t) then (flatK P 0 fs.toList).bind fun ks => (cOpnd gl x).bind fun x => (cOpnd gl y).map (.eqv (isNeq op) ks x) else none
    | some .bool => if isEq op then (cOpnd gl x).bind fun x => (cOpnd gl y).map (.binB (isNeq op) x) else none
    | some d => if isEq op then (nilKind d).bind fun kd => if isNilConst kd y then (cOpnd gl x).map (.isnil kd (isNeq op)) else if isNilConst kd x then (cOpnd gl y).map (.isnil kd (isNeq op)) else none else none
    | none => none
  | .unOp op _ x => (cOpnd gl x).map (.un op)
  | .convert s d x => match P.underlying s, P.underlying d with
    | some (.int _), some (.int k) => (cOpnd gl x).map (.toInt k)
    | some .string, some .string => (cOpnd gl x).map fun x => .slice none x none none none
    | some .string, some (.slice el) => match P.underlying el with
      | some (.int .u8) => (cOpnd gl x).map (.strBytes (md == 1))
      | _ => none
    | some (.slice el), some .string => match P.underlying el with
      | some (.int .u8) => (cOpnd gl x).map .bytesStr
      | _ => none
    | _, _ => none
  | .makeFunc (.func f) first cap => if first.size = 0 then (cOpnds gl cap.toList).map (.mkfn f) else none
  | .makeSlice t len cap => match P.underlying t with
    | some (.slice el) => (sizeOf P el).bind fun n => (aggOf P el).bind fun a => (zeroOf P el).bind fun z =>
      if smallBytes P el && n != 0 && z.length == n && z.all scalar && (a || n == 1) then (cOpnd gl len).bind fun l => (cOpnd gl cap).map (.makeSl el z a l) else none
    | _ => none
  | .range t x => match P.underlying t with
    | some .string => (cOpnd gl x).map .range
    | _ => none
  | .next x s => if s then (cOpnd gl x).map .next else none
  | .typeAssert x _ t ok => match P.underlying t with
    | some (.interface _) => none
    | some _ => (zeroV P t).bind fun z => (cOpnd gl x).map (.tassert t ok z)
    | none => none
  | .makeInterface t x => match P.underlying t with
    | some (.interface _) => none
    | some _ => (cOpnd gl x).map (.mkif t)
    | none => none
  | .slice t x lo hi mx => if mx.isSome && hi.isNone then none else match P.underlying t with
    | some .string => (cOpnd gl x).bind fun x => (cOpt gl lo).bind fun lo => (cOpt gl hi).bind fun hi => (cOpt gl mx).map (.slice none x lo hi)
    | some (.slice el) => (sizeOf P el).bind fun n => (cOpnd gl x).bind fun x => (cOpt gl lo).bind fun lo => (cOpt gl hi).bind fun hi => (cOpt gl mx).map (.slice (some n) x lo hi)
    | _ => none
  | .fieldAddr s x f => match P.underlying s with
    | some (.struct fs) => (fs[f]?).bind fun f => (sizeOf P f.type).bind fun n => if n = 0 then none else (cOpnd gl x).map (.fieldA f.offset)
    | _ => none
  | .field t x f => match P.underlying t with
    | some (.struct fs) => (fs[f]?).bind fun f => (sizeOf P f.type).bind fun n => (aggOf P f.type).bind fun g => (cOpnd gl x).map (.field f.offset n g)
    | _ => none
  | .indexAddr t x i => match P.underlying t with
    | some (.slice el) => (sizeOf P el).bind fun n => (cOpnd gl x).bind fun x => (cOpnd gl i).map (.idxA n x)
    | some (.array len el) => (sizeOf P el).bind fun n => (cOpnd gl x).bind fun x => (cOpnd gl i).map (.idxArr n len x)
    | _ => none
  | .index t x i => match P.underlying t with
    | some .string => (cOpnd gl x).bind fun x => (cOpnd gl i).map (.idxStr x)
    | some (.array len el) => (sizeOf P el).bind fun n => (aggOf P el).bind fun g => (cOpnd gl x).bind fun x => (cOpnd gl i).map (.idxAgg n g len x)
    | _ => none
  | .extract x i => (cOpnd gl x).map (.extract · i)
  | .call c => cCall P gl md c o.type
  | _ => none

/-! ### Which slots are read behind the region that writes them -/

def tmpOf : Opnd → List Nat
  | .tmp t => [t]
  | .const _ => []

def readsOf : AOp → List Nat
  | .mov x | .box _ x | .load _ _ x | .nilck x | .isnil _ _ x | .un _ x | .toInt _ x | .strBytes _ x | .bytesStr x | .mkif _ x | .fieldA _ x | .range x | .next x
  | .field _ _ _ x | .extract x _ | .tassert _ _ _ x | .len _ x => tmpOf x
  | .pick c a b => tmpOf c ++ tmpOf a ++ tmpOf b
  | .alloc _ | .stuck => []
  | .build _ ps => ps.flatMap fun x => tmpOf x.2.2
  | .buildSl _ _ _ _ ps => ps.flatMap fun x => tmpOf x.2
  | .store _ a x => tmpOf a ++ tmpOf x
  | .bin _ x y | .binB _ x y | .idxA _ x y | .idxArr _ _ x y | .idxStr x y | .idxAgg _ _ _ x y | .append _ x y | .appendT _ _ x y | .appendBox _ x y | .eqv _ _ x y | .makeSl _ _ _ x y | .copyB x y => tmpOf x ++ tmpOf y
  | .slice _ x lo hi mx => tmpOf x ++ (lo.map tmpOf).getD [] ++ (hi.map tmpOf).getD [] ++ (mx.map tmpOf).getD []
  | .minmax _ xs | .call _ xs | .callQ _ xs | .mkfn _ xs => xs.flatMap tmpOf
  | .callv x xs => tmpOf x ++ xs.flatMap tmpOf
  | .loadN t _ _ x => t :: tmpOf x
  | .storeN t _ a x => t :: (tmpOf a ++ tmpOf x)

def outer : List AOper → List Nat → List Nat      -- the slots that are read and were not written here before
  | [], _ => []
  | o :: r, w => (readsOf o.op ++ (o.guard.map fun g => [g.1]).getD []).filter (fun t => !w.contains t) ++ outer r (o.dst.toList ++ w)

def readsC : ACode → List Nat
  | .ops l _ _ => outer l []
  | .seq a b => readsC a ++ readsC b
  | .cond c a b => tmpOf c ++ readsC a ++ readsC b
  | .block _ a | .loop a | .scope a => readsC a
  | _ => []

def dedup : List Nat → List Nat
  | [] => []
  | x :: xs => if xs.contains x then dedup xs else x :: dedup xs

def setKeep (k : List Nat) : ACode → ACode
  | .ops l d _ => .ops l d k
  | .seq a b => .seq (setKeep k a) (setKeep k b)
  | .cond c a b => .cond c (setKeep k a) (setKeep k b)
  | .block i a => .block i (setKeep k a)
  | .loop a => .loop (setKeep k a)
  | .scope a => .scope (setKeep k a)
  | c => c

/-- Is it a call of the program's own code? -/
def isCall : AOp → Bool
  | .call _ _ | .callv _ _ | .callQ _ _ => true
  | _ => false
def isCallOp : Op → Bool
  | .call _ => true
  | _ => false

/-! ### Regions, code, functions -/

def inAnn (l : List (Nat × Nat)) (r i : Nat) : Bool := l.any fun x => x.1 == r && x.2 == i

def cGuard (ops : Array Oper) : Option (Nat × Bool) → Option (Option (Nat × Bool))
  | none => some none
  | some (j, want) => ((ops[j]?).bind (·.dst)).map fun d => some (d, want)

def okDst (nt : Nat) : Option Tmp → Bool
  | none => true
  | some d => d < nt

def notQ : AOp → Bool
  | .callQ _ _ | .loadN _ _ _ _ | .storeN _ _ _ _ => false
  | _ => true

def mode (an : Ann) (r i : Nat) : Nat := if inAnn an.boxes r i then 1 else if inAnn an.vals r i then 2 else 0

/-- What is not taken stands for nothing: where it is reached the machine has no answer. -/
def cOpS (P : Program) (gl : Globs) (md : Nat) (o : Oper) : Option AOp := some ((cOp P gl md o).getD .stuck)
def stuckC : ACode := .ops [⟨none, none, .stuck⟩] false []

def cOps (P : Program) (gl : Globs) (an : Ann) (nt id : Nat) (ops : Array Oper) : Nat → List Oper → Option (List AOper)
  | _, [] => some []
  | i, o :: r => (cOpS P gl (mode an id i) o).bind fun a => (cGuard ops o.guard).bind fun g =>
      if okDst nt o.dst && (!isCall a || isCallOp o.op) && notQ a then (cOps P gl an nt id ops (i + 1) r).map ({ dst := o.dst, guard := g, op := a } :: ·) else none

/-- In a region that draws its order: what is not quiet is ordered beside all that looks at the heap. -/
def quiet (d : Bool) : AOp → Bool
  | .call _ _ | .callv _ _ => d
  | .strBytes b _ => !b
  | .alloc _ | .box _ _ | .store _ _ _ | .appendBox _ _ _ | .appendT _ _ _ _ | .makeSl _ _ _ _ _ | .copyB _ _ | .range _ | .next _ | .storeN _ _ _ _ | .stuck => false
  | _ => true
def looks : AOp → Bool
  | .strBytes b _ => b
  | .alloc _ | .box _ _ | .store _ _ _ | .appendBox _ _ _ | .appendT _ _ _ _ | .makeSl _ _ _ _ _ | .copyB _ _ | .range _ | .next _ | .storeN _ _ _ _ | .loadN _ _ _ _ | .stuck | .load _ _ _ | .call _ _ | .callv _ _ | .callQ _ _ | .bytesStr _ | .append _ _ _ => true
  | _ => false

def names (o : AOper) : List Nat := o.dst.toList ++ readsOf o.op ++ (o.guard.map fun g => [g.1]).getD []

/-- A box is written beside another that is read. -/
def partsB : AOp → AOp → Bool
  | .loadN t _ _ _, .storeN s _ _ _ | .storeN s _ _ _, .loadN t _ _ _ => t == s
  | _, _ => false
def apartB (d : Bool) (x y : AOper) : Bool :=
  (x.dst.toList.all fun d => !(names y).contains d) && (y.dst.toList.all fun d => !(names x).contains d) &&
  (partsB x.op y.op || ((quiet d x.op || !looks y.op) && (quiet d y.op || !looks x.op)))

/-- The operations that must come before one. -/
def dirs (o : Oper) : List Nat := o.after.toList.filterMap fun e => if Region.binds .any e then some e.on else none
def dirsAt (ops : Array Oper) (i : Nat) : List Nat := ((ops[i]?).map dirs).getD []
def ordB (ops : Array Oper) : Nat → Nat → Nat → Bool
  | 0, _, _ => false
  | n + 1, y, i => (dirsAt ops i).any fun m => m == y || ordB ops n y m

def pairOk (d : Bool) (ops : Array Oper) (l : List AOper) (y i : Nat) : Bool :=
  match l[y]?, l[i]? with
  | some a, some b => apartB d a b || ordB ops 5 y i
  | _, _ => false

def drawOk (d : Bool) (ops : Array Oper) (l : List AOper) : Bool :=
  (List.range l.length).all fun i => (dirsAt ops i).all (fun m => decide (m < i)) && (List.range i).all fun y => pairOk d ops l y i

/-- A call that stands in no order beside what looks at the heap must leave the heap. -/
def uq : AOp → AOp
  | .callQ f xs => .call f xs
  | .loadN _ n g a => .load n g a
  | .storeN _ n a x => .store n a x
  | a => a
def quieten (ops : Array Oper) (l : List AOper) : Nat → List AOper → List AOper
  | _, [] => []
  | i, x :: r => (match x.op with
      | .call f xs => if (List.range l.length).all fun j => j == i || pairOk false ops l (min i j) (max i j) then x else { x with op := .callQ f xs }
      | _ => x) :: quieten ops l (i + 1) r

/-- Loads and stores of a region of which it is said that the stores write one box and the loads read others. -/
def partOp (t : Nat) : AOp → AOp
  | .load n g a => .loadN t n g a
  | .store n a x => .storeN t n a x
  | a => a
def findApart : List (Nat × Nat) → Nat → Option Nat
  | [], _ => none
  | (r, t) :: l, id => if r = id then some t else findApart l id
def partOps (an : Ann) (id : Nat) (l : List AOper) : List AOper := match findApart an.apart id with
  | none => l
  | some t => l.map fun x => { x with op := partOp t x.op }

def cCode (P : Program) (gl : Globs) (an : Ann) (nt : Nat) : Code → Option ACode
  | .skip => some .skip
  | .region id ops draw => (cOps P gl an nt id ops 0 ops.toList).bind fun l =>
      if draw then (if P.follows .mixedOrders then (if drawOk false ops (partOps an id (quieten ops l 0 l)) then some (.ops (partOps an id (quieten ops l 0 l)) false []) else some stuckC) else some stuckC) else some (.ops l false [])
  | .seq a b => (cCode P gl an nt a).bind fun a => (cCode P gl an nt b).map (.seq a)
  | .cond c a b => (cOpnd gl c).bind fun c => (cCode P gl an nt a).bind fun a => (cCode P gl an nt b).map (.cond c a)
  | .block id a => (cCode P gl an nt a).map (.block id)
  | .loop a => (cCode P gl an nt a).map .loop
  | .exit id => some (.exit id)
  | .ret => some .ret
  | _ => some stuckC

def cResults (P : Program) : List ResultVar → Option (List (Nat × Option (Nat × Bool)))
  | [] => some []
  | .tmp t :: r => (cResults P r).map ((t, none) :: ·)
  | .cell t ty :: r => (sizeOf P ty).bind fun n => (aggOf P ty).bind fun g => if g || n == 1 then (cResults P r).map ((t, some (n, g)) :: ·) else none

def cFn (P : Program) (gl : Globs) (an : Ann) (fn : Func) : Option AFn :=
  fn.body.bind fun c => (cResults P fn.results.toList).bind fun rs => (cCode P gl an fn.ntmps c).bind fun a =>
    if fn.params.size ≤ fn.ntmps ∧ fn.name ≠ "runtime.NumGoroutine" then some { results := rs, body := setKeep (dedup (readsC a ++ rs.map (·.1))) a, keep := an.keep, own := an.own } else none

end Go.Am
