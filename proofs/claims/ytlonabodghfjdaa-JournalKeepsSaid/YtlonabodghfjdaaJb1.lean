/- The abstract machine 'Am': pure values, a heap of boxes, no order draws, no capacities. Definitions alone. | 'Am': more fuel answers the same; the machine without fuel, and its equations. | 'Am': the equations by which simp evaluates. | 'Am': from the loaded program's code to the abstract machine's code. Definitions alone. | 'Am': on the machine alone: what an operation hangs on; operations that change places; pointers that stay below. | 'Am': old boxes never point at younger ones. | 'Am': how the abstract machine's values and boxes stand for the program's memory. | 'Am': each operation of the program does what the machine's does. | 'Am': the operations, one by one. | 'Am': the operations, one by one (second part). | 'Am': the operations, one by one (third part): what makes and reads slices. | 'Am': the operations, one by one (fourth part): slices and structs that are made.
   By the session's AI agent. -/
import Derived.Calls
import GoSem.Core.Utf8
import Derived.Below
import Derived.Laws.Append
import Derived.Laws.CopyRow
import Derived.WalkKit
import Derived.ChangeKeysEq
import Derived.MapKept
namespace Go.Am
set_option linter.unusedVariables false
set_option linter.unusedSimpArgs false
noncomputable section
noncomputable def _root_.Option.bnd {α β:Type} (f:α→Option β) (x:Option α):Option β:=Option.rec (motive:=fun _=>Option β) none f x
@[congr] theorem _root_.Option.bnd_congr {α β:Type} {x y:Option α} {f:α→Option β} (h:x=y):x.bnd f=y.bnd f:=by rw [h]
theorem _root_.Option.bnd_some {α β:Type} (a:α) (f:α→Option β):(some a).bnd f=f a:=(rfl)
theorem _root_.Option.bnd_none {α β:Type} (f:α→Option β):(none:Option α).bnd f=none:=(rfl)
theorem _root_.Option.bnd_ite {α β:Type} {c:Prop} [Decidable c] (x y:Option α) (f:α→Option β):(if c then x else y).bnd f=if c then x.bnd f else y.bnd f:=by
 split <;> rfl
theorem _root_.Option.bnd_eq_some_iff {α β:Type} {x:Option α} {f:α→Option β} {b:β}:x.bnd f=some b ↔ ∃ a,x=some a∧f a=some b:=by
 cases x <;> simp [Option.bnd]
inductive Own where
 | no | full | tok (t:Nat)
 deriving DecidableEq
inductive PV where
 | undef
 | bool (b:Bool)
 | int (k:IntKind) (n:Int)
 | str (s:List UInt8)
 | nilp
 | bnil (T:Nat)
 | ptr (b off:Nat)
 | ep (e:List PV) (off:Nat)
 | nils
 | sl (o:Own) (sz:Nat) (es:List PV)
 | bsl (full:Bool) (b off len sz:Nat)
 | nilif
 | iface (t:Nat) (v:PV)
 | nilf
 | fn (f:Nat) (cap:List PV)
 | agg (cs:List PV)
 | tup (vs:List PV)
 | it (b:Nat)
 | nilm
 | mref (b:Nat)
 deriving Inhabited
mutual
def PV.eqB:PV→PV→Bool
 | .undef,.undef=>true
 | .bool a,.bool b=>a == b
 | .int k a,.int j b=>decide (k=j) && a == b
 | .str a,.str b=>a == b
 | .nilp,.nilp=>true
 | .bnil a,.bnil b=>a == b
 | .ptr a b,.ptr c d=>a == c && b == d
 | .ep e o,.ep e' o'=>PV.eqBs e e' && o == o'
 | .nils,.nils=>true
 | .sl o s es,.sl o' s' es'=>decide (o=o') && s == s' && PV.eqBs es es'
 | .bsl f a b c d,.bsl f' a' b' c' d'=>f == f' && a == a' && b == b' && c == c' && d == d'
 | .nilif,.nilif=>true
 | .iface t v,.iface t' v'=>t == t' && PV.eqB v v'
 | .nilf,.nilf=>true
 | .fn f c,.fn f' c'=>f == f' && PV.eqBs c c'
 | .agg cs,.agg cs'=>PV.eqBs cs cs'
 | .tup cs,.tup cs'=>PV.eqBs cs cs'
 | .it b,.it c=>b == c
 | .nilm,.nilm=>true
 | .mref b,.mref c=>b == c
 | _,_=>false
def PV.eqBs:List PV→List PV→Bool
 | [],[]=>true
 | x :: xs,y :: ys=>PV.eqB x y && PV.eqBs xs ys
 | _,_=>false
end
mutual
theorem PV.eqB_iff:∀ (a b:PV),PV.eqB a b=true ↔ a=b:=by
 intro a b
 cases a <;> cases b <;> simp [PV.eqB,PV.eqBs_iff,PV.eqB_iff,and_assoc]
theorem PV.eqBs_iff:∀ (a b:List PV),PV.eqBs a b=true ↔ a=b:=by
 intro a b
 cases a <;> cases b <;> simp [PV.eqBs,PV.eqBs_iff,PV.eqB_iff]
end
instance:DecidableEq PV:=fun a b=>decidable_of_iff _ (PV.eqB_iff a b)
inductive Box where
 | cells (cs:List PV)
 | tok (n T:Nat)
 | iter (s:List UInt8) (pos:Nat)
 | map (es:List (PV × PV))
 | dead
 deriving DecidableEq,Inhabited
abbrev Hp:=List Box
abbrev Env:=List (Nat × PV)
def size (h:Hp):Nat:=h.length
def cellsOf:Box→Option (List PV)
 | .cells cs=>some cs
 | _=>none
def tokOf:Box→Option (Nat × Nat)
 | .tok n T=>some (n,T)
 | _=>none
def iterOf:Box→Option (List UInt8 × Nat)
 | .iter s p=>some (s,p)
 | _=>none
def mapOf:Box→Option (List (PV × PV))
 | .map es=>some es
 | _=>none
def box? (h:Hp) (b:Nat):Option Box:=h[b]?
def getBox (h:Hp) (b:Nat):Option (List PV):=(box? h b).bnd cellsOf
def getTok (h:Hp) (b:Nat):Option (Nat × Nat):=(box? h b).bnd tokOf
def getIter (h:Hp) (b:Nat):Option (List UInt8 × Nat):=(box? h b).bnd iterOf
def getMap (h:Hp) (b:Nat):Option (List (PV × PV)):=(box? h b).bnd mapOf
def setBx (h:Hp) (b:Nat) (c:Box):Hp:=h.set b c
def setBox (h:Hp) (b:Nat) (c:List PV):Hp:=setBx h b (.cells c)
def ext (h l:Hp):Hp:=h ++ l
def trunc (h:Hp) (n:Nat):Hp:=h.take n
def look:Env→Nat→Option PV
 | [],_=>none
 |(i,v) :: e,t=>if i=t then some v else look e t
def Own.strip:Own→Own
 | .tok _=>.no
 | o=>o
mutual
def strip:PV→PV
 | .sl o sz es=>.sl o.strip sz es
 | .agg cs=>.agg (strips cs)
 | .tup cs=>.tup (strips cs)
 | .iface t v=>.iface t (strip v)
 | .fn f cs=>.fn f (strips cs)
 | v=>v
def strips:List PV→List PV
 | []=>[]
 | v :: vs=>strip v :: strips vs
end
def PV.cells:PV→List PV
 | .agg cs=>cs
 | v=>[v]
inductive Opnd where
 | tmp (t:Nat)
 | const (v:PV)
def ev (e:Env):Opnd→Option PV
 | .tmp t=>look e t
 | .const v=>some v
def evs (e:Env):List Opnd→Option (List PV)
 | []=>some []
 | x :: xs=>(ev e x).bnd fun v=>(evs e xs).bnd fun vs=>some (v :: vs)
inductive GenOp where
 | makeMap
 | lookup (ks:List Nat) (agg:Bool) (z:PV) (ok:Bool)
 | mapUpd (ks:List Nat) (agg:Bool)
 | mapDel (ks:List Nat) (agg:Bool)
 | mapLen
 | sliceBox (cs:List PV)
 | mark
 | appK (sz:Nat)
 deriving DecidableEq
inductive AOp where
 | mov (x:Opnd)
 | pick (c a b:Opnd)
 | alloc (zero:List PV)
 | box (n:Nat) (x:Opnd)
 | build (zero:List PV) (parts:List (Nat × Nat × Opnd))
 | buildSl (sz:Nat) (agg:Bool) (zero:List PV) (len:Nat) (parts:List (Nat × Opnd))
 | load (n:Nat) (agg:Bool) (a:Opnd)
 | store (n:Nat) (a x:Opnd)
 | nilck (x:Opnd)
 | bin (op:BinOp) (x y:Opnd)
 | binB (neg:Bool) (x y:Opnd)
 | isnil (kind:Nat) (neg:Bool) (x:Opnd)
 | un (op:UnOp) (x:Opnd)
 | toInt (k:IntKind) (x:Opnd)
 | strBytes (box:Bool) (x:Opnd)
 | bytesStr (x:Opnd)
 | mkfn (f:Nat) (cap:List Opnd)
 | makeSl (T:Nat) (z:List PV) (agg:Bool) (len cap:Opnd)
 | copyB (d x:Opnd)
 | range (x:Opnd)
 | next (x:Opnd)
 | eqv (neg:Bool) (ks:List Nat) (x y:Opnd)
 | mkif (t:Nat) (x:Opnd)
 | slice (sz:Option Nat) (x:Opnd) (lo hi mx:Option Opnd)
 | fieldA (off:Nat) (x:Opnd)
 | field (off n:Nat) (agg:Bool) (x:Opnd)
 | idxA (sz:Nat) (x i:Opnd)
 | idxArr (sz len:Nat) (x i:Opnd)
 | idxStr (x i:Opnd)
 | idxAgg (sz:Nat) (agg:Bool) (len:Nat) (x i:Opnd)
 | extract (x:Opnd) (i:Nat)
 | tassert (t:Nat) (ok:Bool) (zero:PV) (x:Opnd)
 | len (str:Bool) (x:Opnd)
 | minmax (max:Bool) (xs:List Opnd)
 | append (sz:Nat) (s x:Opnd)
 | appendT (T sz:Nat) (s x:Opnd)
 | appendBox (sz:Nat) (s x:Opnd)
 | call (f:Nat) (args:List Opnd)
 | callv (x:Opnd) (args:List Opnd)
 | callQ (f:Nat) (args:List Opnd)
 | loadN (t n:Nat) (agg:Bool) (a:Opnd)
 | storeN (t n:Nat) (a x:Opnd)
 | gen (k:GenOp) (xs:List Opnd)
 | stuck
structure AOper where
 dst:Option Nat
 guard:Option (Nat × Bool)
 op:AOp
inductive ACode where
 | skip
 | ops (l:List AOper) (draw:Bool) (keep:List Nat)
 | seq (a b:ACode)
 | cond (c:Opnd) (a b:ACode)
 | block (id:Nat) (a:ACode)
 | loop (a:ACode)
 | scope (a:ACode)
 | exit (id:Nat)
 | ret
structure AFn where
 results:List (Nat × Option (Nat × Bool))
 body:ACode
 keep:Bool:=false
 own:Bool:=false
inductive AItem where
 | code (f:AFn)
 | prim (g:List PV→Hp→Option (PV × Option (Nat × List PV)))
 | primN (g:List PV→Hp→Option (PV × List Box))
abbrev Table:=Nat→Option AItem
/-! ### Plain parts -/
def lim2:Nat:=17179869184      -- 2 ^ 34: how long a slice may get by append
def limS:Nat:=4611686018427387904      -- 2 ^ 62
def scalar:PV→Bool
 | .undef | .agg _ | .tup _ | .it _ | .bnil _=>false
 | _=>true
def part (cs:List PV) (off n:Nat) (agg:Bool):Option PV :=
 if agg then (if off+n≤cs.length then some (.agg ((cs.drop off).take n)) else none)
 else cs[off]?
def setRange:List PV→Nat→List PV→List PV
 | cs,_,[]=>cs
 | cs,off,v :: vs=>setRange (cs.set off v) (off+1) vs
def chunks (sz:Nat) (agg:Bool):Nat→List PV→List PV
 | 0,_=>[]
 | n+1,cs=>(if agg then .agg (cs.take sz) else (cs.headD .undef)) :: chunks sz agg n (cs.drop sz)
def elems (h:Hp):PV→Option (List PV)
 | .nils=>some []
 | .sl _ _ es=>some es
 | .bsl _ b off len sz=>if sz=1 then (getBox h b).bnd fun cs=>if off+len≤cs.length∧((cs.drop off).take len).all scalar=true then some ((cs.drop off).take len) else none else none
 | .str s=>some (s.map fun c=>.int .u8 c.toNat)
 | _=>none
def bytesOf:List PV→Option (List UInt8)
 | []=>some []
 | .int .u8 n :: r=>(bytesOf r).map fun l=>UInt8.ofNat n.toNat :: l
 | _=>none
def fillParts (sz:Nat):List (Nat × PV)→List PV→Option (List PV)
 | [],cs=>some cs
 |(i,v) :: r,cs=>if v.cells.length=sz∧i < cs.length∧v.cells.all scalar=true then fillParts sz r (cs.set i v) else none
def buildAgg:List (Nat × Nat × PV)→List PV→Option (List PV)
 | [],cs=>some cs
 |(off,n,v) :: r,cs=>if v.cells.length=n∧off+n≤cs.length∧v.cells.all scalar=true then buildAgg r (setRange cs off v.cells) else none
def evParts (e:Env):List (Nat × Opnd)→Option (List (Nat × PV))
 | []=>some []
 |(i,x) :: r=>(ev e x).bnd fun v=>(evParts e r).map fun l=>(i,strip v) :: l
def evParts3 (e:Env):List (Nat × Nat × Opnd)→Option (List (Nat × Nat × PV))
 | []=>some []
 |(i,n,x) :: r=>(ev e x).bnd fun v=>(evParts3 e r).map fun l=>(i,n,v) :: l
def intBits (op:BinOp) (k:IntKind) (x y:Int):Option PV :=
 let a:=BitVec.ofInt k.bits x
 let b:=BitVec.ofInt k.bits y
 match op with
 | .and=>some (.int k (k.wrap (a &&& b).toNat))
 | .or=>some (.int k (k.wrap (a ||| b).toNat))
 | .xor=>some (.int k (k.wrap (a ^^^ b).toNat))
 | .andNot=>some (.int k (k.wrap (a &&& ~~~b).toNat))
 | _=>none
def intOp (op:BinOp) (k:IntKind) (a b:Int):Option PV :=
 match op with
 | .add=>some (.int k (k.wrap (a+b)))
 | .sub=>some (.int k (k.wrap (a - b)))
 | .mul=>some (.int k (k.wrap (a * b)))
 | .quo=>if b=0 then none else some (.int k (k.wrap (a.tdiv b)))
 | .rem=>if b=0 then none else some (.int k (a.tmod b))
 | .eql=>some (.bool (a == b))
 | .neq=>some (.bool (a != b))
 | .lss=>some (.bool (decide (a < b)))
 | .leq=>some (.bool (decide (a≤b)))
 | .gtr=>some (.bool (decide (a > b)))
 | .geq=>some (.bool (decide (a ≥ b)))
 | op=>intBits op k a b
def shiftOp (op:BinOp) (k:IntKind) (a b:Int):Option PV :=
 if b < 0 then none else
 match op with
 | .shl=>some (.int k (k.wrap (a * 2 ^ (min b.toNat k.bits))))
 | .shr=>some (.int k (a.fdiv (2 ^ (min b.toNat k.bits))))
 | _=>none
def bytesLess:List UInt8→List UInt8→Bool
 | _,[]=>false
 | [],_ :: _=>true
 | a :: x,b :: y=>a < b || (a == b && bytesLess x y)
def strOp (op:BinOp) (x y:List UInt8):Option PV :=
 match op with
 | .add=>if x.length+y.length≤limS then some (.str (x ++ y)) else none
 | .eql=>some (.bool (x == y))
 | .neq=>some (.bool (x != y))
 | .lss=>some (.bool (bytesLess x y))
 | .leq=>some (.bool (bytesLess x y || x == y))
 | .gtr=>some (.bool (!(bytesLess x y || x == y)))
 | .geq=>some (.bool (!(bytesLess x y)))
 | _=>none
def isShift:BinOp→Bool
 | .shl | .shr=>true
 | _=>false
def binOp (op:BinOp):PV→PV→Option PV
 | .int k a,.int j b=>if isShift op then shiftOp op k a b else if k=j then intOp op k a b else none
 | .str a,.str b=>strOp op a b
 | _,_=>none
def nilK:Nat→PV→Option Bool
 | 0,.nilp=>some true
 | 0,.bnil _=>some true
 | 0,.ptr _ _=>some false
 | 0,.ep _ _=>some false
 | 1,.nils=>some true
 | 1,.sl _ _ _=>some false
 | 1,.bsl _ _ _ _ _=>some false
 | 2,.nilif=>some true
 | 2,.iface _ _=>some false
 | 3,.nilf=>some true
 | 3,.fn _ _=>some false
 | 4,.nilm=>some true
 | 4,.mref _=>some false
 | _,_=>none
def isNil:PV→Option Bool
 | .nilp | .nils | .nilif | .nilf | .bnil _=>some true
 | .ptr _ _ | .ep _ _ | .sl _ _ _ | .bsl _ _ _ _ _ | .iface _ _ | .fn _ _=>some false
 | _=>none
def unOp (op:UnOp):PV→Option PV
 | .bool b=>match op with
  | .not=>some (.bool (!b))
  | _=>none
 | .int k n=>match op with
  | .neg=>some (.int k (k.wrap (0 - n)))
  | .xor=>intBits .xor k (if k.signed then -1 else k.max) n
  | _=>none
 | _=>none
def ix (v:PV) (n:Nat):Option Nat :=
 match v with
 | .int _ i=>if 0≤i∧i < n then some i.toNat else none
 | _=>none
def bd (e:Env) (n dflt:Nat):Option Opnd→Option Nat
 | none=>some dflt
 | some x=>(ev e x).bnd fun v=>match v with
  | .int _ i=>if 0≤i∧i≤n then some i.toNat else none
  | _=>none
def isFull:Own→Bool
 | .full=>true
 | _=>false
def sliceOf (e:Env) (n:Option Nat) (lo hi mx:Option Opnd):PV→Option PV
 | .str s=>if mx.isSome∨n.isSome then none else
  (bd e s.length s.length hi).bnd fun hh=>(bd e hh 0 lo).bnd fun l=>some (.str ((s.drop l).take (hh - l)))
 | .nils=>if n.isSome then (bd e 0 0 mx).bnd fun m=>(bd e 0 0 hi).bnd fun hh=>(bd e 0 0 lo).bnd fun l=>some .nils else none
 | .sl o sz es=>if n=some sz then (bd e es.length es.length mx).bnd fun m=>(bd e m es.length hi).bnd fun hh=>(bd e hh 0 lo).bnd fun l =>
   some (.sl (if mx.isSome && m == hh then .full else if mx.isNone && isFull o && hh == es.length then .full else .no) sz ((es.drop l).take (hh - l)))
   else none
 | .bsl f b off len sz=>if n=some sz then (bd e len len mx).bnd fun m=>(bd e m len hi).bnd fun hh=>(bd e hh 0 lo).bnd fun l =>
   if hh - l=0 then some (.sl (if mx.isSome && m == hh then .full else .no) sz []) else some (.bsl (if mx.isSome && m == hh then true else mx.isNone && f && hh == len) b (off+l * sz) (hh - l) sz)
   else none
 | _=>none
def minMax2 (mx:Bool):PV→PV→Option PV
 | .int k x,.int _ y=>some (.int k (if mx then (if y > x then y else x) else (if y < x then y else x)))
 | _,_=>none
def minMax (mx:Bool):PV→List PV→Option PV
 | x,[]=>some x
 | x,y :: r=>(minMax2 mx x y).bnd fun z=>minMax mx z r
def Own.below (n:Nat):Own→Bool
 | .tok t=>decide (t < n)
 | _=>true
mutual
def below (n:Nat):PV→Bool
 | .ptr b _ | .bsl _ b _ _ _ | .it b | .mref b=>decide (b < n)
 | .ep e _=>belows n e
 | .sl o _ es=>o.below n && belows n es
 | .iface _ v=>below n v
 | .fn _ c=>belows n c
 | .agg cs=>belows n cs
 | .tup vs=>belows n vs
 | _=>true
def belows (n:Nat):List PV→Bool
 | []=>true
 | v :: vs=>below n v && belows n vs
end
def fullEs (h:Hp) (v:PV):Option (List PV):=match v with
 | .nils=>some []
 | .sl .full _ es=>some es
 | .bsl true b off len sz=>elems h (.bsl true b off len sz)
 | _=>none
def canAppend:Own→Bool
 | .full=>true
 | _=>false
def condB {α:Type} (v:PV) (x y:Option α):Option α :=
 match v with
 | .bool true=>x
 | .bool false=>y
 | _=>none
theorem condB_true {α:Type} (x y:Option α):condB (.bool true) x y=x:=(rfl)
theorem condB_false {α:Type} (x y:Option α):condB (.bool false) x y=y:=(rfl)
theorem condB_some {α:Type} {v:PV} {x y:Option α} {r:α}:condB v x y=some r ↔ (v=.bool true∧x=some r)∨(v=.bool false∧y=some r):=by
 cases v with
 | bool b=>cases b <;> simp [condB]
 | _=>simp [condB]
theorem condB_b {α:Type} (b:Bool) (x y:Option α):condB (.bool b) x y=if b=true then x else y:=by cases b <;> rfl
def makeN (l c:PV):Option (Nat × Nat) :=
 match l,c with
 | .int _ l,.int _ c=>if 0≤l∧l≤c∧c≤lim2 then some (l.toNat,c.toNat) else none
 | _,_=>none
def runeAt (s:List UInt8) (pos:Nat):Nat × Nat:=Utf8.decode ⟨s.toArray⟩ pos
def eqCell:Nat→PV→PV→Option Bool
 | 0,.bool a,.bool b=>some (a == b)
 | 1,.int k a,.int j b=>if k=j then some (a == b) else none
 | 2,.str a,.str b=>some (a == b)
 | _,_,_=>none
def eqCells:List Nat→List PV→List PV→Option Bool
 | [],[],[]=>some true
 | k :: ks,x :: xs,y :: ys=>(eqCell k x y).bnd fun b=>(eqCells ks xs ys).bnd fun c=>some (b && c)
 | _,_,_=>none
def fits (sz:Nat) (x:PV):Bool:=x.cells.length == sz && x.cells.all scalar
def growT (h:Hp) (T sz:Nat) (v:PV) (xs:List PV):Option (PV × Hp) :=
 if xs.all (fits sz) then
 match v with
 | .nils=>if xs.length≤lim2 then some (if xs.isEmpty then (.nils,h) else (.sl (.tok (size h)) sz (strips xs),ext h [.tok xs.length T])) else none
 | .sl .full sz' es=>if sz'=sz∧es.length+xs.length≤lim2 then some (if xs.isEmpty then (.sl .full sz es,h) else (.sl (.tok (size h)) sz (es ++ strips xs),ext h [.tok (es.length+xs.length) T])) else none
 | .sl (.tok t) sz' es=>(getTok h t).bnd fun n=>if sz'=sz∧n=(es.length,T)∧es.length+xs.length≤lim2 then some (.sl (.tok t) sz (es ++ strips xs),setBx h t (.tok (es.length+xs.length) T)) else none
 | _=>none
 else none
def elemsOf (sz len:Nat) (cs:List PV):Option (List PV) :=
 if sz=1 then (if len≤cs.length∧(cs.take len).all scalar=true then some (strips (cs.take len)) else none)
 else if sz≠0∧len * sz≤cs.length then some (chunks sz true len (strips cs)) else none
mutual
def frz (n0:Nat) (h:Hp):PV→Option PV
 | .sl o sz es=>some (.sl o.strip sz es)
 | .bsl f b off len sz=>if b < n0 then some (.bsl f b off len sz) else
   (getBox h b).bnd fun cs=>(elemsOf sz len (cs.drop off)).bnd fun es=>some (.sl (if f then .full else .no) sz es)
 | .agg cs=>(frzs n0 h cs).bnd fun cs=>some (.agg cs)
 | .tup cs=>(frzs n0 h cs).bnd fun cs=>some (.tup cs)
 | .iface t v=>(frz n0 h v).bnd fun v=>some (.iface t v)
 | v=>some v
def frzs (n0:Nat) (h:Hp):List PV→Option (List PV)
 | []=>some []
 | v :: vs=>(frz n0 h v).bnd fun v=>(frzs n0 h vs).bnd fun vs=>some (v :: vs)
end
def forget (h:Hp) (r:PV × Hp):Option (PV × Hp):=if r.2=h then some r else
 (frz (size h) r.2 r.1).bnd fun v=>if below (size h) v=true∧size h≤size r.2∧trunc r.2 (size h)=h then some (v,h) else none
def orcQ (orc:Nat→List PV→Hp→Option (PV × Hp)):Nat→List PV→Hp→Option (PV × Hp):=fun f vs h=>(orc f vs h).bnd (forget h)
def keyOk (ks:List Nat) (agg:Bool) (k:PV):Bool:=match k with
 | .agg cs=>agg && cs.length == ks.length
 | _=>!agg
def eqKey (ks:List Nat):Bool→PV→PV→Option Bool
 | true,.agg cs,.agg ds=>eqCells ks cs ds
 | false,x,y=>eqCell (ks.headD 3) x y
 | _,_,_=>none
def findM (ks:List Nat) (agg:Bool) (k:PV):List (PV × PV)→Nat→Option (Option Nat)
 | [],_=>some none
 | e :: r,i=>(eqKey ks agg k e.1).bnd fun b=>if b then some (some i) else findM ks agg k r (i+1)
def entriesOf (h:Hp):PV→Option (List (PV × PV))
 | .nilm=>some []
 | .mref b=>getMap h b
 | _=>none
def lookM (z:PV) (es:List (PV × PV)):Option Nat→Option (PV × Bool)
 | none=>some (z,false)
 | some i=>(es[i]?).bnd fun e=>some (e.2,true)
def updM (k v:PV) (es:List (PV × PV)):Option Nat→List (PV × PV)
 | none=>es ++ [(k,v)]
 | some i=>es.set i (k,v)
def leftK (h:Hp) (sz:Nat):PV→Option (Nat × List PV × Hp)
 | .nils=>some (0,[],h)
 | .sl .full sz' es=>if sz'=sz then some (es.length,es.flatMap PV.cells,h) else none
 | .bsl _ b off len sz'=>(getBox h b).bnd fun cs=>if sz'=sz∧off=0∧len * sz≤cs.length then some (len,cs.take (len * sz),setBx h b .dead) else none
 | _=>none
def delM (es:List (PV × PV)):Option Nat→List (PV × PV)
 | none=>es
 | some i=>es.eraseIdx i
def genV (base:Nat) (h:Hp):GenOp→List PV→Option (PV × Hp)
 | .makeMap,[]=>some (.mref (size h),ext h [.map []])
 | .lookup ks agg z ok,[m,k]=>(entriesOf h m).bnd fun es=>if keyOk ks agg k then (findM ks agg k es 0).bnd fun i=>(lookM z es i).bnd fun r =>
   some (if ok then .tup [r.1,.bool r.2] else r.1,h) else none
 | .mapUpd ks agg,[m,k,v]=>match m with
  | .mref b=>(getMap h b).bnd fun es=>if keyOk ks agg k∧k.cells.all scalar=true∧v.cells.all scalar=true∧(b < base→below 0 (strip k)=true∧below 0 (strip v)=true) then (findM ks agg k es 0).bnd fun i =>
    some (.undef,setBx h b (.map (updM (strip k) (strip v) es i))) else none
  | _=>none
 | .mapDel ks agg,[m,k]=>match m with
  | .nilm=>if keyOk ks agg k then some (.tup [],h) else none
  | .mref b=>(getMap h b).bnd fun es=>if keyOk ks agg k then (findM ks agg k es 0).bnd fun i=>some (.tup [],setBx h b (.map (delM es i))) else none
  | _=>none
 | .sliceBox cs,[]=>some (.bsl true (size h) 0 cs.length 1,ext h [.cells cs])
 | .mark,[p]=>match p with
  | .bsl _ b _ _ _=>(getBox h b).bnd fun _=>some (p,h)
  | _=>none
 | .appK sz,[v,u]=>(elems h u).bnd fun xs=>(leftK h sz v).bnd fun l=>if xs=[] then some (v,h) else
   if xs.all (fits sz)=true∧l.1+xs.length≤lim2∧l.2.1.all scalar=true then some (.bsl false (size h) 0 (l.1+xs.length) sz,ext l.2.2 [.cells (l.2.1 ++ xs.flatMap PV.cells)]) else none
 | .mapLen,[m]=>(entriesOf h m).bnd fun es=>some (.int .i64 es.length,h)
 | _,_=>none
def step (orc:Nat→List PV→Hp→Option (PV × Hp)) (base:Nat) (draw:Bool) (op:AOp) (e:Env) (h:Hp):Option (PV × Env × Hp) :=
 match op with
 | .mov x=>(ev e x).bnd fun v=>some (v,e,h)
 | .pick c a b=>(ev e c).bnd fun v=>condB v ((ev e a).bnd fun v=>some (v,e,h)) ((ev e b).bnd fun v=>some (v,e,h))
 | .alloc z=>some (.ptr (size h) 0,e,ext h [.cells z])
 | .box n x=>(ev e x).bnd fun v=>if v.cells.length=n∧v.cells.all scalar=true then some (.ptr (size h) 0,e,ext h [.cells v.cells]) else none
 | .build z ps=>(evParts3 e ps).bnd fun l=>(buildAgg l z).bnd fun cs=>some (.agg cs,e,h)
 | .buildSl sz agg z len ps=>(evParts e ps).bnd fun l =>
   (fillParts sz l (List.replicate len (if agg then .agg z else z.headD .undef))).bnd fun es=>some (.sl .full sz es,e,h)
 | .load n agg a=>(ev e a).bnd fun v=>match v with
  | .ptr b off=>(getBox h b).bnd fun cs=>(part cs off n agg).bnd fun r=>some (r,e,h)
  | .ep cs off=>(part cs off n agg).bnd fun r=>some (r,e,h)
  | _=>none
 | .store n a x=>(ev e a).bnd fun v=>(ev e x).bnd fun u=>match v with
  | .ptr b off=>(getBox h b).bnd fun cs =>
    if u.cells.length=n∧off+n≤cs.length∧u.cells.all scalar=true∧(b < base→belows 0 (strips u.cells)=true)
    then some (.undef,e,setBox h b (setRange cs off (if b < base then strips u.cells else u.cells))) else none
  | _=>none
 | .nilck x=>(ev e x).bnd fun v=>match isNil v with
  | some false=>some (v,e,h)
  | _=>none
 | .bin op x y=>(ev e x).bnd fun a=>(ev e y).bnd fun b=>(binOp op a b).bnd fun r=>some (r,e,h)
 | .binB neg x y=>(ev e x).bnd fun a=>(ev e y).bnd fun b=>match a,b with
  | .bool a,.bool b=>some (.bool (if neg then a != b else a == b),e,h)
  | _,_=>none
 | .isnil kd neg x=>(ev e x).bnd fun v=>(nilK kd v).bnd fun b=>some (.bool (if neg then !b else b),e,h)
 | .un op x=>(ev e x).bnd fun a=>(unOp op a).bnd fun r=>some (r,e,h)
 | .toInt k x=>(ev e x).bnd fun v=>match v with
  | .int _ n=>some (.int k (k.wrap n),e,h)
  | _=>none
 | .strBytes box x=>(ev e x).bnd fun v=>match v with
  | .str s=>if s.length≤limS then (if box then some (.bsl false (size h) 0 s.length 1,e,ext h [.cells (s.map fun c=>.int .u8 c.toNat)]) else some (.sl .no 1 (s.map fun c=>.int .u8 c.toNat),e,h)) else none
  | _=>none
 | .bytesStr x=>(ev e x).bnd fun v=>match v with
  | .str _=>none
  | v=>(elems h v).bnd fun es=>(bytesOf es).bnd fun s=>some (.str s,e,h)
 | .mkif t x=>(ev e x).bnd fun v=>some (.iface t v,e,h)
 | .mkfn f cap=>(evs e cap).bnd fun vs=>some (.fn f vs,e,h)
 | .makeSl T z agg len cap=>(ev e len).bnd fun l=>(ev e cap).bnd fun c=>(makeN l c).bnd fun n =>
   if n.1=n.2 then some (.bsl true (size h) 0 n.1 z.length,e,ext h [.cells (List.flatten (List.replicate n.1 z))])
   else if n.1=0 then some (.sl (.tok (size h)) z.length [],e,ext h [.tok 0 T]) else none
 | .copyB d x=>(ev e d).bnd fun v=>(ev e x).bnd fun u=>(elems h u).bnd fun xs=>match v with
  | .bsl _ b off len sz=>(getBox h b).bnd fun cs =>
    if sz=1∧off+len≤cs.length∧xs.all scalar=true∧(b < base→belows 0 (xs.take len)=true)
    then some (.int .i64 (min xs.length len:Nat),e,setBox h b (setRange cs off (xs.take len))) else none
  | .nils=>some (.int .i64 0,e,h)
  | _=>none
 | .range x=>(ev e x).bnd fun v=>match v with
  | .str s=>some (.it (size h),e,ext h [.iter s 0])
  | _=>none
 | .next x=>(ev e x).bnd fun v=>match v with
  | .it b=>(getIter h b).bnd fun p =>
   if p.2 < p.1.length then some (.tup [.bool true,.int .i64 p.2,.int .i32 (runeAt p.1 p.2).1],e,setBx h b (.iter p.1 (p.2+(runeAt p.1 p.2).2)))
   else some (.tup [.bool false],e,h)
  | _=>none
 | .eqv neg ks x y=>(ev e x).bnd fun a=>(ev e y).bnd fun b=>match a,b with
  | .agg cs,.agg ds=>(eqCells ks cs ds).bnd fun b=>some (.bool (if neg then !b else b),e,h)
  | _,_=>none
 | .slice n x lo hi mx=>(ev e x).bnd fun v=>(sliceOf e n lo hi mx v).bnd fun r=>some (r,e,h)
 | .fieldA off x=>(ev e x).bnd fun v=>match v with
  | .ptr b o=>some (.ptr b (o+off),e,h)
  | .ep cs o=>some (.ep cs (o+off),e,h)
  | _=>none
 | .field off n agg x=>(ev e x).bnd fun v=>match v with
  | .agg cs=>(part cs off n agg).bnd fun r=>some (r,e,h)
  | _=>none
 | .idxA sz x i=>(ev e x).bnd fun v=>(ev e i).bnd fun i=>match v with
  | .sl _ sz' es=>if sz'=sz then (ix i es.length).bnd fun i=>(es[i]?).bnd fun w=>some (.ep w.cells 0,e,h) else none
  | .bsl _ b off len sz'=>if sz'=sz then (ix i len).bnd fun i=>some (.ptr b (off+i * sz),e,h) else none
  | _=>none
 | .idxArr sz len x i=>(ev e x).bnd fun v=>(ev e i).bnd fun i=>match v with
  | .ptr b o=>(ix i len).bnd fun i=>some (.ptr b (o+i * sz),e,h)
  | .ep cs o=>(ix i len).bnd fun i=>some (.ep cs (o+i * sz),e,h)
  | _=>none
 | .idxStr x i=>(ev e x).bnd fun v=>(ev e i).bnd fun i=>match v with
  | .str s=>(ix i s.length).bnd fun i=>(s[i]?).bnd fun c=>some (.int .u8 c.toNat,e,h)
  | _=>none
 | .idxAgg sz agg len x i=>(ev e x).bnd fun v=>(ev e i).bnd fun i=>match v with
  | .agg cs=>(ix i len).bnd fun i=>(part cs (i * sz) sz agg).bnd fun r=>some (r,e,h)
  | _=>none
 | .extract x i=>(ev e x).bnd fun v=>match v with
  | .tup vs=>(vs[i]?).bnd fun r=>some (r,e,h)
  | _=>none
 | .tassert t ok z x=>(ev e x).bnd fun v=>match v with
  | .iface t' u =>
   if t'=t then (if ok then some (.tup [u,.bool true],e,h) else some (u,e,h))
   else if ok then some (.tup [z,.bool false],e,h) else none
  | .nilif=>if ok then some (.tup [z,.bool false],e,h) else none
  | _=>none
 | .len str x=>(ev e x).bnd fun v=>match str,v with
  | true,.str s=>some (.int .i64 s.length,e,h)
  | false,.nils=>some (.int .i64 0,e,h)
  | false,.sl _ _ es=>some (.int .i64 es.length,e,h)
  | false,.bsl _ _ _ len _=>some (.int .i64 len,e,h)
  | _,_=>none
 | .minmax mx xs=>(evs e xs).bnd fun vs=>match vs with
  | []=>none
  | x :: r=>(minMax mx x r).bnd fun r=>some (r,e,h)
 | .append sz s x=>(ev e s).bnd fun v=>(ev e x).bnd fun u=>(elems h u).bnd fun xs =>
   if xs.all (fun x=>x.cells.length == sz) then
   match v with
   | .nils=>if xs.length≤lim2 then some (if xs.isEmpty then .nils else .sl .no sz (strips xs),e,h) else none
   | .sl .full sz' es=>if sz'=sz∧es.length+xs.length≤lim2 then some (if xs.isEmpty then .sl .full sz es else .sl .no sz (es ++ strips xs),e,h) else none
   | _=>none
   else none
 | .appendT T sz s x=>(ev e s).bnd fun v=>(ev e x).bnd fun u=>(elems h u).bnd fun xs=>(growT h T sz v xs).bnd fun r=>some (r.1,e,r.2)
 | .appendBox sz s x=>(ev e s).bnd fun v=>(ev e x).bnd fun u=>(elems h u).bnd fun xs=>(fullEs h v).bnd fun es =>
   if xs=[] then some (v,e,h) else
   if sz=1∧xs.all (fun x=>x.cells.length == sz)=true∧es.all (fun x=>x.cells.length == sz)=true∧es.length+xs.length≤lim2∧xs.all scalar=true∧es.all scalar=true then
    some (.bsl false (size h) 0 (es.length+xs.length) sz,e,ext h [.cells (es ++ xs)])
   else none
 | .call f args=>(evs e args).bnd fun vs=>(orc f vs h).bnd fun r =>
   if draw then (if r.2=h then some (r.1,e,h) else none) else some (r.1,e,r.2)
 | .callQ f args=>(evs e args).bnd fun vs=>(orcQ orc f vs h).bnd fun r=>if r.2=h then some (r.1,e,h) else none
 | .callv x args=>(ev e x).bnd fun v=>match v with
  | .fn f cap=>(evs e args).bnd fun vs=>(orc f (vs ++ cap) h).bnd fun r =>
   if draw then (if r.2=h then some (r.1,e,h) else none) else some (r.1,e,r.2)
  | _=>none
 | .loadN t n agg a=>(look e t).bnd fun q=>(ev e a).bnd fun v=>match q,v with
  | .ptr c _,.ptr b off=>if b=c then none else (getBox h b).bnd fun cs=>(part cs off n agg).bnd fun r=>some (r,e,h)
  | .ptr _ _,.ep cs off=>(part cs off n agg).bnd fun r=>some (r,e,h)
  | _,_=>none
 | .storeN t n a x=>(look e t).bnd fun q=>(ev e a).bnd fun v=>(ev e x).bnd fun u=>match q,v with
  | .ptr c _,.ptr b off=>if b=c then (getBox h b).bnd fun cs =>
    if u.cells.length=n∧off+n≤cs.length∧u.cells.all scalar=true∧(b < base→belows 0 (strips u.cells)=true)
    then some (.undef,e,setBox h b (setRange cs off (if b < base then strips u.cells else u.cells))) else none else none
  | _,_=>none
 | .gen k xs=>(evs e xs).bnd fun vs=>(genV base h k vs).bnd fun r=>some (r.1,e,r.2)
 | .stuck=>none
def putD (e:Env) (d:Option Nat) (v:PV):Env :=
 match d with
 | none=>e
 | some d=>(d,v) :: e
def wanted (e:Env):Option (Nat × Bool)→Option Bool
 | none=>some true
 | some (t,want)=>(look e t).bnd fun v=>match v with
  | .bool b=>some (b == want)
  | .undef=>some false
  | _=>none
def execOps (orc:Nat→List PV→Hp→Option (PV × Hp)) (base:Nat) (draw:Bool):List AOper→Env→Hp→Option (Env × Hp)
 | [],e,h=>some (e,h)
 | o :: r,e,h=>(wanted e o.guard).bnd fun w =>
  if w then (step orc base draw o.op e h).bnd fun x=>execOps orc base draw r (putD x.2.1 o.dst x.1) x.2.2
  else execOps orc base draw r (putD e o.dst .undef) h
inductive AEx where
 | norm
 | exit (id:Nat)
 | ret
def prune:List Nat→Env→Env
 | [],_=>[]
 | t :: ts,e=>match look e t with
  | some v=>(t,v) :: prune ts e
  | none=>prune ts e
def params:Nat→List PV→Env
 | _,[]=>[]
 | i,v :: vs=>(i,v) :: params (i+1) vs
def resultOf (e:Env) (h:Hp):Nat × Option (Nat × Bool)→Option PV
 |(t,none)=>look e t
 |(t,some (n,agg))=>(look e t).bnd fun v=>match v with
  | .ptr b off=>(getBox h b).bnd fun cs=>part cs off n agg
  | _=>none
def resultsOf (e:Env) (h:Hp):List (Nat × Option (Nat × Bool))→Option (List PV)
 | []=>some []
 | t :: ts=>(resultOf e h t).bnd fun v=>(resultsOf e h ts).bnd fun vs=>some (v :: vs)
def result1:List PV→PV
 | [v]=>v
 | vs=>.tup vs
def ownEnd (h0:Nat) (h:Hp):List PV→Option (List PV × Hp)
 | .sl (.tok t) sz es :: vs=>if belows h0 es=true∧belows h0 vs=true then
   (if t < h0 then some (.sl (.tok t) sz es :: vs,trunc h h0) else (getTok h t).bnd fun n=>some (.sl (.tok h0) sz es :: vs,ext (trunc h h0) [.tok n.1 n.2])) else none
 | .bsl f b off len sz :: vs=>if b < h0 then (if belows h0 vs=true then some (.bsl f b off len sz :: vs,trunc h h0) else none) else
   (getBox h b).bnd fun cs=>if belows h0 vs=true∧belows h0 cs=true then some (.bsl f h0 off len sz :: vs,ext (trunc h h0) [.cells cs]) else none
 | vs=>(frzs h0 h vs).bnd fun vs=>if belows h0 vs=true then some (vs,trunc h h0) else none
def finish (fn:AFn) (h0:Nat) (e:Env) (h:Hp):Option (PV × Hp) :=
 (resultsOf e h fn.results).bnd fun vs =>
  if fn.keep then some (result1 vs,h)
  else if fn.own then (ownEnd h0 h vs).bnd fun r=>some (result1 r.1,r.2)
  else (frzs h0 h vs).bnd fun vs=>if belows h0 vs=true then some (result1 vs,trunc h h0) else none
def primEnd (base:Nat) (h:Hp):PV × Option (Nat × List PV)→Option (PV × Hp)
 |(v,none)=>some (v,h)
 |(v,some (b,cs))=>if (getBox h b).isSome∧(b < base→belows 0 cs=true) then some (v,setBox h b cs) else none
def primHeap (h:Hp):Option (Nat × List PV)→Hp
 | none=>h
 | some (b,cs)=>setBox h b cs
mutual
def exec (T:Table):Nat→ACode→Nat→Env→Hp→Option (AEx × Env × Hp)
 | 0,_,_,_,_=>none
 | n+1,.skip,base,e,h=>some (.norm,e,h)
 | n+1,.ops l draw keep,base,e,h=>(execOps (call T n base) base draw l e h).bnd fun x=>some (.norm,prune keep x.1,x.2)
 | n+1,.seq a b,base,e,h=>(exec T n a base e h).bnd fun x=>match x with
  |(.norm,e',h')=>exec T n b base e' h'
  | r=>some r
 | n+1,.cond c a b,base,e,h=>(ev e c).bnd fun v=>condB v (exec T n a base e h) (exec T n b base e h)
 | n+1,.block id a,base,e,h=>(exec T n a base e h).bnd fun x=>match x with
  |(.exit i,e',h')=>if i=id then some (.norm,e',h') else some (.exit i,e',h')
  | r=>some r
 | n+1,.loop a,base,e,h=>(exec T n a base e h).bnd fun x=>match x with
  |(.norm,e',h')=>exec T n (.loop a) base e' h'
  | r=>some r
 | n+1,.scope a,base,e,h=>exec T n a base e h
 | n+1,.exit id,base,e,h=>some (.exit id,e,h)
 | n+1,.ret,base,e,h=>some (.ret,e,h)
def call (T:Table):Nat→Nat→Nat→List PV→Hp→Option (PV × Hp)
 | 0,_,_,_,_=>none
 | n+1,base,f,args,h=>match T f with
  | none=>none
  | some (.prim g)=>(g args h).bnd fun r=>primEnd base h r
  | some (.primN g)=>(g args h).bnd fun r=>some (r.1,ext h r.2)
  | some (.code fn)=>(exec T n fn.body (if fn.keep then base else size h) (params 0 args) h).bnd fun x=>match x with
   |(.exit _,_,_)=>none
   |(_,e,h')=>finish fn (size h) e h'
end
end
end Go.Am
namespace Go.Am
set_option linter.unusedVariables false
set_option linter.unusedSimpArgs false
abbrev Orc:=Nat→List PV→Hp→Option (PV × Hp)
def Orc.le (o p:Orc):Prop:=∀ f a h r,o f a h=some r→p f a h=some r
theorem step_mono {o p:Orc} (hle:o.le p) {base:Nat} {draw:Bool} {op:AOp} {e:Env} {h:Hp} {r:PV × Env × Hp}
  (hs:step o base draw op e h=some r):step p base draw op e h=some r:=by
 cases op with
 | call f args =>
  simp only [step,Option.bnd_eq_some_iff] at hs ⊢
  obtain ⟨vs,h1,x,h2,h3⟩:=hs
  exact ⟨vs,h1,x,hle _ _ _ _ h2,h3⟩
 | callQ f args =>
  simp only [step,orcQ,Option.bnd_eq_some_iff] at hs ⊢
  obtain ⟨vs,h1,x,⟨y,h2,h4⟩,h3⟩:=hs
  exact ⟨vs,h1,x,⟨y,hle _ _ _ _ h2,h4⟩,h3⟩
 | callv x args =>
  simp only [step,Option.bnd_eq_some_iff] at hs ⊢
  obtain ⟨v,h0,hs⟩:=hs
  refine ⟨v,h0,?_⟩
  split at hs
  ·simp only [Option.bnd_eq_some_iff] at hs ⊢
   obtain ⟨vs,h1,x,h2,h3⟩:=hs
   exact ⟨vs,h1,x,hle _ _ _ _ h2,h3⟩
  ·exact hs
 | _=>exact hs
theorem execOps_mono {o p:Orc} (hle:o.le p) {base:Nat} {draw:Bool}:∀ {l:List AOper} {e:Env} {h:Hp} {r:Env × Hp},
  execOps o base draw l e h=some r→execOps p base draw l e h=some r
 | [],_,_,_,hs=>hs
 | x :: l,e,h,r,hs=>by
  simp only [execOps,Option.bnd_eq_some_iff] at hs ⊢
  obtain ⟨w,hw,hs⟩:=hs
  refine ⟨w,hw,?_⟩
  cases w with
  | true =>
   simp only [if_true,Option.bnd_eq_some_iff] at hs ⊢
   obtain ⟨y,h1,h2⟩:=hs
   exact ⟨y,step_mono hle h1,execOps_mono hle h2⟩
  | false =>
   simp only [Bool.false_eq_true,if_false] at hs ⊢
   exact execOps_mono hle hs
theorem mono1 (T:Table):∀ n,(∀ c base e h r,exec T n c base e h=some r→exec T (n+1) c base e h=some r) ∧
  (∀ base f a h r,call T n base f a h=some r→call T (n+1) base f a h=some r)
 | 0=>⟨fun _ _ _ _ _ h=>by simp [exec] at h,fun _ _ _ _ _ h=>by simp [call] at h⟩
 | n+1=>by
  obtain ⟨ih,ihc⟩:=mono1 T n
  refine ⟨fun c base e h r hs=>?_,fun base f a h r hs=>?_⟩
  ·cases c with
   | skip=>simpa [exec] using hs
   | exit id=>simpa [exec] using hs
   | ret=>simpa [exec] using hs
   | ops l draw keep =>
    rw [exec] at hs ⊢
    simp only [Option.bnd_eq_some_iff] at hs ⊢
    obtain ⟨x,h1,h2⟩:=hs
    exact ⟨x,execOps_mono (fun f a h r=>ihc base f a h r) h1,h2⟩
   | seq a b =>
    rw [exec] at hs ⊢
    simp only [Option.bnd_eq_some_iff] at hs ⊢
    obtain ⟨x,h1,h2⟩:=hs
    refine ⟨x,ih _ _ _ _ _ h1,?_⟩
    split at h2
    ·exact ih _ _ _ _ _ h2
    ·exact h2
   | cond c a b =>
    rw [exec] at hs ⊢
    simp only [Option.bnd_eq_some_iff] at hs ⊢
    obtain ⟨x,h1,h2⟩:=hs
    refine ⟨x,h1,?_⟩
    rw [condB_some] at h2 ⊢
    exact h2.imp (fun z=>⟨z.1,ih _ _ _ _ _ z.2⟩) (fun z=>⟨z.1,ih _ _ _ _ _ z.2⟩)
   | block id a =>
    rw [exec] at hs ⊢
    simp only [Option.bnd_eq_some_iff] at hs ⊢
    obtain ⟨x,h1,h2⟩:=hs
    exact ⟨x,ih _ _ _ _ _ h1,h2⟩
   | loop a =>
    rw [exec] at hs ⊢
    simp only [Option.bnd_eq_some_iff] at hs ⊢
    obtain ⟨x,h1,h2⟩:=hs
    refine ⟨x,ih _ _ _ _ _ h1,?_⟩
    split at h2
    ·exact ih _ _ _ _ _ h2
    ·exact h2
   | scope a=>rw [exec] at hs ⊢;exact ih _ _ _ _ _ hs
  ·rw [call] at hs ⊢
   split at hs
   ·exact hs
   ·exact hs
   ·exact hs
   ·simp only [Option.bnd_eq_some_iff] at hs ⊢
    obtain ⟨x,h1,h2⟩:=hs
    exact ⟨x,ih _ _ _ _ _ h1,h2⟩
theorem exec_le {T:Table} {n m:Nat} (hnm:n≤m) {c base e h r} (hs:exec T n c base e h=some r):exec T m c base e h=some r:=by
 induction hnm with
 | refl=>exact hs
 | step _ ih=>exact (mono1 T _).1 _ _ _ _ _ ih
theorem call_le {T:Table} {n m:Nat} (hnm:n≤m) {base f a h r} (hs:call T n base f a h=some r):call T m base f a h=some r:=by
 induction hnm with
 | refl=>exact hs
 | step _ ih=>exact (mono1 T _).2 _ _ _ _ _ ih
/-! ### Without fuel -/
noncomputable def lim {α:Type} (F:Nat→Option α):Option α :=
 open Classical in if h:∃ r,∃ n,F n=some r then some (Classical.choose h) else none
theorem lim_iff {α:Type} {F:Nat→Option α} (hm:∀ n m r,n≤m→F n=some r→F m=some r) {r:α}:lim F=some r ↔ ∃ n,F n=some r:=by
 unfold lim
 constructor
 ·intro h
  split at h
  ·rename_i hx
   simp only [Option.some.injEq] at h
   exact h ▸ Classical.choose_spec hx
  ·cases h
 ·intro ⟨n,hn⟩
  have hx:∃ r,∃ n,F n=some r:=⟨r,n,hn⟩
  rw [dif_pos hx]
  obtain ⟨m,hm'⟩:=Classical.choose_spec hx
  have a:=hm n (max n m) _ (Nat.le_max_left _ _) hn
  have b:=hm m (max n m) _ (Nat.le_max_right _ _) hm'
  rw [a] at b
  simp only [Option.some.injEq] at b
  rw [b]
noncomputable def ExecA (T:Table) (c:ACode) (base:Nat) (e:Env) (h:Hp):Option (AEx × Env × Hp):=lim fun n=>exec T n c base e h
noncomputable def CallA (T:Table) (base f:Nat) (a:List PV) (h:Hp):Option (PV × Hp):=lim fun n=>call T n base f a h
theorem ExecA_iff {T c base e h r}:ExecA T c base e h=some r ↔ ∃ n,exec T n c base e h=some r:=lim_iff fun _ _ _ hn hs=>exec_le hn hs
theorem CallA_iff {T base f a h r}:CallA T base f a h=some r ↔ ∃ n,call T n base f a h=some r:=lim_iff fun _ _ _ hn hs=>call_le hn hs
theorem CallA_of {T base f a h r} (n:Nat) (hs:call T n base f a h=some r):CallA T base f a h=some r:=CallA_iff.2 ⟨n,hs⟩
theorem ExecA_of {T c base e h r} (n:Nat) (hs:exec T n c base e h=some r):ExecA T c base e h=some r:=ExecA_iff.2 ⟨n,hs⟩
theorem call_le_CallA (T:Table) (n base:Nat):Orc.le (call T n base) (CallA T base):=fun _ _ _ _ h=>CallA_of n h
theorem step_Call {T:Table} {base:Nat} {draw:Bool} {op:AOp} {e:Env} {h:Hp} {r:PV × Env × Hp}
  (hs:step (CallA T base) base draw op e h=some r):∃ n,step (call T n base) base draw op e h=some r:=by
 cases op with
 | call f args =>
  simp only [step,Option.bnd_eq_some_iff] at hs ⊢
  obtain ⟨vs,h1,x,h2,h3⟩:=hs
  obtain ⟨n,hn⟩:=CallA_iff.1 h2
  exact ⟨n,vs,h1,x,hn,h3⟩
 | callQ f args =>
  simp only [step,orcQ,Option.bnd_eq_some_iff] at hs ⊢
  obtain ⟨vs,h1,x,⟨y,h2,h4⟩,h3⟩:=hs
  obtain ⟨n,hn⟩:=CallA_iff.1 h2
  exact ⟨n,vs,h1,x,⟨y,hn,h4⟩,h3⟩
 | callv x args =>
  simp only [step,Option.bnd_eq_some_iff] at hs ⊢
  obtain ⟨v,h0,hs⟩:=hs
  split at hs
  ·simp only [Option.bnd_eq_some_iff] at hs
   obtain ⟨vs,h1,x,h2,h3⟩:=hs
   obtain ⟨n,hn⟩:=CallA_iff.1 h2
   exact ⟨n,_,h0,by simp only [Option.bnd_eq_some_iff];exact ⟨vs,h1,x,hn,h3⟩⟩
  ·cases hs
 | _=>exact ⟨0,hs⟩
theorem execOps_Call {T:Table} {base:Nat} {draw:Bool}:∀ {l:List AOper} {e:Env} {h:Hp} {r:Env × Hp},
  execOps (CallA T base) base draw l e h=some r→∃ n,execOps (call T n base) base draw l e h=some r
 | [],_,_,_,hs=>⟨0,hs⟩
 | x :: l,e,h,r,hs=>by
  simp only [execOps,Option.bnd_eq_some_iff] at hs ⊢
  obtain ⟨w,hw,hs⟩:=hs
  cases w with
  | true =>
   simp only [if_true,Option.bnd_eq_some_iff] at hs
   obtain ⟨y,h1,h2⟩:=hs
   obtain ⟨n,hn⟩:=step_Call h1
   obtain ⟨m,hm⟩:=execOps_Call h2
   have hn':=step_mono (p:=call T (max n m) base) (fun _ _ _ _ h=>call_le (Nat.le_max_left n m) h) hn
   have hm':=execOps_mono (p:=call T (max n m) base) (fun _ _ _ _ h=>call_le (Nat.le_max_right n m) h) hm
   exact ⟨max n m,true,hw,by simp only [if_true,Option.bnd_eq_some_iff];exact ⟨y,hn',hm'⟩⟩
  | false =>
   simp only [Bool.false_eq_true,if_false] at hs
   obtain ⟨m,hm⟩:=execOps_Call hs
   exact ⟨m,false,hw,by simpa using hm⟩
section
variable {T:Table} {base:Nat} {e:Env} {h:Hp}
theorem ExecA_skip:ExecA T .skip base e h=some (.norm,e,h):=ExecA_of 1 rfl
theorem ExecA_exit {id:Nat}:ExecA T (.exit id) base e h=some (.exit id,e,h):=ExecA_of 1 rfl
theorem ExecA_ret:ExecA T .ret base e h=some (.ret,e,h):=ExecA_of 1 rfl
theorem ExecA_ops {l:List AOper} {draw:Bool} {keep:List Nat} :
  ExecA T (.ops l draw keep) base e h=(execOps (CallA T base) base draw l e h).bnd fun x=>some (.norm,prune keep x.1,x.2):=by
 apply Option.ext
 intro r
 show ExecA T _ base e h=some r ↔ _=some r
 rw [ExecA_iff]
 constructor
 ·rintro ⟨n,hn⟩
  cases n with
  | zero=>simp [exec] at hn
  | succ n =>
   rw [exec] at hn
   simp only [Option.bnd_eq_some_iff] at hn ⊢
   obtain ⟨x,h1,h2⟩:=hn
   exact ⟨x,execOps_mono (call_le_CallA T n base) h1,h2⟩
 ·intro hs
  simp only [Option.bnd_eq_some_iff] at hs
  obtain ⟨x,h1,h2⟩:=hs
  obtain ⟨n,hn⟩:=execOps_Call h1
  exact ⟨n+1,by rw [exec];simp only [Option.bnd_eq_some_iff];exact ⟨x,hn,h2⟩⟩
theorem ExecA_seq {a b:ACode}:ExecA T (.seq a b) base e h=(ExecA T a base e h).bnd fun x=>match x with
  |(.norm,e',h')=>ExecA T b base e' h'
  | r=>some r:=by
 apply Option.ext
 intro r
 show ExecA T _ base e h=some r ↔ _=some r
 rw [ExecA_iff]
 constructor
 ·rintro ⟨n,hn⟩
  cases n with
  | zero=>simp [exec] at hn
  | succ n =>
   rw [exec] at hn
   simp only [Option.bnd_eq_some_iff] at hn ⊢
   obtain ⟨x,h1,h2⟩:=hn
   refine ⟨x,ExecA_of n h1,?_⟩
   obtain ⟨x,e',h'⟩:=x
   cases x with
   | norm=>exact ExecA_of n h2
   | _=>exact h2
 ·intro hs
  simp only [Option.bnd_eq_some_iff] at hs
  obtain ⟨x,h1,h2⟩:=hs
  obtain ⟨n,hn⟩:=ExecA_iff.1 h1
  split at h2
  ·obtain ⟨m,hm⟩:=ExecA_iff.1 h2
   refine ⟨max n m+1,?_⟩
   rw [exec]
   simp only [Option.bnd_eq_some_iff]
   exact ⟨_,exec_le (Nat.le_max_left n m) hn,exec_le (Nat.le_max_right n m) hm⟩
  ·rename_i hx
   refine ⟨n+1,?_⟩
   rw [exec]
   simp only [Option.bnd_eq_some_iff]
   refine ⟨_,hn,?_⟩
   split
   ·exact (hx _ _ rfl).elim
   ·exact h2
theorem ExecA_cond {c:Opnd} {a b:ACode}:ExecA T (.cond c a b) base e h=(ev e c).bnd fun v=>condB v (ExecA T a base e h) (ExecA T b base e h):=by
 apply Option.ext
 intro r
 show ExecA T _ base e h=some r ↔ _=some r
 rw [ExecA_iff]
 constructor
 ·rintro ⟨n,hn⟩
  cases n with
  | zero=>simp [exec] at hn
  | succ n =>
   rw [exec] at hn
   simp only [Option.bnd_eq_some_iff] at hn ⊢
   obtain ⟨x,h1,h2⟩:=hn
   refine ⟨x,h1,?_⟩
   rw [condB_some] at h2 ⊢
   exact h2.imp (fun z=>⟨z.1,ExecA_of n z.2⟩) (fun z=>⟨z.1,ExecA_of n z.2⟩)
 ·intro hs
  simp only [Option.bnd_eq_some_iff] at hs
  obtain ⟨x,h1,h2⟩:=hs
  rw [condB_some] at h2
  rcases h2 with ⟨rfl,h2⟩ | ⟨rfl,h2⟩
  ·obtain ⟨m,hm⟩:=ExecA_iff.1 h2
   exact ⟨m+1,by rw [exec];simp only [h1,Option.bnd_some];exact hm⟩
  ·obtain ⟨m,hm⟩:=ExecA_iff.1 h2
   exact ⟨m+1,by rw [exec];simp only [h1,Option.bnd_some];exact hm⟩
theorem ExecA_block {id:Nat} {a:ACode}:ExecA T (.block id a) base e h=(ExecA T a base e h).bnd fun x=>match x with
  |(.exit i,e',h')=>if i=id then some (.norm,e',h') else some (.exit i,e',h')
  | r=>some r:=by
 apply Option.ext
 intro r
 show ExecA T _ base e h=some r ↔ _=some r
 rw [ExecA_iff]
 constructor
 ·rintro ⟨n,hn⟩
  cases n with
  | zero=>simp [exec] at hn
  | succ n =>
   rw [exec] at hn
   simp only [Option.bnd_eq_some_iff] at hn ⊢
   obtain ⟨x,h1,h2⟩:=hn
   exact ⟨x,ExecA_of n h1,h2⟩
 ·intro hs
  simp only [Option.bnd_eq_some_iff] at hs
  obtain ⟨x,h1,h2⟩:=hs
  obtain ⟨n,hn⟩:=ExecA_iff.1 h1
  exact ⟨n+1,by rw [exec];simp only [Option.bnd_eq_some_iff];exact ⟨x,hn,h2⟩⟩
theorem ExecA_loop {a:ACode}:ExecA T (.loop a) base e h=(ExecA T a base e h).bnd fun x=>match x with
  |(.norm,e',h')=>ExecA T (.loop a) base e' h'
  | r=>some r:=by
 apply Option.ext
 intro r
 show ExecA T _ base e h=some r ↔ _=some r
 rw [ExecA_iff]
 constructor
 ·rintro ⟨n,hn⟩
  cases n with
  | zero=>simp [exec] at hn
  | succ n =>
   rw [exec] at hn
   simp only [Option.bnd_eq_some_iff] at hn ⊢
   obtain ⟨x,h1,h2⟩:=hn
   refine ⟨x,ExecA_of n h1,?_⟩
   obtain ⟨x,e',h'⟩:=x
   cases x with
   | norm=>exact ExecA_of n h2
   | _=>exact h2
 ·intro hs
  simp only [Option.bnd_eq_some_iff] at hs
  obtain ⟨x,h1,h2⟩:=hs
  obtain ⟨n,hn⟩:=ExecA_iff.1 h1
  split at h2
  ·obtain ⟨m,hm⟩:=ExecA_iff.1 h2
   refine ⟨max n m+1,?_⟩
   rw [exec]
   simp only [Option.bnd_eq_some_iff]
   exact ⟨_,exec_le (Nat.le_max_left n m) hn,exec_le (Nat.le_max_right n m) hm⟩
  ·rename_i hx
   refine ⟨n+1,?_⟩
   rw [exec]
   simp only [Option.bnd_eq_some_iff]
   refine ⟨_,hn,?_⟩
   split
   ·exact (hx _ _ rfl).elim
   ·exact h2
theorem ExecA_scope {a:ACode}:ExecA T (.scope a) base e h=ExecA T a base e h:=by
 apply Option.ext
 intro r
 show ExecA T _ base e h=some r ↔ ExecA T a base e h=some r
 rw [ExecA_iff,ExecA_iff]
 constructor
 ·rintro ⟨n,hn⟩
  cases n with
  | zero=>simp [exec] at hn
  | succ n=>exact ⟨n,by rwa [exec] at hn⟩
 ·rintro ⟨n,hn⟩
  exact ⟨n+1,by rwa [exec]⟩
theorem CallA_code {f:Nat} {fn:AFn} {a:List PV} (hT:T f=some (.code fn)) :
  CallA T base f a h=(ExecA T fn.body (if fn.keep then base else size h) (params 0 a) h).bnd fun x=>match x with
   |(.exit _,_,_)=>none
   |(_,e,h')=>finish fn (size h) e h':=by
 apply Option.ext
 intro r
 show CallA T base f a h=some r ↔ _=some r
 rw [CallA_iff]
 constructor
 ·rintro ⟨n,hn⟩
  cases n with
  | zero=>simp [call] at hn
  | succ n =>
   rw [call,hT] at hn
   simp only [Option.bnd_eq_some_iff] at hn ⊢
   obtain ⟨x,h1,h2⟩:=hn
   exact ⟨x,ExecA_of n h1,h2⟩
 ·intro hs
  simp only [Option.bnd_eq_some_iff] at hs
  obtain ⟨x,h1,h2⟩:=hs
  obtain ⟨n,hn⟩:=ExecA_iff.1 h1
  exact ⟨n+1,by rw [call,hT];simp only [Option.bnd_eq_some_iff];exact ⟨x,hn,h2⟩⟩
theorem CallA_prim {f:Nat} {g:List PV→Hp→Option (PV × Option (Nat × List PV))} {a:List PV} (hT:T f=some (.prim g)) :
  CallA T base f a h=(g a h).bnd fun r=>primEnd base h r:=by
 apply Option.ext
 intro r
 show CallA T base f a h=some r ↔ _=some r
 rw [CallA_iff]
 constructor
 ·rintro ⟨n,hn⟩
  cases n with
  | zero=>simp [call] at hn
  | succ n=>rwa [call,hT] at hn
 ·intro hs
  exact ⟨1,by rw [call,hT];exact hs⟩
theorem CallA_primN {f:Nat} {g:List PV→Hp→Option (PV × List Box)} {a:List PV} (hT:T f=some (.primN g)) :
  CallA T base f a h=(g a h).bnd fun r=>some (r.1,ext h r.2):=by
 apply Option.ext
 intro r
 show CallA T base f a h=some r ↔ _=some r
 rw [CallA_iff]
 constructor
 ·rintro ⟨n,hn⟩
  cases n with
  | zero=>simp [call] at hn
  | succ n=>rwa [call,hT] at hn
 ·intro hs
  exact ⟨1,by rw [call,hT];exact hs⟩
end
end Go.Am
namespace Go.Am
set_option linter.unusedVariables false
set_option linter.unusedSimpArgs false
section heap
variable {h k:Hp} {l m:List Box} {x y z:Box} {b c n:Nat} {u v:List PV}
theorem size_ext:size (ext h l)=size h+l.length:=by simp [size,ext]
theorem size_setBx:size (setBx h b x)=size h:=by simp [size,setBx]
theorem size_setBox:size (setBox h b u)=size h:=size_setBx
theorem setBox_eq:setBox h b u=setBx h b (.cells u):=(rfl)
theorem box_ext_at (hk:size k=n):box? (ext k (x :: l)) n=some x:=by subst hk;simp [box?,ext,size]
theorem box_ext_n (hk:size k=n):box? (ext k l) (n+c)=l[c]?:=by subst hk;simp [box?,ext,size,List.getElem?_append_right]
theorem getBox_ext_0:getBox (ext h (x :: l)) (size h)=cellsOf x:=by rw [getBox,box_ext_at rfl];rfl
theorem getBox_ext_n:getBox (ext h l) (size h+n)=(l[n]?).bnd cellsOf:=by rw [getBox,box_ext_n rfl]
theorem getTok_ext_0:getTok (ext h (x :: l)) (size h)=tokOf x:=by rw [getTok,box_ext_at rfl];rfl
theorem getTok_ext_n:getTok (ext h l) (size h+n)=(l[n]?).bnd tokOf:=by rw [getTok,box_ext_n rfl]
theorem getIter_ext_0:getIter (ext h (x :: l)) (size h)=iterOf x:=by rw [getIter,box_ext_at rfl];rfl
theorem getIter_ext_n:getIter (ext h l) (size h+n)=(l[n]?).bnd iterOf:=by rw [getIter,box_ext_n rfl]
theorem getMap_ext_0:getMap (ext h (x :: l)) (size h)=mapOf x:=by rw [getMap,box_ext_at rfl];rfl
theorem getMap_ext_n:getMap (ext h l) (size h+n)=(l[n]?).bnd mapOf:=by rw [getMap,box_ext_n rfl]
theorem getMap_exts_0:getMap (ext (setBx h b y) (x :: l)) (size h)=mapOf x:=by rw [getMap,box_ext_at size_setBx];rfl
theorem getMap_exts_n:getMap (ext (setBx h b y) l) (size h+n)=(l[n]?).bnd mapOf:=by rw [getMap,box_ext_n size_setBx]
theorem mapOf_map {es:List (PV × PV)}:mapOf (.map es)=some es:=(rfl)
theorem getBox_exts_0:getBox (ext (setBx h b y) (x :: l)) (size h)=cellsOf x:=by rw [getBox,box_ext_at size_setBx];rfl
theorem getBox_exts_n:getBox (ext (setBx h b y) l) (size h+n)=(l[n]?).bnd cellsOf:=by rw [getBox,box_ext_n size_setBx]
theorem getTok_exts_0:getTok (ext (setBx h b y) (x :: l)) (size h)=tokOf x:=by rw [getTok,box_ext_at size_setBx];rfl
theorem getTok_exts_n:getTok (ext (setBx h b y) l) (size h+n)=(l[n]?).bnd tokOf:=by rw [getTok,box_ext_n size_setBx]
theorem getIter_exts_0:getIter (ext (setBx h b y) (x :: l)) (size h)=iterOf x:=by rw [getIter,box_ext_at size_setBx];rfl
theorem getIter_exts_n:getIter (ext (setBx h b y) l) (size h+n)=(l[n]?).bnd iterOf:=by rw [getIter,box_ext_n size_setBx]
theorem cellsOf_cells:cellsOf (.cells u)=some u:=(rfl)
theorem tokOf_tok {m:Nat}:tokOf (.tok n m)=some (n,m):=(rfl)
theorem iterOf_iter {s:List UInt8}:iterOf (.iter s n)=some (s,n):=(rfl)
theorem box_ext_lt (hb:b < size h):box? (ext h l) b=box? h b:=by simp only [box?,ext,size] at *;exact List.getElem?_append_left hb
theorem getBox_ext_lt (hb:b < size h):getBox (ext h l) b=getBox h b:=by rw [getBox,box_ext_lt hb];rfl
theorem getTok_ext_lt (hb:b < size h):getTok (ext h l) b=getTok h b:=by rw [getTok,box_ext_lt hb];rfl
theorem getMap_ext_lt (hb:b < size h):getMap (ext h l) b=getMap h b:=by rw [getMap,box_ext_lt hb];rfl
theorem setBx_ext_at (hk:size k=n):setBx (ext k (x :: l)) n y=ext k (y :: l):=by subst hk;simp [setBx,ext,size]
theorem setBx_ext_nat (hk:size k=n):setBx (ext k l) (n+c) y=ext k (l.set c y):=by subst hk;simp [setBx,ext,size,List.set_append]
theorem setBx_ext_0:setBx (ext h (x :: l)) (size h) y=ext h (y :: l):=setBx_ext_at rfl
theorem setBx_ext_n:setBx (ext h l) (size h+n) y=ext h (l.set n y):=setBx_ext_nat rfl
theorem setBx_exts_0:setBx (ext (setBx h b z) (x :: l)) (size h) y=ext (setBx h b z) (y :: l):=setBx_ext_at size_setBx
theorem setBx_exts_n:setBx (ext (setBx h b z) l) (size h+n) y=ext (setBx h b z) (l.set n y):=setBx_ext_nat size_setBx
theorem setBx_ext_lt (hb:b < size h):setBx (ext h l) b y=ext (setBx h b y) l:=by
 simp only [setBx,ext,size] at *;simp [List.set_append,hb]
theorem ext_ext:ext (ext h l) m=ext h (l ++ m):=by simp [ext]
theorem ext_nil:ext h []=h:=by simp [ext]
theorem box_set_eq (hb:b < size h):box? (setBx h b x) b=some x:=by
 simp only [box?,setBx,size] at *;simp [hb]
theorem box_set_ne (hn:b≠n):box? (setBx h b x) n=box? h n:=by simp [box?,setBx,hn]
theorem lt_of_box {c:Box} (hb:box? h b=some c):b < size h:=(List.getElem?_eq_some_iff.1 hb).1
theorem box_of_get (hb:getBox h b=some u):box? h b=some (.cells u):=by
 rw [getBox,Option.bnd_eq_some_iff] at hb
 obtain ⟨x,h1,h2⟩:=hb
 cases x <;> simp only [cellsOf] at h2 <;> first | cases h2 | skip
 exact h1
theorem box_of_tok {n:Nat × Nat} (hb:getTok h b=some n):box? h b=some (.tok n.1 n.2):=by
 rw [getTok,Option.bnd_eq_some_iff] at hb
 obtain ⟨x,h1,h2⟩:=hb
 cases x <;> simp only [tokOf] at h2 <;> first | cases h2 | skip
 exact h1
theorem box_of_iter {s:List UInt8} (hb:getIter h b=some (s,n)):box? h b=some (.iter s n):=by
 rw [getIter,Option.bnd_eq_some_iff] at hb
 obtain ⟨x,h1,h2⟩:=hb
 cases x <;> simp only [iterOf] at h2 <;> first | cases h2 | skip
 exact h1
theorem box_of_map {es:List (PV × PV)} (hb:getMap h b=some es):box? h b=some (.map es):=by
 rw [getMap,Option.bnd_eq_some_iff] at hb
 obtain ⟨x,h1,h2⟩:=hb
 cases x <;> simp only [mapOf] at h2 <;> first | cases h2 | skip
 exact h1
theorem getMap_of_box {es:List (PV × PV)} (hb:box? h b=some (.map es)):getMap h b=some es:=by rw [getMap,hb];rfl
theorem lt_of_getMap {es:List (PV × PV)} (hb:getMap h b=some es):b < size h:=lt_of_box (box_of_map hb)
theorem lt_of_getBox (hb:getBox h b=some u):b < size h:=lt_of_box (box_of_get hb)
theorem lt_of_getTok {n:Nat × Nat} (hb:getTok h b=some n):b < size h:=lt_of_box (box_of_tok hb)
theorem getBox_set_eq (hb:getBox h b=some u):getBox (setBox h b v) b=some v:=by
 rw [getBox,setBox,box_set_eq (lt_of_getBox hb)];rfl
theorem getBox_set_same (hb:b < size h):getBox (setBx h b (.cells v)) b=some v:=by
 rw [getBox,box_set_eq hb];rfl
theorem getTok_set_same {m:Nat} (hb:b < size h):getTok (setBx h b (.tok n m)) b=some (n,m):=by
 rw [getTok,box_set_eq hb];rfl
theorem getBox_set_ne (hn:b≠n):getBox (setBx h b x) n=getBox h n:=by rw [getBox,box_set_ne hn];rfl
theorem getTok_set_ne (hn:b≠n):getTok (setBx h b x) n=getTok h n:=by rw [getTok,box_set_ne hn];rfl
theorem getMap_set_same {es:List (PV × PV)} (hb:b < size h):getMap (setBx h b (.map es)) b=some es:=by
 rw [getMap,box_set_eq hb];rfl
theorem getMap_set_ne (hn:b≠n):getMap (setBx h b x) n=getMap h n:=by rw [getMap,box_set_ne hn];rfl
theorem setBx_setBx:setBx (setBx h b x) b y=setBx h b y:=by simp [setBx]
theorem setBox_setBox:setBox (setBox h b u) b v=setBox h b v:=setBx_setBx
theorem setBx_self (hb:box? h b=some x):setBx h b x=h:=by
 simp only [box?,setBx] at *
 obtain ⟨hl,rfl⟩:=List.getElem?_eq_some_iff.1 hb
 simp
theorem setBox_self (hb:getBox h b=some u):setBox h b u=h:=setBx_self (box_of_get hb)
theorem trunc_ext:trunc (ext h l) (size h)=h:=by simp [trunc,ext,size]
theorem trunc_self:trunc h (size h)=h:=by simp [trunc,size]
theorem trunc_exts:trunc (ext (setBx h b x) l) (size h)=setBx h b x:=by
 rw [←size_setBx (h:=h) (b:=b) (x:=x)];exact trunc_ext
theorem trunc_set:trunc (setBx h b x) (size h)=setBx h b x:=by
 conv=>lhs;arg 2;rw [←size_setBx (h:=h) (b:=b) (x:=x)]
 exact trunc_self
theorem not_lt_size:(size h < size h)=False:=by simp
theorem size_add_lt:(size h+n < size h)=False:=by simp
end heap
section vals
theorem strip_undef:strip .undef=.undef:=(rfl)
theorem strip_bool (b):strip (.bool b)=.bool b:=(rfl)
theorem strip_int (k n):strip (.int k n)=.int k n:=(rfl)
theorem strip_str (s):strip (.str s)=.str s:=(rfl)
theorem strip_nilp:strip .nilp=.nilp:=(rfl)
theorem strip_bnil (t):strip (.bnil t)=.bnil t:=(rfl)
theorem strip_ptr (b o):strip (.ptr b o)=.ptr b o:=(rfl)
theorem strip_ep (b o):strip (.ep b o)=.ep b o:=(rfl)
theorem strip_nils:strip .nils=.nils:=(rfl)
theorem ostrip_no:Own.strip .no=.no:=(rfl)
theorem ostrip_full:Own.strip .full=.full:=(rfl)
theorem ostrip_tok (t):Own.strip (.tok t)=.no:=(rfl)
theorem ostrip_idem (o:Own):o.strip.strip=o.strip:=by cases o <;> rfl
theorem obelow_no (n):Own.below n .no=true:=(rfl)
theorem obelow_full (n):Own.below n .full=true:=(rfl)
theorem obelow_tok (n t):Own.below n (.tok t)=decide (t < n):=(rfl)
theorem obelow_strip (n) (o:Own):o.strip.below n=true:=by cases o <;> rfl
theorem strip_sl (o z e):strip (.sl o z e)=.sl o.strip z e:=(rfl)
theorem strip_bsl (f a b c d):strip (.bsl f a b c d)=.bsl f a b c d:=(rfl)
theorem strip_nilif:strip .nilif=.nilif:=(rfl)
theorem strip_iface (t v):strip (.iface t v)=.iface t (strip v):=(rfl)
theorem strip_nilf:strip .nilf=.nilf:=(rfl)
theorem strip_fn (t v):strip (.fn t v)=.fn t (strips v):=(rfl)
theorem strip_agg (c):strip (.agg c)=.agg (strips c):=(rfl)
theorem strip_tup (c):strip (.tup c)=.tup (strips c):=(rfl)
theorem strip_it (b):strip (.it b)=.it b:=(rfl)
theorem strip_nilm:strip .nilm=.nilm:=(rfl)
theorem strip_mref (b):strip (.mref b)=.mref b:=(rfl)
theorem strips_nil:strips []=[]:=(rfl)
theorem strips_cons (v vs):strips (v :: vs)=strip v :: strips vs:=(rfl)
mutual
theorem strip_strip:∀ v,strip (strip v)=strip v
 | .sl o z e=>by simp only [strip,ostrip_idem]
 | .agg c=>by simp only [strip,strips_strips c]
 | .tup c=>by simp only [strip,strips_strips c]
 | .fn f c=>by simp only [strip,strips_strips c]
 | .iface t v=>by simp only [strip,strip_strip v]
 | .undef | .bool _ | .int _ _ | .str _ | .nilp | .bnil _ | .ptr _ _ | .ep _ _ | .nils | .bsl _ _ _ _ _ | .nilif | .nilf | .it _ | .nilm | .mref _=>rfl
theorem strips_strips:∀ v,strips (strips v)=strips v
 | []=>rfl
 | v :: vs=>by simp only [strips,strip_strip v,strips_strips vs]
end
theorem strips_map (vs:List PV):strips vs=vs.map strip:=by induction vs <;> simp_all [strips]
theorem cells_agg (c):PV.cells (.agg c)=c:=(rfl)
theorem cells_bool (b):PV.cells (.bool b)=[.bool b]:=(rfl)
theorem cells_int (k n):PV.cells (.int k n)=[.int k n]:=(rfl)
theorem cells_str (s):PV.cells (.str s)=[.str s]:=(rfl)
theorem cells_nilp:PV.cells .nilp=[.nilp]:=(rfl)
theorem cells_bnil (t):PV.cells (.bnil t)=[.bnil t]:=(rfl)
theorem cells_ptr (b o):PV.cells (.ptr b o)=[.ptr b o]:=(rfl)
theorem cells_nils:PV.cells .nils=[.nils]:=(rfl)
theorem cells_sl (o z e):PV.cells (.sl o z e)=[.sl o z e]:=(rfl)
theorem cells_bsl (f a b c d):PV.cells (.bsl f a b c d)=[.bsl f a b c d]:=(rfl)
theorem cells_nilif:PV.cells .nilif=[.nilif]:=(rfl)
theorem cells_iface (t v):PV.cells (.iface t v)=[.iface t v]:=(rfl)
theorem cells_nilf:PV.cells .nilf=[.nilf]:=(rfl)
theorem cells_fn (t v):PV.cells (.fn t v)=[.fn t v]:=(rfl)
theorem cells_nilm:PV.cells .nilm=[.nilm]:=(rfl)
theorem cells_mref (b):PV.cells (.mref b)=[.mref b]:=(rfl)
theorem isNil_nilp:isNil .nilp=some true:=(rfl)
theorem isNil_bnil (t):isNil (.bnil t)=some true:=(rfl)
theorem isNil_nils:isNil .nils=some true:=(rfl)
theorem isNil_nilif:isNil .nilif=some true:=(rfl)
theorem isNil_nilf:isNil .nilf=some true:=(rfl)
theorem isNil_ptr (b o):isNil (.ptr b o)=some false:=(rfl)
theorem isNil_ep (b o):isNil (.ep b o)=some false:=(rfl)
theorem isNil_sl (b o c):isNil (.sl b o c)=some false:=(rfl)
theorem isNil_bsl (f a b c d):isNil (.bsl f a b c d)=some false:=(rfl)
theorem isNil_iface (b o):isNil (.iface b o)=some false:=(rfl)
theorem isNil_fn (b o):isNil (.fn b o)=some false:=(rfl)
theorem ev_tmp (e t):ev e (.tmp t)=look e t:=(rfl)
theorem ev_const (e v):ev e (.const v)=some v:=(rfl)
theorem look_cons (i v e t):look ((i,v) :: e) t=if i=t then some v else look e t:=(rfl)
theorem look_nil (t):look [] t=none:=(rfl)
theorem evs_nil (e):evs e []=some []:=(rfl)
theorem evs_cons (e x xs):evs e (x :: xs)=(ev e x).bnd fun v=>(evs e xs).bnd fun vs=>some (v :: vs):=(rfl)
theorem prune_nil (e):prune [] e=[]:=(rfl)
def pruneC (t:Nat) (v:Option PV) (r:Env):Env:=match v with
 | some v=>(t,v) :: r
 | none=>r
@[congr] theorem pruneC_congr {t:Nat} {v w:Option PV} {r s:Env} (h:v=w) (h2:r=s):pruneC t v r=pruneC t w s:=by rw [h,h2]
theorem pruneC_some (t v r):pruneC t (some v) r=(t,v) :: r:=(rfl)
theorem pruneC_none (t r):pruneC t none r=r:=(rfl)
theorem prune_cons (t ts e):prune (t :: ts) e=pruneC t (look e t) (prune ts e):=by
 rw [prune];cases look e t <;> rfl
theorem putD_none (e v):putD e none v=e:=(rfl)
theorem putD_some (e d v):putD e (some d) v=(d,v) :: e:=(rfl)
theorem wanted_none (e):wanted e none=some true:=(rfl)
def wantB (v:PV) (w:Bool):Option Bool:=match v with
  | .bool b=>some (b == w)
  | .undef=>some false
  | _=>none
theorem wantB_bool (b w):wantB (.bool b) w=some (b == w):=(rfl)
theorem wantB_undef (w):wantB .undef w=some false:=(rfl)
theorem wanted_some (e t w):wanted e (some (t,w))=(look e t).bnd fun v=>wantB v w:=(rfl)
theorem params_nil (i):params i []=[]:=(rfl)
theorem params_cons (i v vs):params i (v :: vs)=(i,v) :: params (i+1) vs:=(rfl)
theorem execOps_nil (orc base draw e h):execOps orc base draw [] e h=some (e,h):=(rfl)
def whenB {α:Type} (w:Bool) (x y:Option α):Option α:=if w then x else y
@[congr] theorem whenB_congr {α:Type} {w w':Bool} {x y:Option α} (h:w=w'):whenB w x y=whenB w' x y:=by rw [h]
theorem whenB_true {α:Type} (x y:Option α):whenB true x y=x:=(rfl)
theorem whenB_false {α:Type} (x y:Option α):whenB false x y=y:=(rfl)
end vals
def bnd3 {α:Type} (x:Option (PV × Env × Hp)) (k:PV→Env→Hp→Option α):Option α:=match x with
 | some (v,e,h)=>k v e h
 | none=>none
@[congr] theorem bnd3_congr {α:Type} {x y:Option (PV × Env × Hp)} {k:PV→Env→Hp→Option α} (h:x=y):bnd3 x k=bnd3 y k:=by rw [h]
theorem bnd3_some {α:Type} (v e h) (k:PV→Env→Hp→Option α):bnd3 (some (v,e,h)) k=k v e h:=(rfl)
theorem bnd3_none {α:Type} (k:PV→Env→Hp→Option α):bnd3 none k=none:=(rfl)
theorem bnd3_ite {α:Type} {c:Prop} [Decidable c] (x y) (k:PV→Env→Hp→Option α):bnd3 (if c then x else y) k=if c then bnd3 x k else bnd3 y k:=by split <;> (exact rfl)
def bnd2 {α β:Type} (x:Option (β × Hp)) (k:β→Hp→Option α):Option α:=match x with
 | some (v,h)=>k v h
 | none=>none
@[congr] theorem bnd2_congr {α β:Type} {x y:Option (β × Hp)} {k:β→Hp→Option α} (h:x=y):bnd2 x k=bnd2 y k:=by rw [h]
theorem bnd2_some {α β:Type} (v h) (k:β→Hp→Option α):bnd2 (some (v,h)) k=k v h:=(rfl)
theorem bnd2_none {α β:Type} (k:β→Hp→Option α):bnd2 none k=none:=(rfl)
theorem bnd2_ite {α β:Type} {c:Prop} [Decidable c] (x y) (k:β→Hp→Option α):bnd2 (if c then x else y) k=if c then bnd2 x k else bnd2 y k:=by split <;> (exact rfl)
theorem bnd3_bnd {α γ:Type} (x:Option γ) (f:γ→Option (PV × Env × Hp)) (k:PV→Env→Hp→Option α):bnd3 (x.bnd f) k=x.bnd fun a=>bnd3 (f a) k:=by cases x <;> (exact rfl)
section steps
variable (orc:Orc) (base:Nat) (draw:Bool) (e:Env) (h:Hp)
theorem execOps_plain (d op r):execOps orc base draw (⟨d,none,op⟩ :: r) e h=bnd3 (step orc base draw op e h) fun v e h=>execOps orc base draw r (putD e d v) h:=by
 show Option.bnd _ _=_
 cases step orc base draw op e h <;> (exact rfl)
theorem execOps_guard (d t w op r):execOps orc base draw (⟨d,some (t,w),op⟩ :: r) e h=(look e t).bnd fun v=>(wantB v w).bnd fun w =>
  whenB w (execOps orc base draw (⟨d,none,op⟩ :: r) e h) (execOps orc base draw r (putD e d .undef) h):=by
 rw [execOps,wanted_some]
 cases look e t with
 | none=>exact rfl
 | some v =>
  simp only [Option.bnd_some]
  cases wantB v w with
  | none=>exact rfl
  | some w=>cases w <;> (exact rfl)
theorem X_mov (d x r):execOps orc base draw (⟨d,none,.mov x⟩ :: r) e h=(ev e x).bnd fun v=>execOps orc base draw r (putD e d v) h:=by
 rw [execOps_plain];exact bnd3_bnd _ _ _
theorem step_mov (x):step orc base draw (.mov x) e h=(ev e x).bnd fun v=>some (v,e,h):=(rfl)
theorem step_pick (c a b):step orc base draw (.pick c a b) e h=(ev e c).bnd fun v=>condB v ((ev e a).bnd fun v=>some (v,e,h)) ((ev e b).bnd fun v=>some (v,e,h)):=(rfl)
theorem step_alloc (z):step orc base draw (.alloc z) e h=some (.ptr (size h) 0,e,ext h [.cells z]):=(rfl)
theorem step_box (n x):step orc base draw (.box n x) e h=(ev e x).bnd fun v=>if v.cells.length=n∧v.cells.all scalar=true then some (.ptr (size h) 0,e,ext h [.cells v.cells]) else none:=(rfl)
theorem step_nilck (x):step orc base draw (.nilck x) e h=(ev e x).bnd fun v=>(isNil v).bnd fun b=>if b then none else some (v,e,h):=by
 show Option.bnd _ _=Option.bnd _ _
 congr 1
 funext v
 cases v <;> rfl
noncomputable def loadB (v:PV) (e:Env) (h:Hp) (n:Nat) (agg:Bool):Option (PV × Env × Hp):=match v with
  | .ptr b off=>(getBox h b).bnd fun cs=>(part cs off n agg).bnd fun r=>some (r,e,h)
  | .ep cs off=>(part cs off n agg).bnd fun r=>some (r,e,h)
  | _=>none
theorem step_load (n agg a):step orc base draw (.load n agg a) e h=(ev e a).bnd fun v=>loadB v e h n agg:=(rfl)
theorem loadB_ptr (b off e h n agg):loadB (.ptr b off) e h n agg=(getBox h b).bnd fun cs=>(part cs off n agg).bnd fun r=>some (r,e,h):=(rfl)
theorem loadB_ep (cs off e h n agg):loadB (.ep cs off) e h n agg=(part cs off n agg).bnd fun r=>some (r,e,h):=(rfl)
noncomputable def storeB (v u:PV) (base:Nat) (e:Env) (h:Hp) (n:Nat):Option (PV × Env × Hp):=match v with
  | .ptr b off=>(getBox h b).bnd fun cs =>
    if u.cells.length=n∧off+n≤cs.length∧u.cells.all scalar=true∧(b < base→belows 0 (strips u.cells)=true)
    then some (.undef,e,setBox h b (setRange cs off (if b < base then strips u.cells else u.cells))) else none
  | _=>none
theorem step_store (n a x):step orc base draw (.store n a x) e h=(ev e a).bnd fun v=>(ev e x).bnd fun u=>storeB v u base e h n:=(rfl)
theorem storeB_ptr (b off u base e h n):storeB (.ptr b off) u base e h n=(getBox h b).bnd fun cs =>
    if u.cells.length=n∧off+n≤cs.length∧u.cells.all scalar=true∧(b < base→belows 0 (strips u.cells)=true)
    then some (.undef,e,setBox h b (setRange cs off (if b < base then strips u.cells else u.cells))) else none:=(rfl)
theorem step_bin (op x y):step orc base draw (.bin op x y) e h=(ev e x).bnd fun a=>(ev e y).bnd fun b=>(binOp op a b).bnd fun r=>some (r,e,h):=(rfl)
theorem step_isnil (kd neg x):step orc base draw (.isnil kd neg x) e h=(ev e x).bnd fun v=>(nilK kd v).bnd fun b=>some (.bool (if neg then !b else b),e,h):=(rfl)
def boolB (neg:Bool) (a b:PV):Option PV:=match a,b with
  | .bool a,.bool b=>some (.bool (if neg then a != b else a == b))
  | _,_=>none
theorem boolB_eq (a b):boolB false (.bool a) (.bool b)=some (.bool (a == b)):=(rfl)
theorem boolB_ne (a b):boolB true (.bool a) (.bool b)=some (.bool (a != b)):=(rfl)
theorem step_binB (neg x y):step orc base draw (.binB neg x y) e h=(ev e x).bnd fun a=>(ev e y).bnd fun b=>(boolB neg a b).bnd fun r=>some (r,e,h):=by
 show Option.bnd _ _=Option.bnd _ _
 congr 1
 funext a
 congr 1
 funext b
 cases a <;> cases b <;> (exact rfl)
theorem step_un (op x):step orc base draw (.un op x) e h=(ev e x).bnd fun a=>(unOp op a).bnd fun r=>some (r,e,h):=(rfl)
def toIntB (v:PV) (k:IntKind):Option PV:=match v with
  | .int _ n=>some (.int k (k.wrap n))
  | _=>none
theorem toIntB_int (j n k):toIntB (.int j n) k=some (.int k (k.wrap n)):=(rfl)
theorem step_toInt (k x):step orc base draw (.toInt k x) e h=(ev e x).bnd fun v=>(toIntB v k).bnd fun r=>some (r,e,h):=by
 show Option.bnd _ _=Option.bnd _ _
 congr 1
 funext v
 cases v <;> rfl
def extractB (v:PV) (i:Nat):Option PV:=match v with
  | .tup vs=>vs[i]?
  | _=>none
theorem extractB_tup (vs i):extractB (.tup vs) i=vs[i]?:=(rfl)
theorem step_extract (x i):step orc base draw (.extract x i) e h=(ev e x).bnd fun v=>(extractB v i).bnd fun r=>some (r,e,h):=by
 show Option.bnd _ _=Option.bnd _ _
 congr 1
 funext v
 cases v <;> rfl
def fieldAB (v:PV) (off:Nat):Option PV:=match v with
  | .ptr b o=>some (.ptr b (o+off))
  | .ep cs o=>some (.ep cs (o+off))
  | _=>none
theorem fieldAB_ptr (b o off):fieldAB (.ptr b o) off=some (.ptr b (o+off)):=(rfl)
theorem fieldAB_ep (b o off):fieldAB (.ep b o) off=some (.ep b (o+off)):=(rfl)
theorem step_fieldA (off x):step orc base draw (.fieldA off x) e h=(ev e x).bnd fun v=>(fieldAB v off).bnd fun r=>some (r,e,h):=by
 show Option.bnd _ _=Option.bnd _ _
 congr 1
 funext v
 cases v <;> rfl
def fieldB (v:PV) (off n:Nat) (agg:Bool):Option PV:=match v with
  | .agg cs=>part cs off n agg
  | _=>none
theorem fieldB_agg (cs off n agg):fieldB (.agg cs) off n agg=part cs off n agg:=(rfl)
theorem step_field (off n agg x):step orc base draw (.field off n agg x) e h=(ev e x).bnd fun v=>(fieldB v off n agg).bnd fun r=>some (r,e,h):=by
 show Option.bnd _ _=Option.bnd _ _
 congr 1
 funext v
 cases v <;> rfl
def lenB (str:Bool) (v:PV):Option PV:=match str,v with
  | true,.str s=>some (.int .i64 s.length)
  | false,.nils=>some (.int .i64 0)
  | false,.sl _ _ es=>some (.int .i64 es.length)
  | false,.bsl _ _ _ len _=>some (.int .i64 len)
  | _,_=>none
theorem lenB_str (s):lenB true (.str s)=some (.int .i64 s.length):=(rfl)
theorem lenB_nils:lenB false .nils=some (.int .i64 0):=(rfl)
theorem lenB_sl (o z es):lenB false (.sl o z es)=some (.int .i64 es.length):=(rfl)
theorem lenB_bsl (f a b c d):lenB false (.bsl f a b c d)=some (.int .i64 c):=(rfl)
theorem step_len (str x):step orc base draw (.len str x) e h=(ev e x).bnd fun v=>(lenB str v).bnd fun r=>some (r,e,h):=by
 show Option.bnd _ _=Option.bnd _ _
 congr 1
 funext v
 cases str <;> cases v <;> rfl
noncomputable def idxAB (v i:PV) (sz:Nat):Option PV:=match v with
  | .sl _ sz' es=>if sz'=sz then (ix i es.length).bnd fun i=>(es[i]?).bnd fun w=>some (.ep w.cells 0) else none
  | .bsl _ b off len sz'=>if sz'=sz then (ix i len).bnd fun i=>some (.ptr b (off+i * sz)) else none
  | _=>none
theorem idxAB_sl (o z es i sz):idxAB (.sl o z es) i sz=if z=sz then (ix i es.length).bnd fun i=>(es[i]?).bnd fun w=>some (.ep w.cells 0) else none:=(rfl)
theorem idxAB_bsl (f b off len z i sz):idxAB (.bsl f b off len z) i sz=if z=sz then (ix i len).bnd fun i=>some (.ptr b (off+i * sz)) else none:=(rfl)
theorem bnd_assoc {α β γ:Type} (x:Option α) (f:α→Option β) (g:β→Option γ):(x.bnd f).bnd g=x.bnd fun a=>(f a).bnd g:=by cases x <;> rfl
theorem step_idxA (sz x i):step orc base draw (.idxA sz x i) e h=(ev e x).bnd fun v=>(ev e i).bnd fun i=>(idxAB v i sz).bnd fun r=>some (r,e,h):=by
 show Option.bnd _ _=Option.bnd _ _
 congr 1
 funext v
 congr 1
 funext i
 cases v with
 | sl o z es=>simp only [idxAB];split <;> simp only [bnd_assoc,Option.bnd_some,Option.bnd_none]
 | bsl f a b c z=>simp only [idxAB];split <;> simp only [bnd_assoc,Option.bnd_some,Option.bnd_none]
 | _=>rfl
noncomputable def idxStrB (v i:PV):Option PV:=match v with
  | .str s=>(ix i s.length).bnd fun i=>(s[i]?).bnd fun c=>some (.int .u8 c.toNat)
  | _=>none
theorem idxStrB_str (s i):idxStrB (.str s) i=(ix i s.length).bnd fun i=>(s[i]?).bnd fun c=>some (.int .u8 c.toNat):=(rfl)
theorem step_idxStr (x i):step orc base draw (.idxStr x i) e h=(ev e x).bnd fun v=>(ev e i).bnd fun i=>(idxStrB v i).bnd fun r=>some (r,e,h):=by
 show Option.bnd _ _=Option.bnd _ _
 congr 1
 funext v
 congr 1
 funext i
 cases v <;> simp only [idxStrB,bnd_assoc,Option.bnd_some,Option.bnd_none]
theorem step_minmax (mx xs):step orc base draw (.minmax mx xs) e h=(evs e xs).bnd fun vs=>match vs with
  | []=>none
  | x :: r=>(minMax mx x r).bnd fun r=>some (r,e,h):=(rfl)
theorem step_mkif (t x):step orc base draw (.mkif t x) e h=(ev e x).bnd fun v=>some (.iface t v,e,h):=(rfl)
theorem step_gen (k xs):step orc base draw (.gen k xs) e h=(evs e xs).bnd fun vs=>(genV base h k vs).bnd fun r=>some (r.1,e,r.2):=(rfl)
theorem X_gen (d k xs r):execOps orc base draw (⟨d,none,.gen k xs⟩ :: r) e h=(evs e xs).bnd fun vs=>bnd2 (genV base h k vs) fun v h=>execOps orc base draw r (putD e d v) h:=by
 rw [execOps_plain,step_gen,bnd3_bnd]
 congr 1;funext vs
 rw [bnd3_bnd]
 cases genV base h k vs <;> (exact rfl)
theorem step_slice (n x lo hi mx):step orc base draw (.slice n x lo hi mx) e h=(ev e x).bnd fun v=>(sliceOf e n lo hi mx v).bnd fun r=>some (r,e,h):=(rfl)
theorem step_call (f args):step orc base draw (.call f args) e h=(evs e args).bnd fun vs=>(orc f vs h).bnd fun r =>
   if draw then (if r.2=h then some (r.1,e,h) else none) else some (r.1,e,r.2):=(rfl)
theorem X_call (d f args r):execOps orc base false (⟨d,none,.call f args⟩ :: r) e h=(evs e args).bnd fun vs=>bnd2 (orc f vs h) fun v h=>execOps orc base false r (putD e d v) h:=by
 rw [execOps_plain,step_call,bnd3_bnd]
 congr 1
 funext vs
 rw [bnd3_bnd]
 cases orc f vs h <;> (exact rfl)
theorem step_callQ (f args):step orc base draw (.callQ f args) e h=(evs e args).bnd fun vs=>(orcQ orc f vs h).bnd fun r=>if r.2=h then some (r.1,e,h) else none:=(rfl)
theorem X_callQ (d f args r):execOps orc base draw (⟨d,none,.callQ f args⟩ :: r) e h=(evs e args).bnd fun vs=>bnd2 (orcQ orc f vs h) fun v h'=>if h'=h then execOps orc base draw r (putD e d v) h else none:=by
 rw [execOps_plain,step_callQ,bnd3_bnd]
 congr 1
 funext vs
 rw [bnd3_bnd]
 cases orcQ orc f vs h with
 | none=>exact rfl
 | some x=>obtain ⟨v,h'⟩:=x;simp only [Option.bnd_some];by_cases hq:h'=h <;> simp [hq,bnd2,bnd3,Option.bnd]
theorem X_callD (d f args r):execOps orc base true (⟨d,none,.call f args⟩ :: r) e h=(evs e args).bnd fun vs=>bnd2 (orc f vs h) fun v h'=>if h'=h then execOps orc base true r (putD e d v) h else none:=by
 rw [execOps_plain,step_call,bnd3_bnd]
 congr 1
 funext vs
 rw [bnd3_bnd]
 cases orc f vs h with
 | none=>exact rfl
 | some x =>
  simp only [Option.bnd_some,if_true,bnd3_ite,bnd3_some,bnd3_none]
  exact rfl
theorem step_build (z ps):step orc base draw (.build z ps) e h=(evParts3 e ps).bnd fun l=>(buildAgg l z).bnd fun cs=>some (.agg cs,e,h):=(rfl)
theorem step_buildSl (sz agg z len ps):step orc base draw (.buildSl sz agg z len ps) e h=(evParts e ps).bnd fun l =>
   (fillParts sz l (List.replicate len (if agg then .agg z else z.headD .undef))).bnd fun es=>some (.sl .full sz es,e,h):=(rfl)
def appB (xs:List PV) (sz:Nat) (v:PV) (e:Env) (h:Hp):Option (PV × Env × Hp) :=
   if xs.all (fun x=>x.cells.length == sz) then
   match v with
   | .nils=>if xs.length≤lim2 then some (if xs.isEmpty then .nils else .sl .no sz (strips xs),e,h) else none
   | .sl .full sz' es=>if sz'=sz∧es.length+xs.length≤lim2 then some (if xs.isEmpty then .sl .full sz es else .sl .no sz (es ++ strips xs),e,h) else none
   | _=>none
   else none
theorem step_appendT (T sz s x):step orc base draw (.appendT T sz s x) e h=(ev e s).bnd fun v=>(ev e x).bnd fun u=>(elems h u).bnd fun xs=>(growT h T sz v xs).bnd fun r=>some (r.1,e,r.2):=(rfl)
theorem X_appendT (d T sz s x r):execOps orc base draw (⟨d,none,.appendT T sz s x⟩ :: r) e h=(ev e s).bnd fun v=>(ev e x).bnd fun u=>(elems h u).bnd fun xs=>bnd2 (growT h T sz v xs) fun v h=>execOps orc base draw r (putD e d v) h:=by
 rw [execOps_plain,step_appendT];simp only [bnd3_bnd,bnd3_some]
 congr 1;funext v;congr 1;funext u;congr 1;funext xs
 cases growT h T sz v xs <;> (exact rfl)
theorem step_append (sz s x):step orc base draw (.append sz s x) e h=(ev e s).bnd fun v=>(ev e x).bnd fun u=>(elems h u).bnd fun xs=>appB xs sz v e h:=(rfl)
theorem X_fieldA (d off x r):execOps orc base draw (⟨d,none,.fieldA off x⟩ :: r) e h=(ev e x).bnd fun v=>(fieldAB v off).bnd fun r'=>execOps orc base draw r (putD e d r') h:=by
 rw [execOps_plain,step_fieldA];simp only [bnd3_bnd,bnd3_some]
theorem X_nilck (d x r):execOps orc base draw (⟨d,none,.nilck x⟩ :: r) e h=(ev e x).bnd fun v=>(isNil v).bnd fun b=>whenB b none (execOps orc base draw r (putD e d v) h):=by
 rw [execOps_plain,step_nilck];simp only [bnd3_bnd,bnd3_some,bnd3_ite,bnd3_none];exact rfl
theorem X_bin (d op x y r):execOps orc base draw (⟨d,none,.bin op x y⟩ :: r) e h=(ev e x).bnd fun a=>(ev e y).bnd fun b=>(binOp op a b).bnd fun r'=>execOps orc base draw r (putD e d r') h:=by
 rw [execOps_plain,step_bin];simp only [bnd3_bnd,bnd3_some]
theorem X_binB (d neg x y r):execOps orc base draw (⟨d,none,.binB neg x y⟩ :: r) e h=(ev e x).bnd fun a=>(ev e y).bnd fun b=>(boolB neg a b).bnd fun r'=>execOps orc base draw r (putD e d r') h:=by
 rw [execOps_plain,step_binB];simp only [bnd3_bnd,bnd3_some]
theorem X_isnil (d kd neg x r):execOps orc base draw (⟨d,none,.isnil kd neg x⟩ :: r) e h=(ev e x).bnd fun v=>(nilK kd v).bnd fun b=>execOps orc base draw r (putD e d (.bool (if neg then !b else b))) h:=by
 rw [execOps_plain,step_isnil];simp only [bnd3_bnd,bnd3_some]
theorem X_un (d op x r):execOps orc base draw (⟨d,none,.un op x⟩ :: r) e h=(ev e x).bnd fun a=>(unOp op a).bnd fun r'=>execOps orc base draw r (putD e d r') h:=by
 rw [execOps_plain,step_un];simp only [bnd3_bnd,bnd3_some]
theorem X_toInt (d k x r):execOps orc base draw (⟨d,none,.toInt k x⟩ :: r) e h=(ev e x).bnd fun v=>(toIntB v k).bnd fun r'=>execOps orc base draw r (putD e d r') h:=by
 rw [execOps_plain,step_toInt];simp only [bnd3_bnd,bnd3_some]
theorem X_extract (d x i r):execOps orc base draw (⟨d,none,.extract x i⟩ :: r) e h=(ev e x).bnd fun v=>(extractB v i).bnd fun r'=>execOps orc base draw r (putD e d r') h:=by
 rw [execOps_plain,step_extract];simp only [bnd3_bnd,bnd3_some]
theorem X_field (d off n agg x r):execOps orc base draw (⟨d,none,.field off n agg x⟩ :: r) e h=(ev e x).bnd fun v=>(fieldB v off n agg).bnd fun r'=>execOps orc base draw r (putD e d r') h:=by
 rw [execOps_plain,step_field];simp only [bnd3_bnd,bnd3_some]
theorem X_len (d str x r):execOps orc base draw (⟨d,none,.len str x⟩ :: r) e h=(ev e x).bnd fun v=>(lenB str v).bnd fun r'=>execOps orc base draw r (putD e d r') h:=by
 rw [execOps_plain,step_len];simp only [bnd3_bnd,bnd3_some]
theorem X_idxA (d sz x i r):execOps orc base draw (⟨d,none,.idxA sz x i⟩ :: r) e h=(ev e x).bnd fun v=>(ev e i).bnd fun i=>(idxAB v i sz).bnd fun r'=>execOps orc base draw r (putD e d r') h:=by
 rw [execOps_plain,step_idxA];simp only [bnd3_bnd,bnd3_some]
theorem X_idxStr (d x i r):execOps orc base draw (⟨d,none,.idxStr x i⟩ :: r) e h=(ev e x).bnd fun v=>(ev e i).bnd fun i=>(idxStrB v i).bnd fun r'=>execOps orc base draw r (putD e d r') h:=by
 rw [execOps_plain,step_idxStr];simp only [bnd3_bnd,bnd3_some]
theorem X_alloc (d z r):execOps orc base draw (⟨d,none,.alloc z⟩ :: r) e h=execOps orc base draw r (putD e d (.ptr (size h) 0)) (ext h [.cells z]):=by
 rw [execOps_plain,step_alloc,bnd3_some]
theorem X_load (d n agg a r):execOps orc base draw (⟨d,none,.load n agg a⟩ :: r) e h=(ev e a).bnd fun v=>bnd3 (loadB v e h n agg) fun v e h=>execOps orc base draw r (putD e d v) h:=by
 rw [execOps_plain,step_load];simp only [bnd3_bnd,bnd3_some]
noncomputable def loadNB (q v:PV) (e:Env) (h:Hp) (n:Nat) (agg:Bool):Option (PV × Env × Hp):=match q,v with
 | .ptr c _,.ptr b off=>if b=c then none else loadB (.ptr b off) e h n agg
 | .ptr _ _,.ep cs off=>loadB (.ep cs off) e h n agg
 | _,_=>none
noncomputable def storeNB (q v u:PV) (base:Nat) (e:Env) (h:Hp) (n:Nat):Option (PV × Env × Hp):=match q,v with
 | .ptr c _,.ptr b off=>if b=c then storeB (.ptr b off) u base e h n else none
 | _,_=>none
theorem loadNB_ptr (c o b off e h n g):loadNB (.ptr c o) (.ptr b off) e h n g=if b=c then none else loadB (.ptr b off) e h n g:=(rfl)
theorem loadNB_ep (c o cs off e h n g):loadNB (.ptr c o) (.ep cs off) e h n g=loadB (.ep cs off) e h n g:=(rfl)
theorem storeNB_ptr (c o b off u base e h n):storeNB (.ptr c o) (.ptr b off) u base e h n=if b=c then storeB (.ptr b off) u base e h n else none:=(rfl)
theorem X_loadN (d t n agg a r):execOps orc base draw (⟨d,none,.loadN t n agg a⟩ :: r) e h=(look e t).bnd fun q=>(ev e a).bnd fun v=>bnd3 (loadNB q v e h n agg) fun v e h=>execOps orc base draw r (putD e d v) h:=by
 rw [execOps_plain]
 show bnd3 (Option.bnd _ _) _=_
 simp only [bnd3_bnd];rfl
theorem X_storeN (d t n a x r):execOps orc base draw (⟨d,none,.storeN t n a x⟩ :: r) e h=(look e t).bnd fun q=>(ev e a).bnd fun v=>(ev e x).bnd fun u=>bnd3 (storeNB q v u base e h n) fun v e h=>execOps orc base draw r (putD e d v) h:=by
 rw [execOps_plain]
 show bnd3 (Option.bnd _ _) _=_
 simp only [bnd3_bnd];rfl
theorem X_store (d n a x r):execOps orc base draw (⟨d,none,.store n a x⟩ :: r) e h=(ev e a).bnd fun v=>(ev e x).bnd fun u=>bnd3 (storeB v u base e h n) fun v e h=>execOps orc base draw r (putD e d v) h:=by
 rw [execOps_plain,step_store];simp only [bnd3_bnd,bnd3_some]
theorem X_box (d n x r):execOps orc base draw (⟨d,none,.box n x⟩ :: r) e h=(ev e x).bnd fun v=>bnd3 (if v.cells.length=n∧v.cells.all scalar=true then some (.ptr (size h) 0,e,ext h [.cells v.cells]) else none) fun v e h=>execOps orc base draw r (putD e d v) h:=by
 rw [execOps_plain,step_box];simp only [bnd3_bnd,bnd3_some]
theorem X_pick (d c a b r):execOps orc base draw (⟨d,none,.pick c a b⟩ :: r) e h=(ev e c).bnd fun v=>bnd3 (condB v ((ev e a).bnd fun v=>some (v,e,h)) ((ev e b).bnd fun v=>some (v,e,h))) fun v e h=>execOps orc base draw r (putD e d v) h:=by
 rw [execOps_plain,step_pick];simp only [bnd3_bnd,bnd3_some]
theorem X_minmax (d mx xs r):execOps orc base draw (⟨d,none,.minmax mx xs⟩ :: r) e h=(evs e xs).bnd fun vs=>bnd3 (match vs with | []=>none | x :: r=>(minMax mx x r).bnd fun r=>some (r,e,h)) fun v e h=>execOps orc base draw r (putD e d v) h:=by
 rw [execOps_plain,step_minmax];simp only [bnd3_bnd,bnd3_some]
theorem X_mkif (d t x r):execOps orc base draw (⟨d,none,.mkif t x⟩ :: r) e h=(ev e x).bnd fun v=>execOps orc base draw r (putD e d (.iface t v)) h:=by
 rw [execOps_plain,step_mkif];simp only [bnd3_bnd,bnd3_some]
theorem X_slice (d n x lo hi mx r):execOps orc base draw (⟨d,none,.slice n x lo hi mx⟩ :: r) e h=(ev e x).bnd fun v=>(sliceOf e n lo hi mx v).bnd fun r'=>execOps orc base draw r (putD e d r') h:=by
 rw [execOps_plain,step_slice];simp only [bnd3_bnd,bnd3_some]
theorem X_build (d z ps r):execOps orc base draw (⟨d,none,.build z ps⟩ :: r) e h=(evParts3 e ps).bnd fun l=>(buildAgg l z).bnd fun cs=>execOps orc base draw r (putD e d (.agg cs)) h:=by
 rw [execOps_plain,step_build];simp only [bnd3_bnd,bnd3_some]
theorem X_buildSl (d sz agg z len ps r):execOps orc base draw (⟨d,none,.buildSl sz agg z len ps⟩ :: r) e h=(evParts e ps).bnd fun l=>(fillParts sz l (List.replicate len (if agg then .agg z else z.headD .undef))).bnd fun es=>execOps orc base draw r (putD e d (.sl .full sz es)) h:=by
 rw [execOps_plain,step_buildSl];simp only [bnd3_bnd,bnd3_some]
theorem X_append (d sz s x r):execOps orc base draw (⟨d,none,.append sz s x⟩ :: r) e h=(ev e s).bnd fun v=>(ev e x).bnd fun u=>(elems h u).bnd fun xs=>bnd3 (appB xs sz v e h) fun v e h=>execOps orc base draw r (putD e d v) h:=by
 rw [execOps_plain,step_append];simp only [bnd3_bnd,bnd3_some]
end steps
theorem binOp_int (op k a j b):binOp op (.int k a) (.int j b)=if isShift op then shiftOp op k a b else if k=j then intOp op k a b else none:=(rfl)
theorem binOp_str (op a b):binOp op (.str a) (.str b)=strOp op a b:=(rfl)
theorem nilK_00:nilK 0 .nilp=some true:=(rfl)
theorem nilK_0b (t):nilK 0 (.bnil t)=some true:=(rfl)
theorem nilK_01 (b o):nilK 0 (.ptr b o)=some false:=(rfl)
theorem nilK_10:nilK 1 .nils=some true:=(rfl)
theorem nilK_11 (a b c):nilK 1 (.sl a b c)=some false:=(rfl)
theorem nilK_12 (f a b c d):nilK 1 (.bsl f a b c d)=some false:=(rfl)
theorem nilK_20:nilK 2 .nilif=some true:=(rfl)
theorem nilK_21 (a b):nilK 2 (.iface a b)=some false:=(rfl)
theorem nilK_30:nilK 3 .nilf=some true:=(rfl)
theorem nilK_31 (a b):nilK 3 (.fn a b)=some false:=(rfl)
theorem nilK_40:nilK 4 .nilm=some true:=(rfl)
theorem nilK_41 (a):nilK 4 (.mref a)=some false:=(rfl)
theorem scalar_bool (b):scalar (.bool b)=true:=(rfl)
theorem scalar_int (k n):scalar (.int k n)=true:=(rfl)
theorem scalar_str (s):scalar (.str s)=true:=(rfl)
theorem scalar_nilp:scalar .nilp=true:=(rfl)
theorem scalar_bnil (t):scalar (.bnil t)=false:=(rfl)
theorem scalar_ptr (b o):scalar (.ptr b o)=true:=(rfl)
theorem scalar_nils:scalar .nils=true:=(rfl)
theorem scalar_sl (b o c):scalar (.sl b o c)=true:=(rfl)
theorem scalar_bsl (f a b c d):scalar (.bsl f a b c d)=true:=(rfl)
theorem scalar_nilif:scalar .nilif=true:=(rfl)
theorem scalar_iface (b o):scalar (.iface b o)=true:=(rfl)
theorem scalar_nilf:scalar .nilf=true:=(rfl)
theorem scalar_fn (b o):scalar (.fn b o)=true:=(rfl)
theorem isShift_add:isShift .add=false:=(rfl)
theorem isShift_sub:isShift .sub=false:=(rfl)
theorem isShift_mul:isShift .mul=false:=(rfl)
theorem isShift_quo:isShift .quo=false:=(rfl)
theorem isShift_rem:isShift .rem=false:=(rfl)
theorem isShift_and:isShift .and=false:=(rfl)
theorem isShift_or:isShift .or=false:=(rfl)
theorem isShift_xor:isShift .xor=false:=(rfl)
theorem isShift_andNot:isShift .andNot=false:=(rfl)
theorem isShift_eql:isShift .eql=false:=(rfl)
theorem isShift_neq:isShift .neq=false:=(rfl)
theorem isShift_lss:isShift .lss=false:=(rfl)
theorem isShift_leq:isShift .leq=false:=(rfl)
theorem isShift_gtr:isShift .gtr=false:=(rfl)
theorem isShift_geq:isShift .geq=false:=(rfl)
theorem isShift_shl:isShift .shl=true:=(rfl)
theorem isShift_shr:isShift .shr=true:=(rfl)
theorem unOp_not (b):unOp .not (.bool b)=some (.bool (!b)):=(rfl)
theorem unOp_neg (k n):unOp .neg (.int k n)=some (.int k (k.wrap (0 - n))):=(rfl)
theorem part_agg (cs off n):part cs off n true=if off+n≤cs.length then some (.agg ((cs.drop off).take n)) else none:=(rfl)
theorem part_one (cs off n):part cs off n false=cs[off]?:=(rfl)
theorem minMax_nil (m x):minMax m x []=some x:=(rfl)
theorem minMax_cons (m x y r):minMax m x (y :: r)=(minMax2 m x y).bnd fun z=>minMax m z r:=(rfl)
theorem minMax2_max (k x j y):minMax2 true (.int k x) (.int j y)=some (.int k (if y > x then y else x)):=(rfl)
theorem minMax2_min (k x j y):minMax2 false (.int k x) (.int j y)=some (.int k (if y < x then y else x)):=(rfl)
theorem ix_int (k i n):ix (.int k i) n=if 0≤i∧i < n then some i.toNat else none:=(rfl)
/-! ### No pointers -/
theorem belows_nil (n):belows n []=true:=(rfl)
theorem belows_cons (n v vs):belows n (v :: vs)=(below n v && belows n vs):=(rfl)
theorem below_undef (n):below n .undef=true:=(rfl)
theorem below_bool (n b):below n (.bool b)=true:=(rfl)
theorem below_int (n k i):below n (.int k i)=true:=(rfl)
theorem below_str (n s):below n (.str s)=true:=(rfl)
theorem below_nilp (n):below n .nilp=true:=(rfl)
theorem below_bnil (n t):below n (.bnil t)=true:=(rfl)
theorem below_nils (n):below n .nils=true:=(rfl)
theorem below_nilif (n):below n .nilif=true:=(rfl)
theorem below_nilf (n):below n .nilf=true:=(rfl)
theorem below_nilm (n):below n .nilm=true:=(rfl)
theorem below_mref (n b):below n (.mref b)=decide (b < n):=(rfl)
theorem scalar_nilm:scalar .nilm=true:=(rfl)
theorem scalar_mref (b):scalar (.mref b)=true:=(rfl)
theorem below_ptr (n b o):below n (.ptr b o)=decide (b < n):=(rfl)
theorem below_sl (n o z es):below n (.sl o z es)=(o.below n && belows n es):=(rfl)
theorem below_bsl (n f b c d z):below n (.bsl f b c d z)=decide (b < n):=(rfl)
theorem below_fn (n f c):below n (.fn f c)=belows n c:=(rfl)
theorem below_ep (n c o):below n (.ep c o)=belows n c:=(rfl)
theorem below_iface (n t v):below n (.iface t v)=below n v:=(rfl)
theorem below_agg (n cs):below n (.agg cs)=belows n cs:=(rfl)
theorem below_tup (n cs):below n (.tup cs)=belows n cs:=(rfl)
theorem belows_map {α:Type} {n:Nat} {f:α→PV} (hf:∀ x,below n (f x)=true):∀ xs:List α,belows n (xs.map f)=true
 | []=>rfl
 | x :: xs=>by simp [belows,hf x,belows_map hf xs]
/-! ### Functions of the machine,said as equations that simp keeps a proof of -/
theorem intOp_add (k a b):intOp .add k a b=some (.int k (k.wrap (a+b))):=(rfl)
theorem intOp_sub (k a b):intOp .sub k a b=some (.int k (k.wrap (a - b))):=(rfl)
theorem intOp_mul (k a b):intOp .mul k a b=some (.int k (k.wrap (a * b))):=(rfl)
theorem intOp_quo (k a b):intOp .quo k a b=if b=0 then none else some (.int k (k.wrap (a.tdiv b))):=(rfl)
theorem intOp_rem (k a b):intOp .rem k a b=if b=0 then none else some (.int k (a.tmod b)):=(rfl)
theorem intOp_eql (k a b):intOp .eql k a b=some (.bool (a == b)):=(rfl)
theorem intOp_neq (k a b):intOp .neq k a b=some (.bool (a != b)):=(rfl)
theorem intOp_lss (k a b):intOp .lss k a b=some (.bool (decide (a < b))):=(rfl)
theorem intOp_leq (k a b):intOp .leq k a b=some (.bool (decide (a≤b))):=(rfl)
theorem intOp_gtr (k a b):intOp .gtr k a b=some (.bool (decide (a > b))):=(rfl)
theorem intOp_geq (k a b):intOp .geq k a b=some (.bool (decide (a ≥ b))):=(rfl)
theorem strOp_eql (x y):strOp .eql x y=some (.bool (x == y)):=(rfl)
theorem strOp_neq (x y):strOp .neq x y=some (.bool (x != y)):=(rfl)
theorem strOp_add (x y):strOp .add x y=if x.length+y.length≤limS then some (.str (x ++ y)) else none:=(rfl)
theorem resultOf_tmp (e h t):resultOf e h (t,none)=look e t:=(rfl)
noncomputable def resB (v:PV) (h:Hp) (n:Nat) (agg:Bool):Option PV:=match v with
  | .ptr b off=>(getBox h b).bnd fun cs=>part cs off n agg
  | _=>none
theorem resB_ptr (b off h n agg):resB (.ptr b off) h n agg=(getBox h b).bnd fun cs=>part cs off n agg:=(rfl)
theorem resultOf_cell (e h t n agg):resultOf e h (t,some (n,agg))=(look e t).bnd fun v=>resB v h n agg:=(rfl)
theorem resultsOf_nil (e h):resultsOf e h []=some []:=(rfl)
theorem resultsOf_cons (e h t ts):resultsOf e h (t :: ts)=(resultOf e h t).bnd fun v=>(resultsOf e h ts).bnd fun vs=>some (v :: vs):=(rfl)
theorem result1_one (v):result1 [v]=v:=(rfl)
theorem result1_nil:result1 []=.tup []:=(rfl)
theorem result1_two (v w vs):result1 (v :: w :: vs)=.tup (v :: w :: vs):=(rfl)
theorem finish_code (rs body h0 e h):finish ⟨rs,body,false,false⟩ h0 e h=(resultsOf e h rs).bnd fun vs=>(frzs h0 h vs).bnd fun vs=>if belows h0 vs=true then some (result1 vs,trunc h h0) else none:=(rfl)
theorem finish_own (rs body h0 e h):finish ⟨rs,body,false,true⟩ h0 e h=(resultsOf e h rs).bnd fun vs=>bnd2 (ownEnd h0 h vs) fun vs h=>some (result1 vs,h):=by
 show Option.bnd _ _=Option.bnd _ _
 congr 1;funext vs
 show Option.bnd _ _=_
 cases ownEnd h0 h vs <;> (exact rfl)
theorem finish_keep (rs body own h0 e h):finish ⟨rs,body,true,own⟩ h0 e h=(resultsOf e h rs).bnd fun vs=>some (result1 vs,h):=(rfl)
theorem frzs_nil (n h):frzs n h []=some []:=(rfl)
theorem frzs_cons (n h v vs):frzs n h (v :: vs)=(frz n h v).bnd fun v=>(frzs n h vs).bnd fun vs=>some (v :: vs):=(rfl)
theorem frz_sl (n h o z es):frz n h (.sl o z es)=some (.sl o.strip z es):=(rfl)
theorem frz_bsl (n h f b off len sz):frz n h (.bsl f b off len sz)=if b < n then some (.bsl f b off len sz) else
   (getBox h b).bnd fun cs=>(elemsOf sz len (cs.drop off)).bnd fun es=>some (.sl (if f then .full else .no) sz es):=(rfl)
theorem frz_agg (n h cs):frz n h (.agg cs)=(frzs n h cs).bnd fun cs=>some (.agg cs):=(rfl)
theorem frz_tup (n h cs):frz n h (.tup cs)=(frzs n h cs).bnd fun cs=>some (.tup cs):=(rfl)
theorem frz_iface (n h t v):frz n h (.iface t v)=(frz n h v).bnd fun v=>some (.iface t v):=(rfl)
theorem frz_undef (n h):frz n h .undef=some .undef:=(rfl)
theorem frz_bool (n h b):frz n h (.bool b)=some (.bool b):=(rfl)
theorem frz_int (n h k i):frz n h (.int k i)=some (.int k i):=(rfl)
theorem frz_str (n h s):frz n h (.str s)=some (.str s):=(rfl)
theorem frz_nilp (n h):frz n h .nilp=some .nilp:=(rfl)
theorem frz_bnil (n h t):frz n h (.bnil t)=some (.bnil t):=(rfl)
theorem frz_nilm (n h):frz n h .nilm=some .nilm:=(rfl)
theorem frz_mref (n h b):frz n h (.mref b)=some (.mref b):=(rfl)
theorem frz_ptr (n h b o):frz n h (.ptr b o)=some (.ptr b o):=(rfl)
theorem frz_ep (n h b o):frz n h (.ep b o)=some (.ep b o):=(rfl)
theorem frz_nils (n h):frz n h .nils=some .nils:=(rfl)
theorem frz_nilif (n h):frz n h .nilif=some .nilif:=(rfl)
theorem frz_nilf (n h):frz n h .nilf=some .nilf:=(rfl)
theorem frz_fn (n h f c):frz n h (.fn f c)=some (.fn f c):=(rfl)
theorem frz_ptr_it (n h b):frz n h (.it b)=some (.it b):=(rfl)
theorem ownEnd_tok (h0 h t sz es vs):ownEnd h0 h (.sl (.tok t) sz es :: vs)=if belows h0 es=true∧belows h0 vs=true then
   (if t < h0 then some (.sl (.tok t) sz es :: vs,trunc h h0) else (getTok h t).bnd fun n=>some (.sl (.tok h0) sz es :: vs,ext (trunc h h0) [.tok n.1 n.2])) else none:=(rfl)
theorem ownEnd_bsl (h0 h f b off len sz vs):ownEnd h0 h (.bsl f b off len sz :: vs)=if b < h0 then (if belows h0 vs=true then some (.bsl f b off len sz :: vs,trunc h h0) else none) else
   (getBox h b).bnd fun cs=>if belows h0 vs=true∧belows h0 cs=true then some (.bsl f h0 off len sz :: vs,ext (trunc h h0) [.cells cs]) else none:=(rfl)
theorem ownEnd_nils (h0 h vs):ownEnd h0 h (.nils :: vs)=(frzs h0 h (.nils :: vs)).bnd fun vs=>if belows h0 vs=true then some (vs,trunc h h0) else none:=(rfl)
theorem ownEnd_no (h0 h sz es vs):ownEnd h0 h (.sl .no sz es :: vs)=(frzs h0 h (.sl .no sz es :: vs)).bnd fun vs=>if belows h0 vs=true then some (vs,trunc h h0) else none:=(rfl)
theorem ownEnd_full (h0 h sz es vs):ownEnd h0 h (.sl .full sz es :: vs)=(frzs h0 h (.sl .full sz es :: vs)).bnd fun vs=>if belows h0 vs=true then some (vs,trunc h h0) else none:=(rfl)
theorem elemsOf_one (len cs):elemsOf 1 len cs=if len≤cs.length∧(cs.take len).all scalar=true then some (strips (cs.take len)) else none:=(rfl)
theorem setRange_nil (cs off):setRange cs off []=cs:=(rfl)
theorem setRange_cons (cs off v vs):setRange cs off (v :: vs)=setRange (cs.set off v) (off+1) vs:=(rfl)
section run
variable {T:Table} {base:Nat} {e:Env} {h:Hp}
theorem R_ops {l:List AOper} {draw:Bool} {keep:List Nat} :
  ExecA T (.ops l draw keep) base e h=bnd2 (execOps (CallA T base) base draw l e h) fun e h=>some (.norm,prune keep e,h):=by
 rw [ExecA_ops];cases execOps (CallA T base) base draw l e h <;> (exact rfl)
def seqB {α:Type} (x:AEx) (e:Env) (h:Hp) (k:Env→Hp→Option (AEx × Env × Hp)):Option (AEx × Env × Hp):=match x with
 | .norm=>k e h
 | x=>some (x,e,h)
def bndX {α:Type} (x:Option (AEx × Env × Hp)) (k:AEx→Env→Hp→Option α):Option α:=match x with
 | some (x,e,h)=>k x e h
 | none=>none
@[congr] theorem bndX_congr {α:Type} {x y:Option (AEx × Env × Hp)} {k:AEx→Env→Hp→Option α} (h:x=y):bndX x k=bndX y k:=by rw [h]
theorem bndX_some {α:Type} (v e h) (k:AEx→Env→Hp→Option α):bndX (some (v,e,h)) k=k v e h:=(rfl)
theorem bndX_none {α:Type} (k:AEx→Env→Hp→Option α):bndX none k=none:=(rfl)
theorem bndX_ite {α:Type} {c:Prop} [Decidable c] (x y) (k:AEx→Env→Hp→Option α):bndX (if c then x else y) k=if c then bndX x k else bndX y k:=by split <;> (exact rfl)
def onNorm {α:Type} (x:AEx) (a b:Option α):Option α:=match x with
 | .norm=>a
 | _=>b
@[congr] theorem onNorm_congr {α:Type} {x y:AEx} {a b:Option α} (h:x=y):onNorm x a b=onNorm y a b:=by rw [h]
theorem onNorm_norm {α:Type} (a b:Option α):onNorm .norm a b=a:=(rfl)
theorem onNorm_ret {α:Type} (a b:Option α):onNorm .ret a b=b:=(rfl)
theorem onNorm_exit {α:Type} (i) (a b:Option α):onNorm (.exit i) a b=b:=(rfl)
theorem R_seq {a b:ACode}:ExecA T (.seq a b) base e h=bndX (ExecA T a base e h) fun x e h=>onNorm x (ExecA T b base e h) (some (x,e,h)):=by
 rw [ExecA_seq]
 cases ExecA T a base e h with
 | none=>exact rfl
 | some x=>obtain ⟨x,e',h'⟩:=x;cases x <;> (exact rfl)
theorem R_loop {a:ACode}:ExecA T (.loop a) base e h=bndX (ExecA T a base e h) fun x e h=>onNorm x (ExecA T (.loop a) base e h) (some (x,e,h)):=by
 rw [ExecA_loop]
 cases ExecA T a base e h with
 | none=>exact rfl
 | some x=>obtain ⟨x,e',h'⟩:=x;cases x <;> (exact rfl)
def onExit {α:Type} (id:Nat) (x:AEx) (a b:Option α):Option α:=match x with
 | .exit i=>if i=id then a else b
 | _=>b
@[congr] theorem onExit_congr {α:Type} {id:Nat} {x y:AEx} {a b:Option α} (h:x=y):onExit id x a b=onExit id y a b:=by rw [h]
theorem onExit_norm {α:Type} (id) (a b:Option α):onExit id .norm a b=b:=(rfl)
theorem onExit_ret {α:Type} (id) (a b:Option α):onExit id .ret a b=b:=(rfl)
theorem onExit_exit {α:Type} (id i) (a b:Option α):onExit id (.exit i) a b=if i=id then a else b:=(rfl)
theorem R_block {id:Nat} {a:ACode}:ExecA T (.block id a) base e h=bndX (ExecA T a base e h) fun x e h=>onExit id x (some (.norm,e,h)) (some (x,e,h)):=by
 rw [ExecA_block]
 cases ExecA T a base e h with
 | none=>exact rfl
 | some x =>
  obtain ⟨x,e',h'⟩:=x
  cases x with
  | exit i=>simp only [Option.bnd_some,bndX_some,onExit_exit]
  | _=>exact rfl
def onEnd {α:Type} (x:AEx) (a:Option α):Option α:=match x with
 | .exit _=>none
 | _=>a
theorem onEnd_norm {α:Type} (a:Option α):onEnd .norm a=a:=(rfl)
theorem onEnd_ret {α:Type} (a:Option α):onEnd .ret a=a:=(rfl)
@[congr] theorem onEnd_congr {α:Type} {x y:AEx} {a:Option α} (h:x=y):onEnd x a=onEnd y a:=by rw [h]
theorem R_call {f:Nat} {rs:List (Nat × Option (Nat × Bool))} {body:ACode} {own:Bool} {a:List PV} (hT:T f=some (.code ⟨rs,body,false,own⟩)) :
  CallA T base f a h=bndX (ExecA T body (size h) (params 0 a) h) fun x e h'=>onEnd x (finish ⟨rs,body,false,own⟩ (size h) e h'):=by
 rw [CallA_code hT]
 show Option.bnd _ (ExecA T body (size h) (params 0 a) h)=_
 cases ExecA T body (size h) (params 0 a) h with
 | none=>exact rfl
 | some x=>obtain ⟨x,e',h'⟩:=x;cases x <;> (exact rfl)
theorem R_callK {f:Nat} {rs:List (Nat × Option (Nat × Bool))} {body:ACode} {own:Bool} {a:List PV} (hT:T f=some (.code ⟨rs,body,true,own⟩)) :
  CallA T base f a h=bndX (ExecA T body base (params 0 a) h) fun x e h'=>onEnd x (finish ⟨rs,body,true,own⟩ (size h) e h'):=by
 rw [CallA_code hT]
 show Option.bnd _ (ExecA T body base (params 0 a) h)=_
 cases ExecA T body base (params 0 a) h with
 | none=>exact rfl
 | some x=>obtain ⟨x,e',h'⟩:=x;cases x <;> (exact rfl)
end run
end Go.Am
namespace Go.Am
set_option linter.unusedVariables false
set_option linter.unusedSimpArgs false
mutual
def ofValue:Value→Option PV
 | .bool b=>some (.bool b)
 | .int k n=>some (.int k n)
 | .string s=>some (.str s.data.toList)
 | .pointer none=>some .nilp
 | .slice none 0 0=>some .nils
 | .nilIface=>some .nilif
 | .nilFunc=>some .nilf
 | .map none=>some .nilm
 | .agg cs=>(ofCells cs.toList).map .agg
 | _=>none
def ofCells:List Value→Option (List PV)
 | []=>some []
 | .bool b :: r=>(ofCells r).map (.bool b :: ·)
 | .int k n :: r=>(ofCells r).map (.int k n :: ·)
 | .string s :: r=>(ofCells r).map (.str s.data.toList :: ·)
 | .pointer none :: r=>(ofCells r).map (.nilp :: ·)
 | .slice none 0 0 :: r=>(ofCells r).map (.nils :: ·)
 | .nilIface :: r=>(ofCells r).map (.nilif :: ·)
 | .nilFunc :: r=>(ofCells r).map (.nilf :: ·)
 | .map none :: r=>(ofCells r).map (.nilm :: ·)
 | _ :: _=>none
end
abbrev Globs:=List (Nat × List PV)
def glob:Globs→Nat→Option (List PV)
 | [],_=>none
 |(i,c) :: r,n=>if i=n then some c else glob r n
def cOpnd (gl:Globs):Operand→Option Opnd
 | .tmp t=>some (.tmp t)
 | .const v=>(ofValue v).map .const
 | .func f=>some (.const (.fn f []))
 | .global n=>(glob gl n).map fun cs=>.const (.ep cs 0)
def cOpnds (gl:Globs):List Operand→Option (List Opnd)
 | []=>some []
 | x :: xs=>(cOpnd gl x).bind fun y=>(cOpnds gl xs).map (y :: ·)
def cOpt (gl:Globs):Option Operand→Option (Option Opnd)
 | none=>some none
 | some x=>(cOpnd gl x).map some
structure Ann where
 boxes:List (Nat × Nat):=[]
 vals:List (Nat × Nat):=[]
 grows:List (Nat × Nat):=[]
 keep:Bool:=false
 own:Bool:=false
 apart:List (Nat × Nat):=[]
 quiet:List (Nat × Nat):=[]
def aggOf (P:Program) (t:TypeId):Option Bool :=
 match P.underlying t with
 | some (.struct _) | some (.array _ _)=>some true
 | some _=>some false
 | none=>none
def sizeOf (P:Program) (t:TypeId):Option Nat:=(P.info? t).map (·.size)
def zeroOf (P:Program) (t:TypeId):Option (List PV):=((P.info? t).bind (·.zero)).bind fun v=>(ofValue v).map (·.cells)
def zeroV (P:Program) (t:TypeId):Option PV:=((P.info? t).bind (·.zero)).bind ofValue
def isNilConst:Nat→Operand→Bool
 | 0,.const (.pointer none)=>true
 | 1,.const (.slice none 0 0)=>true
 | 2,.const .nilIface=>true
 | 3,.const .nilFunc=>true
 | 4,.const (.map none)=>true
 | _,_=>false
def nilKind:TypeDesc→Option Nat
 | .pointer _=>some 0
 | .slice _=>some 1
 | .interface _=>some 2
 | .func _ _ _=>some 3
 | .map _ _=>some 4
 | _=>none
def isNeq:BinOp→Bool
 | .neq=>true
 | _=>false
def isEq:BinOp→Bool
 | .eql | .neq=>true
 | _=>false
def cParts (P:Program) (gl:Globs) (fs:Array Field):List (Nat × Operand)→Option (List (Nat × Nat × Opnd))
 | []=>some []
 |(i,x) :: r=>(fs[i]?).bind fun f=>(sizeOf P f.type).bind fun n=>(cOpnd gl x).bind fun y=>(cParts P gl fs r).map ((f.offset,n,y) :: ·)
def cPartsA (P:Program) (gl:Globs) (n:Nat):List (Nat × Operand)→Option (List (Nat × Nat × Opnd))
 | []=>some []
 |(i,x) :: r=>(cOpnd gl x).bind fun y=>(cPartsA P gl n r).map ((i * n,n,y) :: ·)
def cPartsS (gl:Globs):List (Nat × Operand)→Option (List (Nat × Opnd))
 | []=>some []
 |(i,x) :: r=>(cOpnd gl x).bind fun y=>(cPartsS gl r).map ((i,y) :: ·)
def constParts:List (Nat × Opnd)→Option (List (Nat × PV))
 | []=>some []
 |(i,.const v) :: r=>(constParts r).map ((i,strip v) :: ·)
 | _=>none
def smallBytes (P:Program) (t:TypeId):Bool:=match P.info? t with
 | some i=>i.bytes≤4096
 | none=>false
def kindK (P:Program) (t:TypeId):Option Nat:=match P.underlying t,sizeOf P t with
 | some .bool,some 1=>some 0
 | some (.int _),some 1=>some 1
 | some .string,some 1=>some 2
 | _,_=>none
def flatK (P:Program):Nat→List Field→Option (List Nat)
 | _,[]=>some []
 | off,f :: r=>if f.offset == off && f.name != "_" then (kindK P f.type).bind fun k=>(flatK P (off+1) r).map (k :: ·) else none
def keyK (P:Program) (t:TypeId):Option (List Nat × Bool):=match P.underlying t with
 | some (.struct fs)=>if P.stoodInHeld t then none else (flatK P 0 fs.toList).map fun ks=>(ks,true)
 | _=>(kindK P t).map fun k=>([k],false)
def cCall (P:Program) (gl:Globs) (md:Nat) (c:Call) (type:TypeId):Option AOp :=
 match c.callee with
 | .value (.func f)=>(cOpnds gl c.args.toList).map (.call f)
 | .value (.tmp t)=>(cOpnds gl c.args.toList).map (.callv (.tmp t))
 | .builtin .len=>match c.args.toList,c.argTypes.toList with
  | [x],[t]=>match P.underlying t with
   | some .string=>(cOpnd gl x).map (.len true)
   | some (.slice _)=>(cOpnd gl x).map (.len false)
   | some (.map _ _)=>(cOpnd gl x).map fun x=>.gen .mapLen [x]
   | _=>none
  | _,_=>none
 | .builtin .min=>(cOpnds gl c.args.toList).map (.minmax false)
 | .builtin .max=>(cOpnds gl c.args.toList).map (.minmax true)
 | .builtin .copy=>match c.args.toList,c.argTypes.toList with
  | [d,x],[t,_]=>match P.underlying t with
   | some (.slice el)=>if sizeOf P el=some 1 then (cOpnd gl x).bind fun x'=>(cOpnd gl d).map fun d'=>.copyB d' x' else none
   | _=>none
  | _,_=>none
 | .builtin .delete=>match c.args.toList,c.argTypes.toList with
  | [m,x],[t,_]=>match P.underlying t with
   | some (.map kt _)=>(keyK P kt).bind fun ks=>(cOpnd gl m).bind fun m'=>(cOpnd gl x).map fun x'=>.gen (.mapDel ks.1 ks.2) [m',x']
   | _=>none
  | _,_=>none
 | .builtin .append=>match c.args.toList,c.argTypes.toList with
  | [s,x],[t,u]=>match P.underlying t,P.underlying u with
   | some (.slice el),some (.slice _) | some (.slice el),some .string =>
    (sizeOf P el).bind fun sz=>if smallBytes P el && sz != 0 && (zeroOf P el).any (fun z=>z.length == sz) then
     (cOpnd gl x).bind fun x'=>(cOpnd gl s).map fun s'=>if md=1 then .appendBox sz s' x' else if md=2 then .append sz s' x' else if md=3 then .gen (.appK sz) [s',x'] else .appendT el sz s' x' else none
   | _,_=>none
  | _,_=>none
 | _=>none
def isBld (P:Program) (t:TypeId):Bool:=match P.info? t with
 | some i=>(match i.desc with
  | TypeDesc.named n _=>n == "strings.Builder"
  | _=>false)
 | none=>false
def bldZ (t:TypeId):List PV→List PV
 | [.nilp,.nils]=>[.bnil t,.nils]
 | z=>z
def cOp (P:Program) (gl:Globs) (md:Nat) (o:Oper):Option AOp :=
 match o.op with
 | .move x | .assign x=>(cOpnd gl x).map .mov
 | .pick c a b=>(cOpnd gl c).bind fun c=>(cOpnd gl a).bind fun a=>(cOpnd gl b).map fun b=>.pick c a b
 | .alloc t=>(zeroOf P t).map fun z=>.alloc (if isBld P t then bldZ t z else z)
 | .box t x=>(sizeOf P t).bind fun n=>(cOpnd gl x).map (.box n)
 | .build t ps=>(zeroOf P t).bind fun z=>match P.underlying t with
  | some (.struct fs)=>if (fs.toList.mapM fun f=>(P.info? f.type).map fun i=>(f.offset,i.size)).isSome then (cParts P gl fs ps.toList).map (.build z) else none
  | some (.array _ el)=>(sizeOf P el).bind fun n=>(cPartsA P gl n ps.toList).map (.build z)
  | _=>none
 | .buildSlice t len ps=>if md=1 then match P.underlying t with
  | some (.slice el)=>if sizeOf P el=some 1 then (zeroOf P el).bind fun z=>(cPartsS gl ps.toList).bind fun l=>(constParts l).bind fun l=>(fillParts 1 l (List.replicate len (z.headD .undef))).bind fun cs =>
   if len≠0 && len≤16777216 && z.length == 1 && z.all scalar && cs.all scalar then some (.gen (.sliceBox cs) []) else none else none
  | _=>none
  else match P.underlying t with
  | some (.slice el)=>(sizeOf P el).bind fun n=>(aggOf P el).bind fun a=>(zeroOf P el).bind fun z =>
   if len * n≤16777216 && n != 0 && z.length == n && z.all scalar && (a || n == 1) then (cPartsS gl ps.toList).map (.buildSl n a z len) else none
  | _=>none
 | .load t a=>(sizeOf P t).bind fun n=>(aggOf P t).bind fun g=>(cOpnd gl a).bind fun a =>
   if g then some (.load n true a) else some (.load 1 false a)
 | .store t a x=>(sizeOf P t).bind fun n=>(cOpnd gl a).bind fun a'=>(cOpnd gl x).map (.store n a')
 | .nilCheck x=>(cOpnd gl x).map .nilck
 | .binOp op t x y _ =>
  match P.underlying t with
  | some (.int _) | some .string=>(cOpnd gl x).bind fun x=>(cOpnd gl y).map (.bin op x)
  | some (.struct fs)=>if isEq op && !(P.stoodInHeld t) && !(P.eqGuardType P.depth t) then (flatK P 0 fs.toList).bind fun ks=>(cOpnd gl x).bind fun x=>(cOpnd gl y).map (.eqv (isNeq op) ks x) else none
  | some .bool=>if isEq op then (cOpnd gl x).bind fun x=>(cOpnd gl y).map (.binB (isNeq op) x) else none
  | some d=>if isEq op then (nilKind d).bind fun kd=>if isNilConst kd y then (cOpnd gl x).map (.isnil kd (isNeq op)) else if isNilConst kd x then (cOpnd gl y).map (.isnil kd (isNeq op)) else none else none
  | none=>none
 | .unOp op _ x=>(cOpnd gl x).map (.un op)
 | .convert s d x=>match P.underlying s,P.underlying d with
  | some (.int _),some (.int k)=>(cOpnd gl x).map (.toInt k)
  | some .string,some .string=>(cOpnd gl x).map fun x=>.slice none x none none none
  | some .string,some (.slice el)=>match P.underlying el with
   | some (.int .u8)=>(cOpnd gl x).map (.strBytes (md == 1))
   | _=>none
  | some (.slice el),some .string=>match P.underlying el with
   | some (.int .u8)=>(cOpnd gl x).map .bytesStr
   | _=>none
  | some (.slice el),some (.slice e2)=>if s=d && el == e2 then (match P.underlying el with
   | some (.int .u8)=>(cOpnd gl x).map fun x=>.gen .mark [x]
   | _=>none) else none
  | _,_=>none
 | .makeMap _ none=>some (.gen .makeMap [])
 | .lookup t m x ok=>match P.underlying t with
  | some (.map kt el)=>(keyK P kt).bind fun ks=>(zeroV P el).bind fun z=>(cOpnd gl m).bind fun m'=>(cOpnd gl x).map fun x'=>.gen (.lookup ks.1 ks.2 z ok) [m',x']
  | _=>none
 | .mapUpdate t m x y | .insert t m x y=>match P.underlying t with
  | some (.map kt _)=>(keyK P kt).bind fun ks=>(cOpnd gl m).bind fun m'=>(cOpnd gl x).bind fun x'=>(cOpnd gl y).map fun y'=>.gen (.mapUpd ks.1 ks.2) [m',x',y']
  | _=>none
 | .makeFunc (.func f) first cap=>if first.size=0 then (cOpnds gl cap.toList).map (.mkfn f) else none
 | .makeSlice t len cap=>match P.underlying t with
  | some (.slice el)=>(sizeOf P el).bind fun n=>(aggOf P el).bind fun a=>(zeroOf P el).bind fun z =>
   if smallBytes P el && n != 0 && z.length == n && z.all scalar && (a || n == 1) then (cOpnd gl len).bind fun l=>(cOpnd gl cap).map (.makeSl el z a l) else none
  | _=>none
 | .range t x=>match P.underlying t with
  | some .string=>(cOpnd gl x).map .range
  | _=>none
 | .next x s=>if s then (cOpnd gl x).map .next else none
 | .typeAssert x _ t ok=>match P.underlying t with
  | some (.interface _)=>none
  | some _=>(zeroV P t).bind fun z=>(cOpnd gl x).map (.tassert t ok z)
  | none=>none
 | .makeInterface t x=>match P.underlying t with
  | some (.interface _)=>none
  | some _=>(cOpnd gl x).map (.mkif t)
  | none=>none
 | .slice t x lo hi mx=>if mx.isSome && hi.isNone then none else match P.underlying t with
  | some .string=>(cOpnd gl x).bind fun x=>(cOpt gl lo).bind fun lo=>(cOpt gl hi).bind fun hi=>(cOpt gl mx).map (.slice none x lo hi)
  | some (.slice el)=>(sizeOf P el).bind fun n=>(cOpnd gl x).bind fun x=>(cOpt gl lo).bind fun lo=>(cOpt gl hi).bind fun hi=>(cOpt gl mx).map (.slice (some n) x lo hi)
  | _=>none
 | .fieldAddr s x f=>match P.underlying s with
  | some (.struct fs)=>(fs[f]?).bind fun f=>(sizeOf P f.type).bind fun n=>if n=0 then none else (cOpnd gl x).map (.fieldA f.offset)
  | _=>none
 | .field t x f=>match P.underlying t with
  | some (.struct fs)=>(fs[f]?).bind fun f=>(sizeOf P f.type).bind fun n=>(aggOf P f.type).bind fun g=>(cOpnd gl x).map (.field f.offset n g)
  | _=>none
 | .indexAddr t x i=>match P.underlying t with
  | some (.slice el)=>(sizeOf P el).bind fun n=>(cOpnd gl x).bind fun x=>(cOpnd gl i).map (.idxA n x)
  | some (.array len el)=>(sizeOf P el).bind fun n=>(cOpnd gl x).bind fun x=>(cOpnd gl i).map (.idxArr n len x)
  | _=>none
 | .index t x i=>match P.underlying t with
  | some .string=>(cOpnd gl x).bind fun x=>(cOpnd gl i).map (.idxStr x)
  | some (.array len el)=>(sizeOf P el).bind fun n=>(aggOf P el).bind fun g=>(cOpnd gl x).bind fun x=>(cOpnd gl i).map (.idxAgg n g len x)
  | _=>none
 | .extract x i=>(cOpnd gl x).map (.extract · i)
 | .call c=>cCall P gl md c o.type
 | _=>none
/-! ### Which slots are read behind the region that writes them -/
def tmpOf:Opnd→List Nat
 | .tmp t=>[t]
 | .const _=>[]
def readsOf:AOp→List Nat
 | .mov x | .box _ x | .load _ _ x | .nilck x | .isnil _ _ x | .un _ x | .toInt _ x | .strBytes _ x | .bytesStr x | .mkif _ x | .fieldA _ x | .range x | .next x
 | .field _ _ _ x | .extract x _ | .tassert _ _ _ x | .len _ x=>tmpOf x
 | .pick c a b=>tmpOf c ++ tmpOf a ++ tmpOf b
 | .alloc _ | .stuck=>[]
 | .build _ ps=>ps.flatMap fun x=>tmpOf x.2.2
 | .buildSl _ _ _ _ ps=>ps.flatMap fun x=>tmpOf x.2
 | .store _ a x=>tmpOf a ++ tmpOf x
 | .bin _ x y | .binB _ x y | .idxA _ x y | .idxArr _ _ x y | .idxStr x y | .idxAgg _ _ _ x y | .append _ x y | .appendT _ _ x y | .appendBox _ x y | .eqv _ _ x y | .makeSl _ _ _ x y | .copyB x y=>tmpOf x ++ tmpOf y
 | .slice _ x lo hi mx=>tmpOf x ++ (lo.map tmpOf).getD [] ++ (hi.map tmpOf).getD [] ++ (mx.map tmpOf).getD []
 | .minmax _ xs | .call _ xs | .callQ _ xs | .mkfn _ xs | .gen _ xs=>xs.flatMap tmpOf
 | .callv x xs=>tmpOf x ++ xs.flatMap tmpOf
 | .loadN t _ _ x=>t :: tmpOf x
 | .storeN t _ a x=>t :: (tmpOf a ++ tmpOf x)
def outer:List AOper→List Nat→List Nat      -- the slots that are read and were not written here before
 | [],_=>[]
 | o :: r,w=>(readsOf o.op ++ (o.guard.map fun g=>[g.1]).getD []).filter (fun t=>!w.contains t) ++ outer r (o.dst.toList ++ w)
def readsC:ACode→List Nat
 | .ops l _ _=>outer l []
 | .seq a b=>readsC a ++ readsC b
 | .cond c a b=>tmpOf c ++ readsC a ++ readsC b
 | .block _ a | .loop a | .scope a=>readsC a
 | _=>[]
def dedup:List Nat→List Nat
 | []=>[]
 | x :: xs=>if xs.contains x then dedup xs else x :: dedup xs
def setKeep (k:List Nat):ACode→ACode
 | .ops l d _=>.ops l d k
 | .seq a b=>.seq (setKeep k a) (setKeep k b)
 | .cond c a b=>.cond c (setKeep k a) (setKeep k b)
 | .block i a=>.block i (setKeep k a)
 | .loop a=>.loop (setKeep k a)
 | .scope a=>.scope (setKeep k a)
 | c=>c
def isCall:AOp→Bool
 | .call _ _ | .callv _ _ | .callQ _ _=>true
 | _=>false
def isCallOp:Op→Bool
 | .call _=>true
 | _=>false
/-! ### Regions,code,functions -/
def inAnn (l:List (Nat × Nat)) (r i:Nat):Bool:=l.any fun x=>x.1 == r && x.2 == i
def cGuard (ops:Array Oper):Option (Nat × Bool)→Option (Option (Nat × Bool))
 | none=>some none
 | some (j,want)=>((ops[j]?).bind (·.dst)).map fun d=>some (d,want)
def okDst (nt:Nat):Option Tmp→Bool
 | none=>true
 | some d=>d < nt
def notQ:AOp→Bool
 | .callQ _ _ | .loadN _ _ _ _ | .storeN _ _ _ _=>false
 | _=>true
def mode (an:Ann) (r i:Nat):Nat:=if inAnn an.boxes r i then 1 else if inAnn an.vals r i then 2 else if inAnn an.grows r i then 3 else 0
def cOpS (P:Program) (gl:Globs) (md:Nat) (o:Oper):Option AOp:=some ((cOp P gl md o).getD .stuck)
def stuckC:ACode:=.ops [⟨none,none,.stuck⟩] false []
def cOps (P:Program) (gl:Globs) (an:Ann) (nt id:Nat) (ops:Array Oper):Nat→List Oper→Option (List AOper)
 | _,[]=>some []
 | i,o :: r=>(cOpS P gl (mode an id i) o).bind fun a=>(cGuard ops o.guard).bind fun g =>
   if okDst nt o.dst && (!isCall a || isCallOp o.op) && notQ a then (cOps P gl an nt id ops (i+1) r).map ({ dst:=o.dst,guard:=g,op:=a } :: ·) else none
def hush (an:Ann) (id:Nat) (ops:Array Oper):Nat→List AOper→List AOper
 | _,[]=>[]
 | i,x :: r=>(match x.op with
   | .call f xs=>if inAnn an.quiet id i then { x with op:=.callQ f xs } else x
   | _=>x) :: hush an id ops (i+1) r
def genQuiet:GenOp→Bool
 | .lookup _ _ _ _ | .mapLen | .mark=>true
 | _=>false
def quiet (d:Bool):AOp→Bool
 | .gen k _=>genQuiet k
 | .call _ _ | .callv _ _=>d
 | .strBytes b _=>!b
 | .alloc _ | .box _ _ | .store _ _ _ | .appendBox _ _ _ | .appendT _ _ _ _ | .makeSl _ _ _ _ _ | .copyB _ _ | .range _ | .next _ | .storeN _ _ _ _ | .stuck=>false
 | _=>true
def looks:AOp→Bool
 | .strBytes b _=>b
 | .alloc _ | .box _ _ | .store _ _ _ | .appendBox _ _ _ | .appendT _ _ _ _ | .makeSl _ _ _ _ _ | .copyB _ _ | .range _ | .next _ | .storeN _ _ _ _ | .loadN _ _ _ _ | .stuck | .load _ _ _ | .call _ _ | .callv _ _ | .callQ _ _ | .bytesStr _ | .append _ _ _ | .gen _ _=>true
 | _=>false
def names (o:AOper):List Nat:=o.dst.toList ++ readsOf o.op ++ (o.guard.map fun g=>[g.1]).getD []
def partsB:AOp→AOp→Bool
 | .loadN t _ _ _,.storeN s _ _ _ | .storeN s _ _ _,.loadN t _ _ _=>t == s
 | _,_=>false
def isLoad:AOp→Bool
 | .load _ _ _=>true
 | _=>false
def isNew:AOp→Bool
 | .alloc _ | .box _ _=>true
 | _=>false
def apartB (d:Bool) (x y:AOper):Bool :=
 (x.dst.toList.all fun d=>!(names y).contains d) && (y.dst.toList.all fun d=>!(names x).contains d) &&
 (partsB x.op y.op || (isLoad x.op && isNew y.op) || ((quiet d x.op || !looks y.op) && (quiet d y.op || !looks x.op)))
def dirs (o:Oper):List Nat:=o.after.toList.filterMap fun e=>if Region.binds .any e then some e.on else none
def dirsAt (ops:Array Oper) (i:Nat):List Nat:=((ops[i]?).map dirs).getD []
def ordB (ops:Array Oper):Nat→Nat→Nat→Bool
 | 0,_,_=>false
 | n+1,y,i=>(dirsAt ops i).any fun m=>m == y || ordB ops n y m
def pairOk (d:Bool) (ops:Array Oper) (l:List AOper) (y i:Nat):Bool :=
 match l[y]?,l[i]? with
 | some a,some b=>apartB d a b || ordB ops 5 y i
 | _,_=>false
def drawOk (d:Bool) (ops:Array Oper) (l:List AOper):Bool :=
 (List.range l.length).all fun i=>(dirsAt ops i).all (fun m=>decide (m < i)) && (List.range i).all fun y=>pairOk d ops l y i
def uq:AOp→AOp
 | .callQ f xs=>.call f xs
 | .loadN _ n g a=>.load n g a
 | .storeN _ n a x=>.store n a x
 | a=>a
def quieten (ops:Array Oper) (l:List AOper):Nat→List AOper→List AOper
 | _,[]=>[]
 | i,x :: r=>(match x.op with
   | .call f xs=>if (List.range l.length).all fun j=>j == i || pairOk false ops l (min i j) (max i j) then x else { x with op:=.callQ f xs }
   | _=>x) :: quieten ops l (i+1) r
def partOp (t:Nat):AOp→AOp
 | .load n g a=>.loadN t n g a
 | .store n a x=>.storeN t n a x
 | a=>a
def findApart:List (Nat × Nat)→Nat→Option Nat
 | [],_=>none
 |(r,t) :: l,id=>if r=id then some t else findApart l id
def partOps (an:Ann) (id:Nat) (l:List AOper):List AOper:=match findApart an.apart id with
 | none=>l
 | some t=>l.map fun x=>{ x with op:=partOp t x.op }
def cCode (P:Program) (gl:Globs) (an:Ann) (nt:Nat):Code→Option ACode
 | .skip=>some .skip
 | .region id ops draw=>(cOps P gl an nt id ops 0 ops.toList).bind fun l =>
   if draw then (if P.follows .mixedOrders then (if drawOk false ops (partOps an id (quieten ops (hush an id ops 0 l) 0 (hush an id ops 0 l))) then some (.ops (partOps an id (quieten ops (hush an id ops 0 l) 0 (hush an id ops 0 l))) false []) else some stuckC) else some stuckC) else some (.ops (hush an id ops 0 l) false [])
 | .seq a b=>(cCode P gl an nt a).bind fun a=>(cCode P gl an nt b).map (.seq a)
 | .cond c a b=>(cOpnd gl c).bind fun c=>(cCode P gl an nt a).bind fun a=>(cCode P gl an nt b).map (.cond c a)
 | .block id a=>(cCode P gl an nt a).map (.block id)
 | .loop a=>(cCode P gl an nt a).map .loop
 | .exit id=>some (.exit id)
 | .ret=>some .ret
 | _=>some stuckC
def cResults (P:Program):List ResultVar→Option (List (Nat × Option (Nat × Bool)))
 | []=>some []
 | .tmp t :: r=>(cResults P r).map ((t,none) :: ·)
 | .cell t ty :: r=>(sizeOf P ty).bind fun n=>(aggOf P ty).bind fun g=>if g || n == 1 then (cResults P r).map ((t,some (n,g)) :: ·) else none
def cFn (P:Program) (gl:Globs) (an:Ann) (fn:Func):Option AFn :=
 fn.body.bind fun c=>(cResults P fn.results.toList).bind fun rs=>(cCode P gl an fn.ntmps c).bind fun a =>
  if fn.params.size≤fn.ntmps∧fn.name≠"runtime.NumGoroutine" then some { results:=rs,body:=setKeep (dedup (readsC a ++ rs.map (·.1))) a,keep:=an.keep,own:=an.own } else none
end Go.Am
namespace Go.Am
set_option linter.unusedVariables false
set_option linter.unusedSimpArgs false
/-! ### An operation hangs on the slots that it reads -/
def Agree (l:List Nat) (e f:Env):Prop:=∀ t∈l,look e t=look f t
theorem Agree.left {l m:List Nat} {e f:Env} (h:Agree (l ++ m) e f):Agree l e f:=fun t ht=>h t (List.mem_append_left _ ht)
theorem Agree.right {l m:List Nat} {e f:Env} (h:Agree (l ++ m) e f):Agree m e f:=fun t ht=>h t (List.mem_append_right _ ht)
theorem ev_agree {e f:Env} {x:Opnd} (h:Agree (tmpOf x) e f):ev e x=ev f x:=by
 cases x with
 | tmp t=>exact h t (by simp [tmpOf])
 | const v=>rfl
theorem evs_agree {e f:Env}:∀ {xs:List Opnd},Agree (xs.flatMap tmpOf) e f→evs e xs=evs f xs
 | [],_=>rfl
 | x :: xs,h=>by
  rw [List.flatMap_cons] at h
  simp only [evs,ev_agree h.left,evs_agree h.right]
theorem evParts_agree {e f:Env}:∀ {ps:List (Nat × Opnd)},Agree (ps.flatMap fun x=>tmpOf x.2) e f→evParts e ps=evParts f ps
 | [],_=>rfl
 |(i,x) :: ps,h=>by
  rw [List.flatMap_cons] at h
  simp only [evParts,ev_agree h.left,evParts_agree h.right]
theorem evParts3_agree {e f:Env}:∀ {ps:List (Nat × Nat × Opnd)},Agree (ps.flatMap fun x=>tmpOf x.2.2) e f→evParts3 e ps=evParts3 f ps
 | [],_=>rfl
 |(i,n,x) :: ps,h=>by
  rw [List.flatMap_cons] at h
  simp only [evParts3,ev_agree h.left,evParts3_agree h.right]
theorem bd_agree {e f:Env} {n d:Nat} {x:Option Opnd} (h:Agree ((x.map tmpOf).getD []) e f):bd e n d x=bd f n d x:=by
 cases x with
 | none=>rfl
 | some x=>simp only [bd,ev_agree (show Agree (tmpOf x) e f from h)]
theorem sliceOf_agree {e f:Env} {n:Option Nat} {lo hi mx:Option Opnd} {v:PV} (h1:Agree ((lo.map tmpOf).getD []) e f) (h2:Agree ((hi.map tmpOf).getD []) e f) (h3:Agree ((mx.map tmpOf).getD []) e f) :
  sliceOf e n lo hi mx v=sliceOf f n lo hi mx v:=by
 have b1:∀ n d,bd e n d lo=bd f n d lo:=fun n d=>bd_agree h1
 have b2:∀ n d,bd e n d hi=bd f n d hi:=fun n d=>bd_agree h2
 have b3:∀ n d,bd e n d mx=bd f n d mx:=fun n d=>bd_agree h3
 cases v <;> simp only [sliceOf,b1,b2,b3]
def vh (r:Option (PV × Env × Hp)):Option (PV × Hp):=r.map fun x=>(x.1,x.2.2)
theorem vh_bnd {α:Type} (x:Option α) (k:α→Option (PV × Env × Hp)):vh (x.bnd k)=x.bnd fun a=>vh (k a):=by cases x <;> rfl
theorem vh_some (v:PV) (e:Env) (h:Hp):vh (some (v,e,h))=some (v,h):=rfl
theorem vh_none:vh none=none:=rfl
theorem vh_ite {c:Prop} [Decidable c] (x y:Option (PV × Env × Hp)):vh (if c then x else y)=if c then vh x else vh y:=by split <;> rfl
theorem vh_cond (v:PV) (x y:Option (PV × Env × Hp)):vh (condB v x y)=condB v (vh x) (vh y):=by
 cases v with
 | bool b=>cases b <;> rfl
 | _=>rfl
theorem step_agree (orc:Orc) (base:Nat) (draw:Bool) {op:AOp} {e f:Env} (h:Agree (readsOf op) e f) (hp:Hp) :
  vh (step orc base draw op e hp)=vh (step orc base draw op f hp):=by
 cases op <;> simp only [readsOf] at h
 case mov x=>simp only [step,ev_agree h,vh_bnd,vh_some]
 case pick c a b=>simp only [step,ev_agree h.left.left,ev_agree h.left.right,ev_agree h.right,vh_bnd,vh_cond,vh_some]
 case alloc z=>simp only [step,vh_some]
 case box n x=>simp only [step,ev_agree h,vh_bnd,vh_ite,vh_some,vh_none]
 case build z ps=>simp only [step,evParts3_agree h,vh_bnd,vh_some]
 case buildSl sz a z len ps=>simp only [step,evParts_agree h,vh_bnd,vh_some]
 case load n a x =>
  simp only [step,ev_agree h,vh_bnd]
  congr 1;funext v;cases v <;> simp only [vh_bnd,vh_some,vh_none]
 case store n x y =>
  simp only [step,ev_agree h.left,ev_agree h.right,vh_bnd]
  congr 1;funext v;congr 1;funext u;cases v <;> simp only [vh_bnd,vh_ite,vh_some,vh_none]
 case nilck x =>
  simp only [step,ev_agree h,vh_bnd]
  congr 1;funext v;split <;> simp only [vh_some,vh_none]
 case bin o x y=>simp only [step,ev_agree h.left,ev_agree h.right,vh_bnd,vh_some]
 case binB o x y =>
  simp only [step,ev_agree h.left,ev_agree h.right,vh_bnd]
  congr 1;funext v;congr 1;funext u;split <;> simp only [vh_some,vh_none]
 case isnil k n x=>simp only [step,ev_agree h,vh_bnd,vh_some]
 case un o x=>simp only [step,ev_agree h,vh_bnd,vh_some]
 case toInt k x =>
  simp only [step,ev_agree h,vh_bnd]
  congr 1;funext v;cases v <;> simp only [vh_some,vh_none]
 case strBytes b x =>
  simp only [step,ev_agree h,vh_bnd]
  congr 1;funext v;cases v <;> simp only [vh_ite,vh_some,vh_none]
 case mkfn f xs=>simp only [step,evs_agree h,vh_bnd,vh_some]
 case stuck=>rfl
 case loadN t n g x =>
  have h1:look e t=look f t:=h t (by simp)
  have h2:Agree (tmpOf x) e f:=fun s hs=>h s (by simp [hs])
  simp only [step,h1,ev_agree h2,vh_bnd]
  congr 1;funext q;congr 1;funext v
  split <;> simp only [vh_bnd,vh_ite,vh_some,vh_none]
 case storeN t n x y =>
  have h1:look e t=look f t:=h t (by simp)
  have h2:Agree (tmpOf x) e f:=fun s hs=>h s (by simp [hs])
  have h3:Agree (tmpOf y) e f:=fun s hs=>h s (by simp [hs])
  simp only [step,h1,ev_agree h2,ev_agree h3,vh_bnd]
  congr 1;funext q;congr 1;funext v;congr 1;funext u
  split <;> simp only [vh_bnd,vh_ite,vh_some,vh_none]
 case makeSl T z a x y =>
  simp only [step,ev_agree h.left,ev_agree h.right,vh_bnd,vh_ite,vh_some,vh_none]
 case copyB x y =>
  simp only [step,ev_agree h.left,ev_agree h.right,vh_bnd]
  congr 1;funext v;congr 1;funext u;congr 1;funext xs;cases v <;> simp only [vh_bnd,vh_ite,vh_some,vh_none]
 case range x =>
  simp only [step,ev_agree h,vh_bnd]
  congr 1;funext v;cases v <;> simp only [vh_some,vh_none]
 case next x =>
  simp only [step,ev_agree h,vh_bnd]
  congr 1;funext v;cases v <;> simp only [vh_bnd,vh_ite,vh_some,vh_none]
 case eqv n ks x y =>
  simp only [step,ev_agree h.left,ev_agree h.right,vh_bnd]
  congr 1;funext v;congr 1;funext u;split <;> simp only [vh_bnd,vh_some,vh_none]
 case bytesStr x =>
  simp only [step,ev_agree h,vh_bnd]
  congr 1;funext v;cases v <;> simp only [vh_bnd,vh_some,vh_none]
 case mkif t x=>simp only [step,ev_agree h,vh_bnd,vh_some]
 case slice n x lo hi mx =>
  have:=fun v=>sliceOf_agree (n:=n) (v:=v) (lo:=lo) (hi:=hi) (mx:=mx) (e:=e) (f:=f) h.left.left.right h.left.right h.right
  simp only [step,ev_agree h.left.left.left,vh_bnd,vh_some,this]
 case fieldA o x =>
  simp only [step,ev_agree h,vh_bnd]
  congr 1;funext v;cases v <;> simp only [vh_some,vh_none]
 case field o n a x =>
  simp only [step,ev_agree h,vh_bnd]
  congr 1;funext v;cases v <;> simp only [vh_bnd,vh_some,vh_none]
 case idxA s x y =>
  simp only [step,ev_agree h.left,ev_agree h.right,vh_bnd]
  congr 1;funext v;congr 1;funext u;cases v <;> simp only [vh_bnd,vh_ite,vh_some,vh_none]
 case idxArr s l x y =>
  simp only [step,ev_agree h.left,ev_agree h.right,vh_bnd]
  congr 1;funext v;congr 1;funext u;cases v <;> simp only [vh_bnd,vh_ite,vh_some,vh_none]
 case idxStr x y =>
  simp only [step,ev_agree h.left,ev_agree h.right,vh_bnd]
  congr 1;funext v;congr 1;funext u;cases v <;> simp only [vh_bnd,vh_ite,vh_some,vh_none]
 case idxAgg s a l x y =>
  simp only [step,ev_agree h.left,ev_agree h.right,vh_bnd]
  congr 1;funext v;congr 1;funext u;cases v <;> simp only [vh_bnd,vh_ite,vh_some,vh_none]
 case extract x i =>
  simp only [step,ev_agree h,vh_bnd]
  congr 1;funext v;cases v <;> simp only [vh_bnd,vh_some,vh_none]
 case tassert t ok z x =>
  simp only [step,ev_agree h,vh_bnd]
  congr 1;funext v;cases v <;> simp only [vh_ite,vh_some,vh_none]
 case len s x =>
  simp only [step,ev_agree h,vh_bnd]
  congr 1;funext v;split <;> simp only [vh_some,vh_none]
 case minmax m xs =>
  simp only [step,evs_agree h,vh_bnd]
  congr 1;funext v;cases v <;> simp only [vh_bnd,vh_some,vh_none]
 case append s x y =>
  simp only [step,ev_agree h.left,ev_agree h.right,vh_bnd]
  congr 1;funext v;congr 1;funext u;congr 1;funext xs
  split
  ·cases v <;> (try simp only [vh_ite,vh_some,vh_none])
   rename_i o _ _;cases o <;> simp only [vh_ite,vh_some,vh_none]
  ·rfl
 case appendT T s x y=>simp only [step,ev_agree h.left,ev_agree h.right,vh_bnd,vh_some]
 case appendBox s x y =>
  simp only [step,ev_agree h.left,ev_agree h.right,vh_bnd,vh_ite,vh_some,vh_none]
 case call g xs =>
  simp only [step,evs_agree h,vh_bnd]
  congr 1;funext v;congr 1;funext r;split <;> simp only [vh_ite,vh_some,vh_none]
 case gen g xs=>simp only [step,evs_agree h,vh_bnd,vh_some]
 case callQ g xs =>
  simp only [step,evs_agree h,vh_bnd]
  congr 1;funext v;congr 1;funext r;simp only [vh_ite,vh_some,vh_none]
 case callv x xs =>
  simp only [step,ev_agree h.left,vh_bnd]
  congr 1;funext v;cases v <;> simp only [evs_agree h.right,vh_bnd,vh_none]
  congr 1;funext v;congr 1;funext r;split <;> simp only [vh_ite,vh_some,vh_none]
def AllR {α:Type} (p:α→Prop) (r:Option α):Prop:=∀ x,r=some x→p x
theorem AllR.bnd {α β:Type} {p:β→Prop} {x:Option α} {k:α→Option β} (h:∀ a,AllR p (k a)):AllR p (x.bnd k):=by
 cases x with
 | none=>intro y hy;cases hy
 | some a=>exact h a
theorem AllR.none {α:Type} {p:α→Prop}:AllR p none:=fun x hx=>by cases hx
theorem AllR.some {α:Type} {p:α→Prop} {x:α} (h:p x):AllR p (some x):=fun y hy=>by cases hy;exact h
theorem AllR.ite {α:Type} {p:α→Prop} {c:Prop} [Decidable c] {x y:Option α} (h1:AllR p x) (h2:AllR p y):AllR p (if c then x else y):=by split <;> assumption
theorem AllR.cond {α:Type} {p:α→Prop} {v:PV} {x y:Option α} (h1:AllR p x) (h2:AllR p y):AllR p (condB v x y):=by
 cases v with
 | bool b=>cases b <;> assumption
 | _=>exact AllR.none
theorem step_env (orc:Orc) (base:Nat) (draw:Bool) {op:AOp} {e:Env} {h:Hp}:AllR (fun x=>x.2.1=e) (step orc base draw op e h):=by
 cases op <;> simp only [step]
 all_goals
  repeat' (first
   | exact AllR.some rfl
   | exact AllR.none
   |(refine AllR.bnd fun _=>?_)
   |(refine AllR.ite ?_ ?_)
   |(refine AllR.cond ?_ ?_)
   | split)
theorem genV_quiet {base:Nat} {k:GenOp} (hk:genQuiet k=true) {h:Hp} {vs:List PV}:AllR (fun r=>r.2=h) (genV base h k vs):=by
 unfold genV
 split <;> (try cases hk)
 ·refine AllR.bnd fun _=>AllR.ite (AllR.bnd fun _=>AllR.bnd fun _=>AllR.some rfl) AllR.none
 ·split
  ·exact AllR.bnd fun _=>AllR.some rfl
  ·exact AllR.none
 ·exact AllR.bnd fun _=>AllR.some rfl
 ·exact AllR.none
theorem step_quiet (orc:Orc) (base:Nat) {draw:Bool} {op:AOp} (ht:quiet draw op=true) {e:Env} {h:Hp}:AllR (fun x=>x.2.2=h) (step orc base draw op e h):=by
 by_cases hg:∃ k xs,op=.gen k xs
 ·obtain ⟨k,xs,rfl⟩:=hg
  simp only [step]
  intro x hx
  simp only [Option.bnd_eq_some_iff,Option.some.injEq] at hx
  obtain ⟨vs,_,r,hr,rfl⟩:=hx
  exact genV_quiet ht r hr
 cases op <;> simp only [quiet,Bool.not_eq_true'] at ht <;> (try cases ht) <;> (try subst ht) <;> (try exact (hg ⟨_,_,rfl⟩).elim) <;> simp only [step,if_true,Bool.false_eq_true,if_false]
 all_goals
  repeat' (first
   | exact AllR.some rfl
   | exact AllR.none
   |(refine AllR.bnd fun _=>?_)
   |(refine AllR.ite ?_ ?_)
   |(refine AllR.cond ?_ ?_)
   | split)
def wh (h2:Hp) (r:Option (PV × Env × Hp)):Option (PV × Env × Hp):=r.map fun x=>(x.1,x.2.1,h2)
theorem wh_bnd {α:Type} (h2:Hp) (x:Option α) (k:α→Option (PV × Env × Hp)):wh h2 (x.bnd k)=x.bnd fun a=>wh h2 (k a):=by cases x <;> rfl
theorem wh_some (h2:Hp) (v:PV) (e:Env) (h:Hp):wh h2 (some (v,e,h))=some (v,e,h2):=rfl
theorem wh_none (h2:Hp):wh h2 none=none:=rfl
theorem wh_ite {c:Prop} [Decidable c] (h2:Hp) (x y:Option (PV × Env × Hp)):wh h2 (if c then x else y)=if c then wh h2 x else wh h2 y:=by split <;> rfl
theorem wh_cond (h2:Hp) (v:PV) (x y:Option (PV × Env × Hp)):wh h2 (condB v x y)=condB v (wh h2 x) (wh h2 y):=by
 cases v with
 | bool b=>cases b <;> rfl
 | _=>rfl
theorem step_blind (orc:Orc) (base:Nat) (draw:Bool) {op:AOp} (ht:looks op=false) {e:Env} {h h2:Hp}:step orc base draw op e h2=wh h2 (step orc base draw op e h):=by
 cases op <;> simp only [looks] at ht <;> (try cases ht) <;> (try subst ht) <;> simp only [step,wh_bnd,wh_some,wh_none,wh_ite,wh_cond,Bool.false_eq_true,if_false]
 all_goals (congr 1;funext v)
 all_goals first
  |(cases v <;> simp only [wh_bnd,wh_some,wh_none,wh_ite];done)
  |(split <;> simp only [wh_bnd,wh_some,wh_none,wh_ite];done)
  |(congr 1;funext u;cases v <;> simp only [wh_bnd,wh_some,wh_none,wh_ite];done)
  |(congr 1;funext u;split <;> simp only [wh_bnd,wh_some,wh_none,wh_ite];done)
theorem load_ext {orc:Orc} {base:Nat} {draw:Bool} {n:Nat} {g:Bool} {a:Opnd} {e:Env} {h:Hp} {r:PV × Env × Hp} (hs:step orc base draw (.load n g a) e h=some r) (l:List Box) :
  step orc base draw (.load n g a) e (ext h l)=some (r.1,r.2.1,ext h l):=by
 simp only [step,Option.bnd_eq_some_iff] at hs ⊢
 obtain ⟨v,hv,hs⟩:=hs
 refine ⟨v,hv,?_⟩
 split at hs
 ·simp only [Option.bnd_eq_some_iff,Option.some.injEq] at hs ⊢
  obtain ⟨cs,hcs,u,hu,rfl⟩:=hs
  exact ⟨cs,by rw [getBox_ext_lt (lt_of_getBox hcs)];exact hcs,u,hu,rfl⟩
 ·simp only [Option.bnd_eq_some_iff,Option.some.injEq] at hs ⊢
  obtain ⟨u,hu,rfl⟩:=hs
  exact ⟨u,hu,rfl⟩
 ·cases hs
theorem new_ext {orc:Orc} {base:Nat} {draw:Bool} {op:AOp} (hn:isNew op=true) {e:Env} {h:Hp} {r:PV × Env × Hp} (hs:step orc base draw op e h=some r):∃ l,r.2.2=ext h l:=by
 cases op <;> simp only [isNew] at hn <;> (try cases hn)
 case alloc z=>simp only [step,Option.some.injEq] at hs;subst hs;exact ⟨_,rfl⟩
 case box n x =>
  simp only [step,Option.bnd_eq_some_iff] at hs
  obtain ⟨v,_,hs⟩:=hs
  split at hs
  ·simp only [Option.some.injEq] at hs;subst hs;exact ⟨_,rfl⟩
  ·cases hs
/-! ### Frames that tell the same -/
def Eqv (e f:Env):Prop:=∀ t,look e t=look f t
theorem Eqv.refl (e:Env):Eqv e e:=fun _=>rfl
theorem Eqv.trans {e f k:Env} (a:Eqv e f) (b:Eqv f k):Eqv e k:=fun t=>(a t).trans (b t)
theorem Eqv.symm {e f:Env} (a:Eqv e f):Eqv f e:=fun t=>(a t).symm
theorem Eqv.put {e f:Env} (a:Eqv e f) (d:Option Nat) (v:PV):Eqv (putD e d v) (putD f d v):=by
 cases d with
 | none=>exact a
 | some d=>intro t;simp only [putD,look];rw [a t]
theorem Eqv.agree {e f:Env} (a:Eqv e f) (l:List Nat):Agree l e f:=fun t _=>a t
theorem Eqv.wanted {e f:Env} (a:Eqv e f) (g:Option (Nat × Bool)):wanted e g=Go.Am.wanted f g:=by
 cases g with
 | none=>rfl
 | some g=>obtain ⟨t,w⟩:=g;simp only [Go.Am.wanted,a t]
noncomputable def exec1 (orc:Orc) (base:Nat) (draw:Bool) (o:AOper) (e:Env) (h:Hp):Option (Env × Hp) :=
 (wanted e o.guard).bnd fun w=>if w then (step orc base draw o.op e h).bnd fun x=>some (putD x.2.1 o.dst x.1,x.2.2) else some (putD e o.dst .undef,h)
theorem execOps_eq (orc:Orc) (base:Nat) (draw:Bool) (o:AOper) (l:List AOper) (e:Env) (h:Hp) :
  execOps orc base draw (o :: l) e h=(exec1 orc base draw o e h).bnd fun x=>execOps orc base draw l x.1 x.2:=by
 rw [execOps,exec1]
 cases wanted e o.guard with
 | none=>rfl
 | some w =>
  simp only [Option.bnd]
  cases w with
  | false=>rfl
  | true =>
   simp only [if_true]
   cases step orc base draw o.op e h <;> rfl
theorem agree_guard {e f:Env} {g:Option (Nat × Bool)} (h:Agree ((g.map fun g=>[g.1]).getD []) e f):wanted e g=wanted f g:=by
 cases g with
 | none=>rfl
 | some g=>obtain ⟨t,w⟩:=g;simp only [wanted];rw [h t (by simp)]
theorem exec1_agree {orc:Orc} {base:Nat} {draw:Bool} {o:AOper} {e f:Env} (ha:Agree (readsOf o.op ++ (o.guard.map fun g=>[g.1]).getD []) e f) {h:Hp} {e':Env} {h':Hp}
  (hs:exec1 orc base draw o e h=some (e',h')):∃ v,e'=putD e o.dst v∧exec1 orc base draw o f h=some (putD f o.dst v,h'):=by
 have hg:=agree_guard (g:=o.guard) ha.right
 unfold exec1 at hs ⊢
 rw [←hg]
 cases hw:wanted e o.guard with
 | none=>rw [hw] at hs;cases hs
 | some w =>
  rw [hw] at hs
  simp only [Option.bnd] at hs ⊢
  cases w with
  | false =>
   simp only [Bool.false_eq_true,if_false,Option.some.injEq,Prod.mk.injEq] at hs ⊢
   exact ⟨.undef,hs.1.symm,rfl,hs.2⟩
  | true =>
   simp only [if_true] at hs ⊢
   have hv:=step_agree orc base draw ha.left h
   have he:=step_env orc base draw (op:=o.op) (e:=e) (h:=h)
   have hf:=step_env orc base draw (op:=o.op) (e:=f) (h:=h)
   cases hse:step orc base draw o.op e h with
   | none=>rw [hse] at hs;cases hs
   | some x =>
    obtain ⟨v,e1,h1⟩:=x
    rw [hse] at hs hv he
    simp only [Option.some.injEq,Prod.mk.injEq] at hs
    cases hsf:step orc base draw o.op f h with
    | none=>rw [hsf] at hv;simp [vh] at hv
    | some y =>
     obtain ⟨v2,e2,h2⟩:=y
     rw [hsf] at hv hf
     simp only [vh,Option.map_some,Option.some.injEq,Prod.mk.injEq] at hv
     have:=he _ rfl
     have:=hf _ rfl
     simp only at *
     subst e1;subst e2
     obtain ⟨rfl,rfl⟩:=hv
     exact ⟨v,hs.1.symm,by rw [hs.2]⟩
theorem execOps_eqv {orc:Orc} {base:Nat} {draw:Bool}:∀ {l:List AOper} {e f:Env} (ha:Eqv e f) {h:Hp} {e':Env} {h':Hp},
  execOps orc base draw l e h=some (e',h')→∃ f',Eqv e' f'∧execOps orc base draw l f h=some (f',h')
 | [],e,f,ha,h,e',h',hs=>by
  simp only [execOps,Option.some.injEq,Prod.mk.injEq] at hs
  obtain ⟨rfl,rfl⟩:=hs
  exact ⟨f,ha,rfl⟩
 | o :: l,e,f,ha,h,e',h',hs=>by
  rw [execOps_eq,Option.bnd_eq_some_iff] at hs
  obtain ⟨⟨e1,h1⟩,h2,h3⟩:=hs
  obtain ⟨v,rfl,h4⟩:=exec1_agree (ha.agree _) h2
  obtain ⟨f',h5,h6⟩:=execOps_eqv (ha.put o.dst v) h3
  exact ⟨f',h5,by rw [execOps_eq,h4];exact h6⟩
theorem look_putD_ne {e:Env} {d:Option Nat} {v:PV} {t:Nat} (h:d≠some t):look (putD e d v) t=look e t:=by
 cases d with
 | none=>rfl
 | some d=>simp only [putD,look];rw [if_neg (fun hq=>h (by rw [hq]))]
theorem quiet_noTake_blind {d:Bool} {op:AOp} (h:looks op=false):quiet d op=true:=by cases op <;> simp_all [looks,quiet]
theorem parts_same {orc:Orc} {base:Nat} {draw:Bool} {t n m:Nat} {g:Bool} {a b u:Opnd} {e:Env} {h h2:Hp} {v:PV} {e2:Env} (hst:step orc base draw (.storeN t n a u) e h=some (v,e2,h2)) :
  step orc base draw (.loadN t m g b) e h2=wh h2 (step orc base draw (.loadN t m g b) e h):=by
 simp only [step,Option.bnd_eq_some_iff] at hst
 obtain ⟨q,hq,p,hp,uu,hu,hst⟩:=hst
 split at hst
 ·rename_i c oc pb po
  split at hst
  ·rename_i hbc
   subst hbc
   simp only [Option.bnd_eq_some_iff] at hst
   obtain ⟨cs,hcs,hst⟩:=hst
   split at hst
   ·simp only [Option.some.injEq,Prod.mk.injEq] at hst
    obtain ⟨_,_,rfl⟩:=hst
    simp only [step,hq,Option.bnd_some,wh_bnd]
    congr 1;funext x
    cases x <;> simp only [wh_none,wh_bnd,wh_some]
    rename_i b2 o2
    by_cases hb:b2=pb
    ·rw [if_pos hb,if_pos hb,wh_none]
    ·rw [if_neg hb,if_neg hb,wh_bnd,show ∀ cs',getBox (setBox h pb cs') b2=getBox h b2 from fun cs'=>getBox_set_ne (fun hq=>hb hq.symm)]
     congr 1;funext cs2
     rw [wh_bnd]
     rfl
   ·cases hst
  ·cases hst
 ·cases hst
theorem parts_exec {orc:Orc} {base:Nat} {draw:Bool} {x y:AOper} {t n m:Nat} {g:Bool} {a b u:Opnd} (hx:x.op=.storeN t n a u) (hy:y.op=.loadN t m g b) {e:Env} {h h2:Hp} {r:Env}
  (hst:exec1 orc base draw x e h=some (r,h2)) (q:Env):exec1 orc base draw y e h=some (q,h) ↔ exec1 orc base draw y e h2=some (q,h2):=by
 unfold exec1 at hst
 simp only [Option.bnd_eq_some_iff] at hst
 obtain ⟨w,hw,hst⟩:=hst
 cases w with
 | false =>
  simp only [Bool.false_eq_true,if_false,Option.some.injEq,Prod.mk.injEq] at hst
  rw [hst.2]
 | true =>
  simp only [if_true,Option.bnd_eq_some_iff,Option.some.injEq,Prod.mk.injEq] at hst
  obtain ⟨⟨v,e2,h2'⟩,hs,_,rfl⟩:=hst
  rw [hx] at hs
  have key:=parts_same (m:=m) (g:=g) (b:=b) hs
  unfold exec1
  rw [hy]
  cases wanted e y.guard with
  | none=>exact ⟨fun k=>(by cases k),fun k=>(by cases k)⟩
  | some w =>
   simp only [Option.bnd_some]
   cases w with
   | false =>
    simp only [Bool.false_eq_true,if_false,Option.some.injEq,Prod.mk.injEq,and_true]
   | true =>
    simp only [if_true,key]
    have hq0:AllR (fun x=>x.2.2=h) (step orc base draw (.loadN t m g b) e h):=step_quiet orc base (op:=.loadN t m g b) rfl
    cases hl:step orc base draw (.loadN t m g b) e h with
    | none=>simp [wh,Option.bnd]
    | some z =>
     obtain ⟨z1,z2,z3⟩:=z
     have:z3=h:=hq0 _ hl
     subst this
     simp [wh,Option.bnd]
theorem swap2 {orc:Orc} {base:Nat} {draw:Bool} {x y:AOper} (hap:apartB draw y x=true) {e:Env} {h:Hp} {e':Env} {h':Hp} {e1:Env} {h1:Hp}
  (h2:exec1 orc base draw y e h=some (e1,h1)) (h3:exec1 orc base draw x e1 h1=some (e',h')) :
  ∃ e2 h2' e3,exec1 orc base draw x e h=some (e2,h2')∧exec1 orc base draw y e2 h2'=some (e3,h')∧Eqv e' e3:=by
 simp only [apartB,Bool.and_eq_true,Bool.or_eq_true,List.all_eq_true,Bool.not_eq_true'] at hap
 obtain ⟨⟨n1,n2⟩,n34⟩:=hap
 have ydx:∀ t∈names x,y.dst≠some t:=by
  intro t ht hq
  have:=n1 t (by simp [hq])
  simp at this
  exact this ht
 have xdy:∀ t∈names y,x.dst≠some t:=by
  intro t ht hq
  have:=n2 t (by simp [hq])
  simp at this
  exact this ht
 obtain ⟨vy,rfl,hy2⟩:=exec1_agree (f:=e) (fun _ _=>rfl) h2
 -- x in the frame as it was before y
 have hagx:Agree (readsOf x.op ++ (x.guard.map fun g=>[g.1]).getD []) (putD e y.dst vy) e:=by
  intro t ht
  refine look_putD_ne (ydx t ?_)
  simp only [names,List.mem_append] at ht ⊢
  rcases ht with ht | ht
  ·exact .inl (.inr ht)
  ·exact .inr ht
 obtain ⟨vx,rfl,hx2⟩:=exec1_agree hagx h3
 have hagy:∀ v,Agree (readsOf y.op ++ (y.guard.map fun g=>[g.1]).getD []) e (putD e x.dst v):=by
  intro v t ht
  refine (look_putD_ne (xdy t ?_)).symm
  simp only [names,List.mem_append] at ht ⊢
  rcases ht with ht | ht
  ·exact .inl (.inr ht)
  ·exact .inr ht
 have heqv:Eqv (putD (putD e y.dst vy) x.dst vx) (putD (putD e x.dst vx) y.dst vy):=by
  intro t
  cases hxd:x.dst with
  | none=>cases y.dst <;> rfl
  | some dx =>
   cases hyd:y.dst with
   | none=>rfl
   | some dy =>
    have hne:dy≠dx:=by
     intro hq
     have:=ydx dx (by simp [names,hxd])
     rw [hyd,hq] at this
     exact this rfl
    simp only [putD,look]
    by_cases h1:dx=t
    ·rw [if_pos h1,if_neg (by omega),if_pos h1]
    ·rw [if_neg h1]
     by_cases h2:dy=t
     ·rw [if_pos h2,if_pos h2]
     ·rw [if_neg h2,if_neg h2,if_neg h1]
 -- the heaps
 have heap_quiet:∀ (o:AOper) (e0:Env) (h0:Hp) (r:Env × Hp),quiet draw o.op=true→exec1 orc base draw o e0 h0=some r→r.2=h0:=by
  intro o e0 h0 r hq hr
  unfold exec1 at hr
  simp only [Option.bnd_eq_some_iff] at hr
  obtain ⟨w,_,hr⟩:=hr
  cases w with
  | false=>simp only [Bool.false_eq_true,if_false,Option.some.injEq] at hr;rw [←hr]
  | true =>
   simp only [if_true,Option.bnd_eq_some_iff,Option.some.injEq] at hr
   obtain ⟨z,hz,rfl⟩:=hr
   exact step_quiet orc base hq z hz
 have heap_blind:∀ (o:AOper) (e0:Env) (h0 h9:Hp) (r:Env × Hp),looks o.op=false→exec1 orc base draw o e0 h0=some r→exec1 orc base draw o e0 h9=some (r.1,h9):=by
  intro o e0 h0 h9 r hq hr
  unfold exec1 at hr ⊢
  simp only [Option.bnd_eq_some_iff] at hr ⊢
  obtain ⟨w,hw,hr⟩:=hr
  refine ⟨w,hw,?_⟩
  cases w with
  | false=>simp only [Bool.false_eq_true,if_false,Option.some.injEq] at hr ⊢;rw [←hr]
  | true =>
   simp only [if_true,Option.bnd_eq_some_iff,Option.some.injEq] at hr ⊢
   obtain ⟨z,hz,rfl⟩:=hr
   have:=step_blind orc base draw hq (e:=e0) (h:=h0) (h2:=h9)
   rw [hz] at this
   exact ⟨_,this,rfl⟩
 have again:∀ {h9:Hp},exec1 orc base draw x e h=some (putD e x.dst vx,h9)→exec1 orc base draw y e h9=some (putD e y.dst vy,h') →
   ∃ e2 h2' e3,exec1 orc base draw x e h=some (e2,h2')∧exec1 orc base draw y e2 h2'=some (e3,h')∧Eqv (putD (putD e y.dst vy) x.dst vx) e3:=by
  intro h9 q1 q2
  obtain ⟨vy',hvy,hy3⟩:=exec1_agree (hagy vx) q2
  have:Eqv (putD (putD e x.dst vx) y.dst vy') (putD (putD e x.dst vx) y.dst vy):=by
   intro t
   cases hyd:y.dst with
   | none=>rfl
   | some dy =>
    rw [hyd] at hvy
    simp only [putD,List.cons.injEq,Prod.mk.injEq,true_and,and_true] at hvy
    rw [hvy]
  exact ⟨_,_,_,q1,hy3,heqv.trans this.symm⟩
 rcases n34 with (hpa | ⟨hld,hnw⟩) | ⟨n3,n4⟩
 ·cases hyo:y.op <;> cases hxo:x.op <;> rw [hyo,hxo] at hpa <;> simp only [partsB,Bool.false_eq_true] at hpa
  case loadN.storeN t m g b s n a u =>
   have hts:t=s:=by simpa using hpa
   subst hts
   have e1:h1=h:=heap_quiet y e h _ (by rw [hyo];rfl) h2
   subst e1
   exact again hx2 ((parts_exec hxo hyo hx2 _).1 hy2)
  case storeN.loadN s n a u t m g b =>
   have hts:s=t:=by simp at hpa;exact hpa.symm
   subst hts
   have e1:h'=h1:=heap_quiet x _ _ _ (by rw [hxo];rfl) h3
   subst e1
   exact again ((parts_exec hyo hxo hy2 _).2 hx2) hy2
 ·-- a load ahead of a new box
  have hqy:quiet draw y.op=true:=by cases hyo:y.op <;> rw [hyo] at hld <;> simp [isLoad] at hld;rfl
  have e1:h1=h:=heap_quiet y e h _ hqy h2
  subst e1
  have hext:∃ l,h'=ext h1 l:=by
   unfold exec1 at hx2
   simp only [Option.bnd_eq_some_iff] at hx2
   obtain ⟨w,_,hx2⟩:=hx2
   cases w with
   | false=>simp only [Bool.false_eq_true,if_false,Option.some.injEq,Prod.mk.injEq] at hx2;exact ⟨[],by rw [ext_nil];exact hx2.2.symm⟩
   | true =>
    simp only [if_true,Option.bnd_eq_some_iff,Option.some.injEq,Prod.mk.injEq] at hx2
    obtain ⟨z,hz,_,h9⟩:=hx2
    obtain ⟨l,hl⟩:=new_ext hnw hz
    exact ⟨l,h9 ▸ hl⟩
  obtain ⟨l,rfl⟩:=hext
  have hy4:exec1 orc base draw y e (ext h1 l)=some (putD e y.dst vy,ext h1 l):=by
   unfold exec1 at hy2 ⊢
   simp only [Option.bnd_eq_some_iff] at hy2 ⊢
   obtain ⟨w,hw,hy2⟩:=hy2
   refine ⟨w,hw,?_⟩
   cases w with
   | false=>simp only [Bool.false_eq_true,if_false,Option.some.injEq,Prod.mk.injEq] at hy2 ⊢;exact ⟨hy2.1,trivial⟩
   | true =>
    simp only [if_true,Option.bnd_eq_some_iff,Option.some.injEq,Prod.mk.injEq] at hy2 ⊢
    obtain ⟨z,hz,h8,h9⟩:=hy2
    cases hyo:y.op <;> rw [hyo] at hld <;> simp [isLoad] at hld
    rw [hyo] at hz
    exact ⟨_,load_ext hz l,h8,rfl⟩
  exact again hx2 hy4
 rcases n3 with hqy | hlx
 ·-- y is quiet
  have e1:h1=h:=heap_quiet y e h _ hqy h2
  subst e1
  rcases n4 with hqx | hly
  ·have e2:h'=h1:=heap_quiet x _ _ _ hqx h3
   subst e2
   obtain ⟨vy',hvy,hy3⟩:=exec1_agree (hagy vx) hy2
   have:Eqv (putD (putD e x.dst vx) y.dst vy') (putD (putD e x.dst vx) y.dst vy):=by
    intro t
    cases hyd:y.dst with
    | none=>rfl
    | some dy =>
     rw [hyd] at hvy
     simp only [putD,List.cons.injEq,Prod.mk.injEq,true_and,and_true] at hvy
     rw [hvy]
   exact ⟨_,_,_,hx2,hy3,heqv.trans this.symm⟩
  ·have hy4:=heap_blind y e h1 h' _ hly hy2
   obtain ⟨vy',hvy,hy3⟩:=exec1_agree (hagy vx) hy4
   have:Eqv (putD (putD e x.dst vx) y.dst vy') (putD (putD e x.dst vx) y.dst vy):=by
    intro t
    cases hyd:y.dst with
    | none=>rfl
    | some dy =>
     rw [hyd] at hvy
     simp only [putD,List.cons.injEq,Prod.mk.injEq,true_and,and_true] at hvy
     rw [hvy]
   exact ⟨_,_,_,hx2,hy3,heqv.trans this.symm⟩
 ·-- x doesn't look
  have e2:h'=h1:=heap_quiet x _ _ _ (quiet_noTake_blind hlx) h3
  subst e2
  have hx4:=heap_blind x e h' h _ hlx hx2
  obtain ⟨vy',hvy,hy3⟩:=exec1_agree (hagy vx) hy2
  have:Eqv (putD (putD e x.dst vx) y.dst vy') (putD (putD e x.dst vx) y.dst vy):=by
   intro t
   cases hyd:y.dst with
   | none=>rfl
   | some dy =>
    rw [hyd] at hvy
    simp only [putD,List.cons.injEq,Prod.mk.injEq,true_and,and_true] at hvy
    rw [hvy]
  exact ⟨_,_,_,hx4,hy3,heqv.trans this.symm⟩
theorem swap_front {orc:Orc} {base:Nat} {draw:Bool} {x:AOper}:∀ (l1:List AOper) {l2:List AOper} (hap:∀ y∈l1,apartB draw y x=true) {e:Env} {h:Hp} {e':Env} {h':Hp},
  execOps orc base draw (l1 ++ x :: l2) e h=some (e',h')→∃ e2,Eqv e' e2∧execOps orc base draw (x :: (l1 ++ l2)) e h=some (e2,h')
 | [],l2,hap,e,h,e',h',hs=>⟨e',Eqv.refl _,hs⟩
 | y :: l1,l2,hap,e,h,e',h',hs=>by
  rw [List.cons_append,execOps_eq,Option.bnd_eq_some_iff] at hs
  obtain ⟨⟨e1,h1⟩,h2,h3⟩:=hs
  obtain ⟨e2,he2,h4⟩:=swap_front l1 (l2:=l2) (fun z hz=>hap z (by simp [hz])) h3
  rw [execOps_eq,Option.bnd_eq_some_iff] at h4
  obtain ⟨⟨e3,h5⟩,h6,h7⟩:=h4
  obtain ⟨e4,h8,e5,h9,h10,h11⟩:=swap2 (hap y (by simp)) h2 h6
  obtain ⟨e6,h12,h13⟩:=execOps_eqv h11 h7
  refine ⟨e6,he2.trans h12,?_⟩
  rw [execOps_eq,h9]
  simp only [Option.bnd]
  rw [List.cons_append,execOps_eq,h10]
  exact h13
end Go.Am
namespace Go.Am
set_option linter.unusedVariables false
set_option linter.unusedSimpArgs false
def vals:Box→List PV
 | .cells cs=>cs
 | .map es=>es.flatMap fun e=>[e.1,e.2]
 | _=>[]
def Clo (m:Nat) (h:Hp):Prop:=∀ b y,b < m→box? h b=some y→∀ x∈vals y,below m x=true
def Grows (base:Nat) (h h':Hp):Prop:=size h≤size h'∧∀ m,m≤base→Clo m h→Clo m h'
theorem Grows.refl (base:Nat) (h:Hp):Grows base h h:=⟨Nat.le_refl _,fun _ _ c=>c⟩
theorem Grows.trans {base:Nat} {a b c:Hp} (x:Grows base a b) (y:Grows base b c):Grows base a c:=⟨Nat.le_trans x.1 y.1,fun m hm k=>y.2 m hm (x.2 m hm k)⟩
theorem Grows.mono {base base':Nat} {a b:Hp} (x:Grows base a b) (hb:base'≤base):Grows base' a b:=⟨x.1,fun m hm k=>x.2 m (Nat.le_trans hm hb) k⟩
theorem Grows.ext {base:Nat} {h:Hp} (hb:base≤size h) (l:List Box):Grows base h (ext h l) :=
 ⟨by rw [size_ext];omega,fun m hm k b cs hlt hcs=>by rw [box_ext_lt (by omega)] at hcs;exact k b cs hlt hcs⟩
theorem belows_of {n:Nat}:∀ {cs:List PV},(∀ (j:Nat) (x:PV),cs[j]?=some x→below n x=true)→belows n cs=true
 | [],_=>rfl
 | c :: cs,h=>by
  simp only [belows,Bool.and_eq_true]
  exact ⟨h 0 c rfl,belows_of fun j x hx=>h (j+1) x (by simpa using hx)⟩
theorem belows_mem' {n:Nat}:∀ {cs:List PV},belows n cs=true→∀ (j:Nat) (x:PV),cs[j]?=some x→below n x=true
 | [],_,j,x,h=>by simp at h
 | c :: cs,hb,0,x,h=>by simp [belows] at hb h;exact h ▸ hb.1
 | c :: cs,hb,j+1,x,h=>by
  simp only [belows,Bool.and_eq_true] at hb
  exact belows_mem' hb.2 j x (by simpa using h)
mutual
theorem below_le' {n m:Nat} (hnm:n≤m):∀ (v:PV),below n v=true→below m v=true
 | .ptr b _,h=>by simp [below] at *;omega
 | .bsl _ b _ _ _,h=>by simp [below] at *;omega
 | .it b,h=>by simp [below] at *;omega
 | .mref b,h=>by simp [below] at *;omega
 | .ep e _,h=>by simp only [below] at *;exact belows_le' hnm e h
 | .sl o _ es,h=>by
  simp only [below,Bool.and_eq_true] at *
  refine ⟨?_,belows_le' hnm es h.2⟩
  have h1:=h.1
  cases o with
  | tok t=>simp [Own.below] at *;omega
  | _=>rfl
 | .iface _ v,h=>by simp only [below] at *;exact below_le' hnm v h
 | .fn _ c,h=>by simp only [below] at *;exact belows_le' hnm c h
 | .agg c,h=>by simp only [below] at *;exact belows_le' hnm c h
 | .tup c,h=>by simp only [below] at *;exact belows_le' hnm c h
 | .undef,_=>rfl
 | .bool _,_=>rfl
 | .int _ _,_=>rfl
 | .str _,_=>rfl
 | .nilp,_=>rfl
 | .bnil _,_=>rfl
 | .nils,_=>rfl
 | .nilif,_=>rfl
 | .nilf,_=>rfl
 | .nilm,_=>rfl
theorem belows_le' {n m:Nat} (hnm:n≤m):∀ (vs:List PV),belows n vs=true→belows m vs=true
 | [],_=>rfl
 | v :: vs,h=>by
  simp only [belows,Bool.and_eq_true] at *
  exact ⟨below_le' hnm v h.1,belows_le' hnm vs h.2⟩
end
mutual
theorem below_strip {n:Nat}:∀ {v:PV},below n v=true→below n (strip v)=true
 | .sl o z e,h=>by
  simp only [strip,below,Bool.and_eq_true] at *
  exact ⟨obelow_strip n o,h.2⟩
 | .agg cs,h=>by simp only [strip,below] at *;exact belows_strips h
 | .tup cs,h=>by simp only [strip,below] at *;exact belows_strips h
 | .fn f cs,h=>by simp only [strip,below] at *;exact belows_strips h
 | .iface t v,h=>by simp only [strip,below] at *;exact below_strip h
 | .undef,_ | .bool _,_ | .int _ _,_ | .str _,_ | .nilp,_ | .bnil _,_ | .nils,_ | .nilif,_ | .nilf,_ | .nilm,_=>rfl
 | .ptr _ _,h | .ep _ _,h | .bsl _ _ _ _ _,h | .it _,h | .mref _,h=>h
theorem belows_strips {n:Nat}:∀ {vs:List PV},belows n vs=true→belows n (strips vs)=true
 | [],_=>rfl
 | v :: vs,h=>by
  simp only [strips,belows,Bool.and_eq_true] at *
  exact ⟨below_strip h.1,belows_strips h.2⟩
end
theorem setRange_mem:∀ (vs:List PV) (cs:List PV) (off:Nat) (j:Nat) (x:PV),(setRange cs off vs)[j]?=some x→(∃ i:Nat,vs[i]?=some x)∨cs[j]?=some x
 | [],cs,off,j,x,h=>.inr h
 | v :: vs,cs,off,j,x,h=>by
  simp only [setRange] at h
  rcases setRange_mem vs _ _ j x h with ⟨i,hi⟩ | hc
  ·exact .inl ⟨i+1,by simpa using hi⟩
  ·by_cases hj:off=j
   ·subst hj
    by_cases hlt:off < cs.length
    ·rw [List.getElem?_set_self hlt] at hc
     exact .inl ⟨0,by simpa using hc⟩
    ·rw [List.getElem?_eq_none (by simp;omega)] at hc;cases hc
   ·rw [List.getElem?_set_ne hj] at hc;exact .inr hc
theorem Grows.setBx {base:Nat} {h:Hp} {b:Nat} {y z:Box} (hb:box? h b=some y) (hx:∀ x∈vals z,x∈vals y∨(b < base→below 0 x=true)):Grows base h (Go.Am.setBx h b z):=by
 refine ⟨by rw [size_setBx];exact Nat.le_refl _,fun m hm k c u hlt hu x hj=>?_⟩
 by_cases hbc:b=c
 ·subst hbc
  rw [box_set_eq (lt_of_box hb)] at hu
  simp only [Option.some.injEq] at hu
  subst hu
  rcases hx x hj with h1 | h1
  ·exact k b y hlt hb x h1
  ·exact below_le' (Nat.zero_le _) x (h1 (by omega))
 ·rw [box_set_ne hbc] at hu
  exact k c u hlt hu x hj
theorem Grows.set {base:Nat} {h:Hp} {b:Nat} {cs:List PV} (hb:getBox h b=some cs) {cs':List PV} (hx:∀ (j:Nat) (x:PV),cs'[j]?=some x→cs[j]?=some x∨(b < base→below 0 x=true)):Grows base h (setBox h b cs'):=by
 refine Grows.setBx (box_of_get hb) fun x hm=>?_
 obtain ⟨j,hj⟩:=List.getElem?_of_mem hm
 rcases hx j x hj with h1 | h1
 ·exact .inl (List.mem_of_getElem? h1)
 ·exact .inr h1
theorem Grows.other {base:Nat} {h:Hp} {b:Nat} {y:Box} (hb:b < size h) (hy:vals y=[]):Grows base h (Go.Am.setBx h b y):=by
 obtain ⟨z,hz⟩ : ∃ z,box? h b=some z:=⟨h[b],List.getElem?_eq_getElem hb⟩
 exact Grows.setBx hz fun x hm=>by rw [hy] at hm;cases hm
theorem mem_updM {es:List (PV × PV)} {k v:PV} {i:Option Nat} {x:PV} (hm:x∈vals (.map (updM k v es i))):x=k∨x=v∨x∈vals (.map es):=by
 simp only [vals,List.mem_flatMap] at hm ⊢
 obtain ⟨e,he,hx⟩:=hm
 have key:e=(k,v)∨e∈es:=by
  cases i with
  | none=>simp only [updM,List.mem_append,List.mem_singleton] at he;exact he.symm
  | some i=>simp only [updM] at he;exact (List.mem_or_eq_of_mem_set he).symm
 rcases key with rfl | he
 ·simp only [List.mem_cons,List.not_mem_nil,or_false] at hx
  rcases hx with rfl | rfl
  ·exact .inl rfl
  ·exact .inr (.inl rfl)
 ·exact .inr (.inr ⟨e,he,hx⟩)
theorem mem_delM {es:List (PV × PV)} {i:Option Nat} {x:PV} (hm:x∈vals (.map (delM es i))):x∈vals (.map es):=by
 simp only [vals,List.mem_flatMap] at hm ⊢
 obtain ⟨e,he,hx⟩:=hm
 refine ⟨e,?_,hx⟩
 cases i with
 | none=>exact he
 | some i=>exact List.mem_of_mem_eraseIdx he
theorem leftK_grows {base:Nat} {h:Hp} {sz:Nat} {v:PV} {l:Nat × List PV × Hp} (hl:leftK h sz v=some l):Grows base h l.2.2∧size l.2.2=size h:=by
 unfold leftK at hl
 split at hl
 ·simp only [Option.some.injEq] at hl;subst hl;exact ⟨Grows.refl _ _,rfl⟩
 ·split at hl
  ·simp only [Option.some.injEq] at hl;subst hl;exact ⟨Grows.refl _ _,rfl⟩
  ·cases hl
 ·simp only [Option.bnd_eq_some_iff] at hl
  obtain ⟨cs,hcs,hl⟩:=hl
  split at hl
  ·simp only [Option.some.injEq] at hl
   subst hl
   exact ⟨Grows.other (lt_of_box (box_of_get hcs)) rfl,size_setBx⟩
  ·cases hl
 ·cases hl
theorem genV_grows {base:Nat} {h:Hp} (hb:base≤size h) (k:GenOp) (vs:List PV):AllR (fun r=>Grows base h r.2) (genV base h k vs):=by
 unfold genV
 split
 ·exact AllR.some (Grows.ext hb _)
 ·exact AllR.bnd fun _=>AllR.ite (AllR.bnd fun _=>AllR.bnd fun _=>AllR.some (Grows.refl _ _)) AllR.none
 ·split
  ·intro r hr
   simp only [Option.bnd_eq_some_iff] at hr
   obtain ⟨es,hes,hr⟩:=hr
   split at hr
   ·rename_i hc
    simp only [Option.bnd_eq_some_iff,Option.some.injEq] at hr
    obtain ⟨i,hi,rfl⟩:=hr
    refine Grows.setBx (box_of_map hes) fun x hm=>?_
    rcases mem_updM hm with rfl | rfl | hm
    ·exact .inr fun hlt=>(hc.2.2.2 hlt).1
    ·exact .inr fun hlt=>(hc.2.2.2 hlt).2
    ·exact .inl hm
   ·cases hr
  ·exact AllR.none
 ·split
  ·exact AllR.ite (AllR.some (Grows.refl _ _)) AllR.none
  ·intro r hr
   simp only [Option.bnd_eq_some_iff] at hr
   obtain ⟨es,hes,hr⟩:=hr
   split at hr
   ·simp only [Option.bnd_eq_some_iff,Option.some.injEq] at hr
    obtain ⟨i,hi,rfl⟩:=hr
    exact Grows.setBx (box_of_map hes) fun x hm=>.inl (mem_delM hm)
   ·cases hr
  ·exact AllR.none
 ·exact AllR.some (Grows.ext hb _)
 ·split
  ·exact AllR.bnd fun _=>AllR.some (Grows.refl _ _)
  ·exact AllR.none
 ·intro r hr
  simp only [Option.bnd_eq_some_iff] at hr
  obtain ⟨xs,hxs,l,hl,hr⟩:=hr
  split at hr
  ·simp only [Option.some.injEq] at hr
   subst hr
   exact Grows.refl _ _
  ·split at hr
   ·simp only [Option.some.injEq] at hr
    subst hr
    obtain ⟨g1,g2⟩:=leftK_grows (base:=base) hl
    exact g1.trans (Grows.ext (by rw [g2];exact hb) _)
   ·cases hr
 ·exact AllR.bnd fun _=>AllR.some (Grows.refl _ _)
 ·exact AllR.none
theorem Grows.growT {base:Nat} {h:Hp} (hb:base≤size h) {T sz:Nat} {v:PV} {xs:List PV}:AllR (fun r=>Grows base h r.2) (Go.Am.growT h T sz v xs):=by
 unfold Go.Am.growT
 refine AllR.ite ?_ AllR.none
 split
 ·refine AllR.ite (AllR.some ?_) AllR.none
  split
  ·exact Grows.refl _ _
  ·exact Grows.ext hb _
 ·refine AllR.ite (AllR.some ?_) AllR.none
  split
  ·exact Grows.refl _ _
  ·exact Grows.ext hb _
 ·intro r hr
  simp only [Option.bnd_eq_some_iff] at hr
  obtain ⟨n,hn,hr⟩:=hr
  split at hr
  ·simp only [Option.some.injEq] at hr
   subst hr
   exact Grows.other (lt_of_getTok hn) rfl
  ·cases hr
 ·exact AllR.none
theorem step_grows {orc:Orc} {base:Nat} {draw:Bool} {op:AOp} {e:Env} {h:Hp} (hb:base≤size h) (horc:∀ f vs r,orc f vs h=some r→Grows base h r.2) :
  AllR (fun x=>Grows base h x.2.2) (step orc base draw op e h):=by
 cases op <;> simp only [step]
 case call f args =>
  refine AllR.bnd fun vs=>?_
  intro x hx
  simp only [Option.bnd_eq_some_iff] at hx
  obtain ⟨r,hr,hx⟩:=hx
  have:=horc _ _ _ hr
  split at hx
  ·split at hx
   ·simp only [Option.some.injEq] at hx;subst hx;exact Grows.refl _ _
   ·cases hx
  ·simp only [Option.some.injEq] at hx;subst hx;exact this
 case callQ f args =>
  refine AllR.bnd fun vs=>?_
  refine AllR.bnd fun r=>?_
  exact AllR.ite (AllR.some (Grows.refl _ _)) AllR.none
 case callv x args =>
  refine AllR.bnd fun v=>?_
  cases v <;> try exact AllR.none
  refine AllR.bnd fun vs=>?_
  intro x hx
  simp only [Option.bnd_eq_some_iff] at hx
  obtain ⟨r,hr,hx⟩:=hx
  have:=horc _ _ _ hr
  split at hx
  ·split at hx
   ·simp only [Option.some.injEq] at hx;subst hx;exact Grows.refl _ _
   ·cases hx
  ·simp only [Option.some.injEq] at hx;subst hx;exact this
 case loadN t n g x =>
  refine AllR.bnd fun q=>AllR.bnd fun v=>?_
  split
  ·exact AllR.ite AllR.none (AllR.bnd fun cs=>AllR.bnd fun r=>AllR.some (Grows.refl _ _))
  ·exact AllR.bnd fun r=>AllR.some (Grows.refl _ _)
  ·exact AllR.none
 case storeN t n x y =>
  refine AllR.bnd fun q=>AllR.bnd fun v=>AllR.bnd fun u=>?_
  split
  ·rename_i c oc b off
   refine AllR.ite ?_ AllR.none
   intro z hz
   simp only [Option.bnd_eq_some_iff] at hz
   obtain ⟨cs,hcs,hz⟩:=hz
   split at hz
   ·rename_i hc
    simp only [Option.some.injEq] at hz
    subst hz
    refine Grows.set hcs fun j q hq=>?_
    rcases setRange_mem _ _ _ _ _ hq with ⟨i,hi⟩ | hq
    ·right
     intro hlt
     rw [if_pos hlt] at hi
     exact belows_mem' (hc.2.2.2 hlt) i q hi
    ·exact .inl hq
   ·cases hz
  ·exact AllR.none
 case store n x y =>
  refine AllR.bnd fun v=>AllR.bnd fun u=>?_
  cases v <;> try exact AllR.none
  rename_i b off
  intro z hz
  simp only [Option.bnd_eq_some_iff] at hz
  obtain ⟨cs,hcs,hz⟩:=hz
  split at hz
  ·rename_i hc
   simp only [Option.some.injEq] at hz
   subst hz
   refine Grows.set hcs fun j q hq=>?_
   rcases setRange_mem _ _ _ _ _ hq with ⟨i,hi⟩ | hq
   ·right
    intro hlt
    rw [if_pos hlt] at hi
    exact belows_mem' (hc.2.2.2 hlt) i q hi
   ·exact .inl hq
  ·cases hz
 case copyB x y =>
  refine AllR.bnd fun v=>AllR.bnd fun u=>AllR.bnd fun xs=>?_
  cases v <;> try exact AllR.none
  ·exact AllR.some (Grows.refl _ _)
  rename_i f b off len sz
  intro z hz
  simp only [Option.bnd_eq_some_iff] at hz
  obtain ⟨cs,hcs,hz⟩:=hz
  split at hz
  ·rename_i hc
   simp only [Option.some.injEq] at hz
   subst hz
   refine Grows.set hcs fun j q hq=>?_
   rcases setRange_mem _ _ _ _ _ hq with ⟨i,hi⟩ | hq
   ·exact .inr fun hlt=>belows_mem' (hc.2.2.2 hlt) i q hi
   ·exact .inl hq
  ·cases hz
 case gen g xs =>
  refine AllR.bnd fun vs=>?_
  intro r hr
  simp only [Option.bnd_eq_some_iff,Option.some.injEq] at hr
  obtain ⟨r',hr',rfl⟩:=hr
  exact genV_grows hb g vs r' hr'
 case next x =>
  refine AllR.bnd fun v=>?_
  cases v <;> try exact AllR.none
  intro z hz
  simp only [Option.bnd_eq_some_iff] at hz
  obtain ⟨⟨s,p⟩,hp,hz⟩:=hz
  split at hz
  ·simp only [Option.some.injEq] at hz
   subst hz
   exact Grows.other (lt_of_box (box_of_iter hp)) rfl
  ·simp only [Option.some.injEq] at hz
   subst hz
   exact Grows.refl _ _
 case appendT T z x y =>
  refine AllR.bnd fun v=>AllR.bnd fun u=>AllR.bnd fun xs=>?_
  intro r hr
  simp only [Option.bnd_eq_some_iff,Option.some.injEq] at hr
  obtain ⟨r',hr',rfl⟩:=hr
  exact Grows.growT hb r' hr'
 all_goals
  repeat' (first
   | exact AllR.some (Grows.refl _ _)
   | exact AllR.some (Grows.ext hb _)
   | exact AllR.none
   |(refine AllR.bnd fun _=>?_)
   |(refine AllR.ite ?_ ?_)
   |(refine AllR.cond ?_ ?_)
   | split)
theorem execOps_grows {orc:Orc} {base:Nat} {draw:Bool} (horc:∀ h f vs r,base≤size h→orc f vs h=some r→Grows base h r.2):∀ (l:List AOper) (e:Env) (h:Hp),base≤size h →
  AllR (fun x=>Grows base h x.2) (execOps orc base draw l e h)
 | [],e,h,hb=>AllR.some (Grows.refl _ _)
 | o :: l,e,h,hb=>by
  rw [execOps_eq]
  intro x hx
  simp only [Option.bnd_eq_some_iff] at hx
  obtain ⟨⟨e1,h1⟩,h2,h3⟩:=hx
  have hg:Grows base h h1:=by
   unfold exec1 at h2
   simp only [Option.bnd_eq_some_iff] at h2
   obtain ⟨w,_,h2⟩:=h2
   cases w with
   | false=>simp only [Bool.false_eq_true,if_false,Option.some.injEq,Prod.mk.injEq] at h2;rw [←h2.2];exact Grows.refl _ _
   | true =>
    simp only [if_true,Option.bnd_eq_some_iff,Option.some.injEq,Prod.mk.injEq] at h2
    obtain ⟨z,hz,_,rfl⟩:=h2
    exact step_grows hb (fun f vs r=>horc h f vs r hb) z hz
  exact hg.trans (execOps_grows horc l e1 h1 (Nat.le_trans hb hg.1) x h3)
theorem box_trunc {h:Hp} {n b:Nat} (hb:b < n):box? (trunc h n) b=box? h b:=by simp [box?,trunc,hb]
theorem getBox_trunc {h:Hp} {n b:Nat} (hb:b < n):getBox (trunc h n) b=getBox h b:=by rw [getBox,box_trunc hb];rfl
theorem box_trunc_none {h:Hp} {n b:Nat} (hb:n≤b):box? (trunc h n) b=none:=by simp [box?,trunc];omega
theorem getBox_trunc_none {h:Hp} {n b:Nat} (hb:n≤b):getBox (trunc h n) b=none:=by rw [getBox,box_trunc_none hb];rfl
theorem size_trunc {h:Hp} {n:Nat} (hn:n≤size h):size (trunc h n)=n:=by simp only [size,trunc,List.length_take] at *;omega
theorem grows_trunc {base:Nat} {h h1:Hp} (hb:base≤size h) (g:Grows base h h1):Grows base h (trunc h1 (size h)):=by
 refine ⟨by rw [size_trunc g.1];exact Nat.le_refl _,fun m hm k b cs hlt hcs=>?_⟩
 rw [box_trunc (by omega)] at hcs
 exact g.2 m hm k b cs hlt hcs
theorem grows_ownEnd {base:Nat} {h h1:Hp} (hb:base≤size h) (g:Grows base h h1) {vs:List PV}:AllR (fun r=>Grows base h r.2) (ownEnd (size h) h1 vs):=by
 have g1:=grows_trunc hb g
 have g2:∀ l,Grows base h (Go.Am.ext (trunc h1 (size h)) l):=fun l=>g1.trans (Grows.ext (by rw [size_trunc g.1];exact hb) l)
 unfold ownEnd
 split
 ·exact AllR.ite (AllR.ite (AllR.some g1) (AllR.bnd fun n=>AllR.some (g2 _))) AllR.none
 ·exact AllR.ite (AllR.ite (AllR.some g1) AllR.none) (AllR.bnd fun cs=>AllR.ite (AllR.some (g2 _)) AllR.none)
 ·exact AllR.bnd fun vs=>AllR.ite (AllR.some g1) AllR.none
theorem grows_all {T:Table}:∀ n,(∀ c base e h,base≤size h→AllR (fun x=>Grows base h x.2.2) (exec T n c base e h)) ∧
  (∀ base f vs h,base≤size h→AllR (fun x=>Grows base h x.2) (call T n base f vs h))
 | 0=>⟨fun _ _ _ _ _=>by simp only [exec];exact AllR.none,fun _ _ _ _ _=>by simp only [call];exact AllR.none⟩
 | n+1=>by
  obtain ⟨ih,ihc⟩:=grows_all (T:=T) n
  refine ⟨fun c base e h hb=>?_,fun base f vs h hb=>?_⟩
  ·cases c with
   | skip=>rw [exec];exact AllR.some (Grows.refl _ _)
   | exit id=>rw [exec];exact AllR.some (Grows.refl _ _)
   | ret=>rw [exec];exact AllR.some (Grows.refl _ _)
   | ops l draw keep =>
    rw [exec]
    intro x hx
    simp only [Option.bnd_eq_some_iff,Option.some.injEq] at hx
    obtain ⟨y,hy,rfl⟩:=hx
    exact execOps_grows (fun h f vs r hb hr=>ihc base f vs h hb r hr) l e h hb y hy
   | seq a b =>
    rw [exec]
    intro x hx
    simp only [Option.bnd_eq_some_iff] at hx
    obtain ⟨⟨y,e1,h1⟩,hy,hx⟩:=hx
    have g1:=ih a base e h hb _ hy
    split at hx
    ·rename_i heq
     simp only [Prod.mk.injEq] at heq
     obtain ⟨_,rfl,rfl⟩:=heq
     exact Grows.trans g1 (ih b base _ _ (Nat.le_trans hb g1.1) x hx)
    ·simp only [Option.some.injEq] at hx;subst hx;exact g1
   | cond v a b =>
    rw [exec]
    exact AllR.bnd fun _=>AllR.cond (ih a base e h hb) (ih b base e h hb)
   | block id a =>
    rw [exec]
    intro x hx
    simp only [Option.bnd_eq_some_iff] at hx
    obtain ⟨⟨y,e1,h1⟩,hy,hx⟩:=hx
    have g1:=ih a base e h hb _ hy
    split at hx
    ·rename_i heq
     simp only [Prod.mk.injEq] at heq
     obtain ⟨_,rfl,rfl⟩:=heq
     split at hx <;> (simp only [Option.some.injEq] at hx;subst hx;exact g1)
    ·simp only [Option.some.injEq] at hx;subst hx;exact g1
   | loop a =>
    rw [exec]
    intro x hx
    simp only [Option.bnd_eq_some_iff] at hx
    obtain ⟨⟨y,e1,h1⟩,hy,hx⟩:=hx
    have g1:=ih a base e h hb _ hy
    split at hx
    ·rename_i heq
     simp only [Prod.mk.injEq] at heq
     obtain ⟨_,rfl,rfl⟩:=heq
     exact Grows.trans g1 (ih (.loop a) base _ _ (Nat.le_trans hb g1.1) x hx)
    ·simp only [Option.some.injEq] at hx;subst hx;exact g1
   | scope a=>rw [exec];exact ih a base e h hb
  ·rw [call]
   split
   ·exact AllR.none
   ·refine AllR.bnd fun r=>?_
    obtain ⟨v,m⟩:=r
    cases m with
    | none=>exact AllR.some (Grows.refl _ _)
    | some q =>
     obtain ⟨b,cs⟩:=q
     simp only [primEnd]
     intro x hx
     split at hx
     ·rename_i hc
      simp only [Option.some.injEq] at hx
      subst hx
      obtain ⟨hb1,hb2⟩:=hc
      obtain ⟨cs0,hcs0⟩:=Option.isSome_iff_exists.1 hb1
      exact Grows.set hcs0 fun j y hy=>.inr fun hlt=>belows_mem' (hb2 hlt) j y hy
     ·cases hx
   ·exact AllR.bnd fun r=>AllR.some (Grows.ext hb _)
   ·rename_i fn hf
    intro x hx
    simp only [Option.bnd_eq_some_iff] at hx
    obtain ⟨⟨y,e1,h1⟩,hy,hx⟩:=hx
    have hbase:(if fn.keep then base else size h)≤size h:=by split <;> omega
    have hle:base≤(if fn.keep then base else size h):=by split <;> omega
    have g1:=(ih fn.body _ _ h hbase _ hy).mono hle
    have hx':finish fn (size h) e1 h1=some x:=by
     cases y with
     | exit i=>cases hx
     | norm=>exact hx
     | ret=>exact hx
    unfold finish at hx'
    simp only [Option.bnd_eq_some_iff] at hx'
    obtain ⟨vs',_,hx'⟩:=hx'
    split at hx'
    ·simp only [Option.some.injEq] at hx';subst hx';exact g1
    ·split at hx'
     ·simp only [Option.bnd_eq_some_iff,Option.some.injEq] at hx'
      obtain ⟨r,hr,rfl⟩:=hx'
      exact grows_ownEnd hb g1 r hr
     ·simp only [Option.bnd_eq_some_iff] at hx'
      obtain ⟨vs2,_,hx'⟩:=hx'
      split at hx'
      ·simp only [Option.some.injEq] at hx'
       subst hx'
       exact grows_trunc hb g1
      ·cases hx'
end Go.Am
namespace Go.Am
open Go.RowKit (Below)
set_option linter.unusedVariables false
set_option linter.unusedSimpArgs false
structure Tk where
 e:Nat
 c:Nat
 o:Nat
 cap:Nat
 sz:Nat
 deriving Inhabited
theorem arr_one {α:Type} {us:Array α} (h:us.size=1):∃ u,us=#[u]:=⟨us[0],Array.ext (by simp [h]) fun i hi _=>by
 have:i=0:=by omega
 subst this;rfl⟩
structure G where
 ι:Nat→Nat
 n:Nat
 hw:Nat→Option Nat
 tk:Nat→Tk:=fun _=>default
 cp:Nat→Nat:=fun _=>0
section
variable (N0:Nat)
def Fixed (g:G) (c e:Nat):Prop:=c < N0∨∃ m,g.hw c=some m∧e≤m
inductive RV (g:G) (w:World):PV→Value→Prop
 | undef (u) (hu:∀ b,u≠.bool b):RV g w .undef u
 | bool (b):RV g w (.bool b) (.bool b)
 | int (k n):RV g w (.int k n) (.int k n)
 | str (l s) (h:s.data.toList=l):RV g w (.str l) (.string s)
 | nilp:RV g w .nilp (.pointer none)
 | bnil (T):RV g w (.bnil T) (.pointer none)
 | ptr (b off) (h:b < g.n):RV g w (.ptr b off) (.pointer (some ⟨g.ι b,off,none⟩))
 | ep (cs off c o) (u:Nat→Value) (hc:∀ j,j < cs.length→w.cell? ⟨c,o+j,none⟩=some (u j))
   (hr:∀ j x,cs[j]?=some x→RV g w x (u j)) (hf:Fixed N0 g c (o+cs.length)):RV g w (.ep cs off) (.pointer (some ⟨c,o+off,none⟩))
 | nils:RV g w .nils (.slice none 0 0)
 | sl (ow sz es c o cap) (u:Nat→Nat→Value) (hl:es.length≤cap) (hfull:ow=.full→cap=es.length)
   (hsz:∀ (i:Nat) (e:PV),es[i]?=some e→e.cells.length=sz)
   (hc:∀ i j,i < es.length→j < sz→w.cell? ⟨c,o+(i * sz+j),none⟩=some (u i j))
   (hr:∀ (i j:Nat) (e x:PV),es[i]?=some e→e.cells[j]?=some x→RV g w x (u i j))
   (hf:es≠[]→Fixed N0 g c (o+es.length * sz)) (sp:Option Nat) (hsp:es≠[]→sp=none)
   (htk:∀ t,ow=.tok t→t < g.n∧es.length≤(g.tk t).e∧((g.tk t).e=es.length→g.tk t=⟨es.length,c,o,cap,sz⟩∧sp=none)):RV g w (.sl ow sz es) (.slice (some ⟨c,o,sp⟩) es.length cap)
 | bsl (f b off len sz cap) (h:b < g.n) (hl:len≤cap) (hfull:f=true→cap=len) (hcp:off+cap * sz≤g.cp b):RV g w (.bsl f b off len sz) (.slice (some ⟨g.ι b,off,none⟩) len cap)
 | nilif:RV g w .nilif .nilIface
 | iface (t v u) (h:RV g w v u):RV g w (.iface t v) (.iface t u)
 | nilf:RV g w .nilf .nilFunc
 | fn (f cap) (us:Array Value) (hs:us.size=cap.length) (hr:∀ (j:Nat) (x:PV),cap[j]?=some x→RV g w x (us.getD j undef)):RV g w (.fn f cap) (.func (.func f) #[] us)
 | agg (cs) (us:Array Value) (hs:us.size=cs.length) (hr:∀ (j:Nat) (x:PV),cs[j]?=some x→RV g w x (us.getD j undef)):RV g w (.agg cs) (.agg us)
 | tup (cs) (us:Array Value) (hs:us.size=cs.length) (hr:∀ (j:Nat) (x:PV),cs[j]?=some x→RV g w x (us.getD j undef)):RV g w (.tup cs) (.tuple us)
 | it (b) (h:b < g.n):RV g w (.it b) (.pointer (some ⟨g.ι b,0,none⟩))
 | nilm:RV g w .nilm (.map none)
 | mref (b) (h:b < g.n):RV g w (.mref b) (.map (some (g.ι b)))
structure Ext (g:G) (w:World) (g':G) (w':World):Prop where
 n:g.n≤g'.n
 ι:∀ b,b < g.n→g'.ι b=g.ι b
 hw:∀ c m,g.hw c=some m→∃ m',g'.hw c=some m'∧m≤m'
 cell:∀ c m o,g.hw c=some m→o < m→w'.cell? ⟨c,o,none⟩=w.cell? ⟨c,o,none⟩
 old:∀ c o,c < N0→w'.cell? ⟨c,o,none⟩=w.cell? ⟨c,o,none⟩
 tk:∀ t,t < g.n→(g.tk t).e≤(g'.tk t).e∧((g'.tk t).e=(g.tk t).e→g'.tk t=g.tk t)
 cp:∀ b,b < g.n→g'.cp b=g.cp b
theorem Ext.refl (g:G) (w:World):Ext N0 g w g w:=⟨Nat.le_refl _,fun _ _=>rfl,fun c m h=>⟨m,h,Nat.le_refl _⟩,fun _ _ _ _ _=>rfl,fun _ _ _=>rfl,fun _ _=>⟨Nat.le_refl _,fun _=>rfl⟩,fun _ _=>rfl⟩
variable {N0}
theorem Ext.trans {g g' g'':G} {w w' w'':World} (a:Ext N0 g w g' w') (b:Ext N0 g' w' g'' w''):Ext N0 g w g'' w'' where
 n:=Nat.le_trans a.n b.n
 ι:=fun x hx=>(b.ι x (Nat.lt_of_lt_of_le hx a.n)).trans (a.ι x hx)
 hw:=fun c m h=>let ⟨m',h',l⟩:=a.hw c m h;let ⟨m'',h'',l'⟩:=b.hw c m' h';⟨m'',h'',Nat.le_trans l l'⟩
 cell:=fun c m o h ho=>let ⟨m',h',l⟩:=a.hw c m h;(b.cell c m' o h' (Nat.lt_of_lt_of_le ho l)).trans (a.cell c m o h ho)
 old:=fun c o h=>(b.old c o h).trans (a.old c o h)
 tk:=fun t h=>by
  obtain ⟨a1,a2⟩:=a.tk t h
  obtain ⟨b1,b2⟩:=b.tk t (Nat.lt_of_lt_of_le h a.n)
  refine ⟨Nat.le_trans a1 b1,fun he=>?_⟩
  have e1:(g''.tk t).e=(g'.tk t).e:=by omega
  have e2:(g'.tk t).e=(g.tk t).e:=by omega
  exact (b2 e1).trans (a2 e2)
 cp:=fun x hx=>(b.cp x (Nat.lt_of_lt_of_le hx a.n)).trans (a.cp x hx)
theorem Fixed.mono {g g':G} {w w':World} (x:Ext N0 g w g' w') {c e:Nat} (h:Fixed N0 g c e):Fixed N0 g' c e:=by
 rcases h with h | ⟨m,h,l⟩
 ·exact .inl h
 ·obtain ⟨m',h',l'⟩:=x.hw c m h
  exact .inr ⟨m',h',Nat.le_trans l l'⟩
theorem Fixed.cell {g g':G} {w w':World} (x:Ext N0 g w g' w') {c e o:Nat} (h:Fixed N0 g c e) (ho:o < e):w'.cell? ⟨c,o,none⟩=w.cell? ⟨c,o,none⟩:=by
 rcases h with h | ⟨m,h,l⟩
 ·exact x.old c o h
 ·exact x.cell c m o h (Nat.lt_of_lt_of_le ho l)
theorem mul_lt_of {i j n sz:Nat} (hi:i < n) (hj:j < sz):i * sz+j < n * sz:=by
 have:(i+1) * sz≤n * sz:=Nat.mul_le_mul_right _ hi
 rw [Nat.succ_mul] at this
 omega
theorem RV.mono {g g':G} {w w':World} (x:Ext N0 g w g' w') {v:PV} {u:Value} (h:RV N0 g w v u):RV N0 g' w' v u:=by
 induction h with
 | undef u hu=>exact .undef u hu
 | bool b=>exact .bool b
 | int k n=>exact .int k n
 | str l s h=>exact .str l s h
 | nilp=>exact .nilp
 | bnil T=>exact .bnil T
 | ptr b off h=>rw [←x.ι b h];exact .ptr b off (Nat.lt_of_lt_of_le h x.n)
 | ep cs off c o u hc hr hf ih =>
  exact .ep cs off c o u (fun j hj=>(hf.cell x (by omega)).trans (hc j hj)) ih (hf.mono x)
 | nils=>exact .nils
 | sl ow sz es c o cap u hl hfull hsz hc hr hf sp hsp htk ih =>
  refine .sl ow sz es c o cap u hl hfull hsz (fun i j hi hj=>((hf ?_).cell x ?_).trans (hc i j hi hj)) ih (fun hne=>(hf hne).mono x) sp hsp fun t ht=>?_
  ·rintro rfl;simp at hi
  ·have:=mul_lt_of hi hj
   omega
  ·obtain ⟨t1,t2,t3⟩:=htk t ht
   obtain ⟨x1,x2⟩:=x.tk t t1
   refine ⟨Nat.lt_of_lt_of_le t1 x.n,Nat.le_trans t2 x1,fun he=>?_⟩
   have e1:(g.tk t).e=es.length:=by omega
   rw [x2 (by omega)]
   exact t3 e1
 | bsl f b off len sz cap h hl hfull hcp=>rw [←x.ι b h];exact .bsl f b off len sz cap (Nat.lt_of_lt_of_le h x.n) hl hfull (by rw [x.cp b h];exact hcp)
 | nilif=>exact .nilif
 | iface t v u _ ih=>exact .iface t v u ih
 | nilf=>exact .nilf
 | fn f cap us hs _ ih=>exact .fn f cap us hs ih
 | agg cs us hs _ ih=>exact .agg cs us hs ih
 | tup cs us hs _ ih=>exact .tup cs us hs ih
 | it b h=>rw [←x.ι b h];exact .it b (Nat.lt_of_lt_of_le h x.n)
 | nilm=>exact .nilm
 | mref b h=>rw [←x.ι b h];exact .mref b (Nat.lt_of_lt_of_le h x.n)
theorem belows_mem {n:Nat}:∀ {cs:List PV},belows n cs=true→∀ (j:Nat) (x:PV),cs[j]?=some x→below n x=true
 | [],_,j,x,h=>by simp at h
 | c :: cs,hb,0,x,h=>by simp [belows] at hb h;exact h ▸ hb.1
 | c :: cs,hb,j+1,x,h=>by
  simp only [belows,Bool.and_eq_true] at hb
  exact belows_mem hb.2 j x (by simpa using h)
theorem below_cells {n:Nat} {v:PV} (h:below n v=true) (j:Nat) (x:PV) (hx:v.cells[j]?=some x):below n x=true:=by
 cases v with
 | agg cs=>simp only [below] at h;exact belows_mem h j x hx
 | _ =>
  cases j with
  | zero=>simp only [PV.cells,List.getElem?_cons_zero,Option.some.injEq] at hx;exact hx ▸ h
  | succ j=>simp [PV.cells] at hx
theorem rv_fewer {g:G} {w:World} {m:Nat} {v:PV} {u:Value} (h:RV N0 g w v u) (hb:below m v=true):RV N0 { g with n:=m } w v u:=by
 induction h with
 | undef u hu=>exact .undef u hu
 | bool b=>exact .bool b
 | int k n=>exact .int k n
 | str l s h=>exact .str l s h
 | nilp=>exact .nilp
 | bnil T=>exact .bnil T
 | ptr b off h=>exact .ptr (g:={ g with n:=m }) b off (by simpa [below] using hb)
 | ep cs off c o u hc hr hf ih =>
  simp only [below] at hb
  exact .ep cs off c o u hc (fun j x hx=>ih j x hx (belows_mem hb j x hx)) hf
 | nils=>exact .nils
 | sl ow sz es c o cap u hl hfull hsz hc hr hf sp hsp htk ih =>
  simp only [below,Bool.and_eq_true] at hb
  refine .sl ow sz es c o cap u hl hfull hsz hc (fun i j e x he hx=>ih i j e x he hx (below_cells (belows_mem hb.2 i e he) j x hx)) hf sp hsp fun t ht=>?_
  have hb1:=hb.1
  rw [ht] at hb1
  exact ⟨by simpa [Own.below] using hb1,(htk t ht).2⟩
 | bsl f b off len sz cap h hl hfull hcp=>exact .bsl (g:={ g with n:=m }) f b off len sz cap (by simpa [below] using hb) hl hfull hcp
 | nilif=>exact .nilif
 | iface t v u _ ih=>simp only [below] at hb;exact .iface t v u (ih hb)
 | nilf=>exact .nilf
 | fn f cap us hs _ ih=>simp only [below] at hb;exact .fn f cap us hs fun j x hx=>ih j x hx (belows_mem hb j x hx)
 | agg cs us hs _ ih=>simp only [below] at hb;exact .agg cs us hs fun j x hx=>ih j x hx (belows_mem hb j x hx)
 | tup cs us hs _ ih=>simp only [below] at hb;exact .tup cs us hs fun j x hx=>ih j x hx (belows_mem hb j x hx)
 | it b h=>exact .it (g:={ g with n:=m }) b (by simpa [below] using hb)
 | nilm=>exact .nilm
 | mref b h=>exact .mref (g:={ g with n:=m }) b (by simpa [below] using hb)
theorem strips_get:∀ (cs:List PV) (j:Nat),(strips cs)[j]?=(cs[j]?).map strip
 | [],j=>by simp [strips]
 | c :: cs,0=>by simp [strips]
 | c :: cs,j+1=>by simpa [strips] using strips_get cs j
theorem strips_length (cs:List PV):(strips cs).length=cs.length:=by induction cs <;> simp_all [strips]
theorem strip_cells (v:PV):(strip v).cells.length=v.cells.length:=by
 cases v <;> first | rfl | exact strips_length _
theorem strips_of {cs:List PV} {R:PV→Nat→Prop} (hr:∀ (j:Nat) (x:PV),cs[j]?=some x→R (strip x) j):∀ (j:Nat) (x:PV),(strips cs)[j]?=some x→R x j:=by
 intro j x hx
 rw [strips_get,Option.map_eq_some_iff] at hx
 obtain ⟨y,hy,rfl⟩:=hx
 exact hr j y hy
theorem rv_strip {g:G} {w:World} {v:PV} {u:Value} (h:RV N0 g w v u):RV N0 g w (strip v) u:=by
 induction h with
 | sl ow sz es c o cap k hl hfull hsz hc hr hf sp hsp htk ih =>
  cases ow with
  | tok t=>exact .sl .no sz es c o cap k hl (by simp) hsz hc hr hf sp hsp (by simp)
  | no=>exact .sl .no sz es c o cap k hl hfull hsz hc hr hf sp hsp htk
  | full=>exact .sl .full sz es c o cap k hl hfull hsz hc hr hf sp hsp htk
 | undef u hu=>exact .undef u hu
 | bool b=>exact .bool b
 | int k n=>exact .int k n
 | str l s h=>exact .str l s h
 | nilp=>exact .nilp
 | bnil T=>exact .bnil T
 | ptr b off h=>exact .ptr b off h
 | ep cs off c o u hc hr hf=>exact .ep cs off c o u hc hr hf
 | nils=>exact .nils
 | bsl f b off len sz cap h hl hfull hcp=>exact .bsl f b off len sz cap h hl hfull hcp
 | nilif=>exact .nilif
 | iface t v u h ih=>exact .iface t _ u ih
 | nilf=>exact .nilf
 | fn f cap us hs hr ih=>exact .fn f _ us (by rw [hs,strips_length]) (strips_of (R:=fun x j=>RV N0 g w x (us.getD j undef)) ih)
 | agg cs us hs hr ih=>exact .agg _ us (by rw [hs,strips_length]) (strips_of (R:=fun x j=>RV N0 g w x (us.getD j undef)) ih)
 | tup cs us hs hr ih=>exact .tup _ us (by rw [hs,strips_length]) (strips_of (R:=fun x j=>RV N0 g w x (us.getD j undef)) ih)
 | it b h=>exact .it b h
 | nilm=>exact .nilm
 | mref b h=>exact .mref b h
theorem rv_cells {g:G} {w:World} {v:PV} {u:Value} (h:RV N0 g w v u) (hv:v≠.undef):u.cells.size=v.cells.length∧∀ (j:Nat) (x:PV),v.cells[j]?=some x→RV N0 g w x (u.cells.getD j undef):=by
 have one:∀ (v:PV) (u:Value),RV N0 g w v u→v.cells=[v]→u.cells=#[u]→u.cells.size=v.cells.length∧∀ (j:Nat) (x:PV),v.cells[j]?=some x→RV N0 g w x (u.cells.getD j undef):=by
  intro v u h hv hu
  rw [hv,hu]
  refine ⟨rfl,fun j x hx=>?_⟩
  cases j with
  | zero=>simp at hx;subst hx;simpa using h
  | succ j=>simp at hx
 cases h with
 | undef u hu=>exact (hv rfl).elim
 | agg cs us hs hr=>exact ⟨hs,hr⟩
 | bool b=>exact one _ _ (.bool b) rfl rfl
 | int k n=>exact one _ _ (.int k n) rfl rfl
 | str l s h=>exact one _ _ (.str l s h) rfl rfl
 | nilp=>exact one _ _ .nilp rfl rfl
 | bnil T=>exact one _ _ (.bnil T) rfl rfl
 | ptr b off h=>exact one _ _ (.ptr b off h) rfl rfl
 | ep cs off c o u hc hr hf=>exact one _ _ (.ep cs off c o u hc hr hf) rfl rfl
 | nils=>exact one _ _ .nils rfl rfl
 | sl ow sz es c o cap k hl hfull hsz hc hr hf sp hsp htk=>exact one _ _ (.sl ow sz es c o cap k hl hfull hsz hc hr hf sp hsp htk) rfl rfl
 | bsl f b off len sz cap h hl hfull hcp=>exact one _ _ (.bsl f b off len sz cap h hl hfull hcp) rfl rfl
 | nilif=>exact one _ _ .nilif rfl rfl
 | iface t v u h=>exact one _ _ (.iface t v u h) rfl rfl
 | nilf=>exact one _ _ .nilf rfl rfl
 | fn f cap us hs hr=>exact one _ _ (.fn f cap us hs hr) rfl rfl
 | tup cs us hs hr=>exact one _ _ (.tup cs us hs hr) rfl rfl
 | it b h=>exact one _ _ (.it b h) rfl rfl
 | nilm=>exact one _ _ .nilm rfl rfl
 | mref b h=>exact one _ _ (.mref b h) rfl rfl
/-! ### The whole state -/
def blk (g:G) (b:Nat):Box→Nat
 | .tok _ _=>(g.tk b).c
 | _=>g.ι b
def BoxOk (N0:Nat) (g:G) (w:World) (b:Nat):Box→Prop
 | .cells cs=>N0≤g.ι b∧g.hw (g.ι b)=none∧∃ arr T lo hi,w.heap[g.ι b]?=some (.cells arr T (lo,hi))∧(lo≠hi→arr.size≤lo)∧(cs.length≤arr.size∧g.cp b≤arr.size)∧(∀ T',cs[0]?=some (.bnil T')→T'=T∧arr.size=cs.length)∧∀ (k:Nat) (x:PV),cs[k]?=some x→RV N0 g w x (arr.getD k undef)
 | .tok n T=>(g.tk b).e=n∧n≤(g.tk b).cap∧N0≤(g.tk b).c∧g.hw (g.tk b).c=some ((g.tk b).o+n * (g.tk b).sz)∧(g.tk b).o=0 ∧
   ∃ arr lo hi,w.heap[(g.tk b).c]?=some (.cells arr T (lo,hi))∧(g.tk b).o+(g.tk b).cap * (g.tk b).sz≤arr.size∧hi≤(g.tk b).o+n * (g.tk b).sz
 | .iter s p=>N0≤g.ι b∧g.hw (g.ι b)=none∧∃ s',s'.data.toList=s∧w.heap[g.ι b]?=some (.stringIter s' p)
 | .dead=>N0≤g.ι b∧g.ι b < w.heap.size
 | .map es=>N0≤g.ι b∧g.hw (g.ι b)=none∧∃ ea clock,w.heap[g.ι b]?=some (.map ea clock)∧ea.size=es.length∧Go.MapKept.Stamped ea clock ∧
   ∀ (i:Nat) (x:PV × PV),es[i]?=some x→∃ y,ea[i]?=some y∧x.1≠.undef∧x.2≠.undef∧RV N0 g w x.1 y.key∧RV N0 g w x.2 y.val
structure Ok (w0:World) (g:G) (e:Env) (tm:Array Value) (h:Hp) (w:World):Prop where
 n:g.n=size h
 hN:w0.heap.size=N0
 below:Below N0 w0 w
 inj:∀ b c x y,box? h b=some x→box? h c=some y→x≠.dead→y≠.dead→blk g b x=blk g c y→b=c
 box:∀ b x,box? h b=some x→BoxOk N0 g w b x
 arr:∀ c m,g.hw c=some m→N0≤c∧c < w.heap.size
 env:∀ t v,look e t=some v→RV N0 g w v (tm.getD t undef)
theorem box_at {h:Hp} {b:Nat} (hb:b < size h):∃ x,box? h b=some x:=⟨h[b],List.getElem?_eq_getElem hb⟩
theorem BoxOk.blk {g:G} {w:World} {b:Nat} {x:Box} (k:BoxOk N0 g w b x):N0≤blk g b x∧Go.Am.blk g b x < w.heap.size:=by
 have lt:∀ {i:Nat} {o:Obj},w.heap[i]?=some o→i < w.heap.size:=fun h=>(Array.getElem?_eq_some_iff.1 h).1
 cases x with
 | cells cs=>obtain ⟨h1,h2,arr,T,lo,hi,h3,_⟩:=k;exact ⟨h1,lt h3⟩
 | tok n T=>obtain ⟨_,_,h1,h2,_,arr,lo,hi,h3,_⟩:=k;exact ⟨h1,lt h3⟩
 | iter s p=>obtain ⟨h1,h2,s',_,h3⟩:=k;exact ⟨h1,lt h3⟩
 | map es=>obtain ⟨h1,h2,ea,cl,h3,_⟩:=k;exact ⟨h1,lt h3⟩
 | dead=>exact k
theorem BoxOk.mono {g g':G} {w w':World} (x:Ext N0 g w g' w') {b:Nat} {bx:Box} (hb:b < g.n) (k:BoxOk N0 g w b bx) (hsz:w.heap.size≤w'.heap.size) (hw:bx≠.dead→w'.heap[Go.Am.blk g b bx]?=w.heap[Go.Am.blk g b bx]?)
  (hhw:bx≠.dead→g'.hw (Go.Am.blk g b bx)=g.hw (Go.Am.blk g b bx)) (htk:g'.tk b=g.tk b):BoxOk N0 g' w' b bx:=by
 have hι:=x.ι b hb
 have hcp:=x.cp b hb
 by_cases hd:bx=.dead
 ·subst hd
  exact ⟨by rw [hι];exact k.1,by rw [hι];exact Nat.lt_of_lt_of_le k.2 hsz⟩
 replace hw:=hw hd
 replace hhw:=hhw hd
 cases bx with
 | cells cs =>
  obtain ⟨h1,h2,arr,T,lo,hi,h3,h6,h4,h7,h5⟩:=k
  simp only [Go.Am.blk] at hw hhw
  exact ⟨by rw [hι];exact h1,by rw [hι,hhw];exact h2,arr,T,lo,hi,by rw [hι,hw];exact h3,h6,by rw [hcp];exact h4,h7,fun i y hy=>(h5 i y hy).mono x⟩
 | tok n T =>
  simp only [Go.Am.blk] at hw hhw
  simp only [BoxOk] at k ⊢
  rw [htk,hw,hhw]
  exact k
 | dead=>exact (hd rfl).elim
 | iter s p =>
  obtain ⟨h1,h2,s',h3,h4⟩:=k
  simp only [Go.Am.blk] at hw hhw
  exact ⟨by rw [hι];exact h1,by rw [hι,hhw];exact h2,s',h3,by rw [hι,hw];exact h4⟩
 | map es =>
  obtain ⟨h1,h2,ea,cl,h3,h4,hst,h5⟩:=k
  simp only [Go.Am.blk] at hw hhw
  exact ⟨by rw [hι];exact h1,by rw [hι,hhw];exact h2,ea,cl,by rw [hι,hw];exact h3,h4,hst,fun i y hy=>let ⟨z,z1,z2,z3,z4,z5⟩:=h5 i y hy;⟨z,z1,z2,z3,z4.mono x,z5.mono x⟩⟩
theorem Ok.cells {w0:World} {g:G} {e:Env} {tm:Array Value} {h:Hp} {w:World} (k:Ok (N0:=N0) w0 g e tm h w) {b:Nat} {cs:List PV} (hb:getBox h b=some cs) :
  N0≤g.ι b∧g.hw (g.ι b)=none∧∃ arr T lo hi,w.heap[g.ι b]?=some (.cells arr T (lo,hi))∧(lo≠hi→arr.size≤lo)∧(cs.length≤arr.size∧g.cp b≤arr.size)∧(∀ T',cs[0]?=some (.bnil T')→T'=T∧arr.size=cs.length)∧∀ (k:Nat) (x:PV),cs[k]?=some x→RV N0 g w x (arr.getD k undef) :=
 k.box b _ (box_of_get hb)
theorem ok_size {w0:World} {g:G} {e:Env} {tm:Array Value} {h:Hp} {w:World} (k:Ok (N0:=N0) w0 g e tm h w):N0≤w.heap.size:=by
 rw [←k.hN];exact k.below.size
theorem Ok.put {w0:World} {g:G} {e:Env} {tm:Array Value} {h:Hp} {w:World} (k:Ok (N0:=N0) w0 g e tm h w) {d:Nat} (hd:d < tm.size) {v:PV} {u:Value}
  (hv:RV N0 g w v u):Ok (N0:=N0) w0 g ((d,v) :: e) (tm.setIfInBounds d u) h w where
 n:=k.n
 hN:=k.hN
 below:=k.below
 inj:=k.inj
 box:=k.box
 arr:=k.arr
 env:=fun t x hx=>by
  simp only [look] at hx
  split at hx
  ·rename_i ht
   simp only [Option.some.injEq] at hx
   subst ht;subst hx
   simpa [Array.getD_eq_getD_getElem?,hd] using hv
  ·rename_i ht
   have:=k.env t x hx
   simpa [Array.getD_eq_getD_getElem?,Array.getElem?_setIfInBounds,ht] using this
theorem Ok.sub {w0:World} {g:G} {e e':Env} {tm:Array Value} {h:Hp} {w:World} (k:Ok (N0:=N0) w0 g e tm h w) (hs:∀ t v,look e' t=some v→look e t=some v) :
  Ok (N0:=N0) w0 g e' tm h w:=⟨k.n,k.hN,k.below,k.inj,k.box,k.arr,fun t v hv=>k.env t v (hs t v hv)⟩
theorem look_prune:∀ (ts:List Nat) (e:Env) (t:Nat) (v:PV),look (prune ts e) t=some v→look e t=some v
 | [],e,t,v,h=>by simp [prune,look] at h
 | s :: ts,e,t,v,h=>by
  simp only [prune] at h
  split at h
  ·rename_i x hx
   simp only [look] at h
   split at h
   ·rename_i hst
    subst hst
    rw [hx];exact h
   ·exact look_prune ts e t v h
  ·exact look_prune ts e t v h
theorem Ok.world {w0:World} {g g':G} {e:Env} {tm:Array Value} {h:Hp} {w w':World} (k:Ok (N0:=N0) w0 g e tm h w) (x:Ext N0 g w g' w') (hn:g'.n=g.n)
  (hb:Below N0 w w') (hbox:∀ b bx,box? h b=some bx→bx≠.dead→w'.heap[blk g b bx]?=w.heap[blk g b bx]?∧g'.hw (blk g b bx)=g.hw (blk g b bx)) (htk:∀ b,b < g.n→g'.tk b=g.tk b)
  (harr:∀ c m,g'.hw c=some m→N0≤c∧c < w'.heap.size):Ok (N0:=N0) w0 g' e tm h w' where
 n:=hn.trans k.n
 hN:=k.hN
 below:=k.below.trans hb
 inj:=fun b c y z hy hz hdy hdz he=>by
  have hb:b < g.n:=by rw [k.n];exact lt_of_box hy
  have hc:c < g.n:=by rw [k.n];exact lt_of_box hz
  have e1:∀ (b:Nat) (y:Box),b < g.n→blk g' b y=blk g b y:=by
   intro b y hb
   cases y <;> simp only [blk,x.ι b hb,htk b hb]
  rw [e1 b y hb,e1 c z hc] at he
  exact k.inj b c y z hy hz hdy hdz he
 box:=fun b bx hbx=>by
  have hbS:=hb.size
  have hb':b < g.n:=by rw [k.n];exact lt_of_box hbx
  exact (k.box b bx hbx).mono x hb' hbS (fun hd=>(hbox b bx hbx hd).1) (fun hd=>(hbox b bx hbx hd).2) (htk b hb')
 arr:=harr
 env:=fun t v hv=>(k.env t v hv).mono x
end
end Go.Am
namespace Go.Am
open Go.RowKit (Below)
set_option linter.unusedVariables false
set_option linter.unusedSimpArgs false
section
variable {N0:Nat} {P:Program} {w0:World} {g:G} {e:Env} {a:Act} {h:Hp} {w:World}
/-! ### Operands -/
mutual
theorem rv_const:∀ (v:Value) (x:PV),ofValue v=some x→RV N0 g w x v
 | .bool b,x,hx=>by simp [ofValue] at hx;subst hx;exact .bool b
 | .int k n,x,hx=>by simp [ofValue] at hx;subst hx;exact .int k n
 | .string s,x,hx=>by simp [ofValue] at hx;subst hx;exact .str _ s (by simp)
 | .pointer none,x,hx=>by simp [ofValue] at hx;subst hx;exact .nilp
 | .slice none 0 0,x,hx=>by simp [ofValue] at hx;subst hx;exact .nils
 | .nilIface,x,hx=>by simp [ofValue] at hx;subst hx;exact .nilif
 | .nilFunc,x,hx=>by simp [ofValue] at hx;subst hx;exact .nilf
 | .agg cs,x,hx=>by
  simp only [ofValue,Option.map_eq_some_iff] at hx
  obtain ⟨l,hl,rfl⟩:=hx
  obtain ⟨h1,h2⟩:=rv_cells_const cs.toList l hl
  refine .agg l cs (by simpa using h1) fun j y hy=>?_
  have:=h2 j y hy
  simpa [Array.getD_eq_getD_getElem?,List.getD_eq_getElem?_getD] using this
 | .pointer (some _),x,hx=>by simp [ofValue] at hx
 | .slice (some _) _ _,x,hx=>by simp [ofValue] at hx
 | .slice none 0 (_+1),x,hx=>by simp [ofValue] at hx
 | .slice none (_+1) _,x,hx=>by simp [ofValue] at hx
 | .float _ _,x,hx=>by simp [ofValue] at hx
 | .complex _ _ _,x,hx=>by simp [ofValue] at hx
 | .map none,x,hx=>by simp [ofValue] at hx;subst hx;exact .nilm
 | .map (some _),x,hx=>by simp [ofValue] at hx
 | .chan _,x,hx=>by simp [ofValue] at hx
 | .func _ _ _,x,hx=>by simp [ofValue] at hx
 | .iface _ _,x,hx=>by simp [ofValue] at hx
 | .tuple _,x,hx=>by simp [ofValue] at hx
theorem rv_cells_const:∀ (vs:List Value) (l:List PV),ofCells vs=some l→vs.length=l.length∧∀ (j:Nat) (y:PV),l[j]?=some y→RV N0 g w y (vs.getD j Go.undef)
 | [],l,hl=>by simp [ofCells] at hl;subst hl;exact ⟨rfl,fun j y hy=>by simp at hy⟩
 | v :: vs,l,hl=>by
  have key:∀ (x:PV),RV N0 g w x v→(∃ l',ofCells vs=some l'∧l=x :: l')→(v :: vs).length=l.length∧∀ (j:Nat) (y:PV),l[j]?=some y→RV N0 g w y ((v :: vs).getD j Go.undef):=by
   rintro x hx ⟨l',h1,rfl⟩
   obtain ⟨h2,h3⟩:=rv_cells_const vs l' h1
   refine ⟨by simp [h2],fun j y hy=>?_⟩
   cases j with
   | zero=>simp at hy;subst hy;simpa using hx
   | succ j=>simpa using h3 j y (by simpa using hy)
  unfold ofCells at hl
  split at hl
  ·cases ‹_ :: _=_›
  ·rename_i b r heq;cases heq;simp only [Option.map_eq_some_iff] at hl;obtain ⟨l',h1,rfl⟩:=hl;exact key _ (.bool b) ⟨l',h1,rfl⟩
  ·rename_i k n r heq;cases heq;simp only [Option.map_eq_some_iff] at hl;obtain ⟨l',h1,rfl⟩:=hl;exact key _ (.int k n) ⟨l',h1,rfl⟩
  ·rename_i s r heq;cases heq;simp only [Option.map_eq_some_iff] at hl;obtain ⟨l',h1,rfl⟩:=hl;exact key _ (.str _ s rfl) ⟨l',h1,rfl⟩
  ·rename_i r heq;cases heq;simp only [Option.map_eq_some_iff] at hl;obtain ⟨l',h1,rfl⟩:=hl;exact key _ .nilp ⟨l',h1,rfl⟩
  ·rename_i r heq;cases heq;simp only [Option.map_eq_some_iff] at hl;obtain ⟨l',h1,rfl⟩:=hl;exact key _ .nils ⟨l',h1,rfl⟩
  ·rename_i r heq;cases heq;simp only [Option.map_eq_some_iff] at hl;obtain ⟨l',h1,rfl⟩:=hl;exact key _ .nilif ⟨l',h1,rfl⟩
  ·rename_i r heq;cases heq;simp only [Option.map_eq_some_iff] at hl;obtain ⟨l',h1,rfl⟩:=hl;exact key _ .nilf ⟨l',h1,rfl⟩
  ·rename_i r heq;cases heq;simp only [Option.map_eq_some_iff] at hl;obtain ⟨l',h1,rfl⟩:=hl;exact key _ .nilm ⟨l',h1,rfl⟩
  ·cases hl
end
theorem ofCells_nb:∀ (vs:List Value) (l:List PV),ofCells vs=some l→∀ (j:Nat) (T:Nat),l[j]?≠some (.bnil T)
 | [],l,hl,j,T=>by simp [ofCells] at hl;subst hl;simp
 | v :: vs,l,hl,j,T=>by
  have key:∀ (x:PV),(∀ T,x≠.bnil T)→(∃ l',ofCells vs=some l'∧l=x :: l')→l[j]?≠some (.bnil T):=by
   rintro x hx ⟨l',h1,rfl⟩
   cases j with
   | zero=>simpa using hx T
   | succ j=>simpa using ofCells_nb vs l' h1 j T
  unfold ofCells at hl
  split at hl
  ·cases ‹_ :: _=_›
  all_goals first
   |(rename_i heq;cases heq;simp only [Option.map_eq_some_iff] at hl;obtain ⟨l',h1,rfl⟩:=hl;exact key _ (by simp) ⟨l',h1,rfl⟩)
   | cases hl
theorem ofValue_nb {v:Value} {x:PV} (h:ofValue v=some x) (j T:Nat):x.cells[j]?≠some (.bnil T):=by
 have one:∀ y:PV,(∀ T,y≠.bnil T)→([y] : List PV)[j]?≠some (.bnil T):=by
  intro y hy
  cases j with
  | zero=>simpa using hy T
  | succ j=>simp
 unfold ofValue at h
 split at h
 all_goals first
  |(simp only [Option.some.injEq] at h;subst h;exact one _ (by simp))
  |(simp only [Option.map_eq_some_iff] at h;obtain ⟨l,hl,rfl⟩:=h;exact ofCells_nb _ l hl j T)
  | cases h
theorem nb_scalar {xs:List PV} (h:xs.all scalar=true) (j T:Nat):xs[j]?≠some (.bnil T):=by
 intro hq
 have:=List.all_eq_true.1 h _ (List.mem_of_getElem? hq)
 simp [scalar] at this
def GlobOk (gl:Globs) (N0:Nat) (w0:World):Prop:=∀ n cs,glob gl n=some cs→n < N0∧∃ u:Nat→Value,(∀ j,j < cs.length→w0.cell? ⟨n,j,none⟩=some (u j)) ∧
 ∀ (j:Nat) (x:PV),cs[j]?=some x→∀ g w,RV N0 g w x (u j)
theorem below_cell {w w':World} (hb:Below N0 w w') {c:Nat} (hc:c < N0) (o:Nat):w'.cell? ⟨c,o,none⟩=w.cell? ⟨c,o,none⟩:=by
 simp only [World.cell?,hb.block c hc]
theorem rv_ev {gl:Globs} (hgl:GlobOk gl N0 w0) (k:Ok (N0:=N0) w0 g e a.tmps h w) {o:Operand} {x:Opnd} {v:PV} (ho:cOpnd gl o=some x) (hv:ev e x=some v):RV N0 g w v (a.eval o):=by
 cases o with
 | tmp t=>simp [cOpnd] at ho;subst ho;exact k.env t v hv
 | const c =>
  simp only [cOpnd,Option.map_eq_some_iff] at ho
  obtain ⟨y,hy,rfl⟩:=ho
  simp [ev] at hv;subst hv
  exact rv_const c y hy
 | func f =>
  simp [cOpnd] at ho;subst ho
  simp [ev] at hv;subst hv
  exact .fn f [] #[] rfl (fun j x hx=>by simp at hx)
 | global n =>
  simp only [cOpnd,Option.map_eq_some_iff] at ho
  obtain ⟨cs,hcs,rfl⟩:=ho
  simp [ev] at hv;subst hv
  obtain ⟨h1,u,h2,h3⟩:=hgl n cs hcs
  exact .ep cs 0 n 0 u (fun j hj=>by rw [below_cell k.below h1,Nat.zero_add];exact h2 j hj) (fun j x hx=>h3 j x hx g w) (.inl h1)
/-! ### What an operation leaves -/
def Gives (N0:Nat) (P:Program) (w0:World) (g:G) (a:Act) (w:World) (s:Sem Next) (v:PV) (e':Env) (h':Hp):Prop :=
 ∃ nx u w' g',s.run P w=.ok nx w'∧(nx=.value u∨(nx=.skip∧u=Go.undef))∧Ext N0 g w g' w'∧Ok (N0:=N0) w0 g' e' a.tmps h' w'∧RV N0 g' w' v u
theorem gives_pure (k:Ok (N0:=N0) w0 g e a.tmps h w) {v:PV} {u:Value} {s:Sem Next} (hs:s.run P w=.ok (.value u) w) (hr:RV N0 g w v u) :
  Gives N0 P w0 g a w s v e h:=⟨_,u,w,g,hs,.inl rfl,Ext.refl _ _ _,k,hr⟩
theorem blk_lt (k:Ok (N0:=N0) w0 g e a.tmps h w) {b:Nat} {x:Box} (hb:box? h b=some x):N0≤blk g b x∧blk g b x < w.heap.size:=(k.box b x hb).blk
theorem hw_new (k:Ok (N0:=N0) w0 g e a.tmps h w) {c:Nat} (hc:w.heap.size≤c):g.hw c=none:=by
 cases hq:g.hw c with
 | none=>rfl
 | some m=>have:=(k.arr _ _ hq).2;omega
def MadeBy (w w1:World) (ob:Obj):Prop:=w1=w.alloc ob∨w1=w.drew.alloc ob
theorem MadeBy.size {w w1:World} {ob:Obj} (m:MadeBy w w1 ob):w1.heap.size=w.heap.size+1:=by rcases m with rfl | rfl <;> simp
theorem MadeBy.at {w w1:World} {ob:Obj} (m:MadeBy w w1 ob):w1.heap[w.heap.size]?=some ob:=by
 rcases m with rfl | rfl
 ·show (w.heap.push _)[w.heap.size]?=_;simp
 ·show (w.heap.push _)[w.heap.size]?=_;simp
theorem MadeBy.lt {w w1:World} {ob:Obj} (m:MadeBy w w1 ob) {c:Nat} (hc:c < w.heap.size):w1.heap[c]?=w.heap[c]?:=by
 rcases m with rfl | rfl
 ·exact Below.heap_alloc _ _ _ hc
 ·exact Below.heap_alloc w.drew _ _ hc
theorem MadeBy.cell {w w1:World} {ob:Obj} (m:MadeBy w w1 ob) {c:Nat} (hc:c < w.heap.size) (o:Nat):w1.cell? ⟨c,o,none⟩=w.cell? ⟨c,o,none⟩:=by
 simp only [World.cell?,m.lt hc]
theorem MadeBy.below {w w1:World} {ob:Obj} (m:MadeBy w w1 ob) (hN:N0≤w.heap.size):Below N0 w w1:=by
 rcases m with rfl | rfl
 ·exact (Below.refl _ _).alloc hN _
 ·exact ((Below.refl _ _).drew).alloc hN _
theorem ok_addbox (k:Ok (N0:=N0) w0 g e a.tmps h w) {c:Nat} (hne:∀ b x,box? h b=some x→x≠.dead→blk g b x≠c) {cs:List PV} {cpv:Nat}
  (hbx:∀ g':G,Ext N0 g w g' w→g'.ι (size h)=c→g'.hw=g.hw→g'.cp (size h)=cpv→BoxOk N0 g' w (size h) (.cells cs)) :
  ∃ g',Ext N0 g w g' w∧Ok (N0:=N0) w0 g' e a.tmps (ext h [.cells cs]) w∧g'.n=size h+1∧g'.ι (size h)=c∧g'.cp (size h)=cpv∧g'.hw=g.hw∧g'.tk=g.tk:=by
 let g':G:={ ι:=fun b=>if b=size h then c else g.ι b,n:=size h+1,hw:=g.hw,tk:=g.tk,cp:=fun b=>if b=size h then cpv else g.cp b }
 have hι0:g'.ι (size h)=c:=by show (if size h=size h then _ else _)=_;rw [if_pos rfl]
 have hcp0:g'.cp (size h)=cpv:=by show (if size h=size h then _ else _)=_;rw [if_pos rfl]
 have hιo:∀ b,b≠size h→g'.ι b=g.ι b:=fun b hb=>by show (if b=size h then _ else _)=_;rw [if_neg hb]
 have hcpo:∀ b,b≠size h→g'.cp b=g.cp b:=fun b hb=>by show (if b=size h then _ else _)=_;rw [if_neg hb]
 have hx:Ext N0 g w g' w:=⟨by show g.n≤size h+1;rw [k.n];omega,fun b hb=>hιo b (by rw [k.n] at hb;omega),fun c m hm=>⟨m,hm,Nat.le_refl _⟩,fun _ _ _ _ _=>rfl,fun _ _ _=>rfl,fun _ _=>⟨Nat.le_refl _,fun _=>rfl⟩,fun b hb=>hcpo b (by rw [k.n] at hb;omega)⟩
 have hblk:∀ b y,b≠size h→blk g' b y=blk g b y:=by
  intro b y hb
  cases y <;> first | rfl | simp only [blk,hιo b hb]
 have hold:∀ b y,box? (ext h [.cells cs]) b=some y→b≠size h→box? h b=some y:=by
  intro b y hy hb
  have hlt:=lt_of_box hy
  rw [size_ext] at hlt
  rw [box_ext_lt (by simp at hlt;omega)] at hy
  exact hy
 have hbx':=hbx g' hx hι0 rfl hcp0
 refine ⟨g',hx,?_,rfl,hι0,hcp0,rfl,rfl⟩
 refine { n:=by show size h+1=size (ext h [.cells cs]);rw [size_ext];rfl,hN:=k.hN,below:=k.below,inj:=?_,box:=?_,arr:=k.arr,env:=fun t v hv=>(k.env t v hv).mono hx }
 ·intro b d y z hy hz hdy hdz he
  by_cases h1:b=size h
  ·subst h1
   by_cases h2:d=size h
   ·exact h2.symm
   ·rw [box_ext_at rfl] at hy
    cases hy
    have he':c=blk g d z:=by rw [←hblk d z h2,←he];exact hι0.symm
    exact (hne d z (hold d z hz h2) hdz he'.symm).elim
  ·by_cases h2:d=size h
   ·subst h2
    rw [box_ext_at rfl] at hz
    cases hz
    have he':blk g b y=c:=by rw [←hblk b y h1,he];exact hι0
    exact (hne b y (hold b y hy h1) hdy he').elim
   ·rw [hblk b y h1,hblk d z h2] at he
    exact k.inj b d y z (hold b y hy h1) (hold d z hz h2) hdy hdz he
 ·intro b y hy
  by_cases h1:b=size h
  ·subst h1
   rw [box_ext_at rfl] at hy
   cases hy
   exact hbx'
  ·have hy':=hold b y hy h1
   exact (k.box b y hy').mono hx (by rw [k.n];exact lt_of_box hy') (Nat.le_refl _) (fun _=>rfl) (fun _=>rfl) rfl
theorem ok_newbox (k:Ok (N0:=N0) w0 g e a.tmps h w) {w1:World} {ob:Obj} (hw1:MadeBy w w1 ob) (bx:Box) (hwm:Option Nat) (tkv:Tk) {cpv:Nat}
  (htk:∀ n T,bx=.tok n T→tkv.c=w.heap.size∧hwm.isSome=true)
  (hbx:∀ g':G,Ext N0 g w g' w1→g'.ι (size h)=w.heap.size→g'.hw w.heap.size=hwm→g'.tk (size h)=tkv→g'.cp (size h)=cpv→BoxOk N0 g' w1 (size h) bx) :
  ∃ g',Ext N0 g w g' w1∧Ok (N0:=N0) w0 g' e a.tmps (ext h [bx]) w1∧g'.n=size h+1∧g'.ι (size h)=w.heap.size∧g'.hw w.heap.size=hwm∧g'.tk (size h)=tkv∧g'.cp (size h)=cpv:=by
 have hN:=(ok_size k)
 let g':G:={ ι:=fun b=>if b=size h then w.heap.size else g.ι b,n:=size h+1,hw:=fun c=>if c=w.heap.size then hwm else g.hw c,tk:=fun b=>if b=size h then tkv else g.tk b,cp:=fun b=>if b=size h then cpv else g.cp b }
 have hι0:g'.ι (size h)=w.heap.size:=by show (if size h=size h then _ else _)=_;rw [if_pos rfl]
 have hhw0:g'.hw w.heap.size=hwm:=by show (if _=_ then _ else _)=_;rw [if_pos rfl]
 have htk0:g'.tk (size h)=tkv:=by show (if size h=size h then _ else _)=_;rw [if_pos rfl]
 have hcp0:g'.cp (size h)=cpv:=by show (if size h=size h then _ else _)=_;rw [if_pos rfl]
 have hcpo:∀ b,b≠size h→g'.cp b=g.cp b:=fun b hb=>by show (if b=size h then _ else _)=_;rw [if_neg hb]
 have hιo:∀ b,b≠size h→g'.ι b=g.ι b:=fun b hb=>by show (if b=size h then _ else _)=_;rw [if_neg hb]
 have htko:∀ b,b≠size h→g'.tk b=g.tk b:=fun b hb=>by show (if b=size h then _ else _)=_;rw [if_neg hb]
 have hhwo:∀ c,c≠w.heap.size→g'.hw c=g.hw c:=fun c hc=>by show (if c=w.heap.size then _ else _)=_;rw [if_neg hc]
 have hx:Ext N0 g w g' w1:=by
  refine ⟨by show g.n≤size h+1;rw [k.n];omega,fun b hb=>hιo b (by rw [k.n] at hb;omega),fun c m hm=>⟨m,?_,Nat.le_refl _⟩,fun c m o hm ho=>hw1.cell (k.arr c m hm).2 o,fun c o hc=>hw1.cell (by omega) o,fun t ht=>?_,fun b hb=>hcpo b (by rw [k.n] at hb;omega)⟩
  ·rw [hhwo c (by have:=(k.arr c m hm).2;omega)];exact hm
  ·rw [htko t (by rw [k.n] at ht;omega)];exact ⟨Nat.le_refl _,fun _=>rfl⟩
 have hblk:∀ b y,b≠size h→blk g' b y=blk g b y:=by
  intro b y hb
  cases y <;> simp only [blk,hιo b hb,htko b hb]
 have hnew:blk g' (size h) bx=w.heap.size:=by
  cases bx with
  | tok n T=>simp only [blk,htk0];exact (htk n T rfl).1
  | cells cs=>exact hι0
  | iter s p=>exact hι0
  | map es=>exact hι0
  | dead=>exact hι0
 refine ⟨g',hx,?_,rfl,hι0,hhw0,htk0,hcp0⟩
 have hbx':=hbx g' hx hι0 hhw0 htk0 hcp0
 have hold:∀ b y,box? (ext h [bx]) b=some y→b≠size h→box? h b=some y:=by
  intro b y hy hb
  have hlt:=lt_of_box hy
  rw [size_ext] at hlt
  rw [box_ext_lt (by simp at hlt;omega)] at hy
  exact hy
 refine { n:=by show size h+1=size (ext h [bx]);rw [size_ext];rfl,hN:=k.hN,below:=k.below.trans (hw1.below hN),inj:=?_,box:=?_,arr:=?_,env:=?_ }
 ·intro b c y z hy hz hdy hdz he
  by_cases h1:b=size h
  ·subst h1
   rw [box_ext_at rfl] at hy
   cases hy
   by_cases h2:c=size h
   ·rw [h2]
   ·have hz':=hold c z hz h2
    rw [hnew,hblk c z h2] at he
    have:=(blk_lt k hz').2
    omega
  ·have hy':=hold b y hy h1
   by_cases h2:c=size h
   ·subst h2
    rw [box_ext_at rfl] at hz
    cases hz
    rw [hnew,hblk b y h1] at he
    have:=(blk_lt k hy').2
    omega
   ·have hz':=hold c z hz h2
    rw [hblk b y h1,hblk c z h2] at he
    exact k.inj b c y z hy' hz' hdy hdz he
 ·intro b y hy
  by_cases h1:b=size h
  ·subst h1
   rw [box_ext_at rfl] at hy
   cases hy
   exact hbx'
  ·have hy':=hold b y hy h1
   have hlt:=(blk_lt k hy').2
   exact (k.box b y hy').mono hx (by rw [k.n];exact lt_of_box hy') (by rw [hw1.size];omega) (fun _=>hw1.lt hlt) (fun _=>hhwo _ (by omega)) (htko b h1)
 ·intro c m hm
  by_cases hc:c=w.heap.size
  ·subst hc;exact ⟨hN,by rw [hw1.size];omega⟩
  ·rw [hhwo c hc] at hm
   have:=k.arr c m hm
   exact ⟨this.1,by rw [hw1.size];omega⟩
 ·intro t v hv
  exact (k.env t v hv).mono hx
theorem ok_alloc (k:Ok (N0:=N0) w0 g e a.tmps h w) (us:Array Value) (T:TypeId) (cs:List PV) (hl:cs.length≤us.size)
  (hr:∀ (j:Nat) (x:PV),cs[j]?=some x→RV N0 g w x (us.getD j Go.undef)) (hbn:∀ T',cs[0]?=some (.bnil T')→T'=T∧us.size=cs.length) {w1:World} {lo hi:Nat} (hfr:lo≠hi→us.size≤lo) (hw1:MadeBy w w1 (.cells us T (lo,hi))) :
  ∃ g',Ext N0 g w g' w1∧Ok (N0:=N0) w0 g' e a.tmps (ext h [.cells cs]) w1∧g'.n=size h+1∧g'.ι (size h)=w.heap.size∧g'.cp (size h)=us.size:=by
 obtain ⟨g',h1,h2,h3,h4,_,_,h5⟩:=ok_newbox k hw1 (.cells cs) none default (cpv:=us.size) (fun n T hn=>by cases hn) (fun g' hx hι hhw htk hcp=>by
  refine ⟨by rw [hι];exact ok_size k,by rw [hι];exact hhw,us,T,lo,hi,by rw [hι];exact hw1.at,hfr,⟨hl,by rw [hcp];exact Nat.le_refl _⟩,hbn,fun j x hx'=>(hr j x hx').mono hx⟩)
 exact ⟨g',h1,h2,h3,h4,h5⟩
theorem ok_fixed (k:Ok (N0:=N0) w0 g e a.tmps h w) (us:Array Value) (T:TypeId) (m:Nat) (w1:World) {lo hi:Nat} (hw1:w1=w.alloc (.cells us T (lo,hi))∨w1=w.drew.alloc (.cells us T (lo,hi))) :
  ∃ g',Ext N0 g w g' w1∧Ok (N0:=N0) w0 g' e a.tmps h w1∧g'.hw w.heap.size=some m:=by
 have hN:=(ok_size k)
 have hm:MadeBy w w1 (.cells us T (lo,hi)):=hw1
 let g':G:={ ι:=g.ι,n:=g.n,hw:=fun c=>if c=w.heap.size then some m else g.hw c,tk:=g.tk,cp:=g.cp }
 have hhwo:∀ c,c≠w.heap.size→g'.hw c=g.hw c:=fun c hc=>by show (if c=w.heap.size then _ else _)=_;rw [if_neg hc]
 have hx:Ext N0 g w g' w1:=by
  refine ⟨Nat.le_refl _,fun b hb=>rfl,fun c m' hm'=>⟨m',?_,Nat.le_refl _⟩,fun c m' o hm' ho=>hm.cell (k.arr c m' hm').2 o,fun c o hc=>hm.cell (by omega) o,fun t ht=>⟨Nat.le_refl _,fun _=>rfl⟩,fun _ _=>rfl⟩
  rw [hhwo c (by have:=(k.arr c m' hm').2;omega)];exact hm'
 refine ⟨g',hx,k.world hx rfl (hm.below hN) (fun b bx hb _=>?_) (fun b hb=>rfl) ?_,by show (if _=_ then _ else _)=_;rw [if_pos rfl]⟩
 ·have:=(blk_lt k hb).2
  exact ⟨hm.lt this,hhwo _ (by omega)⟩
 ·intro c m' hm'
  by_cases hc:c=w.heap.size
  ·subst hc;exact ⟨hN,by rw [hm.size];omega⟩
  ·rw [hhwo c hc] at hm'
   have:=k.arr c m' hm';exact ⟨this.1,by rw [hm.size];omega⟩
theorem ok_setbox (k:Ok (N0:=N0) w0 g e a.tmps h w) {b:Nat} {x y:Box} (hb:box? h b=some x) {g':G} {w':World} (hx:Ext N0 g w g' w') (hn:g'.n=g.n) (hbl:Below N0 w w')
  (hblk:blk g' b y=blk g b x∨w.heap.size≤blk g' b y) (hother:∀ c,c < w.heap.size→c≠blk g b x→w'.heap[c]?=w.heap[c]?∧g'.hw c=g.hw c) (htk:∀ t,t≠b→g'.tk t=g.tk t) (hy:BoxOk N0 g' w' b y)
  (harr:∀ c m,g'.hw c=some m→N0≤c∧c < w'.heap.size) (hxd:x≠.dead:=by simp):Ok (N0:=N0) w0 g' e a.tmps (setBx h b y) w':=by
 have hlt:b < size h:=lt_of_box hb
 have hbo:∀ c z,c≠b→c < g.n→blk g' c z=blk g c z:=by
  intro c z hc hcn
  cases z <;> simp only [blk,hx.ι c hcn,htk c hc]
 have hget:∀ c z,box? (setBx h b y) c=some z→c≠b→box? h c=some z:=by
  intro c z hz hc
  rwa [box_set_ne (fun hq=>hc hq.symm)] at hz
 have hne:∀ c z,box? h c=some z→c≠b→z≠.dead→blk g' c z≠blk g' b y:=by
  intro c z hz hc hzd hq
  have hcn:c < g.n:=by rw [k.n];exact lt_of_box hz
  rw [hbo c z hc hcn] at hq
  rcases hblk with hblk | hblk
  ·rw [hblk] at hq;exact hc (k.inj c b z x hz hb hzd hxd hq)
  ·have:=(blk_lt k hz).2;omega
 refine { n:=by rw [size_setBx,hn];exact k.n,hN:=k.hN,below:=k.below.trans hbl,inj:=?_,box:=?_,arr:=harr,env:=fun t v hv=>(k.env t v hv).mono hx }
 ·intro c d z1 z2 hz1 hz2 hd1 hd2 he
  by_cases h1:c=b
  ·by_cases h2:d=b
   ·rw [h1,h2]
   ·subst h1
    rw [box_set_eq hlt] at hz1
    cases hz1
    exact (hne d z2 (hget d z2 hz2 h2) h2 hd2 he.symm).elim
  ·by_cases h2:d=b
   ·subst h2
    rw [box_set_eq hlt] at hz2
    cases hz2
    exact (hne c z1 (hget c z1 hz1 h1) h1 hd1 he).elim
   ·have q1:=hget c z1 hz1 h1
    have q2:=hget d z2 hz2 h2
    rw [hbo c z1 h1 (by rw [k.n];exact lt_of_box q1),hbo d z2 h2 (by rw [k.n];exact lt_of_box q2)] at he
    exact k.inj c d z1 z2 q1 q2 hd1 hd2 he
 ·intro c z hz
  by_cases h1:c=b
  ·subst h1
   rw [box_set_eq hlt] at hz
   cases hz
   exact hy
  ·have q:=hget c z hz h1
   have hcn:c < g.n:=by rw [k.n];exact lt_of_box q
   have hc2:z≠.dead→blk g c z≠blk g b x:=fun hzd hq=>h1 (k.inj c b z x q hb hzd hxd hq)
   exact (k.box c z q).mono hx hcn hbl.size (fun hzd=>(hother _ (blk_lt k q).2 (hc2 hzd)).1) (fun hzd=>(hother _ (blk_lt k q).2 (hc2 hzd)).2) (htk c h1)
theorem ok_write (k:Ok (N0:=N0) w0 g e a.tmps h w) {b:Nat} {cs:List PV} (hb:getBox h b=some cs) {off:Nat} (ho:off < cs.length) {v:PV} {u:Value} (hv:RV N0 g w v u) (hnb:∀ T,v≠.bnil T) :
  ∃ x,w.cell? ⟨g.ι b,off,none⟩=some x∧w.frozen? ⟨g.ι b,off,none⟩=false ∧
   Ext N0 g w g (w.setCell ⟨g.ι b,off,none⟩ u)∧Ok (N0:=N0) w0 g e a.tmps (setBox h b (cs.set off v)) (w.setCell ⟨g.ι b,off,none⟩ u):=by
 obtain ⟨q1,q2,arr,T,lo,hi,q3,q6,⟨q4,q9⟩,q8,q5⟩:=k.cells hb
 have hoff:off < arr.size:=by omega
 have hheap:∀ c,c≠g.ι b→(w.setCell ⟨g.ι b,off,none⟩ u).heap[c]?=w.heap[c]?:=fun c hc=>Below.heap_setCell _ _ _ _ hc
 have hother:∀ c o,c≠g.ι b→(w.setCell ⟨g.ι b,off,none⟩ u).cell? ⟨c,o,none⟩=w.cell? ⟨c,o,none⟩:=fun c o hc=>by simp only [World.cell?,hheap c hc]
 have hx:Ext N0 g w g (w.setCell ⟨g.ι b,off,none⟩ u):=by
  refine ⟨Nat.le_refl _,fun _ _=>rfl,fun c m hm=>⟨m,hm,Nat.le_refl _⟩,fun c m o hm _=>hother c o ?_,fun c o hc=>hother c o (by omega),fun t ht=>⟨Nat.le_refl _,fun _=>rfl⟩,fun _ _=>rfl⟩
  intro hc;rw [hc,q2] at hm;cases hm
 have hset:(w.setCell ⟨g.ι b,off,none⟩ u).heap[g.ι b]?=some (.cells (arr.setIfInBounds off u) T (lo,hi)):=by
  simp only [World.setCell,Array.getElem?_modify,if_true,q3,Option.map_some,Option.isSome_none,Bool.false_eq_true,if_false]
 refine ⟨arr[off],?_,?_,hx,?_⟩
 ·simp [World.cell?,q3,hoff]
 ·simp only [World.frozen?,q3,Bool.and_eq_false_iff,decide_eq_false_iff_not]
  by_cases hlh:lo < hi
  ·have:=q6 (Nat.ne_of_lt hlh);left;omega
  ·by_cases h1:lo≤off
   ·right;omega
   ·left;exact h1
 refine ok_setbox k (box_of_get hb) hx rfl ((Below.refl N0 w).setCell q1 _) (.inl rfl) (fun c _ hc=>⟨hheap c hc,rfl⟩) (fun _ _=>rfl) ?_ (fun c m hm=>?_)
 ·refine ⟨q1,q2,arr.setIfInBounds off u,T,lo,hi,hset,by simpa using q6,by simpa using ⟨q4,q9⟩,fun T' hT=>?_,fun j x hj=>?_⟩
  ·by_cases h0:off=0
   ·subst h0
    rw [List.getElem?_set_self ho] at hT
    simp only [Option.some.injEq] at hT
    exact (hnb T' hT).elim
   ·rw [List.getElem?_set_ne h0] at hT
    simpa using q8 T' hT
  by_cases hjo:off=j
  ·subst hjo
   rw [List.getElem?_set_self ho] at hj
   simp only [Option.some.injEq] at hj
   subst hj
   simpa [Array.getD_eq_getD_getElem?,hoff] using hv.mono hx
  ·rw [List.getElem?_set_ne hjo] at hj
   simpa [Array.getD_eq_getD_getElem?,Array.getElem?_setIfInBounds,hjo] using (q5 j x hj).mono hx
 ·have:=k.arr c m hm
  exact ⟨this.1,by simp;exact this.2⟩
end
end Go.Am
namespace Go.Am
open Go.RowKit (Below)
set_option linter.unusedVariables false
set_option linter.unusedSectionVars false
set_option linter.unusedSimpArgs false
section
variable {N0:Nat} {P:Program} {w0:World} {g:G} {e:Env} {a:Act} {h:Hp} {w:World}
theorem run_isAgg' {t:TypeId} {b:Bool} (hb:aggOf P t=some b) (w:World):(isAgg t).run P w=.ok b w:=by
 unfold aggOf at hb
 cases hu:P.underlying t with
 | none=>simp [hu] at hb
 | some d =>
  simp only [hu] at hb
  unfold isAgg
  simp only [Sem.run_bind,run_underlying hu,Result.andThen]
  cases d <;> simp_all
theorem run_sizeOf' {t:TypeId} {n:Nat} (hn:sizeOf P t=some n) (w:World):(Go.sizeOf t).run P w=.ok n w:=by
 simp only [sizeOf,Option.map_eq_some_iff] at hn
 obtain ⟨i,hi,rfl⟩:=hn
 simp [Go.sizeOf,typeInfo,hi]
theorem add_addr (c o j:Nat):(⟨c,o,none⟩ : Addr).add j=⟨c,o+j,none⟩:=by
 unfold Addr.add
 split
 ·rename_i hj;subst hj;rfl
 ·rfl
theorem box_cell (k:Ok (N0:=N0) w0 g e a.tmps h w) {b:Nat} {cs:List PV} (hb:getBox h b=some cs):∃ u:Nat→Value,
  (∀ j,j < cs.length→w.cell? ⟨g.ι b,j,none⟩=some (u j))∧(∀ (j:Nat) (x:PV),cs[j]?=some x→RV N0 g w x (u j)):=by
 obtain ⟨q1,q2,arr,T,lo,hi,q3,q6,q4,q8,q5⟩:=k.cells hb
 refine ⟨fun j=>arr.getD j Go.undef,fun j hj=>?_,q5⟩
 have:j < arr.size:=by omega
 simp [World.cell?,q3,Array.getD_eq_getD_getElem?,this]
theorem load_row {t:TypeId} {n:Nat} {gg:Bool} (hn:sizeOf P t=some n) (hg:aggOf P t=some gg) {c o:Nat} {cs:List PV} {off:Nat} {u:Nat→Value}
  (hc:∀ j,j < cs.length→w.cell? ⟨c,o+j,none⟩=some (u j)) (hr:∀ (j:Nat) (x:PV),cs[j]?=some x→RV N0 g w x (u j)) {r:PV}
  (hp:part cs off (if gg then n else 1) gg=some r):∃ v,(loadVar t ⟨c,o+off,none⟩).run P w=.ok v w∧RV N0 g w r v:=by
 unfold loadVar
 simp only [Sem.run_bind,run_isAgg' hg,Result.andThen]
 cases gg with
 | true =>
  simp only [if_true,part] at hp ⊢
  split at hp
  ·rename_i hle
   simp only [Option.some.injEq] at hp
   subst hp
   have hl:=run_loadCells (P:=P) w ⟨c,o+off,none⟩ n (fun j=>u (off+j)) (fun j hj=>by
    rw [add_addr,show o+off+j=o+(off+j) by omega];exact hc _ (by omega))
   simp only [Sem.run_bind,run_sizeOf' hn,Result.andThen,hl]
   refine ⟨.agg ((List.range n).map fun j=>u (off+j)).toArray,by simp,.agg _ _ (by simp;omega) fun j x hx=>?_⟩
   have hy:=hx
   have hj:j < n:=by
    rcases Nat.lt_or_ge j n with h' | h'
    ·exact h'
    ·rw [List.getElem?_eq_none (by simp;omega)] at hy;cases hy
   rw [List.getElem?_take,if_pos hj,List.getElem?_drop] at hy
   have:=hr _ _ hy
   simpa [Array.getD_eq_getD_getElem?,hj] using this
  ·cases hp
 | false =>
  simp only [Bool.false_eq_true,if_false,part] at hp ⊢
  have hy:=hp
  have hlt:off < cs.length:=by
   rcases Nat.lt_or_ge off cs.length with h' | h'
   ·exact h'
   ·rw [List.getElem?_eq_none h'] at hy;cases hy
  exact ⟨u off,by simp [run_load,hc off hlt],hr _ _ hy⟩
theorem load_row1 {t:TypeId} {n m:Nat} {gg:Bool} (hn:sizeOf P t=some n) (hg:aggOf P t=some gg) {c o:Nat} {cs:List PV} {off:Nat} {u:Nat→Value}
  (hc:∀ j,j < cs.length→w.cell? ⟨c,o+j,none⟩=some (u j)) (hr:∀ (j:Nat) (x:PV),cs[j]?=some x→RV N0 g w x (u j)) {r:PV} (hm:gg=true→m=n)
  (hp:part cs off m gg=some r):∃ v,(loadVar t ⟨c,o+off,none⟩).run P w=.ok v w∧RV N0 g w r v:=by
 refine load_row hn hg hc hr ?_
 cases gg with
 | true=>rw [hm rfl] at hp;simpa using hp
 | false=>simpa [part] using hp
theorem store_row {b:Nat} {off:Nat}:∀ (us:List Value) (xs:List PV) (i:Nat) (h:Hp) (w:World) (cs:List PV),Ok (N0:=N0) w0 g e a.tmps h w→getBox h b=some cs →
  us.length=xs.length→off+i+xs.length≤cs.length→xs.all scalar=true→(∀ (j:Nat) (x:PV),xs[j]?=some x→RV N0 g w x (us.getD j Go.undef)) →
  ∃ w',(storeCells ⟨g.ι b,off,none⟩ us i).run P w=.ok () w'∧Ext N0 g w g w'∧Ok (N0:=N0) w0 g e a.tmps (setBox h b (setRange cs (off+i) xs)) w'
 | [],xs,i,h,w,cs,k,hb,hl,_,_,_=>by
  have:xs=[]:=by cases xs;rfl;simp at hl
  subst this
  refine ⟨w,by simp [storeCells],Ext.refl _ _ _,?_⟩
  simpa [setRange,setBox_self hb] using k
 | u :: us,[],i,h,w,cs,k,hb,hl,_,_,_=>by simp at hl
 | u :: us,x :: xs,i,h,w,cs,k,hb,hl,hle,hsc,hr=>by
  simp only [List.length_cons] at hl hle
  have hx:=hr 0 x rfl
  simp only [List.getD_cons_zero] at hx
  obtain ⟨old,ho,hfz,hext,hok⟩:=ok_write k hb (off:=off+i) (by omega) hx (fun T hq=>by subst hq;simp [scalar] at hsc)
  simp only [List.all_cons,Bool.and_eq_true] at hsc
  obtain ⟨w',hrun,hext',hok'⟩:=store_row (b:=b) (off:=off) us xs (i+1) _ _ (cs.set (off+i) x) hok (getBox_set_eq hb) (by omega) (by rw [List.length_set];omega) hsc.2
   (fun j y hy=>(hr (j+1) y (by simpa using hy)).mono hext)
  refine ⟨w',?_,hext.trans hext',?_⟩
  ·have hst:∀ (v:Value),(∀ c,v≠.agg c)→(∀ c,v≠.tuple c)→v=u→(store (⟨g.ι b,off+i,none⟩ : Addr) v).run P w=.ok () (w.setCell ⟨g.ι b,off+i,none⟩ v):=by
    intro v h1 h2 hv
    cases v with
    | agg c=>exact (h1 c rfl).elim
    | tuple c=>exact (h2 c rfl).elim
    | _=>simp [store,Sem.run,ho,hfz]
   have hna:(∀ c,u≠.agg c)∧(∀ c,u≠.tuple c):=by
    cases hx <;> simp_all [scalar]
   simp only [storeCells,add_addr,Sem.run_bind,hst u hna.1 hna.2 rfl,Result.andThen]
   exact hrun
  ·rw [setBox_setBox] at hok'
   simpa [setRange,Nat.add_assoc] using hok'
theorem rv_scalar_not {v:PV} {u:Value} (hv:RV N0 g w v u) (hs:scalar v=true):v≠.undef:=by rintro rfl;simp [scalar] at hs
section ops
variable {o:Oper} {md:Nat} {orc:Orc} {base:Nat} {draw:Bool} {aop:AOp} {v:PV} {e':Env} {h':Hp} {gl:Globs} (hgl:GlobOk gl N0 w0)
include hgl
theorem g_mov (k:Ok (N0:=N0) w0 g e a.tmps h w) {x:Operand} (ho:o.op=.move x∨o.op=.assign x) (hc:cOp P gl md o=some aop)
  (hs:step orc base draw aop e h=some (v,e',h')):Gives N0 P w0 g a w (execOp a.eval o) v e' h':=by
 have hc':(cOpnd gl x).map .mov=some aop:=by rcases ho with ho | ho <;> simpa [cOp,ho] using hc
 simp only [Option.map_eq_some_iff] at hc'
 obtain ⟨x',hx,rfl⟩:=hc'
 simp only [step,Option.bnd_eq_some_iff,Option.some.injEq,Prod.mk.injEq] at hs
 obtain ⟨y,hy,rfl,rfl,rfl⟩:=hs
 refine gives_pure k ?_ ((rv_ev hgl k hx hy))
 rcases ho with ho | ho <;> simp [execOp,ho]
omit hgl in
theorem rv_bool {v:Bool} {u:Value} (hv:RV N0 g w (.bool v) u):u=.bool v:=by cases hv;rfl
omit hgl in
theorem rv_int {j:IntKind} {v:Int} {u:Value} (hv:RV N0 g w (.int j v) u):u=.int j v:=by cases hv;rfl
theorem g_pick (k:Ok (N0:=N0) w0 g e a.tmps h w) {c x y:Operand} (ho:o.op=.pick c x y) (hc:cOp P gl md o=some aop)
  (hs:step orc base draw aop e h=some (v,e',h')):Gives N0 P w0 g a w (execOp a.eval o) v e' h':=by
 simp only [cOp,ho,Option.bind_eq_some_iff,Option.map_eq_some_iff] at hc
 obtain ⟨c',hc,x',hx,y',hy,rfl⟩:=hc
 simp only [step,Option.bnd_eq_some_iff] at hs
 obtain ⟨z,hz,hs⟩:=hs
 rw [condB_some] at hs
 rcases hs with ⟨rfl,hs⟩ | ⟨rfl,hs⟩
 ·simp only [Option.bnd_eq_some_iff,Option.some.injEq,Prod.mk.injEq] at hs
  obtain ⟨r,hr,rfl,rfl,rfl⟩:=hs
  refine gives_pure k ?_ ((rv_ev hgl k hx hr))
  simp [execOp,ho,rv_bool (rv_ev hgl k hc hz),asBool]
 ·simp only [Option.bnd_eq_some_iff,Option.some.injEq,Prod.mk.injEq] at hs
  obtain ⟨r,hr,rfl,rfl,rfl⟩:=hs
  refine gives_pure k ?_ ((rv_ev hgl k hy hr))
  simp [execOp,ho,rv_bool (rv_ev hgl k hc hz),asBool]
omit hgl in
theorem ofValue_ne (v:Value) (h:ofValue v=some .undef):False:=by
 unfold ofValue at h
 split at h <;> simp_all
omit hgl in
theorem rv_zero {t:TypeId} {z:List PV} (hz:zeroOf P t=some z):∃ i u,P.info? t=some i∧i.zero=some u∧u.cells.size=z.length∧∀ (g:G) (w:World) (j:Nat) (x:PV),z[j]?=some x→RV N0 g w x (u.cells.getD j Go.undef):=by
 unfold zeroOf at hz
 simp only [Option.bind_eq_some_iff,Option.map_eq_some_iff] at hz
 obtain ⟨u,⟨i,hi,hu⟩,x,hx,rfl⟩:=hz
 refine ⟨i,u,hi,hu,?_⟩
 have hne:x≠.undef:=by rintro rfl;exact ofValue_ne u hx
 refine ⟨(rv_cells (rv_const (N0:=N0) (g:={ ι:=id,n:=0,hw:=fun _=>none }) (w:=default) u x hx) hne).1,fun g w=>(rv_cells (rv_const u x hx) hne).2⟩
omit hgl in
theorem zero_nb {t:TypeId} {z:List PV} (hz:zeroOf P t=some z) (j T:Nat):z[j]?≠some (.bnil T):=by
 unfold zeroOf at hz
 simp only [Option.bind_eq_some_iff,Option.map_eq_some_iff] at hz
 obtain ⟨u,_,x,hx,rfl⟩:=hz
 exact ofValue_nb hx j T
omit hgl in
theorem run_zero {t:TypeId} {i:TypeInfo} {u:Value} (hi:P.info? t=some i) (hu:i.zero=some u) (w:World):(zeroValue t).run P w=.ok u w:=by
 simp [zeroValue,typeInfo,hi,hu]
theorem g_alloc (k:Ok (N0:=N0) w0 g e a.tmps h w) {t:TypeId} (ho:o.op=.alloc t) (hc:cOp P gl md o=some aop)
  (hs:step orc base draw aop e h=some (v,e',h')):Gives N0 P w0 g a w (execOp a.eval o) v e' h':=by
 simp only [cOp,ho,Option.map_eq_some_iff] at hc
 obtain ⟨z,hz,rfl⟩:=hc
 simp only [step,Option.some.injEq,Prod.mk.injEq] at hs
 obtain ⟨rfl,rfl,rfl⟩:=hs
 obtain ⟨i,u,hi,hu,hsz,hrv⟩:=rv_zero (N0:=N0) hz
 have hnb:=zero_nb hz
 have hbz:(if isBld P t=true then bldZ t z else z).length=z.length∧(∀ (j:Nat) (x:PV),(if isBld P t=true then bldZ t z else z)[j]?=some x→RV N0 g w x (u.cells.getD j Go.undef)) ∧
   ∀ T',(if isBld P t=true then bldZ t z else z)[0]?=some (.bnil T')→T'=t∧u.cells.size=(if isBld P t=true then bldZ t z else z).length:=by
  have old:z.length=z.length∧(∀ (j:Nat) (x:PV),z[j]?=some x→RV N0 g w x (u.cells.getD j Go.undef))∧∀ T',z[0]?=some (.bnil T')→T'=t∧u.cells.size=z.length :=
   ⟨rfl,hrv g w,fun T' hT=>(hnb 0 T' hT).elim⟩
  split
  ·unfold bldZ
   split
   ·refine ⟨rfl,fun j x hx=>?_,fun T' hT=>?_⟩
    ·have h0:=hrv g w
     match j,hx with
     | 0,hx =>
      have:=h0 0 .nilp rfl
      simp only [List.getElem?_cons_zero,Option.some.injEq] at hx
      subst hx
      generalize u.cells.getD 0 Go.undef=U at this ⊢
      cases this
      exact .bnil _
     | j+1,hx=>exact h0 (j+1) x (by simpa using hx)
    ·simp at hT
     exact ⟨hT.symm,hsz⟩
   ·exact old
  ·exact old
 generalize (if isBld P t=true then bldZ t z else z)=zz at *
 obtain ⟨g',hx,hok,hn,hι,hcp⟩:=ok_alloc k u.cells t zz (by omega) hbz.2.1 hbz.2.2 (lo:=0) (hi:=0) (by simp) (.inl rfl)
 refine ⟨_,.pointer (some ⟨w.heap.size,0,none⟩),_,g',?_,.inl rfl,hx,hok,?_⟩
 ·simp [execOp,ho,Instr.alloc,run_zero hi hu,newVar,newRow]
 ·rw [←hι];exact .ptr _ _ (by omega)
theorem g_box (k:Ok (N0:=N0) w0 g e a.tmps h w) {t:TypeId} {x:Operand} (ho:o.op=.box t x) (hc:cOp P gl md o=some aop)
  (hs:step orc base draw aop e h=some (v,e',h')):Gives N0 P w0 g a w (execOp a.eval o) v e' h':=by
 simp only [cOp,ho,Option.bind_eq_some_iff,Option.map_eq_some_iff] at hc
 obtain ⟨n,hn,x',hx,rfl⟩:=hc
 simp only [step,Option.bnd_eq_some_iff] at hs
 obtain ⟨y,hy,hs⟩:=hs
 split at hs
 ·rename_i hlen
  obtain ⟨hlen,hscal⟩:=hlen
  simp only [Option.some.injEq,Prod.mk.injEq] at hs
  obtain ⟨rfl,rfl,rfl⟩:=hs
  have hr:=rv_ev hgl k hx hy
  have hcells:y.cells.length≤(a.eval x).cells.size∧∀ (j:Nat) (z:PV),y.cells[j]?=some z→RV N0 g w z ((a.eval x).cells.getD j Go.undef):=by
   have hu:y≠.undef:=by rintro rfl;simp [PV.cells,scalar] at hscal
   obtain ⟨h1,h2⟩:=rv_cells hr hu
   exact ⟨by omega,h2⟩
  obtain ⟨g',hx',hok,hn',hι,hcp⟩:=ok_alloc k (a.eval x).cells t _ hcells.1 hcells.2 (fun T' hT=>(nb_scalar hscal 0 T' hT).elim) (lo:=0) (hi:=0) (by simp) (.inl rfl)
  refine ⟨_,.pointer (some ⟨w.heap.size,0,none⟩),_,g',?_,.inl rfl,hx',hok,?_⟩
  ·simp [execOp,ho,Instr.box,newVar,newRow]
  ·rw [←hι];exact .ptr _ _ (by omega)
 ·cases hs
end ops
end
end Go.Am
namespace Go.Am
open Go.RowKit (Below)
set_option linter.unusedVariables false
set_option linter.unusedSimpArgs false
set_option linter.unusedSectionVars false
section
variable {N0:Nat} {P:Program} {w0:World} {g:G} {e:Env} {a:Act} {h:Hp} {w:World}
variable {o:Oper} {md:Nat} {orc:Orc} {base:Nat} {draw:Bool} {aop:AOp} {v:PV} {e':Env} {h':Hp} {gl:Globs} (hgl:GlobOk gl N0 w0)
theorem scalar_strip (v:PV):scalar (strip v)=scalar v:=by cases v <;> rfl
theorem strips_scalar:∀ (cs:List PV),(strips cs).all scalar=cs.all scalar
 | []=>rfl
 | c :: cs=>by simp only [strips,List.all_cons,scalar_strip,strips_scalar cs]
include hgl
theorem g_load (k:Ok (N0:=N0) w0 g e a.tmps h w) {t:TypeId} {x:Operand} (ho:o.op=.load t x) (hc:cOp P gl md o=some aop)
  (hs:step orc base draw aop e h=some (v,e',h')):Gives N0 P w0 g a w (execOp a.eval o) v e' h':=by
 simp only [cOp,ho,Option.bind_eq_some_iff] at hc
 obtain ⟨n,hn,gg,hg,x',hx,hc⟩:=hc
 obtain ⟨m,hm,rfl⟩ : ∃ m,(gg=true→m=n)∧aop=.load m gg x':=by
  cases gg with
  | true=>simp only [if_true,Option.some.injEq] at hc;exact ⟨n,fun _=>rfl,hc.symm⟩
  | false=>simp only [Bool.false_eq_true,if_false,Option.some.injEq] at hc;exact ⟨1,fun hq=>(Bool.false_ne_true hq).elim,hc.symm⟩
 simp only [step,Option.bnd_eq_some_iff] at hs
 obtain ⟨y,hy,hs⟩:=hs
 have hr:=rv_ev hgl k hx hy
 generalize hA0:a.eval x=A0 at hr
 have fin:∀ (A:Addr) (r:PV),A0=.pointer (some A)→(∃ v,(loadVar t A).run P w=.ok v w∧RV N0 g w r v)→Gives N0 P w0 g a w (execOp a.eval o) r e h:=by
  rintro A r hA ⟨u,h1,h2⟩
  refine gives_pure k ?_ h2
  rw [←hA0] at hA
  simp [execOp,ho,Instr.loadAt,Instr.sureAddr,hA,h1]
 cases hr <;> simp only at hs
 case ptr b off hb =>
  simp only [Option.bnd_eq_some_iff,Option.some.injEq,Prod.mk.injEq] at hs
  obtain ⟨cs,hcs,r,hp,rfl,rfl,rfl⟩:=hs
  obtain ⟨u,h1,h2⟩:=box_cell k hcs
  refine fin _ _ rfl ?_
  have:=load_row1 (o:=0) hn hg (c:=g.ι b) (off:=off) (cs:=cs) (u:=u) (fun j hj=>by rw [Nat.zero_add];exact h1 j hj) h2 hm hp
  rwa [Nat.zero_add] at this
 case ep cs off c o' u h1 h2 h3 =>
  simp only [Option.bnd_eq_some_iff,Option.some.injEq,Prod.mk.injEq] at hs
  obtain ⟨r,hp,rfl,rfl,rfl⟩:=hs
  exact fin _ _ rfl (load_row1 hn hg h1 h2 hm hp)
 all_goals simp at hs
theorem g_store (k:Ok (N0:=N0) w0 g e a.tmps h w) {t:TypeId} {x y:Operand} (ho:o.op=.store t x y) (hc:cOp P gl md o=some aop)
  (hs:step orc base draw aop e h=some (v,e',h')):Gives N0 P w0 g a w (execOp a.eval o) v e' h':=by
 simp only [cOp,ho,Option.bind_eq_some_iff,Option.map_eq_some_iff] at hc
 obtain ⟨n,hn,x',hx,y',hy,rfl⟩:=hc
 simp only [step,Option.bnd_eq_some_iff] at hs
 obtain ⟨p,hp,q,hq,hs⟩:=hs
 have hr:=rv_ev hgl k hx hp
 have hv:=rv_ev hgl k hy hq
 generalize hA:a.eval x=A at hr
 cases hr <;> simp only at hs
 case ptr b off hb =>
  simp only [Option.bnd_eq_some_iff] at hs
  obtain ⟨cs,hcs,hs⟩:=hs
  split at hs
  ·rename_i hcond
   obtain ⟨hlen,hle,hscal,_⟩:=hcond
   simp only [Option.some.injEq,Prod.mk.injEq] at hs
   obtain ⟨rfl,rfl,rfl⟩:=hs
   have hne:q≠.undef:=by rintro rfl;simp [PV.cells,scalar] at hscal
   obtain ⟨h1,h2⟩:=rv_cells hv hne
   have h3:∀ (c:Prop) [Decidable c],(if c then strips q.cells else q.cells).length=q.cells.length∧(if c then strips q.cells else q.cells).all scalar=true ∧
     ∀ (j:Nat) (z:PV),(if c then strips q.cells else q.cells)[j]?=some z→RV N0 g w z ((a.eval y).cells.getD j Go.undef):=by
    intro c _
    split
    ·exact ⟨strips_length _,by rw [strips_scalar];exact hscal,strips_of (R:=fun x j=>RV N0 g w x ((a.eval y).cells.getD j Go.undef)) (fun j x hx=>rv_strip (h2 j x hx))⟩
    ·exact ⟨rfl,hscal,h2⟩
   obtain ⟨l1,l2,l3⟩:=h3 (b < base)
   obtain ⟨w',hrun,hext,hok⟩:=store_row (P:=P) (b:=b) (off:=off) (a.eval y).cells.toList _ 0 h w cs k hcs (by rw [l1];simpa using h1) (by rw [l1];omega) l2
    (fun j z hz=>by have:=l3 j z hz;simpa [Array.getD_eq_getD_getElem?,List.getD_eq_getElem?_getD] using this)
   refine ⟨.skip,Go.undef,w',g,?_,.inr ⟨rfl,rfl⟩,hext,by simpa using hok,.undef _ (by intro b;simp [Go.undef])⟩
   have hsz:¬ ((a.eval y).cells.size≠n):=by omega
   simp only [execOp,ho,Instr.storeAt,Instr.sureAddr,hA,Sem.run_bind,Sem.run_pure,Result.andThen,storeVar,run_sizeOf' hn,ne_eq,h1,hlen,not_true_eq_false,if_false,hrun]
  ·cases hs
 all_goals simp at hs
theorem g_nilck (k:Ok (N0:=N0) w0 g e a.tmps h w) {x:Operand} (ho:o.op=.nilCheck x) (hc:cOp P gl md o=some aop)
  (hs:step orc base draw aop e h=some (v,e',h')):Gives N0 P w0 g a w (execOp a.eval o) v e' h':=by
 simp only [cOp,ho,Option.map_eq_some_iff] at hc
 obtain ⟨x',hx,rfl⟩:=hc
 simp only [step,Option.bnd_eq_some_iff] at hs
 obtain ⟨p,hp,hs⟩:=hs
 have hr:=rv_ev hgl k hx hp
 have hs':isNil p=some false∧v=p∧e=e'∧h=h':=by
  split at hs
  ·rename_i hq
   simp only [Option.some.injEq,Prod.mk.injEq] at hs
   exact ⟨hq,hs.1.symm,hs.2.1,hs.2.2⟩
  ·cases hs
 obtain ⟨hnil,rfl,rfl,rfl⟩:=hs'
 have hr':=hr
 generalize hA:a.eval x=A at hr hr'
 cases hr <;> simp [isNil] at hnil
 all_goals (refine gives_pure k ?_ hr';simp [execOp,ho,hA])
omit hgl in
theorem str_eq_iff {s t:ByteArray}:(s.toList == t.toList)=(s.data.toList == t.data.toList):=by
 rw [ByteArray.toList_eq,ByteArray.toList_eq]
omit hgl in
theorem bytesLess_eq:∀ (x y:List UInt8),Op.bytesLess x y=bytesLess x y
 | _,[]=>by cases ‹List UInt8› <;> rfl
 | [],_ :: _=>rfl
 | a :: x,b :: y=>by simp only [Op.bytesLess,bytesLess,bytesLess_eq x y]
omit hgl in
theorem run_int_bin {op:BinOp} {t:TypeId} {x y:Operand} {i j:IntKind} {m n:Int} {r:PV} (hr:binOp op (.int i m) (.int j n)=some r) :
  ∃ u,(do eqGuard op t x y (.int i m) (.int j n);Go.binOp op t (.int i m) (.int j n):Sem Value).run P w=.ok u w∧RV N0 g w r u:=by
 have hg:eqGuard op t x y (.int i m) (.int j n)=pure ():=by cases op <;> rfl
 rw [hg]
 simp only [binOp] at hr
 by_cases hsh:isShift op=true
 ·rw [if_pos hsh] at hr
  unfold shiftOp at hr
  by_cases hn:n < 0
  ·rw [if_pos hn] at hr;cases hr
  ·rw [if_neg hn] at hr
   cases op <;> simp [isShift] at hsh
   ·simp only [Option.some.injEq] at hr;subst hr
    refine ⟨_,?_,.int _ _⟩
    simp only [Sem.run_bind,Sem.run_pure,Result.andThen,Go.binOp,Op.shift,if_neg hn]
   ·simp only [Option.some.injEq] at hr;subst hr
    refine ⟨_,?_,.int _ _⟩
    simp only [Sem.run_bind,Sem.run_pure,Result.andThen,Go.binOp,Op.shift,if_neg hn]
 ·rw [if_neg hsh] at hr
  split at hr
  ·rename_i hij
   subst hij
   cases op <;> simp [isShift] at hsh <;> simp only [intOp,intBits,Option.some.injEq] at hr
   all_goals first
    |(subst hr
      refine ⟨_,?_,.int _ _⟩
      simp only [Sem.run_bind,Sem.run_pure,Result.andThen,Go.binOp,ne_eq,not_true_eq_false,if_false,Op.intArith,Op.intBits]
      done)
    |(subst hr
      refine ⟨_,?_,.bool _⟩
      simp only [Sem.run_bind,Sem.run_pure,Result.andThen,Go.binOp,ne_eq,not_true_eq_false,if_false,Op.intCmp]
      done)
    |(split at hr
      ·cases hr
      ·rename_i hz
       simp only [Option.some.injEq] at hr
       subst hr
       refine ⟨_,?_,.int _ _⟩
       simp only [Sem.run_bind,Sem.run_pure,Result.andThen,Go.binOp,ne_eq,not_true_eq_false,if_false,Op.intDiv,if_neg hz])
    | cases hr
  ·cases hr
omit hgl in
theorem run_str_bin {op:BinOp} {t:TypeId} {x y:Operand} {s u:ByteArray} {r:PV} (hr:strOp op s.data.toList u.data.toList=some r) :
  ∃ v,(do eqGuard op t x y (.string s) (.string u);Go.binOp op t (.string s) (.string u):Sem Value).run P w=.ok v w∧RV N0 g w r v:=by
 have hg:eqGuard op t x y (.string s) (.string u)=pure ():=by cases op <;> rfl
 have h1:∀ s:ByteArray,s.toList=s.data.toList:=fun s=>ByteArray.toList_eq s
 have h2:∀ s:ByteArray,s.data.toList.length=s.size:=fun s=>Array.length_toList
 rw [hg]
 cases op <;> simp only [strOp,Option.some.injEq] at hr
 case add =>
  split at hr
  ·rename_i hle
   simp only [Option.some.injEq] at hr
   subst hr
   rw [h2,h2] at hle
   unfold limS at hle
   have hle':¬ (((s.size+u.size:Nat):Int) > IntKind.i64.max):=by
    have:IntKind.i64.max=9223372036854775807:=by rfl
    omega
   refine ⟨.string (s ++ u),?_,.str _ _ (by simp [ByteArray.data_append])⟩
   simp only [Sem.run_bind,Sem.run_pure,Result.andThen,Go.binOp,Op.stringOp,if_neg hle']
  ·cases hr
 all_goals first
  |(subst hr
    refine ⟨_,?_,.bool _⟩
    simp only [Sem.run_bind,Sem.run_pure,Result.andThen,Go.binOp,Op.stringOp,ByteArray.toList_eq,bytesLess_eq,bne])
  | cases hr
theorem g_bin (k:Ok (N0:=N0) w0 g e a.tmps h w) {op:BinOp} {t t':TypeId} {x y:Operand} (ho:o.op=.binOp op t x y t')
  (hc:∃ x' y',cOpnd gl x=some x'∧cOpnd gl y=some y'∧aop=.bin op x' y')
  (hs:step orc base draw aop e h=some (v,e',h')):Gives N0 P w0 g a w (execOp a.eval o) v e' h':=by
 obtain ⟨x',y',hx,hy,rfl⟩:=hc
 simp only [step,Option.bnd_eq_some_iff,Option.some.injEq,Prod.mk.injEq] at hs
 obtain ⟨p,hp,q,hq,r,hr,rfl,rfl,rfl⟩:=hs
 have h1:=rv_ev hgl k hx hp
 have h2:=rv_ev hgl k hy hq
 have fin:(∃ u,(do eqGuard op t x y (a.eval x) (a.eval y);Go.binOp op t (a.eval x) (a.eval y):Sem Value).run P w=.ok u w∧RV N0 g w r u) →
   Gives N0 P w0 g a w (execOp a.eval o) r e h:=by
  rintro ⟨u,hu,hru⟩
  refine gives_pure k ?_ hru
  simp only [execOp,ho,Sem.run_bind] at hu ⊢
  rw [hu];rfl
 apply fin
 generalize a.eval x=A at h1
 generalize a.eval y=B at h2
 cases h1 <;> cases h2 <;> simp only [binOp] at hr
 case int.int=>exact run_int_bin (by simpa only [binOp] using hr)
 case str.str=>rename_i hA _ _ hB;subst hA;subst hB;exact run_str_bin hr
 all_goals cases hr
theorem g_binB (k:Ok (N0:=N0) w0 g e a.tmps h w) {op:BinOp} {t t':TypeId} {x y:Operand} (ho:o.op=.binOp op t x y t') (hu:P.underlying t=some .bool) (hop:isEq op=true)
  (hc:∃ x' y',cOpnd gl x=some x'∧cOpnd gl y=some y'∧aop=.binB (isNeq op) x' y')
  (hs:step orc base draw aop e h=some (v,e',h')):Gives N0 P w0 g a w (execOp a.eval o) v e' h':=by
 obtain ⟨x',y',hx,hy,rfl⟩:=hc
 simp only [step,Option.bnd_eq_some_iff] at hs
 obtain ⟨p,hp,q,hq,hs⟩:=hs
 have h1:=rv_ev hgl k hx hp
 have h2:=rv_ev hgl k hy hq
 split at hs
 ·rename_i b c
  simp only [Option.some.injEq,Prod.mk.injEq] at hs
  obtain ⟨rfl,rfl,rfl⟩:=hs
  refine gives_pure k ?_ (.bool _)
  have he:(Op.equal t (.bool b) (.bool c)).run P w=.ok (b == c) w:=run_equal_bool w t b c hu
  cases op <;> simp only [isEq] at hop <;> (try cases hop)
  ·simp only [execOp,ho,rv_bool h1,rv_bool h2,Sem.run_bind,show eqGuard .eql t x y (.bool b) (.bool c)=pure () from rfl,Sem.run_pure,Result.andThen,
    show Go.binOp .eql t (.bool b) (.bool c)=(do pure (.bool (←Op.equal t (.bool b) (.bool c)))) from rfl,he,isNeq,Bool.false_eq_true,if_false]
  ·simp only [execOp,ho,rv_bool h1,rv_bool h2,Sem.run_bind,show eqGuard .neq t x y (.bool b) (.bool c)=pure () from rfl,Sem.run_pure,Result.andThen,
    show Go.binOp .neq t (.bool b) (.bool c)=(do pure (.bool (!(←Op.equal t (.bool b) (.bool c))))) from rfl,he,isNeq,if_true,bne]
 ·cases hs
def nilVal:Nat→Value
 | 0=>.pointer none
 | 1=>.slice none 0 0
 | 2=>.nilIface
 | 3=>.nilFunc
 | _=>.map none
omit hgl in
theorem isNilConst_val {kd:Nat} {x:Operand} (hx:isNilConst kd x=true) (a:Act):∃ c,x=.const c∧c=nilVal kd∧kd≤4:=by
 unfold isNilConst at hx
 split at hx <;> first | exact ⟨_,rfl,rfl,by omega⟩ | cases hx
omit hgl in
theorem run_equal_nil {t:TypeId} {d:TypeDesc} {kd:Nat} (hu:P.underlying t=some d) (hkd:nilKind d=some kd) {p:PV} {A:Value} (hr:RV N0 g w p A) {b:Bool} (hb:nilK kd p=some b) :
  (Op.equal t A (nilVal kd)).run P w=.ok b w∧(Op.equal t (nilVal kd) A).run P w=.ok b w:=by
 obtain ⟨dep,hd⟩ : ∃ n,Op.maxDepth=n+1:=⟨9999,rfl⟩
 cases d <;> simp only [nilKind] at hkd <;> cases hkd
 all_goals (cases hr <;> simp only [nilK,Option.some.injEq] at hb <;> (try cases hb) <;> (try subst hb))
 all_goals (constructor <;> simp only [Op.equal,hd,Op.equalIn,nilVal,Sem.run_bind,run_underlying hu,Result.andThen,Sem.run_pure,Option.isNone_none,Option.isNone_some])
omit hgl in
theorem eqGuard_nil {op:BinOp} {t:TypeId} {x y:Operand} {kd:Nat} (A:Value) (hn:kd≤4) (h:(isNilConst kd y=true)∨(isNilConst kd x=true)) (w:World) :
  (∀ c,A≠.agg c)→(isNilConst kd y=true→(eqGuard op t x y A (nilVal kd)).run P w=.ok () w)∧(isNilConst kd x=true→(eqGuard op t x y (nilVal kd) A).run P w=.ok () w):=by
 intro hA
 have hc:∀ z,isNilConst kd z=true→∃ c,z=.const c:=fun z hz=>let ⟨c,h1,_⟩:=isNilConst_val hz ⟨#[],[]⟩;⟨c,h1⟩
 constructor
 ·intro hy
  obtain ⟨c,rfl⟩:=hc y hy
  have:kd=0∨kd=1∨kd=2∨kd=3∨kd=4:=by omega
  rcases this with rfl | rfl | rfl | rfl | rfl <;> cases A <;> simp [eqGuard,nilVal] at * <;> split <;> simp_all
 ·intro hx
  obtain ⟨c,rfl⟩:=hc x hx
  have:kd=0∨kd=1∨kd=2∨kd=3∨kd=4:=by omega
  rcases this with rfl | rfl | rfl | rfl | rfl <;> cases A <;> simp [eqGuard,nilVal] at * <;> split <;> simp_all
omit hgl in
theorem binOp_eq_nil {t:TypeId} {kd:Nat} {p:PV} {A:Value} (hr:RV N0 g w p A) {b:Bool} (hb:nilK kd p=some b) :
  Go.binOp .eql t A (nilVal kd)=(do pure (.bool (←Op.equal t A (nilVal kd))))∧Go.binOp .neq t A (nilVal kd)=(do pure (.bool (!(←Op.equal t A (nilVal kd))))) ∧
  Go.binOp .eql t (nilVal kd) A=(do pure (.bool (←Op.equal t (nilVal kd) A)))∧Go.binOp .neq t (nilVal kd) A=(do pure (.bool (!(←Op.equal t (nilVal kd) A)))):=by
 rcases kd with _ | _ | _ | _ | _ | kd
 all_goals (cases hr <;> simp only [nilK] at hb <;> (try cases hb))
 all_goals exact ⟨rfl,rfl,rfl,rfl⟩
theorem g_isnil (k:Ok (N0:=N0) w0 g e a.tmps h w) {op:BinOp} {t t':TypeId} {x y:Operand} {d:TypeDesc} {kd:Nat} (ho:o.op=.binOp op t x y t') (hu:P.underlying t=some d) (hop:isEq op=true)
  (hkd:nilKind d=some kd)
  (hc:(isNilConst kd y=true∧∃ x',cOpnd gl x=some x'∧aop=.isnil kd (isNeq op) x')∨(isNilConst kd x=true∧∃ y',cOpnd gl y=some y'∧aop=.isnil kd (isNeq op) y'))
  (hs:step orc base draw aop e h=some (v,e',h')):Gives N0 P w0 g a w (execOp a.eval o) v e' h':=by
 have key:∀ (z:Operand) (z':Opnd),cOpnd gl z=some z'→aop=.isnil kd (isNeq op) z'→∃ p b,nilK kd p=some b∧RV N0 g w p (a.eval z)∧v=.bool (if isNeq op then !b else b)∧e=e'∧h=h':=by
  rintro z z' hz rfl
  simp only [step,Option.bnd_eq_some_iff,Option.some.injEq,Prod.mk.injEq] at hs
  obtain ⟨p,hp,b,hb,rfl,rfl,rfl⟩:=hs
  exact ⟨p,b,hb,rv_ev hgl k hz hp,rfl,rfl,rfl⟩
 have hagg:∀ (p:PV) (b:Bool) (A:Value),nilK kd p=some b→RV N0 g w p A→∀ c,A≠.agg c:=by
  intro p b A hb hr c hq
  subst hq
  cases hr <;> (rcases kd with _ | _ | _ | _ | _ | kd) <;> simp [nilK] at hb
 rcases hc with ⟨hn,x',hx,ha⟩ | ⟨hn,y',hy,ha⟩
 ·obtain ⟨p,b,hb,hr,rfl,rfl,rfl⟩:=key x x' hx ha
  obtain ⟨c,hyc,rfl,h3⟩:=isNilConst_val hn a
  refine gives_pure k ?_ (.bool _)
  have hg:=(eqGuard_nil (P:=P) (op:=op) (t:=t) (x:=x) (y:=y) (a.eval x) h3 (.inl hn) w (hagg p b _ hb hr)).1 hn
  have he:=(run_equal_nil hu hkd hr hb).1
  have hyv:a.eval y=nilVal kd:=by rw [hyc];rfl
  obtain ⟨q1,q2,q3,q4⟩:=binOp_eq_nil (t:=t) hr hb
  cases op <;> simp only [isEq] at hop <;> (try cases hop)
  ·simp only [execOp,ho,hyv,q1,Sem.run_bind,hg,Sem.run_pure,Result.andThen,he,isNeq,Bool.false_eq_true,if_false]
  ·simp only [execOp,ho,hyv,q2,Sem.run_bind,hg,Sem.run_pure,Result.andThen,he,isNeq,if_true]
 ·obtain ⟨p,b,hb,hr,rfl,rfl,rfl⟩:=key y y' hy ha
  obtain ⟨c,hxc,rfl,h3⟩:=isNilConst_val hn a
  refine gives_pure k ?_ (.bool _)
  have hg:=(eqGuard_nil (P:=P) (op:=op) (t:=t) (x:=x) (y:=y) (a.eval y) h3 (.inr hn) w (hagg p b _ hb hr)).2 hn
  have he:=(run_equal_nil hu hkd hr hb).2
  have hxv:a.eval x=nilVal kd:=by rw [hxc];rfl
  obtain ⟨q1,q2,q3,q4⟩:=binOp_eq_nil (t:=t) hr hb
  cases op <;> simp only [isEq] at hop <;> (try cases hop)
  ·simp only [execOp,ho,hxv,q3,Sem.run_bind,hg,Sem.run_pure,Result.andThen,he,isNeq,Bool.false_eq_true,if_false]
  ·simp only [execOp,ho,hxv,q4,Sem.run_bind,hg,Sem.run_pure,Result.andThen,he,isNeq,if_true]
theorem g_un (k:Ok (N0:=N0) w0 g e a.tmps h w) {op:UnOp} {t:TypeId} {x:Operand} (ho:o.op=.unOp op t x) (hc:cOp P gl md o=some aop)
  (hs:step orc base draw aop e h=some (v,e',h')):Gives N0 P w0 g a w (execOp a.eval o) v e' h':=by
 simp only [cOp,ho,Option.map_eq_some_iff] at hc
 obtain ⟨x',hx,rfl⟩:=hc
 simp only [step,Option.bnd_eq_some_iff,Option.some.injEq,Prod.mk.injEq] at hs
 obtain ⟨p,hp,r,hr,rfl,rfl,rfl⟩:=hs
 have h1:=rv_ev hgl k hx hp
 generalize hA:a.eval x=A at h1
 cases h1 <;> simp only [unOp] at hr
 case bool b=>cases op <;> simp only [Option.some.injEq] at hr <;> first | (subst hr;exact gives_pure k (by simp only [execOp,ho,hA,Op.unary,Sem.run_bind,Sem.run_pure,Result.andThen]) (.bool _)) | cases hr
 case int j n =>
  cases op <;> simp only [Option.some.injEq,intBits] at hr
  all_goals first | (subst hr;exact gives_pure k (by simp only [execOp,ho,hA,Op.unary,Op.intArith,Op.intBits,Sem.run_bind,Sem.run_pure,Result.andThen]) (.int _ _)) | cases hr
 all_goals cases hr
theorem g_extract (k:Ok (N0:=N0) w0 g e a.tmps h w) {i:Nat} {x:Operand} (ho:o.op=.extract x i) (hc:cOp P gl md o=some aop)
  (hs:step orc base draw aop e h=some (v,e',h')):Gives N0 P w0 g a w (execOp a.eval o) v e' h':=by
 simp only [cOp,ho,Option.map_eq_some_iff] at hc
 obtain ⟨x',hx,rfl⟩:=hc
 simp only [step,Option.bnd_eq_some_iff] at hs
 obtain ⟨p,hp,hs⟩:=hs
 have h1:=rv_ev hgl k hx hp
 generalize hA:a.eval x=A at h1
 cases h1 <;> simp only at hs
 case tup cs us hsz hr =>
  simp only [Option.bnd_eq_some_iff,Option.some.injEq,Prod.mk.injEq] at hs
  obtain ⟨r,hr',rfl,rfl,rfl⟩:=hs
  have hi:i < cs.length:=(List.getElem?_eq_some_iff.1 hr').1
  have hu:us[i]?=some (us.getD i Go.undef):=by simp [Array.getD_eq_getD_getElem?,hsz,hi]
  exact gives_pure k (by simp only [execOp,ho,hA,Instr.extract,hu,Sem.run_bind,Sem.run_pure,Result.andThen]) (hr i r hr')
 all_goals cases hs
omit hgl in
theorem run_fieldPlace {f:Field} {n:Nat} (hn:sizeOf P f.type=some n) (h0:n≠0) (A:Addr):(fieldPlace A f).run P w=.ok (A.add f.offset) w:=by
 simp [fieldPlace,run_sizeOf' hn,h0]
theorem g_fieldA (k:Ok (N0:=N0) w0 g e a.tmps h w) {t:TypeId} {x:Operand} {f:Nat} (ho:o.op=.fieldAddr t x f) (hc:cOp P gl md o=some aop)
  (hs:step orc base draw aop e h=some (v,e',h')):Gives N0 P w0 g a w (execOp a.eval o) v e' h':=by
 simp only [cOp,ho] at hc
 split at hc
 ·rename_i fs hu
  simp only [Option.bind_eq_some_iff] at hc
  obtain ⟨fd,hfd,n,hn,hc⟩:=hc
  split at hc
  ·cases hc
  ·rename_i h0
   simp only [Option.map_eq_some_iff] at hc
   obtain ⟨x',hx,rfl⟩:=hc
   simp only [step,Option.bnd_eq_some_iff] at hs
   obtain ⟨p,hp,hs⟩:=hs
   have h1:=rv_ev hgl k hx hp
   generalize hA:a.eval x=A at h1
   cases h1 <;> simp only at hs
   case ptr b off hb =>
    simp only [Option.some.injEq,Prod.mk.injEq] at hs
    obtain ⟨rfl,rfl,rfl⟩:=hs
    refine gives_pure (u:=.pointer (some ⟨g.ι b,off+fd.offset,none⟩)) k ?_ (.ptr b _ hb)
    simp [execOp,ho,hA,Instr.fieldAt,run_underlying hu,hfd,Instr.sureAddr,run_fieldPlace hn h0,add_addr]
   case ep cs off c o' u q1 q2 q3 =>
    simp only [Option.some.injEq,Prod.mk.injEq] at hs
    obtain ⟨rfl,rfl,rfl⟩:=hs
    refine gives_pure (u:=.pointer (some ⟨c,o'+(off+fd.offset),none⟩)) k ?_ (.ep cs _ c o' u q1 q2 q3)
    simp [execOp,ho,hA,Instr.fieldAt,run_underlying hu,hfd,Instr.sureAddr,run_fieldPlace hn h0,add_addr,Nat.add_assoc]
   all_goals cases hs
 ·cases hc
end
end Go.Am
namespace Go.Am
open Go.RowKit (Below)
set_option linter.unusedVariables false
set_option linter.unusedSimpArgs false
set_option linter.unusedSectionVars false
section
variable {N0:Nat} {P:Program} {w0:World} {g:G} {e:Env} {a:Act} {h:Hp} {w:World}
variable {o:Oper} {md:Nat} {orc:Orc} {base:Nat} {draw:Bool} {aop:AOp} {v:PV} {e':Env} {h':Hp} {gl:Globs} (hgl:GlobOk gl N0 w0)
include hgl
omit hgl in
theorem run_of_builtin {c:Go.Call} {b:Builtin} (ho:o.op=.call c) (hb:c.callee=.builtin b) :
  ∃ cs,(execOp a.eval o).run P w=(builtin b c.argTypes o.type cs (c.args.map a.eval)).run P w:=by
 have h1:execOp a.eval o=(do let d ←resolve a.eval c o.type;invoke d.target d.args):=by simp only [execOp,ho]
 rw [h1]
 unfold resolve
 simp only [hb]
 exact ⟨_,rfl⟩
theorem rv_evs (k:Ok (N0:=N0) w0 g e a.tmps h w):∀ {os:List Operand} {xs:List Opnd} {vs:List PV},cOpnds gl os=some xs→evs e xs=some vs →
  os.length=vs.length∧∀ (j:Nat) (x:PV),vs[j]?=some x→RV N0 g w x ((os.map a.eval).getD j Go.undef)
 | [],xs,vs,ho,hv=>by
  simp [cOpnds] at ho;subst ho
  simp [evs] at hv;subst hv
  exact ⟨rfl,fun j x hx=>by simp at hx⟩
 | o :: os,xs,vs,ho,hv=>by
  simp only [cOpnds,Option.bind_eq_some_iff,Option.map_eq_some_iff] at ho
  obtain ⟨y,hy,ys,hys,rfl⟩:=ho
  simp only [evs,Option.bnd_eq_some_iff,Option.some.injEq] at hv
  obtain ⟨u,hu,us,hus,rfl⟩:=hv
  obtain ⟨h1,h2⟩:=rv_evs k hys hus
  refine ⟨by simp [h1],fun j x hx=>?_⟩
  cases j with
  | zero=>simp at hx;subst hx;simpa using (rv_ev hgl k hy hu)
  | succ j=>simpa using h2 j x (by simpa using hx)
theorem g_len (k:Ok (N0:=N0) w0 g e a.tmps h w) {c:Go.Call} (ho:o.op=.call c) (hb:c.callee=.builtin .len) (hc:cCall P gl md c o.type=some aop)
  (hmap:∀ x t kt et x',c.args=#[x]→c.argTypes=#[t]→P.underlying t=some (.map kt et)→cOpnd gl x=some x'→aop=.gen .mapLen [x']→Gives N0 P w0 g a w (execOp a.eval o) v e' h')
  (hs:step orc base draw aop e h=some (v,e',h')):Gives N0 P w0 g a w (execOp a.eval o) v e' h':=by
 simp only [cCall,hb] at hc
 split at hc
 ·rename_i x t hax hat
  have hargs:c.args=#[x]:=by rw [←Array.toList_inj,hax]
  have htys:c.argTypes=#[t]:=by rw [←Array.toList_inj,hat]
  obtain ⟨cs,hrun⟩:=run_of_builtin (P:=P) (w:=w) (a:=a) ho hb
  split at hc
  ·rename_i hu
   simp only [Option.map_eq_some_iff] at hc
   obtain ⟨x',hx,rfl⟩:=hc
   simp only [step,Option.bnd_eq_some_iff] at hs
   obtain ⟨p,hp,hs⟩:=hs
   have h1:=rv_ev hgl k hx hp
   generalize hA:a.eval x=A at h1
   cases h1 <;> simp only at hs
   case str l s hl =>
    simp only [Option.some.injEq,Prod.mk.injEq] at hs
    obtain ⟨rfl,rfl,rfl⟩:=hs
    refine gives_pure (u:=goInt s.size) k ?_ ?_
    ·rw [hrun,hargs,htys]
     simp only [builtin,List.map_toArray,List.map_cons,List.map_nil,hA,Builtin.len_,run_underlying hu,Sem.run_bind,Result.andThen,Sem.run_pure]
     simp [run_underlying hu]
    ·have:(l.length:Int)=s.size:=by rw [←hl];simp
     rw [this];exact .int _ _
   all_goals cases hs
  ·rename_i el hu
   simp only [Option.map_eq_some_iff] at hc
   obtain ⟨x',hx,rfl⟩:=hc
   simp only [step,Option.bnd_eq_some_iff] at hs
   obtain ⟨p,hp,hs⟩:=hs
   have h1:=rv_ev hgl k hx hp
   generalize hA:a.eval x=A at h1
   have run:∀ A' n c,A=.slice A' n c→(execOp a.eval o).run P w=.ok (.value (goInt n)) w:=by
    rintro A' n c rfl
    rw [hrun,hargs,htys]
    simp only [builtin,List.map_toArray,List.map_cons,List.map_nil,hA,Builtin.len_]
    simp [run_underlying hu]
   cases h1 <;> simp only at hs
   case nils =>
    simp only [Option.some.injEq,Prod.mk.injEq] at hs
    obtain ⟨rfl,rfl,rfl⟩:=hs
    exact gives_pure k (run _ _ _ rfl) (.int _ _)
   case sl ow sz es c' o' cap u q1 q2 q3 q4 q5 q6 =>
    simp only [Option.some.injEq,Prod.mk.injEq] at hs
    obtain ⟨rfl,rfl,rfl⟩:=hs
    exact gives_pure k (run _ _ _ rfl) (.int _ _)
   case bsl fl b off len sz cap hb' hl hfl hcpb =>
    simp only [Option.some.injEq,Prod.mk.injEq] at hs
    obtain ⟨rfl,rfl,rfl⟩:=hs
    exact gives_pure k (run _ _ _ rfl) (.int _ _)
   all_goals cases hs
  ·rename_i kt et hu
   simp only [Option.map_eq_some_iff] at hc
   obtain ⟨x',hx,rfl⟩:=hc
   exact hmap x t kt et x' hargs htys hu hx rfl
  ·cases hc
 ·cases hc
theorem g_minmax (k:Ok (N0:=N0) w0 g e a.tmps h w) {c:Go.Call} {mx:Bool} (ho:o.op=.call c) (hb:c.callee=.builtin (if mx then .max else .min))
  (hc:∃ xs,cOpnds gl c.args.toList=some xs∧aop=.minmax mx xs)
  (hs:step orc base draw aop e h=some (v,e',h')):Gives N0 P w0 g a w (execOp a.eval o) v e' h':=by
 obtain ⟨xs,hxs,rfl⟩:=hc
 simp only [step,Option.bnd_eq_some_iff] at hs
 obtain ⟨vs,hvs,hs⟩:=hs
 obtain ⟨h1,h2⟩:=rv_evs hgl k hxs hvs
 have hstep:∀ (p q r:PV) (A B:Value),RV N0 g w p A→RV N0 g w q B→minMax2 mx p q=some r→∃ u,(if mx then Builtin.max2 A B else Builtin.min2 A B).run P w=.ok u w∧RV N0 g w r u:=by
  intro p q r A B hp hq hr
  cases hp <;> cases hq <;> simp only [minMax2] at hr <;> (try cases hr)
  cases mx
  ·exact ⟨_,rfl,.int _ _⟩
  ·exact ⟨_,rfl,.int _ _⟩
 have hfold:∀ (us:List Value) (ps:List PV) (p:PV) (A:Value) (r:PV),us.length=ps.length→(∀ (j:Nat) (x:PV),ps[j]?=some x→RV N0 g w x (us.getD j Go.undef))→RV N0 g w p A →
   minMax mx p ps=some r→∃ u,(us.foldlM (fun A B=>if mx then Builtin.max2 A B else Builtin.min2 A B) A:Sem Value).run P w=.ok u w∧RV N0 g w r u:=by
  intro us
  induction us with
  | nil =>
   intro ps p A r hl _ hA hr
   have:ps=[]:=by cases ps;rfl;simp at hl
   subst this
   simp only [minMax,Option.some.injEq] at hr
   subst hr
   exact ⟨A,by simp,hA⟩
  | cons u us ih =>
   intro ps p A r hl hj hA hr
   cases ps with
   | nil=>simp at hl
   | cons q ps =>
    simp only [minMax,Option.bnd_eq_some_iff] at hr
    obtain ⟨z,hz,hr⟩:=hr
    obtain ⟨u',hu',hzu⟩:=hstep p q z A u hA (by simpa using hj 0 q rfl) hz
    obtain ⟨u'',hu'',hru⟩:=ih ps z u' r (by simpa using hl) (fun j x hx=>by simpa using hj (j+1) x (by simpa using hx)) hzu hr
    refine ⟨u'',?_,hru⟩
    simp only [List.foldlM_cons,Sem.run_bind,hu',Result.andThen,hu'']
 cases vs with
 | nil=>cases hs
 | cons p ps =>
  simp only [Option.bnd_eq_some_iff,Option.some.injEq,Prod.mk.injEq] at hs
  obtain ⟨r,hr,rfl,rfl,rfl⟩:=hs
  cases has:c.args.toList with
  | nil=>rw [has] at h1;simp at h1
  | cons x xs' =>
   rw [has] at h1 h2
   obtain ⟨u,hu,hru⟩:=hfold (xs'.map a.eval) ps p (a.eval x) r (by simpa using h1) (fun j y hy=>by simpa using h2 (j+1) y (by simpa using hy)) (by simpa using h2 0 p rfl) hr
   refine gives_pure k ?_ hru
   obtain ⟨cs,hrun⟩:=run_of_builtin (P:=P) (w:=w) (a:=a) ho hb
   rw [hrun]
   have hargs:(c.args.map a.eval).toList=a.eval x :: xs'.map a.eval:=by simp [has]
   cases mx
   ·simp only [Bool.false_eq_true,if_false] at hu ⊢
    simp only [builtin,Builtin.min_,hargs,Sem.run_bind,hu,Result.andThen,Sem.run_pure]
   ·simp only [if_true] at hu ⊢
    simp only [builtin,Builtin.max_,hargs,Sem.run_bind,hu,Result.andThen,Sem.run_pure]
omit hgl in
theorem ix_rv {v:PV} {n i:Nat} {A:Value} (hr:RV N0 g w v A) (hi:ix v n=some i):∃ k m,A=.int k m∧0≤m∧m < n∧m.toNat=i:=by
 cases hr <;> simp only [ix] at hi <;> (try cases hi)
 rename_i k m
 split at hi
 ·rename_i hm
  simp only [Option.some.injEq] at hi
  exact ⟨k,m,rfl,hm.1,hm.2,hi⟩
 ·cases hi
theorem g_idxA (k:Ok (N0:=N0) w0 g e a.tmps h w) {t:TypeId} {x y:Operand} (ho:o.op=.indexAddr t x y) (hc:cOp P gl md o=some aop)
  (hs:step orc base draw aop e h=some (v,e',h')):Gives N0 P w0 g a w (execOp a.eval o) v e' h':=by
 simp only [cOp,ho] at hc
 split at hc
 ·rename_i el hu
  simp only [Option.bind_eq_some_iff,Option.map_eq_some_iff] at hc
  obtain ⟨n,hn,x',hx,y',hy,rfl⟩:=hc
  simp only [step,Option.bnd_eq_some_iff] at hs
  obtain ⟨p,hp,q,hq,hs⟩:=hs
  have h1:=rv_ev hgl k hx hp
  have h2:=rv_ev hgl k hy hq
  generalize hA:a.eval x=A at h1
  generalize hB:a.eval y=B at h2
  have run:∀ (c off len cap i:Nat) (kk:IntKind) (m:Int),A=.slice (some ⟨c,off,none⟩) len cap→B=.int kk m→0≤m→m < len→m.toNat=i →
    (execOp a.eval o).run P w=.ok (.value (.pointer (some ⟨c,off+i * n,none⟩))) w:=by
   rintro c off len cap i kk m rfl rfl h0 hm rfl
   have hcond:0≤m∧m < (len:Int):=⟨h0,hm⟩
   simp only [execOp,ho,hA,hB,Instr.indexAt,asIntOf,Sem.run_bind,Sem.run_pure,Result.andThen,run_underlying hu,if_pos hcond,run_sizeOf' hn,add_addr]
  cases h1 <;> simp only at hs
  case sl ow sz es c off cap u q1 q2 q3 q4 q5 q6 q7 q8 q9 =>
   split at hs
   ·rename_i hsz
    subst hsz
    simp only [Option.bnd_eq_some_iff,Option.some.injEq,Prod.mk.injEq] at hs
    obtain ⟨i,hi,el',hel,rfl,rfl,rfl⟩:=hs
    obtain ⟨kk,m,hBm,h0,hm,hmi⟩:=ix_rv h2 hi
    have hil:i < es.length:=(List.getElem?_eq_some_iff.1 hel).1
    obtain rfl:=q8 (by rintro rfl;simp at hel)
    have hlen:=q3 i el' hel
    refine gives_pure k (run c off es.length cap i kk m rfl hBm h0 hm hmi) ?_
    have:=RV.ep (N0:=N0) (g:=g) (w:=w) el'.cells 0 c (off+i * sz) (u i) (fun j hj=>by rw [Nat.add_assoc];exact q4 i j hil (by omega)) (fun j z hz=>q5 i j el' z hel hz) ?_
    ·simpa using this
    ·rw [hlen]
     have hle:i * sz+sz≤es.length * sz:=by
      have:=Nat.mul_le_mul_right sz hil
      rw [Nat.succ_mul] at this
      exact this
     rcases q6 (by rintro rfl;simp at hil) with q6 | ⟨m',hm',hle'⟩
     ·exact .inl q6
     ·exact .inr ⟨m',hm',by omega⟩
   ·cases hs
  case bsl fl b off len sz cap hb hl hfl hcpb =>
   split at hs
   ·rename_i hsz
    subst hsz
    simp only [Option.bnd_eq_some_iff,Option.some.injEq,Prod.mk.injEq] at hs
    obtain ⟨i,hi,rfl,rfl,rfl⟩:=hs
    obtain ⟨kk,m,hBm,h0,hm,hmi⟩:=ix_rv h2 hi
    exact gives_pure k (run (g.ι b) off len cap i kk m rfl hBm h0 hm hmi) (.ptr b _ hb)
   ·cases hs
  all_goals cases hs
 ·rename_i len el hu
  simp only [Option.bind_eq_some_iff,Option.map_eq_some_iff] at hc
  obtain ⟨n,hn,x',hx,y',hy,rfl⟩:=hc
  simp only [step,Option.bnd_eq_some_iff] at hs
  obtain ⟨p,hp,q,hq,hs⟩:=hs
  have h1:=rv_ev hgl k hx hp
  have h2:=rv_ev hgl k hy hq
  generalize hA:a.eval x=A at h1
  generalize hB:a.eval y=B at h2
  have run:∀ (c off i:Nat) (kk:IntKind) (m:Int),A=.pointer (some ⟨c,off,none⟩)→B=.int kk m→0≤m→m < len→m.toNat=i →
    (execOp a.eval o).run P w=.ok (.value (.pointer (some ⟨c,off+i * n,none⟩))) w:=by
   rintro c off i kk m rfl rfl h0 hm rfl
   have hcond:0≤m∧m < (len:Int):=⟨h0,hm⟩
   simp only [execOp,ho,hA,hB,Instr.indexAt,asIntOf,Sem.run_bind,Sem.run_pure,Result.andThen,run_underlying hu,Instr.sureAddr,if_pos hcond,run_sizeOf' hn,add_addr]
  cases h1 <;> simp only at hs
  case ptr b off hb =>
   simp only [Option.bnd_eq_some_iff,Option.some.injEq,Prod.mk.injEq] at hs
   obtain ⟨i,hi,rfl,rfl,rfl⟩:=hs
   obtain ⟨kk,m,hBm,h0,hm,hmi⟩:=ix_rv h2 hi
   exact gives_pure k (run (g.ι b) off i kk m rfl hBm h0 hm hmi) (.ptr b _ hb)
  case ep cs off c o' u q1 q2 q3 =>
   simp only [Option.bnd_eq_some_iff,Option.some.injEq,Prod.mk.injEq] at hs
   obtain ⟨i,hi,rfl,rfl,rfl⟩:=hs
   obtain ⟨kk,m,hBm,h0,hm,hmi⟩:=ix_rv h2 hi
   refine gives_pure k (run c (o'+off) i kk m rfl hBm h0 hm hmi) ?_
   rw [Nat.add_assoc]
   exact .ep cs _ c o' u q1 q2 q3
  all_goals cases hs
 ·cases hc
end
end Go.Am
namespace Go.Am
open Go.RowKit (Below)
set_option linter.unusedVariables false
set_option linter.unusedSimpArgs false
set_option linter.unusedSectionVars false
section
variable {N0:Nat} {P:Program} {w0:World} {g:G} {e:Env} {a:Act} {h:Hp} {w:World}
variable {o:Oper} {md:Nat} {orc:Orc} {base:Nat} {draw:Bool} {aop:AOp} {v:PV} {e':Env} {h':Hp} {gl:Globs} (hgl:GlobOk gl N0 w0)
include hgl
theorem bd_rv (k:Ok (N0:=N0) w0 g e a.tmps h w) {n dflt i:Nat} {x:Operand} {x':Opnd} (hx:cOpnd gl x=some x') (hb:bd e n dflt (some x')=some i) :
  i≤n∧∀ (m:Nat) (code:BoundsCode),n≤m→(Instr.sliceBound (a.eval x) m code).run P w=.ok i w:=by
 simp only [bd,Option.bnd_eq_some_iff] at hb
 obtain ⟨p,hp,hb⟩:=hb
 have hr:=rv_ev hgl k hx hp
 generalize a.eval x=A at hr
 cases hr <;> simp only at hb <;> (try cases hb)
 rename_i kk q
 split at hb
 ·rename_i hq
  simp only [Option.some.injEq] at hb
  subst hb
  refine ⟨by omega,fun m code hm=>?_⟩
  have hq':0≤q∧q≤(m:Int):=⟨hq.1,by omega⟩
  simp only [Instr.sliceBound,asIntOf,Sem.run_bind,Sem.run_pure,Result.andThen,if_pos hq']
 ·cases hb
theorem bounds_rv (k:Ok (N0:=N0) w0 g e a.tmps h w) {isS:Bool} {len cap:Nat} (hlc:len≤cap) {lo hi mx:Option Operand} {lo' hi' mx':Option Opnd} (h1:cOpt gl lo=some lo') (h2:cOpt gl hi=some hi')
  (h3:cOpt gl mx=some mx') (hmh:mx=none∨hi≠none) {m hh l:Nat} (b1:bd e len len mx'=some m) (b2:bd e m len hi'=some hh) (b3:bd e hh 0 lo'=some l) :
  l≤hh∧hh≤len∧∃ mc,hh≤mc∧mc≤cap∧(mx≠none→mc=m)∧(mx=none→mc=cap)∧(Instr.sliceBounds isS len cap (lo.map a.eval) (hi.map a.eval) (mx.map a.eval)).run P w=.ok (l,hh,mc) w:=by
 have opt:∀ (z:Option Operand) (z':Option Opnd),cOpt gl z=some z'→(z=none∧z'=none)∨∃ y y',z=some y∧z'=some y'∧cOpnd gl y=some y':=by
  intro z z' hz
  cases z with
  | none=>simp [cOpt] at hz;exact .inl ⟨rfl,hz.symm⟩
  | some y =>
   simp only [cOpt,Option.map_eq_some_iff] at hz
   obtain ⟨y',hy,rfl⟩:=hz
   exact .inr ⟨y,y',rfl,rfl,hy⟩
 have low:∀ (hh l:Nat),bd e hh 0 lo'=some l→l≤hh∧((lo=none∧l=0)∨∃ y,lo=some y∧∀ code,(Instr.sliceBound (a.eval y) hh code).run P w=.ok l w):=by
  intro hh l hb
  rcases opt lo lo' h1 with ⟨rfl,rfl⟩ | ⟨y,y',rfl,rfl,hy⟩
  ·simp only [bd,Option.some.injEq] at hb;subst hb;exact ⟨Nat.zero_le _,.inl ⟨rfl,rfl⟩⟩
  ·obtain ⟨hle,hrun⟩:=bd_rv (P:=P) hgl k hy hb
   exact ⟨hle,.inr ⟨y,rfl,fun code=>hrun hh code (Nat.le_refl _)⟩⟩
 rcases opt mx mx' h3 with ⟨rfl,rfl⟩ | ⟨ym,ym',rfl,rfl,hym⟩
 ·simp only [bd,Option.some.injEq] at b1
  subst b1
  rcases opt hi hi' h2 with ⟨rfl,rfl⟩ | ⟨yh,yh',rfl,rfl,hyh⟩
  ·simp only [bd,Option.some.injEq] at b2
   subst b2
   obtain ⟨l1,l2⟩:=low len l b3
   refine ⟨l1,Nat.le_refl _,cap,hlc,Nat.le_refl _,fun hq=>(hq rfl).elim,fun _=>rfl,?_⟩
   rcases l2 with ⟨rfl,rfl⟩ | ⟨y,rfl,hy⟩
   ·simp only [Instr.sliceBounds,Option.map_none,Sem.run_bind,Sem.run_pure,Result.andThen,Option.isSome_none]
   ·simp only [Instr.sliceBounds,Option.map_none,Option.map_some,Sem.run_bind,Sem.run_pure,Result.andThen,Option.isSome_none,hy]
  ·obtain ⟨m1,m2⟩:=bd_rv (P:=P) hgl k hyh b2
   obtain ⟨l1,l2⟩:=low hh l b3
   refine ⟨l1,m1,cap,by omega,Nat.le_refl _,fun hq=>(hq rfl).elim,fun _=>rfl,?_⟩
   rcases l2 with ⟨rfl,rfl⟩ | ⟨y,rfl,hy⟩
   ·simp only [Instr.sliceBounds,Option.map_none,Option.map_some,Sem.run_bind,Sem.run_pure,Result.andThen,m2 cap _ hlc,Option.isSome_none]
   ·simp only [Instr.sliceBounds,Option.map_none,Option.map_some,Sem.run_bind,Sem.run_pure,Result.andThen,m2 cap _ hlc,Option.isSome_none,hy]
 ·obtain ⟨m1,m2⟩:=bd_rv (P:=P) hgl k hym b1
  rcases opt hi hi' h2 with ⟨rfl,rfl⟩ | ⟨yh,yh',rfl,rfl,hyh⟩
  ·rcases hmh with hq | hq
   ·cases hq
   ·exact (hq rfl).elim
  ·obtain ⟨n1,n2⟩:=bd_rv (P:=P) hgl k hyh b2
   obtain ⟨l1,l2⟩:=low hh l b3
   refine ⟨l1,by omega,m,n1,by omega,fun _=>rfl,(fun hq=>by cases hq),?_⟩
   rcases l2 with ⟨rfl,rfl⟩ | ⟨y,rfl,hy⟩
   ·simp only [Instr.sliceBounds,Option.map_some,Option.map_none,Sem.run_bind,Sem.run_pure,Result.andThen,m2 cap _ hlc,n2 m _ (Nat.le_refl _),Option.isSome_some]
   ·simp only [Instr.sliceBounds,Option.map_some,Sem.run_bind,Sem.run_pure,Result.andThen,m2 cap _ hlc,n2 m _ (Nat.le_refl _),Option.isSome_some,hy]
theorem g_slice (k:Ok (N0:=N0) w0 g e a.tmps h w) {t:TypeId} {x:Operand} {lo hi mx:Option Operand} (ho:o.op=.slice t x lo hi mx) (hc:cOp P gl md o=some aop)
  (hs:step orc base draw aop e h=some (v,e',h')):Gives N0 P w0 g a w (execOp a.eval o) v e' h':=by
 simp only [cOp,ho] at hc
 by_cases hmh0:(mx.isSome && hi.isNone)=true
 ·rw [if_pos hmh0] at hc;cases hc
 rw [if_neg hmh0] at hc
 have hmh:mx=none∨hi≠none:=by
  cases mx with
  | none=>exact .inl rfl
  | some y=>cases hi with
   | none=>simp at hmh0
   | some z=>exact .inr (by simp)
 split at hc
 ·-- a string
  rename_i hu
  simp only [Option.bind_eq_some_iff,Option.map_eq_some_iff] at hc
  obtain ⟨x',hx,lo',hlo,hi',hhi,mx',hmx,rfl⟩:=hc
  simp only [step,Option.bnd_eq_some_iff,Option.some.injEq,Prod.mk.injEq] at hs
  obtain ⟨p,hp,r,hr,rfl,rfl,rfl⟩:=hs
  have h1:=rv_ev hgl k hx hp
  generalize hA:a.eval x=A at h1
  cases h1 <;> simp only [sliceOf] at hr
  case str l s hl =>
   split at hr
   ·cases hr
   ·rename_i hq
    simp only [Option.bnd_eq_some_iff,Option.some.injEq] at hr
    obtain ⟨hh,b2,ll,b3,rfl⟩:=hr
    have hlen:l.length=s.size:=by rw [←hl];simp
    have hmx0:mx'=none:=by cases mx' <;> simp at hq ⊢
    subst hmx0
    have hm0:mx=none:=by
     cases mx with
     | none=>rfl
     | some y=>simp [cOpt] at hmx
    subst hm0
    obtain ⟨c1,c2,mc,c3,c4,c5,c6,c7⟩:=bounds_rv (P:=P) (isS:=false) hgl k (Nat.le_refl l.length) hlo hhi hmx hmh (m:=l.length) rfl b2 b3
    rw [hlen] at c7
    refine gives_pure (u:=.string (s.extract ll hh)) k ?_ (.str _ _ ?_)
    ·simp only [execOp,ho,hA,Instr.sliceAt,Instr.slice,Sem.run_bind,run_underlying hu,Result.andThen,Option.map_none,Option.isSome_none,Bool.false_eq_true,if_false,Sem.run_pure]
     simp only [Option.map_none] at c7
     rw [c7]
    ·rw [←hl]
     simp [List.take_drop,List.extract_eq_take_drop] 
  all_goals (simp at hr)
 ·rename_i el hu
  simp only [Option.bind_eq_some_iff,Option.map_eq_some_iff] at hc
  obtain ⟨n,hn,x',hx,lo',hlo,hi',hhi,mx',hmx,rfl⟩:=hc
  simp only [step,Option.bnd_eq_some_iff,Option.some.injEq,Prod.mk.injEq] at hs
  obtain ⟨p,hp,r,hr,rfl,rfl,rfl⟩:=hs
  have h1:=rv_ev hgl k hx hp
  generalize hA:a.eval x=A at h1
  have hmxs:mx'.isSome=true→mx≠none:=by
   intro hq hq2
   subst hq2
   simp [cOpt] at hmx
   subst hmx
   simp at hq
  have hmxn:mx'.isNone=true→mx=none:=by
   intro hq
   cases mx with
   | none=>rfl
   | some y =>
    simp only [cOpt,Option.map_eq_some_iff] at hmx
    obtain ⟨z,_,rfl⟩:=hmx
    simp at hq
  have run:∀ (A0:Option Addr) (len cap l hh mc:Nat),A=.slice A0 len cap→(Instr.sliceBounds true len cap (lo.map a.eval) (hi.map a.eval) (mx.map a.eval)).run P w=.ok (l,hh,mc) w →
    (execOp a.eval o).run P w=.ok (.value (.slice (if mc=l then A0 else A0.map (·.add (l * n))) (hh - l) (mc - l))) w:=by
   rintro A0 len cap l hh mc rfl hb
   simp only [execOp,ho,hA,Instr.sliceAt,Instr.slice,Sem.run_bind,run_underlying hu,Result.andThen,Sem.run_pure,hb,run_sizeOf' hn]
  cases h1 <;> simp only [sliceOf] at hr
  case nils =>
   split at hr
   ·simp only [Option.bnd_eq_some_iff,Option.some.injEq] at hr
    obtain ⟨m,b1,hh,b2,ll,b3,rfl⟩:=hr
    have hm0:m=0:=by
     cases mx' with
     | none=>simp only [bd,Option.some.injEq] at b1;exact b1.symm
     | some y =>
      cases mx with
      | none=>simp [cOpt] at hmx
      | some z=>simp only [cOpt,Option.map_eq_some_iff] at hmx;obtain ⟨q,hq,hq2⟩:=hmx;cases hq2;have:=(bd_rv (P:=P) hgl k hq b1).1;omega
    subst hm0
    have hh0:hh=0:=by
     cases hi' with
     | none=>simp only [bd,Option.some.injEq] at b2;exact b2.symm
     | some y =>
      cases hi with
      | none=>simp [cOpt] at hhi
      | some z=>simp only [cOpt,Option.map_eq_some_iff] at hhi;obtain ⟨q,hq,hq2⟩:=hhi;cases hq2;have:=(bd_rv (P:=P) hgl k hq b2).1;omega
    subst hh0
    obtain ⟨c1,c2,mc,c3,c4,c5,c6,c7⟩:=bounds_rv (P:=P) (isS:=true) hgl k (Nat.le_refl 0) hlo hhi hmx hmh b1 b2 b3
    refine gives_pure k (run none 0 0 ll 0 mc rfl c7) ?_
    obtain rfl:ll=0:=by omega
    obtain rfl:mc=0:=by omega
    exact .nils
   ·cases hr
  case sl ow sz es c off cap u q1 q2 q3 q4 q5 q6 q7 q8 q9 =>
   split at hr
   ·rename_i hsz
    simp only [Option.some.injEq] at hsz
    subst hsz
    simp only [Option.bnd_eq_some_iff,Option.some.injEq] at hr
    obtain ⟨m,b1,hh,b2,ll,b3,rfl⟩:=hr
    obtain ⟨c1,c2,mc,c3,c4,c5,c6,c7⟩:=bounds_rv (P:=P) (isS:=true) hgl k q1 hlo hhi hmx hmh b1 b2 b3
    refine gives_pure k (run _ _ _ ll hh mc rfl c7) ?_
    by_cases hes:es=[]
    ·subst hes
     simp only [List.length_nil] at *
     obtain rfl:ll=0:=by omega
     obtain rfl:hh=0:=by omega
     have hv:(Value.slice (if mc=0 then some ⟨c,off,q7⟩ else Option.map (fun x:Addr=>x.add (0 * n)) (some ⟨c,off,q7⟩)) (0 - 0) (mc - 0))=Value.slice (some ⟨c,off,q7⟩) 0 mc:=by simp [Addr.add]
     rw [hv]
     simp only [List.drop_nil,List.take_nil]
     refine RV.sl (N0:=N0) (g:=g) (w:=w) _ n [] c off mc (fun _ _=>Go.undef) (by simp) ?_ (by simp) (by simp) (by simp) (by simp) q7 (by simp) (by intro t ht;split at ht <;> (try split at ht) <;> cases ht)
     intro hfull
     split at hfull
     ·rename_i hq
      simp only [Bool.and_eq_true,beq_iff_eq] at hq
      have:=c5 (hmxs hq.1)
      simp;omega
     ·split at hfull
      ·rename_i hq
       simp only [Bool.and_eq_true,beq_iff_eq] at hq
       have h1:=c6 (hmxn hq.1.1)
       have h2:cap=0:=by
        apply q2
        cases ow <;> simp [isFull] at hq ⊢
       simp;omega
      ·cases hfull
    obtain rfl:=q8 hes
    have hlen:((es.drop ll).take (hh - ll)).length=hh - ll:=by simp;omega
    have hget:∀ i e,((es.drop ll).take (hh - ll))[i]?=some e→i < hh - ll∧es[ll+i]?=some e:=by
     intro i e he
     have hi:i < hh - ll:=by rw [←hlen];exact (List.getElem?_eq_some_iff.1 he).1
     rw [List.getElem?_take,if_pos hi,List.getElem?_drop] at he
     exact ⟨hi,he⟩
    have hmk:∀ off',(hh - ll=0∨off'=off+ll * n)→RV N0 g w (.sl (if mx'.isSome && m == hh then .full else if mx'.isNone && isFull ow && hh == es.length then .full else .no) n ((es.drop ll).take (hh - ll)))
      (.slice (some ⟨c,off',none⟩) (hh - ll) (mc - ll)):=by
     intro off' hoff
     have:=RV.sl (N0:=N0) (g:=g) (w:=w) (if mx'.isSome && m == hh then .full else if mx'.isNone && isFull ow && hh == es.length then .full else .no) n
      ((es.drop ll).take (hh - ll)) c off' (mc - ll) (fun i j=>u (ll+i) j) (by rw [hlen];omega) ?_ (fun i e he=>q3 _ _ (hget i e he).2) ?_ (fun i j e z he hz=>q5 _ j e z (hget i e he).2 hz) ?_ none (fun _=>rfl) (by intro t ht;split at ht <;> (try split at ht) <;> cases ht)
     ·rw [hlen] at this;exact this
     ·intro hfull
      rw [hlen]
      split at hfull
      ·rename_i hq
       simp only [Bool.and_eq_true,beq_iff_eq] at hq
       have:=c5 (hmxs hq.1)
       omega
      ·split at hfull
       ·rename_i hq
        simp only [Bool.and_eq_true,beq_iff_eq] at hq
        have h1:=c6 (hmxn hq.1.1)
        have h2:cap=es.length:=by
         apply q2
         cases ow <;> simp [isFull] at hq ⊢
        omega
       ·cases hfull
     ·intro i j hi hj
      rw [hlen] at hi
      rcases hoff with hoff | hoff
      ·omega
      ·have:=q4 (ll+i) j (by omega) hj
       rw [hoff,show off+ll * n+(i * n+j)=off+((ll+i) * n+j) by rw [Nat.add_mul];omega]
       exact this
     ·intro hne
      have hpos:0 < hh - ll:=by
       rw [←hlen]
       exact List.length_pos_iff.2 hne
      have hoff':off'=off+ll * n:=hoff.resolve_left (by omega)
      rw [hlen,hoff']
      have hle:ll * n+(hh - ll) * n≤es.length * n:=by rw [←Nat.add_mul];exact Nat.mul_le_mul_right _ (by omega)
      rcases q6 (by rintro rfl;simp at c2;omega) with q6 | ⟨m',hm',hle'⟩
      ·exact .inl q6
      ·exact .inr ⟨m',hm',by omega⟩
    by_cases hml:mc=ll
    ·rw [if_pos hml]
     exact hmk off (.inl (by omega))
    ·rw [if_neg hml]
     simp only [Option.map_some,add_addr]
     exact hmk _ (.inr rfl)
   ·cases hr
  case bsl fl b off len sz cap hb hl hfl hcpb =>
   split at hr
   ·rename_i hsz
    simp only [Option.some.injEq] at hsz
    subst hsz
    simp only [Option.bnd_eq_some_iff] at hr
    obtain ⟨m,b1,hh,b2,ll,b3,hr⟩:=hr
    obtain ⟨c1,c2,mc,c3,c4,c5,c6,c7⟩:=bounds_rv (P:=P) (isS:=true) hgl k hl hlo hhi hmx hmh b1 b2 b3
    by_cases h0:hh - ll=0
    ·rw [if_pos h0] at hr
     simp only [Option.some.injEq] at hr
     subst hr
     refine gives_pure k (run _ _ _ ll hh mc rfl c7) ?_
     have hmk:∀ off',RV N0 g w (.sl (if mx'.isSome && m == hh then .full else .no) n []) (.slice (some ⟨g.ι b,off',none⟩) 0 (mc - ll)):=by
      intro off'
      refine RV.sl (N0:=N0) (g:=g) (w:=w) _ n [] (g.ι b) off' (mc - ll) (fun _ _=>Go.undef) (by simp) ?_ (by simp) (by simp) (by simp) (by simp) none (fun _=>rfl) (by intro t ht;split at ht <;> cases ht)
      intro hfull
      split at hfull
      ·rename_i hq
       simp only [Bool.and_eq_true,beq_iff_eq] at hq
       have:=c5 (hmxs hq.1)
       simp
       omega
      ·cases hfull
     rw [h0]
     by_cases hml:mc=ll
     ·rw [if_pos hml];exact hmk off
     ·rw [if_neg hml];simp only [Option.map_some,add_addr];exact hmk _
    ·rw [if_neg h0] at hr
     simp only [Option.some.injEq] at hr
     subst hr
     refine gives_pure k (run _ _ _ ll hh mc rfl c7) ?_
     rw [if_neg (show ¬ mc=ll by omega)]
     simp only [Option.map_some,add_addr]
     refine .bsl _ b _ _ n _ hb (by omega) (fun hfull=>?_) (by
      have hle:ll * n+(mc - ll) * n≤cap * n:=by rw [←Nat.add_mul];exact Nat.mul_le_mul_right _ (by omega)
      omega)
     split at hfull
     ·rename_i hq
      simp only [Bool.and_eq_true,beq_iff_eq] at hq
      have:=c5 (hmxs hq.1)
      omega
     ·simp only [Bool.and_eq_true,beq_iff_eq] at hfull
      have h1:=c6 (hmxn hfull.1.1)
      have h2:=hfl hfull.1.2
      omega
   ·cases hr
  all_goals first | cases hr | (simp at hr)
 ·cases hc
end
end Go.Am
