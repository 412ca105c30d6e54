/- The abstract machine 'Am': pure values, a heap of boxes, no order Ui, no U1. uk alone. | 'Am': more fuel answers the same; the machine without fuel, and its equations. | 'Am': the equations by which simp X0. | 'Am': from the Dd program's code to the abstract machine's code. uk alone. | 'Am': on the machine alone: what an operation hangs on; operations that change places; pointers that stay below. | 'Am': old boxes never point at younger ones. | 'Am': how the abstract machine's values and boxes stand for the program's memory. | 'Am': each operation of the program does what the machine's does. | 'Am': the operations, one by one. | 'Am': the operations, one by one (second part). | 'Am': the operations, one by one (third part): what makes and reads slices. | 'Am': the operations, one by one (fourth part): slices and structs that are made. | 'Am': the operations, one by one (amH part): what is built, and append.
   By the session's AI agent. -/
import Derived.Calls
import GoSem.Core.Utf8
import Derived.Below
import Derived.Laws.Append
import Derived.Laws.CopyRow
import Derived.WalkKit
import Derived.ChangeKeysEq
import Derived.MapKept
set_option linter.unusedSectionVars false
set_option linter.unusedSimpArgs false
set_option linter.unusedVariables false
namespace Go.Am
noncomputable section
noncomputable def _root_.Option.ah {α β:Type} (f:α→Option β) (x:Option α):Option β:=Option.rec (motive:=fun _=>Option β) none f x
@[congr] theorem _root_.Option.XZ {α β:Type} {x y:Option α} {f:α→Option β} (h:x=y):x.ah f=y.ah f:=by rw[h]
theorem _root_.Option.ag {α β:Type} (a:α) (f:α→Option β):(some a).ah f=f a:=(rfl)
theorem _root_.Option.iq {α β:Type} (f:α→Option β):(none:Option α).ah f=none:=(rfl)
theorem _root_.Option.KO {α β:Type} {c:Prop} [Decidable c] (x y:Option α) (f:α→Option β):(if c then x else y).ah f=if c then x.ah f else y.ah f:=by
 split<;>rfl
theorem _root_.Option.aa {α β:Type} {x:Option α} {f:α→Option β} {b:β}:x.ah f=some b↔∃ a,x=some a∧f a=some b:=by
 cases x<;>simp[Option.ah]
inductive Own where
 | no | full | tok (t:Nat)
 deriving DecidableEq
inductive PV where
 | undef
 | bool (b:Bool)
 | int (k:IntKind) (n:Int)
 | str (s:List UInt8)
 | bp
 | eG (T:Nat)
 | ptr (b off:Nat)
 | ep (e:List PV) (off:Nat)
 | bg
 | sl (o:Own) (sz:Nat) (es:List PV)
 | bX (full:Bool) (b off len sz:Nat)
 | dJ
 | iface (t:Nat) (v:PV)
 | gP
 | fn (f:Nat) (cap:List PV)
 | agg (cs:List PV)
 | cF (vs:List PV)
 | it (b:Nat)
 | gu
 | eL (b:Nat)
 deriving Inhabited
mutual
def PV.eqB:PV→PV→Bool
 | .undef,.undef=>true
 | .bool a,.bool b=>a == b
 | .int k a,.int j b=>decide (k=j)&&a == b
 | .str a,.str b=>a == b
 | .bp,.bp=>true
 | .eG a,.eG b=>a == b
 | .ptr a b,.ptr c d=>a == c&&b == d
 | .ep e o,.ep e' o'=>PV.Ef e e'&&o == o'
 | .bg,.bg=>true
 | .sl o s es,.sl o' s' es'=>decide (o=o')&&s == s'&&PV.Ef es es'
 | .bX f a b c d,.bX f' a' b' c' d'=>f == f'&&a == a'&&b == b'&&c == c'&&d == d'
 | .dJ,.dJ=>true
 | .iface t v,.iface t' v'=>t == t'&&PV.eqB v v'
 | .gP,.gP=>true
 | .fn f c,.fn f' c'=>f == f'&&PV.Ef c c'
 | .agg cs,.agg cs'=>PV.Ef cs cs'
 | .cF cs,.cF cs'=>PV.Ef cs cs'
 | .it b,.it c=>b == c
 | .gu,.gu=>true
 | .eL b,.eL c=>b == c
 | _,_=>false
def PV.Ef:List PV→List PV→Bool
 | [],[]=>true
 | x::xs,y::ys=>PV.eqB x y&&PV.Ef xs ys
 | _,_=>false
end
mutual
theorem PV.CR:∀ (a b:PV),PV.eqB a b=true↔a=b:=by
 intro a b;cases a<;>cases b<;>simp[PV.eqB,PV.Eg,PV.CR,and_assoc]
theorem PV.Eg:∀ (a b:List PV),PV.Ef a b=true↔a=b:=by
 intro a b;cases a<;>cases b<;>simp[PV.Ef,PV.Eg,PV.CR]
end
instance:DecidableEq PV:=fun a b=>decidable_of_iff _ (PV.CR a b)
inductive gW where
 | cells (cs:List PV)
 | tok (n T:Nat)
 | iter (s:List UInt8) (pos:Nat)
 | map (es:List (PV × PV))
 | dead
 deriving DecidableEq,Inhabited
abbrev Hp:=List gW
abbrev Env:=List (Nat × PV)
def size (h:Hp):Nat:=h.length
def cellsOf:gW→Option (List PV)
 | .cells cs=>some cs
 | _=>none
def nX:gW→Option (Nat × Nat)
 | .tok n T=>some (n,T)
 | _=>none
def qP:gW→Option (List UInt8 × Nat)
 | .iter s p=>some (s,p)
 | _=>none
def mapOf:gW→Option (List (PV × PV))
 | .map es=>some es
 | _=>none
def bY (h:Hp) (b:Nat):Option gW:=h[b]?
def ay (h:Hp) (b:Nat):Option (List PV):=(bY h b).ah cellsOf
def dw (h:Hp) (b:Nat):Option (Nat × Nat):=(bY h b).ah nX
def fQ (h:Hp) (b:Nat):Option (List UInt8 × Nat):=(bY h b).ah qP
def bR (h:Hp) (b:Nat):Option (List (PV × PV)):=(bY h b).ah mapOf
def aC (h:Hp) (b:Nat) (c:gW):Hp:=h.set b c
def cx (h:Hp) (b:Nat) (c:List PV):Hp:=aC h b (.cells c)
def ext (h l:Hp):Hp:=h++l
def bJ (h:Hp) (n:Nat):Hp:=h.take n
def look:Env→Nat→Option PV
 | [],_=>none
 |(i,v)::e,t=>if i=t then some v else look e t
def Own.strip:Own→Own
 | .tok _=>.no
 | o=>o
mutual
def strip:PV→PV
 | .sl o sz es=>.sl o.strip sz es
 | .agg cs=>.agg (aO cs)
 | .cF cs=>.cF (aO cs)
 | .iface t v=>.iface t (strip v)
 | .fn f cs=>.fn f (aO cs)
 | v=>v
def aO:List PV→List PV
 | []=>[]
 | v::vs=>strip v::aO vs
end
def PV.cells:PV→List PV
 | .agg cs=>cs
 | v=>[v]
inductive bH where
 | tmp (t:Nat)
 | const (v:PV)
def ev (e:Env):bH→Option PV
 | .tmp t=>look e t
 | .const v=>some v
def nA (e:Env):List bH→Option (List PV)
 | []=>some []
 | x::xs=>(ev e x).ah fun v=>(nA e xs).ah fun vs=>some (v::vs)
inductive yN where
 | makeMap
 | lookup (ks:List Nat) (agg:Bool) (z:PV) (ok:Bool)
 | CS (ks:List Nat) (agg:Bool)
 | CT (ks:List Nat) (agg:Bool)
 | tq
 | fC (cs:List PV)
 | mark
 | vJ (sz:Nat)
 | jt (n len:Nat) (lo hi:Bool)
 | fix
 deriving DecidableEq
inductive iP where
 | Uk (x:bH)
 | pick (c a b:bH)
 | alloc (zero:List PV)
 | box (n:Nat) (x:bH)
 | build (zero:List PV) (parts:List (Nat × Nat × bH))
 | pQ (sz:Nat) (agg:Bool) (zero:List PV) (len:Nat) (parts:List (Nat × bH))
 | load (n:Nat) (agg:Bool) (a:bH)
 | store (n:Nat) (a x:bH)
 | rO (x:bH)
 | bin (op:BinOp) (x y:bH)
 | CU (neg:Bool) (x y:bH)
 | oB (kind:Nat) (neg:Bool) (x:bH)
 | un (op:UnOp) (x:bH)
 | toInt (k:IntKind) (x:bH)
 | ir (box:Bool) (x:bH)
 | iu (x:bH)
 | HV (f:Nat) (cap:List bH)
 | mD (T:Nat) (z:List PV) (agg:Bool) (len cap:bH)
 | oC (d x:bH)
 | range (x:bH)
 | next (x:bH)
 | eqv (neg:Bool) (ks:List Nat) (x y:bH)
 | HW (t:Nat) (x:bH)
 | slice (sz:Option Nat) (x:bH) (lo hi mx:Option bH)
 | nC (off:Nat) (x:bH)
 | field (off n:Nat) (agg:Bool) (x:bH)
 | CV (sz:Nat) (x i:bH)
 | oD (sz len:Nat) (x i:bH)
 | nD (x i:bH)
 | oE (sz:Nat) (agg:Bool) (len:Nat) (x i:bH)
 | extract (x:bH) (i:Nat)
 | kC (t:Nat) (ok:Bool) (zero:PV) (x:bH)
 | len (str:Bool) (x:bH)
 | mE (max:Bool) (xs:List bH)
 | append (sz:Nat) (s x:bH)
 | iC (T sz:Nat) (s x:bH)
 | fD (sz:Nat) (s x:bH)
 | call (f:Nat) (args:List bH)
 | lX (x:bH) (args:List bH)
 | jm (f:Nat) (args:List bH)
 | gy (t n:Nat) (agg:Bool) (a:bH)
 | fR (t n:Nat) (a x:bH)
 | gen (k:yN) (xs:List bH)
 | fE (k n:Nat) (agg:Bool) (a:bH)
 | iW (k f:Nat) (args:List bH)
 | qQ (k:Nat) (g:yN) (xs:List bH)
 | stuck
structure cq where
 dst:Option Nat
 guard:Option (Nat × Bool)
 op:iP
inductive cE where
 | skip
 | ops (l:List cq) (draw:Bool) (keep:List Nat)
 | seq (a b:cE)
 | cond (c:bH) (a b:cE)
 | block (id:Nat) (a:cE)
 | loop (a:cE)
 | scope (a:cE)
 | exit (id:Nat)
 | ret
structure dm where
 results:List (Nat × Option (Nat × Bool))
 body:cE
 keep:Bool:=false
 own:Bool:=false
inductive Um where
 | code (f:dm)
 | oF (g:List PV→Hp→Option (PV × Option (Nat × List PV)))
 | jo (g:List PV→Hp→Option (PV × List gW))
abbrev Table:=Nat→Option Um
/-! ### Plain parts -/
def gA:Nat:=17179869184      -- 2 ^ 34: how long a slice may get by append
def OH:Nat:=4611686018427387904      -- 2 ^ 62
def scalar:PV→Bool
 | .undef | .agg _ | .cF _ | .it _ | .eG _=>false
 | _=>true
def part (cs:List PV) (off n:Nat) (agg:Bool):Option PV :=
 if agg then(if off+n≤cs.length then some (.agg ((cs.drop off).take n)) else none)
 else cs[off]?
def bE:List PV→Nat→List PV→List PV
 | cs,_,[]=>cs
 | cs,off,v::vs=>bE (cs.set off v) (off+1) vs
def chunks (sz:Nat) (agg:Bool):Nat→List PV→List PV
 | 0,_=>[]
 | n+1,cs=>(if agg then .agg (cs.take sz) else(cs.headD .undef))::chunks sz agg n (cs.drop sz)
def elems (h:Hp):PV→Option (List PV)
 | .bg=>some []
 | .sl _ _ es=>some es
 | .bX _ b off len sz=>if sz=1 then(ay h b).ah fun cs=>if off+len≤cs.length∧((cs.drop off).take len).all scalar=true then some ((cs.drop off).take len) else none else none
 | .str s=>some (s.map fun c=>.int .u8 c.toNat)
 | _=>none
def bytesOf:List PV→Option (List UInt8)
 | []=>some []
 | .int .u8 n::r=>(bytesOf r).map fun l=>UInt8.ofNat n.toNat::l
 | _=>none
def eV (sz:Nat):List (Nat × PV)→List PV→Option (List PV)
 | [],cs=>some cs
 |(i,v)::r,cs=>if v.cells.length=sz∧i<cs.length∧v.cells.all scalar=true then eV sz r (cs.set i v) else none
def iy:List (Nat × Nat × PV)→List PV→Option (List PV)
 | [],cs=>some cs
 |(off,n,v)::r,cs=>if v.cells.length=n∧off+n≤cs.length∧v.cells.all scalar=true then iy r (bE cs off v.cells) else none
def eX (e:Env):List (Nat × bH)→Option (List (Nat × PV))
 | []=>some []
 |(i,x)::r=>(ev e x).ah fun v=>(eX e r).map fun l=>(i,strip v)::l
def eY (e:Env):List (Nat × Nat × bH)→Option (List (Nat × Nat × PV))
 | []=>some []
 |(i,n,x)::r=>(ev e x).ah fun v=>(eY e r).map fun l=>(i,n,v)::l
def intBits (op:BinOp) (k:IntKind) (x y:Int):Option PV :=
 let a:=BitVec.ofInt k.bits x
 let b:=BitVec.ofInt k.bits y
 match op with
 | .and=>some (.int k (k.wrap (a &&& b).toNat))
 | .or=>some (.int k (k.wrap (a ||| b).toNat))
 | .xor=>some (.int k (k.wrap (a ^^^ b).toNat))
 | .andNot=>some (.int k (k.wrap (a &&& ~~~b).toNat))
 | _=>none
def kz (op:BinOp) (k:IntKind) (a b:Int):Option PV :=
 match op with
 | .add=>some (.int k (k.wrap (a+b)))
 | .sub=>some (.int k (k.wrap (a-b)))
 | .mul=>some (.int k (k.wrap (a*b)))
 | .quo=>if b=0 then none else some (.int k (k.wrap (a.tdiv b)))
 | .rem=>if b=0 then none else some (.int k (a.tmod b))
 | .eql=>some (.bool (a == b))
 | .neq=>some (.bool (a != b))
 | .lss=>some (.bool (decide (a<b)))
 | .leq=>some (.bool (decide (a≤b)))
 | .gtr=>some (.bool (decide (a > b)))
 | .geq=>some (.bool (decide (a≥b)))
 | op=>intBits op k a b
def shiftOp (op:BinOp) (k:IntKind) (a b:Int):Option PV :=
 if b<0 then none else
 match op with
 | .shl=>some (.int k (k.wrap (a*2 ^ (min b.toNat k.bits))))
 | .shr=>some (.int k (a.fdiv (2 ^ (min b.toNat k.bits))))
 | _=>none
def bytesLess:List UInt8→List UInt8→Bool
 | _,[]=>false
 | [],_::_=>true
 | a::x,b::y=>a<b||(a == b&&bytesLess x y)
def yO (op:BinOp) (x y:List UInt8):Option PV :=
 match op with
 | .add=>if x.length+y.length≤OH then some (.str (x++y)) else none
 | .eql=>some (.bool (x == y))
 | .neq=>some (.bool (x != y))
 | .lss=>some (.bool (bytesLess x y))
 | .leq=>some (.bool (bytesLess x y||x == y))
 | .gtr=>some (.bool (!(bytesLess x y||x == y)))
 | .geq=>some (.bool (!(bytesLess x y)))
 | _=>none
def dM:BinOp→Bool
 | .shl | .shr=>true
 | _=>false
def binOp (op:BinOp):PV→PV→Option PV
 | .int k a,.int j b=>if dM op then shiftOp op k a b else if k=j then kz op k a b else none
 | .str a,.str b=>yO op a b
 | _,_=>none
def jk:Nat→PV→Option Bool
 | 0,.bp=>some true
 | 0,.eG _=>some true
 | 0,.ptr _ _=>some false
 | 0,.ep _ _=>some false
 | 1,.bg=>some true
 | 1,.sl _ _ _=>some false
 | 1,.bX _ _ _ _ _=>some false
 | 2,.dJ=>some true
 | 2,.iface _ _=>some false
 | 3,.gP=>some true
 | 3,.fn _ _=>some false
 | 4,.gu=>some true
 | 4,.eL _=>some false
 | _,_=>none
def isNil:PV→Option Bool
 | .bp | .bg | .dJ | .gP | .eG _=>some true
 | .ptr _ _ | .ep _ _ | .sl _ _ _ | .bX _ _ _ _ _ | .iface _ _ | .fn _ _=>some false
 | _=>none
def unOp (op:UnOp):PV→Option PV
 | .bool b=>match op with
  | .not=>some (.bool (!b))
  | _=>none
 | .int k n=>match op with
  | .neg=>some (.int k (k.wrap (0-n)))
  | .xor=>intBits .xor k (if k.signed then -1 else k.max) n
  | _=>none
 | _=>none
def ix (v:PV) (n:Nat):Option Nat :=
 match v with
 | .int _ i=>if 0≤i∧i<n then some i.toNat else none
 | _=>none
def bd (e:Env) (n dflt:Nat):Option bH→Option Nat
 | none=>some dflt
 | some x=>(ev e x).ah fun v=>match v with
  | .int _ i=>if 0≤i∧i≤n then some i.toNat else none
  | _=>none
def isFull:Own→Bool
 | .full=>true
 | _=>false
def iD (e:Env) (n:Option Nat) (lo hi mx:Option bH):PV→Option PV
 | .str s=>if mx.isSome∨n.isSome then none else
  (bd e s.length s.length hi).ah fun hh=>(bd e hh 0 lo).ah fun l=>some (.str ((s.drop l).take (hh-l)))
 | .bg=>if n.isSome then(bd e 0 0 mx).ah fun m=>(bd e 0 0 hi).ah fun hh=>(bd e 0 0 lo).ah fun l=>some .bg else none
 | .sl o sz es=>if n=some sz then(bd e es.length es.length mx).ah fun m=>(bd e m es.length hi).ah fun hh=>(bd e hh 0 lo).ah fun l =>
   some (.sl (if mx.isSome&&m == hh then .full else if mx.isNone&&isFull o&&hh == es.length then .full else .no) sz ((es.drop l).take (hh-l)))
   else none
 | .bX f b off len sz=>if n=some sz then(bd e len len mx).ah fun m=>(bd e m len hi).ah fun hh=>(bd e hh 0 lo).ah fun l =>
   if hh-l=0 then some (.sl (if mx.isSome&&m == hh then .full else .no) sz []) else some (.bX (if mx.isSome&&m == hh then true else mx.isNone&&f&&hh == len) b (off+l*sz) (hh-l) sz)
   else none
 | _=>none
def pR (mx:Bool):PV→PV→Option PV
 | .int k x,.int _ y=>some (.int k (if mx then(if y > x then y else x) else(if y<x then y else x)))
 | _,_=>none
def mF (mx:Bool):PV→List PV→Option PV
 | x,[]=>some x
 | x,y::r=>(pR mx x y).ah fun z=>mF mx z r
def Own.below (n:Nat):Own→Bool
 | .tok t=>decide (t<n)
 | _=>true
mutual
def below (n:Nat):PV→Bool
 | .ptr b _ | .bX _ b _ _ _ | .it b | .eL b=>decide (b<n)
 | .ep e _=>belows n e
 | .sl o _ es=>o.below n&&belows n es
 | .iface _ v=>below n v
 | .fn _ c=>belows n c
 | .agg cs=>belows n cs
 | .cF vs=>belows n vs
 | _=>true
def belows (n:Nat):List PV→Bool
 | []=>true
 | v::vs=>below n v&&belows n vs
end
def tu (h:Hp) (v:PV):Option (List PV):=match v with
 | .bg=>some []
 | .sl .full _ es=>some es
 | .bX true b off len sz=>elems h (.bX true b off len sz)
 | _=>none
def aD {α:Type} (v:PV) (x y:Option α):Option α :=
 match v with
 | .bool true=>x
 | .bool false=>y
 | _=>none
theorem aR {α:Type} (x y:Option α):aD (.bool true) x y=x:=(rfl)
theorem aL {α:Type} (x y:Option α):aD (.bool false) x y=y:=(rfl)
theorem fS {α:Type} {v:PV} {x y:Option α} {r:α}:aD v x y=some r↔(v=.bool true∧x=some r)∨(v=.bool false∧y=some r):=by
 cases v with
 | bool b=>cases b<;>simp[aD]
 | _=>simp[aD]
theorem Si {α:Type} (b:Bool) (x y:Option α):aD (.bool b) x y=if b=true then x else y:=by cases b<;>rfl
def KP (l c:PV):Option (Nat × Nat) :=
 match l,c with
 | .int _ l,.int _ c=>if 0≤l∧l≤c∧c≤gA then some (l.toNat,c.toNat) else none
 | _,_=>none
def iF (s:List UInt8) (pos:Nat):Nat × Nat:=Utf8.decode ⟨s.toArray⟩ pos
def fF:Nat→PV→PV→Option Bool
 | 0,.bool a,.bool b=>some (a == b)
 | 1,.int k a,.int j b=>if k=j then some (a == b) else none
 | 2,.str a,.str b=>some (a == b)
 | _,_,_=>none
def cy:List Nat→List PV→List PV→Option Bool
 | [],[],[]=>some true
 | k::ks,x::xs,y::ys=>(fF k x y).ah fun b=>(cy ks xs ys).ah fun c=>some (b&&c)
 | _,_,_=>none
def fits (sz:Nat) (x:PV):Bool:=x.cells.length == sz&&x.cells.all scalar
def gr (h:Hp) (T sz:Nat) (v:PV) (xs:List PV):Option (PV × Hp) :=
 if xs.all (fits sz) then
 match v with
 | .bg=>if xs.length≤gA then some (if xs.isEmpty then(.bg,h) else(.sl (.tok (size h)) sz (aO xs),ext h [.tok xs.length T])) else none
 | .sl .full sz' es=>if sz'=sz∧es.length+xs.length≤gA then some (if xs.isEmpty then(.sl .full sz es,h) else(.sl (.tok (size h)) sz (es++aO xs),ext h [.tok (es.length+xs.length) T])) else none
 | .sl (.tok t) sz' es=>(dw h t).ah fun n=>if sz'=sz∧n=(es.length,T)∧es.length+xs.length≤gA then some (.sl (.tok t) sz (es++aO xs),aC h t (.tok (es.length+xs.length) T)) else none
 | _=>none
 else none
def rP (sz len:Nat) (cs:List PV):Option (List PV) :=
 if sz=1 then(if len≤cs.length∧(cs.take len).all scalar=true then some (aO (cs.take len)) else none)
 else if sz≠0∧len*sz≤cs.length then some (chunks sz true len (aO cs)) else none
mutual
def gY (n0:Nat) (h:Hp):PV→Option PV
 | .sl o sz es=>some (.sl o.strip sz es)
 | .bX f b off len sz=>if b<n0 then some (.bX f b off len sz) else
   (ay h b).ah fun cs=>(rP sz len (cs.drop off)).ah fun es=>some (.sl (if f then .full else .no) sz es)
 | .agg cs=>(fN n0 h cs).ah fun cs=>some (.agg cs)
 | .cF cs=>(fN n0 h cs).ah fun cs=>some (.cF cs)
 | .iface t v=>(gY n0 h v).ah fun v=>some (.iface t v)
 | v=>some v
def fN (n0:Nat) (h:Hp):List PV→Option (List PV)
 | []=>some []
 | v::vs=>(gY n0 h v).ah fun v=>(fN n0 h vs).ah fun vs=>some (v::vs)
end
def forget (h:Hp) (r:PV × Hp):Option (PV × Hp):=if r.2=h then some r else
 (gY (size h) r.2 r.1).ah fun v=>if below (size h) v=true∧size h≤size r.2∧bJ r.2 (size h)=h then some (v,h) else none
def gv (orc:Nat→List PV→Hp→Option (PV × Hp)):Nat→List PV→Hp→Option (PV × Hp):=fun f vs h=>(orc f vs h).ah (forget h)
def nY (ks:List Nat) (agg:Bool) (k:PV):Bool:=match k with
 | .agg cs=>agg&&cs.length == ks.length
 | _=>!agg
def KR (ks:List Nat):Bool→PV→PV→Option Bool
 | true,.agg cs,.agg ds=>cy ks cs ds
 | false,x,y=>fF (ks.headD 3) x y
 | _,_,_=>none
def jL (ks:List Nat) (agg:Bool) (k:PV):List (PV × PV)→Nat→Option (Option Nat)
 | [],_=>some none
 | e::r,i=>(KR ks agg k e.1).ah fun b=>if b then some (some i) else jL ks agg k r (i+1)
def entriesOf (h:Hp):PV→Option (List (PV × PV))
 | .gu=>some []
 | .eL b=>bR h b
 | _=>none
def BL (z:PV) (es:List (PV × PV)):Option Nat→Option (PV × Bool)
 | none=>some (z,false)
 | some i=>(es[i]?).ah fun e=>some (e.2,true)
def OJ (k v:PV) (es:List (PV × PV)):Option Nat→List (PV × PV)
 | none=>es++[(k,v)]
 | some i=>es.set i (k,v)
def oG (h:Hp) (sz:Nat):PV→Option (Nat × List PV × Hp)
 | .bg=>some (0,[],h)
 | .sl .full sz' es=>if sz'=sz then some (es.length,es.flatMap PV.cells,h) else none
 | .bX _ b off len sz'=>(ay h b).ah fun cs=>if sz'=sz∧off=0∧len*sz≤cs.length then some (len,cs.take (len*sz),aC h b .dead) else none
 | _=>none
def U2 (es:List (PV × PV)):Option Nat→List (PV × PV)
 | none=>es
 | some i=>es.eraseIdx i
def R7 (n dflt:Nat):Option PV→Option Nat
 | none=>some dflt
 | some v=>match v with
  | .int _ i=>if 0≤i∧i≤n then some i.toNat else none
  | _=>none
def HH (n len:Nat) (v:PV) (lo hi:Option PV) (h:Hp):Option (PV × Hp):=match v with
 | .ptr b off=>(ay h b).ah fun cs=>if off+len*n≤cs.length then(R7 len len hi).ah fun hh=>(R7 hh 0 lo).ah fun l =>
   if hh-l=0 then some (.sl .no n [],h) else some (.bX (hh == len) b (off+l*n) (hh-l) n,h) else none
 | _=>none
def U3 (n len:Nat) (lo hi:Bool) (vs:List PV) (h:Hp):Option (PV × Hp):=match lo,hi,vs with
 | false,false,[v]=>HH n len v none none h
 | true,false,[v,l]=>HH n len v (some l) none h
 | false,true,[v,u]=>HH n len v none (some u) h
 | true,true,[v,l,u]=>HH n len v (some l) (some u) h
 | _,_,_=>none
def cV (base:Nat) (h:Hp):yN→List PV→Option (PV × Hp)
 | .makeMap,[]=>some (.eL (size h),ext h [.map []])
 | .lookup ks agg z ok,[m,k]=>(entriesOf h m).ah fun es=>if nY ks agg k then(jL ks agg k es 0).ah fun i=>(BL z es i).ah fun r =>
   some (if ok then .cF [r.1,.bool r.2] else r.1,h) else none
 | .CS ks agg,[m,k,v]=>match m with
  | .eL b=>(bR h b).ah fun es=>if nY ks agg k∧k.cells.all scalar=true∧v.cells.all scalar=true∧(b<base→below 0 (strip k)=true∧below 0 (strip v)=true) then(jL ks agg k es 0).ah fun i =>
    some (.undef,aC h b (.map (OJ (strip k) (strip v) es i))) else none
  | _=>none
 | .CT ks agg,[m,k]=>match m with
  | .gu=>if nY ks agg k then some (.cF [],h) else none
  | .eL b=>(bR h b).ah fun es=>if nY ks agg k then(jL ks agg k es 0).ah fun i=>some (.cF [],aC h b (.map (U2 es i))) else none
  | _=>none
 | .fC cs,[]=>some (.bX true (size h) 0 cs.length 1,ext h [.cells cs])
 | .mark,[p]=>match p with
  | .bX _ b _ _ _=>(ay h b).ah fun _=>some (p,h)
  | _=>none
 | .vJ sz,[v,u]=>(elems h u).ah fun xs=>(oG h sz v).ah fun l=>if xs=[] then some (v,h) else
   if xs.all (fits sz)=true∧l.1+xs.length≤gA∧l.2.1.all scalar=true then some (.bX false (size h) 0 (l.1+xs.length) sz,ext l.2.2 [.cells (l.2.1++xs.flatMap PV.cells)]) else none
 | .tq,[m]=>(entriesOf h m).ah fun es=>some (.int .i64 es.length,h)
 | .jt n len lo hi,vs=>U3 n len lo hi vs h
 | .fix,[p]=>match p with
  | .bX _ b off len sz=>(ay h b).ah fun cs=>if base≤b∧sz=1∧off+len≤cs.length∧cs.all scalar=true then some (.sl .no 1 ((cs.drop off).take len),aC h b .dead) else none
  | .sl ow sz es=>some (.sl ow sz es,h)
  | _=>none
 | _,_=>none
def vK (n:Nat) (h h':Hp):Prop:=n≤size h∧bJ h' n=bJ h n
instance (n h h'):Decidable (vK n h h'):=by unfold vK;infer_instance
def oH (orc:Nat→List PV→Hp→Option (PV × Hp)) (n f:Nat) (vs:List PV) (h:Hp):Option (PV × Hp):=(orc f vs h).ah fun r=>if vK n h r.2 then some r else none
def rQ (base k:Nat) (h:Hp) (g:yN) (vs:List PV):Option (PV × Hp):=(cV base h g vs).ah fun r=>if vK (base+k) h r.2 then some r else none
def step (orc:Nat→List PV→Hp→Option (PV × Hp)) (base:Nat) (draw:Bool) (op:iP) (e:Env) (h:Hp):Option (PV × Env × Hp) :=
 match op with
 | .Uk x=>(ev e x).ah fun v=>some (v,e,h)
 | .pick c a b=>(ev e c).ah fun v=>aD v ((ev e a).ah fun v=>some (v,e,h)) ((ev e b).ah fun v=>some (v,e,h))
 | .alloc z=>some (.ptr (size h) 0,e,ext h [.cells z])
 | .box n x=>(ev e x).ah fun v=>if v.cells.length=n∧v.cells.all scalar=true then some (.ptr (size h) 0,e,ext h [.cells v.cells]) else none
 | .build z ps=>(eY e ps).ah fun l=>(iy l z).ah fun cs=>some (.agg cs,e,h)
 | .pQ sz agg z len ps=>(eX e ps).ah fun l =>
   (eV sz l (List.replicate len (if agg then .agg z else z.headD .undef))).ah fun es=>some (.sl .full sz es,e,h)
 | .load n agg a=>(ev e a).ah fun v=>match v with
  | .ptr b off=>(ay h b).ah fun cs=>(part cs off n agg).ah fun r=>some (r,e,h)
  | .ep cs off=>(part cs off n agg).ah fun r=>some (r,e,h)
  | _=>none
 | .store n a x=>(ev e a).ah fun v=>(ev e x).ah fun u=>match v with
  | .ptr b off=>(ay h b).ah fun cs =>
    if u.cells.length=n∧off+n≤cs.length∧u.cells.all scalar=true∧(b<base→belows 0 (aO u.cells)=true)
    then some (.undef,e,cx h b (bE cs off (if b<base then aO u.cells else u.cells))) else none
  | _=>none
 | .rO x=>(ev e x).ah fun v=>match isNil v with
  | some false=>some (v,e,h)
  | _=>none
 | .bin op x y=>(ev e x).ah fun a=>(ev e y).ah fun b=>(binOp op a b).ah fun r=>some (r,e,h)
 | .CU neg x y=>(ev e x).ah fun a=>(ev e y).ah fun b=>match a,b with
  | .bool a,.bool b=>some (.bool (if neg then a != b else a == b),e,h)
  | _,_=>none
 | .oB kd neg x=>(ev e x).ah fun v=>(jk kd v).ah fun b=>some (.bool (if neg then !b else b),e,h)
 | .un op x=>(ev e x).ah fun a=>(unOp op a).ah fun r=>some (r,e,h)
 | .toInt k x=>(ev e x).ah fun v=>match v with
  | .int _ n=>some (.int k (k.wrap n),e,h)
  | _=>none
 | .ir box x=>(ev e x).ah fun v=>match v with
  | .str s=>if s.length≤OH then(if box then some (.bX false (size h) 0 s.length 1,e,ext h [.cells (s.map fun c=>.int .u8 c.toNat)]) else some (.sl .no 1 (s.map fun c=>.int .u8 c.toNat),e,h)) else none
  | _=>none
 | .iu x=>(ev e x).ah fun v=>match v with
  | .str _=>none
  | v=>(elems h v).ah fun es=>(bytesOf es).ah fun s=>some (.str s,e,h)
 | .HW t x=>(ev e x).ah fun v=>some (.iface t v,e,h)
 | .HV f cap=>(nA e cap).ah fun vs=>some (.fn f vs,e,h)
 | .mD T z agg len cap=>(ev e len).ah fun l=>(ev e cap).ah fun c=>(KP l c).ah fun n =>
   if n.1=n.2 then some (.bX true (size h) 0 n.1 z.length,e,ext h [.cells (List.flatten (List.replicate n.1 z))])
   else if n.1=0 then some (.sl (.tok (size h)) z.length [],e,ext h [.tok 0 T]) else none
 | .oC d x=>(ev e d).ah fun v=>(ev e x).ah fun u=>(elems h u).ah fun xs=>match v with
  | .bX _ b off len sz=>(ay h b).ah fun cs =>
    if sz=1∧off+len≤cs.length∧xs.all scalar=true∧(b<base→belows 0 (xs.take len)=true)
    then some (.int .i64 (min xs.length len:Nat),e,cx h b (bE cs off (xs.take len))) else none
  | .bg=>some (.int .i64 0,e,h)
  | _=>none
 | .range x=>(ev e x).ah fun v=>match v with
  | .str s=>some (.it (size h),e,ext h [.iter s 0])
  | _=>none
 | .next x=>(ev e x).ah fun v=>match v with
  | .it b=>(fQ h b).ah fun p =>
   if p.2<p.1.length then some (.cF [.bool true,.int .i64 p.2,.int .i32 (iF p.1 p.2).1],e,aC h b (.iter p.1 (p.2+(iF p.1 p.2).2)))
   else some (.cF [.bool false],e,h)
  | _=>none
 | .eqv neg ks x y=>(ev e x).ah fun a=>(ev e y).ah fun b=>match a,b with
  | .agg cs,.agg ds=>(cy ks cs ds).ah fun b=>some (.bool (if neg then !b else b),e,h)
  | _,_=>none
 | .slice n x lo hi mx=>(ev e x).ah fun v=>(iD e n lo hi mx v).ah fun r=>some (r,e,h)
 | .nC off x=>(ev e x).ah fun v=>match v with
  | .ptr b o=>some (.ptr b (o+off),e,h)
  | .ep cs o=>some (.ep cs (o+off),e,h)
  | _=>none
 | .field off n agg x=>(ev e x).ah fun v=>match v with
  | .agg cs=>(part cs off n agg).ah fun r=>some (r,e,h)
  | _=>none
 | .CV sz x i=>(ev e x).ah fun v=>(ev e i).ah fun i=>match v with
  | .sl _ sz' es=>if sz'=sz then(ix i es.length).ah fun i=>(es[i]?).ah fun w=>some (.ep w.cells 0,e,h) else none
  | .bX _ b off len sz'=>if sz'=sz then(ix i len).ah fun i=>some (.ptr b (off+i*sz),e,h) else none
  | _=>none
 | .oD sz len x i=>(ev e x).ah fun v=>(ev e i).ah fun i=>match v with
  | .ptr b o=>(ix i len).ah fun i=>some (.ptr b (o+i*sz),e,h)
  | .ep cs o=>(ix i len).ah fun i=>some (.ep cs (o+i*sz),e,h)
  | _=>none
 | .nD x i=>(ev e x).ah fun v=>(ev e i).ah fun i=>match v with
  | .str s=>(ix i s.length).ah fun i=>(s[i]?).ah fun c=>some (.int .u8 c.toNat,e,h)
  | _=>none
 | .oE sz agg len x i=>(ev e x).ah fun v=>(ev e i).ah fun i=>match v with
  | .agg cs=>(ix i len).ah fun i=>(part cs (i*sz) sz agg).ah fun r=>some (r,e,h)
  | _=>none
 | .extract x i=>(ev e x).ah fun v=>match v with
  | .cF vs=>(vs[i]?).ah fun r=>some (r,e,h)
  | _=>none
 | .kC t ok z x=>(ev e x).ah fun v=>match v with
  | .iface t' u =>
   if t'=t then(if ok then some (.cF [u,.bool true],e,h) else some (u,e,h))
   else if ok then some (.cF [z,.bool false],e,h) else none
  | .dJ=>if ok then some (.cF [z,.bool false],e,h) else none
  | _=>none
 | .len str x=>(ev e x).ah fun v=>match str,v with
  | true,.str s=>some (.int .i64 s.length,e,h)
  | false,.bg=>some (.int .i64 0,e,h)
  | false,.sl _ _ es=>some (.int .i64 es.length,e,h)
  | false,.bX _ _ _ len _=>some (.int .i64 len,e,h)
  | _,_=>none
 | .mE mx xs=>(nA e xs).ah fun vs=>match vs with
  | []=>none
  | x::r=>(mF mx x r).ah fun r=>some (r,e,h)
 | .append sz s x=>(ev e s).ah fun v=>(ev e x).ah fun u=>(elems h u).ah fun xs =>
   if xs.all (fun x=>x.cells.length == sz) then
   match v with
   | .bg=>if xs.length≤gA then some (if xs.isEmpty then .bg else .sl .no sz (aO xs),e,h) else none
   | .sl .full sz' es=>if sz'=sz∧es.length+xs.length≤gA then some (if xs.isEmpty then .sl .full sz es else .sl .no sz (es++aO xs),e,h) else none
   | _=>none
   else none
 | .iC T sz s x=>(ev e s).ah fun v=>(ev e x).ah fun u=>(elems h u).ah fun xs=>(gr h T sz v xs).ah fun r=>some (r.1,e,r.2)
 | .fD sz s x=>(ev e s).ah fun v=>(ev e x).ah fun u=>(elems h u).ah fun xs=>(tu h v).ah fun es =>
   if xs=[] then some (v,e,h) else
   if sz=1∧xs.all (fun x=>x.cells.length == sz)=true∧es.all (fun x=>x.cells.length == sz)=true∧es.length+xs.length≤gA∧xs.all scalar=true∧es.all scalar=true then
    some (.bX false (size h) 0 (es.length+xs.length) sz,e,ext h [.cells (es++xs)])
   else none
 | .call f args=>(nA e args).ah fun vs=>(orc f vs h).ah fun r =>
   if draw then(if r.2=h then some (r.1,e,h) else none) else some (r.1,e,r.2)
 | .jm f args=>(nA e args).ah fun vs=>(gv orc f vs h).ah fun r=>if r.2=h then some (r.1,e,h) else none
 | .lX x args=>(ev e x).ah fun v=>match v with
  | .fn f cap=>(nA e args).ah fun vs=>(orc f (vs++cap) h).ah fun r =>
   if draw then(if r.2=h then some (r.1,e,h) else none) else some (r.1,e,r.2)
  | _=>none
 | .gy t n agg a=>(look e t).ah fun q=>(ev e a).ah fun v=>match q,v with
  | .ptr c _,.ptr b off=>if b=c then none else(ay h b).ah fun cs=>(part cs off n agg).ah fun r=>some (r,e,h)
  | .ptr _ _,.ep cs off=>(part cs off n agg).ah fun r=>some (r,e,h)
  | _,_=>none
 | .fR t n a x=>(look e t).ah fun q=>(ev e a).ah fun v=>(ev e x).ah fun u=>match q,v with
  | .ptr c _,.ptr b off=>if b=c then(ay h b).ah fun cs =>
    if u.cells.length=n∧off+n≤cs.length∧u.cells.all scalar=true∧(b<base→belows 0 (aO u.cells)=true)
    then some (.undef,e,cx h b (bE cs off (if b<base then aO u.cells else u.cells))) else none else none
  | _,_=>none
 | .gen k xs=>(nA e xs).ah fun vs=>(cV base h k vs).ah fun r=>some (r.1,e,r.2)
 | .fE k n agg a=>(ev e a).ah fun v=>match v with
  | .ptr b off=>if b<base+k then(ay h b).ah fun cs=>(part cs off n agg).ah fun r=>some (r,e,h) else none
  | .ep cs off=>(part cs off n agg).ah fun r=>some (r,e,h)
  | _=>none
 | .iW k f args=>(nA e args).ah fun vs=>(oH orc (base+k) f vs h).ah fun r =>
   if draw then(if r.2=h then some (r.1,e,h) else none) else some (r.1,e,r.2)
 | .qQ k g xs=>(nA e xs).ah fun vs=>(rQ base k h g vs).ah fun r=>some (r.1,e,r.2)
 | .stuck=>none
def dI (e:Env) (d:Option Nat) (v:PV):Env :=
 match d with
 | none=>e
 | some d=>(d,v)::e
def wanted (e:Env):Option (Nat × Bool)→Option Bool
 | none=>some true
 | some (t,want)=>(look e t).ah fun v=>match v with
  | .bool b=>some (b == want)
  | .undef=>some false
  | _=>none
def bU (orc:Nat→List PV→Hp→Option (PV × Hp)) (base:Nat) (draw:Bool):List cq→Env→Hp→Option (Env × Hp)
 | [],e,h=>some (e,h)
 | o::r,e,h=>(wanted e o.guard).ah fun w =>
  if w then(step orc base draw o.op e h).ah fun x=>bU orc base draw r (dI x.2.1 o.dst x.1) x.2.2
  else bU orc base draw r (dI e o.dst .undef) h
inductive rR where
 | norm
 | exit (id:Nat)
 | ret
def prune:List Nat→Env→Env
 | [],_=>[]
 | t::ts,e=>match look e t with
  | some v=>(t,v)::prune ts e
  | none=>prune ts e
def params:Nat→List PV→Env
 | _,[]=>[]
 | i,v::vs=>(i,v)::params (i+1) vs
def mO (e:Env) (h:Hp):Nat × Option (Nat × Bool)→Option PV
 |(t,none)=>look e t
 |(t,some (n,agg))=>(look e t).ah fun v=>match v with
  | .ptr b off=>(ay h b).ah fun cs=>part cs off n agg
  | _=>none
def aam (e:Env) (h:Hp):List (Nat × Option (Nat × Bool))→Option (List PV)
 | []=>some []
 | t::ts=>(mO e h t).ah fun v=>(aam e h ts).ah fun vs=>some (v::vs)
def fT:List PV→PV
 | [v]=>v
 | vs=>.cF vs
def ju (h0:Nat) (h:Hp):List PV→Option (List PV × Hp)
 | .sl (.tok t) sz es::vs=>if belows h0 es=true∧belows h0 vs=true then
   (if t<h0 then some (.sl (.tok t) sz es::vs,bJ h h0) else(dw h t).ah fun n=>some (.sl (.tok h0) sz es::vs,ext (bJ h h0) [.tok n.1 n.2])) else none
 | .bX f b off len sz::vs=>if b<h0 then(if belows h0 vs=true then some (.bX f b off len sz::vs,bJ h h0) else none) else
   (ay h b).ah fun cs=>if belows h0 vs=true∧belows h0 cs=true then some (.bX f h0 off len sz::vs,ext (bJ h h0) [.cells cs]) else none
 | vs=>(fN h0 h vs).ah fun vs=>if belows h0 vs=true then some (vs,bJ h h0) else none
def finish (fn:dm) (h0:Nat) (e:Env) (h:Hp):Option (PV × Hp) :=
 (aam e h fn.results).ah fun vs =>
  if fn.keep then some (fT vs,h)
  else if fn.own then(ju h0 h vs).ah fun r=>some (fT r.1,r.2)
  else(fN h0 h vs).ah fun vs=>if belows h0 vs=true then some (fT vs,bJ h h0) else none
def rS (base:Nat) (h:Hp):PV × Option (Nat × List PV)→Option (PV × Hp)
 |(v,none)=>some (v,h)
 |(v,some (b,cs))=>if(ay h b).isSome∧(b<base→belows 0 cs=true) then some (v,cx h b cs) else none
def OL (h:Hp):Option (Nat × List PV)→Hp
 | none=>h
 | some (b,cs)=>cx h b cs
mutual
def exec (T:Table):Nat→cE→Nat→Env→Hp→Option (rR × Env × Hp)
 | 0,_,_,_,_=>none
 | n+1,.skip,base,e,h=>some (.norm,e,h)
 | n+1,.ops l draw keep,base,e,h=>(bU (call T n base) base draw l e h).ah fun x=>some (.norm,prune keep x.1,x.2)
 | n+1,.seq a b,base,e,h=>(exec T n a base e h).ah fun x=>match x with
  |(.norm,e',h')=>exec T n b base e' h'
  | r=>some r
 | n+1,.cond c a b,base,e,h=>(ev e c).ah fun v=>aD v (exec T n a base e h) (exec T n b base e h)
 | n+1,.block id a,base,e,h=>(exec T n a base e h).ah fun x=>match x with
  |(.exit i,e',h')=>if i=id then some (.norm,e',h') else some (.exit i,e',h')
  | r=>some r
 | n+1,.loop a,base,e,h=>(exec T n a base e h).ah fun x=>match x with
  |(.norm,e',h')=>exec T n (.loop a) base e' h'
  | r=>some r
 | n+1,.scope a,base,e,h=>exec T n a base e h
 | n+1,.exit id,base,e,h=>some (.exit id,e,h)
 | n+1,.ret,base,e,h=>some (.ret,e,h)
def call (T:Table):Nat→Nat→Nat→List PV→Hp→Option (PV × Hp)
 | 0,_,_,_,_=>none
 | n+1,base,f,args,h=>match T f with
  | none=>none
  | some (.oF g)=>(g args h).ah fun r=>rS base h r
  | some (.jo g)=>(g args h).ah fun r=>some (r.1,ext h r.2)
  | some (.code fn)=>(exec T n fn.body (if fn.keep then base else size h) (params 0 args) h).ah fun x=>match x with
   |(.exit _,_,_)=>none
   |(_,e,h')=>finish fn (size h) e h'
end
end
end Go.Am
namespace Go.Am
abbrev iG:=Nat→List PV→Hp→Option (PV × Hp)
def iG.le (o p:iG):Prop:=∀ f a h r,o f a h=some r→p f a h=some r
theorem BM {o p:iG} (hle:o.le p) {base:Nat} {draw:Bool} {op:iP} {e:Env} {h:Hp} {r:PV × Env × Hp}
  (hs:step o base draw op e h=some r):step p base draw op e h=some r:=by
 cases op with
 | call f args =>
  simp only[step,Option.aa]at hs ⊢;obtain⟨vs,h1,x,h2,h3⟩:=hs;exact⟨vs,h1,x,hle _ _ _ _ h2,h3⟩
 | jm f args =>
  simp only[step,gv,Option.aa]at hs ⊢;obtain⟨vs,h1,x,⟨y,h2,h4⟩,h3⟩:=hs;exact⟨vs,h1,x,⟨y,hle _ _ _ _ h2,h4⟩,h3⟩
 | iW k f args =>
  simp only[step,oH,Option.aa]at hs ⊢;obtain⟨vs,h1,x,⟨y,h2,h4⟩,h3⟩:=hs;exact⟨vs,h1,x,⟨y,hle _ _ _ _ h2,h4⟩,h3⟩
 | lX x args =>
  simp only[step,Option.aa]at hs ⊢;obtain⟨v,h0,hs⟩:=hs;refine⟨v,h0,?_⟩;split at hs
  ·simp only[Option.aa]at hs ⊢
   obtain⟨vs,h1,x,h2,h3⟩:=hs;exact⟨vs,h1,x,hle _ _ _ _ h2,h3⟩
  ·exact hs
 | _=>exact hs
theorem iX {o p:iG} (hle:o.le p) {base:Nat} {draw:Bool}:∀ {l:List cq} {e:Env} {h:Hp} {r:Env × Hp},
  bU o base draw l e h=some r→bU p base draw l e h=some r
 | [],_,_,_,hs=>hs
 | x::l,e,h,r,hs=>by
  simp only[bU,Option.aa]at hs ⊢;obtain⟨w,hw,hs⟩:=hs;refine⟨w,hw,?_⟩;cases w with
  | true =>
   simp only[if_true,Option.aa]at hs ⊢;obtain⟨y,h1,h2⟩:=hs;exact⟨y,BM hle h1,iX hle h2⟩
  | false =>
   simp only[Bool.false_eq_true,if_false]at hs ⊢;exact iX hle hs
theorem KT (T:Table):∀ n,(∀ c base e h r,exec T n c base e h=some r→exec T (n+1) c base e h=some r) ∧
  (∀ base f a h r,call T n base f a h=some r→call T (n+1) base f a h=some r)
 | 0=>⟨fun _ _ _ _ _ h=>by simp[exec]at h,fun _ _ _ _ _ h=>by simp[call]at h⟩
 | n+1=>by
  obtain⟨ih,ihc⟩:=KT T n;refine⟨fun c base e h r hs=>?_,fun base f a h r hs=>?_⟩
  ·cases c with
   | skip=>simpa[exec] using hs
   | exit id=>simpa[exec] using hs
   | ret=>simpa[exec] using hs
   | ops l draw keep =>
    rw[exec]at hs ⊢;simp only[Option.aa]at hs ⊢;obtain⟨x,h1,h2⟩:=hs;exact⟨x,iX (fun f a h r=>ihc base f a h r) h1,h2⟩
   | seq a b =>
    rw[exec]at hs ⊢;simp only[Option.aa]at hs ⊢;obtain⟨x,h1,h2⟩:=hs;refine⟨x,ih _ _ _ _ _ h1,?_⟩;split at h2
    ·exact ih _ _ _ _ _ h2
    ·exact h2
   | cond c a b =>
    rw[exec]at hs ⊢;simp only[Option.aa]at hs ⊢;obtain⟨x,h1,h2⟩:=hs;refine⟨x,h1,?_⟩;rw[fS]at h2 ⊢;exact h2.imp (fun z=>⟨z.1,ih _ _ _ _ _ z.2⟩) (fun z=>⟨z.1,ih _ _ _ _ _ z.2⟩)
   | block id a =>
    rw[exec]at hs ⊢;simp only[Option.aa]at hs ⊢;obtain⟨x,h1,h2⟩:=hs;exact⟨x,ih _ _ _ _ _ h1,h2⟩
   | loop a =>
    rw[exec]at hs ⊢;simp only[Option.aa]at hs ⊢;obtain⟨x,h1,h2⟩:=hs;refine⟨x,ih _ _ _ _ _ h1,?_⟩;split at h2
    ·exact ih _ _ _ _ _ h2
    ·exact h2
   | scope a=>rw[exec]at hs ⊢;exact ih _ _ _ _ _ hs
  ·rw[call]at hs ⊢
   split at hs
   ·exact hs
   ·exact hs
   ·exact hs
   ·simp only[Option.aa]at hs ⊢
    obtain⟨x,h1,h2⟩:=hs;exact⟨x,ih _ _ _ _ _ h1,h2⟩
theorem rT {T:Table} {n m:Nat} (hnm:n≤m) {c base e h r} (hs:exec T n c base e h=some r):exec T m c base e h=some r:=by
 induction hnm with
 | refl=>exact hs
 | step _ ih=>exact(KT T _).1 _ _ _ _ _ ih
theorem CY {T:Table} {n m:Nat} (hnm:n≤m) {base f a h r} (hs:call T n base f a h=some r):call T m base f a h=some r:=by
 induction hnm with
 | refl=>exact hs
 | step _ ih=>exact(KT T _).2 _ _ _ _ _ ih
/-! ### Sg fuel -/
noncomputable def lim {α:Type} (F:Nat→Option α):Option α :=
 open Classical in if h:∃ r,∃ n,F n=some r then some (Classical.choose h) else none
theorem KU {α:Type} {F:Nat→Option α} (hm:∀ n m r,n≤m→F n=some r→F m=some r) {r:α}:lim F=some r↔∃ n,F n=some r:=by
 unfold lim;constructor
 ·intro h
  split at h
  ·rename_i hx
   simp only[Option.some.injEq]at h;exact h▸Classical.choose_spec hx
  ·cases h
 ·intro ⟨n,hn⟩
  have hx:∃ r,∃ n,F n=some r:=⟨r,n,hn⟩;rw[dif_pos hx];obtain⟨m,hm'⟩:=Classical.choose_spec hx;have a:=hm n (max n m) _ (Nat.le_max_left _ _) hn;have b:=hm m (max n m) _ (Nat.le_max_right _ _) hm';rw[a]at b;simp only[Option.some.injEq]at b;rw[b]
noncomputable def cJ (T:Table) (c:cE) (base:Nat) (e:Env) (h:Hp):Option (rR × Env × Hp):=lim fun n=>exec T n c base e h
noncomputable def ai (T:Table) (base f:Nat) (a:List PV) (h:Hp):Option (PV × Hp):=lim fun n=>call T n base f a h
theorem dG {T c base e h r}:cJ T c base e h=some r↔∃ n,exec T n c base e h=some r:=KU fun _ _ _ hn hs=>rT hn hs
theorem eW {T base f a h r}:ai T base f a h=some r↔∃ n,call T n base f a h=some r:=KU fun _ _ _ hn hs=>CY hn hs
theorem OM {T base f a h r} (n:Nat) (hs:call T n base f a h=some r):ai T base f a h=some r:=eW.2 ⟨n,hs⟩
theorem gB {T c base e h r} (n:Nat) (hs:exec T n c base e h=some r):cJ T c base e h=some r:=dG.2 ⟨n,hs⟩
theorem Bi (T:Table) (n base:Nat):iG.le (call T n base) (ai T base):=fun _ _ _ _ h=>OM n h
theorem L4 {T:Table} {base:Nat} {draw:Bool} {op:iP} {e:Env} {h:Hp} {r:PV × Env × Hp}
  (hs:step (ai T base) base draw op e h=some r):∃ n,step (call T n base) base draw op e h=some r:=by
 cases op with
 | call f args =>
  simp only[step,Option.aa]at hs ⊢;obtain⟨vs,h1,x,h2,h3⟩:=hs;obtain⟨n,hn⟩:=eW.1 h2;exact⟨n,vs,h1,x,hn,h3⟩
 | jm f args =>
  simp only[step,gv,Option.aa]at hs ⊢;obtain⟨vs,h1,x,⟨y,h2,h4⟩,h3⟩:=hs;obtain⟨n,hn⟩:=eW.1 h2;exact⟨n,vs,h1,x,⟨y,hn,h4⟩,h3⟩
 | iW k f args =>
  simp only[step,oH,Option.aa]at hs ⊢;obtain⟨vs,h1,x,⟨y,h2,h4⟩,h3⟩:=hs;obtain⟨n,hn⟩:=eW.1 h2;exact⟨n,vs,h1,x,⟨y,hn,h4⟩,h3⟩
 | lX x args =>
  simp only[step,Option.aa]at hs ⊢;obtain⟨v,h0,hs⟩:=hs;split at hs
  ·simp only[Option.aa]at hs
   obtain⟨vs,h1,x,h2,h3⟩:=hs;obtain⟨n,hn⟩:=eW.1 h2;exact⟨n,_,h0,by simp only[Option.aa];exact⟨vs,h1,x,hn,h3⟩⟩
  ·cases hs
 | _=>exact⟨0,hs⟩
theorem nE {T:Table} {base:Nat} {draw:Bool}:∀ {l:List cq} {e:Env} {h:Hp} {r:Env × Hp},
  bU (ai T base) base draw l e h=some r→∃ n,bU (call T n base) base draw l e h=some r
 | [],_,_,_,hs=>⟨0,hs⟩
 | x::l,e,h,r,hs=>by
  simp only[bU,Option.aa]at hs ⊢;obtain⟨w,hw,hs⟩:=hs;cases w with
  | true =>
   simp only[if_true,Option.aa]at hs;obtain⟨y,h1,h2⟩:=hs;obtain⟨n,hn⟩:=L4 h1;obtain⟨m,hm⟩:=nE h2;have hn':=BM (p:=call T (max n m) base) (fun _ _ _ _ h=>CY (Nat.le_max_left n m) h) hn;have hm':=iX (p:=call T (max n m) base) (fun _ _ _ _ h=>CY (Nat.le_max_right n m) h) hm;exact⟨max n m,true,hw,by simp only[if_true,Option.aa];exact⟨y,hn',hm'⟩⟩
  | false =>
   simp only[Bool.false_eq_true,if_false]at hs;obtain⟨m,hm⟩:=nE hs;exact⟨m,false,hw,by simpa using hm⟩
section
variable {T:Table} {base:Nat} {e:Env} {h:Hp}
theorem yQ:cJ T .skip base e h=some (.norm,e,h):=gB 1 rfl
theorem yR {id:Nat}:cJ T (.exit id) base e h=some (.exit id,e,h):=gB 1 rfl
theorem BN:cJ T .ret base e h=some (.ret,e,h):=gB 1 rfl
theorem BO {l:List cq} {draw:Bool} {keep:List Nat} :
  cJ T (.ops l draw keep) base e h=(bU (ai T base) base draw l e h).ah fun x=>some (.norm,prune keep x.1,x.2):=by
 apply Option.ext;intro r;show cJ T _ base e h=some r↔_=some r;rw[dG];constructor
 ·rintro⟨n,hn⟩
  cases n with
  | zero=>simp[exec]at hn
  | succ n =>
   rw[exec]at hn;simp only[Option.aa]at hn ⊢;obtain⟨x,h1,h2⟩:=hn;exact⟨x,iX (Bi T n base) h1,h2⟩
 ·intro hs
  simp only[Option.aa]at hs;obtain⟨x,h1,h2⟩:=hs;obtain⟨n,hn⟩:=nE h1;exact⟨n+1,by rw[exec];simp only[Option.aa];exact⟨x,hn,h2⟩⟩
theorem tw {a b:cE}:cJ T (.seq a b) base e h=(cJ T a base e h).ah fun x=>match x with
  |(.norm,e',h')=>cJ T b base e' h'
  | r=>some r:=by
 apply Option.ext;intro r;show cJ T _ base e h=some r↔_=some r;rw[dG];constructor
 ·rintro⟨n,hn⟩
  cases n with
  | zero=>simp[exec]at hn
  | succ n =>
   rw[exec]at hn;simp only[Option.aa]at hn ⊢;obtain⟨x,h1,h2⟩:=hn;refine⟨x,gB n h1,?_⟩;obtain⟨x,e',h'⟩:=x;cases x with
   | norm=>exact gB n h2
   | _=>exact h2
 ·intro hs
  simp only[Option.aa]at hs;obtain⟨x,h1,h2⟩:=hs;obtain⟨n,hn⟩:=dG.1 h1;split at h2
  ·obtain⟨m,hm⟩:=dG.1 h2
   refine⟨max n m+1,?_⟩;rw[exec];simp only[Option.aa];exact⟨_,rT (Nat.le_max_left n m) hn,rT (Nat.le_max_right n m) hm⟩
  ·rename_i hx
   refine⟨n+1,?_⟩;rw[exec];simp only[Option.aa];refine⟨_,hn,?_⟩;split
   ·exact(hx _ _ rfl).elim
   ·exact h2
theorem qR {c:bH} {a b:cE}:cJ T (.cond c a b) base e h=(ev e c).ah fun v=>aD v (cJ T a base e h) (cJ T b base e h):=by
 apply Option.ext;intro r;show cJ T _ base e h=some r↔_=some r;rw[dG];constructor
 ·rintro⟨n,hn⟩
  cases n with
  | zero=>simp[exec]at hn
  | succ n =>
   rw[exec]at hn;simp only[Option.aa]at hn ⊢;obtain⟨x,h1,h2⟩:=hn;refine⟨x,h1,?_⟩;rw[fS]at h2 ⊢;exact h2.imp (fun z=>⟨z.1,gB n z.2⟩) (fun z=>⟨z.1,gB n z.2⟩)
 ·intro hs
  simp only[Option.aa]at hs;obtain⟨x,h1,h2⟩:=hs;rw[fS]at h2;rcases h2 with⟨rfl,h2⟩ | ⟨rfl,h2⟩
  ·obtain⟨m,hm⟩:=dG.1 h2
   exact⟨m+1,by rw[exec];simp only[h1,Option.ag];exact hm⟩
  ·obtain⟨m,hm⟩:=dG.1 h2
   exact⟨m+1,by rw[exec];simp only[h1,Option.ag];exact hm⟩
theorem uo {id:Nat} {a:cE}:cJ T (.block id a) base e h=(cJ T a base e h).ah fun x=>match x with
  |(.exit i,e',h')=>if i=id then some (.norm,e',h') else some (.exit i,e',h')
  | r=>some r:=by
 apply Option.ext;intro r;show cJ T _ base e h=some r↔_=some r;rw[dG];constructor
 ·rintro⟨n,hn⟩
  cases n with
  | zero=>simp[exec]at hn
  | succ n =>
   rw[exec]at hn;simp only[Option.aa]at hn ⊢;obtain⟨x,h1,h2⟩:=hn;exact⟨x,gB n h1,h2⟩
 ·intro hs
  simp only[Option.aa]at hs;obtain⟨x,h1,h2⟩:=hs;obtain⟨n,hn⟩:=dG.1 h1;exact⟨n+1,by rw[exec];simp only[Option.aa];exact⟨x,hn,h2⟩⟩
theorem yS {a:cE}:cJ T (.loop a) base e h=(cJ T a base e h).ah fun x=>match x with
  |(.norm,e',h')=>cJ T (.loop a) base e' h'
  | r=>some r:=by
 apply Option.ext;intro r;show cJ T _ base e h=some r↔_=some r;rw[dG];constructor
 ·rintro⟨n,hn⟩
  cases n with
  | zero=>simp[exec]at hn
  | succ n =>
   rw[exec]at hn;simp only[Option.aa]at hn ⊢;obtain⟨x,h1,h2⟩:=hn;refine⟨x,gB n h1,?_⟩;obtain⟨x,e',h'⟩:=x;cases x with
   | norm=>exact gB n h2
   | _=>exact h2
 ·intro hs
  simp only[Option.aa]at hs;obtain⟨x,h1,h2⟩:=hs;obtain⟨n,hn⟩:=dG.1 h1;split at h2
  ·obtain⟨m,hm⟩:=dG.1 h2
   refine⟨max n m+1,?_⟩;rw[exec];simp only[Option.aa];exact⟨_,rT (Nat.le_max_left n m) hn,rT (Nat.le_max_right n m) hm⟩
  ·rename_i hx
   refine⟨n+1,?_⟩;rw[exec];simp only[Option.aa];refine⟨_,hn,?_⟩;split
   ·exact(hx _ _ rfl).elim
   ·exact h2
theorem ur {a:cE}:cJ T (.scope a) base e h=cJ T a base e h:=by
 apply Option.ext;intro r;show cJ T _ base e h=some r↔cJ T a base e h=some r;rw[dG,dG];constructor
 ·rintro⟨n,hn⟩
  cases n with
  | zero=>simp[exec]at hn
  | succ n=>exact⟨n,by rwa [exec]at hn⟩
 ·rintro⟨n,hn⟩
  exact⟨n+1,by rwa [exec]⟩
theorem yT {f:Nat} {fn:dm} {a:List PV} (hT:T f=some (.code fn)) :
  ai T base f a h=(cJ T fn.body (if fn.keep then base else size h) (params 0 a) h).ah fun x=>match x with
   |(.exit _,_,_)=>none
   |(_,e,h')=>finish fn (size h) e h':=by
 apply Option.ext;intro r;show ai T base f a h=some r↔_=some r;rw[eW];constructor
 ·rintro⟨n,hn⟩
  cases n with
  | zero=>simp[call]at hn
  | succ n =>
   rw[call,hT]at hn;simp only[Option.aa]at hn ⊢;obtain⟨x,h1,h2⟩:=hn;exact⟨x,gB n h1,h2⟩
 ·intro hs
  simp only[Option.aa]at hs;obtain⟨x,h1,h2⟩:=hs;obtain⟨n,hn⟩:=dG.1 h1;exact⟨n+1,by rw[call,hT];simp only[Option.aa];exact⟨x,hn,h2⟩⟩
theorem yU {f:Nat} {g:List PV→Hp→Option (PV × Option (Nat × List PV))} {a:List PV} (hT:T f=some (.oF g)) :
  ai T base f a h=(g a h).ah fun r=>rS base h r:=by
 apply Option.ext;intro r;show ai T base f a h=some r↔_=some r;rw[eW];constructor
 ·rintro⟨n,hn⟩
  cases n with
  | zero=>simp[call]at hn
  | succ n=>rwa [call,hT]at hn
 ·intro hs
  exact⟨1,by rw[call,hT];exact hs⟩
theorem oI {f:Nat} {g:List PV→Hp→Option (PV × List gW)} {a:List PV} (hT:T f=some (.jo g)) :
  ai T base f a h=(g a h).ah fun r=>some (r.1,ext h r.2):=by
 apply Option.ext;intro r;show ai T base f a h=some r↔_=some r;rw[eW];constructor
 ·rintro⟨n,hn⟩
  cases n with
  | zero=>simp[call]at hn
  | succ n=>rwa [call,hT]at hn
 ·intro hs
  exact⟨1,by rw[call,hT];exact hs⟩
end
end Go.Am
namespace Go.Am
section heap
variable {h k:Hp} {l m:List gW} {x y z:gW} {b c n:Nat} {u v:List PV}
theorem aW:size (ext h l)=size h+l.length:=by simp[size,ext]
theorem aJ:size (aC h b x)=size h:=by simp[size,aC]
theorem Eh:size (cx h b u)=size h:=aJ
theorem L5:cx h b u=aC h b (.cells u):=(rfl)
theorem cK (hk:size k=n):bY (ext k (x::l)) n=some x:=by subst hk;simp[bY,ext,size]
theorem fG (hk:size k=n):bY (ext k l) (n+c)=l[c]?:=by subst hk;simp[bY,ext,size,List.getElem?_append_right]
theorem aQ:ay (ext h (x::l)) (size h)=cellsOf x:=by rw[ay,cK rfl];rfl
theorem eZ:ay (ext h l) (size h+n)=(l[n]?).ah cellsOf:=by rw[ay,fG rfl]
theorem kD:dw (ext h (x::l)) (size h)=nX x:=by rw[dw,cK rfl];rfl
theorem CZ:dw (ext h l) (size h+n)=(l[n]?).ah nX:=by rw[dw,fG rfl]
theorem mG:fQ (ext h (x::l)) (size h)=qP x:=by rw[fQ,cK rfl];rfl
theorem Bj:fQ (ext h l) (size h+n)=(l[n]?).ah qP:=by rw[fQ,fG rfl]
theorem rU:bR (ext h (x::l)) (size h)=mapOf x:=by rw[bR,cK rfl];rfl
theorem C0:bR (ext h l) (size h+n)=(l[n]?).ah mapOf:=by rw[bR,fG rfl]
theorem Bk:bR (ext (aC h b y) (x::l)) (size h)=mapOf x:=by rw[bR,cK aJ];rfl
theorem Bl:bR (ext (aC h b y) l) (size h+n)=(l[n]?).ah mapOf:=by rw[bR,fG aJ]
theorem L6 {es:List (PV × PV)}:mapOf (.map es)=some es:=(rfl)
theorem Bn:ay (ext (aC h b y) (x::l)) (size h)=cellsOf x:=by rw[ay,cK aJ];rfl
theorem Bo:ay (ext (aC h b y) l) (size h+n)=(l[n]?).ah cellsOf:=by rw[ay,fG aJ]
theorem Bp:dw (ext (aC h b y) (x::l)) (size h)=nX x:=by rw[dw,cK aJ];rfl
theorem Bq:dw (ext (aC h b y) l) (size h+n)=(l[n]?).ah nX:=by rw[dw,fG aJ]
theorem yV:fQ (ext (aC h b y) (x::l)) (size h)=qP x:=by rw[fQ,cK aJ];rfl
theorem yW:fQ (ext (aC h b y) l) (size h+n)=(l[n]?).ah qP:=by rw[fQ,fG aJ]
theorem Br:cellsOf (.cells u)=some u:=(rfl)
theorem BP {m:Nat}:nX (.tok n m)=some (n,m):=(rfl)
theorem Ei {s:List UInt8}:qP (.iter s n)=some (s,n):=(rfl)
theorem dP (hb:b<size h):bY (ext h l) b=bY h b:=by simp only[bY,ext,size]at *;exact List.getElem?_append_left hb
theorem aX (hb:b<size h):ay (ext h l) b=ay h b:=by rw[ay,dP hb];rfl
theorem Bt (hb:b<size h):bR (ext h l) b=bR h b:=by rw[bR,dP hb];rfl
theorem rV (hk:size k=n):aC (ext k (x::l)) n y=ext k (y::l):=by subst hk;simp[aC,ext,size]
theorem qy (hk:size k=n):aC (ext k l) (n+c) y=ext k (l.set c y):=by subst hk;simp[aC,ext,size,List.set_append]
theorem eE:aC (ext h (x::l)) (size h) y=ext h (y::l):=rV rfl
theorem Ej:aC (ext h l) (size h+n) y=ext h (l.set n y):=qy rfl
theorem C1:aC (ext (aC h b z) (x::l)) (size h) y=ext (aC h b z) (y::l):=rV aJ
theorem C3:aC (ext (aC h b z) l) (size h+n) y=ext (aC h b z) (l.set n y):=qy aJ
theorem aak (hb:b<size h):aC (ext h l) b y=ext (aC h b y) l:=by
 simp only[aC,ext,size]at *;simp[List.set_append,hb]
theorem fA:ext (ext h l) m=ext h (l++m):=by simp[ext]
theorem ext_nil:ext h []=h:=by simp[ext]
theorem cM (hb:b<size h):bY (aC h b x) b=some x:=by
 simp only[bY,aC,size]at *;simp[hb]
theorem cN (hn:b≠n):bY (aC h b x) n=bY h n:=by simp[bY,aC,hn]
theorem bw {c:gW} (hb:bY h b=some c):b<size h:=(List.getElem?_eq_some_iff.1 hb).1
theorem bq (hb:ay h b=some u):bY h b=some (.cells u):=by
 rw[ay,Option.aa]at hb;obtain⟨x,h1,h2⟩:=hb;cases x<;>simp only[cellsOf]at h2<;>first | cases h2 | skip
 exact h1
theorem k9 {n:Nat × Nat} (hb:dw h b=some n):bY h b=some (.tok n.1 n.2):=by
 rw[dw,Option.aa]at hb;obtain⟨x,h1,h2⟩:=hb;cases x<;>simp only[nX]at h2<;>first | cases h2 | skip
 exact h1
theorem uv {s:List UInt8} (hb:fQ h b=some (s,n)):bY h b=some (.iter s n):=by
 rw[fQ,Option.aa]at hb;obtain⟨x,h1,h2⟩:=hb;cases x<;>simp only[qP]at h2<;>first | cases h2 | skip
 exact h1
theorem lg {es:List (PV × PV)} (hb:bR h b=some es):bY h b=some (.map es):=by
 rw[bR,Option.aa]at hb;obtain⟨x,h1,h2⟩:=hb;cases x<;>simp only[mapOf]at h2<;>first | cases h2 | skip
 exact h1
theorem gQ (hb:ay h b=some u):b<size h:=bw (bq hb)
theorem kE {n:Nat × Nat} (hb:dw h b=some n):b<size h:=bw (k9 hb)
theorem Bw (hb:ay h b=some u):ay (cx h b v) b=some v:=by
 rw[ay,cx,cM (gQ hb)];rfl
theorem fW (hb:b<size h):ay (aC h b (.cells v)) b=some v:=by
 rw[ay,cM hb];rfl
theorem nZ {m:Nat} (hb:b<size h):dw (aC h b (.tok n m)) b=some (n,m):=by
 rw[dw,cM hb];rfl
theorem bD (hn:b≠n):ay (aC h b x) n=ay h n:=by rw[ay,cN hn];rfl
theorem jE (hn:b≠n):bR (aC h b x) n=bR h n:=by rw[bR,cN hn];rfl
theorem fO:aC (aC h b x) b y=aC h b y:=by simp[aC]
theorem Bx:cx (cx h b u) b v=cx h b v:=fO
theorem jv (hb:bY h b=some x):aC h b x=h:=by
 simp only[bY,aC]at *;obtain⟨hl,rfl⟩:=List.getElem?_eq_some_iff.1 hb;simp
theorem Ek (hb:ay h b=some u):cx h b u=h:=jv (bq hb)
theorem cI:bJ (ext h l) (size h)=h:=by simp[bJ,ext,size]
theorem bL:bJ h (size h)=h:=by simp[bJ,size]
theorem yX:bJ (ext (aC h b x) l) (size h)=aC h b x:=by
 rw[←aJ (h:=h) (b:=b) (x:=x)];exact cI
theorem BQ:bJ (aC h b x) (size h)=aC h b x:=by
 conv=>lhs;arg 2;rw[←aJ (h:=h) (b:=b) (x:=x)]
 exact bL
theorem Em:(size h<size h)=False:=by simp
theorem Eo:(size h+n<size h)=False:=by simp
end heap
section vals
theorem Ep:strip .undef=.undef:=(rfl)
theorem HX (b):strip (.bool b)=.bool b:=(rfl)
theorem L7 (k n):strip (.int k n)=.int k n:=(rfl)
theorem L8 (s):strip (.str s)=.str s:=(rfl)
theorem HY:strip .bp=.bp:=(rfl)
theorem HZ (t):strip (.eG t)=.eG t:=(rfl)
theorem L9 (b o):strip (.ptr b o)=.ptr b o:=(rfl)
theorem ON (b o):strip (.ep b o)=.ep b o:=(rfl)
theorem Ia:strip .bg=.bg:=(rfl)
theorem Ma:Own.strip .no=.no:=(rfl)
theorem Er:Own.strip .full=.full:=(rfl)
theorem Ib (t):Own.strip (.tok t)=.no:=(rfl)
theorem Es (o:Own):o.strip.strip=o.strip:=by cases o<;>rfl
theorem Mb (n):Own.below n .no=true:=(rfl)
theorem Et (n):Own.below n .full=true:=(rfl)
theorem Ic (n t):Own.below n (.tok t)=decide (t<n):=(rfl)
theorem C4 (n) (o:Own):o.strip.below n=true:=by cases o<;>rfl
theorem OO (o z e):strip (.sl o z e)=.sl o.strip z e:=(rfl)
theorem Mc (f a b c d):strip (.bX f a b c d)=.bX f a b c d:=(rfl)
theorem Eu:strip .dJ=.dJ:=(rfl)
theorem Ev (t v):strip (.iface t v)=.iface t (strip v):=(rfl)
theorem Ie:strip .gP=.gP:=(rfl)
theorem OP (t v):strip (.fn t v)=.fn t (aO v):=(rfl)
theorem Md (c):strip (.agg c)=.agg (aO c):=(rfl)
theorem Me (c):strip (.cF c)=.cF (aO c):=(rfl)
theorem Ig:strip .gu=.gu:=(rfl)
theorem Ih (b):strip (.eL b)=.eL b:=(rfl)
theorem Ii:aO []=[]:=(rfl)
theorem uw (v vs):aO (v::vs)=strip v::aO vs:=(rfl)
mutual
theorem ux:∀ v,strip (strip v)=strip v
 | .sl o z e=>by simp only[strip,Es]
 | .agg c=>by simp only[strip,jF c]
 | .cF c=>by simp only[strip,jF c]
 | .fn f c=>by simp only[strip,jF c]
 | .iface t v=>by simp only[strip,ux v]
 | .undef | .bool _ | .int _ _ | .str _ | .bp | .eG _ | .ptr _ _ | .ep _ _ | .bg | .bX _ _ _ _ _ | .dJ | .gP | .it _ | .gu | .eL _=>rfl
theorem jF:∀ v,aO (aO v)=aO v
 | []=>rfl
 | v::vs=>by simp only[aO,ux v,jF vs]
end
theorem Mf (c):PV.cells (.agg c)=c:=(rfl)
theorem Ij (b):PV.cells (.bool b)=[.bool b]:=(rfl)
theorem Mg (k n):PV.cells (.int k n)=[.int k n]:=(rfl)
theorem Mh (s):PV.cells (.str s)=[.str s]:=(rfl)
theorem Ik:PV.cells .bp=[.bp]:=(rfl)
theorem Il (t):PV.cells (.eG t)=[.eG t]:=(rfl)
theorem Mi (b o):PV.cells (.ptr b o)=[.ptr b o]:=(rfl)
theorem Im:PV.cells .bg=[.bg]:=(rfl)
theorem OQ (o z e):PV.cells (.sl o z e)=[.sl o z e]:=(rfl)
theorem Mj (f a b c d):PV.cells (.bX f a b c d)=[.bX f a b c d]:=(rfl)
theorem Ew:PV.cells .dJ=[.dJ]:=(rfl)
theorem Ex (t v):PV.cells (.iface t v)=[.iface t v]:=(rfl)
theorem Io:PV.cells .gP=[.gP]:=(rfl)
theorem OR (t v):PV.cells (.fn t v)=[.fn t v]:=(rfl)
theorem Ip:PV.cells .gu=[.gu]:=(rfl)
theorem Iq (b):PV.cells (.eL b)=[.eL b]:=(rfl)
theorem Ir:isNil .bp=some true:=(rfl)
theorem It (t):isNil (.eG t)=some true:=(rfl)
theorem Iu:isNil .bg=some true:=(rfl)
theorem Ey:isNil .dJ=some true:=(rfl)
theorem Iv:isNil .gP=some true:=(rfl)
theorem Mk (b o):isNil (.ptr b o)=some false:=(rfl)
theorem OS (b o):isNil (.ep b o)=some false:=(rfl)
theorem OT (b o c):isNil (.sl b o c)=some false:=(rfl)
theorem Ml (f a b c d):isNil (.bX f a b c d)=some false:=(rfl)
theorem Ez (b o):isNil (.iface b o)=some false:=(rfl)
theorem OU (b o):isNil (.fn b o)=some false:=(rfl)
def C5 (t:Nat) (v:Option PV) (r:Env):Env:=match v with
 | some v=>(t,v)::r
 | none=>r
@[congr] theorem Sk {t:Nat} {v w:Option PV} {r s:Env} (h:v=w) (h2:r=s):C5 t v r=C5 t w s:=by rw[h,h2]
theorem yY (t ts e):prune (t::ts) e=C5 t (look e t) (prune ts e):=by
 rw[prune];cases look e t<;>rfl
def aq (v:PV) (w:Bool):Option Bool:=match v with
  | .bool b=>some (b == w)
  | .undef=>some false
  | _=>none
theorem Iw (b w):aq (.bool b) w=some (b == w):=(rfl)
theorem EA (w):aq .undef w=some false:=(rfl)
theorem uy (e t w):wanted e (some (t,w))=(look e t).ah fun v=>aq v w:=(rfl)
def au {α:Type} (w:Bool) (x y:Option α):Option α:=if w then x else y
@[congr] theorem Uo {α:Type} {w w':Bool} {x y:Option α} (h:w=w'):au w x y=au w' x y:=by rw[h]
theorem yZ {α:Type} (x y:Option α):au true x y=x:=(rfl)
theorem uz {α:Type} (x y:Option α):au false x y=y:=(rfl)
end vals
def Yo {α:Type} (x:Option (PV × Env × Hp)) (k:PV→Env→Hp→Option α):Option α:=match x with
 | some (v,e,h)=>k v e h
 | none=>none
@[congr] theorem U5 {α:Type} {x y:Option (PV × Env × Hp)} {k:PV→Env→Hp→Option α} (h:x=y):Yo x k=Yo y k:=by rw[h]
def aH {α β:Type} (x:Option (β × Hp)) (k:β→Hp→Option α):Option α:=match x with
 | some (v,h)=>k v h
 | none=>none
@[congr] theorem U6 {α β:Type} {x y:Option (β × Hp)} {k:β→Hp→Option α} (h:x=y):aH x k=aH y k:=by rw[h]
theorem az {α β:Type} (v h) (k:β→Hp→Option α):aH (some (v,h)) k=k v h:=(rfl)
theorem BR {α β:Type} (k:β→Hp→Option α):aH none k=none:=(rfl)
theorem OV {α β:Type} {c:Prop} [Decidable c] (x y) (k:β→Hp→Option α):aH (if c then x else y) k=if c then aH x k else aH y k:=by split<;>(exact rfl)
section steps
variable (orc:iG) (base:Nat) (draw:Bool) (e:Env) (h:Hp)
theorem Ix (x):step orc base draw (.rO x) e h=(ev e x).ah fun v=>(isNil v).ah fun b=>if b then none else some (v,e,h):=by
 show Option.ah _ _=Option.ah _ _;congr 1
 funext v
 cases v<;>rfl
def KV (neg:Bool) (a b:PV):Option PV:=match a,b with
  | .bool a,.bool b=>some (.bool (if neg then a != b else a == b))
  | _,_=>none
theorem OW (a b):KV false (.bool a) (.bool b)=some (.bool (a == b)):=(rfl)
theorem OX (a b):KV true (.bool a) (.bool b)=some (.bool (a != b)):=(rfl)
theorem Mm (neg x y):step orc base draw (.CU neg x y) e h=(ev e x).ah fun a=>(ev e y).ah fun b=>(KV neg a b).ah fun r=>some (r,e,h):=by
 show Option.ah _ _=Option.ah _ _;congr 1
 funext a
 congr 1
 funext b
 cases a<;>cases b<;>(exact rfl)
def ct (v:PV) (k:IntKind):Option PV:=match v with
  | .int _ n=>some (.int k (k.wrap n))
  | _=>none
theorem nF (j n k):ct (.int j n) k=some (.int k (k.wrap n)):=(rfl)
theorem Iy (k x):step orc base draw (.toInt k x) e h=(ev e x).ah fun v=>(ct v k).ah fun r=>some (r,e,h):=by
 show Option.ah _ _=Option.ah _ _;congr 1
 funext v
 cases v<;>rfl
def aE (v:PV) (i:Nat):Option PV:=match v with
  | .cF vs=>vs[i]?
  | _=>none
theorem C6 (vs i):aE (.cF vs) i=vs[i]?:=(rfl)
theorem C7 (x i):step orc base draw (.extract x i) e h=(ev e x).ah fun v=>(aE v i).ah fun r=>some (r,e,h):=by
 show Option.ah _ _=Option.ah _ _;congr 1
 funext v
 cases v<;>rfl
def aA (v:PV) (off:Nat):Option PV:=match v with
  | .ptr b o=>some (.ptr b (o+off))
  | .ep cs o=>some (.ep cs (o+off))
  | _=>none
theorem EB (b o off):aA (.ptr b o) off=some (.ptr b (o+off)):=(rfl)
theorem Iz (b o off):aA (.ep b o) off=some (.ep b (o+off)):=(rfl)
theorem EC (off x):step orc base draw (.nC off x) e h=(ev e x).ah fun v=>(aA v off).ah fun r=>some (r,e,h):=by
 show Option.ah _ _=Option.ah _ _;congr 1
 funext v
 cases v<;>rfl
def IA (v:PV) (off n:Nat) (agg:Bool):Option PV:=match v with
  | .agg cs=>part cs off n agg
  | _=>none
theorem IB (cs off n agg):IA (.agg cs) off n agg=part cs off n agg:=(rfl)
theorem IC (off n agg x):step orc base draw (.field off n agg x) e h=(ev e x).ah fun v=>(IA v off n agg).ah fun r=>some (r,e,h):=by
 show Option.ah _ _=Option.ah _ _;congr 1
 funext v
 cases v<;>rfl
def cB (str:Bool) (v:PV):Option PV:=match str,v with
  | true,.str s=>some (.int .i64 s.length)
  | false,.bg=>some (.int .i64 0)
  | false,.sl _ _ es=>some (.int .i64 es.length)
  | false,.bX _ _ _ len _=>some (.int .i64 len)
  | _,_=>none
theorem lu (s):cB true (.str s)=some (.int .i64 s.length):=(rfl)
theorem Mn:cB false .bg=some (.int .i64 0):=(rfl)
theorem fe (o z es):cB false (.sl o z es)=some (.int .i64 es.length):=(rfl)
theorem OY (f a b c d):cB false (.bX f a b c d)=some (.int .i64 c):=(rfl)
theorem OZ (str x):step orc base draw (.len str x) e h=(ev e x).ah fun v=>(cB str v).ah fun r=>some (r,e,h):=by
 show Option.ah _ _=Option.ah _ _;congr 1
 funext v
 cases str<;>cases v<;>rfl
noncomputable def cW (v i:PV) (sz:Nat):Option PV:=match v with
  | .sl _ sz' es=>if sz'=sz then(ix i es.length).ah fun i=>(es[i]?).ah fun w=>some (.ep w.cells 0) else none
  | .bX _ b off len sz'=>if sz'=sz then(ix i len).ah fun i=>some (.ptr b (off+i*sz)) else none
  | _=>none
theorem jM (o z es i sz):cW (.sl o z es) i sz=if z=sz then(ix i es.length).ah fun i=>(es[i]?).ah fun w=>some (.ep w.cells 0) else none:=(rfl)
theorem tA (f b off len z i sz):cW (.bX f b off len z) i sz=if z=sz then(ix i len).ah fun i=>some (.ptr b (off+i*sz)) else none:=(rfl)
theorem aG {α β γ:Type} (x:Option α) (f:α→Option β) (g:β→Option γ):(x.ah f).ah g=x.ah fun a=>(f a).ah g:=by cases x<;>rfl
theorem Mo (sz x i):step orc base draw (.CV sz x i) e h=(ev e x).ah fun v=>(ev e i).ah fun i=>(cW v i sz).ah fun r=>some (r,e,h):=by
 show Option.ah _ _=Option.ah _ _;congr 1
 funext v
 congr 1
 funext i
 cases v with
 | sl o z es=>simp only[cW];split<;>simp only[aG,Option.ag,Option.iq]
 | bX f a b c z=>simp only[cW];split<;>simp only[aG,Option.ag,Option.iq]
 | _=>rfl
noncomputable def lY (v i:PV):Option PV:=match v with
  | .str s=>(ix i s.length).ah fun i=>(s[i]?).ah fun c=>some (.int .u8 c.toNat)
  | _=>none
theorem oJ (s i):lY (.str s) i=(ix i s.length).ah fun i=>(s[i]?).ah fun c=>some (.int .u8 c.toNat):=(rfl)
theorem ED (x i):step orc base draw (.nD x i) e h=(ev e x).ah fun v=>(ev e i).ah fun i=>(lY v i).ah fun r=>some (r,e,h):=by
 show Option.ah _ _=Option.ah _ _;congr 1
 funext v
 congr 1
 funext i
 cases v<;>simp only[lY,aG,Option.ag,Option.iq]
end steps
theorem Mp (op k a j b):binOp op (.int k a) (.int j b)=if dM op then shiftOp op k a b else if k=j then kz op k a b else none:=(rfl)
theorem Mq (op a b):binOp op (.str a) (.str b)=yO op a b:=(rfl)
theorem Sl:jk 0 .bp=some true:=(rfl)
theorem Sm (t):jk 0 (.eG t)=some true:=(rfl)
theorem Sn (b o):jk 0 (.ptr b o)=some false:=(rfl)
theorem Sp:jk 1 .bg=some true:=(rfl)
theorem Sq (a b c):jk 1 (.sl a b c)=some false:=(rfl)
theorem Sr (f a b c d):jk 1 (.bX f a b c d)=some false:=(rfl)
theorem Su:jk 2 .dJ=some true:=(rfl)
theorem Sv (a b):jk 2 (.iface a b)=some false:=(rfl)
theorem Sw:jk 3 .gP=some true:=(rfl)
theorem Sx (a b):jk 3 (.fn a b)=some false:=(rfl)
theorem Sy:jk 4 .gu=some true:=(rfl)
theorem Sz (a):jk 4 (.eL a)=some false:=(rfl)
theorem EE (b):scalar (.bool b)=true:=(rfl)
theorem ID (k n):scalar (.int k n)=true:=(rfl)
theorem IE (s):scalar (.str s)=true:=(rfl)
theorem EF:scalar .bp=true:=(rfl)
theorem EG (t):scalar (.eG t)=false:=(rfl)
theorem IF (b o):scalar (.ptr b o)=true:=(rfl)
theorem EH:scalar .bg=true:=(rfl)
theorem Mr (b o c):scalar (.sl b o c)=true:=(rfl)
theorem IG (f a b c d):scalar (.bX f a b c d)=true:=(rfl)
theorem C8:scalar .dJ=true:=(rfl)
theorem C9 (b o):scalar (.iface b o)=true:=(rfl)
theorem EI:scalar .gP=true:=(rfl)
theorem Ms (b o):scalar (.fn b o)=true:=(rfl)
theorem EJ:dM .add=false:=(rfl)
theorem EK:dM .sub=false:=(rfl)
theorem EL:dM .mul=false:=(rfl)
theorem EM:dM .quo=false:=(rfl)
theorem EN:dM .rem=false:=(rfl)
theorem EO:dM .and=false:=(rfl)
theorem II:dM .or=false:=(rfl)
theorem EP:dM .xor=false:=(rfl)
theorem y8:dM .andNot=false:=(rfl)
theorem ER:dM .eql=false:=(rfl)
theorem ES:dM .neq=false:=(rfl)
theorem ET:dM .lss=false:=(rfl)
theorem EU:dM .leq=false:=(rfl)
theorem EV:dM .gtr=false:=(rfl)
theorem EW:dM .geq=false:=(rfl)
theorem EX:dM .shl=true:=(rfl)
theorem EY:dM .shr=true:=(rfl)
theorem O0 (b):unOp .not (.bool b)=some (.bool (!b)):=(rfl)
theorem O1 (k n):unOp .neg (.int k n)=some (.int k (k.wrap (0-n))):=(rfl)
theorem EZ (cs off n):part cs off n true=if off+n≤cs.length then some (.agg ((cs.drop off).take n)) else none:=(rfl)
theorem y9 (cs off n):part cs off n false=cs[off]?:=(rfl)
theorem IJ (m x):mF m x []=some x:=(rfl)
theorem E0 (m x y r):mF m x (y::r)=(pR m x y).ah fun z=>mF m z r:=(rfl)
theorem E1 (k x j y):pR true (.int k x) (.int j y)=some (.int k (if y > x then y else x)):=(rfl)
theorem E2 (k x j y):pR false (.int k x) (.int j y)=some (.int k (if y<x then y else x)):=(rfl)
/-! ### No pointers -/
theorem IK (n):belows n []=true:=(rfl)
theorem iQ (n v vs):belows n (v::vs)=(below n v&&belows n vs):=(rfl)
theorem E3 (n):below n .undef=true:=(rfl)
theorem IL (n b):below n (.bool b)=true:=(rfl)
theorem Mt (n k i):below n (.int k i)=true:=(rfl)
theorem Mu (n s):below n (.str s)=true:=(rfl)
theorem IM (n):below n .bp=true:=(rfl)
theorem IN (n t):below n (.eG t)=true:=(rfl)
theorem IP (n):below n .bg=true:=(rfl)
theorem E4 (n):below n .dJ=true:=(rfl)
theorem IQ (n):below n .gP=true:=(rfl)
theorem IS (n):below n .gu=true:=(rfl)
theorem IT (n b):below n (.eL b)=decide (b<n):=(rfl)
theorem E5:scalar .gu=true:=(rfl)
theorem E6 (b):scalar (.eL b)=true:=(rfl)
theorem Mv (n b o):below n (.ptr b o)=decide (b<n):=(rfl)
theorem oK (n o z es):below n (.sl o z es)=(o.below n&&belows n es):=(rfl)
theorem Mw (n f b c d z):below n (.bX f b c d z)=decide (b<n):=(rfl)
theorem O2 (n f c):below n (.fn f c)=belows n c:=(rfl)
theorem O3 (n c o):below n (.ep c o)=belows n c:=(rfl)
theorem E7 (n t v):below n (.iface t v)=below n v:=(rfl)
theorem Mx (n cs):below n (.agg cs)=belows n cs:=(rfl)
theorem My (n cs):below n (.cF cs)=belows n cs:=(rfl)
/-! ### Functions of the machine,said as equations that simp keeps a proof of -/
theorem Mz (k a b):kz .add k a b=some (.int k (k.wrap (a+b))):=(rfl)
theorem MA (k a b):kz .sub k a b=some (.int k (k.wrap (a-b))):=(rfl)
theorem MB (k a b):kz .mul k a b=some (.int k (k.wrap (a*b))):=(rfl)
theorem MC (k a b):kz .quo k a b=if b=0 then none else some (.int k (k.wrap (a.tdiv b))):=(rfl)
theorem MD (k a b):kz .rem k a b=if b=0 then none else some (.int k (a.tmod b)):=(rfl)
theorem ME (k a b):kz .eql k a b=some (.bool (a == b)):=(rfl)
theorem MF (k a b):kz .neq k a b=some (.bool (a != b)):=(rfl)
theorem MG (k a b):kz .lss k a b=some (.bool (decide (a<b))):=(rfl)
theorem MH (k a b):kz .leq k a b=some (.bool (decide (a≤b))):=(rfl)
theorem MI (k a b):kz .gtr k a b=some (.bool (decide (a > b))):=(rfl)
theorem MJ (k a b):kz .geq k a b=some (.bool (decide (a≥b))):=(rfl)
theorem MK (x y):yO .eql x y=some (.bool (x == y)):=(rfl)
theorem ML (x y):yO .neq x y=some (.bool (x != y)):=(rfl)
theorem MM (x y):yO .add x y=if x.length+y.length≤OH then some (.str (x++y)) else none:=(rfl)
noncomputable def qS (v:PV) (h:Hp) (n:Nat) (agg:Bool):Option PV:=match v with
  | .ptr b off=>(ay h b).ah fun cs=>part cs off n agg
  | _=>none
theorem E8 (b off h n agg):qS (.ptr b off) h n agg=(ay h b).ah fun cs=>part cs off n agg:=(rfl)
theorem Bz (e h t n agg):mO e h (t,some (n,agg))=(look e t).ah fun v=>qS v h n agg:=(rfl)
theorem oL (e h t ts):aam e h (t::ts)=(mO e h t).ah fun v=>(aam e h ts).ah fun vs=>some (v::vs):=(rfl)
theorem E9 (v):fT [v]=v:=(rfl)
theorem Fa:fT []=.cF []:=(rfl)
theorem Fb (v w vs):fT (v::w::vs)=.cF (v::w::vs):=(rfl)
theorem jN (n h):fN n h []=some []:=(rfl)
theorem ee (n h v vs):fN n h (v::vs)=(gY n h v).ah fun v=>(fN n h vs).ah fun vs=>some (v::vs):=(rfl)
theorem IU (n h o z es):gY n h (.sl o z es)=some (.sl o.strip z es):=(rfl)
theorem xV (n h f b off len sz):gY n h (.bX f b off len sz)=if b<n then some (.bX f b off len sz) else
   (ay h b).ah fun cs=>(rP sz len (cs.drop off)).ah fun es=>some (.sl (if f then .full else .no) sz es):=(rfl)
theorem Da (n h cs):gY n h (.agg cs)=(fN n h cs).ah fun cs=>some (.agg cs):=(rfl)
theorem KW (n h cs):gY n h (.cF cs)=(fN n h cs).ah fun cs=>some (.cF cs):=(rfl)
theorem MN (n h t v):gY n h (.iface t v)=(gY n h v).ah fun v=>some (.iface t v):=(rfl)
theorem MO (n h):gY n h .undef=some .undef:=(rfl)
theorem za (n h b):gY n h (.bool b)=some (.bool b):=(rfl)
theorem rW (n h k i):gY n h (.int k i)=some (.int k i):=(rfl)
theorem KX (n h s):gY n h (.str s)=some (.str s):=(rfl)
theorem O4 (n h):gY n h .bp=some .bp:=(rfl)
theorem O5 (n h t):gY n h (.eG t)=some (.eG t):=(rfl)
theorem O6 (n h):gY n h .gu=some .gu:=(rfl)
theorem O7 (n h b):gY n h (.eL b)=some (.eL b):=(rfl)
theorem SA (n h b o):gY n h (.ptr b o)=some (.ptr b o):=(rfl)
theorem U7 (n h b o):gY n h (.ep b o)=some (.ep b o):=(rfl)
theorem O8 (n h):gY n h .bg=some .bg:=(rfl)
theorem MP (n h):gY n h .dJ=some .dJ:=(rfl)
theorem O9 (n h):gY n h .gP=some .gP:=(rfl)
theorem U8 (n h f c):gY n h (.fn f c)=some (.fn f c):=(rfl)
theorem IV (h0 h t sz es vs):ju h0 h (.sl (.tok t) sz es::vs)=if belows h0 es=true∧belows h0 vs=true then
   (if t<h0 then some (.sl (.tok t) sz es::vs,bJ h h0) else(dw h t).ah fun n=>some (.sl (.tok h0) sz es::vs,ext (bJ h h0) [.tok n.1 n.2])) else none:=(rfl)
theorem zb (h0 h f b off len sz vs):ju h0 h (.bX f b off len sz::vs)=if b<h0 then(if belows h0 vs=true then some (.bX f b off len sz::vs,bJ h h0) else none) else
   (ay h b).ah fun cs=>if belows h0 vs=true∧belows h0 cs=true then some (.bX f h0 off len sz::vs,ext (bJ h h0) [.cells cs]) else none:=(rfl)
theorem Fc (h0 h vs):ju h0 h (.bg::vs)=(fN h0 h (.bg::vs)).ah fun vs=>if belows h0 vs=true then some (vs,bJ h h0) else none:=(rfl)
theorem MQ (h0 h sz es vs):ju h0 h (.sl .no sz es::vs)=(fN h0 h (.sl .no sz es::vs)).ah fun vs=>if belows h0 vs=true then some (vs,bJ h h0) else none:=(rfl)
theorem Fe (h0 h sz es vs):ju h0 h (.sl .full sz es::vs)=(fN h0 h (.sl .full sz es::vs)).ah fun vs=>if belows h0 vs=true then some (vs,bJ h h0) else none:=(rfl)
theorem lZ (len cs):rP 1 len cs=if len≤cs.length∧(cs.take len).all scalar=true then some (aO (cs.take len)) else none:=(rfl)
theorem rX (cs off):bE cs off []=cs:=(rfl)
theorem fZ (cs off v vs):bE cs off (v::vs)=bE (cs.set off v) (off+1) vs:=(rfl)
section run
variable {T:Table} {base:Nat} {e:Env} {h:Hp}
theorem Yp {l:List cq} {draw:Bool} {keep:List Nat} :
  cJ T (.ops l draw keep) base e h=aH (bU (ai T base) base draw l e h) fun e h=>some (.norm,prune keep e,h):=by
 rw[BO];cases bU (ai T base) base draw l e h<;>(exact rfl)
def rY {α:Type} (x:Option (rR × Env × Hp)) (k:rR→Env→Hp→Option α):Option α:=match x with
 | some (x,e,h)=>k x e h
 | none=>none
@[congr] theorem U9 {α:Type} {x y:Option (rR × Env × Hp)} {k:rR→Env→Hp→Option α} (h:x=y):rY x k=rY y k:=by rw[h]
theorem tB {α:Type} (v e h) (k:rR→Env→Hp→Option α):rY (some (v,e,h)) k=k v e h:=(rfl)
def Db {α:Type} (x:rR) (a b:Option α):Option α:=match x with
 | .norm=>a
 | _=>b
@[congr] theorem SB {α:Type} {x y:rR} {a b:Option α} (h:x=y):Db x a b=Db y a b:=by rw[h]
theorem Yq {a b:cE}:cJ T (.seq a b) base e h=rY (cJ T a base e h) fun x e h=>Db x (cJ T b base e h) (some (x,e,h)):=by
 rw[tw];cases cJ T a base e h with
 | none=>exact rfl
 | some x=>obtain⟨x,e',h'⟩:=x;cases x<;>(exact rfl)
theorem Va {a:cE}:cJ T (.loop a) base e h=rY (cJ T a base e h) fun x e h=>Db x (cJ T (.loop a) base e h) (some (x,e,h)):=by
 rw[yS];cases cJ T a base e h with
 | none=>exact rfl
 | some x=>obtain⟨x,e',h'⟩:=x;cases x<;>(exact rfl)
def Dc {α:Type} (id:Nat) (x:rR) (a b:Option α):Option α:=match x with
 | .exit i=>if i=id then a else b
 | _=>b
@[congr] theorem SC {α:Type} {id:Nat} {x y:rR} {a b:Option α} (h:x=y):Dc id x a b=Dc id y a b:=by rw[h]
theorem uA {α:Type} (id i) (a b:Option α):Dc id (.exit i) a b=if i=id then a else b:=(rfl)
theorem SD {id:Nat} {a:cE}:cJ T (.block id a) base e h=rY (cJ T a base e h) fun x e h=>Dc id x (some (.norm,e,h)) (some (x,e,h)):=by
 rw[uo];cases cJ T a base e h with
 | none=>exact rfl
 | some x =>
  obtain⟨x,e',h'⟩:=x;cases x with
  | exit i=>simp only[Option.ag,tB,uA]
  | _=>exact rfl
def Up {α:Type} (x:rR) (a:Option α):Option α:=match x with
 | .exit _=>none
 | _=>a
@[congr] theorem Uq {α:Type} {x y:rR} {a:Option α} (h:x=y):Up x a=Up y a:=by rw[h]
end run
end Go.Am
namespace Go.Am
mutual
def ofValue:Value→Option PV
 | .bool b=>some (.bool b)
 | .int k n=>some (.int k n)
 | .string s=>some (.str s.data.toList)
 | .pointer none=>some .bp
 | .slice none 0 0=>some .bg
 | .nilIface=>some .dJ
 | .nilFunc=>some .gP
 | .map none=>some .gu
 | .agg cs=>(fh cs.toList).map .agg
 | _=>none
def fh:List Value→Option (List PV)
 | []=>some []
 | .bool b::r=>(fh r).map (.bool b::·)
 | .int k n::r=>(fh r).map (.int k n::·)
 | .string s::r=>(fh r).map (.str s.data.toList::·)
 | .pointer none::r=>(fh r).map (.bp::·)
 | .slice none 0 0::r=>(fh r).map (.bg::·)
 | .nilIface::r=>(fh r).map (.dJ::·)
 | .nilFunc::r=>(fh r).map (.gP::·)
 | .map none::r=>(fh r).map (.gu::·)
 | _::_=>none
end
abbrev cR:=List (Nat × List PV)
def IW:cR→Nat→Option (List PV)
 | [],_=>none
 |(i,c)::r,n=>if i=n then some c else IW r n
def aU (gl:cR):Operand→Option bH
 | .tmp t=>some (.tmp t)
 | .const v=>(ofValue v).map .const
 | .func f=>some (.const (.fn f []))
 | .global n=>(IW gl n).map fun cs=>.const (.ep cs 0)
def lB (gl:cR):List Operand→Option (List bH)
 | []=>some []
 | x::xs=>(aU gl x).bind fun y=>(lB gl xs).map (y::·)
def cOpt (gl:cR):Option Operand→Option (Option bH)
 | none=>some none
 | some x=>(aU gl x).map some
structure De where
 boxes:List (Nat × Nat):=[]
 vals:List (Nat × Nat):=[]
 aaA:List (Nat × Nat):=[]
 keep:Bool:=false
 own:Bool:=false
 apart:List (Nat × Nat):=[]
 quiet:List (Nat × Nat):=[]
 low:List (Nat × Nat):=[]
 fix:List (Nat × Nat):=[]
 deep:Nat:=5
def mP (P:Program) (t:TypeId):Option Bool :=
 match P.underlying t with
 | some (.struct _) | some (.array _ _)=>some true
 | some _=>some false
 | none=>none
def sizeOf (P:Program) (t:TypeId):Option Nat:=(P.info? t).map (·.size)
def zeroOf (P:Program) (t:TypeId):Option (List PV):=((P.info? t).bind (·.zero)).bind fun v=>(ofValue v).map (·.cells)
def zeroV (P:Program) (t:TypeId):Option PV:=((P.info? t).bind (·.zero)).bind ofValue
def eM:Nat→Operand→Bool
 | 0,.const (.pointer none)=>true
 | 1,.const (.slice none 0 0)=>true
 | 2,.const .nilIface=>true
 | 3,.const .nilFunc=>true
 | 4,.const (.map none)=>true
 | _,_=>false
def xW:TypeDesc→Option Nat
 | .pointer _=>some 0
 | .slice _=>some 1
 | .interface _=>some 2
 | .func _ _ _=>some 3
 | .map _ _=>some 4
 | _=>none
def gX:BinOp→Bool
 | .neq=>true
 | _=>false
def isEq:BinOp→Bool
 | .eql | .neq=>true
 | _=>false
def zc (P:Program) (gl:cR) (fs:Array Field):List (Nat × Operand)→Option (List (Nat × Nat × bH))
 | []=>some []
 |(i,x)::r=>(fs[i]?).bind fun f=>(sizeOf P f.type).bind fun n=>(aU gl x).bind fun y=>(zc P gl fs r).map ((f.offset,n,y)::·)
def rZ (P:Program) (gl:cR) (n:Nat):List (Nat × Operand)→Option (List (Nat × Nat × bH))
 | []=>some []
 |(i,x)::r=>(aU gl x).bind fun y=>(rZ P gl n r).map ((i*n,n,y)::·)
def nG (gl:cR):List (Nat × Operand)→Option (List (Nat × bH))
 | []=>some []
 |(i,x)::r=>(aU gl x).bind fun y=>(nG gl r).map ((i,y)::·)
def iH:List (Nat × bH)→Option (List (Nat × PV))
 | []=>some []
 |(i,.const v)::r=>(iH r).map ((i,strip v)::·)
 | _=>none
def dQ (P:Program) (t:TypeId):Bool:=match P.info? t with
 | some i=>i.bytes≤4096
 | none=>false
def jr (P:Program) (t:TypeId):Option Nat:=match P.underlying t,sizeOf P t with
 | some .bool,some 1=>some 0
 | some (.int _),some 1=>some 1
 | some .string,some 1=>some 2
 | _,_=>none
def oM (P:Program):Nat→List Field→Option (List Nat)
 | _,[]=>some []
 | off,f::r=>if f.offset == off&&f.name != "_" then(jr P f.type).bind fun k=>(oM P (off+1) r).map (k::·) else none
def vL (P:Program) (t:TypeId):Option (List Nat × Bool):=match P.underlying t with
 | some (.struct fs)=>if P.stoodInHeld t then none else(oM P 0 fs.toList).map fun ks=>(ks,true)
 | _=>(jr P t).map fun k=>([k],false)
def kA (P:Program) (gl:cR) (md:Nat) (c:Call) (type:TypeId):Option iP :=
 match c.callee with
 | .value (.func f)=>(lB gl c.args.toList).map (.call f)
 | .value (.tmp t)=>(lB gl c.args.toList).map (.lX (.tmp t))
 | .builtin .len=>match c.args.toList,c.argTypes.toList with
  | [x],[t]=>match P.underlying t with
   | some .string=>(aU gl x).map (.len true)
   | some (.slice _)=>(aU gl x).map (.len false)
   | some (.map _ _)=>(aU gl x).map fun x=>.gen .tq [x]
   | _=>none
  | _,_=>none
 | .builtin .min=>(lB gl c.args.toList).map (.mE false)
 | .builtin .max=>(lB gl c.args.toList).map (.mE true)
 | .builtin .copy=>match c.args.toList,c.argTypes.toList with
  | [d,x],[t,_]=>match P.underlying t with
   | some (.slice el)=>if sizeOf P el=some 1 then(aU gl x).bind fun x'=>(aU gl d).map fun d'=>.oC d' x' else none
   | _=>none
  | _,_=>none
 | .builtin .delete=>match c.args.toList,c.argTypes.toList with
  | [m,x],[t,_]=>match P.underlying t with
   | some (.map kt _)=>(vL P kt).bind fun ks=>(aU gl m).bind fun m'=>(aU gl x).map fun x'=>.gen (.CT ks.1 ks.2) [m',x']
   | _=>none
  | _,_=>none
 | .builtin .append=>match c.args.toList,c.argTypes.toList with
  | [s,x],[t,u]=>match P.underlying t,P.underlying u with
   | some (.slice el),some (.slice _) | some (.slice el),some .string =>
    (sizeOf P el).bind fun sz=>if dQ P el&&sz != 0&&(zeroOf P el).any (fun z=>z.length == sz) then
     (aU gl x).bind fun x'=>(aU gl s).map fun s'=>if md=1 then .fD sz s' x' else if md=2 then .append sz s' x' else if md=3 then .gen (.vJ sz) [s',x'] else .iC el sz s' x' else none
   | _,_=>none
  | _,_=>none
 | _=>none
def BT (P:Program) (t:TypeId):Bool:=match P.info? t with
 | some i=>(match i.desc with
  | TypeDesc.named n _=>n == "strings.Builder"
  | _=>false)
 | none=>false
def IX (t:TypeId):List PV→List PV
 | [.bp,.bg]=>[.eG t,.bg]
 | z=>z
def jO (P:Program) (gl:cR) (md:Nat) (o:Oper):Option iP :=
 match o.op with
 | .move x | .assign x=>(aU gl x).map .Uk
 | .pick c a b=>(aU gl c).bind fun c=>(aU gl a).bind fun a=>(aU gl b).map fun b=>.pick c a b
 | .alloc t=>(zeroOf P t).map fun z=>.alloc (if BT P t then IX t z else z)
 | .box t x=>(sizeOf P t).bind fun n=>(aU gl x).map (.box n)
 | .build t ps=>(zeroOf P t).bind fun z=>match P.underlying t with
  | some (.struct fs)=>if(fs.toList.mapM fun f=>(P.info? f.type).map fun i=>(f.offset,i.size)).isSome then(zc P gl fs ps.toList).map (.build z) else none
  | some (.array _ el)=>(sizeOf P el).bind fun n=>(rZ P gl n ps.toList).map (.build z)
  | _=>none
 | .buildSlice t len ps=>if md=1 then match P.underlying t with
  | some (.slice el)=>if sizeOf P el=some 1 then(zeroOf P el).bind fun z=>(nG gl ps.toList).bind fun l=>(iH l).bind fun l=>(eV 1 l (List.replicate len (z.headD .undef))).bind fun cs =>
   if len≠0&&len≤16777216&&z.length == 1&&z.all scalar&&cs.all scalar then some (.gen (.fC cs) []) else none else none
  | _=>none
  else match P.underlying t with
  | some (.slice el)=>(sizeOf P el).bind fun n=>(mP P el).bind fun a=>(zeroOf P el).bind fun z =>
   if len*n≤16777216&&n != 0&&z.length == n&&z.all scalar&&(a||n == 1) then(nG gl ps.toList).map (.pQ n a z len) else none
  | _=>none
 | .load t a=>(sizeOf P t).bind fun n=>(mP P t).bind fun g=>(aU gl a).bind fun a =>
   if g then some (.load n true a) else some (.load 1 false a)
 | .store t a x=>(sizeOf P t).bind fun n=>(aU gl a).bind fun a'=>(aU gl x).map (.store n a')
 | .nilCheck x=>(aU gl x).map .rO
 | .binOp op t x y _ =>
  match P.underlying t with
  | some (.int _) | some .string=>(aU gl x).bind fun x=>(aU gl y).map (.bin op x)
  | some (.struct fs)=>if isEq op&&!(P.stoodInHeld t)&&!(P.eqGuardType P.depth t) then(oM P 0 fs.toList).bind fun ks=>(aU gl x).bind fun x=>(aU gl y).map (.eqv (gX op) ks x) else none
  | some (.array n el)=>if isEq op&&!(P.eqGuardType P.depth t)&&n != 0 then(jr P el).bind fun kd=>(aU gl x).bind fun x=>(aU gl y).map (.eqv (gX op) (List.replicate n kd) x) else none
  | some .bool=>if isEq op then(aU gl x).bind fun x=>(aU gl y).map (.CU (gX op) x) else none
  | some d=>if isEq op then(xW d).bind fun kd=>if eM kd y then(aU gl x).map (.oB kd (gX op)) else if eM kd x then(aU gl y).map (.oB kd (gX op)) else none else none
  | none=>none
 | .unOp op _ x=>(aU gl x).map (.un op)
 | .convert s d x=>match P.underlying s,P.underlying d with
  | some (.int _),some (.int k)=>(aU gl x).map (.toInt k)
  | some .string,some .string=>(aU gl x).map fun x=>.slice none x none none none
  | some .string,some (.slice el)=>match P.underlying el with
   | some (.int .u8)=>(aU gl x).map (.ir (md == 1))
   | _=>none
  | some (.slice el),some .string=>match P.underlying el with
   | some (.int .u8)=>(aU gl x).map .iu
   | _=>none
  | some (.slice el),some (.slice e2)=>if s=d&&el == e2 then(match P.underlying el with
   | some (.int .u8)=>(aU gl x).map fun x=>.gen .mark [x]
   | _=>none) else none
  | _,_=>none
 | .makeMap _ none=>some (.gen .makeMap [])
 | .lookup t m x ok=>match P.underlying t with
  | some (.map kt el)=>(vL P kt).bind fun ks=>(zeroV P el).bind fun z=>(aU gl m).bind fun m'=>(aU gl x).map fun x'=>.gen (.lookup ks.1 ks.2 z ok) [m',x']
  | _=>none
 | .mapUpdate t m x y | .insert t m x y=>match P.underlying t with
  | some (.map kt _)=>(vL P kt).bind fun ks=>(aU gl m).bind fun m'=>(aU gl x).bind fun x'=>(aU gl y).map fun y'=>.gen (.CS ks.1 ks.2) [m',x',y']
  | _=>none
 | .makeFunc (.func f) first cap=>if first.size=0 then(lB gl cap.toList).map (.HV f) else none
 | .makeSlice t len cap=>match P.underlying t with
  | some (.slice el)=>(sizeOf P el).bind fun n=>(mP P el).bind fun a=>(zeroOf P el).bind fun z =>
   if dQ P el&&n != 0&&z.length == n&&z.all scalar&&(a||n == 1) then(aU gl len).bind fun l=>(aU gl cap).map (.mD el z a l) else none
  | _=>none
 | .range t x=>match P.underlying t with
  | some .string=>(aU gl x).map .range
  | _=>none
 | .next x s=>if s then(aU gl x).map .next else none
 | .typeAssert x _ t ok=>match P.underlying t with
  | some (.interface _)=>none
  | some _=>(zeroV P t).bind fun z=>(aU gl x).map (.kC t ok z)
  | none=>none
 | .makeInterface t x=>match P.underlying t with
  | some (.interface _)=>none
  | some _=>(aU gl x).map (.HW t)
  | none=>none
 | .slice t x lo hi mx=>if mx.isSome&&hi.isNone then none else match P.underlying t with
  | some .string=>(aU gl x).bind fun x=>(cOpt gl lo).bind fun lo=>(cOpt gl hi).bind fun hi=>(cOpt gl mx).map (.slice none x lo hi)
  | some (.slice el)=>(sizeOf P el).bind fun n=>(aU gl x).bind fun x=>(cOpt gl lo).bind fun lo=>(cOpt gl hi).bind fun hi=>(cOpt gl mx).map (.slice (some n) x lo hi)
  | some (.array len el)=>if mx.isNone then(sizeOf P el).bind fun n=>(aU gl x).bind fun x=>(cOpt gl lo).bind fun lo=>(cOpt gl hi).map fun hi=>.gen (.jt n len lo.isSome hi.isSome) (x::(lo.toList++hi.toList)) else none
  | _=>none
 | .fieldAddr s x f=>match P.underlying s with
  | some (.struct fs)=>(fs[f]?).bind fun f=>(sizeOf P f.type).bind fun n=>if n=0 then none else(aU gl x).map (.nC f.offset)
  | _=>none
 | .field t x f=>match P.underlying t with
  | some (.struct fs)=>(fs[f]?).bind fun f=>(sizeOf P f.type).bind fun n=>(mP P f.type).bind fun g=>(aU gl x).map (.field f.offset n g)
  | _=>none
 | .indexAddr t x i=>match P.underlying t with
  | some (.slice el)=>(sizeOf P el).bind fun n=>(aU gl x).bind fun x=>(aU gl i).map (.CV n x)
  | some (.array len el)=>(sizeOf P el).bind fun n=>(aU gl x).bind fun x=>(aU gl i).map (.oD n len x)
  | _=>none
 | .index t x i=>match P.underlying t with
  | some .string=>(aU gl x).bind fun x=>(aU gl i).map (.nD x)
  | some (.array len el)=>(sizeOf P el).bind fun n=>(mP P el).bind fun g=>(aU gl x).bind fun x=>(aU gl i).map (.oE n g len x)
  | _=>none
 | .extract x i=>(aU gl x).map (.extract · i)
 | .call c=>kA P gl md c o.type
 | _=>none
/-! ### Ur slots are read behind the region that writes them -/
def dU:bH→List Nat
 | .tmp t=>[t]
 | .const _=>[]
def nH:iP→List Nat
 | .Uk x | .box _ x | .load _ _ x | .rO x | .oB _ _ x | .un _ x | .toInt _ x | .ir _ x | .iu x | .HW _ x | .nC _ x | .range x | .next x
 | .field _ _ _ x | .extract x _ | .kC _ _ _ x | .len _ x=>dU x
 | .pick c a b=>dU c++dU a++dU b
 | .alloc _ | .stuck=>[]
 | .build _ ps=>ps.flatMap fun x=>dU x.2.2
 | .pQ _ _ _ _ ps=>ps.flatMap fun x=>dU x.2
 | .store _ a x=>dU a++dU x
 | .bin _ x y | .CU _ x y | .CV _ x y | .oD _ _ x y | .nD x y | .oE _ _ _ x y | .append _ x y | .iC _ _ x y | .fD _ x y | .eqv _ _ x y | .mD _ _ _ x y | .oC x y=>dU x++dU y
 | .slice _ x lo hi mx=>dU x++(lo.map dU).getD []++(hi.map dU).getD []++(mx.map dU).getD []
 | .mE _ xs | .call _ xs | .jm _ xs | .HV _ xs | .gen _ xs | .iW _ _ xs | .qQ _ _ xs=>xs.flatMap dU
 | .fE _ _ _ x=>dU x
 | .lX x xs=>dU x++xs.flatMap dU
 | .gy t _ _ x=>t::dU x
 | .fR t _ a x=>t::(dU a++dU x)
def outer:List cq→List Nat→List Nat      -- the slots that are read and CX not written here before
 | [],_=>[]
 | o::r,w=>(nH o.op++(o.guard.map fun g=>[g.1]).getD []).filter (fun t=>!w.contains t)++outer r (o.dst.toList++w)
def qT:cE→List Nat
 | .ops l _ _=>outer l []
 | .seq a b=>qT a++qT b
 | .cond c a b=>dU c++qT a++qT b
 | .block _ a | .loop a | .scope a=>qT a
 | _=>[]
def dedup:List Nat→List Nat
 | []=>[]
 | x::xs=>if xs.contains x then dedup xs else x::dedup xs
def aal (k:List Nat):cE→cE
 | .ops l d _=>.ops l d k
 | .seq a b=>.seq (aal k a) (aal k b)
 | .cond c a b=>.cond c (aal k a) (aal k b)
 | .block i a=>.block i (aal k a)
 | .loop a=>.loop (aal k a)
 | .scope a=>.scope (aal k a)
 | c=>c
def fU:iP→Bool
 | .call _ _ | .lX _ _ | .jm _ _ | .iW _ _ _=>true
 | _=>false
def ze:Op→Bool
 | .call _=>true
 | _=>false
/-! ### abZ,code,functions -/
def KY (l:List (Nat × Nat)) (r i:Nat):Bool:=l.any fun x=>x.1 == r&&x.2 == i
def zf (ops:Array Oper):Option (Nat × Bool)→Option (Option (Nat × Bool))
 | none=>some none
 | some (j,want)=>((ops[j]?).bind (·.dst)).map fun d=>some (d,want)
def KZ (nt:Nat):Option Tmp→Bool
 | none=>true
 | some d=>d<nt
def Vb:iP→Bool
 | .jm _ _ | .gy _ _ _ _ | .fR _ _ _ _ | .fE _ _ _ _ | .iW _ _ _ | .qQ _ _ _=>false
 | _=>true
def mode (an:De) (r i:Nat):Nat:=if KY an.boxes r i then 1 else if KY an.vals r i then 2 else if KY an.aaA r i then 3 else 0
def Vc (P:Program) (gl:cR) (md:Nat) (o:Oper):Option iP:=some ((jO P gl md o).getD .stuck)
def zg:cE:=.ops [⟨none,none,.stuck⟩] false []
def Pa (P:Program) (gl:cR) (an:De) (nt id:Nat) (ops:Array Oper):Nat→List Oper→Option (List cq)
 | _,[]=>some []
 | i,o::r=>(Vc P gl (mode an id i) o).bind fun a=>(zf ops o.guard).bind fun g =>
   if KZ nt o.dst&&(!fU a||ze o.op)&&Vb a then(Pa P gl an nt id ops (i+1) r).map ({ dst:=o.dst,guard:=g,op:=a }::·) else none
def zh (an:De) (id:Nat) (ops:Array Oper):Nat→List cq→List cq
 | _,[]=>[]
 | i,x::r=>(match x.op with
   | .call f xs=>if KY an.quiet id i then { x with op:=.jm f xs } else x
   | _=>x)::zh an id ops (i+1) r
def zi:yN→Bool
 | .lookup _ _ _ _ | .tq | .mark | .jt _ _ _ _=>true
 | _=>false
def quiet (d:Bool):iP→Bool
 | .gen k _=>zi k
 | .call _ _ | .lX _ _=>d
 | .iW _ _ _ | .qQ _ _ _=>false
 | .ir b _=>!b
 | .alloc _ | .box _ _ | .store _ _ _ | .fD _ _ _ | .iC _ _ _ _ | .mD _ _ _ _ _ | .oC _ _ | .range _ | .next _ | .fR _ _ _ _ | .stuck=>false
 | _=>true
def looks:iP→Bool
 | .ir b _=>b
 | .alloc _ | .box _ _ | .store _ _ _ | .fD _ _ _ | .iC _ _ _ _ | .mD _ _ _ _ _ | .oC _ _ | .range _ | .next _ | .fR _ _ _ _ | .gy _ _ _ _ | .stuck | .load _ _ _ | .call _ _ | .lX _ _ | .jm _ _ | .iu _ | .append _ _ _ | .gen _ _ | .fE _ _ _ _ | .iW _ _ _ | .qQ _ _ _=>true
 | _=>false
def names (o:cq):List Nat:=o.dst.toList++nH o.op++(o.guard.map fun g=>[g.1]).getD []
def Pb:iP→iP→Bool
 | .gy t _ _ _,.fR s _ _ _ | .fR s _ _ _,.gy t _ _ _=>t == s
 | _,_=>false
def oN:iP→iP→Bool
 | .fE k _ _ _,.iW j _ _ | .fE k _ _ _,.qQ j _ _ | .iW j _ _,.fE k _ _ _ | .qQ j _ _,.fE k _ _ _=>k == j
 | _,_=>false
def IY:iP→Bool
 | .load _ _ _=>true
 | _=>false
def Pc:iP→Bool
 | .alloc _ | .box _ _=>true
 | _=>false
def zj (d:Bool) (x y:cq):Bool :=
 (x.dst.toList.all fun d=>!(names y).contains d)&&(y.dst.toList.all fun d=>!(names x).contains d) &&
 (oN x.op y.op||Pb x.op y.op||(IY x.op&&Pc y.op)||((quiet d x.op||!looks y.op)&&(quiet d y.op||!looks x.op)))
def Vd (o:Oper):List Nat:=o.after.toList.filterMap fun e=>if Region.binds .any e then some e.on else none
def oO (ops:Array Oper) (i:Nat):List Nat:=((ops[i]?).map Vd).getD []
def Pd (ops:Array Oper):Nat→Nat→Nat→Bool
 | 0,_,_=>false
 | n+1,y,i=>(oO ops i).any fun m=>m == y||Pd ops n y m
def IZ (n:Nat) (d:Bool) (ops:Array Oper) (l:List cq) (y i:Nat):Bool :=
 match l[y]?,l[i]? with
 | some a,some b=>zj d a b||Pd ops n y i
 | _,_=>false
def I0 (n:Nat) (d:Bool) (ops:Array Oper) (l:List cq):Bool :=
 (List.range l.length).all fun i=>(oO ops i).all (fun m=>decide (m<i))&&(List.range i).all fun y=>IZ n d ops l y i
def uq:iP→iP
 | .jm f xs=>.call f xs
 | .gy _ n g a=>.load n g a
 | .fR _ n a x=>.store n a x
 | .fE _ n g a=>.load n g a
 | .iW _ f xs=>.call f xs
 | .qQ _ g xs=>.gen g xs
 | a=>a
def kF (n:Nat) (ops:Array Oper) (l:List cq):Nat→List cq→List cq
 | _,[]=>[]
 | i,x::r=>(match x.op with
   | .call f xs=>if(List.range l.length).all fun j=>j == i||IZ n false ops l (min i j) (max i j) then x else { x with op:=.jm f xs }
   | _=>x)::kF n ops l (i+1) r
def Ys (s:Nat):bH→Bool
 | .tmp t=>t == s
 | _=>false
def tC (t:Nat):iP→iP
 | .load n g a=>.gy (t % 1000) n g a
 | .store n a x=>if(decide (t<1000)||Ys (t-1000) a)=true then .fR (t % 1000) n a x else .store n a x
 | a=>a
def pU:List (Nat × Nat)→Nat→Option Nat
 | [],_=>none
 |(r,t)::l,id=>if r=id then some t else pU l id
def pV (an:De) (id:Nat) (l:List cq):List cq:=match pU an.apart id with
 | none=>l
 | some t=>l.map fun x=>{ x with op:=tC t x.op }
def BU (k:Nat):iP→iP
 | .load n g a=>.fE k n g a
 | .call f xs=>.iW k f xs
 | .gen g xs=>if zi g then .gen g xs else .qQ k g xs
 | a=>a
def qU (an:De) (id:Nat) (l:List cq):List cq:=match pU an.low id with
 | none=>l
 | some t=>l.map fun x=>{ x with op:=BU t x.op }
def drawn (an:De) (id:Nat) (ops:Array Oper) (l:List cq):List cq :=
 pV an id (kF an.deep ops (qU an id (zh an id ops 0 l)) 0 (qU an id (zh an id ops 0 l)))
def fixed (an:De) (id:Nat) (a:cE):cE:=match pU an.fix id with
 | none=>a
 | some t=>.seq (.ops [⟨some t,none,.gen .fix [.tmp t]⟩] false []) a
def Df (P:Program) (gl:cR) (an:De) (nt:Nat) (id:Nat) (ops:Array Oper) (draw:Bool):Option cE:=(Pa P gl an nt id ops 0 ops.toList).bind fun l =>
   if draw then(if P.follows .mixedOrders then(if I0 an.deep false ops (drawn an id ops l) then some (.ops (drawn an id ops l) false []) else some zg) else some zg) else some (.ops (zh an id ops 0 l) false [])
def gC (P:Program) (gl:cR) (an:De) (nt:Nat):Code→Option cE
 | .skip=>some .skip
 | .region id ops draw=>(Df P gl an nt id ops draw).map (fixed an id)
 | .seq a b=>(gC P gl an nt a).bind fun a=>(gC P gl an nt b).map (.seq a)
 | .cond c a b=>(aU gl c).bind fun c=>(gC P gl an nt a).bind fun a=>(gC P gl an nt b).map (.cond c a)
 | .block id a=>(gC P gl an nt a).map (.block id)
 | .loop a=>(gC P gl an nt a).map .loop
 | .exit id=>some (.exit id)
 | .ret=>some .ret
 | _=>some zg
def aay (P:Program):List ResultVar→Option (List (Nat × Option (Nat × Bool)))
 | []=>some []
 | .tmp t::r=>(aay P r).map ((t,none)::·)
 | .cell t ty::r=>(sizeOf P ty).bind fun n=>(mP P ty).bind fun g=>if g||n == 1 then(aay P r).map ((t,some (n,g))::·) else none
def bQ (P:Program) (gl:cR) (an:De) (fn:Func):Option dm :=
 fn.body.bind fun c=>(aay P fn.results.toList).bind fun rs=>(gC P gl an fn.ntmps c).bind fun a =>
  if fn.params.size≤fn.ntmps∧fn.name≠"runtime.NumGoroutine" then some { results:=rs,body:=aal (dedup (qT a++rs.map (·.1))) a,keep:=an.keep,own:=an.own } else none
end Go.Am
namespace Go.Am
/-! ### An operation hangs on the slots that it reads -/
def Agree (l:List Nat) (e f:Env):Prop:=∀ t∈l,look e t=look f t
theorem Agree.left {l m:List Nat} {e f:Env} (h:Agree (l++m) e f):Agree l e f:=fun t ht=>h t (List.mem_append_left _ ht)
theorem Agree.right {l m:List Nat} {e f:Env} (h:Agree (l++m) e f):Agree m e f:=fun t ht=>h t (List.mem_append_right _ ht)
theorem aY {e f:Env} {x:bH} (h:Agree (dU x) e f):ev e x=ev f x:=by
 cases x with
 | tmp t=>exact h t (by simp[dU])
 | const v=>rfl
theorem gR {e f:Env}:∀ {xs:List bH},Agree (xs.flatMap dU) e f→nA e xs=nA f xs
 | [],_=>rfl
 | x::xs,h=>by
  rw[List.flatMap_cons]at h;simp only[nA,aY h.left,gR h.right]
theorem qA {e f:Env}:∀ {ps:List (Nat × bH)},Agree (ps.flatMap fun x=>dU x.2) e f→eX e ps=eX f ps
 | [],_=>rfl
 |(i,x)::ps,h=>by
  rw[List.flatMap_cons]at h;simp only[eX,aY h.left,qA h.right]
theorem oP {e f:Env}:∀ {ps:List (Nat × Nat × bH)},Agree (ps.flatMap fun x=>dU x.2.2) e f→eY e ps=eY f ps
 | [],_=>rfl
 |(i,n,x)::ps,h=>by
  rw[List.flatMap_cons]at h;simp only[eY,aY h.left,oP h.right]
theorem zk {e f:Env} {n d:Nat} {x:Option bH} (h:Agree ((x.map dU).getD []) e f):bd e n d x=bd f n d x:=by
 cases x with
 | none=>rfl
 | some x=>simp only[bd,aY (show Agree (dU x) e f from h)]
theorem BA {e f:Env} {n:Option Nat} {lo hi mx:Option bH} {v:PV} (h1:Agree ((lo.map dU).getD []) e f) (h2:Agree ((hi.map dU).getD []) e f) (h3:Agree ((mx.map dU).getD []) e f) :
  iD e n lo hi mx v=iD f n lo hi mx v:=by
 have b1:∀ n d,bd e n d lo=bd f n d lo:=fun n d=>zk h1
 have b2:∀ n d,bd e n d hi=bd f n d hi:=fun n d=>zk h2
 have b3:∀ n d,bd e n d mx=bd f n d mx:=fun n d=>zk h3
 cases v<;>simp only[iD,b1,b2,b3]
def vh (r:Option (PV × Env × Hp)):Option (PV × Hp):=r.map fun x=>(x.1,x.2.2)
theorem bG {α:Type} (x:Option α) (k:α→Option (PV × Env × Hp)):vh (x.ah k)=x.ah fun a=>vh (k a):=by cases x<;>rfl
theorem bI (v:PV) (e:Env) (h:Hp):vh (some (v,e,h))=some (v,h):=rfl
theorem cn:vh none=none:=rfl
theorem fm {c:Prop} [Decidable c] (x y:Option (PV × Env × Hp)):vh (if c then x else y)=if c then vh x else vh y:=by split<;>rfl
theorem SF (v:PV) (x y:Option (PV × Env × Hp)):vh (aD v x y)=aD v (vh x) (vh y):=by
 cases v with
 | bool b=>cases b<;>rfl
 | _=>rfl
theorem I1 (orc:iG) (base:Nat) (draw:Bool) {op:iP} {e f:Env} (h:Agree (nH op) e f) (hp:Hp) :
  vh (step orc base draw op e hp)=vh (step orc base draw op f hp):=by
 cases op<;>simp only[nH]at h
 case Uk x=>simp only[step,aY h,bG,bI]
 case pick c a b=>simp only[step,aY h.left.left,aY h.left.right,aY h.right,bG,SF,bI]
 case alloc z=>simp only[step,bI]
 case box n x=>simp only[step,aY h,bG,fm,bI,cn]
 case build z ps=>simp only[step,oP h,bG,bI]
 case pQ sz a z len ps=>simp only[step,qA h,bG,bI]
 case load n a x =>
  simp only[step,aY h,bG];congr 1;funext v;cases v<;>simp only[bG,bI,cn]
 case store n x y =>
  simp only[step,aY h.left,aY h.right,bG];congr 1;funext v;congr 1;funext u;cases v<;>simp only[bG,fm,bI,cn]
 case rO x =>
  simp only[step,aY h,bG];congr 1;funext v;split<;>simp only[bI,cn]
 case bin o x y=>simp only[step,aY h.left,aY h.right,bG,bI]
 case CU o x y =>
  simp only[step,aY h.left,aY h.right,bG];congr 1;funext v;congr 1;funext u;split<;>simp only[bI,cn]
 case oB k n x=>simp only[step,aY h,bG,bI]
 case un o x=>simp only[step,aY h,bG,bI]
 case toInt k x =>
  simp only[step,aY h,bG];congr 1;funext v;cases v<;>simp only[bI,cn]
 case ir b x =>
  simp only[step,aY h,bG];congr 1;funext v;cases v<;>simp only[fm,bI,cn]
 case HV f xs=>simp only[step,gR h,bG,bI]
 case stuck=>rfl
 case gy t n g x =>
  have h1:look e t=look f t:=h t (by simp);have h2:Agree (dU x) e f:=fun s hs=>h s (by simp[hs])
  simp only[step,h1,aY h2,bG];congr 1;funext q;congr 1;funext v;split<;>simp only[bG,fm,bI,cn]
 case fR t n x y =>
  have h1:look e t=look f t:=h t (by simp);have h2:Agree (dU x) e f:=fun s hs=>h s (by simp[hs])
  have h3:Agree (dU y) e f:=fun s hs=>h s (by simp[hs])
  simp only[step,h1,aY h2,aY h3,bG];congr 1;funext q;congr 1;funext v;congr 1;funext u;split<;>simp only[bG,fm,bI,cn]
 case mD T z a x y =>
  simp only[step,aY h.left,aY h.right,bG,fm,bI,cn]
 case oC x y =>
  simp only[step,aY h.left,aY h.right,bG];congr 1;funext v;congr 1;funext u;congr 1;funext xs;cases v<;>simp only[bG,fm,bI,cn]
 case range x =>
  simp only[step,aY h,bG];congr 1;funext v;cases v<;>simp only[bI,cn]
 case next x =>
  simp only[step,aY h,bG];congr 1;funext v;cases v<;>simp only[bG,fm,bI,cn]
 case eqv n ks x y =>
  simp only[step,aY h.left,aY h.right,bG];congr 1;funext v;congr 1;funext u;split<;>simp only[bG,bI,cn]
 case iu x =>
  simp only[step,aY h,bG];congr 1;funext v;cases v<;>simp only[bG,bI,cn]
 case HW t x=>simp only[step,aY h,bG,bI]
 case slice n x lo hi mx =>
  have:=fun v=>BA (n:=n) (v:=v) (lo:=lo) (hi:=hi) (mx:=mx) (e:=e) (f:=f) h.left.left.right h.left.right h.right
  simp only[step,aY h.left.left.left,bG,bI,this]
 case nC o x =>
  simp only[step,aY h,bG];congr 1;funext v;cases v<;>simp only[bI,cn]
 case field o n a x =>
  simp only[step,aY h,bG];congr 1;funext v;cases v<;>simp only[bG,bI,cn]
 case CV s x y =>
  simp only[step,aY h.left,aY h.right,bG];congr 1;funext v;congr 1;funext u;cases v<;>simp only[bG,fm,bI,cn]
 case oD s l x y =>
  simp only[step,aY h.left,aY h.right,bG];congr 1;funext v;congr 1;funext u;cases v<;>simp only[bG,fm,bI,cn]
 case nD x y =>
  simp only[step,aY h.left,aY h.right,bG];congr 1;funext v;congr 1;funext u;cases v<;>simp only[bG,fm,bI,cn]
 case oE s a l x y =>
  simp only[step,aY h.left,aY h.right,bG];congr 1;funext v;congr 1;funext u;cases v<;>simp only[bG,fm,bI,cn]
 case extract x i =>
  simp only[step,aY h,bG];congr 1;funext v;cases v<;>simp only[bG,bI,cn]
 case kC t ok z x =>
  simp only[step,aY h,bG];congr 1;funext v;cases v<;>simp only[fm,bI,cn]
 case len s x =>
  simp only[step,aY h,bG];congr 1;funext v;split<;>simp only[bI,cn]
 case mE m xs =>
  simp only[step,gR h,bG];congr 1;funext v;cases v<;>simp only[bG,bI,cn]
 case append s x y =>
  simp only[step,aY h.left,aY h.right,bG];congr 1;funext v;congr 1;funext u;congr 1;funext xs;split
  ·cases v<;>(try simp only[fm,bI,cn])
   rename_i o _ _;cases o<;>simp only[fm,bI,cn]
  ·rfl
 case iC T s x y=>simp only[step,aY h.left,aY h.right,bG,bI]
 case fD s x y =>
  simp only[step,aY h.left,aY h.right,bG,fm,bI,cn]
 case call g xs =>
  simp only[step,gR h,bG];congr 1;funext v;congr 1;funext r;split<;>simp only[fm,bI,cn]
 case gen g xs=>simp only[step,gR h,bG,bI]
 case qQ k g xs=>simp only[step,gR h,bG,bI]
 case iW k g xs =>
  simp only[step,gR h,bG];congr 1;funext v;congr 1;funext r;split<;>simp only[fm,bI,cn]
 case fE k n a x =>
  simp only[step,aY h,bG];congr 1;funext v;cases v<;>simp only[bG,fm,bI,cn]
 case jm g xs =>
  simp only[step,gR h,bG];congr 1;funext v;congr 1;funext r;simp only[fm,bI,cn]
 case lX x xs =>
  simp only[step,aY h.left,bG];congr 1;funext v;cases v<;>simp only[gR h.right,bG,cn]
  congr 1;funext v;congr 1;funext r;split<;>simp only[fm,bI,cn]
def aV {α:Type} (p:α→Prop) (r:Option α):Prop:=∀ x,r=some x→p x
theorem aV.ah {α β:Type} {p:β→Prop} {x:Option α} {k:α→Option β} (h:∀ a,aV p (k a)):aV p (x.ah k):=by
 cases x with
 | none=>intro y hy;cases hy
 | some a=>exact h a
theorem aV.none {α:Type} {p:α→Prop}:aV p none:=fun x hx=>by cases hx
theorem aV.some {α:Type} {p:α→Prop} {x:α} (h:p x):aV p (some x):=fun y hy=>by cases hy;exact h
theorem aV.ite {α:Type} {p:α→Prop} {c:Prop} [Decidable c] {x y:Option α} (h1:aV p x) (h2:aV p y):aV p (if c then x else y):=by split<;>assumption
theorem aV.cond {α:Type} {p:α→Prop} {v:PV} {x y:Option α} (h1:aV p x) (h2:aV p y):aV p (aD v x y):=by
 cases v with
 | bool b=>cases b<;>assumption
 | _=>exact aV.none
theorem zl (orc:iG) (base:Nat) (draw:Bool) {op:iP} {e:Env} {h:Hp}:aV (fun x=>x.2.1=e) (step orc base draw op e h):=by
 cases op<;>simp only[step]
 all_goals
  repeat' (first
   | exact aV.some rfl
   | exact aV.none
   |(refine aV.ah fun _=>?_)
   |(refine aV.ite ?_ ?_)
   |(refine aV.cond ?_ ?_)
   | split)
theorem MS {n len:Nat} {v:PV} {lo hi:Option PV} {h:Hp}:aV (fun r=>r.2=h) (HH n len v lo hi h):=by
 unfold HH;split
 ·refine aV.ah fun _=>aV.ite (aV.ah fun _=>aV.ah fun _=>aV.ite (aV.some rfl) (aV.some rfl)) aV.none
 ·exact aV.none
theorem zm {n len:Nat} {lo hi:Bool} {vs:List PV} {h:Hp}:aV (fun r=>r.2=h) (U3 n len lo hi vs h):=by
 unfold U3;split<;>first | exact MS | exact aV.none
theorem I2 {base:Nat} {k:yN} (hk:zi k=true) {h:Hp} {vs:List PV}:aV (fun r=>r.2=h) (cV base h k vs):=by
 unfold cV;split<;>(try cases hk)
 ·refine aV.ah fun _=>aV.ite (aV.ah fun _=>aV.ah fun _=>aV.some rfl) aV.none
 ·split
  ·exact aV.ah fun _=>aV.some rfl
  ·exact aV.none
 ·exact aV.ah fun _=>aV.some rfl
 ·exact zm
 ·exact aV.none
theorem qV (orc:iG) (base:Nat) {draw:Bool} {op:iP} (ht:quiet draw op=true) {e:Env} {h:Hp}:aV (fun x=>x.2.2=h) (step orc base draw op e h):=by
 by_cases hg:∃ k xs,op=.gen k xs
 ·obtain⟨k,xs,rfl⟩:=hg
  simp only[step];intro x hx;simp only[Option.aa,Option.some.injEq]at hx;obtain⟨vs,_,r,hr,rfl⟩:=hx;exact I2 ht r hr
 cases op<;>simp only[quiet,Bool.not_eq_true']at ht<;>(try cases ht)<;>(try subst ht)<;>(try exact(hg ⟨_,_,rfl⟩).elim)<;>simp only[step,if_true,Bool.false_eq_true,if_false]
 all_goals
  repeat' (first
   | exact aV.some rfl
   | exact aV.none
   |(refine aV.ah fun _=>?_)
   |(refine aV.ite ?_ ?_)
   |(refine aV.cond ?_ ?_)
   | split)
def wh (h2:Hp) (r:Option (PV × Env × Hp)):Option (PV × Env × Hp):=r.map fun x=>(x.1,x.2.1,h2)
theorem lC {α:Type} (h2:Hp) (x:Option α) (k:α→Option (PV × Env × Hp)):wh h2 (x.ah k)=x.ah fun a=>wh h2 (k a):=by cases x<;>rfl
theorem nI (h2:Hp) (v:PV) (e:Env) (h:Hp):wh h2 (some (v,e,h))=some (v,e,h2):=rfl
theorem me (h2:Hp):wh h2 none=none:=rfl
theorem tD {c:Prop} [Decidable c] (h2:Hp) (x y:Option (PV × Env × Hp)):wh h2 (if c then x else y)=if c then wh h2 x else wh h2 y:=by split<;>rfl
theorem SG (h2:Hp) (v:PV) (x y:Option (PV × Env × Hp)):wh h2 (aD v x y)=aD v (wh h2 x) (wh h2 y):=by
 cases v with
 | bool b=>cases b<;>rfl
 | _=>rfl
theorem I3 (orc:iG) (base:Nat) (draw:Bool) {op:iP} (ht:looks op=false) {e:Env} {h h2:Hp}:step orc base draw op e h2=wh h2 (step orc base draw op e h):=by
 cases op<;>simp only[looks]at ht<;>(try cases ht)<;>(try subst ht)<;>simp only[step,lC,nI,me,tD,SG,Bool.false_eq_true,if_false]
 all_goals (congr 1;funext v)
 all_goals first
  |(cases v<;>simp only[lC,nI,me,tD];done)
  |(split<;>simp only[lC,nI,me,tD];done)
  |(congr 1;funext u;cases v<;>simp only[lC,nI,me,tD];done)
  |(congr 1;funext u;split<;>simp only[lC,nI,me,tD];done)
theorem Pe {orc:iG} {base:Nat} {draw:Bool} {n:Nat} {g:Bool} {a:bH} {e:Env} {h:Hp} {r:PV × Env × Hp} (hs:step orc base draw (.load n g a) e h=some r) (l:List gW) :
  step orc base draw (.load n g a) e (ext h l)=some (r.1,r.2.1,ext h l):=by
 simp only[step,Option.aa]at hs ⊢;obtain⟨v,hv,hs⟩:=hs;refine⟨v,hv,?_⟩;split at hs
 ·simp only[Option.aa,Option.some.injEq]at hs ⊢
  obtain⟨cs,hcs,u,hu,rfl⟩:=hs;exact⟨cs,by rw[aX (gQ hcs)];exact hcs,u,hu,rfl⟩
 ·simp only[Option.aa,Option.some.injEq]at hs ⊢
  obtain⟨u,hu,rfl⟩:=hs;exact⟨u,hu,rfl⟩
 ·cases hs
theorem SH {orc:iG} {base:Nat} {draw:Bool} {op:iP} (hn:Pc op=true) {e:Env} {h:Hp} {r:PV × Env × Hp} (hs:step orc base draw op e h=some r):∃ l,r.2.2=ext h l:=by
 cases op<;>simp only[Pc]at hn<;>(try cases hn)
 case alloc z=>simp only[step,Option.some.injEq]at hs;subst hs;exact⟨_,rfl⟩
 case box n x =>
  simp only[step,Option.aa]at hs;obtain⟨v,_,hs⟩:=hs;split at hs
  ·simp only[Option.some.injEq]at hs;subst hs;exact⟨_,rfl⟩
  ·cases hs
/-! ### Frames that tell the same -/
def qw (e f:Env):Prop:=∀ t,look e t=look f t
theorem qw.refl (e:Env):qw e e:=fun _=>rfl
theorem qw.trans {e f k:Env} (a:qw e f) (b:qw f k):qw e k:=fun t=>(a t).trans (b t)
theorem qw.symm {e f:Env} (a:qw e f):qw f e:=fun t=>(a t).symm
theorem qw.put {e f:Env} (a:qw e f) (d:Option Nat) (v:PV):qw (dI e d v) (dI f d v):=by
 cases d with
 | none=>exact a
 | some d=>intro t;simp only[dI,look];rw[a t]
theorem qw.agree {e f:Env} (a:qw e f) (l:List Nat):Agree l e f:=fun t _=>a t
theorem qw.wanted {e f:Env} (a:qw e f) (g:Option (Nat × Bool)):wanted e g=Go.Am.wanted f g:=by
 cases g with
 | none=>rfl
 | some g=>obtain⟨t,w⟩:=g;simp only[Go.Am.wanted,a t]
noncomputable def ei (orc:iG) (base:Nat) (draw:Bool) (o:cq) (e:Env) (h:Hp):Option (Env × Hp) :=
 (wanted e o.guard).ah fun w=>if w then(step orc base draw o.op e h).ah fun x=>some (dI x.2.1 o.dst x.1,x.2.2) else some (dI e o.dst .undef,h)
theorem eN (orc:iG) (base:Nat) (draw:Bool) (o:cq) (l:List cq) (e:Env) (h:Hp) :
  bU orc base draw (o::l) e h=(ei orc base draw o e h).ah fun x=>bU orc base draw l x.1 x.2:=by
 rw[bU,ei];cases wanted e o.guard with
 | none=>rfl
 | some w =>
  simp only[Option.ah];cases w with
  | false=>rfl
  | true =>
   simp only[if_true];cases step orc base draw o.op e h<;>rfl
theorem Ff {e f:Env} {g:Option (Nat × Bool)} (h:Agree ((g.map fun g=>[g.1]).getD []) e f):wanted e g=wanted f g:=by
 cases g with
 | none=>rfl
 | some g=>obtain⟨t,w⟩:=g;simp only[wanted];rw[h t (by simp)]
theorem gE {orc:iG} {base:Nat} {draw:Bool} {o:cq} {e f:Env} (ha:Agree (nH o.op++(o.guard.map fun g=>[g.1]).getD []) e f) {h:Hp} {e':Env} {h':Hp}
  (hs:ei orc base draw o e h=some (e',h')):∃ v,e'=dI e o.dst v∧ei orc base draw o f h=some (dI f o.dst v,h'):=by
 have hg:=Ff (g:=o.guard) ha.right;unfold ei at hs ⊢;rw[←hg];cases hw:wanted e o.guard with
 | none=>rw[hw]at hs;cases hs
 | some w =>
  rw[hw]at hs;simp only[Option.ah]at hs ⊢;cases w with
  | false =>
   simp only[Bool.false_eq_true,if_false,Option.some.injEq,Prod.mk.injEq]at hs ⊢;exact⟨.undef,hs.1.symm,rfl,hs.2⟩
  | true =>
   simp only[if_true]at hs ⊢;have hv:=I1 orc base draw ha.left h;have he:=zl orc base draw (op:=o.op) (e:=e) (h:=h);have hf:=zl orc base draw (op:=o.op) (e:=f) (h:=h);cases hse:step orc base draw o.op e h with
   | none=>rw[hse]at hs;cases hs
   | some x =>
    obtain⟨v,e1,h1⟩:=x;rw[hse]at hs hv he;simp only[Option.some.injEq,Prod.mk.injEq]at hs;cases hsf:step orc base draw o.op f h with
    | none=>rw[hsf]at hv;simp[vh]at hv
    | some y =>
     obtain⟨v2,e2,h2⟩:=y;rw[hsf]at hv hf;simp only[vh,Option.map_some,Option.some.injEq,Prod.mk.injEq]at hv;have:=he _ rfl;have:=hf _ rfl;simp only at *;subst e1;subst e2;obtain⟨rfl,rfl⟩:=hv;exact⟨v,hs.1.symm,by rw[hs.2]⟩
theorem uB {orc:iG} {base:Nat} {draw:Bool}:∀ {l:List cq} {e f:Env} (ha:qw e f) {h:Hp} {e':Env} {h':Hp},
  bU orc base draw l e h=some (e',h')→∃ f',qw e' f'∧bU orc base draw l f h=some (f',h')
 | [],e,f,ha,h,e',h',hs=>by
  simp only[bU,Option.some.injEq,Prod.mk.injEq]at hs;obtain⟨rfl,rfl⟩:=hs;exact⟨f,ha,rfl⟩
 | o::l,e,f,ha,h,e',h',hs=>by
  rw[eN,Option.aa]at hs;obtain⟨⟨e1,h1⟩,h2,h3⟩:=hs;obtain⟨v,rfl,h4⟩:=gE (ha.agree _) h2;obtain⟨f',h5,h6⟩:=uB (ha.put o.dst v) h3;exact⟨f',h5,by rw[eN,h4];exact h6⟩
theorem r9 {e:Env} {d:Option Nat} {v:PV} {t:Nat} (h:d≠some t):look (dI e d v) t=look e t:=by
 cases d with
 | none=>rfl
 | some d=>simp only[dI,look];rw[if_neg (fun hq=>h (by rw[hq]))]
theorem qW {d:Bool} {op:iP} (h:looks op=false):quiet d op=true:=by cases op<;>simp_all [looks,quiet]
theorem I4 {orc:iG} {base:Nat} {draw:Bool} {t n m:Nat} {g:Bool} {a b u:bH} {e:Env} {h h2:Hp} {v:PV} {e2:Env} (hst:step orc base draw (.fR t n a u) e h=some (v,e2,h2)) :
  step orc base draw (.gy t m g b) e h2=wh h2 (step orc base draw (.gy t m g b) e h):=by
 simp only[step,Option.aa]at hst;obtain⟨q,hq,p,hp,uu,hu,hst⟩:=hst;split at hst
 ·rename_i c oc pb po
  split at hst
  ·rename_i hbc
   subst hbc;simp only[Option.aa]at hst;obtain⟨cs,hcs,hst⟩:=hst;split at hst
   ·simp only[Option.some.injEq,Prod.mk.injEq]at hst
    obtain⟨_,_,rfl⟩:=hst;simp only[step,hq,Option.ag,lC];congr 1;funext x;cases x<;>simp only[me,lC,nI]
    rename_i b2 o2
    by_cases hb:b2=pb
    ·rw[if_pos hb,if_pos hb,me]
    ·rw[if_neg hb,if_neg hb,lC,show ∀ cs',ay (cx h pb cs') b2=ay h b2 from fun cs'=>bD (fun hq=>hb hq.symm)]
     congr 1;funext cs2;rw[lC];rfl
   ·cases hst
  ·cases hst
 ·cases hst
theorem zn {orc:iG} {base:Nat} {draw:Bool} {x y:cq} {t n m:Nat} {g:Bool} {a b u:bH} (hx:x.op=.fR t n a u) (hy:y.op=.gy t m g b) {e:Env} {h h2:Hp} {r:Env}
  (hst:ei orc base draw x e h=some (r,h2)) (q:Env):ei orc base draw y e h=some (q,h)↔ei orc base draw y e h2=some (q,h2):=by
 unfold ei at hst;simp only[Option.aa]at hst;obtain⟨w,hw,hst⟩:=hst;cases w with
 | false =>
  simp only[Bool.false_eq_true,if_false,Option.some.injEq,Prod.mk.injEq]at hst;rw[hst.2]
 | true =>
  simp only[if_true,Option.aa,Option.some.injEq,Prod.mk.injEq]at hst;obtain⟨⟨v,e2,h2'⟩,hs,_,rfl⟩:=hst;rw[hx]at hs;have key:=I4 (m:=m) (g:=g) (b:=b) hs;unfold ei;rw[hy];cases wanted e y.guard with
  | none=>exact⟨fun k=>(by cases k),fun k=>(by cases k)⟩
  | some w =>
   simp only[Option.ag];cases w with
   | false =>
    simp only[Bool.false_eq_true,if_false,Option.some.injEq,Prod.mk.injEq,and_true]
   | true =>
    simp only[if_true,key];have hq0:aV (fun x=>x.2.2=h) (step orc base draw (.gy t m g b) e h):=qV orc base (op:=.gy t m g b) rfl;cases hl:step orc base draw (.gy t m g b) e h with
    | none=>simp[wh,Option.ah]
    | some z =>
     obtain⟨z1,z2,z3⟩:=z;have:z3=h:=hq0 _ hl;subst this;simp[wh,Option.ah]
theorem SI {n b:Nat} {h h2:Hp} (hl:vK n h h2) (hb:b<n):ay h2 b=ay h b:=by
 have key:∀ k:Hp,(bJ k n)[b]?=k[b]?:=fun k=>by simp[bJ,hb]
 have:h2[b]?=h[b]?:=by rw[←key h2,←key h,hl.2]
 unfold ay bY;rw[this]
theorem Pf {orc:iG} {base:Nat} {draw:Bool} {k m:Nat} {g:Bool} {b:bH} {e:Env} {h h2:Hp} (hl:vK (base+k) h h2) :
  step orc base draw (.fE k m g b) e h2=wh h2 (step orc base draw (.fE k m g b) e h):=by
 simp only[step,lC];congr 1;funext v;cases v<;>simp only[me,lC,nI,tD]
 rename_i b off
 by_cases hb:b<base+k
 ·rw[if_pos hb,if_pos hb,SI hl hb]
 ·rw[if_neg hb,if_neg hb]
theorem Pg {orc:iG} {base:Nat} {draw:Bool} {op:iP} {k m:Nat} {g:Bool} {b:bH} (hp:oN (.fE k m g b) op=true) {e:Env} {h:Hp} {r:PV × Env × Hp} (hs:step orc base draw op e h=some r):r.2.2=h∨vK (base+k) h r.2.2:=by
 cases op<;>simp only[oN,Bool.false_eq_true]at hp
 case iW j f xs =>
  have hkj:k=j:=by simpa using hp
  subst hkj;simp only[step,oH,Option.aa]at hs;obtain⟨vs,_,x,⟨y,_,hy⟩,hs⟩:=hs;split at hy
  ·rename_i hlow
   simp only[Option.some.injEq]at hy;subst hy;split at hs
   ·split at hs
    ·simp only[Option.some.injEq]at hs;subst hs;exact .inl rfl
    ·cases hs
   ·simp only[Option.some.injEq]at hs;subst hs;exact .inr hlow
  ·cases hy
 case qQ j gg xs =>
  have hkj:k=j:=by simpa using hp
  subst hkj;simp only[step,rQ,Option.aa,Option.some.injEq]at hs;obtain⟨vs,_,x,⟨y,_,hy⟩,rfl⟩:=hs;split at hy
  ·rename_i hlow
   simp only[Option.some.injEq]at hy;subst hy;exact .inr hlow
  ·cases hy
theorem MT (a b:iP):oN a b=oN b a:=by
 cases a<;>cases b<;>simp[oN]
theorem Fg {orc:iG} {base:Nat} {draw:Bool} {x y:cq} {k m:Nat} {g:Bool} {b:bH} (hy:y.op=.fE k m g b) (hp:oN (.fE k m g b) x.op=true) {e:Env} {h h2:Hp} {r:Env}
  (hst:ei orc base draw x e h=some (r,h2)) (q:Env):ei orc base draw y e h=some (q,h)↔ei orc base draw y e h2=some (q,h2):=by
 have hl:h2=h∨vK (base+k) h h2:=by
  unfold ei at hst;simp only[Option.aa]at hst;obtain⟨w,hw,hst⟩:=hst;cases w with
  | false =>
   simp only[Bool.false_eq_true,if_false,Option.some.injEq,Prod.mk.injEq]at hst;exact .inl hst.2.symm
  | true =>
   simp only[if_true,Option.aa,Option.some.injEq,Prod.mk.injEq]at hst;obtain⟨z,hs,_,rfl⟩:=hst;exact Pg hp hs
 rcases hl with rfl | hl
 ·exact Iff.rfl
 have key:=Pf (orc:=orc) (draw:=draw) (m:=m) (g:=g) (b:=b) (e:=e) hl;unfold ei;rw[hy];cases wanted e y.guard with
 | none=>exact⟨fun k=>(by cases k),fun k=>(by cases k)⟩
 | some w =>
  simp only[Option.ag];cases w with
  | false=>simp only[Bool.false_eq_true,if_false,Option.some.injEq,Prod.mk.injEq,and_true]
  | true =>
   simp only[if_true,key];have hq0:aV (fun x=>x.2.2=h) (step orc base draw (.fE k m g b) e h):=qV orc base (op:=.fE k m g b) rfl;cases hl:step orc base draw (.fE k m g b) e h with
   | none=>simp[wh,Option.ah]
   | some z =>
    obtain⟨z1,z2,z3⟩:=z;have:z3=h:=hq0 _ hl;subst this;simp[wh,Option.ah]
theorem Yu {orc:iG} {base:Nat} {draw:Bool} {x y:cq} (hap:zj draw y x=true) {e:Env} {h:Hp} {e':Env} {h':Hp} {e1:Env} {h1:Hp}
  (h2:ei orc base draw y e h=some (e1,h1)) (h3:ei orc base draw x e1 h1=some (e',h')) :
  ∃ e2 h2' e3,ei orc base draw x e h=some (e2,h2')∧ei orc base draw y e2 h2'=some (e3,h')∧qw e' e3:=by
 simp only[zj,Bool.and_eq_true,Bool.or_eq_true,List.all_eq_true,Bool.not_eq_true']at hap;obtain⟨⟨n1,n2⟩,n34⟩:=hap;have ydx:∀ t∈names x,y.dst≠some t:=by
  intro t ht hq;have:=n1 t (by simp[hq]);simp at this;exact this ht
 have xdy:∀ t∈names y,x.dst≠some t:=by
  intro t ht hq;have:=n2 t (by simp[hq]);simp at this;exact this ht
 obtain⟨vy,rfl,hy2⟩:=gE (f:=e) (fun _ _=>rfl) h2
 -- x in the frame as it was before y
 have hagx:Agree (nH x.op++(x.guard.map fun g=>[g.1]).getD []) (dI e y.dst vy) e:=by
  intro t ht;refine r9 (ydx t ?_);simp only[names,List.mem_append]at ht ⊢;rcases ht with ht | ht
  ·exact .inl (.inr ht)
  ·exact .inr ht
 obtain⟨vx,rfl,hx2⟩:=gE hagx h3;have hagy:∀ v,Agree (nH y.op++(y.guard.map fun g=>[g.1]).getD []) e (dI e x.dst v):=by
  intro v t ht;refine(r9 (xdy t ?_)).symm;simp only[names,List.mem_append]at ht ⊢;rcases ht with ht | ht
  ·exact .inl (.inr ht)
  ·exact .inr ht
 have heqv:qw (dI (dI e y.dst vy) x.dst vx) (dI (dI e x.dst vx) y.dst vy):=by
  intro t;cases hxd:x.dst with
  | none=>cases y.dst<;>rfl
  | some dx =>
   cases hyd:y.dst with
   | none=>rfl
   | some dy =>
    have hne:dy≠dx:=by
     intro hq;have:=ydx dx (by simp[names,hxd]);rw[hyd,hq]at this;exact this rfl
    simp only[dI,look]
    by_cases h1:dx=t
    ·rw[if_pos h1,if_neg (by omega),if_pos h1]
    ·rw[if_neg h1]
     by_cases h2:dy=t
     ·rw[if_pos h2,if_pos h2]
     ·rw[if_neg h2,if_neg h2,if_neg h1]
 -- the heaps
 have heap_quiet:∀ (o:cq) (e0:Env) (h0:Hp) (r:Env × Hp),quiet draw o.op=true→ei orc base draw o e0 h0=some r→r.2=h0:=by
  intro o e0 h0 r hq hr;unfold ei at hr;simp only[Option.aa]at hr;obtain⟨w,_,hr⟩:=hr;cases w with
  | false=>simp only[Bool.false_eq_true,if_false,Option.some.injEq]at hr;rw[←hr]
  | true =>
   simp only[if_true,Option.aa,Option.some.injEq]at hr;obtain⟨z,hz,rfl⟩:=hr;exact qV orc base hq z hz
 have heap_blind:∀ (o:cq) (e0:Env) (h0 h9:Hp) (r:Env × Hp),looks o.op=false→ei orc base draw o e0 h0=some r→ei orc base draw o e0 h9=some (r.1,h9):=by
  intro o e0 h0 h9 r hq hr;unfold ei at hr ⊢;simp only[Option.aa]at hr ⊢;obtain⟨w,hw,hr⟩:=hr;refine⟨w,hw,?_⟩;cases w with
  | false=>simp only[Bool.false_eq_true,if_false,Option.some.injEq]at hr ⊢;rw[←hr]
  | true =>
   simp only[if_true,Option.aa,Option.some.injEq]at hr ⊢;obtain⟨z,hz,rfl⟩:=hr;have:=I3 orc base draw hq (e:=e0) (h:=h0) (h2:=h9);rw[hz]at this;exact⟨_,this,rfl⟩
 have again:∀ {h9:Hp},ei orc base draw x e h=some (dI e x.dst vx,h9)→ei orc base draw y e h9=some (dI e y.dst vy,h') →
   ∃ e2 h2' e3,ei orc base draw x e h=some (e2,h2')∧ei orc base draw y e2 h2'=some (e3,h')∧qw (dI (dI e y.dst vy) x.dst vx) e3:=by
  intro h9 q1 q2;obtain⟨vy',hvy,hy3⟩:=gE (hagy vx) q2;have:qw (dI (dI e x.dst vx) y.dst vy') (dI (dI e x.dst vx) y.dst vy):=by
   intro t;cases hyd:y.dst with
   | none=>rfl
   | some dy =>
    rw[hyd]at hvy;simp only[dI,List.cons.injEq,Prod.mk.injEq,true_and,and_true]at hvy;rw[hvy]
  exact⟨_,_,_,q1,hy3,heqv.trans this.symm⟩
 rcases n34 with((hlo | hpa) | ⟨hld,hnw⟩) | ⟨n3,n4⟩
 ·by_cases hyl:∃ k m g b,y.op=.fE k m g b
  ·obtain⟨k,m,g,b,hyo⟩:=hyl
   rw[hyo]at hlo;have e1:h1=h:=heap_quiet y e h _ (by rw[hyo];rfl) h2;subst e1;exact again hx2 ((Fg hyo hlo hx2 _).1 hy2)
  ·have hxl:∃ k m g b,x.op=.fE k m g b:=by
    cases hyo:y.op<;>cases hxo:x.op<;>rw[hyo,hxo]at hlo<;>simp only[oN,Bool.false_eq_true]at hlo<;>first | exact⟨_,_,_,_,rfl⟩ | exact absurd ⟨_,_,_,_,hyo⟩ hyl
   obtain⟨k,m,g,b,hxo⟩:=hxl;rw[hxo,MT]at hlo;have e1:h'=h1:=heap_quiet x _ _ _ (by rw[hxo];rfl) h3;subst e1;exact again ((Fg hxo hlo hy2 _).2 hx2) hy2
 ·cases hyo:y.op<;>cases hxo:x.op<;>rw[hyo,hxo]at hpa<;>simp only[Pb,Bool.false_eq_true]at hpa
  case gy.fR t m g b s n a u =>
   have hts:t=s:=by simpa using hpa
   subst hts;have e1:h1=h:=heap_quiet y e h _ (by rw[hyo];rfl) h2;subst e1;exact again hx2 ((zn hxo hyo hx2 _).1 hy2)
  case fR.gy s n a u t m g b =>
   have hts:s=t:=by simp at hpa;exact hpa.symm
   subst hts;have e1:h'=h1:=heap_quiet x _ _ _ (by rw[hxo];rfl) h3;subst e1;exact again ((zn hyo hxo hy2 _).2 hx2) hy2
 ·-- a load ahead of a new box
  have hqy:quiet draw y.op=true:=by cases hyo:y.op<;>rw[hyo]at hld<;>simp[IY]at hld;rfl
  have e1:h1=h:=heap_quiet y e h _ hqy h2;subst e1;have hext:∃ l,h'=ext h1 l:=by
   unfold ei at hx2;simp only[Option.aa]at hx2;obtain⟨w,_,hx2⟩:=hx2;cases w with
   | false=>simp only[Bool.false_eq_true,if_false,Option.some.injEq,Prod.mk.injEq]at hx2;exact⟨[],by rw[ext_nil];exact hx2.2.symm⟩
   | true =>
    simp only[if_true,Option.aa,Option.some.injEq,Prod.mk.injEq]at hx2;obtain⟨z,hz,_,h9⟩:=hx2;obtain⟨l,hl⟩:=SH hnw hz;exact⟨l,h9▸hl⟩
  obtain⟨l,rfl⟩:=hext;have hy4:ei orc base draw y e (ext h1 l)=some (dI e y.dst vy,ext h1 l):=by
   unfold ei at hy2 ⊢;simp only[Option.aa]at hy2 ⊢;obtain⟨w,hw,hy2⟩:=hy2;refine⟨w,hw,?_⟩;cases w with
   | false=>simp only[Bool.false_eq_true,if_false,Option.some.injEq,Prod.mk.injEq]at hy2 ⊢;exact⟨hy2.1,trivial⟩
   | true =>
    simp only[if_true,Option.aa,Option.some.injEq,Prod.mk.injEq]at hy2 ⊢;obtain⟨z,hz,h8,h9⟩:=hy2;cases hyo:y.op<;>rw[hyo]at hld<;>simp[IY]at hld
    rw[hyo]at hz;exact⟨_,Pe hz l,h8,rfl⟩
  exact again hx2 hy4
 rcases n3 with hqy | hlx
 ·-- y is quiet
  have e1:h1=h:=heap_quiet y e h _ hqy h2;subst e1;rcases n4 with hqx | hly
  ·have e2:h'=h1:=heap_quiet x _ _ _ hqx h3
   subst e2;obtain⟨vy',hvy,hy3⟩:=gE (hagy vx) hy2;have:qw (dI (dI e x.dst vx) y.dst vy') (dI (dI e x.dst vx) y.dst vy):=by
    intro t;cases hyd:y.dst with
    | none=>rfl
    | some dy =>
     rw[hyd]at hvy;simp only[dI,List.cons.injEq,Prod.mk.injEq,true_and,and_true]at hvy;rw[hvy]
   exact⟨_,_,_,hx2,hy3,heqv.trans this.symm⟩
  ·have hy4:=heap_blind y e h1 h' _ hly hy2
   obtain⟨vy',hvy,hy3⟩:=gE (hagy vx) hy4;have:qw (dI (dI e x.dst vx) y.dst vy') (dI (dI e x.dst vx) y.dst vy):=by
    intro t;cases hyd:y.dst with
    | none=>rfl
    | some dy =>
     rw[hyd]at hvy;simp only[dI,List.cons.injEq,Prod.mk.injEq,true_and,and_true]at hvy;rw[hvy]
   exact⟨_,_,_,hx2,hy3,heqv.trans this.symm⟩
 ·-- x doesn't look
  have e2:h'=h1:=heap_quiet x _ _ _ (qW hlx) h3;subst e2;have hx4:=heap_blind x e h' h _ hlx hx2;obtain⟨vy',hvy,hy3⟩:=gE (hagy vx) hy2;have:qw (dI (dI e x.dst vx) y.dst vy') (dI (dI e x.dst vx) y.dst vy):=by
   intro t;cases hyd:y.dst with
   | none=>rfl
   | some dy =>
    rw[hyd]at hvy;simp only[dI,List.cons.injEq,Prod.mk.injEq,true_and,and_true]at hvy;rw[hvy]
  exact⟨_,_,_,hx4,hy3,heqv.trans this.symm⟩
theorem zo {orc:iG} {base:Nat} {draw:Bool} {x:cq}:∀ (l1:List cq) {l2:List cq} (hap:∀ y∈l1,zj draw y x=true) {e:Env} {h:Hp} {e':Env} {h':Hp},
  bU orc base draw (l1++x::l2) e h=some (e',h')→∃ e2,qw e' e2∧bU orc base draw (x::(l1++l2)) e h=some (e2,h')
 | [],l2,hap,e,h,e',h',hs=>⟨e',qw.refl _,hs⟩
 | y::l1,l2,hap,e,h,e',h',hs=>by
  rw[List.cons_append,eN,Option.aa]at hs;obtain⟨⟨e1,h1⟩,h2,h3⟩:=hs;obtain⟨e2,he2,h4⟩:=zo l1 (l2:=l2) (fun z hz=>hap z (by simp[hz])) h3;rw[eN,Option.aa]at h4;obtain⟨⟨e3,h5⟩,h6,h7⟩:=h4;obtain⟨e4,h8,e5,h9,h10,h11⟩:=Yu (hap y (by simp)) h2 h6;obtain⟨e6,h12,h13⟩:=uB h11 h7;refine⟨e6,he2.trans h12,?_⟩;rw[eN,h9];simp only[Option.ah];rw[List.cons_append,eN,h10];exact h13
end Go.Am
namespace Go.Am
def vals:gW→List PV
 | .cells cs=>cs
 | .map es=>es.flatMap fun e=>[e.1,e.2]
 | _=>[]
def X1 (m:Nat) (h:Hp):Prop:=∀ b y,b<m→bY h b=some y→∀ x∈vals y,below m x=true
def bC (base:Nat) (h h':Hp):Prop:=size h≤size h'∧∀ m,m≤base→X1 m h→X1 m h'
theorem bC.refl (base:Nat) (h:Hp):bC base h h:=⟨Nat.le_refl _,fun _ _ c=>c⟩
theorem bC.trans {base:Nat} {a b c:Hp} (x:bC base a b) (y:bC base b c):bC base a c:=⟨Nat.le_trans x.1 y.1,fun m hm k=>y.2 m hm (x.2 m hm k)⟩
theorem bC.mono {base base':Nat} {a b:Hp} (x:bC base a b) (hb:base'≤base):bC base' a b:=⟨x.1,fun m hm k=>x.2 m (Nat.le_trans hm hb) k⟩
theorem bC.ext {base:Nat} {h:Hp} (hb:base≤size h) (l:List gW):bC base h (ext h l) :=
 ⟨by rw[aW];omega,fun m hm k b cs hlt hcs=>by rw[dP (by omega)]at hcs;exact k b cs hlt hcs⟩
theorem jw {n:Nat}:∀ {cs:List PV},(∀ (j:Nat) (x:PV),cs[j]?=some x→below n x=true)→belows n cs=true
 | [],_=>rfl
 | c::cs,h=>by
  simp only[belows,Bool.and_eq_true];exact⟨h 0 c rfl,jw fun j x hx=>h (j+1) x (by simpa using hx)⟩
theorem dV {n:Nat}:∀ {cs:List PV},belows n cs=true→∀ (j:Nat) (x:PV),cs[j]?=some x→below n x=true
 | [],_,j,x,h=>by simp at h
 | c::cs,hb,0,x,h=>by simp[belows]at hb h;exact h▸hb.1
 | c::cs,hb,j+1,x,h=>by
  simp only[belows,Bool.and_eq_true]at hb;exact dV hb.2 j x (by simpa using h)
mutual
theorem tE {n m:Nat} (hnm:n≤m):∀ (v:PV),below n v=true→below m v=true
 | .ptr b _,h=>by simp[below]at *;omega
 | .bX _ b _ _ _,h=>by simp[below]at *;omega
 | .it b,h=>by simp[below]at *;omega
 | .eL b,h=>by simp[below]at *;omega
 | .ep e _,h=>by simp only[below]at *;exact jx hnm e h
 | .sl o _ es,h=>by
  simp only[below,Bool.and_eq_true]at *;refine⟨?_,jx hnm es h.2⟩;have h1:=h.1;cases o with
  | tok t=>simp[Own.below]at *;omega
  | _=>rfl
 | .iface _ v,h=>by simp only[below]at *;exact tE hnm v h
 | .fn _ c,h=>by simp only[below]at *;exact jx hnm c h
 | .agg c,h=>by simp only[below]at *;exact jx hnm c h
 | .cF c,h=>by simp only[below]at *;exact jx hnm c h
 | .undef,_=>rfl
 | .bool _,_=>rfl
 | .int _ _,_=>rfl
 | .str _,_=>rfl
 | .bp,_=>rfl
 | .eG _,_=>rfl
 | .bg,_=>rfl
 | .dJ,_=>rfl
 | .gP,_=>rfl
 | .gu,_=>rfl
theorem jx {n m:Nat} (hnm:n≤m):∀ (vs:List PV),belows n vs=true→belows m vs=true
 | [],_=>rfl
 | v::vs,h=>by
  simp only[belows,Bool.and_eq_true]at *;exact⟨tE hnm v h.1,jx hnm vs h.2⟩
end
mutual
theorem uC {n:Nat}:∀ {v:PV},below n v=true→below n (strip v)=true
 | .sl o z e,h=>by
  simp only[strip,below,Bool.and_eq_true]at *;exact⟨C4 n o,h.2⟩
 | .agg cs,h=>by simp only[strip,below]at *;exact jG h
 | .cF cs,h=>by simp only[strip,below]at *;exact jG h
 | .fn f cs,h=>by simp only[strip,below]at *;exact jG h
 | .iface t v,h=>by simp only[strip,below]at *;exact uC h
 | .undef,_ | .bool _,_ | .int _ _,_ | .str _,_ | .bp,_ | .eG _,_ | .bg,_ | .dJ,_ | .gP,_ | .gu,_=>rfl
 | .ptr _ _,h | .ep _ _,h | .bX _ _ _ _ _,h | .it _,h | .eL _,h=>h
theorem jG {n:Nat}:∀ {vs:List PV},belows n vs=true→belows n (aO vs)=true
 | [],_=>rfl
 | v::vs,h=>by
  simp only[aO,belows,Bool.and_eq_true]at *;exact⟨uC h.1,jG h.2⟩
end
theorem kG:∀ (vs:List PV) (cs:List PV) (off:Nat) (j:Nat) (x:PV),(bE cs off vs)[j]?=some x→(∃ i:Nat,vs[i]?=some x)∨cs[j]?=some x
 | [],cs,off,j,x,h=>.inr h
 | v::vs,cs,off,j,x,h=>by
  simp only[bE]at h;rcases kG vs _ _ j x h with⟨i,hi⟩ | hc
  ·exact .inl ⟨i+1,by simpa using hi⟩
  ·by_cases hj:off=j
   ·subst hj
    by_cases hlt:off<cs.length
    ·rw[List.getElem?_set_self hlt]at hc
     exact .inl ⟨0,by simpa using hc⟩
    ·rw[List.getElem?_eq_none (by simp;omega)]at hc;cases hc
   ·rw[List.getElem?_set_ne hj]at hc;exact .inr hc
theorem bC.aC {base:Nat} {h:Hp} {b:Nat} {y z:gW} (hb:bY h b=some y) (hx:∀ x∈vals z,x∈vals y∨(b<base→below 0 x=true)):bC base h (Go.Am.aC h b z):=by
 refine⟨by rw[aJ];exact Nat.le_refl _,fun m hm k c u hlt hu x hj=>?_⟩
 by_cases hbc:b=c
 ·subst hbc
  rw[cM (bw hb)]at hu;simp only[Option.some.injEq]at hu;subst hu;rcases hx x hj with h1 | h1
  ·exact k b y hlt hb x h1
  ·exact tE (Nat.zero_le _) x (h1 (by omega))
 ·rw[cN hbc]at hu
  exact k c u hlt hu x hj
theorem bC.set {base:Nat} {h:Hp} {b:Nat} {cs:List PV} (hb:ay h b=some cs) {cs':List PV} (hx:∀ (j:Nat) (x:PV),cs'[j]?=some x→cs[j]?=some x∨(b<base→below 0 x=true)):bC base h (cx h b cs'):=by
 refine bC.aC (bq hb) fun x hm=>?_
 obtain⟨j,hj⟩:=List.getElem?_of_mem hm;rcases hx j x hj with h1 | h1
 ·exact .inl (List.mem_of_getElem? h1)
 ·exact .inr h1
theorem bC.other {base:Nat} {h:Hp} {b:Nat} {y:gW} (hb:b<size h) (hy:vals y=[]):bC base h (Go.Am.aC h b y):=by
 obtain⟨z,hz⟩ : ∃ z,bY h b=some z:=⟨h[b],List.getElem?_eq_getElem hb⟩;exact bC.aC hz fun x hm=>by rw[hy]at hm;cases hm
theorem Ph {es:List (PV × PV)} {k v:PV} {i:Option Nat} {x:PV} (hm:x∈vals (.map (OJ k v es i))):x=k∨x=v∨x∈vals (.map es):=by
 simp only[vals,List.mem_flatMap]at hm ⊢;obtain⟨e,he,hx⟩:=hm;have key:e=(k,v)∨e∈es:=by
  cases i with
  | none=>simp only[OJ,List.mem_append,List.mem_singleton]at he;exact he.symm
  | some i=>simp only[OJ]at he;exact(List.mem_or_eq_of_mem_set he).symm
 rcases key with rfl | he
 ·simp only[List.mem_cons,List.not_mem_nil,or_false]at hx
  rcases hx with rfl | rfl
  ·exact .inl rfl
  ·exact .inr (.inl rfl)
 ·exact .inr (.inr ⟨e,he,hx⟩)
theorem Pj {es:List (PV × PV)} {i:Option Nat} {x:PV} (hm:x∈vals (.map (U2 es i))):x∈vals (.map es):=by
 simp only[vals,List.mem_flatMap]at hm ⊢;obtain⟨e,he,hx⟩:=hm;refine⟨e,?_,hx⟩;cases i with
 | none=>exact he
 | some i=>exact List.mem_of_mem_eraseIdx he
theorem uD {base:Nat} {h:Hp} {sz:Nat} {v:PV} {l:Nat × List PV × Hp} (hl:oG h sz v=some l):bC base h l.2.2∧size l.2.2=size h:=by
 unfold oG at hl;split at hl
 ·simp only[Option.some.injEq]at hl;subst hl;exact⟨bC.refl _ _,rfl⟩
 ·split at hl
  ·simp only[Option.some.injEq]at hl;subst hl;exact⟨bC.refl _ _,rfl⟩
  ·cases hl
 ·simp only[Option.aa]at hl
  obtain⟨cs,hcs,hl⟩:=hl;split at hl
  ·simp only[Option.some.injEq]at hl
   subst hl;exact⟨bC.other (bw (bq hcs)) rfl,aJ⟩
  ·cases hl
 ·cases hl
theorem zq {base:Nat} {h:Hp} (hb:base≤size h) (k:yN) (vs:List PV):aV (fun r=>bC base h r.2) (cV base h k vs):=by
 unfold cV;split
 ·exact aV.some (bC.ext hb _)
 ·exact aV.ah fun _=>aV.ite (aV.ah fun _=>aV.ah fun _=>aV.some (bC.refl _ _)) aV.none
 ·split
  ·intro r hr
   simp only[Option.aa]at hr;obtain⟨es,hes,hr⟩:=hr;split at hr
   ·rename_i hc
    simp only[Option.aa,Option.some.injEq]at hr;obtain⟨i,hi,rfl⟩:=hr;refine bC.aC (lg hes) fun x hm=>?_
    rcases Ph hm with rfl | rfl | hm
    ·exact .inr fun hlt=>(hc.2.2.2 hlt).1
    ·exact .inr fun hlt=>(hc.2.2.2 hlt).2
    ·exact .inl hm
   ·cases hr
  ·exact aV.none
 ·split
  ·exact aV.ite (aV.some (bC.refl _ _)) aV.none
  ·intro r hr
   simp only[Option.aa]at hr;obtain⟨es,hes,hr⟩:=hr;split at hr
   ·simp only[Option.aa,Option.some.injEq]at hr
    obtain⟨i,hi,rfl⟩:=hr;exact bC.aC (lg hes) fun x hm=>.inl (Pj hm)
   ·cases hr
  ·exact aV.none
 ·exact aV.some (bC.ext hb _)
 ·split
  ·exact aV.ah fun _=>aV.some (bC.refl _ _)
  ·exact aV.none
 ·intro r hr
  simp only[Option.aa]at hr;obtain⟨xs,hxs,l,hl,hr⟩:=hr;split at hr
  ·simp only[Option.some.injEq]at hr
   subst hr;exact bC.refl _ _
  ·split at hr
   ·simp only[Option.some.injEq]at hr
    subst hr;obtain⟨g1,g2⟩:=uD (base:=base) hl;exact g1.trans (bC.ext (by rw[g2];exact hb) _)
   ·cases hr
 ·exact aV.ah fun _=>aV.some (bC.refl _ _)
 ·intro r hr
  rw[zm r hr];exact bC.refl _ _
 ·split
  ·intro r hr
   simp only[Option.aa]at hr;obtain⟨cs,hcs,hr⟩:=hr;split at hr
   ·simp only[Option.some.injEq]at hr
    subst hr;exact bC.other (gQ hcs) rfl
   ·cases hr
  ·exact aV.some (bC.refl _ _)
  ·exact aV.none
 ·exact aV.none
theorem bC.gr {base:Nat} {h:Hp} (hb:base≤size h) {T sz:Nat} {v:PV} {xs:List PV}:aV (fun r=>bC base h r.2) (Go.Am.gr h T sz v xs):=by
 unfold Go.Am.gr;refine aV.ite ?_ aV.none;split
 ·refine aV.ite (aV.some ?_) aV.none
  split
  ·exact bC.refl _ _
  ·exact bC.ext hb _
 ·refine aV.ite (aV.some ?_) aV.none
  split
  ·exact bC.refl _ _
  ·exact bC.ext hb _
 ·intro r hr
  simp only[Option.aa]at hr;obtain⟨n,hn,hr⟩:=hr;split at hr
  ·simp only[Option.some.injEq]at hr
   subst hr;exact bC.other (kE hn) rfl
  ·cases hr
 ·exact aV.none
theorem I5 {orc:iG} {base:Nat} {draw:Bool} {op:iP} {e:Env} {h:Hp} (hb:base≤size h) (horc:∀ f vs r,orc f vs h=some r→bC base h r.2) :
  aV (fun x=>bC base h x.2.2) (step orc base draw op e h):=by
 cases op<;>simp only[step]
 case call f args =>
  refine aV.ah fun vs=>?_
  intro x hx;simp only[Option.aa]at hx;obtain⟨r,hr,hx⟩:=hx;have:=horc _ _ _ hr;split at hx
  ·split at hx
   ·simp only[Option.some.injEq]at hx;subst hx;exact bC.refl _ _
   ·cases hx
  ·simp only[Option.some.injEq]at hx;subst hx;exact this
 case iW k f args =>
  refine aV.ah fun vs=>?_
  intro x hx;simp only[oH,Option.aa]at hx;obtain⟨r,⟨r',hr,hr2⟩,hx⟩:=hx;have:=horc _ _ _ hr;split at hr2
  ·simp only[Option.some.injEq]at hr2
   subst hr2;split at hx
   ·split at hx
    ·simp only[Option.some.injEq]at hx;subst hx;exact bC.refl _ _
    ·cases hx
   ·simp only[Option.some.injEq]at hx;subst hx;exact this
  ·cases hr2
 case fE k n g x =>
  refine aV.ah fun v=>?_
  split
  ·exact aV.ite (aV.ah fun cs=>aV.ah fun r=>aV.some (bC.refl _ _)) aV.none
  ·exact aV.ah fun r=>aV.some (bC.refl _ _)
  ·exact aV.none
 case qQ k g xs =>
  refine aV.ah fun vs=>?_
  intro r hr;simp only[rQ,Option.aa,Option.some.injEq]at hr;obtain⟨r',⟨r2,hr2,hq⟩,rfl⟩:=hr;split at hq
  ·simp only[Option.some.injEq]at hq
   subst hq;exact zq hb g vs r2 hr2
  ·cases hq
 case jm f args =>
  refine aV.ah fun vs=>?_
  refine aV.ah fun r=>?_
  exact aV.ite (aV.some (bC.refl _ _)) aV.none
 case lX x args =>
  refine aV.ah fun v=>?_
  cases v<;>try exact aV.none
  refine aV.ah fun vs=>?_
  intro x hx;simp only[Option.aa]at hx;obtain⟨r,hr,hx⟩:=hx;have:=horc _ _ _ hr;split at hx
  ·split at hx
   ·simp only[Option.some.injEq]at hx;subst hx;exact bC.refl _ _
   ·cases hx
  ·simp only[Option.some.injEq]at hx;subst hx;exact this
 case gy t n g x =>
  refine aV.ah fun q=>aV.ah fun v=>?_
  split
  ·exact aV.ite aV.none (aV.ah fun cs=>aV.ah fun r=>aV.some (bC.refl _ _))
  ·exact aV.ah fun r=>aV.some (bC.refl _ _)
  ·exact aV.none
 case fR t n x y =>
  refine aV.ah fun q=>aV.ah fun v=>aV.ah fun u=>?_
  split
  ·rename_i c oc b off
   refine aV.ite ?_ aV.none;intro z hz;simp only[Option.aa]at hz;obtain⟨cs,hcs,hz⟩:=hz;split at hz
   ·rename_i hc
    simp only[Option.some.injEq]at hz;subst hz;refine bC.set hcs fun j q hq=>?_
    rcases kG _ _ _ _ _ hq with⟨i,hi⟩ | hq
    ·right
     intro hlt;rw[if_pos hlt]at hi;exact dV (hc.2.2.2 hlt) i q hi
    ·exact .inl hq
   ·cases hz
  ·exact aV.none
 case store n x y =>
  refine aV.ah fun v=>aV.ah fun u=>?_
  cases v<;>try exact aV.none
  rename_i b off;intro z hz;simp only[Option.aa]at hz;obtain⟨cs,hcs,hz⟩:=hz;split at hz
  ·rename_i hc
   simp only[Option.some.injEq]at hz;subst hz;refine bC.set hcs fun j q hq=>?_
   rcases kG _ _ _ _ _ hq with⟨i,hi⟩ | hq
   ·right
    intro hlt;rw[if_pos hlt]at hi;exact dV (hc.2.2.2 hlt) i q hi
   ·exact .inl hq
  ·cases hz
 case oC x y =>
  refine aV.ah fun v=>aV.ah fun u=>aV.ah fun xs=>?_
  cases v<;>try exact aV.none
  ·exact aV.some (bC.refl _ _)
  rename_i f b off len sz;intro z hz;simp only[Option.aa]at hz;obtain⟨cs,hcs,hz⟩:=hz;split at hz
  ·rename_i hc
   simp only[Option.some.injEq]at hz;subst hz;refine bC.set hcs fun j q hq=>?_
   rcases kG _ _ _ _ _ hq with⟨i,hi⟩ | hq
   ·exact .inr fun hlt=>dV (hc.2.2.2 hlt) i q hi
   ·exact .inl hq
  ·cases hz
 case gen g xs =>
  refine aV.ah fun vs=>?_
  intro r hr;simp only[Option.aa,Option.some.injEq]at hr;obtain⟨r',hr',rfl⟩:=hr;exact zq hb g vs r' hr'
 case next x =>
  refine aV.ah fun v=>?_
  cases v<;>try exact aV.none
  intro z hz;simp only[Option.aa]at hz;obtain⟨⟨s,p⟩,hp,hz⟩:=hz;split at hz
  ·simp only[Option.some.injEq]at hz
   subst hz;exact bC.other (bw (uv hp)) rfl
  ·simp only[Option.some.injEq]at hz
   subst hz;exact bC.refl _ _
 case iC T z x y =>
  refine aV.ah fun v=>aV.ah fun u=>aV.ah fun xs=>?_
  intro r hr;simp only[Option.aa,Option.some.injEq]at hr;obtain⟨r',hr',rfl⟩:=hr;exact bC.gr hb r' hr'
 all_goals
  repeat' (first
   | exact aV.some (bC.refl _ _)
   | exact aV.some (bC.ext hb _)
   | exact aV.none
   |(refine aV.ah fun _=>?_)
   |(refine aV.ite ?_ ?_)
   |(refine aV.cond ?_ ?_)
   | split)
theorem jH {orc:iG} {base:Nat} {draw:Bool} (horc:∀ h f vs r,base≤size h→orc f vs h=some r→bC base h r.2):∀ (l:List cq) (e:Env) (h:Hp),base≤size h →
  aV (fun x=>bC base h x.2) (bU orc base draw l e h)
 | [],e,h,hb=>aV.some (bC.refl _ _)
 | o::l,e,h,hb=>by
  rw[eN];intro x hx;simp only[Option.aa]at hx;obtain⟨⟨e1,h1⟩,h2,h3⟩:=hx;have hg:bC base h h1:=by
   unfold ei at h2;simp only[Option.aa]at h2;obtain⟨w,_,h2⟩:=h2;cases w with
   | false=>simp only[Bool.false_eq_true,if_false,Option.some.injEq,Prod.mk.injEq]at h2;rw[←h2.2];exact bC.refl _ _
   | true =>
    simp only[if_true,Option.aa,Option.some.injEq,Prod.mk.injEq]at h2;obtain⟨z,hz,_,rfl⟩:=h2;exact I5 hb (fun f vs r=>horc h f vs r hb) z hz
  exact hg.trans (jH horc l e1 h1 (Nat.le_trans hb hg.1) x h3)
theorem mQ {h:Hp} {n b:Nat} (hb:b<n):bY (bJ h n) b=bY h b:=by simp[bY,bJ,hb]
theorem zu {h:Hp} {n b:Nat} (hb:n≤b):bY (bJ h n) b=none:=by simp[bY,bJ];omega
theorem lD {h:Hp} {n:Nat} (hn:n≤size h):size (bJ h n)=n:=by simp only[size,bJ,List.length_take]at *;omega
theorem uE {base:Nat} {h h1:Hp} (hb:base≤size h) (g:bC base h h1):bC base h (bJ h1 (size h)):=by
 refine⟨by rw[lD g.1];exact Nat.le_refl _,fun m hm k b cs hlt hcs=>?_⟩;rw[mQ (by omega)]at hcs;exact g.2 m hm k b cs hlt hcs
theorem Dg {base:Nat} {h h1:Hp} (hb:base≤size h) (g:bC base h h1) {vs:List PV}:aV (fun r=>bC base h r.2) (ju (size h) h1 vs):=by
 have g1:=uE hb g;have g2:∀ l,bC base h (Go.Am.ext (bJ h1 (size h)) l):=fun l=>g1.trans (bC.ext (by rw[lD g.1];exact hb) l)
 unfold ju;split
 ·exact aV.ite (aV.ite (aV.some g1) (aV.ah fun n=>aV.some (g2 _))) aV.none
 ·exact aV.ite (aV.ite (aV.some g1) aV.none) (aV.ah fun cs=>aV.ite (aV.some (g2 _)) aV.none)
 ·exact aV.ah fun vs=>aV.ite (aV.some g1) aV.none
theorem tF {T:Table}:∀ n,(∀ c base e h,base≤size h→aV (fun x=>bC base h x.2.2) (exec T n c base e h)) ∧
  (∀ base f vs h,base≤size h→aV (fun x=>bC base h x.2) (call T n base f vs h))
 | 0=>⟨fun _ _ _ _ _=>by simp only[exec];exact aV.none,fun _ _ _ _ _=>by simp only[call];exact aV.none⟩
 | n+1=>by
  obtain⟨ih,ihc⟩:=tF (T:=T) n;refine⟨fun c base e h hb=>?_,fun base f vs h hb=>?_⟩
  ·cases c with
   | skip=>rw[exec];exact aV.some (bC.refl _ _)
   | exit id=>rw[exec];exact aV.some (bC.refl _ _)
   | ret=>rw[exec];exact aV.some (bC.refl _ _)
   | ops l draw keep =>
    rw[exec];intro x hx;simp only[Option.aa,Option.some.injEq]at hx;obtain⟨y,hy,rfl⟩:=hx;exact jH (fun h f vs r hb hr=>ihc base f vs h hb r hr) l e h hb y hy
   | seq a b =>
    rw[exec];intro x hx;simp only[Option.aa]at hx;obtain⟨⟨y,e1,h1⟩,hy,hx⟩:=hx;have g1:=ih a base e h hb _ hy;split at hx
    ·rename_i heq
     simp only[Prod.mk.injEq]at heq;obtain⟨_,rfl,rfl⟩:=heq;exact bC.trans g1 (ih b base _ _ (Nat.le_trans hb g1.1) x hx)
    ·simp only[Option.some.injEq]at hx;subst hx;exact g1
   | cond v a b =>
    rw[exec];exact aV.ah fun _=>aV.cond (ih a base e h hb) (ih b base e h hb)
   | block id a =>
    rw[exec];intro x hx;simp only[Option.aa]at hx;obtain⟨⟨y,e1,h1⟩,hy,hx⟩:=hx;have g1:=ih a base e h hb _ hy;split at hx
    ·rename_i heq
     simp only[Prod.mk.injEq]at heq;obtain⟨_,rfl,rfl⟩:=heq;split at hx<;>(simp only[Option.some.injEq]at hx;subst hx;exact g1)
    ·simp only[Option.some.injEq]at hx;subst hx;exact g1
   | loop a =>
    rw[exec];intro x hx;simp only[Option.aa]at hx;obtain⟨⟨y,e1,h1⟩,hy,hx⟩:=hx;have g1:=ih a base e h hb _ hy;split at hx
    ·rename_i heq
     simp only[Prod.mk.injEq]at heq;obtain⟨_,rfl,rfl⟩:=heq;exact bC.trans g1 (ih (.loop a) base _ _ (Nat.le_trans hb g1.1) x hx)
    ·simp only[Option.some.injEq]at hx;subst hx;exact g1
   | scope a=>rw[exec];exact ih a base e h hb
  ·rw[call]
   split
   ·exact aV.none
   ·refine aV.ah fun r=>?_
    obtain⟨v,m⟩:=r;cases m with
    | none=>exact aV.some (bC.refl _ _)
    | some q =>
     obtain⟨b,cs⟩:=q;simp only[rS];intro x hx;split at hx
     ·rename_i hc
      simp only[Option.some.injEq]at hx;subst hx;obtain⟨hb1,hb2⟩:=hc;obtain⟨cs0,hcs0⟩:=Option.isSome_iff_exists.1 hb1;exact bC.set hcs0 fun j y hy=>.inr fun hlt=>dV (hb2 hlt) j y hy
     ·cases hx
   ·exact aV.ah fun r=>aV.some (bC.ext hb _)
   ·rename_i fn hf
    intro x hx;simp only[Option.aa]at hx;obtain⟨⟨y,e1,h1⟩,hy,hx⟩:=hx;have hbase:(if fn.keep then base else size h)≤size h:=by split<;>omega
    have hle:base≤(if fn.keep then base else size h):=by split<;>omega
    have g1:=(ih fn.body _ _ h hbase _ hy).mono hle;have hx':finish fn (size h) e1 h1=some x:=by
     cases y with
     | exit i=>cases hx
     | norm=>exact hx
     | ret=>exact hx
    unfold finish at hx';simp only[Option.aa]at hx';obtain⟨vs',_,hx'⟩:=hx';split at hx'
    ·simp only[Option.some.injEq]at hx';subst hx';exact g1
    ·split at hx'
     ·simp only[Option.aa,Option.some.injEq]at hx'
      obtain⟨r,hr,rfl⟩:=hx';exact Dg hb g1 r hr
     ·simp only[Option.aa]at hx'
      obtain⟨vs2,_,hx'⟩:=hx';split at hx'
      ·simp only[Option.some.injEq]at hx'
       subst hx';exact uE hb g1
      ·cases hx'
end Go.Am
namespace Go.Am
open Go.RowKit (Below)
structure Tk where
 e:Nat
 c:Nat
 o:Nat
 cap:Nat
 sz:Nat
 deriving Inhabited
theorem sg {α:Type} {us:Array α} (h:us.size=1):∃ u,us=#[u]:=⟨us[0],Array.ext (by simp[h]) fun i hi _=>by
 have:i=0:=by omega
 subst this;rfl⟩
structure G where
 ι:Nat→Nat
 n:Nat
 hw:Nat→Option Nat
 tk:Nat→Tk:=fun _=>default
 cp:Nat→Nat:=fun _=>0
section
variable (N0:Nat)
def zw (g:G) (c e:Nat):Prop:=c<N0∨∃ m,g.hw c=some m∧e≤m
inductive RV (g:G) (w:World):PV→Value→Prop
 | undef (u) (hu:∀ b,u≠.bool b):RV g w .undef u
 | bool (b):RV g w (.bool b) (.bool b)
 | int (k n):RV g w (.int k n) (.int k n)
 | str (l s) (h:s.data.toList=l):RV g w (.str l) (.string s)
 | bp:RV g w .bp (.pointer none)
 | eG (T):RV g w (.eG T) (.pointer none)
 | ptr (b off) (h:b<g.n):RV g w (.ptr b off) (.pointer (some ⟨g.ι b,off,none⟩))
 | ep (cs off c o) (u:Nat→Value) (hc:∀ j,j<cs.length→w.cell? ⟨c,o+j,none⟩=some (u j))
   (hr:∀ j x,cs[j]?=some x→RV g w x (u j)) (hf:zw N0 g c (o+cs.length)):RV g w (.ep cs off) (.pointer (some ⟨c,o+off,none⟩))
 | bg:RV g w .bg (.slice none 0 0)
 | sl (ow sz es c o cap) (u:Nat→Nat→Value) (hl:es.length≤cap) (hfull:ow=.full→cap=es.length)
   (hsz:∀ (i:Nat) (e:PV),es[i]?=some e→e.cells.length=sz)
   (hc:∀ i j,i<es.length→j<sz→w.cell? ⟨c,o+(i*sz+j),none⟩=some (u i j))
   (hr:∀ (i j:Nat) (e x:PV),es[i]?=some e→e.cells[j]?=some x→RV g w x (u i j))
   (hf:es≠[]→zw N0 g c (o+es.length*sz)) (sp:Option Nat) (hsp:es≠[]→sp=none)
   (htk:∀ t,ow=.tok t→t<g.n∧es.length≤(g.tk t).e∧((g.tk t).e=es.length→g.tk t=⟨es.length,c,o,cap,sz⟩∧sp=none)):RV g w (.sl ow sz es) (.slice (some ⟨c,o,sp⟩) es.length cap)
 | bX (f b off len sz cap) (h:b<g.n) (hl:len≤cap) (hfull:f=true→cap=len) (hcp:off+cap*sz≤g.cp b):RV g w (.bX f b off len sz) (.slice (some ⟨g.ι b,off,none⟩) len cap)
 | dJ:RV g w .dJ .nilIface
 | iface (t v u) (h:RV g w v u):RV g w (.iface t v) (.iface t u)
 | gP:RV g w .gP .nilFunc
 | fn (f cap) (us:Array Value) (hs:us.size=cap.length) (hr:∀ (j:Nat) (x:PV),cap[j]?=some x→RV g w x (us.getD j undef)):RV g w (.fn f cap) (.func (.func f) #[] us)
 | agg (cs) (us:Array Value) (hs:us.size=cs.length) (hr:∀ (j:Nat) (x:PV),cs[j]?=some x→RV g w x (us.getD j undef)):RV g w (.agg cs) (.agg us)
 | cF (cs) (us:Array Value) (hs:us.size=cs.length) (hr:∀ (j:Nat) (x:PV),cs[j]?=some x→RV g w x (us.getD j undef)):RV g w (.cF cs) (.tuple us)
 | it (b) (h:b<g.n):RV g w (.it b) (.pointer (some ⟨g.ι b,0,none⟩))
 | gu:RV g w .gu (.map none)
 | eL (b) (h:b<g.n):RV g w (.eL b) (.map (some (g.ι b)))
structure Ext (g:G) (w:World) (g':G) (w':World):Prop where
 n:g.n≤g'.n
 ι:∀ b,b<g.n→g'.ι b=g.ι b
 hw:∀ c m,g.hw c=some m→∃ m',g'.hw c=some m'∧m≤m'
 cell:∀ c m o,g.hw c=some m→o<m→w'.cell? ⟨c,o,none⟩=w.cell? ⟨c,o,none⟩
 old:∀ c o,c<N0→w'.cell? ⟨c,o,none⟩=w.cell? ⟨c,o,none⟩
 tk:∀ t,t<g.n→(g.tk t).e≤(g'.tk t).e∧((g'.tk t).e=(g.tk t).e→g'.tk t=g.tk t)
 cp:∀ b,b<g.n→g'.cp b=g.cp b
theorem Ext.refl (g:G) (w:World):Ext N0 g w g w:=⟨Nat.le_refl _,fun _ _=>rfl,fun c m h=>⟨m,h,Nat.le_refl _⟩,fun _ _ _ _ _=>rfl,fun _ _ _=>rfl,fun _ _=>⟨Nat.le_refl _,fun _=>rfl⟩,fun _ _=>rfl⟩
variable {N0}
theorem Ext.trans {g g' g'':G} {w w' w'':World} (a:Ext N0 g w g' w') (b:Ext N0 g' w' g'' w''):Ext N0 g w g'' w'' where
 n:=Nat.le_trans a.n b.n
 ι:=fun x hx=>(b.ι x (Nat.lt_of_lt_of_le hx a.n)).trans (a.ι x hx)
 hw:=fun c m h=>let ⟨m',h',l⟩:=a.hw c m h;let ⟨m'',h'',l'⟩:=b.hw c m' h';⟨m'',h'',Nat.le_trans l l'⟩
 cell:=fun c m o h ho=>let ⟨m',h',l⟩:=a.hw c m h;(b.cell c m' o h' (Nat.lt_of_lt_of_le ho l)).trans (a.cell c m o h ho)
 old:=fun c o h=>(b.old c o h).trans (a.old c o h)
 tk:=fun t h=>by
  obtain⟨a1,a2⟩:=a.tk t h;obtain⟨b1,b2⟩:=b.tk t (Nat.lt_of_lt_of_le h a.n);refine⟨Nat.le_trans a1 b1,fun he=>?_⟩;have e1:(g''.tk t).e=(g'.tk t).e:=by omega
  have e2:(g'.tk t).e=(g.tk t).e:=by omega
  exact(b2 e1).trans (a2 e2)
 cp:=fun x hx=>(b.cp x (Nat.lt_of_lt_of_le hx a.n)).trans (a.cp x hx)
theorem zw.mono {g g':G} {w w':World} (x:Ext N0 g w g' w') {c e:Nat} (h:zw N0 g c e):zw N0 g' c e:=by
 rcases h with h | ⟨m,h,l⟩
 ·exact .inl h
 ·obtain⟨m',h',l'⟩:=x.hw c m h
  exact .inr ⟨m',h',Nat.le_trans l l'⟩
theorem zw.cell {g g':G} {w w':World} (x:Ext N0 g w g' w') {c e o:Nat} (h:zw N0 g c e) (ho:o<e):w'.cell? ⟨c,o,none⟩=w.cell? ⟨c,o,none⟩:=by
 rcases h with h | ⟨m,h,l⟩
 ·exact x.old c o h
 ·exact x.cell c m o h (Nat.lt_of_lt_of_le ho l)
theorem fH {i j n sz:Nat} (hi:i<n) (hj:j<sz):i*sz+j<n*sz:=by
 have:(i+1)*sz≤n*sz:=Nat.mul_le_mul_right _ hi;rw[Nat.succ_mul]at this;omega
theorem RV.mono {g g':G} {w w':World} (x:Ext N0 g w g' w') {v:PV} {u:Value} (h:RV N0 g w v u):RV N0 g' w' v u:=by
 induction h with
 | undef u hu=>exact .undef u hu
 | bool b=>exact .bool b
 | int k n=>exact .int k n
 | str l s h=>exact .str l s h
 | bp=>exact .bp
 | eG T=>exact .eG T
 | ptr b off h=>rw[←x.ι b h];exact .ptr b off (Nat.lt_of_lt_of_le h x.n)
 | ep cs off c o u hc hr hf ih =>
  exact .ep cs off c o u (fun j hj=>(hf.cell x (by omega)).trans (hc j hj)) ih (hf.mono x)
 | bg=>exact .bg
 | sl ow sz es c o cap u hl hfull hsz hc hr hf sp hsp htk ih =>
  refine .sl ow sz es c o cap u hl hfull hsz (fun i j hi hj=>((hf ?_).cell x ?_).trans (hc i j hi hj)) ih (fun hne=>(hf hne).mono x) sp hsp fun t ht=>?_
  ·rintro rfl;simp at hi
  ·have:=fH hi hj
   omega
  ·obtain⟨t1,t2,t3⟩:=htk t ht
   obtain⟨x1,x2⟩:=x.tk t t1;refine⟨Nat.lt_of_lt_of_le t1 x.n,Nat.le_trans t2 x1,fun he=>?_⟩;have e1:(g.tk t).e=es.length:=by omega
   rw[x2 (by omega)];exact t3 e1
 | bX f b off len sz cap h hl hfull hcp=>rw[←x.ι b h];exact .bX f b off len sz cap (Nat.lt_of_lt_of_le h x.n) hl hfull (by rw[x.cp b h];exact hcp)
 | dJ=>exact .dJ
 | iface t v u _ ih=>exact .iface t v u ih
 | gP=>exact .gP
 | fn f cap us hs _ ih=>exact .fn f cap us hs ih
 | agg cs us hs _ ih=>exact .agg cs us hs ih
 | cF cs us hs _ ih=>exact .cF cs us hs ih
 | it b h=>rw[←x.ι b h];exact .it b (Nat.lt_of_lt_of_le h x.n)
 | gu=>exact .gu
 | eL b h=>rw[←x.ι b h];exact .eL b (Nat.lt_of_lt_of_le h x.n)
theorem iI {n:Nat}:∀ {cs:List PV},belows n cs=true→∀ (j:Nat) (x:PV),cs[j]?=some x→below n x=true
 | [],_,j,x,h=>by simp at h
 | c::cs,hb,0,x,h=>by simp[belows]at hb h;exact h▸hb.1
 | c::cs,hb,j+1,x,h=>by
  simp only[belows,Bool.and_eq_true]at hb;exact iI hb.2 j x (by simpa using h)
theorem Fh {n:Nat} {v:PV} (h:below n v=true) (j:Nat) (x:PV) (hx:v.cells[j]?=some x):below n x=true:=by
 cases v with
 | agg cs=>simp only[below]at h;exact iI h j x hx
 | _ =>
  cases j with
  | zero=>simp only[PV.cells,List.getElem?_cons_zero,Option.some.injEq]at hx;exact hx▸h
  | succ j=>simp[PV.cells]at hx
theorem iY {g:G} {w:World} {m:Nat} {v:PV} {u:Value} (h:RV N0 g w v u) (hb:below m v=true):RV N0 { g with n:=m } w v u:=by
 induction h with
 | undef u hu=>exact .undef u hu
 | bool b=>exact .bool b
 | int k n=>exact .int k n
 | str l s h=>exact .str l s h
 | bp=>exact .bp
 | eG T=>exact .eG T
 | ptr b off h=>exact .ptr (g:={ g with n:=m }) b off (by simpa[below] using hb)
 | ep cs off c o u hc hr hf ih =>
  simp only[below]at hb;exact .ep cs off c o u hc (fun j x hx=>ih j x hx (iI hb j x hx)) hf
 | bg=>exact .bg
 | sl ow sz es c o cap u hl hfull hsz hc hr hf sp hsp htk ih =>
  simp only[below,Bool.and_eq_true]at hb;refine .sl ow sz es c o cap u hl hfull hsz hc (fun i j e x he hx=>ih i j e x he hx (Fh (iI hb.2 i e he) j x hx)) hf sp hsp fun t ht=>?_
  have hb1:=hb.1;rw[ht]at hb1;exact⟨by simpa[Own.below] using hb1,(htk t ht).2⟩
 | bX f b off len sz cap h hl hfull hcp=>exact .bX (g:={ g with n:=m }) f b off len sz cap (by simpa[below] using hb) hl hfull hcp
 | dJ=>exact .dJ
 | iface t v u _ ih=>simp only[below]at hb;exact .iface t v u (ih hb)
 | gP=>exact .gP
 | fn f cap us hs _ ih=>simp only[below]at hb;exact .fn f cap us hs fun j x hx=>ih j x hx (iI hb j x hx)
 | agg cs us hs _ ih=>simp only[below]at hb;exact .agg cs us hs fun j x hx=>ih j x hx (iI hb j x hx)
 | cF cs us hs _ ih=>simp only[below]at hb;exact .cF cs us hs fun j x hx=>ih j x hx (iI hb j x hx)
 | it b h=>exact .it (g:={ g with n:=m }) b (by simpa[below] using hb)
 | gu=>exact .gu
 | eL b h=>exact .eL (g:={ g with n:=m }) b (by simpa[below] using hb)
theorem jy:∀ (cs:List PV) (j:Nat),(aO cs)[j]?=(cs[j]?).map strip
 | [],j=>by simp[aO]
 | c::cs,0=>by simp[aO]
 | c::cs,j+1=>by simpa[aO] using jy cs j
theorem aan (cs:List PV):(aO cs).length=cs.length:=by induction cs<;>simp_all [aO]
theorem uF (v:PV):(strip v).cells.length=v.cells.length:=by
 cases v<;>first | rfl | exact aan _
theorem pW {cs:List PV} {R:PV→Nat→Prop} (hr:∀ (j:Nat) (x:PV),cs[j]?=some x→R (strip x) j):∀ (j:Nat) (x:PV),(aO cs)[j]?=some x→R x j:=by
 intro j x hx;rw[jy,Option.map_eq_some_iff]at hx;obtain⟨y,hy,rfl⟩:=hx;exact hr j y hy
theorem iz {g:G} {w:World} {v:PV} {u:Value} (h:RV N0 g w v u):RV N0 g w (strip v) u:=by
 induction h with
 | sl ow sz es c o cap k hl hfull hsz hc hr hf sp hsp htk ih =>
  cases ow with
  | tok t=>exact .sl .no sz es c o cap k hl (by simp) hsz hc hr hf sp hsp (by simp)
  | no=>exact .sl .no sz es c o cap k hl hfull hsz hc hr hf sp hsp htk
  | full=>exact .sl .full sz es c o cap k hl hfull hsz hc hr hf sp hsp htk
 | undef u hu=>exact .undef u hu
 | bool b=>exact .bool b
 | int k n=>exact .int k n
 | str l s h=>exact .str l s h
 | bp=>exact .bp
 | eG T=>exact .eG T
 | ptr b off h=>exact .ptr b off h
 | ep cs off c o u hc hr hf=>exact .ep cs off c o u hc hr hf
 | bg=>exact .bg
 | bX f b off len sz cap h hl hfull hcp=>exact .bX f b off len sz cap h hl hfull hcp
 | dJ=>exact .dJ
 | iface t v u h ih=>exact .iface t _ u ih
 | gP=>exact .gP
 | fn f cap us hs hr ih=>exact .fn f _ us (by rw[hs,aan]) (pW (R:=fun x j=>RV N0 g w x (us.getD j undef)) ih)
 | agg cs us hs hr ih=>exact .agg _ us (by rw[hs,aan]) (pW (R:=fun x j=>RV N0 g w x (us.getD j undef)) ih)
 | cF cs us hs hr ih=>exact .cF _ us (by rw[hs,aan]) (pW (R:=fun x j=>RV N0 g w x (us.getD j undef)) ih)
 | it b h=>exact .it b h
 | gu=>exact .gu
 | eL b h=>exact .eL b h
theorem lE {g:G} {w:World} {v:PV} {u:Value} (h:RV N0 g w v u) (hv:v≠.undef):u.cells.size=v.cells.length∧∀ (j:Nat) (x:PV),v.cells[j]?=some x→RV N0 g w x (u.cells.getD j undef):=by
 have one:∀ (v:PV) (u:Value),RV N0 g w v u→v.cells=[v]→u.cells=#[u]→u.cells.size=v.cells.length∧∀ (j:Nat) (x:PV),v.cells[j]?=some x→RV N0 g w x (u.cells.getD j undef):=by
  intro v u h hv hu;rw[hv,hu];refine⟨rfl,fun j x hx=>?_⟩;cases j with
  | zero=>simp at hx;subst hx;simpa using h
  | succ j=>simp at hx
 cases h with
 | undef u hu=>exact(hv rfl).elim
 | agg cs us hs hr=>exact⟨hs,hr⟩
 | bool b=>exact one _ _ (.bool b) rfl rfl
 | int k n=>exact one _ _ (.int k n) rfl rfl
 | str l s h=>exact one _ _ (.str l s h) rfl rfl
 | bp=>exact one _ _ .bp rfl rfl
 | eG T=>exact one _ _ (.eG T) rfl rfl
 | ptr b off h=>exact one _ _ (.ptr b off h) rfl rfl
 | ep cs off c o u hc hr hf=>exact one _ _ (.ep cs off c o u hc hr hf) rfl rfl
 | bg=>exact one _ _ .bg rfl rfl
 | sl ow sz es c o cap k hl hfull hsz hc hr hf sp hsp htk=>exact one _ _ (.sl ow sz es c o cap k hl hfull hsz hc hr hf sp hsp htk) rfl rfl
 | bX f b off len sz cap h hl hfull hcp=>exact one _ _ (.bX f b off len sz cap h hl hfull hcp) rfl rfl
 | dJ=>exact one _ _ .dJ rfl rfl
 | iface t v u h=>exact one _ _ (.iface t v u h) rfl rfl
 | gP=>exact one _ _ .gP rfl rfl
 | fn f cap us hs hr=>exact one _ _ (.fn f cap us hs hr) rfl rfl
 | cF cs us hs hr=>exact one _ _ (.cF cs us hs hr) rfl rfl
 | it b h=>exact one _ _ (.it b h) rfl rfl
 | gu=>exact one _ _ .gu rfl rfl
 | eL b h=>exact one _ _ (.eL b h) rfl rfl
/-! ### The whole state -/
def blk (g:G) (b:Nat):gW→Nat
 | .tok _ _=>(g.tk b).c
 | _=>g.ι b
def iZ (N0:Nat) (g:G) (w:World) (b:Nat):gW→Prop
 | .cells cs=>N0≤g.ι b∧g.hw (g.ι b)=none∧∃ arr T lo hi,w.heap[g.ι b]?=some (.cells arr T (lo,hi))∧(lo≠hi→arr.size≤lo)∧(cs.length≤g.cp b∧g.cp b≤arr.size)∧(∀ T',cs[0]?=some (.eG T')→T'=T∧arr.size=cs.length)∧∀ (k:Nat) (x:PV),cs[k]?=some x→RV N0 g w x (arr.getD k undef)
 | .tok n T=>(g.tk b).e=n∧n≤(g.tk b).cap∧N0≤(g.tk b).c∧g.hw (g.tk b).c=some ((g.tk b).o+n*(g.tk b).sz)∧(g.tk b).o=0 ∧
   ∃ arr lo hi,w.heap[(g.tk b).c]?=some (.cells arr T (lo,hi))∧(g.tk b).o+(g.tk b).cap*(g.tk b).sz≤arr.size∧hi≤(g.tk b).o+n*(g.tk b).sz
 | .iter s p=>N0≤g.ι b∧g.hw (g.ι b)=none∧∃ s',s'.data.toList=s∧w.heap[g.ι b]?=some (.stringIter s' p)
 | .dead=>N0≤g.ι b∧g.ι b<w.heap.size
 | .map es=>N0≤g.ι b∧g.hw (g.ι b)=none∧∃ ea clock,w.heap[g.ι b]?=some (.map ea clock)∧ea.size=es.length∧Go.MapKept.Stamped ea clock ∧
   ∀ (i:Nat) (x:PV × PV),es[i]?=some x→∃ y,ea[i]?=some y∧x.1≠.undef∧x.2≠.undef∧RV N0 g w x.1 y.key∧RV N0 g w x.2 y.val
structure Ok (w0:World) (g:G) (e:Env) (tm:Array Value) (h:Hp) (w:World):Prop where
 n:g.n=size h
 hN:w0.heap.size=N0
 below:Below N0 w0 w
 inj:∀ b c x y,bY h b=some x→bY h c=some y→x≠.dead→y≠.dead→blk g b x=blk g c y→b=c
 box:∀ b x,bY h b=some x→iZ N0 g w b x
 arr:∀ c m,g.hw c=some m→N0≤c∧c<w.heap.size
 env:∀ t v,look e t=some v→RV N0 g w v (tm.getD t undef)
theorem iZ.blk {g:G} {w:World} {b:Nat} {x:gW} (k:iZ N0 g w b x):N0≤blk g b x∧Go.Am.blk g b x<w.heap.size:=by
 have lt:∀ {i:Nat} {o:Obj},w.heap[i]?=some o→i<w.heap.size:=fun h=>(Array.getElem?_eq_some_iff.1 h).1
 cases x with
 | cells cs=>obtain⟨h1,h2,arr,T,lo,hi,h3,_⟩:=k;exact⟨h1,lt h3⟩
 | tok n T=>obtain⟨_,_,h1,h2,_,arr,lo,hi,h3,_⟩:=k;exact⟨h1,lt h3⟩
 | iter s p=>obtain⟨h1,h2,s',_,h3⟩:=k;exact⟨h1,lt h3⟩
 | map es=>obtain⟨h1,h2,ea,cl,h3,_⟩:=k;exact⟨h1,lt h3⟩
 | dead=>exact k
theorem iZ.mono {g g':G} {w w':World} (x:Ext N0 g w g' w') {b:Nat} {bx:gW} (hb:b<g.n) (k:iZ N0 g w b bx) (hsz:w.heap.size≤w'.heap.size) (hw:bx≠.dead→w'.heap[Go.Am.blk g b bx]?=w.heap[Go.Am.blk g b bx]?)
  (hhw:bx≠.dead→g'.hw (Go.Am.blk g b bx)=g.hw (Go.Am.blk g b bx)) (htk:g'.tk b=g.tk b):iZ N0 g' w' b bx:=by
 have hι:=x.ι b hb;have hcp:=x.cp b hb
 by_cases hd:bx=.dead
 ·subst hd
  exact⟨by rw[hι];exact k.1,by rw[hι];exact Nat.lt_of_lt_of_le k.2 hsz⟩
 replace hw:=hw hd
 replace hhw:=hhw hd
 cases bx with
 | cells cs =>
  obtain⟨h1,h2,arr,T,lo,hi,h3,h6,h4,h7,h5⟩:=k;simp only[Go.Am.blk]at hw hhw;exact⟨by rw[hι];exact h1,by rw[hι,hhw];exact h2,arr,T,lo,hi,by rw[hι,hw];exact h3,h6,by rw[hcp];exact h4,h7,fun i y hy=>(h5 i y hy).mono x⟩
 | tok n T =>
  simp only[Go.Am.blk]at hw hhw;simp only[iZ]at k ⊢;rw[htk,hw,hhw];exact k
 | dead=>exact(hd rfl).elim
 | iter s p =>
  obtain⟨h1,h2,s',h3,h4⟩:=k;simp only[Go.Am.blk]at hw hhw;exact⟨by rw[hι];exact h1,by rw[hι,hhw];exact h2,s',h3,by rw[hι,hw];exact h4⟩
 | map es =>
  obtain⟨h1,h2,ea,cl,h3,h4,hst,h5⟩:=k;simp only[Go.Am.blk]at hw hhw;exact⟨by rw[hι];exact h1,by rw[hι,hhw];exact h2,ea,cl,by rw[hι,hw];exact h3,h4,hst,fun i y hy=>let ⟨z,z1,z2,z3,z4,z5⟩:=h5 i y hy;⟨z,z1,z2,z3,z4.mono x,z5.mono x⟩⟩
theorem Ok.cells {w0:World} {g:G} {e:Env} {tm:Array Value} {h:Hp} {w:World} (k:Ok (N0:=N0) w0 g e tm h w) {b:Nat} {cs:List PV} (hb:ay h b=some cs) :
  N0≤g.ι b∧g.hw (g.ι b)=none∧∃ arr T lo hi,w.heap[g.ι b]?=some (.cells arr T (lo,hi))∧(lo≠hi→arr.size≤lo)∧(cs.length≤g.cp b∧g.cp b≤arr.size)∧(∀ T',cs[0]?=some (.eG T')→T'=T∧arr.size=cs.length)∧∀ (k:Nat) (x:PV),cs[k]?=some x→RV N0 g w x (arr.getD k undef) :=
 k.box b _ (bq hb)
theorem iE {w0:World} {g:G} {e:Env} {tm:Array Value} {h:Hp} {w:World} (k:Ok (N0:=N0) w0 g e tm h w):N0≤w.heap.size:=by
 rw[←k.hN];exact k.below.size
theorem Ok.put {w0:World} {g:G} {e:Env} {tm:Array Value} {h:Hp} {w:World} (k:Ok (N0:=N0) w0 g e tm h w) {d:Nat} (hd:d<tm.size) {v:PV} {u:Value}
  (hv:RV N0 g w v u):Ok (N0:=N0) w0 g ((d,v)::e) (tm.setIfInBounds d u) h w where
 n:=k.n
 hN:=k.hN
 below:=k.below
 inj:=k.inj
 box:=k.box
 arr:=k.arr
 env:=fun t x hx=>by
  simp only[look]at hx;split at hx
  ·rename_i ht
   simp only[Option.some.injEq]at hx;subst ht;subst hx;simpa[Array.getD_eq_getD_getElem?,hd] using hv
  ·rename_i ht
   have:=k.env t x hx;simpa[Array.getD_eq_getD_getElem?,Array.getElem?_setIfInBounds,ht] using this
theorem Ok.sub {w0:World} {g:G} {e e':Env} {tm:Array Value} {h:Hp} {w:World} (k:Ok (N0:=N0) w0 g e tm h w) (hs:∀ t v,look e' t=some v→look e t=some v) :
  Ok (N0:=N0) w0 g e' tm h w:=⟨k.n,k.hN,k.below,k.inj,k.box,k.arr,fun t v hv=>k.env t v (hs t v hv)⟩
theorem iJ:∀ (ts:List Nat) (e:Env) (t:Nat) (v:PV),look (prune ts e) t=some v→look e t=some v
 | [],e,t,v,h=>by simp[prune,look]at h
 | s::ts,e,t,v,h=>by
  simp only[prune]at h;split at h
  ·rename_i x hx
   simp only[look]at h;split at h
   ·rename_i hst
    subst hst;rw[hx];exact h
   ·exact iJ ts e t v h
  ·exact iJ ts e t v h
theorem Ok.world {w0:World} {g g':G} {e:Env} {tm:Array Value} {h:Hp} {w w':World} (k:Ok (N0:=N0) w0 g e tm h w) (x:Ext N0 g w g' w') (hn:g'.n=g.n)
  (hb:Below N0 w w') (Yv:∀ b bx,bY h b=some bx→bx≠.dead→w'.heap[blk g b bx]?=w.heap[blk g b bx]?∧g'.hw (blk g b bx)=g.hw (blk g b bx)) (htk:∀ b,b<g.n→g'.tk b=g.tk b)
  (Vf:∀ c m,g'.hw c=some m→N0≤c∧c<w'.heap.size):Ok (N0:=N0) w0 g' e tm h w' where
 n:=hn.trans k.n
 hN:=k.hN
 below:=k.below.trans hb
 inj:=fun b c y z hy hz Ox R8 he=>by
  have hb:b<g.n:=by rw[k.n];exact bw hy
  have hc:c<g.n:=by rw[k.n];exact bw hz
  have e1:∀ (b:Nat) (y:gW),b<g.n→blk g' b y=blk g b y:=by
   intro b y hb;cases y<;>simp only[blk,x.ι b hb,htk b hb]
  rw[e1 b y hb,e1 c z hc]at he;exact k.inj b c y z hy hz Ox R8 he
 box:=fun b bx hbx=>by
  have hbS:=hb.size;have hb':b<g.n:=by rw[k.n];exact bw hbx
  exact(k.box b bx hbx).mono x hb' hbS (fun hd=>(Yv b bx hbx hd).1) (fun hd=>(Yv b bx hbx hd).2) (htk b hb')
 arr:=Vf
 env:=fun t v hv=>(k.env t v hv).mono x
end
end Go.Am
namespace Go.Am
open Go.RowKit (Below)
section
variable {N0:Nat} {P:Program} {w0:World} {g:G} {e:Env} {a:Act} {h:Hp} {w:World}
/-! ### Yw -/
mutual
theorem oQ:∀ (v:Value) (x:PV),ofValue v=some x→RV N0 g w x v
 | .bool b,x,hx=>by simp[ofValue]at hx;subst hx;exact .bool b
 | .int k n,x,hx=>by simp[ofValue]at hx;subst hx;exact .int k n
 | .string s,x,hx=>by simp[ofValue]at hx;subst hx;exact .str _ s (by simp)
 | .pointer none,x,hx=>by simp[ofValue]at hx;subst hx;exact .bp
 | .slice none 0 0,x,hx=>by simp[ofValue]at hx;subst hx;exact .bg
 | .nilIface,x,hx=>by simp[ofValue]at hx;subst hx;exact .dJ
 | .nilFunc,x,hx=>by simp[ofValue]at hx;subst hx;exact .gP
 | .agg cs,x,hx=>by
  simp only[ofValue,Option.map_eq_some_iff]at hx;obtain⟨l,hl,rfl⟩:=hx;obtain⟨h1,h2⟩:=oS cs.toList l hl;refine .agg l cs (by simpa using h1) fun j y hy=>?_
  have:=h2 j y hy;simpa[Array.getD_eq_getD_getElem?,List.getD_eq_getElem?_getD] using this
 | .pointer (some _),x,hx=>by simp[ofValue]at hx
 | .slice (some _) _ _,x,hx=>by simp[ofValue]at hx
 | .slice none 0 (_+1),x,hx=>by simp[ofValue]at hx
 | .slice none (_+1) _,x,hx=>by simp[ofValue]at hx
 | .float _ _,x,hx=>by simp[ofValue]at hx
 | .complex _ _ _,x,hx=>by simp[ofValue]at hx
 | .map none,x,hx=>by simp[ofValue]at hx;subst hx;exact .gu
 | .map (some _),x,hx=>by simp[ofValue]at hx
 | .chan _,x,hx=>by simp[ofValue]at hx
 | .func _ _ _,x,hx=>by simp[ofValue]at hx
 | .iface _ _,x,hx=>by simp[ofValue]at hx
 | .tuple _,x,hx=>by simp[ofValue]at hx
theorem oS:∀ (vs:List Value) (l:List PV),fh vs=some l→vs.length=l.length∧∀ (j:Nat) (y:PV),l[j]?=some y→RV N0 g w y (vs.getD j Go.undef)
 | [],l,hl=>by simp[fh]at hl;subst hl;exact⟨rfl,fun j y hy=>by simp at hy⟩
 | v::vs,l,hl=>by
  have key:∀ (x:PV),RV N0 g w x v→(∃ l',fh vs=some l'∧l=x::l')→(v::vs).length=l.length∧∀ (j:Nat) (y:PV),l[j]?=some y→RV N0 g w y ((v::vs).getD j Go.undef):=by
   rintro x hx ⟨l',h1,rfl⟩;obtain⟨h2,h3⟩:=oS vs l' h1;refine⟨by simp[h2],fun j y hy=>?_⟩;cases j with
   | zero=>simp at hy;subst hy;simpa using hx
   | succ j=>simpa using h3 j y (by simpa using hy)
  unfold fh at hl;split at hl
  ·cases ‹_::_=_›
  ·rename_i b r heq;cases heq;simp only[Option.map_eq_some_iff]at hl;obtain⟨l',h1,rfl⟩:=hl;exact key _ (.bool b) ⟨l',h1,rfl⟩
  ·rename_i k n r heq;cases heq;simp only[Option.map_eq_some_iff]at hl;obtain⟨l',h1,rfl⟩:=hl;exact key _ (.int k n) ⟨l',h1,rfl⟩
  ·rename_i s r heq;cases heq;simp only[Option.map_eq_some_iff]at hl;obtain⟨l',h1,rfl⟩:=hl;exact key _ (.str _ s rfl) ⟨l',h1,rfl⟩
  ·rename_i r heq;cases heq;simp only[Option.map_eq_some_iff]at hl;obtain⟨l',h1,rfl⟩:=hl;exact key _ .bp ⟨l',h1,rfl⟩
  ·rename_i r heq;cases heq;simp only[Option.map_eq_some_iff]at hl;obtain⟨l',h1,rfl⟩:=hl;exact key _ .bg ⟨l',h1,rfl⟩
  ·rename_i r heq;cases heq;simp only[Option.map_eq_some_iff]at hl;obtain⟨l',h1,rfl⟩:=hl;exact key _ .dJ ⟨l',h1,rfl⟩
  ·rename_i r heq;cases heq;simp only[Option.map_eq_some_iff]at hl;obtain⟨l',h1,rfl⟩:=hl;exact key _ .gP ⟨l',h1,rfl⟩
  ·rename_i r heq;cases heq;simp only[Option.map_eq_some_iff]at hl;obtain⟨l',h1,rfl⟩:=hl;exact key _ .gu ⟨l',h1,rfl⟩
  ·cases hl
end
theorem zx:∀ (vs:List Value) (l:List PV),fh vs=some l→∀ (j:Nat) (T:Nat),l[j]?≠some (.eG T)
 | [],l,hl,j,T=>by simp[fh]at hl;subst hl;simp
 | v::vs,l,hl,j,T=>by
  have key:∀ (x:PV),(∀ T,x≠.eG T)→(∃ l',fh vs=some l'∧l=x::l')→l[j]?≠some (.eG T):=by
   rintro x hx ⟨l',h1,rfl⟩;cases j with
   | zero=>simpa using hx T
   | succ j=>simpa using zx vs l' h1 j T
  unfold fh at hl;split at hl
  ·cases ‹_::_=_›
  all_goals first
   |(rename_i heq;cases heq;simp only[Option.map_eq_some_iff]at hl;obtain⟨l',h1,rfl⟩:=hl;exact key _ (by simp) ⟨l',h1,rfl⟩)
   | cases hl
theorem I6 {v:Value} {x:PV} (h:ofValue v=some x) (j T:Nat):x.cells[j]?≠some (.eG T):=by
 have one:∀ y:PV,(∀ T,y≠.eG T)→([y] : List PV)[j]?≠some (.eG T):=by
  intro y hy;cases j with
  | zero=>simpa using hy T
  | succ j=>simp
 unfold ofValue at h;split at h
 all_goals first
  |(simp only[Option.some.injEq]at h;subst h;exact one _ (by simp))
  |(simp only[Option.map_eq_some_iff]at h;obtain⟨l,hl,rfl⟩:=h;exact zx _ l hl j T)
  | cases h
theorem mR {xs:List PV} (h:xs.all scalar=true) (j T:Nat):xs[j]?≠some (.eG T):=by
 intro hq;have:=List.all_eq_true.1 h _ (List.mem_of_getElem? hq);simp[scalar]at this
def dR (gl:cR) (N0:Nat) (w0:World):Prop:=∀ n cs,IW gl n=some cs→n<N0∧∃ u:Nat→Value,(∀ j,j<cs.length→w0.cell? ⟨n,j,none⟩=some (u j)) ∧
 ∀ (j:Nat) (x:PV),cs[j]?=some x→∀ g w,RV N0 g w x (u j)
theorem qX {w w':World} (hb:Below N0 w w') {c:Nat} (hc:c<N0) (o:Nat):w'.cell? ⟨c,o,none⟩=w.cell? ⟨c,o,none⟩:=by
 simp only[World.cell?,hb.block c hc]
theorem bT {gl:cR} (hgl:dR gl N0 w0) (k:Ok (N0:=N0) w0 g e a.tmps h w) {o:Operand} {x:bH} {v:PV} (ho:aU gl o=some x) (hv:ev e x=some v):RV N0 g w v (a.eval o):=by
 cases o with
 | tmp t=>simp[aU]at ho;subst ho;exact k.env t v hv
 | const c =>
  simp only[aU,Option.map_eq_some_iff]at ho;obtain⟨y,hy,rfl⟩:=ho;simp[ev]at hv;subst hv;exact oQ c y hy
 | func f =>
  simp[aU]at ho;subst ho;simp[ev]at hv;subst hv;exact .fn f [] #[] rfl (fun j x hx=>by simp at hx)
 | global n =>
  simp only[aU,Option.map_eq_some_iff]at ho;obtain⟨cs,hcs,rfl⟩:=ho;simp[ev]at hv;subst hv;obtain⟨h1,u,h2,h3⟩:=hgl n cs hcs;exact .ep cs 0 n 0 u (fun j hj=>by rw[qX k.below h1,Nat.zero_add];exact h2 j hj) (fun j x hx=>h3 j x hx g w) (.inl h1)
/-! ### What an operation leaves -/
def cm (N0:Nat) (P:Program) (w0:World) (g:G) (a:Act) (w:World) (s:Sem Next) (v:PV) (e':Env) (h':Hp):Prop :=
 ∃ nx u w' g',s.run P w=.ok nx w'∧(nx=.value u∨(nx=.skip∧u=Go.undef))∧Ext N0 g w g' w'∧Ok (N0:=N0) w0 g' e' a.tmps h' w'∧RV N0 g' w' v u
theorem aI (k:Ok (N0:=N0) w0 g e a.tmps h w) {v:PV} {u:Value} {s:Sem Next} (hs:s.run P w=.ok (.value u) w) (hr:RV N0 g w v u) :
  cm N0 P w0 g a w s v e h:=⟨_,u,w,g,hs,.inl rfl,Ext.refl _ _ _,k,hr⟩
theorem lF (k:Ok (N0:=N0) w0 g e a.tmps h w) {b:Nat} {x:gW} (hb:bY h b=some x):N0≤blk g b x∧blk g b x<w.heap.size:=(k.box b x hb).blk
def eO (w w1:World) (ob:Obj):Prop:=w1=w.alloc ob∨w1=w.drew.alloc ob
theorem eO.size {w w1:World} {ob:Obj} (m:eO w w1 ob):w1.heap.size=w.heap.size+1:=by rcases m with rfl | rfl<;>simp
theorem eO.at {w w1:World} {ob:Obj} (m:eO w w1 ob):w1.heap[w.heap.size]?=some ob:=by
 rcases m with rfl | rfl
 ·show(w.heap.push _)[w.heap.size]?=_;simp
 ·show(w.heap.push _)[w.heap.size]?=_;simp
theorem eO.lt {w w1:World} {ob:Obj} (m:eO w w1 ob) {c:Nat} (hc:c<w.heap.size):w1.heap[c]?=w.heap[c]?:=by
 rcases m with rfl | rfl
 ·exact Below.heap_alloc _ _ _ hc
 ·exact Below.heap_alloc w.drew _ _ hc
theorem eO.cell {w w1:World} {ob:Obj} (m:eO w w1 ob) {c:Nat} (hc:c<w.heap.size) (o:Nat):w1.cell? ⟨c,o,none⟩=w.cell? ⟨c,o,none⟩:=by
 simp only[World.cell?,m.lt hc]
theorem eO.below {w w1:World} {ob:Obj} (m:eO w w1 ob) (hN:N0≤w.heap.size):Below N0 w w1:=by
 rcases m with rfl | rfl
 ·exact(Below.refl _ _).alloc hN _
 ·exact((Below.refl _ _).drew).alloc hN _
theorem pX (k:Ok (N0:=N0) w0 g e a.tmps h w) {c:Nat} (hne:∀ b x,bY h b=some x→x≠.dead→blk g b x≠c) {cs:List PV} {cpv:Nat}
  (hbx:∀ g':G,Ext N0 g w g' w→g'.ι (size h)=c→g'.hw=g.hw→g'.cp (size h)=cpv→iZ N0 g' w (size h) (.cells cs)) :
  ∃ g',Ext N0 g w g' w∧Ok (N0:=N0) w0 g' e a.tmps (ext h [.cells cs]) w∧g'.n=size h+1∧g'.ι (size h)=c∧g'.cp (size h)=cpv∧g'.hw=g.hw∧g'.tk=g.tk:=by
 let g':G:={ ι:=fun b=>if b=size h then c else g.ι b,n:=size h+1,hw:=g.hw,tk:=g.tk,cp:=fun b=>if b=size h then cpv else g.cp b }
 have Pm:g'.ι (size h)=c:=by show(if size h=size h then _ else _)=_;rw[if_pos rfl]
 have Pn:g'.cp (size h)=cpv:=by show(if size h=size h then _ else _)=_;rw[if_pos rfl]
 have Yx:∀ b,b≠size h→g'.ι b=g.ι b:=fun b hb=>by show(if b=size h then _ else _)=_;rw[if_neg hb]
 have Vg:∀ b,b≠size h→g'.cp b=g.cp b:=fun b hb=>by show(if b=size h then _ else _)=_;rw[if_neg hb]
 have hx:Ext N0 g w g' w:=⟨by show g.n≤size h+1;rw[k.n];omega,fun b hb=>Yx b (by rw[k.n]at hb;omega),fun c m hm=>⟨m,hm,Nat.le_refl _⟩,fun _ _ _ _ _=>rfl,fun _ _ _=>rfl,fun _ _=>⟨Nat.le_refl _,fun _=>rfl⟩,fun b hb=>Vg b (by rw[k.n]at hb;omega)⟩;have hblk:∀ b y,b≠size h→blk g' b y=blk g b y:=by
  intro b y hb;cases y<;>first | rfl | simp only[blk,Yx b hb]
 have hold:∀ b y,bY (ext h [.cells cs]) b=some y→b≠size h→bY h b=some y:=by
  intro b y hy hb;have hlt:=bw hy;rw[aW]at hlt;rw[dP (by simp at hlt;omega)]at hy;exact hy
 have Vh:=hbx g' hx Pm rfl Pn;refine⟨g',hx,?_,rfl,Pm,Pn,rfl,rfl⟩;refine { n:=by show size h+1=size (ext h [.cells cs]);rw[aW];rfl,hN:=k.hN,below:=k.below,inj:=?_,box:=?_,arr:=k.arr,env:=fun t v hv=>(k.env t v hv).mono hx }
 ·intro b d y z hy hz Ox R8 he
  by_cases h1:b=size h
  ·subst h1
   by_cases h2:d=size h
   ·exact h2.symm
   ·rw[cK rfl]at hy
    cases hy;have he':c=blk g d z:=by rw[←hblk d z h2,←he];exact Pm.symm
    exact(hne d z (hold d z hz h2) R8 he'.symm).elim
  ·by_cases h2:d=size h
   ·subst h2
    rw[cK rfl]at hz;cases hz;have he':blk g b y=c:=by rw[←hblk b y h1,he];exact Pm
    exact(hne b y (hold b y hy h1) Ox he').elim
   ·rw[hblk b y h1,hblk d z h2]at he
    exact k.inj b d y z (hold b y hy h1) (hold d z hz h2) Ox R8 he
 ·intro b y hy
  by_cases h1:b=size h
  ·subst h1
   rw[cK rfl]at hy;cases hy;exact Vh
  ·have hy':=hold b y hy h1
   exact(k.box b y hy').mono hx (by rw[k.n];exact bw hy') (Nat.le_refl _) (fun _=>rfl) (fun _=>rfl) rfl
theorem kV (k:Ok (N0:=N0) w0 g e a.tmps h w) {w1:World} {ob:Obj} (hw1:eO w w1 ob) (bx:gW) (Yy:Option Nat) (Yz:Tk) {cpv:Nat}
  (htk:∀ n T,bx=.tok n T→Yz.c=w.heap.size∧Yy.isSome=true)
  (hbx:∀ g':G,Ext N0 g w g' w1→g'.ι (size h)=w.heap.size→g'.hw w.heap.size=Yy→g'.tk (size h)=Yz→g'.cp (size h)=cpv→iZ N0 g' w1 (size h) bx) :
  ∃ g',Ext N0 g w g' w1∧Ok (N0:=N0) w0 g' e a.tmps (ext h [bx]) w1∧g'.n=size h+1∧g'.ι (size h)=w.heap.size∧g'.hw w.heap.size=Yy∧g'.tk (size h)=Yz∧g'.cp (size h)=cpv:=by
 have hN:=(iE k)
 let g':G:={ ι:=fun b=>if b=size h then w.heap.size else g.ι b,n:=size h+1,hw:=fun c=>if c=w.heap.size then Yy else g.hw c,tk:=fun b=>if b=size h then Yz else g.tk b,cp:=fun b=>if b=size h then cpv else g.cp b }
 have Pm:g'.ι (size h)=w.heap.size:=by show(if size h=size h then _ else _)=_;rw[if_pos rfl]
 have YA:g'.hw w.heap.size=Yy:=by show(if _=_ then _ else _)=_;rw[if_pos rfl]
 have Vi:g'.tk (size h)=Yz:=by show(if size h=size h then _ else _)=_;rw[if_pos rfl]
 have Pn:g'.cp (size h)=cpv:=by show(if size h=size h then _ else _)=_;rw[if_pos rfl]
 have Vg:∀ b,b≠size h→g'.cp b=g.cp b:=fun b hb=>by show(if b=size h then _ else _)=_;rw[if_neg hb]
 have Yx:∀ b,b≠size h→g'.ι b=g.ι b:=fun b hb=>by show(if b=size h then _ else _)=_;rw[if_neg hb]
 have Vj:∀ b,b≠size h→g'.tk b=g.tk b:=fun b hb=>by show(if b=size h then _ else _)=_;rw[if_neg hb]
 have I7:∀ c,c≠w.heap.size→g'.hw c=g.hw c:=fun c hc=>by show(if c=w.heap.size then _ else _)=_;rw[if_neg hc]
 have hx:Ext N0 g w g' w1:=by
  refine⟨by show g.n≤size h+1;rw[k.n];omega,fun b hb=>Yx b (by rw[k.n]at hb;omega),fun c m hm=>⟨m,?_,Nat.le_refl _⟩,fun c m o hm ho=>hw1.cell (k.arr c m hm).2 o,fun c o hc=>hw1.cell (by omega) o,fun t ht=>?_,fun b hb=>Vg b (by rw[k.n]at hb;omega)⟩
  ·rw[I7 c (by have:=(k.arr c m hm).2;omega)];exact hm
  ·rw[Vj t (by rw[k.n]at ht;omega)];exact⟨Nat.le_refl _,fun _=>rfl⟩
 have hblk:∀ b y,b≠size h→blk g' b y=blk g b y:=by
  intro b y hb;cases y<;>simp only[blk,Yx b hb,Vj b hb]
 have hnew:blk g' (size h) bx=w.heap.size:=by
  cases bx with
  | tok n T=>simp only[blk,Vi];exact(htk n T rfl).1
  | cells cs=>exact Pm
  | iter s p=>exact Pm
  | map es=>exact Pm
  | dead=>exact Pm
 refine⟨g',hx,?_,rfl,Pm,YA,Vi,Pn⟩;have Vh:=hbx g' hx Pm YA Vi Pn;have hold:∀ b y,bY (ext h [bx]) b=some y→b≠size h→bY h b=some y:=by
  intro b y hy hb;have hlt:=bw hy;rw[aW]at hlt;rw[dP (by simp at hlt;omega)]at hy;exact hy
 refine { n:=by show size h+1=size (ext h [bx]);rw[aW];rfl,hN:=k.hN,below:=k.below.trans (hw1.below hN),inj:=?_,box:=?_,arr:=?_,env:=?_ }
 ·intro b c y z hy hz Ox R8 he
  by_cases h1:b=size h
  ·subst h1
   rw[cK rfl]at hy;cases hy
   by_cases h2:c=size h
   ·rw[h2]
   ·have hz':=hold c z hz h2
    rw[hnew,hblk c z h2]at he;have:=(lF k hz').2;omega
  ·have hy':=hold b y hy h1
   by_cases h2:c=size h
   ·subst h2
    rw[cK rfl]at hz;cases hz;rw[hnew,hblk b y h1]at he;have:=(lF k hy').2;omega
   ·have hz':=hold c z hz h2
    rw[hblk b y h1,hblk c z h2]at he;exact k.inj b c y z hy' hz' Ox R8 he
 ·intro b y hy
  by_cases h1:b=size h
  ·subst h1
   rw[cK rfl]at hy;cases hy;exact Vh
  ·have hy':=hold b y hy h1
   have hlt:=(lF k hy').2;exact(k.box b y hy').mono hx (by rw[k.n];exact bw hy') (by rw[hw1.size];omega) (fun _=>hw1.lt hlt) (fun _=>I7 _ (by omega)) (Vj b h1)
 ·intro c m hm
  by_cases hc:c=w.heap.size
  ·subst hc;exact⟨hN,by rw[hw1.size];omega⟩
  ·rw[I7 c hc]at hm
   have:=k.arr c m hm;exact⟨this.1,by rw[hw1.size];omega⟩
 ·intro t v hv
  exact(k.env t v hv).mono hx
theorem jP (k:Ok (N0:=N0) w0 g e a.tmps h w) (us:Array Value) (T:TypeId) (cs:List PV) (hl:cs.length≤us.size)
  (hr:∀ (j:Nat) (x:PV),cs[j]?=some x→RV N0 g w x (us.getD j Go.undef)) (hbn:∀ T',cs[0]?=some (.eG T')→T'=T∧us.size=cs.length) {w1:World} {lo hi:Nat} (hfr:lo≠hi→us.size≤lo) (hw1:eO w w1 (.cells us T (lo,hi))) :
  ∃ g',Ext N0 g w g' w1∧Ok (N0:=N0) w0 g' e a.tmps (ext h [.cells cs]) w1∧g'.n=size h+1∧g'.ι (size h)=w.heap.size∧g'.cp (size h)=us.size:=by
 obtain⟨g',h1,h2,h3,h4,_,_,h5⟩:=kV k hw1 (.cells cs) none default (cpv:=us.size) (fun n T hn=>by cases hn) (fun g' hx hι hhw htk hcp=>by
  refine⟨by rw[hι];exact iE k,by rw[hι];exact hhw,us,T,lo,hi,by rw[hι];exact hw1.at,hfr,⟨by rw[hcp];exact hl,by rw[hcp];exact Nat.le_refl _⟩,hbn,fun j x hx'=>(hr j x hx').mono hx⟩)
 exact⟨g',h1,h2,h3,h4,h5⟩
theorem zy (k:Ok (N0:=N0) w0 g e a.tmps h w) (us:Array Value) (T:TypeId) (m:Nat) (w1:World) {lo hi:Nat} (hw1:w1=w.alloc (.cells us T (lo,hi))∨w1=w.drew.alloc (.cells us T (lo,hi))) :
  ∃ g',Ext N0 g w g' w1∧Ok (N0:=N0) w0 g' e a.tmps h w1∧g'.hw w.heap.size=some m:=by
 have hN:=(iE k);have hm:eO w w1 (.cells us T (lo,hi)):=hw1
 let g':G:={ ι:=g.ι,n:=g.n,hw:=fun c=>if c=w.heap.size then some m else g.hw c,tk:=g.tk,cp:=g.cp }
 have I7:∀ c,c≠w.heap.size→g'.hw c=g.hw c:=fun c hc=>by show(if c=w.heap.size then _ else _)=_;rw[if_neg hc]
 have hx:Ext N0 g w g' w1:=by
  refine⟨Nat.le_refl _,fun b hb=>rfl,fun c m' hm'=>⟨m',?_,Nat.le_refl _⟩,fun c m' o hm' ho=>hm.cell (k.arr c m' hm').2 o,fun c o hc=>hm.cell (by omega) o,fun t ht=>⟨Nat.le_refl _,fun _=>rfl⟩,fun _ _=>rfl⟩;rw[I7 c (by have:=(k.arr c m' hm').2;omega)];exact hm'
 refine⟨g',hx,k.world hx rfl (hm.below hN) (fun b bx hb _=>?_) (fun b hb=>rfl) ?_,by show(if _=_ then _ else _)=_;rw[if_pos rfl]⟩
 ·have:=(lF k hb).2
  exact⟨hm.lt this,I7 _ (by omega)⟩
 ·intro c m' hm'
  by_cases hc:c=w.heap.size
  ·subst hc;exact⟨hN,by rw[hm.size];omega⟩
  ·rw[I7 c hc]at hm'
   have:=k.arr c m' hm';exact⟨this.1,by rw[hm.size];omega⟩
theorem gS (k:Ok (N0:=N0) w0 g e a.tmps h w) {b:Nat} {x y:gW} (hb:bY h b=some x) {g':G} {w':World} (hx:Ext N0 g w g' w') (hn:g'.n=g.n) (hbl:Below N0 w w')
  (hblk:blk g' b y=blk g b x∨w.heap.size≤blk g' b y) (zA:∀ c,c<w.heap.size→c≠blk g b x→w'.heap[c]?=w.heap[c]?∧g'.hw c=g.hw c) (htk:∀ t,t≠b→g'.tk t=g.tk t) (hy:iZ N0 g' w' b y)
  (Vf:∀ c m,g'.hw c=some m→N0≤c∧c<w'.heap.size) (hxd:x≠.dead:=by simp):Ok (N0:=N0) w0 g' e a.tmps (aC h b y) w':=by
 have hlt:b<size h:=bw hb;have hbo:∀ c z,c≠b→c<g.n→blk g' c z=blk g c z:=by
  intro c z hc Vk;cases z<;>simp only[blk,hx.ι c Vk,htk c hc]
 have hget:∀ c z,bY (aC h b y) c=some z→c≠b→bY h c=some z:=by
  intro c z hz hc;rwa [cN (fun hq=>hc hq.symm)]at hz
 have hne:∀ c z,bY h c=some z→c≠b→z≠.dead→blk g' c z≠blk g' b y:=by
  intro c z hz hc hzd hq;have Vk:c<g.n:=by rw[k.n];exact bw hz
  rw[hbo c z hc Vk]at hq;rcases hblk with hblk | hblk
  ·rw[hblk]at hq;exact hc (k.inj c b z x hz hb hzd hxd hq)
  ·have:=(lF k hz).2;omega
 refine { n:=by rw[aJ,hn];exact k.n,hN:=k.hN,below:=k.below.trans hbl,inj:=?_,box:=?_,arr:=Vf,env:=fun t v hv=>(k.env t v hv).mono hx }
 ·intro c d z1 z2 hz1 Uu hd1 hd2 he
  by_cases h1:c=b
  ·by_cases h2:d=b
   ·rw[h1,h2]
   ·subst h1
    rw[cM hlt]at hz1;cases hz1;exact(hne d z2 (hget d z2 Uu h2) h2 hd2 he.symm).elim
  ·by_cases h2:d=b
   ·subst h2
    rw[cM hlt]at Uu;cases Uu;exact(hne c z1 (hget c z1 hz1 h1) h1 hd1 he).elim
   ·have q1:=hget c z1 hz1 h1
    have q2:=hget d z2 Uu h2;rw[hbo c z1 h1 (by rw[k.n];exact bw q1),hbo d z2 h2 (by rw[k.n];exact bw q2)]at he;exact k.inj c d z1 z2 q1 q2 hd1 hd2 he
 ·intro c z hz
  by_cases h1:c=b
  ·subst h1
   rw[cM hlt]at hz;cases hz;exact hy
  ·have q:=hget c z hz h1
   have Vk:c<g.n:=by rw[k.n];exact bw q
   have hc2:z≠.dead→blk g c z≠blk g b x:=fun hzd hq=>h1 (k.inj c b z x q hb hzd hxd hq)
   exact(k.box c z q).mono hx Vk hbl.size (fun hzd=>(zA _ (lF k q).2 (hc2 hzd)).1) (fun hzd=>(zA _ (lF k q).2 (hc2 hzd)).2) (htk c h1)
theorem Pp (k:Ok (N0:=N0) w0 g e a.tmps h w) {b:Nat} {cs:List PV} (hb:ay h b=some cs) {off:Nat} (ho:off<cs.length) {v:PV} {u:Value} (hv:RV N0 g w v u) (hnb:∀ T,v≠.eG T) :
  ∃ x,w.cell? ⟨g.ι b,off,none⟩=some x∧w.frozen? ⟨g.ι b,off,none⟩=false ∧
   Ext N0 g w g (w.setCell ⟨g.ι b,off,none⟩ u)∧Ok (N0:=N0) w0 g e a.tmps (cx h b (cs.set off v)) (w.setCell ⟨g.ι b,off,none⟩ u):=by
 obtain⟨q1,q2,arr,T,lo,hi,q3,q6,⟨q4,q9⟩,q8,q5⟩:=k.cells hb;have hoff:off<arr.size:=by omega
 have hheap:∀ c,c≠g.ι b→(w.setCell ⟨g.ι b,off,none⟩ u).heap[c]?=w.heap[c]?:=fun c hc=>Below.heap_setCell _ _ _ _ hc
 have zA:∀ c o,c≠g.ι b→(w.setCell ⟨g.ι b,off,none⟩ u).cell? ⟨c,o,none⟩=w.cell? ⟨c,o,none⟩:=fun c o hc=>by simp only[World.cell?,hheap c hc]
 have hx:Ext N0 g w g (w.setCell ⟨g.ι b,off,none⟩ u):=by
  refine⟨Nat.le_refl _,fun _ _=>rfl,fun c m hm=>⟨m,hm,Nat.le_refl _⟩,fun c m o hm _=>zA c o ?_,fun c o hc=>zA c o (by omega),fun t ht=>⟨Nat.le_refl _,fun _=>rfl⟩,fun _ _=>rfl⟩;intro hc;rw[hc,q2]at hm;cases hm
 have hset:(w.setCell ⟨g.ι b,off,none⟩ u).heap[g.ι b]?=some (.cells (arr.setIfInBounds off u) T (lo,hi)):=by
  simp only[World.setCell,Array.getElem?_modify,if_true,q3,Option.map_some,Option.isSome_none,Bool.false_eq_true,if_false]
 refine⟨arr[off],?_,?_,hx,?_⟩
 ·simp[World.cell?,q3,hoff]
 ·simp only[World.frozen?,q3,Bool.and_eq_false_iff,decide_eq_false_iff_not]
  by_cases hlh:lo<hi
  ·have:=q6 (Nat.ne_of_lt hlh);left;omega
  ·by_cases h1:lo≤off
   ·right;omega
   ·left;exact h1
 refine gS k (bq hb) hx rfl ((Below.refl N0 w).setCell q1 _) (.inl rfl) (fun c _ hc=>⟨hheap c hc,rfl⟩) (fun _ _=>rfl) ?_ (fun c m hm=>?_)
 ·refine⟨q1,q2,arr.setIfInBounds off u,T,lo,hi,hset,by simpa using q6,by simpa using ⟨q4,q9⟩,fun T' hT=>?_,fun j x hj=>?_⟩
  ·by_cases h0:off=0
   ·subst h0
    rw[List.getElem?_set_self ho]at hT;simp only[Option.some.injEq]at hT;exact(hnb T' hT).elim
   ·rw[List.getElem?_set_ne h0]at hT
    simpa using q8 T' hT
  by_cases hjo:off=j
  ·subst hjo
   rw[List.getElem?_set_self ho]at hj;simp only[Option.some.injEq]at hj;subst hj;simpa[Array.getD_eq_getD_getElem?,hoff] using hv.mono hx
  ·rw[List.getElem?_set_ne hjo]at hj
   simpa[Array.getD_eq_getD_getElem?,Array.getElem?_setIfInBounds,hjo] using (q5 j x hj).mono hx
 ·have:=k.arr c m hm
  exact⟨this.1,by simp;exact this.2⟩
end
end Go.Am
namespace Go.Am
open Go.RowKit (Below)
section
variable {N0:Nat} {P:Program} {w0:World} {g:G} {e:Env} {a:Act} {h:Hp} {w:World}
theorem lG {t:TypeId} {b:Bool} (hb:mP P t=some b) (w:World):(isAgg t).run P w=.ok b w:=by
 unfold mP at hb;cases hu:P.underlying t with
 | none=>simp[hu]at hb
 | some d =>
  simp only[hu]at hb;unfold isAgg;simp only[Sem.run_bind,run_underlying hu,Result.andThen];cases d<;>simp_all
theorem cZ {t:TypeId} {n:Nat} (hn:sizeOf P t=some n) (w:World):(Go.sizeOf t).run P w=.ok n w:=by
 simp only[sizeOf,Option.map_eq_some_iff]at hn;obtain⟨i,hi,rfl⟩:=hn;simp[Go.sizeOf,typeInfo,hi]
theorem dN (c o j:Nat):(⟨c,o,none⟩ : Addr).add j=⟨c,o+j,none⟩:=by
 unfold Addr.add;split
 ·rename_i hj;subst hj;rfl
 ·rfl
theorem si (k:Ok (N0:=N0) w0 g e a.tmps h w) {b:Nat} {cs:List PV} (hb:ay h b=some cs):∃ u:Nat→Value,
  (∀ j,j<cs.length→w.cell? ⟨g.ι b,j,none⟩=some (u j))∧(∀ (j:Nat) (x:PV),cs[j]?=some x→RV N0 g w x (u j)):=by
 obtain⟨q1,q2,arr,T,lo,hi,q3,q6,q4,q8,q5⟩:=k.cells hb;refine⟨fun j=>arr.getD j Go.undef,fun j hj=>?_,q5⟩;have:j<arr.size:=by omega
 simp[World.cell?,q3,Array.getD_eq_getD_getElem?,this]
theorem Pq {t:TypeId} {n:Nat} {gg:Bool} (hn:sizeOf P t=some n) (hg:mP P t=some gg) {c o:Nat} {cs:List PV} {off:Nat} {u:Nat→Value}
  (hc:∀ j,j<cs.length→w.cell? ⟨c,o+j,none⟩=some (u j)) (hr:∀ (j:Nat) (x:PV),cs[j]?=some x→RV N0 g w x (u j)) {r:PV}
  (hp:part cs off (if gg then n else 1) gg=some r):∃ v,(loadVar t ⟨c,o+off,none⟩).run P w=.ok v w∧RV N0 g w r v:=by
 unfold loadVar;simp only[Sem.run_bind,lG hg,Result.andThen];cases gg with
 | true =>
  simp only[if_true,part]at hp ⊢;split at hp
  ·rename_i hle
   simp only[Option.some.injEq]at hp;subst hp;have hl:=run_loadCells (P:=P) w ⟨c,o+off,none⟩ n (fun j=>u (off+j)) (fun j hj=>by
    rw[dN,show o+off+j=o+(off+j) by omega];exact hc _ (by omega))
   simp only[Sem.run_bind,cZ hn,Result.andThen,hl];refine⟨.agg ((List.range n).map fun j=>u (off+j)).toArray,by simp,.agg _ _ (by simp;omega) fun j x hx=>?_⟩;have hy:=hx;have hj:j<n:=by
    rcases Nat.lt_or_ge j n with h' | h'
    ·exact h'
    ·rw[List.getElem?_eq_none (by simp;omega)]at hy;cases hy
   rw[List.getElem?_take,if_pos hj,List.getElem?_drop]at hy;have:=hr _ _ hy;simpa[Array.getD_eq_getD_getElem?,hj] using this
  ·cases hp
 | false =>
  simp only[Bool.false_eq_true,if_false,part]at hp ⊢;have hy:=hp;have hlt:off<cs.length:=by
   rcases Nat.lt_or_ge off cs.length with h' | h'
   ·exact h'
   ·rw[List.getElem?_eq_none h']at hy;cases hy
  exact⟨u off,by simp[run_load,hc off hlt],hr _ _ hy⟩
theorem tG {t:TypeId} {n m:Nat} {gg:Bool} (hn:sizeOf P t=some n) (hg:mP P t=some gg) {c o:Nat} {cs:List PV} {off:Nat} {u:Nat→Value}
  (hc:∀ j,j<cs.length→w.cell? ⟨c,o+j,none⟩=some (u j)) (hr:∀ (j:Nat) (x:PV),cs[j]?=some x→RV N0 g w x (u j)) {r:PV} (hm:gg=true→m=n)
  (hp:part cs off m gg=some r):∃ v,(loadVar t ⟨c,o+off,none⟩).run P w=.ok v w∧RV N0 g w r v:=by
 refine Pq hn hg hc hr ?_;cases gg with
 | true=>rw[hm rfl]at hp;simpa using hp
 | false=>simpa[part] using hp
theorem tH {b:Nat} {off:Nat}:∀ (us:List Value) (xs:List PV) (i:Nat) (h:Hp) (w:World) (cs:List PV),Ok (N0:=N0) w0 g e a.tmps h w→ay h b=some cs →
  us.length=xs.length→off+i+xs.length≤cs.length→xs.all scalar=true→(∀ (j:Nat) (x:PV),xs[j]?=some x→RV N0 g w x (us.getD j Go.undef)) →
  ∃ w',(storeCells ⟨g.ι b,off,none⟩ us i).run P w=.ok () w'∧Ext N0 g w g w'∧Ok (N0:=N0) w0 g e a.tmps (cx h b (bE cs (off+i) xs)) w'
 | [],xs,i,h,w,cs,k,hb,hl,_,_,_=>by
  have:xs=[]:=by cases xs;rfl;simp at hl
  subst this;refine⟨w,by simp[storeCells],Ext.refl _ _ _,?_⟩;simpa[bE,Ek hb] using k
 | u::us,[],i,h,w,cs,k,hb,hl,_,_,_=>by simp at hl
 | u::us,x::xs,i,h,w,cs,k,hb,hl,hle,hsc,hr=>by
  simp only[List.length_cons]at hl hle;have hx:=hr 0 x rfl;simp only[List.getD_cons_zero]at hx;obtain⟨old,ho,hfz,hext,hok⟩:=Pp k hb (off:=off+i) (by omega) hx (fun T hq=>by subst hq;simp[scalar]at hsc);simp only[List.all_cons,Bool.and_eq_true]at hsc;obtain⟨w',hrun,YB,YC⟩:=tH (b:=b) (off:=off) us xs (i+1) _ _ (cs.set (off+i) x) hok (Bw hb) (by omega) (by rw[List.length_set];omega) hsc.2
   (fun j y hy=>(hr (j+1) y (by simpa using hy)).mono hext)
  refine⟨w',?_,hext.trans YB,?_⟩
  ·have hst:∀ (v:Value),(∀ c,v≠.agg c)→(∀ c,v≠.tuple c)→v=u→(store (⟨g.ι b,off+i,none⟩ : Addr) v).run P w=.ok () (w.setCell ⟨g.ι b,off+i,none⟩ v):=by
    intro v h1 h2 hv;cases v with
    | agg c=>exact(h1 c rfl).elim
    | tuple c=>exact(h2 c rfl).elim
    | _=>simp[store,Sem.run,ho,hfz]
   have hna:(∀ c,u≠.agg c)∧(∀ c,u≠.tuple c):=by
    cases hx<;>simp_all [scalar]
   simp only[storeCells,dN,Sem.run_bind,hst u hna.1 hna.2 rfl,Result.andThen];exact hrun
  ·rw[Bx]at YC
   simpa[bE,Nat.add_assoc] using YC
section ops
variable {o:Oper} {md:Nat} {orc:iG} {base:Nat} {draw:Bool} {aop:iP} {v:PV} {e':Env} {h':Hp} {gl:cR} (hgl:dR gl N0 w0)
include hgl
theorem Uv (k:Ok (N0:=N0) w0 g e a.tmps h w) {x:Operand} (ho:o.op=.move x∨o.op=.assign x) (hc:jO P gl md o=some aop)
  (hs:step orc base draw aop e h=some (v,e',h')):cm N0 P w0 g a w (execOp a.eval o) v e' h':=by
 have hc':(aU gl x).map .Uk=some aop:=by rcases ho with ho | ho<;>simpa[jO,ho] using hc
 simp only[Option.map_eq_some_iff]at hc';obtain⟨x',hx,rfl⟩:=hc';simp only[step,Option.aa,Option.some.injEq,Prod.mk.injEq]at hs;obtain⟨y,hy,rfl,rfl,rfl⟩:=hs;refine aI k ?_ ((bT hgl k hx hy));rcases ho with ho | ho<;>simp[execOp,ho]
omit hgl in
theorem kI {v:Bool} {u:Value} (hv:RV N0 g w (.bool v) u):u=.bool v:=by cases hv;rfl
omit hgl in
theorem Vl {j:IntKind} {v:Int} {u:Value} (hv:RV N0 g w (.int j v) u):u=.int j v:=by cases hv;rfl
theorem Vm (k:Ok (N0:=N0) w0 g e a.tmps h w) {c x y:Operand} (ho:o.op=.pick c x y) (hc:jO P gl md o=some aop)
  (hs:step orc base draw aop e h=some (v,e',h')):cm N0 P w0 g a w (execOp a.eval o) v e' h':=by
 simp only[jO,ho,Option.bind_eq_some_iff,Option.map_eq_some_iff]at hc;obtain⟨c',hc,x',hx,y',hy,rfl⟩:=hc;simp only[step,Option.aa]at hs;obtain⟨z,hz,hs⟩:=hs;rw[fS]at hs;rcases hs with⟨rfl,hs⟩ | ⟨rfl,hs⟩
 ·simp only[Option.aa,Option.some.injEq,Prod.mk.injEq]at hs
  obtain⟨r,hr,rfl,rfl,rfl⟩:=hs;refine aI k ?_ ((bT hgl k hx hr));simp[execOp,ho,kI (bT hgl k hc hz),asBool]
 ·simp only[Option.aa,Option.some.injEq,Prod.mk.injEq]at hs
  obtain⟨r,hr,rfl,rfl,rfl⟩:=hs;refine aI k ?_ ((bT hgl k hy hr));simp[execOp,ho,kI (bT hgl k hc hz),asBool]
omit hgl in
theorem I8 (v:Value) (h:ofValue v=some .undef):False:=by
 unfold ofValue at h;split at h<;>simp_all
omit hgl in
theorem kJ {t:TypeId} {z:List PV} (hz:zeroOf P t=some z):∃ i u,P.info? t=some i∧i.zero=some u∧u.cells.size=z.length∧∀ (g:G) (w:World) (j:Nat) (x:PV),z[j]?=some x→RV N0 g w x (u.cells.getD j Go.undef):=by
 unfold zeroOf at hz;simp only[Option.bind_eq_some_iff,Option.map_eq_some_iff]at hz;obtain⟨u,⟨i,hi,hu⟩,x,hx,rfl⟩:=hz;refine⟨i,u,hi,hu,?_⟩;have hne:x≠.undef:=by rintro rfl;exact I8 u hx
 refine⟨(lE (oQ (N0:=N0) (g:={ ι:=id,n:=0,hw:=fun _=>none }) (w:=default) u x hx) hne).1,fun g w=>(lE (oQ u x hx) hne).2⟩
omit hgl in
theorem K1 {t:TypeId} {z:List PV} (hz:zeroOf P t=some z) (j T:Nat):z[j]?≠some (.eG T):=by
 unfold zeroOf at hz;simp only[Option.bind_eq_some_iff,Option.map_eq_some_iff]at hz;obtain⟨u,_,x,hx,rfl⟩:=hz;exact I6 hx j T
omit hgl in
theorem oU {t:TypeId} {i:TypeInfo} {u:Value} (hi:P.info? t=some i) (hu:i.zero=some u) (w:World):(zeroValue t).run P w=.ok u w:=by
 simp[zeroValue,typeInfo,hi,hu]
theorem SJ (k:Ok (N0:=N0) w0 g e a.tmps h w) {t:TypeId} (ho:o.op=.alloc t) (hc:jO P gl md o=some aop)
  (hs:step orc base draw aop e h=some (v,e',h')):cm N0 P w0 g a w (execOp a.eval o) v e' h':=by
 simp only[jO,ho,Option.map_eq_some_iff]at hc;obtain⟨z,hz,rfl⟩:=hc;simp only[step,Option.some.injEq,Prod.mk.injEq]at hs;obtain⟨rfl,rfl,rfl⟩:=hs;obtain⟨i,u,hi,hu,hsz,hrv⟩:=kJ (N0:=N0) hz;have hnb:=K1 hz;have hbz:(if BT P t=true then IX t z else z).length=z.length∧(∀ (j:Nat) (x:PV),(if BT P t=true then IX t z else z)[j]?=some x→RV N0 g w x (u.cells.getD j Go.undef)) ∧
   ∀ T',(if BT P t=true then IX t z else z)[0]?=some (.eG T')→T'=t∧u.cells.size=(if BT P t=true then IX t z else z).length:=by
  have old:z.length=z.length∧(∀ (j:Nat) (x:PV),z[j]?=some x→RV N0 g w x (u.cells.getD j Go.undef))∧∀ T',z[0]?=some (.eG T')→T'=t∧u.cells.size=z.length :=
   ⟨rfl,hrv g w,fun T' hT=>(hnb 0 T' hT).elim⟩
  split
  ·unfold IX
   split
   ·refine⟨rfl,fun j x hx=>?_,fun T' hT=>?_⟩
    ·have h0:=hrv g w
     match j,hx with
     | 0,hx =>
      have:=h0 0 .bp rfl;simp only[List.getElem?_cons_zero,Option.some.injEq]at hx;subst hx;generalize u.cells.getD 0 Go.undef=U at this ⊢;cases this;exact .eG _
     | j+1,hx=>exact h0 (j+1) x (by simpa using hx)
    ·simp at hT
     exact⟨hT.symm,hsz⟩
   ·exact old
  ·exact old
 generalize (if BT P t=true then IX t z else z)=zz at *;obtain⟨g',hx,hok,hn,hι,hcp⟩:=jP k u.cells t zz (by omega) hbz.2.1 hbz.2.2 (lo:=0) (hi:=0) (by simp) (.inl rfl);refine⟨_,.pointer (some ⟨w.heap.size,0,none⟩),_,g',?_,.inl rfl,hx,hok,?_⟩
 ·simp[execOp,ho,Instr.alloc,oU hi hu,newVar,newRow]
 ·rw[←hι];exact .ptr _ _ (by omega)
theorem YD (k:Ok (N0:=N0) w0 g e a.tmps h w) {t:TypeId} {x:Operand} (ho:o.op=.box t x) (hc:jO P gl md o=some aop)
  (hs:step orc base draw aop e h=some (v,e',h')):cm N0 P w0 g a w (execOp a.eval o) v e' h':=by
 simp only[jO,ho,Option.bind_eq_some_iff,Option.map_eq_some_iff]at hc;obtain⟨n,hn,x',hx,rfl⟩:=hc;simp only[step,Option.aa]at hs;obtain⟨y,hy,hs⟩:=hs;split at hs
 ·rename_i hlen
  obtain⟨hlen,hscal⟩:=hlen;simp only[Option.some.injEq,Prod.mk.injEq]at hs;obtain⟨rfl,rfl,rfl⟩:=hs;have hr:=bT hgl k hx hy;have hcells:y.cells.length≤(a.eval x).cells.size∧∀ (j:Nat) (z:PV),y.cells[j]?=some z→RV N0 g w z ((a.eval x).cells.getD j Go.undef):=by
   have hu:y≠.undef:=by rintro rfl;simp[PV.cells,scalar]at hscal
   obtain⟨h1,h2⟩:=lE hr hu;exact⟨by omega,h2⟩
  obtain⟨g',hx',hok,hn',hι,hcp⟩:=jP k (a.eval x).cells t _ hcells.1 hcells.2 (fun T' hT=>(mR hscal 0 T' hT).elim) (lo:=0) (hi:=0) (by simp) (.inl rfl);refine⟨_,.pointer (some ⟨w.heap.size,0,none⟩),_,g',?_,.inl rfl,hx',hok,?_⟩
  ·simp[execOp,ho,Instr.box,newVar,newRow]
  ·rw[←hι];exact .ptr _ _ (by omega)
 ·cases hs
end ops
end
end Go.Am
namespace Go.Am
open Go.RowKit (Below)
section
variable {N0:Nat} {P:Program} {w0:World} {g:G} {e:Env} {a:Act} {h:Hp} {w:World}
variable {o:Oper} {md:Nat} {orc:iG} {base:Nat} {draw:Bool} {aop:iP} {v:PV} {e':Env} {h':Hp} {gl:cR} (hgl:dR gl N0 w0)
theorem aaP (v:PV):scalar (strip v)=scalar v:=by cases v<;>rfl
theorem qB:∀ (cs:List PV),(aO cs).all scalar=cs.all scalar
 | []=>rfl
 | c::cs=>by simp only[aO,List.all_cons,aaP,qB cs]
include hgl
theorem Vn (k:Ok (N0:=N0) w0 g e a.tmps h w) {t:TypeId} {x:Operand} (ho:o.op=.load t x) (hc:jO P gl md o=some aop)
  (hs:step orc base draw aop e h=some (v,e',h')):cm N0 P w0 g a w (execOp a.eval o) v e' h':=by
 simp only[jO,ho,Option.bind_eq_some_iff]at hc;obtain⟨n,hn,gg,hg,x',hx,hc⟩:=hc;obtain⟨m,hm,rfl⟩ : ∃ m,(gg=true→m=n)∧aop=.load m gg x':=by
  cases gg with
  | true=>simp only[if_true,Option.some.injEq]at hc;exact⟨n,fun _=>rfl,hc.symm⟩
  | false=>simp only[Bool.false_eq_true,if_false,Option.some.injEq]at hc;exact⟨1,fun hq=>(Bool.false_ne_true hq).elim,hc.symm⟩
 simp only[step,Option.aa]at hs;obtain⟨y,hy,hs⟩:=hs;have hr:=bT hgl k hx hy;generalize hA0:a.eval x=A0 at hr;have fin:∀ (A:Addr) (r:PV),A0=.pointer (some A)→(∃ v,(loadVar t A).run P w=.ok v w∧RV N0 g w r v)→cm N0 P w0 g a w (execOp a.eval o) r e h:=by
  rintro A r hA ⟨u,h1,h2⟩;refine aI k ?_ h2;rw[←hA0]at hA;simp[execOp,ho,Instr.loadAt,Instr.sureAddr,hA,h1]
 cases hr<;>simp only at hs
 case ptr b off hb =>
  simp only[Option.aa,Option.some.injEq,Prod.mk.injEq]at hs;obtain⟨cs,hcs,r,hp,rfl,rfl,rfl⟩:=hs;obtain⟨u,h1,h2⟩:=si k hcs;refine fin _ _ rfl ?_;have:=tG (o:=0) hn hg (c:=g.ι b) (off:=off) (cs:=cs) (u:=u) (fun j hj=>by rw[Nat.zero_add];exact h1 j hj) h2 hm hp;rwa [Nat.zero_add]at this
 case ep cs off c o' u h1 h2 h3 =>
  simp only[Option.aa,Option.some.injEq,Prod.mk.injEq]at hs;obtain⟨r,hp,rfl,rfl,rfl⟩:=hs;exact fin _ _ rfl (tG hn hg h1 h2 hm hp)
 all_goals simp at hs
theorem SK (k:Ok (N0:=N0) w0 g e a.tmps h w) {t:TypeId} {x y:Operand} (ho:o.op=.store t x y) (hc:jO P gl md o=some aop)
  (hs:step orc base draw aop e h=some (v,e',h')):cm N0 P w0 g a w (execOp a.eval o) v e' h':=by
 simp only[jO,ho,Option.bind_eq_some_iff,Option.map_eq_some_iff]at hc;obtain⟨n,hn,x',hx,y',hy,rfl⟩:=hc;simp only[step,Option.aa]at hs;obtain⟨p,hp,q,hq,hs⟩:=hs;have hr:=bT hgl k hx hp;have hv:=bT hgl k hy hq;generalize hA:a.eval x=A at hr;cases hr<;>simp only at hs
 case ptr b off hb =>
  simp only[Option.aa]at hs;obtain⟨cs,hcs,hs⟩:=hs;split at hs
  ·rename_i hcond
   obtain⟨hlen,hle,hscal,_⟩:=hcond;simp only[Option.some.injEq,Prod.mk.injEq]at hs;obtain⟨rfl,rfl,rfl⟩:=hs;have hne:q≠.undef:=by rintro rfl;simp[PV.cells,scalar]at hscal
   obtain⟨h1,h2⟩:=lE hv hne;have h3:∀ (c:Prop) [Decidable c],(if c then aO q.cells else q.cells).length=q.cells.length∧(if c then aO q.cells else q.cells).all scalar=true ∧
     ∀ (j:Nat) (z:PV),(if c then aO q.cells else q.cells)[j]?=some z→RV N0 g w z ((a.eval y).cells.getD j Go.undef):=by
    intro c _;split
    ·exact⟨aan _,by rw[qB];exact hscal,pW (R:=fun x j=>RV N0 g w x ((a.eval y).cells.getD j Go.undef)) (fun j x hx=>iz (h2 j x hx))⟩
    ·exact⟨rfl,hscal,h2⟩
   obtain⟨l1,l2,l3⟩:=h3 (b<base);obtain⟨w',hrun,hext,hok⟩:=tH (P:=P) (b:=b) (off:=off) (a.eval y).cells.toList _ 0 h w cs k hcs (by rw[l1];simpa using h1) (by rw[l1];omega) l2
    (fun j z hz=>by have:=l3 j z hz;simpa[Array.getD_eq_getD_getElem?,List.getD_eq_getElem?_getD] using this)
   refine⟨.skip,Go.undef,w',g,?_,.inr ⟨rfl,rfl⟩,hext,by simpa using hok,.undef _ (by intro b;simp[Go.undef])⟩;have hsz:¬ ((a.eval y).cells.size≠n):=by omega
   simp only[execOp,ho,Instr.storeAt,Instr.sureAddr,hA,Sem.run_bind,Sem.run_pure,Result.andThen,storeVar,cZ hn,ne_eq,h1,hlen,not_true_eq_false,if_false,hrun]
  ·cases hs
 all_goals simp at hs
theorem SL (k:Ok (N0:=N0) w0 g e a.tmps h w) {x:Operand} (ho:o.op=.nilCheck x) (hc:jO P gl md o=some aop)
  (hs:step orc base draw aop e h=some (v,e',h')):cm N0 P w0 g a w (execOp a.eval o) v e' h':=by
 simp only[jO,ho,Option.map_eq_some_iff]at hc;obtain⟨x',hx,rfl⟩:=hc;simp only[step,Option.aa]at hs;obtain⟨p,hp,hs⟩:=hs;have hr:=bT hgl k hx hp;have hs':isNil p=some false∧v=p∧e=e'∧h=h':=by
  split at hs
  ·rename_i hq
   simp only[Option.some.injEq,Prod.mk.injEq]at hs;exact⟨hq,hs.1.symm,hs.2.1,hs.2.2⟩
  ·cases hs
 obtain⟨hnil,rfl,rfl,rfl⟩:=hs';have hr':=hr;generalize hA:a.eval x=A at hr hr';cases hr<;>simp[isNil]at hnil
 all_goals (refine aI k ?_ hr';simp[execOp,ho,hA])
omit hgl in
theorem bytesLess_eq:∀ (x y:List UInt8),Op.bytesLess x y=bytesLess x y
 | _,[]=>by cases ‹List UInt8›<;>rfl
 | [],_::_=>rfl
 | a::x,b::y=>by simp only[Op.bytesLess,bytesLess,bytesLess_eq x y]
omit hgl in
theorem Fi {op:BinOp} {t:TypeId} {x y:Operand} {i j:IntKind} {m n:Int} {r:PV} (hr:binOp op (.int i m) (.int j n)=some r) :
  ∃ u,(do eqGuard op t x y (.int i m) (.int j n);Go.binOp op t (.int i m) (.int j n):Sem Value).run P w=.ok u w∧RV N0 g w r u:=by
 have hg:eqGuard op t x y (.int i m) (.int j n)=pure ():=by cases op<;>rfl
 rw[hg];simp only[binOp]at hr
 by_cases hsh:dM op=true
 ·rw[if_pos hsh]at hr
  unfold shiftOp at hr
  by_cases hn:n<0
  ·rw[if_pos hn]at hr;cases hr
  ·rw[if_neg hn]at hr
   cases op<;>simp[dM]at hsh
   ·simp only[Option.some.injEq]at hr;subst hr
    refine⟨_,?_,.int _ _⟩;simp only[Sem.run_bind,Sem.run_pure,Result.andThen,Go.binOp,Op.shift,if_neg hn]
   ·simp only[Option.some.injEq]at hr;subst hr
    refine⟨_,?_,.int _ _⟩;simp only[Sem.run_bind,Sem.run_pure,Result.andThen,Go.binOp,Op.shift,if_neg hn]
 ·rw[if_neg hsh]at hr
  split at hr
  ·rename_i hij
   subst hij;cases op<;>simp[dM]at hsh<;>simp only[kz,intBits,Option.some.injEq]at hr
   all_goals first
    |(subst hr
      refine⟨_,?_,.int _ _⟩;simp only[Sem.run_bind,Sem.run_pure,Result.andThen,Go.binOp,ne_eq,not_true_eq_false,if_false,Op.intArith,Op.intBits]
      done)
    |(subst hr
      refine⟨_,?_,.bool _⟩;simp only[Sem.run_bind,Sem.run_pure,Result.andThen,Go.binOp,ne_eq,not_true_eq_false,if_false,Op.intCmp]
      done)
    |(split at hr
      ·cases hr
      ·rename_i hz
       simp only[Option.some.injEq]at hr;subst hr;refine⟨_,?_,.int _ _⟩;simp only[Sem.run_bind,Sem.run_pure,Result.andThen,Go.binOp,ne_eq,not_true_eq_false,if_false,Op.intDiv,if_neg hz])
    | cases hr
  ·cases hr
omit hgl in
theorem Fj {op:BinOp} {t:TypeId} {x y:Operand} {s u:ByteArray} {r:PV} (hr:yO op s.data.toList u.data.toList=some r) :
  ∃ v,(do eqGuard op t x y (.string s) (.string u);Go.binOp op t (.string s) (.string u):Sem Value).run P w=.ok v w∧RV N0 g w r v:=by
 have hg:eqGuard op t x y (.string s) (.string u)=pure ():=by cases op<;>rfl
 have h1:∀ s:ByteArray,s.toList=s.data.toList:=fun s=>ByteArray.toList_eq s
 have h2:∀ s:ByteArray,s.data.toList.length=s.size:=fun s=>Array.length_toList
 rw[hg];cases op<;>simp only[yO,Option.some.injEq]at hr
 case add =>
  split at hr
  ·rename_i hle
   simp only[Option.some.injEq]at hr;subst hr;rw[h2,h2]at hle;unfold OH at hle;have hle':¬ (((s.size+u.size:Nat):Int) > IntKind.i64.max):=by
    have:IntKind.i64.max=9223372036854775807:=by rfl
    omega
   refine⟨.string (s++u),?_,.str _ _ (by simp[ByteArray.data_append])⟩;simp only[Sem.run_bind,Sem.run_pure,Result.andThen,Go.binOp,Op.stringOp,if_neg hle']
  ·cases hr
 all_goals first
  |(subst hr
    refine⟨_,?_,.bool _⟩;simp only[Sem.run_bind,Sem.run_pure,Result.andThen,Go.binOp,Op.stringOp,ByteArray.toList_eq,bytesLess_eq,bne])
  | cases hr
theorem Uw (k:Ok (N0:=N0) w0 g e a.tmps h w) {op:BinOp} {t t':TypeId} {x y:Operand} (ho:o.op=.binOp op t x y t')
  (hc:∃ x' y',aU gl x=some x'∧aU gl y=some y'∧aop=.bin op x' y')
  (hs:step orc base draw aop e h=some (v,e',h')):cm N0 P w0 g a w (execOp a.eval o) v e' h':=by
 obtain⟨x',y',hx,hy,rfl⟩:=hc;simp only[step,Option.aa,Option.some.injEq,Prod.mk.injEq]at hs;obtain⟨p,hp,q,hq,r,hr,rfl,rfl,rfl⟩:=hs;have h1:=bT hgl k hx hp;have h2:=bT hgl k hy hq;have fin:(∃ u,(do eqGuard op t x y (a.eval x) (a.eval y);Go.binOp op t (a.eval x) (a.eval y):Sem Value).run P w=.ok u w∧RV N0 g w r u) →
   cm N0 P w0 g a w (execOp a.eval o) r e h:=by
  rintro⟨u,hu,hru⟩;refine aI k ?_ hru;simp only[execOp,ho,Sem.run_bind]at hu ⊢;rw[hu];rfl
 apply fin;generalize a.eval x=A at h1;generalize a.eval y=B at h2;cases h1<;>cases h2<;>simp only[binOp]at hr
 case int.int=>exact Fi (by simpa only[binOp] using hr)
 case str.str=>rename_i hA _ _ hB;subst hA;subst hB;exact Fj hr
 all_goals cases hr
theorem Vo (k:Ok (N0:=N0) w0 g e a.tmps h w) {op:BinOp} {t t':TypeId} {x y:Operand} (ho:o.op=.binOp op t x y t') (hu:P.underlying t=some .bool) (hop:isEq op=true)
  (hc:∃ x' y',aU gl x=some x'∧aU gl y=some y'∧aop=.CU (gX op) x' y')
  (hs:step orc base draw aop e h=some (v,e',h')):cm N0 P w0 g a w (execOp a.eval o) v e' h':=by
 obtain⟨x',y',hx,hy,rfl⟩:=hc;simp only[step,Option.aa]at hs;obtain⟨p,hp,q,hq,hs⟩:=hs;have h1:=bT hgl k hx hp;have h2:=bT hgl k hy hq;split at hs
 ·rename_i b c
  simp only[Option.some.injEq,Prod.mk.injEq]at hs;obtain⟨rfl,rfl,rfl⟩:=hs;refine aI k ?_ (.bool _);have he:(Op.equal t (.bool b) (.bool c)).run P w=.ok (b == c) w:=run_equal_bool w t b c hu;cases op<;>simp only[isEq]at hop<;>(try cases hop)
  ·simp only[execOp,ho,kI h1,kI h2,Sem.run_bind,show eqGuard .eql t x y (.bool b) (.bool c)=pure () from rfl,Sem.run_pure,Result.andThen,
    show Go.binOp .eql t (.bool b) (.bool c)=(do pure (.bool (←Op.equal t (.bool b) (.bool c)))) from rfl,he,gX,Bool.false_eq_true,if_false]
  ·simp only[execOp,ho,kI h1,kI h2,Sem.run_bind,show eqGuard .neq t x y (.bool b) (.bool c)=pure () from rfl,Sem.run_pure,Result.andThen,
    show Go.binOp .neq t (.bool b) (.bool c)=(do pure (.bool (!(←Op.equal t (.bool b) (.bool c))))) from rfl,he,gX,if_true,bne]
 ·cases hs
def gh:Nat→Value
 | 0=>.pointer none
 | 1=>.slice none 0 0
 | 2=>.nilIface
 | 3=>.nilFunc
 | _=>.map none
omit hgl in
theorem lH {kd:Nat} {x:Operand} (hx:eM kd x=true) (a:Act):∃ c,x=.const c∧c=gh kd∧kd≤4:=by
 unfold eM at hx;split at hx<;>first | exact⟨_,rfl,rfl,by omega⟩ | cases hx
omit hgl in
theorem qC {t:TypeId} {d:TypeDesc} {kd:Nat} (hu:P.underlying t=some d) (hkd:xW d=some kd) {p:PV} {A:Value} (hr:RV N0 g w p A) {b:Bool} (hb:jk kd p=some b) :
  (Op.equal t A (gh kd)).run P w=.ok b w∧(Op.equal t (gh kd) A).run P w=.ok b w:=by
 obtain⟨dep,hd⟩ : ∃ n,Op.maxDepth=n+1:=⟨9999,rfl⟩;cases d<;>simp only[xW]at hkd<;>cases hkd
 all_goals (cases hr<;>simp only[jk,Option.some.injEq]at hb<;>(try cases hb)<;>(try subst hb))
 all_goals (constructor<;>simp only[Op.equal,hd,Op.equalIn,gh,Sem.run_bind,run_underlying hu,Result.andThen,Sem.run_pure,Option.isNone_none,Option.isNone_some])
omit hgl in
theorem uG {op:BinOp} {t:TypeId} {x y:Operand} {kd:Nat} (A:Value) (hn:kd≤4) (h:(eM kd y=true)∨(eM kd x=true)) (w:World) :
  (∀ c,A≠.agg c)→(eM kd y=true→(eqGuard op t x y A (gh kd)).run P w=.ok () w)∧(eM kd x=true→(eqGuard op t x y (gh kd) A).run P w=.ok () w):=by
 intro hA;have hc:∀ z,eM kd z=true→∃ c,z=.const c:=fun z hz=>let ⟨c,h1,_⟩:=lH hz ⟨#[],[]⟩;⟨c,h1⟩
 constructor
 ·intro hy
  obtain⟨c,rfl⟩:=hc y hy;have:kd=0∨kd=1∨kd=2∨kd=3∨kd=4:=by omega
  rcases this with rfl | rfl | rfl | rfl | rfl<;>cases A<;>simp[eqGuard,gh]at*<;> split<;>simp_all
 ·intro hx
  obtain⟨c,rfl⟩:=hc x hx;have:kd=0∨kd=1∨kd=2∨kd=3∨kd=4:=by omega
  rcases this with rfl | rfl | rfl | rfl | rfl<;>cases A<;>simp[eqGuard,gh]at*<;> split<;>simp_all
omit hgl in
theorem aaS {t:TypeId} {kd:Nat} {p:PV} {A:Value} (hr:RV N0 g w p A) {b:Bool} (hb:jk kd p=some b) :
  Go.binOp .eql t A (gh kd)=(do pure (.bool (←Op.equal t A (gh kd))))∧Go.binOp .neq t A (gh kd)=(do pure (.bool (!(←Op.equal t A (gh kd))))) ∧
  Go.binOp .eql t (gh kd) A=(do pure (.bool (←Op.equal t (gh kd) A)))∧Go.binOp .neq t (gh kd) A=(do pure (.bool (!(←Op.equal t (gh kd) A)))):=by
 rcases kd with _ | _ | _ | _ | _ | kd
 all_goals (cases hr<;>simp only[jk]at hb<;>(try cases hb))
 all_goals exact⟨rfl,rfl,rfl,rfl⟩
theorem K2 (k:Ok (N0:=N0) w0 g e a.tmps h w) {op:BinOp} {t t':TypeId} {x y:Operand} {d:TypeDesc} {kd:Nat} (ho:o.op=.binOp op t x y t') (hu:P.underlying t=some d) (hop:isEq op=true)
  (hkd:xW d=some kd)
  (hc:(eM kd y=true∧∃ x',aU gl x=some x'∧aop=.oB kd (gX op) x')∨(eM kd x=true∧∃ y',aU gl y=some y'∧aop=.oB kd (gX op) y'))
  (hs:step orc base draw aop e h=some (v,e',h')):cm N0 P w0 g a w (execOp a.eval o) v e' h':=by
 have key:∀ (z:Operand) (z':bH),aU gl z=some z'→aop=.oB kd (gX op) z'→∃ p b,jk kd p=some b∧RV N0 g w p (a.eval z)∧v=.bool (if gX op then !b else b)∧e=e'∧h=h':=by
  rintro z z' hz rfl;simp only[step,Option.aa,Option.some.injEq,Prod.mk.injEq]at hs;obtain⟨p,hp,b,hb,rfl,rfl,rfl⟩:=hs;exact⟨p,b,hb,bT hgl k hz hp,rfl,rfl,rfl⟩
 have hagg:∀ (p:PV) (b:Bool) (A:Value),jk kd p=some b→RV N0 g w p A→∀ c,A≠.agg c:=by
  intro p b A hb hr c hq;subst hq;cases hr<;>(rcases kd with _ | _ | _ | _ | _ | kd)<;>simp[jk]at hb
 rcases hc with⟨hn,x',hx,ha⟩ | ⟨hn,y',hy,ha⟩
 ·obtain⟨p,b,hb,hr,rfl,rfl,rfl⟩:=key x x' hx ha
  obtain⟨c,hyc,rfl,h3⟩:=lH hn a;refine aI k ?_ (.bool _);have hg:=(uG (P:=P) (op:=op) (t:=t) (x:=x) (y:=y) (a.eval x) h3 (.inl hn) w (hagg p b _ hb hr)).1 hn;have he:=(qC hu hkd hr hb).1;have hyv:a.eval y=gh kd:=by rw[hyc];rfl
  obtain⟨q1,q2,q3,q4⟩:=aaS (t:=t) hr hb;cases op<;>simp only[isEq]at hop<;>(try cases hop)
  ·simp only[execOp,ho,hyv,q1,Sem.run_bind,hg,Sem.run_pure,Result.andThen,he,gX,Bool.false_eq_true,if_false]
  ·simp only[execOp,ho,hyv,q2,Sem.run_bind,hg,Sem.run_pure,Result.andThen,he,gX,if_true]
 ·obtain⟨p,b,hb,hr,rfl,rfl,rfl⟩:=key y y' hy ha
  obtain⟨c,hxc,rfl,h3⟩:=lH hn a;refine aI k ?_ (.bool _);have hg:=(uG (P:=P) (op:=op) (t:=t) (x:=x) (y:=y) (a.eval y) h3 (.inr hn) w (hagg p b _ hb hr)).2 hn;have he:=(qC hu hkd hr hb).2;have hxv:a.eval x=gh kd:=by rw[hxc];rfl
  obtain⟨q1,q2,q3,q4⟩:=aaS (t:=t) hr hb;cases op<;>simp only[isEq]at hop<;>(try cases hop)
  ·simp only[execOp,ho,hxv,q3,Sem.run_bind,hg,Sem.run_pure,Result.andThen,he,gX,Bool.false_eq_true,if_false]
  ·simp only[execOp,ho,hxv,q4,Sem.run_bind,hg,Sem.run_pure,Result.andThen,he,gX,if_true]
theorem acQ (k:Ok (N0:=N0) w0 g e a.tmps h w) {op:UnOp} {t:TypeId} {x:Operand} (ho:o.op=.unOp op t x) (hc:jO P gl md o=some aop)
  (hs:step orc base draw aop e h=some (v,e',h')):cm N0 P w0 g a w (execOp a.eval o) v e' h':=by
 simp only[jO,ho,Option.map_eq_some_iff]at hc;obtain⟨x',hx,rfl⟩:=hc;simp only[step,Option.aa,Option.some.injEq,Prod.mk.injEq]at hs;obtain⟨p,hp,r,hr,rfl,rfl,rfl⟩:=hs;have h1:=bT hgl k hx hp;generalize hA:a.eval x=A at h1;cases h1<;>simp only[unOp]at hr
 case bool b=>cases op<;>simp only[Option.some.injEq]at hr<;>first | (subst hr;exact aI k (by simp only[execOp,ho,hA,Op.unary,Sem.run_bind,Sem.run_pure,Result.andThen]) (.bool _)) | cases hr
 case int j n =>
  cases op<;>simp only[Option.some.injEq,intBits]at hr
  all_goals first | (subst hr;exact aI k (by simp only[execOp,ho,hA,Op.unary,Op.intArith,Op.intBits,Sem.run_bind,Sem.run_pure,Result.andThen]) (.int _ _)) | cases hr
 all_goals cases hr
theorem MU (k:Ok (N0:=N0) w0 g e a.tmps h w) {i:Nat} {x:Operand} (ho:o.op=.extract x i) (hc:jO P gl md o=some aop)
  (hs:step orc base draw aop e h=some (v,e',h')):cm N0 P w0 g a w (execOp a.eval o) v e' h':=by
 simp only[jO,ho,Option.map_eq_some_iff]at hc;obtain⟨x',hx,rfl⟩:=hc;simp only[step,Option.aa]at hs;obtain⟨p,hp,hs⟩:=hs;have h1:=bT hgl k hx hp;generalize hA:a.eval x=A at h1;cases h1<;>simp only at hs
 case cF cs us hsz hr =>
  simp only[Option.aa,Option.some.injEq,Prod.mk.injEq]at hs;obtain⟨r,hr',rfl,rfl,rfl⟩:=hs;have hi:i<cs.length:=(List.getElem?_eq_some_iff.1 hr').1;have hu:us[i]?=some (us.getD i Go.undef):=by simp[Array.getD_eq_getD_getElem?,hsz,hi]
  exact aI k (by simp only[execOp,ho,hA,Instr.extract,hu,Sem.run_bind,Sem.run_pure,Result.andThen]) (hr i r hr')
 all_goals cases hs
omit hgl in
theorem oV {f:Field} {n:Nat} (hn:sizeOf P f.type=some n) (h0:n≠0) (A:Addr):(fieldPlace A f).run P w=.ok (A.add f.offset) w:=by
 simp[fieldPlace,cZ hn,h0]
theorem Pr (k:Ok (N0:=N0) w0 g e a.tmps h w) {t:TypeId} {x:Operand} {f:Nat} (ho:o.op=.fieldAddr t x f) (hc:jO P gl md o=some aop)
  (hs:step orc base draw aop e h=some (v,e',h')):cm N0 P w0 g a w (execOp a.eval o) v e' h':=by
 simp only[jO,ho]at hc;split at hc
 ·rename_i fs hu
  simp only[Option.bind_eq_some_iff]at hc;obtain⟨fd,hfd,n,hn,hc⟩:=hc;split at hc
  ·cases hc
  ·rename_i h0
   simp only[Option.map_eq_some_iff]at hc;obtain⟨x',hx,rfl⟩:=hc;simp only[step,Option.aa]at hs;obtain⟨p,hp,hs⟩:=hs;have h1:=bT hgl k hx hp;generalize hA:a.eval x=A at h1;cases h1<;>simp only at hs
   case ptr b off hb =>
    simp only[Option.some.injEq,Prod.mk.injEq]at hs;obtain⟨rfl,rfl,rfl⟩:=hs;refine aI (u:=.pointer (some ⟨g.ι b,off+fd.offset,none⟩)) k ?_ (.ptr b _ hb);simp[execOp,ho,hA,Instr.fieldAt,run_underlying hu,hfd,Instr.sureAddr,oV hn h0,dN]
   case ep cs off c o' u q1 q2 q3 =>
    simp only[Option.some.injEq,Prod.mk.injEq]at hs;obtain⟨rfl,rfl,rfl⟩:=hs;refine aI (u:=.pointer (some ⟨c,o'+(off+fd.offset),none⟩)) k ?_ (.ep cs _ c o' u q1 q2 q3);simp[execOp,ho,hA,Instr.fieldAt,run_underlying hu,hfd,Instr.sureAddr,oV hn h0,dN,Nat.add_assoc]
   all_goals cases hs
 ·cases hc
end
end Go.Am
namespace Go.Am
open Go.RowKit (Below)
section
variable {N0:Nat} {P:Program} {w0:World} {g:G} {e:Env} {a:Act} {h:Hp} {w:World}
variable {o:Oper} {md:Nat} {orc:iG} {base:Nat} {draw:Bool} {aop:iP} {v:PV} {e':Env} {h':Hp} {gl:cR} (hgl:dR gl N0 w0)
include hgl
omit hgl in
theorem fJ {c:Go.Call} {b:Builtin} (ho:o.op=.call c) (hb:c.callee=.builtin b) :
  ∃ cs,(execOp a.eval o).run P w=(builtin b c.argTypes o.type cs (c.args.map a.eval)).run P w:=by
 have h1:execOp a.eval o=(do let d ←resolve a.eval c o.type;invoke d.target d.args):=by simp only[execOp,ho]
 rw[h1];unfold resolve;simp only[hb];exact⟨_,rfl⟩
theorem zC (k:Ok (N0:=N0) w0 g e a.tmps h w):∀ {os:List Operand} {xs:List bH} {vs:List PV},lB gl os=some xs→nA e xs=some vs →
  os.length=vs.length∧∀ (j:Nat) (x:PV),vs[j]?=some x→RV N0 g w x ((os.map a.eval).getD j Go.undef)
 | [],xs,vs,ho,hv=>by
  simp[lB]at ho;subst ho;simp[nA]at hv;subst hv;exact⟨rfl,fun j x hx=>by simp at hx⟩
 | o::os,xs,vs,ho,hv=>by
  simp only[lB,Option.bind_eq_some_iff,Option.map_eq_some_iff]at ho;obtain⟨y,hy,ys,hys,rfl⟩:=ho;simp only[nA,Option.aa,Option.some.injEq]at hv;obtain⟨u,hu,us,hus,rfl⟩:=hv;obtain⟨h1,h2⟩:=zC k hys hus;refine⟨by simp[h1],fun j x hx=>?_⟩;cases j with
  | zero=>simp at hx;subst hx;simpa using (bT hgl k hy hu)
  | succ j=>simpa using h2 j x (by simpa using hx)
theorem YE (k:Ok (N0:=N0) w0 g e a.tmps h w) {c:Go.Call} (ho:o.op=.call c) (hb:c.callee=.builtin .len) (hc:kA P gl md c o.type=some aop)
  (hmap:∀ x t kt et x',c.args=#[x]→c.argTypes=#[t]→P.underlying t=some (.map kt et)→aU gl x=some x'→aop=.gen .tq [x']→cm N0 P w0 g a w (execOp a.eval o) v e' h')
  (hs:step orc base draw aop e h=some (v,e',h')):cm N0 P w0 g a w (execOp a.eval o) v e' h':=by
 simp only[kA,hb]at hc;split at hc
 ·rename_i x t hax hat
  have hargs:c.args=#[x]:=by rw[←Array.toList_inj,hax]
  have htys:c.argTypes=#[t]:=by rw[←Array.toList_inj,hat]
  obtain⟨cs,hrun⟩:=fJ (P:=P) (w:=w) (a:=a) ho hb;split at hc
  ·rename_i hu
   simp only[Option.map_eq_some_iff]at hc;obtain⟨x',hx,rfl⟩:=hc;simp only[step,Option.aa]at hs;obtain⟨p,hp,hs⟩:=hs;have h1:=bT hgl k hx hp;generalize hA:a.eval x=A at h1;cases h1<;>simp only at hs
   case str l s hl =>
    simp only[Option.some.injEq,Prod.mk.injEq]at hs;obtain⟨rfl,rfl,rfl⟩:=hs;refine aI (u:=goInt s.size) k ?_ ?_
    ·rw[hrun,hargs,htys]
     simp only[builtin,List.map_toArray,List.map_cons,List.map_nil,hA,Builtin.len_,run_underlying hu,Sem.run_bind,Result.andThen,Sem.run_pure];simp[run_underlying hu]
    ·have:(l.length:Int)=s.size:=by rw[←hl];simp
     rw[this];exact .int _ _
   all_goals cases hs
  ·rename_i el hu
   simp only[Option.map_eq_some_iff]at hc;obtain⟨x',hx,rfl⟩:=hc;simp only[step,Option.aa]at hs;obtain⟨p,hp,hs⟩:=hs;have h1:=bT hgl k hx hp;generalize hA:a.eval x=A at h1;have run:∀ A' n c,A=.slice A' n c→(execOp a.eval o).run P w=.ok (.value (goInt n)) w:=by
    rintro A' n c rfl;rw[hrun,hargs,htys];simp only[builtin,List.map_toArray,List.map_cons,List.map_nil,hA,Builtin.len_];simp[run_underlying hu]
   cases h1<;>simp only at hs
   case bg =>
    simp only[Option.some.injEq,Prod.mk.injEq]at hs;obtain⟨rfl,rfl,rfl⟩:=hs;exact aI k (run _ _ _ rfl) (.int _ _)
   case sl ow sz es c' o' cap u q1 q2 q3 q4 q5 q6 =>
    simp only[Option.some.injEq,Prod.mk.injEq]at hs;obtain⟨rfl,rfl,rfl⟩:=hs;exact aI k (run _ _ _ rfl) (.int _ _)
   case bX fl b off len sz cap hb' hl hfl hcpb =>
    simp only[Option.some.injEq,Prod.mk.injEq]at hs;obtain⟨rfl,rfl,rfl⟩:=hs;exact aI k (run _ _ _ rfl) (.int _ _)
   all_goals cases hs
  ·rename_i kt et hu
   simp only[Option.map_eq_some_iff]at hc;obtain⟨x',hx,rfl⟩:=hc;exact hmap x t kt et x' hargs htys hu hx rfl
  ·cases hc
 ·cases hc
theorem Fk (k:Ok (N0:=N0) w0 g e a.tmps h w) {c:Go.Call} {mx:Bool} (ho:o.op=.call c) (hb:c.callee=.builtin (if mx then .max else .min))
  (hc:∃ xs,lB gl c.args.toList=some xs∧aop=.mE mx xs)
  (hs:step orc base draw aop e h=some (v,e',h')):cm N0 P w0 g a w (execOp a.eval o) v e' h':=by
 obtain⟨xs,hxs,rfl⟩:=hc;simp only[step,Option.aa]at hs;obtain⟨vs,hvs,hs⟩:=hs;obtain⟨h1,h2⟩:=zC hgl k hxs hvs;have hstep:∀ (p q r:PV) (A B:Value),RV N0 g w p A→RV N0 g w q B→pR mx p q=some r→∃ u,(if mx then Builtin.max2 A B else Builtin.min2 A B).run P w=.ok u w∧RV N0 g w r u:=by
  intro p q r A B hp hq hr;cases hp<;>cases hq<;>simp only[pR]at hr<;>(try cases hr)
  cases mx
  ·exact⟨_,rfl,.int _ _⟩
  ·exact⟨_,rfl,.int _ _⟩
 have hfold:∀ (us:List Value) (ps:List PV) (p:PV) (A:Value) (r:PV),us.length=ps.length→(∀ (j:Nat) (x:PV),ps[j]?=some x→RV N0 g w x (us.getD j Go.undef))→RV N0 g w p A →
   mF mx p ps=some r→∃ u,(us.foldlM (fun A B=>if mx then Builtin.max2 A B else Builtin.min2 A B) A:Sem Value).run P w=.ok u w∧RV N0 g w r u:=by
  intro us
  induction us with
  | nil =>
   intro ps p A r hl _ hA hr;have:ps=[]:=by cases ps;rfl;simp at hl
   subst this;simp only[mF,Option.some.injEq]at hr;subst hr;exact⟨A,by simp,hA⟩
  | cons u us ih =>
   intro ps p A r hl hj hA hr;cases ps with
   | nil=>simp at hl
   | cons q ps =>
    simp only[mF,Option.aa]at hr;obtain⟨z,hz,hr⟩:=hr;obtain⟨u',hu',hzu⟩:=hstep p q z A u hA (by simpa using hj 0 q rfl) hz;obtain⟨u'',hu'',hru⟩:=ih ps z u' r (by simpa using hl) (fun j x hx=>by simpa using hj (j+1) x (by simpa using hx)) hzu hr;refine⟨u'',?_,hru⟩;simp only[List.foldlM_cons,Sem.run_bind,hu',Result.andThen,hu'']
 cases vs with
 | nil=>cases hs
 | cons p ps =>
  simp only[Option.aa,Option.some.injEq,Prod.mk.injEq]at hs;obtain⟨r,hr,rfl,rfl,rfl⟩:=hs;cases has:c.args.toList with
  | nil=>rw[has]at h1;simp at h1
  | cons x xs' =>
   rw[has]at h1 h2;obtain⟨u,hu,hru⟩:=hfold (xs'.map a.eval) ps p (a.eval x) r (by simpa using h1) (fun j y hy=>by simpa using h2 (j+1) y (by simpa using hy)) (by simpa using h2 0 p rfl) hr;refine aI k ?_ hru;obtain⟨cs,hrun⟩:=fJ (P:=P) (w:=w) (a:=a) ho hb;rw[hrun];have hargs:(c.args.map a.eval).toList=a.eval x::xs'.map a.eval:=by simp[has]
   cases mx
   ·simp only[Bool.false_eq_true,if_false]at hu ⊢
    simp only[builtin,Builtin.min_,hargs,Sem.run_bind,hu,Result.andThen,Sem.run_pure]
   ·simp only[if_true]at hu ⊢
    simp only[builtin,Builtin.max_,hargs,Sem.run_bind,hu,Result.andThen,Sem.run_pure]
omit hgl in
theorem BV {v:PV} {n i:Nat} {A:Value} (hr:RV N0 g w v A) (hi:ix v n=some i):∃ k m,A=.int k m∧0≤m∧m<n∧m.toNat=i:=by
 cases hr<;>simp only[ix]at hi<;>(try cases hi)
 rename_i k m;split at hi
 ·rename_i hm
  simp only[Option.some.injEq]at hi;exact⟨k,m,rfl,hm.1,hm.2,hi⟩
 ·cases hi
theorem Vp (k:Ok (N0:=N0) w0 g e a.tmps h w) {t:TypeId} {x y:Operand} (ho:o.op=.indexAddr t x y) (hc:jO P gl md o=some aop)
  (hs:step orc base draw aop e h=some (v,e',h')):cm N0 P w0 g a w (execOp a.eval o) v e' h':=by
 simp only[jO,ho]at hc;split at hc
 ·rename_i el hu
  simp only[Option.bind_eq_some_iff,Option.map_eq_some_iff]at hc;obtain⟨n,hn,x',hx,y',hy,rfl⟩:=hc;simp only[step,Option.aa]at hs;obtain⟨p,hp,q,hq,hs⟩:=hs;have h1:=bT hgl k hx hp;have h2:=bT hgl k hy hq;generalize hA:a.eval x=A at h1;generalize hB:a.eval y=B at h2;have run:∀ (c off len cap i:Nat) (kk:IntKind) (m:Int),A=.slice (some ⟨c,off,none⟩) len cap→B=.int kk m→0≤m→m<len→m.toNat=i →
    (execOp a.eval o).run P w=.ok (.value (.pointer (some ⟨c,off+i*n,none⟩))) w:=by
   rintro c off len cap i kk m rfl rfl h0 hm rfl;have hcond:0≤m∧m<(len:Int):=⟨h0,hm⟩;simp only[execOp,ho,hA,hB,Instr.indexAt,asIntOf,Sem.run_bind,Sem.run_pure,Result.andThen,run_underlying hu,if_pos hcond,cZ hn,dN]
  cases h1<;>simp only at hs
  case sl ow sz es c off cap u q1 q2 q3 q4 q5 q6 q7 q8 q9 =>
   split at hs
   ·rename_i hsz
    subst hsz;simp only[Option.aa,Option.some.injEq,Prod.mk.injEq]at hs;obtain⟨i,hi,el',hel,rfl,rfl,rfl⟩:=hs;obtain⟨kk,m,hBm,h0,hm,hmi⟩:=BV h2 hi;have hil:i<es.length:=(List.getElem?_eq_some_iff.1 hel).1;obtain rfl:=q8 (by rintro rfl;simp at hel);have hlen:=q3 i el' hel;refine aI k (run c off es.length cap i kk m rfl hBm h0 hm hmi) ?_;have:=RV.ep (N0:=N0) (g:=g) (w:=w) el'.cells 0 c (off+i*sz) (u i) (fun j hj=>by rw[Nat.add_assoc];exact q4 i j hil (by omega)) (fun j z hz=>q5 i j el' z hel hz) ?_
    ·simpa using this
    ·rw[hlen]
     have hle:i*sz+sz≤es.length*sz:=by
      have:=Nat.mul_le_mul_right sz hil;rw[Nat.succ_mul]at this;exact this
     rcases q6 (by rintro rfl;simp at hil) with q6 | ⟨m',hm',hle'⟩
     ·exact .inl q6
     ·exact .inr ⟨m',hm',by omega⟩
   ·cases hs
  case bX fl b off len sz cap hb hl hfl hcpb =>
   split at hs
   ·rename_i hsz
    subst hsz;simp only[Option.aa,Option.some.injEq,Prod.mk.injEq]at hs;obtain⟨i,hi,rfl,rfl,rfl⟩:=hs;obtain⟨kk,m,hBm,h0,hm,hmi⟩:=BV h2 hi;exact aI k (run (g.ι b) off len cap i kk m rfl hBm h0 hm hmi) (.ptr b _ hb)
   ·cases hs
  all_goals cases hs
 ·rename_i len el hu
  simp only[Option.bind_eq_some_iff,Option.map_eq_some_iff]at hc;obtain⟨n,hn,x',hx,y',hy,rfl⟩:=hc;simp only[step,Option.aa]at hs;obtain⟨p,hp,q,hq,hs⟩:=hs;have h1:=bT hgl k hx hp;have h2:=bT hgl k hy hq;generalize hA:a.eval x=A at h1;generalize hB:a.eval y=B at h2;have run:∀ (c off i:Nat) (kk:IntKind) (m:Int),A=.pointer (some ⟨c,off,none⟩)→B=.int kk m→0≤m→m<len→m.toNat=i →
    (execOp a.eval o).run P w=.ok (.value (.pointer (some ⟨c,off+i*n,none⟩))) w:=by
   rintro c off i kk m rfl rfl h0 hm rfl;have hcond:0≤m∧m<(len:Int):=⟨h0,hm⟩;simp only[execOp,ho,hA,hB,Instr.indexAt,asIntOf,Sem.run_bind,Sem.run_pure,Result.andThen,run_underlying hu,Instr.sureAddr,if_pos hcond,cZ hn,dN]
  cases h1<;>simp only at hs
  case ptr b off hb =>
   simp only[Option.aa,Option.some.injEq,Prod.mk.injEq]at hs;obtain⟨i,hi,rfl,rfl,rfl⟩:=hs;obtain⟨kk,m,hBm,h0,hm,hmi⟩:=BV h2 hi;exact aI k (run (g.ι b) off i kk m rfl hBm h0 hm hmi) (.ptr b _ hb)
  case ep cs off c o' u q1 q2 q3 =>
   simp only[Option.aa,Option.some.injEq,Prod.mk.injEq]at hs;obtain⟨i,hi,rfl,rfl,rfl⟩:=hs;obtain⟨kk,m,hBm,h0,hm,hmi⟩:=BV h2 hi;refine aI k (run c (o'+off) i kk m rfl hBm h0 hm hmi) ?_;rw[Nat.add_assoc];exact .ep cs _ c o' u q1 q2 q3
  all_goals cases hs
 ·cases hc
end
end Go.Am
namespace Go.Am
open Go.RowKit (Below)
section
variable {N0:Nat} {P:Program} {w0:World} {g:G} {e:Env} {a:Act} {h:Hp} {w:World}
variable {o:Oper} {md:Nat} {orc:iG} {base:Nat} {draw:Bool} {aop:iP} {v:PV} {e':Env} {h':Hp} {gl:cR} (hgl:dR gl N0 w0)
include hgl
theorem BW (k:Ok (N0:=N0) w0 g e a.tmps h w) {n dflt i:Nat} {x:Operand} {x':bH} (hx:aU gl x=some x') (hb:bd e n dflt (some x')=some i) :
  i≤n∧∀ (m:Nat) (code:BoundsCode),n≤m→(Instr.sliceBound (a.eval x) m code).run P w=.ok i w:=by
 simp only[bd,Option.aa]at hb;obtain⟨p,hp,hb⟩:=hb;have hr:=bT hgl k hx hp;generalize a.eval x=A at hr;cases hr<;>simp only at hb<;>(try cases hb)
 rename_i kk q;split at hb
 ·rename_i hq
  simp only[Option.some.injEq]at hb;subst hb;refine⟨by omega,fun m code hm=>?_⟩;have hq':0≤q∧q≤(m:Int):=⟨hq.1,by omega⟩;simp only[Instr.sliceBound,asIntOf,Sem.run_bind,Sem.run_pure,Result.andThen,if_pos hq']
 ·cases hb
theorem mS (k:Ok (N0:=N0) w0 g e a.tmps h w) {isS:Bool} {len cap:Nat} (hlc:len≤cap) {lo hi mx:Option Operand} {lo' hi' mx':Option bH} (h1:cOpt gl lo=some lo') (h2:cOpt gl hi=some hi')
  (h3:cOpt gl mx=some mx') (hmh:mx=none∨hi≠none) {m hh l:Nat} (b1:bd e len len mx'=some m) (b2:bd e m len hi'=some hh) (b3:bd e hh 0 lo'=some l) :
  l≤hh∧hh≤len∧∃ mc,hh≤mc∧mc≤cap∧(mx≠none→mc=m)∧(mx=none→mc=cap)∧(Instr.sliceBounds isS len cap (lo.map a.eval) (hi.map a.eval) (mx.map a.eval)).run P w=.ok (l,hh,mc) w:=by
 have opt:∀ (z:Option Operand) (z':Option bH),cOpt gl z=some z'→(z=none∧z'=none)∨∃ y y',z=some y∧z'=some y'∧aU gl y=some y':=by
  intro z z' hz;cases z with
  | none=>simp[cOpt]at hz;exact .inl ⟨rfl,hz.symm⟩
  | some y =>
   simp only[cOpt,Option.map_eq_some_iff]at hz;obtain⟨y',hy,rfl⟩:=hz;exact .inr ⟨y,y',rfl,rfl,hy⟩
 have low:∀ (hh l:Nat),bd e hh 0 lo'=some l→l≤hh∧((lo=none∧l=0)∨∃ y,lo=some y∧∀ code,(Instr.sliceBound (a.eval y) hh code).run P w=.ok l w):=by
  intro hh l hb;rcases opt lo lo' h1 with⟨rfl,rfl⟩ | ⟨y,y',rfl,rfl,hy⟩
  ·simp only[bd,Option.some.injEq]at hb;subst hb;exact⟨Nat.zero_le _,.inl ⟨rfl,rfl⟩⟩
  ·obtain⟨hle,hrun⟩:=BW (P:=P) hgl k hy hb
   exact⟨hle,.inr ⟨y,rfl,fun code=>hrun hh code (Nat.le_refl _)⟩⟩
 rcases opt mx mx' h3 with⟨rfl,rfl⟩ | ⟨ym,ym',rfl,rfl,hym⟩
 ·simp only[bd,Option.some.injEq]at b1
  subst b1;rcases opt hi hi' h2 with⟨rfl,rfl⟩ | ⟨yh,yh',rfl,rfl,hyh⟩
  ·simp only[bd,Option.some.injEq]at b2
   subst b2;obtain⟨l1,l2⟩:=low len l b3;refine⟨l1,Nat.le_refl _,cap,hlc,Nat.le_refl _,fun hq=>(hq rfl).elim,fun _=>rfl,?_⟩;rcases l2 with⟨rfl,rfl⟩ | ⟨y,rfl,hy⟩
   ·simp only[Instr.sliceBounds,Option.map_none,Sem.run_bind,Sem.run_pure,Result.andThen,Option.isSome_none]
   ·simp only[Instr.sliceBounds,Option.map_none,Option.map_some,Sem.run_bind,Sem.run_pure,Result.andThen,Option.isSome_none,hy]
  ·obtain⟨m1,m2⟩:=BW (P:=P) hgl k hyh b2
   obtain⟨l1,l2⟩:=low hh l b3;refine⟨l1,m1,cap,by omega,Nat.le_refl _,fun hq=>(hq rfl).elim,fun _=>rfl,?_⟩;rcases l2 with⟨rfl,rfl⟩ | ⟨y,rfl,hy⟩
   ·simp only[Instr.sliceBounds,Option.map_none,Option.map_some,Sem.run_bind,Sem.run_pure,Result.andThen,m2 cap _ hlc,Option.isSome_none]
   ·simp only[Instr.sliceBounds,Option.map_none,Option.map_some,Sem.run_bind,Sem.run_pure,Result.andThen,m2 cap _ hlc,Option.isSome_none,hy]
 ·obtain⟨m1,m2⟩:=BW (P:=P) hgl k hym b1
  rcases opt hi hi' h2 with⟨rfl,rfl⟩ | ⟨yh,yh',rfl,rfl,hyh⟩
  ·rcases hmh with hq | hq
   ·cases hq
   ·exact(hq rfl).elim
  ·obtain⟨n1,n2⟩:=BW (P:=P) hgl k hyh b2
   obtain⟨l1,l2⟩:=low hh l b3;refine⟨l1,by omega,m,n1,by omega,fun _=>rfl,(fun hq=>by cases hq),?_⟩;rcases l2 with⟨rfl,rfl⟩ | ⟨y,rfl,hy⟩
   ·simp only[Instr.sliceBounds,Option.map_some,Option.map_none,Sem.run_bind,Sem.run_pure,Result.andThen,m2 cap _ hlc,n2 m _ (Nat.le_refl _),Option.isSome_some]
   ·simp only[Instr.sliceBounds,Option.map_some,Sem.run_bind,Sem.run_pure,Result.andThen,m2 cap _ hlc,n2 m _ (Nat.le_refl _),Option.isSome_some,hy]
theorem Pu (k:Ok (N0:=N0) w0 g e a.tmps h w) {t el:TypeId} {x:Operand} {lo hi:Option Operand} {len n:Nat} (ho:o.op=.slice t x lo hi none) (hu:P.underlying t=some (.array len el)) (hn:sizeOf P el=some n)
  {x':bH} {lo' hi':Option bH} (hx:aU gl x=some x') (hlo:cOpt gl lo=some lo') (hhi:cOpt gl hi=some hi')
  (hs:step orc base draw (.gen (.jt n len lo'.isSome hi'.isSome) (x'::(lo'.toList++hi'.toList))) e h=some (v,e',h')):cm N0 P w0 g a w (execOp a.eval o) v e' h':=by
 simp only[step,Option.aa,Option.some.injEq,Prod.mk.injEq]at hs;obtain⟨vs,hvs,r,hr,rfl,rfl,rfl⟩:=hs;have key:∃ p lp hp,ev e x'=some p∧HH n len p lp hp h=some r∧(∀ m dflt,R7 m dflt lp=bd e m dflt lo')∧(∀ m dflt,R7 m dflt hp=bd e m dflt hi'):=by
  have bdo:∀ (y:bH) (q:PV),ev e y=some q→∀ m dflt,R7 m dflt (some q)=bd e m dflt (some y):=fun y q hq m dflt=>by
   simp only[R7,bd,hq,Option.ag]
  simp only[cV]at hr;cases lo' with
  | none =>
   cases hi' with
   | none =>
    simp only[Option.toList,List.append_nil,nA,Option.aa,Option.some.injEq]at hvs;obtain⟨p,hp,_,rfl,rfl⟩:=hvs;exact⟨p,none,none,hp,hr,fun _ _=>rfl,fun _ _=>rfl⟩
   | some u =>
    simp only[Option.toList,List.nil_append,nA,Option.aa,Option.some.injEq]at hvs;obtain⟨p,hp,_,⟨q,hq,_,rfl,rfl⟩,rfl⟩:=hvs;exact⟨p,none,some q,hp,hr,fun _ _=>rfl,bdo u q hq⟩
  | some l =>
   cases hi' with
   | none =>
    simp only[Option.toList,List.append_nil,nA,Option.aa,Option.some.injEq]at hvs;obtain⟨p,hp,_,⟨q,hq,_,rfl,rfl⟩,rfl⟩:=hvs;exact⟨p,some q,none,hp,hr,bdo l q hq,fun _ _=>rfl⟩
   | some u =>
    simp only[Option.toList,List.cons_append,List.nil_append,nA,Option.aa,Option.some.injEq]at hvs;obtain⟨p,hp,_,⟨q,hq,_,⟨q2,hq2,_,rfl,rfl⟩,rfl⟩,rfl⟩:=hvs;exact⟨p,some q,some q2,hp,hr,bdo l q hq,bdo u q2 hq2⟩
 obtain⟨p,lp,hp,hep,hsl,hlp,hhp⟩:=key;have h1:=bT hgl k hx hep;generalize hA:a.eval x=A at h1;unfold HH at hsl;cases h1<;>simp only at hsl<;>(try cases hsl)
 rename_i b off hb;simp only[Option.aa]at hsl;obtain⟨cs,hcs,hsl⟩:=hsl;split at hsl
 ·rename_i hfit
  simp only[Option.aa]at hsl;obtain⟨hh,b2,ll,b3,hsl⟩:=hsl;rw[hhp]at b2;rw[hlp]at b3;obtain⟨c1,c2,mc,c3,c4,c5,c6,c7⟩:=mS (P:=P) (isS:=false) hgl k (Nat.le_refl len) hlo hhi (mx:=none) (mx':=none) rfl (.inl rfl) (m:=len) rfl b2 b3;have hmc:mc=len:=c6 rfl;subst hmc;obtain⟨_,_,arr,T,l0,h0,_,_,hcp,_⟩:=k.cells hcs;have run:(execOp a.eval o).run P w=.ok (.value (.slice (some (if mc=ll then⟨g.ι b,off,none⟩ else(⟨g.ι b,off,none⟩ : Addr).add (ll*n))) (hh-ll) (mc-ll))) w:=by
   simp only[Option.map_none]at c7;simp only[execOp,ho,hA,Instr.sliceAt,Instr.sureAddr,Sem.run_bind,run_underlying hu,Result.andThen,Sem.run_pure,Option.map_none,c7,cZ hn]
  by_cases he:hh-ll=0
  ·rw[if_pos he]at hsl
   simp only[Option.some.injEq]at hsl;subst hsl;refine aI k run ?_;rw[he];split
   ·exact RV.sl (N0:=N0) (g:=g) (w:=w) _ n [] (g.ι b) off (mc-ll) (fun _ _=>Go.undef) (by simp) (by simp) (by simp) (by simp) (by simp) (by simp) none (fun _=>rfl) (by simp)
   ·rw[dN]
    exact RV.sl (N0:=N0) (g:=g) (w:=w) _ n [] (g.ι b) _ (mc-ll) (fun _ _=>Go.undef) (by simp) (by simp) (by simp) (by simp) (by simp) (by simp) none (fun _=>rfl) (by simp)
  ·rw[if_neg he]at hsl
   simp only[Option.some.injEq]at hsl;subst hsl;refine aI k run ?_;rw[if_neg (by omega),dN];refine .bX _ b _ _ n _ hb (by omega) (fun hf=>by simp only[beq_iff_eq]at hf;omega) ?_;have hle:ll*n+(mc-ll)*n≤mc*n:=by rw[←Nat.add_mul];exact Nat.mul_le_mul_right _ (by omega)
   omega
 ·cases hsl
theorem SM (k:Ok (N0:=N0) w0 g e a.tmps h w) {t:TypeId} {x:Operand} {lo hi mx:Option Operand} (ho:o.op=.slice t x lo hi mx) (hc:jO P gl md o=some aop)
  (hs:step orc base draw aop e h=some (v,e',h')):cm N0 P w0 g a w (execOp a.eval o) v e' h':=by
 simp only[jO,ho]at hc
 by_cases hmh0:(mx.isSome&&hi.isNone)=true
 ·rw[if_pos hmh0]at hc;cases hc
 rw[if_neg hmh0]at hc;have hmh:mx=none∨hi≠none:=by
  cases mx with
  | none=>exact .inl rfl
  | some y=>cases hi with
   | none=>simp at hmh0
   | some z=>exact .inr (by simp)
 split at hc
 ·-- a string
  rename_i hu;simp only[Option.bind_eq_some_iff,Option.map_eq_some_iff]at hc;obtain⟨x',hx,lo',hlo,hi',hhi,mx',hmx,rfl⟩:=hc;simp only[step,Option.aa,Option.some.injEq,Prod.mk.injEq]at hs;obtain⟨p,hp,r,hr,rfl,rfl,rfl⟩:=hs;have h1:=bT hgl k hx hp;generalize hA:a.eval x=A at h1;cases h1<;>simp only[iD]at hr
  case str l s hl =>
   split at hr
   ·cases hr
   ·rename_i hq
    simp only[Option.aa,Option.some.injEq]at hr;obtain⟨hh,b2,ll,b3,rfl⟩:=hr;have hlen:l.length=s.size:=by rw[←hl];simp
    have hmx0:mx'=none:=by cases mx'<;>simp at hq ⊢
    subst hmx0;have hm0:mx=none:=by
     cases mx with
     | none=>rfl
     | some y=>simp[cOpt]at hmx
    subst hm0;obtain⟨c1,c2,mc,c3,c4,c5,c6,c7⟩:=mS (P:=P) (isS:=false) hgl k (Nat.le_refl l.length) hlo hhi hmx hmh (m:=l.length) rfl b2 b3;rw[hlen]at c7;refine aI (u:=.string (s.extract ll hh)) k ?_ (.str _ _ ?_)
    ·simp only[execOp,ho,hA,Instr.sliceAt,Instr.slice,Sem.run_bind,run_underlying hu,Result.andThen,Option.map_none,Option.isSome_none,Bool.false_eq_true,if_false,Sem.run_pure]
     simp only[Option.map_none]at c7;rw[c7]
    ·rw[←hl]
     simp[List.take_drop,List.extract_eq_take_drop] 
  all_goals (simp at hr)
 ·rename_i el hu
  simp only[Option.bind_eq_some_iff,Option.map_eq_some_iff]at hc;obtain⟨n,hn,x',hx,lo',hlo,hi',hhi,mx',hmx,rfl⟩:=hc;simp only[step,Option.aa,Option.some.injEq,Prod.mk.injEq]at hs;obtain⟨p,hp,r,hr,rfl,rfl,rfl⟩:=hs;have h1:=bT hgl k hx hp;generalize hA:a.eval x=A at h1;have hmxs:mx'.isSome=true→mx≠none:=by
   intro hq hq2;subst hq2;simp[cOpt]at hmx;subst hmx;simp at hq
  have hmxn:mx'.isNone=true→mx=none:=by
   intro hq;cases mx with
   | none=>rfl
   | some y =>
    simp only[cOpt,Option.map_eq_some_iff]at hmx;obtain⟨z,_,rfl⟩:=hmx;simp at hq
  have run:∀ (A0:Option Addr) (len cap l hh mc:Nat),A=.slice A0 len cap→(Instr.sliceBounds true len cap (lo.map a.eval) (hi.map a.eval) (mx.map a.eval)).run P w=.ok (l,hh,mc) w →
    (execOp a.eval o).run P w=.ok (.value (.slice (if mc=l then A0 else A0.map (·.add (l*n))) (hh-l) (mc-l))) w:=by
   rintro A0 len cap l hh mc rfl hb;simp only[execOp,ho,hA,Instr.sliceAt,Instr.slice,Sem.run_bind,run_underlying hu,Result.andThen,Sem.run_pure,hb,cZ hn]
  cases h1<;>simp only[iD]at hr
  case bg =>
   split at hr
   ·simp only[Option.aa,Option.some.injEq]at hr
    obtain⟨m,b1,hh,b2,ll,b3,rfl⟩:=hr;have hm0:m=0:=by
     cases mx' with
     | none=>simp only[bd,Option.some.injEq]at b1;exact b1.symm
     | some y =>
      cases mx with
      | none=>simp[cOpt]at hmx
      | some z=>simp only[cOpt,Option.map_eq_some_iff]at hmx;obtain⟨q,hq,hq2⟩:=hmx;cases hq2;have:=(BW (P:=P) hgl k hq b1).1;omega
    subst hm0;have hh0:hh=0:=by
     cases hi' with
     | none=>simp only[bd,Option.some.injEq]at b2;exact b2.symm
     | some y =>
      cases hi with
      | none=>simp[cOpt]at hhi
      | some z=>simp only[cOpt,Option.map_eq_some_iff]at hhi;obtain⟨q,hq,hq2⟩:=hhi;cases hq2;have:=(BW (P:=P) hgl k hq b2).1;omega
    subst hh0;obtain⟨c1,c2,mc,c3,c4,c5,c6,c7⟩:=mS (P:=P) (isS:=true) hgl k (Nat.le_refl 0) hlo hhi hmx hmh b1 b2 b3;refine aI k (run none 0 0 ll 0 mc rfl c7) ?_;obtain rfl:ll=0:=by omega
    obtain rfl:mc=0:=by omega
    exact .bg
   ·cases hr
  case sl ow sz es c off cap u q1 q2 q3 q4 q5 q6 q7 q8 q9 =>
   split at hr
   ·rename_i hsz
    simp only[Option.some.injEq]at hsz;subst hsz;simp only[Option.aa,Option.some.injEq]at hr;obtain⟨m,b1,hh,b2,ll,b3,rfl⟩:=hr;obtain⟨c1,c2,mc,c3,c4,c5,c6,c7⟩:=mS (P:=P) (isS:=true) hgl k q1 hlo hhi hmx hmh b1 b2 b3;refine aI k (run _ _ _ ll hh mc rfl c7) ?_
    by_cases hes:es=[]
    ·subst hes
     simp only[List.length_nil]at *;obtain rfl:ll=0:=by omega
     obtain rfl:hh=0:=by omega
     have hv:(Value.slice (if mc=0 then some ⟨c,off,q7⟩ else Option.map (fun x:Addr=>x.add (0*n)) (some ⟨c,off,q7⟩)) (0-0) (mc-0))=Value.slice (some ⟨c,off,q7⟩) 0 mc:=by simp[Addr.add]
     rw[hv];simp only[List.drop_nil,List.take_nil];refine RV.sl (N0:=N0) (g:=g) (w:=w) _ n [] c off mc (fun _ _=>Go.undef) (by simp) ?_ (by simp) (by simp) (by simp) (by simp) q7 (by simp) (by intro t ht;split at ht<;>(try split at ht)<;>cases ht);intro hfull;split at hfull
     ·rename_i hq
      simp only[Bool.and_eq_true,beq_iff_eq]at hq;have:=c5 (hmxs hq.1);simp;omega
     ·split at hfull
      ·rename_i hq
       simp only[Bool.and_eq_true,beq_iff_eq]at hq;have h1:=c6 (hmxn hq.1.1);have h2:cap=0:=by
        apply q2;cases ow<;>simp[isFull]at hq ⊢
       simp;omega
      ·cases hfull
    obtain rfl:=q8 hes;have hlen:((es.drop ll).take (hh-ll)).length=hh-ll:=by simp;omega
    have hget:∀ i e,((es.drop ll).take (hh-ll))[i]?=some e→i<hh-ll∧es[ll+i]?=some e:=by
     intro i e he;have hi:i<hh-ll:=by rw[←hlen];exact(List.getElem?_eq_some_iff.1 he).1
     rw[List.getElem?_take,if_pos hi,List.getElem?_drop]at he;exact⟨hi,he⟩
    have hmk:∀ off',(hh-ll=0∨off'=off+ll*n)→RV N0 g w (.sl (if mx'.isSome&&m == hh then .full else if mx'.isNone&&isFull ow&&hh == es.length then .full else .no) n ((es.drop ll).take (hh-ll)))
      (.slice (some ⟨c,off',none⟩) (hh-ll) (mc-ll)):=by
     intro off' hoff;have:=RV.sl (N0:=N0) (g:=g) (w:=w) (if mx'.isSome&&m == hh then .full else if mx'.isNone&&isFull ow&&hh == es.length then .full else .no) n
      ((es.drop ll).take (hh-ll)) c off' (mc-ll) (fun i j=>u (ll+i) j) (by rw[hlen];omega) ?_ (fun i e he=>q3 _ _ (hget i e he).2) ?_ (fun i j e z he hz=>q5 _ j e z (hget i e he).2 hz) ?_ none (fun _=>rfl) (by intro t ht;split at ht<;>(try split at ht)<;>cases ht)
     ·rw[hlen]at this;exact this
     ·intro hfull
      rw[hlen];split at hfull
      ·rename_i hq
       simp only[Bool.and_eq_true,beq_iff_eq]at hq;have:=c5 (hmxs hq.1);omega
      ·split at hfull
       ·rename_i hq
        simp only[Bool.and_eq_true,beq_iff_eq]at hq;have h1:=c6 (hmxn hq.1.1);have h2:cap=es.length:=by
         apply q2;cases ow<;>simp[isFull]at hq ⊢
        omega
       ·cases hfull
     ·intro i j hi hj
      rw[hlen]at hi;rcases hoff with hoff | hoff
      ·omega
      ·have:=q4 (ll+i) j (by omega) hj
       rw[hoff,show off+ll*n+(i*n+j)=off+((ll+i)*n+j) by rw[Nat.add_mul];omega];exact this
     ·intro hne
      have hpos:0<hh-ll:=by
       rw[←hlen];exact List.length_pos_iff.2 hne
      have hoff':off'=off+ll*n:=hoff.resolve_left (by omega);rw[hlen,hoff'];have hle:ll*n+(hh-ll)*n≤es.length*n:=by rw[←Nat.add_mul];exact Nat.mul_le_mul_right _ (by omega)
      rcases q6 (by rintro rfl;simp at c2;omega) with q6 | ⟨m',hm',hle'⟩
      ·exact .inl q6
      ·exact .inr ⟨m',hm',by omega⟩
    by_cases hml:mc=ll
    ·rw[if_pos hml]
     exact hmk off (.inl (by omega))
    ·rw[if_neg hml]
     simp only[Option.map_some,dN];exact hmk _ (.inr rfl)
   ·cases hr
  case bX fl b off len sz cap hb hl hfl hcpb =>
   split at hr
   ·rename_i hsz
    simp only[Option.some.injEq]at hsz;subst hsz;simp only[Option.aa]at hr;obtain⟨m,b1,hh,b2,ll,b3,hr⟩:=hr;obtain⟨c1,c2,mc,c3,c4,c5,c6,c7⟩:=mS (P:=P) (isS:=true) hgl k hl hlo hhi hmx hmh b1 b2 b3
    by_cases h0:hh-ll=0
    ·rw[if_pos h0]at hr
     simp only[Option.some.injEq]at hr;subst hr;refine aI k (run _ _ _ ll hh mc rfl c7) ?_;have hmk:∀ off',RV N0 g w (.sl (if mx'.isSome&&m == hh then .full else .no) n []) (.slice (some ⟨g.ι b,off',none⟩) 0 (mc-ll)):=by
      intro off';refine RV.sl (N0:=N0) (g:=g) (w:=w) _ n [] (g.ι b) off' (mc-ll) (fun _ _=>Go.undef) (by simp) ?_ (by simp) (by simp) (by simp) (by simp) none (fun _=>rfl) (by intro t ht;split at ht<;>cases ht);intro hfull;split at hfull
      ·rename_i hq
       simp only[Bool.and_eq_true,beq_iff_eq]at hq;have:=c5 (hmxs hq.1);simp;omega
      ·cases hfull
     rw[h0]
     by_cases hml:mc=ll
     ·rw[if_pos hml];exact hmk off
     ·rw[if_neg hml];simp only[Option.map_some,dN];exact hmk _
    ·rw[if_neg h0]at hr
     simp only[Option.some.injEq]at hr;subst hr;refine aI k (run _ _ _ ll hh mc rfl c7) ?_;rw[if_neg (show ¬ mc=ll by omega)];simp only[Option.map_some,dN];refine .bX _ b _ _ n _ hb (by omega) (fun hfull=>?_) (by
      have hle:ll*n+(mc-ll)*n≤cap*n:=by rw[←Nat.add_mul];exact Nat.mul_le_mul_right _ (by omega)
      omega)
     split at hfull
     ·rename_i hq
      simp only[Bool.and_eq_true,beq_iff_eq]at hq;have:=c5 (hmxs hq.1);omega
     ·simp only[Bool.and_eq_true,beq_iff_eq]at hfull
      have h1:=c6 (hmxn hfull.1.1);have h2:=hfl hfull.1.2;omega
   ·cases hr
  all_goals first | cases hr | (simp at hr)
 ·rename_i len el hu
  split at hc
  ·rename_i hmx0
   obtain rfl:mx=none:=by cases mx<;>simp at hmx0 ⊢
   simp only[Option.bind_eq_some_iff,Option.map_eq_some_iff]at hc;obtain⟨n,hn,x',hx,lo',hlo,hi',hhi,rfl⟩:=hc;exact Pu hgl k ho hu hn hx hlo hhi hs
  ·cases hc
 ·cases hc
end
end Go.Am
namespace Go.Am
open Go.RowKit (Below)
theorem BX (off:Nat):∀ (vs:List Value) (j0:Nat) (arr:Array Value),((vs.zipIdx j0).foldl (fun cs (x:Value × Nat)=>cs.setIfInBounds (off+x.2) x.1) arr).size=arr.size ∧
  ∀ q,((vs.zipIdx j0).foldl (fun cs (x:Value × Nat)=>cs.setIfInBounds (off+x.2) x.1) arr)[q]? =
   if off+j0≤q∧q<off+j0+vs.length∧q<arr.size then vs[q-(off+j0)]? else arr[q]?
 | [],j0,arr=>⟨rfl,fun q=>by simp;omega⟩
 | v::vs,j0,arr=>by
  simp only[List.zipIdx_cons,List.foldl_cons];obtain⟨h1,h2⟩:=BX off vs (j0+1) (arr.setIfInBounds (off+j0) v);refine⟨by rw[h1];simp,fun q=>?_⟩;rw[h2,Array.size_setIfInBounds,List.length_cons]
  by_cases hq:q=off+j0
  ·subst hq
   rw[if_neg (by omega)]
   by_cases hlt:off+j0<arr.size
   ·rw[if_pos (by omega)]
    simp[hlt]
   ·rw[if_neg (by omega)]
    simp[hlt]
  ·rw[Array.getElem?_setIfInBounds_ne (by omega)]
   by_cases hc:off+j0≤q∧q<off+j0+(vs.length+1)∧q<arr.size
   ·rw[if_pos (by omega),if_pos hc,show q-(off+j0)=(q-(off+(j0+1)))+1 by omega,List.getElem?_cons_succ]
   ·rw[if_neg (by omega),if_neg hc]
theorem BY (off:Nat) (vs arr:Array Value):(vs.zipIdx.foldl (fun cs (x:Value × Nat)=>cs.setIfInBounds (off+x.2) x.1) arr).size=arr.size ∧
  ∀ q,(vs.zipIdx.foldl (fun cs (x:Value × Nat)=>cs.setIfInBounds (off+x.2) x.1) arr)[q]?=if off≤q∧q<off+vs.size∧q<arr.size then vs[q-off]? else arr[q]?:=by
 have:=BX off vs.toList 0 arr;rw[←Array.foldl_toList,Array.toList_zipIdx];simpa using this
section
variable {N0:Nat} {P:Program} {w0:World} {g:G} {e:Env} {a:Act} {h:Hp} {w:World}
variable {o:Oper} {md:Nat} {orc:iG} {base:Nat} {draw:Bool} {aop:iP} {v:PV} {e':Env} {h':Hp} {gl:cR} (hgl:dR gl N0 w0)
include hgl
def Holds (N0:Nat) (g:G) (w:World) (sz:Nat) (es:List PV) (arr:Array Value):Prop :=
 arr.size=es.length*sz∧(∀ (i:Nat) (x:PV),es[i]?=some x→x.cells.length=sz) ∧
 ∀ (i j:Nat) (x y:PV),es[i]?=some x→x.cells[j]?=some y→RV N0 g w y (arr.getD (i*sz+j) Go.undef)
omit hgl in
theorem Vq {i j q sz:Nat} (hj:j<sz) (h1:i*sz≤q) (h2:q<i*sz+sz) {i':Nat} (hq:q=i'*sz+j):i'=i:=by
 rcases Nat.lt_trichotomy i i' with h | h | h
 ·have:=Nat.mul_le_mul_right sz h
  rw[Nat.succ_mul]at this;omega
 ·exact h.symm
 ·have:=Nat.mul_le_mul_right sz h
  rw[Nat.succ_mul]at this;omega
theorem Dh (k:Ok (N0:=N0) w0 g e a.tmps h w) {sz:Nat} (hpos:sz≠0):∀ (ps:List (Nat × Operand)) (ps':List (Nat × bH)) (l:List (Nat × PV)) (es es':List PV) (arr:Array Value),
  nG gl ps=some ps'→eX e ps'=some l→eV sz l es=some es'→Holds N0 g w sz es arr →
  ∃ arr',Instr.fill (fun i=>some (i*sz,sz)) arr (ps.map fun x=>(x.1,a.eval x.2))=some arr'∧Holds N0 g w sz es' arr'∧es'.length=es.length
 | [],ps',l,es,es',arr,h1,h2,h3,h4=>by
  simp[nG]at h1;subst h1;simp[eX]at h2;subst h2;simp[eV]at h3;subst h3;exact⟨arr,by simp[Instr.fill],h4,rfl⟩
 |(i,x)::ps,ps',l,es,es',arr,h1,h2,h3,h4=>by
  simp only[nG,Option.bind_eq_some_iff,Option.map_eq_some_iff]at h1;obtain⟨x',hx,ps1,hps,rfl⟩:=h1;simp only[eX,Option.aa,Option.map_eq_some_iff]at h2;obtain⟨p,hp,l1,hl,rfl⟩:=h2;simp only[eV]at h3;split at h3
  ·rename_i hcond
   obtain⟨hlen,hil,hscal⟩:=hcond;have hr:=iz (bT hgl k hx hp);have hu:strip p≠.undef:=by intro hq;rw[hq]at hscal;simp[PV.cells,scalar]at hscal
   ·have hsz:(a.eval x).cells.size=sz:=by rw[(lE hr hu).1,hlen]
    obtain⟨g1,g2,g3⟩:=h4;have hle:i*sz+sz≤arr.size:=by
     rw[g1];have:=Nat.mul_le_mul_right sz hil;rwa [Nat.succ_mul]at this
    obtain⟨c1,c2⟩:=BY (i*sz) (a.eval x).cells arr;have hold:Holds N0 g w sz (es.set i (strip p)) ((a.eval x).cells.zipIdx.foldl (fun cs (x:Value × Nat)=>cs.setIfInBounds (i*sz+x.2) x.1) arr):=by
     refine⟨by rw[c1,List.length_set];exact g1,?_,?_⟩
     ·intro i' y hy
      by_cases hii:i=i'
      ·subst hii;rw[List.getElem?_set_self hil]at hy;cases hy;exact hlen
      ·rw[List.getElem?_set_ne hii]at hy;exact g2 i' y hy
     ·intro i' j y z hy hz
      rw[Array.getD_eq_getD_getElem?,c2]
      by_cases hii:i=i'
      ·subst hii
       rw[List.getElem?_set_self hil]at hy;cases hy;have hj:j<sz:=by rw[←hlen];exact(List.getElem?_eq_some_iff.1 hz).1
       rw[if_pos (by omega),show i*sz+j-i*sz=j by omega,←Array.getD_eq_getD_getElem?];exact(lE hr hu).2 j z hz
      ·rw[List.getElem?_set_ne hii]at hy
       have hj:j<sz:=by rw[←g2 i' y hy];exact(List.getElem?_eq_some_iff.1 hz).1
       rw[if_neg,←Array.getD_eq_getD_getElem?]
       ·exact g3 i' j y z hy hz
       ·rintro⟨q1,q2,q3⟩
        rw[hsz]at q2;exact hii (Vq hj q1 q2 rfl).symm
    obtain⟨arr',f1,f2,f3⟩:=Dh k hpos ps ps1 l1 _ es' _ hps hl h3 hold;refine⟨arr',?_,f2,by rw[f3,List.length_set]⟩;simp only[List.map_cons,Instr.fill];rw[if_neg]
    ·exact f1
    ·simp only[hsz,ne_eq,not_true_eq_false,Bool.or_eq_true,decide_eq_true_eq,false_or]
     simp;omega
  ·cases h3
theorem MV (k:Ok (N0:=N0) w0 g e a.tmps h w) {t:TypeId} {len:Nat} {ps:Array (Nat × Operand)} (ho:o.op=.buildSlice t len ps) (hmd:md≠1) (hc:jO P gl md o=some aop)
  (hs:step orc base draw aop e h=some (v,e',h')):cm N0 P w0 g a w (execOp a.eval o) v e' h':=by
 simp only[jO,ho,if_neg hmd]at hc;split at hc
 ·rename_i el hu
  simp only[Option.bind_eq_some_iff]at hc;obtain⟨n,hn,gg,hg,z,hz,hc⟩:=hc;split at hc
  ·rename_i hcond
   simp only[Bool.and_eq_true,decide_eq_true_eq,bne_iff_ne,ne_eq,beq_iff_eq,Bool.or_eq_true]at hcond;obtain⟨⟨⟨⟨hsmall,hn0⟩,hzl⟩,hzs⟩,hg1⟩:=hcond;simp only[Option.map_eq_some_iff]at hc;obtain⟨ps',hps,rfl⟩:=hc;simp only[step,Option.aa,Option.some.injEq,Prod.mk.injEq]at hs;obtain⟨l,hl,es,hes,rfl,rfl,rfl⟩:=hs;obtain⟨i,u,hi,hiu,husz,hzr⟩:=kJ (N0:=N0) hz;have hisz:i.size=n:=by simp only[sizeOf,Option.map_eq_some_iff]at hn;obtain⟨i',h1,h2⟩:=hn;rw[hi]at h1;cases h1;exact h2
   -- what it Vr with
   have sq:(if gg then PV.agg z else z.headD .undef).cells=z:=by
    cases gg with
    | true=>rfl
    | false =>
     have h1:n=1:=by simpa using hg1
     rw[h1]at hzl
     match z,hzl,hzs with
     | [x],_,hx =>
      simp only[List.all_cons,List.all_nil,Bool.and_true]at hx;cases x<;>simp_all [PV.cells,scalar]
   let j7:Array Value:=(Array.range (len*n)).map (u.cells[· % u.cells.size]!)
   have hH:Holds N0 g w n (List.replicate len (if gg then PV.agg z else z.headD .undef)) j7:=by
    refine⟨by simp[j7],?_,?_⟩
    ·intro q x hx
     rw[List.getElem?_replicate]at hx;split at hx
     ·cases hx;rw[sq,hzl]
     ·cases hx
    ·intro q j x y hx hy
     rw[List.getElem?_replicate]at hx;split at hx
     ·rename_i hq
      cases hx;rw[sq]at hy;have hj:j<n:=by rw[←hzl];exact(List.getElem?_eq_some_iff.1 hy).1
      have hlt:q*n+j<len*n:=fH hq hj;have YF:u.cells.size=n:=by omega
      have hmod:(q*n+j) % u.cells.size=j:=by
       rw[YF,Nat.mul_comm,Nat.mul_add_mod,Nat.mod_eq_of_lt hj]
      have:=hzr g w j y hy;have hval:j7.getD (q*n+j) Go.undef=u.cells.getD j Go.undef:=by
       simp only[j7,Array.getD_eq_getD_getElem?,Array.getElem?_map];rw[show(Array.range (len*n))[q*n+j]?=some (q*n+j) by simp[hlt]];simp only[Option.map_some,Option.getD_some];rw[hmod];have hj':j<u.cells.size:=by omega
       simp[hj']
      rw[hval];exact this
     ·cases hx
   obtain⟨arr,f1,⟨f2,f3,f4⟩,f5⟩:=Dh hgl k hn0 ps.toList ps' l _ es j7 hps hl hes hH;have hlen:es.length=len:=by simpa using f5
   obtain⟨g',hx',hok,hhw⟩:=zy k arr el (len*n) (w.alloc (.cells arr el)) (lo:=0) (hi:=0) (.inl rfl);refine⟨_,.slice (some ⟨w.heap.size,0,none⟩) len len,_,g',?_,.inl rfl,hx',hok,?_⟩
   ·have hsm:¬ (len*n > 2 ^ 24):=by simp;omega
    have qY:(ps.map fun(x:Nat × Operand)=>(x.1,a.eval x.2)).toList=ps.toList.map fun x=>(x.1,a.eval x.2):=by simp
    simp only[execOp,ho,Instr.buildSlice,Sem.run_bind,run_underlying hu,Result.andThen,cZ hn,if_neg hsm,Sem.run_pure]
    by_cases h0:len*n=0
    ·have hl0:len=0:=by
      rcases Nat.mul_eq_zero.1 h0 with h' | h'
      ·exact h'
      ·exact(hn0 h').elim
     subst hl0;have YG:Instr.fill (fun i=>some (i*n,n)) ((Array.range (0*n)).map ((#[] : Array Value)[· % (#[] : Array Value).size]!)) (ps.toList.map fun x=>(x.1,a.eval x.2))=some arr:=by
      rw[←f1];congr 1;simp[j7]
     simp only[if_pos h0,Sem.run_pure,Sem.run_bind,Result.andThen,qY];simp only[YG,newRow,Sem.run_bind];simp
    ·simp only[if_neg h0,Sem.run_pure,Sem.run_bind,Result.andThen,oU hi hiu,qY]
     have YG:Instr.fill (fun i=>some (i*n,n)) ((Array.range (len*n)).map (u.cells[· % u.cells.size]!)) (ps.toList.map fun x=>(x.1,a.eval x.2))=some arr:=f1;simp only[YG,newRow];simp
   ·have:=RV.sl (N0:=N0) (g:=g') (w:=w.alloc (.cells arr el)) .full n es w.heap.size 0 len (fun i j=>arr.getD (i*n+j) Go.undef) (by omega) (fun _=>hlen.symm) f3 ?_ ?_ ?_ none (fun _=>rfl) (by intro t ht;cases ht)
    ·rw[hlen]at this;exact this
    ·intro i j hi' hj
     have hlt:i*n+j<arr.size:=by rw[f2];exact fH hi' hj
     rw[Nat.zero_add,World.cell?_alloc_new];simp[Array.getD_eq_getD_getElem?,hlt]
    ·intro i j x y hx hy
     exact(f4 i j x y hx hy).mono hx'
    ·intro _
     exact .inr ⟨len*n,hhw,by rw[hlen];omega⟩
  ·cases hc
 ·cases hc
omit hgl in
theorem od {x:PV} (hx:scalar x=true):x.cells=[x]:=by cases x<;>simp_all [PV.cells,scalar]
omit hgl in
theorem qD {e:Env}:∀ {ps:List (Nat × bH)} {l:List (Nat × PV)},iH ps=some l→eX e ps=some l
 | [],l,h=>by simp only[iH,Option.some.injEq]at h;subst h;rfl
 |(i,.tmp t)::r,l,h=>by simp[iH]at h
 |(i,.const v)::r,l,h=>by
  simp only[iH,Option.map_eq_some_iff]at h;obtain⟨l',h1,rfl⟩:=h;simp only[eX,ev,Option.ag,qD h1,Option.map_some]
theorem I9 (k:Ok (N0:=N0) w0 g e a.tmps h w) {t:TypeId} {len:Nat} {ps:Array (Nat × Operand)} (ho:o.op=.buildSlice t len ps) {el:TypeId} (hu:P.underlying t=some (.slice el)) (hn:sizeOf P el=some 1) {z:List PV} (hz:zeroOf P el=some z)
  {ps':List (Nat × bH)} (hps:nG gl ps.toList=some ps') {l:List (Nat × PV)} (hlc:iH ps'=some l) {es:List PV} (hes:eV 1 l (List.replicate len (z.headD .undef))=some es) (hl0:¬ len=0) (hsmall:len≤16777216) (hzl:z.length=1) (YH:z.all scalar=true) (hall:es.all scalar=true)
  (hs:step orc base draw (.gen (.fC es) []) e h=some (v,e',h')):cm N0 P w0 g a w (execOp a.eval o) v e' h':=by
 simp only[step,nA,Option.ag,cV,Option.some.injEq,Prod.mk.injEq]at hs;obtain⟨rfl,rfl,rfl⟩:=hs;have hl:eX e ps'=some l:=qD hlc;obtain⟨z0,rfl⟩ : ∃ x,z=[x]:=by
  match z,hzl with
  | [x],_=>exact⟨x,rfl⟩
 simp only[List.headD_cons]at hes;obtain⟨i,u,hi,hiu,husz,hzr⟩:=kJ (N0:=N0) hz;have hisz:i.size=1:=by simp only[sizeOf,Option.map_eq_some_iff]at hn;obtain⟨i',h1,h2⟩:=hn;rw[hi]at h1;cases h1;exact h2
 simp only[List.length_singleton]at husz;have hzs:scalar z0=true:=by simpa using YH
 have sq:z0.cells=[z0]:=od hzs
 let j7:Array Value:=(Array.range (len*1)).map (u.cells[· % u.cells.size]!)
 have hH:Holds N0 g w 1 (List.replicate len z0) j7:=by
  refine⟨by simp[j7],?_,?_⟩
  ·intro q x hx
   rw[List.getElem?_replicate]at hx;split at hx
   ·cases hx;rw[sq];rfl
   ·cases hx
  ·intro q j x y hx hy
   rw[List.getElem?_replicate]at hx;split at hx
   ·rename_i hq
    cases hx;rw[sq]at hy;have hj:j=0:=by have:=(List.getElem?_eq_some_iff.1 hy).1;simp at this;exact this
    subst hj;have:=hzr g w 0 y (by simpa using hy);have hval:j7.getD (q*1+0) Go.undef=u.cells.getD 0 Go.undef:=by
     simp only[j7,Array.getD_eq_getD_getElem?,Array.getElem?_map,Nat.mul_one,Nat.add_zero,husz,Nat.mod_one];rw[show(Array.range len)[q]?=some q by simp[hq]];simp[husz]
    rw[hval];exact this
   ·cases hx
 obtain⟨arr,f1,⟨f2,f3,f4⟩,f5⟩:=Dh hgl k (by decide:(1:Nat)≠0) ps.toList ps' l _ es j7 hps hl hes hH;have hlen:es.length=len:=by simpa using f5
 obtain⟨g',hx',hok,hgn,hι,hcp⟩:=jP k arr el es (by omega) (fun j x hx=>by
  have hsx:=List.all_eq_true.1 hall x (List.mem_of_getElem? hx);have:=f4 j 0 x x hx (by rw[od hsx];rfl);simpa using this) (fun T' hq=>(mR hall 0 T' hq).elim) (lo:=0) (hi:=0) (fun hq=>(hq rfl).elim) (w1:=w.alloc (.cells arr el)) (.inl rfl)
 refine⟨_,.slice (some ⟨w.heap.size,0,none⟩) len len,_,g',?_,.inl rfl,hx',hok,?_⟩
 ·have hsm:¬ (len*1 > 2 ^ 24):=by simp;omega
  have qY:(ps.map fun(x:Nat × Operand)=>(x.1,a.eval x.2)).toList=ps.toList.map fun x=>(x.1,a.eval x.2):=by simp
  simp only[execOp,ho,Instr.buildSlice,Sem.run_bind,run_underlying hu,Result.andThen,cZ hn,if_neg hsm,Sem.run_pure];have h0:¬ (len*1=0):=by omega
  simp only[if_neg h0,Sem.run_pure,Sem.run_bind,Result.andThen,oU hi hiu,qY];have YG:Instr.fill (fun i=>some (i*1,1)) ((Array.range (len*1)).map (u.cells[· % u.cells.size]!)) (ps.toList.map fun x=>(x.1,a.eval x.2))=some arr:=f1;simp only[YG,newRow];simp
 ·rw[hlen,←hι]
  exact .bX true (size h) 0 len 1 len (by omega) (Nat.le_refl _) (fun _=>rfl) (by rw[hcp];omega)
omit hgl in
theorem nJ:∀ (vs:List PV) (cs:List PV) (off:Nat),(bE cs off vs).length=cs.length∧∀ q,(bE cs off vs)[q]?=if off≤q∧q<off+vs.length∧q<cs.length then vs[q-off]? else cs[q]?
 | [],cs,off=>⟨rfl,fun q=>by simp[bE];omega⟩
 | v::vs,cs,off=>by
  obtain⟨h1,h2⟩:=nJ vs (cs.set off v) (off+1);refine⟨by simp only[bE];rw[h1,List.length_set],fun q=>?_⟩;simp only[bE];rw[h2,List.length_set,List.length_cons]
  by_cases hq:off=q
  ·subst hq
   rw[if_neg (by omega)]
   by_cases hlt:off<cs.length
   ·rw[if_pos (by omega),List.getElem?_set_self hlt];simp
   ·rw[if_neg (by omega),List.getElem?_eq_none (by rw[List.length_set];omega),List.getElem?_eq_none (by omega)]
  ·rw[List.getElem?_set_ne hq]
   by_cases hc:off≤q∧q<off+(vs.length+1)∧q<cs.length
   ·rw[if_pos (by omega),if_pos hc,show q-off=(q-(off+1))+1 by omega,List.getElem?_cons_succ]
   ·rw[if_neg (by omega),if_neg hc]
theorem zD (k:Ok (N0:=N0) w0 g e a.tmps h w) {place:Nat→Option (Nat × Nat)}:∀ (ps:List (Nat × Operand)) (ps':List (Nat × Nat × bH)) (l:List (Nat × Nat × PV)) (cs cs':List PV) (arr:Array Value),
  (List.map Prod.fst ps).length=ps'.length→(∀ (j:Nat) (p:Nat × Operand) (p':Nat × Nat × bH),ps[j]?=some p→ps'[j]?=some p'→place p.1=some (p'.1,p'.2.1)∧aU gl p.2=some p'.2.2) →
  eY e ps'=some l→iy l cs=some cs'→arr.size=cs.length→(∀ (q:Nat) (y:PV),cs[q]?=some y→RV N0 g w y (arr.getD q Go.undef)) →
  ∃ arr',Instr.fill place arr (ps.map fun x=>(x.1,a.eval x.2))=some arr'∧arr'.size=cs'.length∧cs'.length=cs.length∧∀ (q:Nat) (y:PV),cs'[q]?=some y→RV N0 g w y (arr'.getD q Go.undef)
 | [],ps',l,cs,cs',arr,h0,h1,h2,h3,h4,h5=>by
  have:ps'=[]:=by cases ps';rfl;simp at h0
  subst this;simp[eY]at h2;subst h2;simp[iy]at h3;subst h3;exact⟨arr,by simp[Instr.fill],h4,rfl,h5⟩
 |(i,x)::ps,[],l,cs,cs',arr,h0,h1,h2,h3,h4,h5=>by simp at h0
 |(i,x)::ps,(off,n,x')::ps',l,cs,cs',arr,h0,h1,h2,h3,h4,h5=>by
  obtain⟨Oy,hx⟩:=h1 0 _ _ rfl rfl;simp only[eY,Option.aa,Option.map_eq_some_iff]at h2;obtain⟨p,hp,l1,hl,rfl⟩:=h2;simp only[iy]at h3;split at h3
  ·rename_i hcond
   obtain⟨hlen,hle,hscal⟩:=hcond;have hr:=(bT hgl k hx hp);have hu:p≠.undef:=by intro hq;rw[hq]at hscal;simp[PV.cells,scalar]at hscal
   obtain⟨q1,q2⟩:=lE hr hu;obtain⟨c1,c2⟩:=BY off (a.eval x).cells arr;obtain⟨s1,s2⟩:=nJ p.cells cs off;have hsz:(a.eval x).cells.size=n:=by rw[q1,hlen]
   have hnew:∀ (q:Nat) (y:PV),(bE cs off p.cells)[q]?=some y→RV N0 g w y (((a.eval x).cells.zipIdx.foldl (fun cs (x:Value × Nat)=>cs.setIfInBounds (off+x.2) x.1) arr).getD q Go.undef):=by
    intro q y hy;rw[s2]at hy;rw[Array.getD_eq_getD_getElem?,c2]
    by_cases hc:off≤q∧q<off+p.cells.length∧q<cs.length
    ·rw[if_pos hc]at hy
     rw[if_pos (by omega),←Array.getD_eq_getD_getElem?];exact q2 _ y hy
    ·rw[if_neg hc]at hy
     rw[if_neg (by omega),←Array.getD_eq_getD_getElem?];exact h5 q y hy
   obtain⟨arr',f1,f2,f3,f4⟩:=zD k ps ps' l1 _ cs' ((a.eval x).cells.zipIdx.foldl (fun cs (x:Value × Nat)=>cs.setIfInBounds (off+x.2) x.1) arr) (by simpa using h0)
    (fun j p p' hj hj'=>h1 (j+1) p p' (by simpa using hj) (by simpa using hj')) hl h3 (by rw[c1,s1,h4]) hnew
   refine⟨arr',?_,f2,by rw[f3,s1],f4⟩;simp only[List.map_cons,Instr.fill,Oy];rw[if_neg]
   ·exact f1
   ·simp only[hsz,ne_eq,not_true_eq_false,Bool.or_eq_true,decide_eq_true_eq,false_or]
    simp;omega
  ·cases h3
omit hgl in
theorem Fm {α β:Type} (f:α→Option β):∀ (l:List α) (r:List β),l.mapM f=some r→∀ (i:Nat) (x:α),l[i]?=some x→f x=r[i]?
 | [],r,h,i,x,hx=>by simp at hx
 | y::l,r,h,i,x,hx=>by
  simp only[List.mapM_cons,Option.bind_eq_bind,Option.pure_def,Option.bind_eq_some_iff]at h;obtain⟨b,hb,bs,hbs,hr⟩:=h;simp only[Option.some.injEq]at hr;subst hr;cases i with
  | zero=>simp at hx;subst hx;simp[hb]
  | succ i=>simpa using Fm f l bs hbs i x (by simpa using hx)
omit hgl in
theorem zE {fs:Array Field}:∀ (ps:List (Nat × Operand)) (ps':List (Nat × Nat × bH)),zc P gl fs ps=some ps'→ps.length=ps'.length ∧
  ∀ (j:Nat) (p:Nat × Operand) (p':Nat × Nat × bH),ps[j]?=some p→ps'[j]?=some p'→(∃ f n,fs[p.1]?=some f∧sizeOf P f.type=some n∧p'.1=f.offset∧p'.2.1=n)∧aU gl p.2=some p'.2.2
 | [],ps',h=>by simp[zc]at h;subst h;exact⟨rfl,fun j p p' hj=>by simp at hj⟩
 |(i,x)::ps,ps',h=>by
  simp only[zc,Option.bind_eq_some_iff,Option.map_eq_some_iff]at h;obtain⟨f,hf,n,hn,y,hy,r,hr,rfl⟩:=h;obtain⟨h1,h2⟩:=zE ps r hr;refine⟨by simp[h1],fun j p p' hj hj'=>?_⟩;cases j with
  | zero=>simp at hj hj';subst hj;subst hj';exact⟨⟨f,n,hf,hn,rfl,rfl⟩,hy⟩
  | succ j=>exact h2 j p p' (by simpa using hj) (by simpa using hj')
omit hgl in
theorem uI {n:Nat}:∀ (ps:List (Nat × Operand)) (ps':List (Nat × Nat × bH)),rZ P gl n ps=some ps'→ps.length=ps'.length ∧
  ∀ (j:Nat) (p:Nat × Operand) (p':Nat × Nat × bH),ps[j]?=some p→ps'[j]?=some p'→(p'.1=p.1*n∧p'.2.1=n)∧aU gl p.2=some p'.2.2
 | [],ps',h=>by simp[rZ]at h;subst h;exact⟨rfl,fun j p p' hj=>by simp at hj⟩
 |(i,x)::ps,ps',h=>by
  simp only[rZ,Option.bind_eq_some_iff,Option.map_eq_some_iff]at h;obtain⟨y,hy,r,hr,rfl⟩:=h;obtain⟨h1,h2⟩:=uI ps r hr;refine⟨by simp[h1],fun j p p' hj hj'=>?_⟩;cases j with
  | zero=>simp at hj hj';subst hj;subst hj';exact⟨⟨rfl,rfl⟩,hy⟩
  | succ j=>exact h2 j p p' (by simpa using hj) (by simpa using hj')
theorem SN (k:Ok (N0:=N0) w0 g e a.tmps h w) {t:TypeId} {ps:Array (Nat × Operand)} (ho:o.op=.build t ps) (hc:jO P gl md o=some aop)
  (hs:step orc base draw aop e h=some (v,e',h')):cm N0 P w0 g a w (execOp a.eval o) v e' h':=by
 simp only[jO,ho,Option.bind_eq_some_iff]at hc;obtain⟨z,hz,hc⟩:=hc;obtain⟨i,u,hi,hiu,husz,hzr⟩:=kJ (N0:=N0) hz;have fin:∀ (cells:Array Value) (cs:List PV),P.built t (ps.map fun(x:Nat × Operand)=>(x.1,a.eval x.2)).toList=some cells→cells.size=cs.length →
   (∀ (q:Nat) (y:PV),cs[q]?=some y→RV N0 g w y (cells.getD q Go.undef))→cm N0 P w0 g a w (execOp a.eval o) (.agg cs) e h:=by
  intro cells cs hb h1 h2;refine aI k ?_ (.agg cs cells h1 h2);simp only[execOp,ho,Sem.run_bind];rw[show(ps.map fun(x:Nat × Operand)=>match x with | (i,x)=>(i,a.eval x))=ps.map fun(x:Nat × Operand)=>(x.1,a.eval x.2) from rfl,run_build w t _ cells hb];rfl
 have qY:(ps.map fun(x:Nat × Operand)=>(x.1,a.eval x.2)).toList=ps.toList.map fun x=>(x.1,a.eval x.2):=by simp
 split at hc
 ·rename_i fs hu
  split at hc
  ·rename_i Oy
   simp only[Option.map_eq_some_iff]at hc;obtain⟨ps',hps,rfl⟩:=hc;simp only[step,Option.aa,Option.some.injEq,Prod.mk.injEq]at hs;obtain⟨l,hl,cs,hcs,rfl,rfl,rfl⟩:=hs;obtain⟨places,K3⟩:=Option.isSome_iff_exists.1 Oy;obtain⟨hlen,hget⟩:=zE ps.toList ps' hps;obtain⟨arr,f1,f2,f3,f4⟩:=zD (place:=fun i=>places.toArray[i]?) hgl k ps.toList ps' l z cs u.cells (by simpa using hlen)
    (fun j p p' hj hj'=>by
     obtain⟨⟨f,n,hf,hn,e1,e2⟩,hx⟩:=hget j p p' hj hj';refine⟨?_,hx⟩;have:=Fm _ _ _ K3 p.1 f (by simpa using hf);simp only[sizeOf,Option.map_eq_some_iff]at hn;obtain⟨i',hi',rfl⟩:=hn;rw[hi']at this;simp only[Option.map_some]at this;simp only[List.getElem?_toArray,←this,e1,e2]) hl hcs husz (hzr g w)
   refine fin arr cs ?_ f2 f4;rw[qY];simp only[Program.built,hi,hu,hiu,K3,f1]
  ·cases hc
 ·rename_i len el hu
  simp only[Option.bind_eq_some_iff,Option.map_eq_some_iff]at hc;obtain⟨n,hn,ps',hps,rfl⟩:=hc;simp only[step,Option.aa,Option.some.injEq,Prod.mk.injEq]at hs;obtain⟨l,hl,cs,hcs,rfl,rfl,rfl⟩:=hs;obtain⟨hlen,hget⟩:=uI (P:=P) ps.toList ps' hps;simp only[sizeOf,Option.map_eq_some_iff]at hn;obtain⟨ie,hie,rfl⟩:=hn;obtain⟨arr,f1,f2,f3,f4⟩:=zD (place:=fun i=>some (i*ie.size,ie.size)) hgl k ps.toList ps' l z cs u.cells (by simpa using hlen)
   (fun j p p' hj hj'=>by
    obtain⟨⟨e1,e2⟩,hx⟩:=hget j p p' hj hj';exact⟨by rw[e1,e2],hx⟩) hl hcs husz (hzr g w)
  refine fin arr cs ?_ f2 f4;rw[qY];simp only[Program.built,hi,hu,hiu,hie,f1]
 ·cases hc
end
end Go.Am
