/- Points of a function's code: what the rest of the function does from there, as a plain function of the slots. | Code that keeps fewer slots: what it answers, the code answers. | The functions of the Ze as the abstract machine's code, printed by a program of this work (Yn/v2/Dw.sh, Np.py). | What a aoa list of package-level BM gives. | The functions of the Ze as the abstract machine's code, printed by a program of this work (Yn/v2/Dw.sh, Np.py). | What the functions do from point to point, as equations. sF by Yn/v2/Dw.sh, Np.py. | WD equations of the plain functions. | The Jl equations, acJ. sF by a program of this work. By the session's AI agent. | Slices that grow on top of a heap; bytes. | Slices of values of one form, by value. | A slice that gp, in a heap where boxes come Tg. | A cV in the machine's heap: its box, its bytes, its bN; what is read and written there. | DD: a sum that stays in its range is the sum. | A slice that gp in its box, in a frame: what it holds; what is OO; how the frame ends. | 'bytes.Repeat' of one byte, on the abstract machine. | The Tj NB at this program, in plain words: laid by the kit's own agb; of them Uz that are used. | What 'bytes.Repeat' takes of the model itself. | The abstract machine's code is what the C6 program Qu to, function by function: by the kernel. sF by Yn/v2/Np.py. | What the machine answers in the aoh of a run, the program answers. | 'bytes.Repeat' of one byte, in the C6 program. | The library's functions over maps at this pr
   By the session's AI agent. -/
import Derived.Test.YtmmjmkjoflfpmaaGreatDoorT32
import Derived.Test.YtmmjmkjoflfpmaaGreatDoorProg
import Derived.Test.YtmmjmkjoflfpmaaGreatDoorRows
import Derived.Lib.LaidTab
import Derived.Lib.LaidU8
import Derived.LaidLaws
import Derived.WalkKit
import Derived.KernelRfl
import Derived.Shelf.SlIterI.Nil
import Derived.Shelf.SortM.Plain
import Derived.Shelf.SortM.SortNone
import Derived.Shelf.SlMaps.Clone
import Derived.LoopTactic
import Derived.Handy
import Derived.Deep.RegionHeld3
import Derived.Shelf.Strings.Trim
set_option linter.defProp false
set_option linter.unusedSimpArgs false
set_option linter.unusedVariables false
set_option maxRecDepth 100000
namespace Go.Am
def zS:iM→Bool
 | .Ur _ | .pick _ _ _ | .bin _ _ _ | .CN _ _ _ | .oA _ _ _ | .un _ _ | .toInt _ _ | .load _ _ _ | .aaW _ _ _ _ | .nA _ _ | .field _ _ _ _ | .CO _ _ _ | .oC _ _ _ _
 | .nC _ _ | .oD _ _ _ _ _ | .extract _ _ | .kz _ _ _ _ | .len _ _ | .mD _ _ | .slice _ _ _ _ _ | .rJ _ | .HT _ _ | .build _ _ | .iq _ | .eqv _ _ _ _ | .fE _ _ _ _=>true
 | _=>false
theorem Jx {α:Type} {op:iM} (hp:zS op=true) (orc:iE) (base:Nat) (draw:Bool) (e:Env) (h:Hp) (K:PV→Hp→Option α) :
  cg orc base draw op e h K=(cg orc base draw op e h fun v _=>some v).ah fun v=>K v h:=by
 cases op<;>first | (simp only[cg,aH,Option.ag];done) | cases hp
noncomputable def Dr {α:Type} (g:Option (Nat × Bool)) (p:Bool) (e:Env) (h:Hp) (z:Option PV) (x:Option (PV × Hp)) (y:Option α) (K:PV→Hp→Option α):Option α :=
 match g with
 | none=>y
 | some (t,w)=>(look e t).ah fun v=>(aq v w).ah fun w=>match p with
  | true=>(au w z (some .undef)).ah fun v=>K v h
  | false=>aG (au w x (some (.undef,h))) K
noncomputable def Ds {α:Type} (orc:iE) (base:Nat) (draw:Bool) (l:List cr):Env→Hp→(Env→Hp→Option α)→Option α :=
 List.rec (motive:=fun _=>Env→Hp→(Env→Hp→Option α)→Option α) (fun e h K=>K e h)
  (fun o _ ih e h K=>Dr o.guard (zS o.op) e h (cg orc base draw o.op e h fun v _=>some v) (cg orc base draw o.op e h fun v h=>some (v,h)) (cg orc base draw o.op e h fun v h=>ih (dI e o.dst v) h K)
   fun v h=>ih (dI e o.dst v) h K) l
theorem Ni {α:Type} (orc:iE) (base:Nat) (draw:Bool) (o:cr) (r:List cr) (e:Env) (h:Hp) (K:Env→Hp→Option α) :
  Ds orc base draw (o::r) e h K=Dr o.guard (zS o.op) e h (cg orc base draw o.op e h fun v _=>some v) (cg orc base draw o.op e h fun v h=>some (v,h)) (cg orc base draw o.op e h fun v h=>Ds orc base draw r (dI e o.dst v) h K)
   fun v h=>Ds orc base draw r (dI e o.dst v) h K:=rfl
theorem tG {orc:iE} {base:Nat} {draw:Bool} {op:iM} {e:Env} {h:Hp} {x:PV × Env × Hp} (hs:step orc base draw op e h=some x):x.2.1=e:=by
 have key:∀ {β:Type} {y:Option β} {f:β→Option (PV × Env × Hp)},(∀ a,f a=some x→x.2.1=e)→y.ah f=some x→x.2.1=e:=by
  intro β y f hf hy;rw[Option.aa]at hy;obtain⟨a,_,ha⟩:=hy;exact hf a ha
 have one:∀ {v:PV} {k:Hp},some (v,e,k)=some x→x.2.1=e:=by intro v k hq;cases hq;rfl
 unfold step at hs;cases op<;>simp only at hs<;>first | exact one hs | cases hs | skip
 all_goals first
  |(refine key (fun a ha=>?_) hs;exact one ha)
  |(refine key (fun a ha=>?_) hs;refine key (fun b hb=>?_) ha;first | exact one hb | (split at hb<;>first | exact one hb | cases hb))
  |(refine key (fun a ha=>?_) hs;refine key (fun b hb=>?_) ha;refine key (fun c hc=>?_) hb;exact one hc)
  | skip
 case pick c a b =>
  refine key (fun v hv=>?_) hs;rw[fR]at hv;rcases hv with⟨_,hv⟩ | ⟨_,hv⟩<;>exact key (fun a ha=>one ha) hv
 case box n y=>refine key (fun v hv=>?_) hs;split at hv<;>first | exact one hv | cases hv
 case load n agg a =>
  refine key (fun v hv=>?_) hs;split at hv
  ·exact key (fun _ h1=>key (fun _ h2=>one h2) h1) hv
  ·exact key (fun _ h1=>one h1) hv
  ·cases hv
 case store n a y =>
  refine key (fun v hv=>key (fun u hu=>?_) hv) hs;split at hu
  ·refine key (fun _ h1=>?_) hu;split at h1<;>first | exact one h1 | cases h1
  ·cases hu
 case rJ y=>refine key (fun v hv=>?_) hs;split at hv<;>first | exact one hv | cases hv
 case toInt k y=>refine key (fun v hv=>?_) hs;split at hv<;>first | exact one hv | cases hv
 case ij bx y =>
  refine key (fun v hv=>?_) hs;split at hv
  ·split at hv
   ·split at hv<;>exact one hv
   ·cases hv
  ·cases hv
 case iq y =>
  refine key (fun v hv=>?_) hs;split at hv
  ·cases hv
  ·exact key (fun _ h1=>key (fun _ h2=>one h2) h1) hv
 case mC T z agg l c =>
  refine key (fun _ h1=>key (fun _ h2=>key (fun _ h3=>?_) h2) h1) hs;split at h3
  ·exact one h3
  ·split at h3
   ·exact one h3
   ·cases h3
 case oB d y =>
  refine key (fun _ h1=>key (fun _ h2=>key (fun _ h3=>?_) h2) h1) hs;split at h3
  ·refine key (fun _ h1=>?_) h3;split at h1<;>first | exact one h1 | cases h1
  ·exact one h3
  ·cases h3
 case range y=>refine key (fun v hv=>?_) hs;split at hv<;>first | exact one hv | cases hv
 case next y =>
  refine key (fun v hv=>?_) hs;split at hv
  ·refine key (fun _ h1=>?_) hv;split at h1<;>exact one h1
  ·cases hv
 case eqv neg ks y z =>
  refine key (fun _ h1=>key (fun _ h2=>?_) h1) hs;split at h2
  ·exact key (fun _ h3=>one h3) h2
  ·cases h2
 case nA off y=>refine key (fun v hv=>?_) hs;split at hv<;>first | exact one hv | cases hv
 case field off n agg y=>refine key (fun v hv=>?_) hs;split at hv<;>first | exact key (fun _ h1=>one h1) hv | cases hv
 case CO sz y i =>
  refine key (fun _ h1=>key (fun _ h2=>?_) h1) hs;split at h2
  ·split at h2
   ·exact key (fun _ h3=>key (fun _ h4=>one h4) h3) h2
   ·cases h2
  ·split at h2
   ·exact key (fun _ h3=>one h3) h2
   ·cases h2
  ·cases h2
 case oC sz len y i =>
  refine key (fun _ h1=>key (fun _ h2=>?_) h1) hs;split at h2<;>first | exact key (fun _ h3=>one h3) h2 | cases h2
 case nC y i =>
  refine key (fun _ h1=>key (fun _ h2=>?_) h1) hs;split at h2<;>first | exact key (fun _ h3=>key (fun _ h4=>one h4) h3) h2 | cases h2
 case oD sz agg len y i =>
  refine key (fun _ h1=>key (fun _ h2=>?_) h1) hs;split at h2<;>first | exact key (fun _ h3=>key (fun _ h4=>one h4) h3) h2 | cases h2
 case extract y i=>refine key (fun v hv=>?_) hs;split at hv<;>first | exact key (fun _ h1=>one h1) hv | cases hv
 case kz t ok z y =>
  refine key (fun v hv=>?_) hs;split at hv
  ·split at hv
   ·split at hv<;>exact one hv
   ·split at hv<;>first | exact one hv | cases hv
  ·split at hv<;>first | exact one hv | cases hv
  ·cases hv
 case len str y=>refine key (fun v hv=>?_) hs;split at hv<;>first | exact one hv | cases hv
 case mD mx xs=>refine key (fun v hv=>?_) hs;split at hv<;>first | exact key (fun _ h1=>one h1) hv | cases hv
 case append sz s y =>
  refine key (fun _ h1=>key (fun _ h2=>key (fun _ h3=>?_) h2) h1) hs;split at h3
  ·split at h3
   ·split at h3<;>first | exact one h3 | cases h3
   ·split at h3<;>first | exact one h3 | cases h3
   ·cases h3
  ·cases h3
 case iz T sz s y=>exact key (fun _ h1=>key (fun _ h2=>key (fun _ h3=>key (fun _ h4=>one h4) h3) h2) h1) hs
 case fD sz s y =>
  refine key (fun _ h1=>key (fun _ h2=>key (fun _ h3=>key (fun _ h4=>?_) h3) h2) h1) hs;split at h4
  ·exact one h4
  ·split at h4
   ·exact one h4
   ·cases h4
 case call f args =>
  refine key (fun _ h1=>key (fun _ h2=>?_) h1) hs;split at h2
  ·split at h2<;>first | exact one h2 | cases h2
  ·exact one h2
 case lU y args =>
  refine key (fun _ h1=>?_) hs;split at h1
  ·refine key (fun _ h2=>key (fun _ h3=>?_) h2) h1
   split at h3
   ·split at h3<;>first | exact one h3 | cases h3
   ·exact one h3
  ·cases h1
 case fE k n agg a =>
  refine key (fun _ h1=>?_) hs;split at h1
  ·split at h1
   ·exact key (fun _ h3=>key (fun _ h4=>one h4) h3) h1
   ·cases h1
  ·exact key (fun _ h3=>one h3) h1
  ·cases h1
 case iU k f args =>
  refine key (fun _ h1=>key (fun _ h2=>?_) h1) hs;split at h2
  ·split at h2<;>first | exact one h2 | cases h2
  ·exact one h2
 case aaW t n agg a =>
  refine key (fun _ h1=>key (fun _ h2=>?_) h1) hs;split at h2
  ·split at h2
   ·cases h2
   ·exact key (fun _ h3=>key (fun _ h4=>one h4) h3) h2
  ·exact key (fun _ h3=>one h3) h2
  ·cases h2
 case fQ t n a y =>
  refine key (fun _ h1=>key (fun _ h2=>key (fun _ h3=>?_) h2) h1) hs;split at h3
  ·split at h3
   ·refine key (fun _ h4=>?_) h3;split at h4<;>first | exact one h4 | cases h4
   ·cases h3
  ·cases h3
theorem K8 {α:Type} (orc:iE) (base:Nat) (draw:Bool):∀ (l:List cr) (e:Env) (h:Hp) (K:Env→Hp→Option α),
  Ds orc base draw l e h K=(bU orc base draw l e h).ah fun x=>K x.1 x.2
 | [],e,h,K=>rfl
 | o::r,e,h,K=>by
  have ih:∀ (v:PV) (h:Hp),Ds orc base draw r (dI e o.dst v) h K=(bU orc base draw r (dI e o.dst v) h).ah fun x=>K x.1 x.2:=fun v h=>K8 orc base draw r _ h K
  have main:cg orc base draw o.op e h (fun v h=>Ds orc base draw r (dI e o.dst v) h K) =
    ((step orc base draw o.op e h).ah fun x=>bU orc base draw r (dI x.2.1 o.dst x.1) x.2.2).ah fun x=>K x.1 x.2:=by
   rw[oZ,aH];cases hs:step orc base draw o.op e h with
   | none=>rfl
   | some x=>simp only[Option.ag,ih,tG hs]
  rw[Ni,bU];cases hg:o.guard with
  | none=>simp only[Dr,wanted,Option.ag,if_true];exact main
  | some g =>
   obtain⟨t,w⟩:=g;simp only[Dr,uv,aH];refine bA _ fun v=>?_
   cases hw:aq v w with
   | none=>rfl
   | some b =>
    cases b with
    | true =>
     simp only[Option.ag,yV,if_true];rw[←main];cases hp:zS o.op with
     | true=>simp only;rw[Jx hp orc base draw e h (fun v h=>Ds orc base draw r (dI e o.dst v) h K)];rfl
     | false =>
      simp only;rw[oZ,oZ];cases step orc base draw o.op e h<;>rfl
    | false=>cases zS o.op<;>(simp only[Option.ag,uw,az,Bool.false_eq_true,if_false];exact ih _ _)
inductive Fr where
 | seq (b:cE)
 | block (i:Nat)
 | loop (a:cE)
noncomputable def bg (keep own:Bool) (n0:Nat) (vs:List PV) (h:Hp):Option (PV × Hp) :=
 if keep then some (fS vs,h)
  else if own then(jt n0 h vs).ah fun r=>some (fS r.1,r.2)
  else(fM n0 h vs).ah fun vs=>if belows n0 vs=true then some (fS vs,bJ h n0) else none
noncomputable def o7 {α:Type} (e:Env) (h:Hp):List (Nat × Option (Nat × Bool))→(List PV→Option α)→Option α
 | [],K=>K []
 | t::ts,K=>(mM e h t).ah fun v=>o7 e h ts fun vs=>K (v::vs)
theorem uY {α:Type} (e:Env) (h:Hp):∀ (rs:List (Nat × Option (Nat × Bool))) (K:List PV→Option α),o7 e h rs K=(aaF e h rs).ah K
 | [],K=>rfl
 | t::ts,K=>by
  simp only[o7,oK,aH,Option.ag];exact bA _ fun v=>uY e h ts _
noncomputable def Zc (fn:di) (n0:Nat) (x:rM) (e:Env) (h:Hp):Option (PV × Hp):=match x with
 | .exit _=>none
 | _=>o7 e h fn.results fun vs=>bg fn.keep fn.own n0 vs h
theorem Nj (fn:di) (n0:Nat) (e:Env) (h:Hp):finish fn n0 e h=o7 e h fn.results fun vs=>bg fn.keep fn.own n0 vs h:=by
 rw[uY];rfl
noncomputable def OE (fn:di) (n0:Nat) (run:cE→List Fr→Env→Hp→Option (PV × Hp)) (lp:cE→List Fr→Env→Hp→Option (PV × Hp)):List Fr→rM→Env→Hp→Option (PV × Hp)
 | [],x,e,h=>Zc fn n0 x e h
 | .seq b::r,x,e,h=>match x with
  | .norm=>run b r e h
  | x=>OE fn n0 run lp r x e h
 | .block i::r,x,e,h=>match x with
  | .exit j=>if j=i then OE fn n0 run lp r .norm e h else OE fn n0 run lp r (.exit j) e h
  | x=>OE fn n0 run lp r x e h
 | .loop a::r,x,e,h=>match x with
  | .norm=>lp a r e h
  | x=>OE fn n0 run lp r x e h
noncomputable def vN (T:Table) (fn:di) (base n0:Nat):List Fr→rM→Env→Hp→Option (PV × Hp)
 | [],x,e,h=>Zc fn n0 x e h
 | .seq b::r,x,e,h=>match x with
  | .norm=>rT (cI T b base e h) (vN T fn base n0 r)
  | x=>vN T fn base n0 r x e h
 | .block i::r,x,e,h=>match x with
  | .exit j=>if j=i then vN T fn base n0 r .norm e h else vN T fn base n0 r (.exit j) e h
  | x=>vN T fn base n0 r x e h
 | .loop a::r,x,e,h=>match x with
  | .norm=>rT (cI T (.loop a) base e h) (vN T fn base n0 r)
  | x=>vN T fn base n0 r x e h
noncomputable def sY (T:Table) (fn:di) (base n0:Nat) (c:cE) (fr:List Fr) (e:Env) (h:Hp):Option (PV × Hp):=rT (cI T c base e h) (vN T fn base n0 fr)
noncomputable def mH (T:Table) (fn:di) (base n0:Nat):Nat→cE→List Fr→Env→Hp→Option (PV × Hp)
 | 0,c,fr,e,h=>sY T fn base n0 c fr e h
 | n+1,c,fr,e,h=>match c with
  | .skip=>OE fn n0 (mH T fn base n0 n) (fun a=>sY T fn base n0 (.loop a)) fr .norm e h
  | .ops l draw keep=>Ds (ai T base) base draw l e h fun e h=>OE fn n0 (mH T fn base n0 n) (fun a=>sY T fn base n0 (.loop a)) fr .norm (prune keep e) h
  | .seq a b=>match a with
   | .ops [] _ k=>sY T fn base n0 b fr (prune k e) h
   | a=>mH T fn base n0 n a (.seq b::fr) e h
  | .cond c a b=>(ev e c).ah fun v=>aD v (mH T fn base n0 n a fr e h) (mH T fn base n0 n b fr e h)
  | .block i a=>mH T fn base n0 n a (.block i::fr) e h
  | .loop a=>sY T fn base n0 (.loop a) fr e h
  | .scope a=>mH T fn base n0 n a fr e h
  | .exit i=>OE fn n0 (mH T fn base n0 n) (fun a=>sY T fn base n0 (.loop a)) fr (.exit i) e h
  | .ret=>OE fn n0 (mH T fn base n0 n) (fun a=>sY T fn base n0 (.loop a)) fr .ret e h
theorem Jy {α:Type} (v:PV) (x y:Option (rM × Env × Hp)) (K:rM→Env→Hp→Option α):aD v (rT x K) (rT y K)=rT (aD v x y) K:=by
 cases v<;>try rfl
 rename_i b;cases b<;>rfl
section
variable {T:Table} {fn:di} {base n0:Nat}
theorem o9 {run:cE→List Fr→Env→Hp→Option (PV × Hp)} (hr:∀ c fr e h,run c fr e h=sY T fn base n0 c fr e h):∀ (fr:List Fr) (x:rM) (e:Env) (h:Hp),OE fn n0 run (fun a=>sY T fn base n0 (.loop a)) fr x e h=vN T fn base n0 fr x e h
 | [],x,e,h=>rfl
 | .seq b::r,x,e,h=>by
  cases x with
  | norm=>rw[OE,hr];rfl
  | _=>exact o9 hr r _ e h
 | .block i::r,x,e,h=>by
  cases x with
  | exit j=>simp only[OE,vN,o9 hr r]
  | _=>exact o9 hr r _ e h
 | .loop a::r,x,e,h=>by
  cases x with
  | norm=>rfl
  | _=>exact o9 hr r _ e h
theorem Ta (a b:cE) (fr:List Fr) (e:Env) (h:Hp):sY T fn base n0 (.seq a b) fr e h=sY T fn base n0 a (.seq b::fr) e h:=by
 unfold sY;rw[YJ];cases cI T a base e h with
 | none=>rfl
 | some x=>obtain⟨x,e',h'⟩:=x;cases x<;>rfl
theorem Nk (i:Nat) (a:cE) (fr:List Fr) (e:Env) (h:Hp):sY T fn base n0 (.block i a) fr e h=sY T fn base n0 a (.block i::fr) e h:=by
 unfold sY;rw[SC];cases cI T a base e h with
 | none=>rfl
 | some x =>
  obtain⟨x,e',h'⟩:=x;cases x with
  | exit j=>simp only[tq,ux,vN];split<;>rfl
  | _=>rfl
theorem P7 (a:cE) (fr:List Fr) (e:Env) (h:Hp):sY T fn base n0 (.loop a) fr e h=sY T fn base n0 a (.loop a::fr) e h:=by
 unfold sY;rw[Vk];cases cI T a base e h with
 | none=>rfl
 | some x=>obtain⟨x,e',h'⟩:=x;cases x<;>rfl
theorem K9 (l:List cr) (d:Bool) (k:List Nat) (fr:List Fr) (e:Env) (h:Hp):sY T fn base n0 (.ops l d k) fr e h=Ds (ai T base) base d l e h fun e h=>vN T fn base n0 fr .norm (prune k e) h:=by
 unfold sY;rw[K8,YI];cases bU (ai T base) base d l e h<;>rfl
theorem Dt:∀ (n:Nat) (c:cE) (fr:List Fr) (e:Env) (h:Hp),mH T fn base n0 n c fr e h=sY T fn base n0 c fr e h
 | 0,c,fr,e,h=>rfl
 | n+1,c,fr,e,h=>by
  have ih:=Dt n;cases c with
  | skip=>rw[mH,o9 ih];unfold sY;rw[yM];rfl
  | exit i=>rw[mH,o9 ih];unfold sY;rw[yN];rfl
  | ret=>rw[mH,o9 ih];unfold sY;rw[BH];rfl
  | ops l d k=>rw[mH,K9];simp only[o9 ih]
  | seq a b =>
   rw[Ta];cases a with
   | ops l d k =>
    cases l with
    | nil=>rw[K9];rfl
    | cons o l=>exact ih _ _ _ _
   | _=>exact ih _ _ _ _
  | cond c a b =>
   rw[mH];simp only[ih];unfold sY;rw[qP];cases ev e c with
   | none=>rfl
   | some v=>simp only[Option.ag,Jy]
  | block i a=>rw[mH,ih,Nk]
  | loop a=>rfl
  | scope a=>rw[mH,ih];unfold sY;rw[uj]
end
def ctx:List Nat→cE→List Fr→cE × List Fr
 | [],c,fr=>(c,fr)
 | i::p,.seq a b,fr=>if i=0 then ctx p a (.seq b::fr) else ctx p b fr
 | i::p,.cond _ a b,fr=>if i=0 then ctx p a fr else ctx p b fr
 | _::p,.block i a,fr=>ctx p a (.block i::fr)
 | _::p,.loop a,fr=>ctx p a (.loop a::fr)
 | _::p,.scope a,fr=>ctx p a fr
 | _::_,c,fr=>(c,fr)
noncomputable def Pt (T:Table) (fn:di) (p:List Nat) (base n0:Nat) (e:Env) (h:Hp):Option (PV × Hp) :=
 sY T fn base n0 (ctx p fn.body []).1 (ctx p fn.body []).2 e h
def unr:cE × List Fr→cE × List Fr
 |(.loop a,fr)=>(a,.loop a::fr)
 | x=>x
theorem ej (T:Table) (fn:di) (p:List Nat) (base n0:Nat) (e:Env) (h:Hp) :
  Pt T fn p base n0 e h=mH T fn base n0 200 (unr (ctx p fn.body [])).1 (unr (ctx p fn.body [])).2 e h:=by
 rw[Dt];unfold Pt;generalize ctx p fn.body []=r;obtain⟨c,fr⟩:=r;cases c with
 | loop a=>exact P7 a fr e h
 | _=>rfl
theorem FB {T:Table} {f:Nat} {fn:di} (hT:T f=some (.code fn)) (base:Nat) (a:List PV) (h:Hp) :
  ai T base f a h=mH T fn (if fn.keep then base else size h) (size h) 200 fn.body [] (params 0 a) h:=by
 rw[yP hT,Dt];unfold sY;cases cI T fn.body (if fn.keep then base else size h) (params 0 a) h with
 | none=>rfl
 | some x=>obtain⟨x,e',h'⟩:=x;cases x<;>simp only[Option.ag,tq,Nj]<;>rfl
theorem aZ {T:Table} {f:Nat} {rs:List (Nat × Option (Nat × Bool))} {body:cE} {own:Bool} (hT:T f=some (.code ⟨rs,body,false,own⟩)) (base:Nat) (a:List PV) (h:Hp) :
  ai T base f a h=mH T ⟨rs,body,false,own⟩ (size h) (size h) 200 body [] (params 0 a) h:=FB hT base a h
theorem gR {T:Table} {f:Nat} {rs:List (Nat × Option (Nat × Bool))} {body:cE} {own:Bool} (hT:T f=some (.code ⟨rs,body,true,own⟩)) (base:Nat) (a:List PV) (h:Hp) :
  ai T base f a h=mH T ⟨rs,body,true,own⟩ base (size h) 200 body [] (params 0 a) h:=FB hT base a h
def Zd {α:Type} (h h':Hp) (y:Option α):Option α:=if h'=h then y else none
end Go.Am
namespace Go.Am
def Sub (e e2:Env):Prop:=∀ t v,look e t=some v→look e2 t=some v
theorem Sub.refl (e:Env):Sub e e:=fun _ _ h=>h
section
variable {e e2:Env} (hs:Sub e e2)
include hs
theorem gF {x:bH} {v:PV} (h:ev e x=some v):ev e2 x=some v:=by
 cases x with
 | tmp t=>exact hs t v h
 | const c=>exact h
theorem p7:∀ {xs:List bH} {vs:List PV},ny e xs=some vs→ny e2 xs=some vs
 | [],vs,h=>h
 | x::xs,vs,h=>by
  simp only[ny,Option.aa]at h ⊢;obtain⟨v,h1,w,h2,h3⟩:=h;exact⟨v,gF hs h1,w,p7 h2,h3⟩
theorem uZ:∀ {xs:List (Nat × bH)} {vs:List (Nat × PV)},eX e xs=some vs→eX e2 xs=some vs
 | [],vs,h=>h
 |(i,x)::xs,vs,h=>by
  simp only[Dj,Option.aa]at h ⊢;obtain⟨v,h1,w,h2,h3⟩:=h;exact⟨v,gF hs h1,w,uZ h2,h3⟩
theorem sA:∀ {xs:List (Nat × Nat × bH)} {vs:List (Nat × Nat × PV)},eY e xs=some vs→eY e2 xs=some vs
 | [],vs,h=>h
 |(i,n,x)::xs,vs,h=>by
  simp only[Bt,Option.aa]at h ⊢;obtain⟨v,h1,w,h2,h3⟩:=h;exact⟨v,gF hs h1,w,sA h2,h3⟩
theorem Du {x:Option bH} {v:Option PV} (h:HH e x=some v):HH e2 x=some v:=by
 cases x with
 | none=>exact h
 | some x =>
  simp only[HH,Option.aa]at h ⊢;obtain⟨a,h1,h2⟩:=h;exact⟨a,gF hs h1,h2⟩
omit hs in
theorem sB {orc orc2:iE} (ho:orc.le orc2) {f:Nat} {vs:List PV} {h:Hp} {K:PV→Hp→Option (PV × Hp)} {r:PV × Hp} (hr:aG (orc f vs h) K=some r):aG (orc2 f vs h) K=some r:=by
 cases hq:orc f vs h with
 | none=>rw[hq]at hr;cases hr
 | some x=>rw[hq]at hr;rw[ho _ _ _ _ hq];exact hr
omit hs in
theorem Tb {orc orc2:iE} (ho:orc.le orc2):iE.le (gu orc) (gu orc2):=by
 intro f a h r hr;simp only[gu,Option.aa]at hr ⊢;obtain⟨y,h1,h2⟩:=hr;exact⟨y,ho _ _ _ _ h1,h2⟩
omit hs in
theorem Tc {orc orc2:iE} (ho:orc.le orc2) (n:Nat):iE.le (oG orc n) (oG orc2 n):=by
 intro f a h r hr;simp only[oG,Option.aa]at hr ⊢;obtain⟨y,h1,h2⟩:=hr;exact⟨y,ho _ _ _ _ h1,h2⟩
theorem Nl {orc orc2:iE} (ho:orc.le orc2) {base:Nat} {draw:Bool} {op:iM} {h:Hp} {K:PV→Hp→Option (PV × Hp)} {r:PV × Hp} (hr:cg orc base draw op e h K=some r):cg orc2 base draw op e2 h K=some r:=by
 cases op<;>simp only[cg,Option.aa]at hr ⊢<;>first
  | exact hr
  |(obtain⟨a,h1,h2⟩:=hr;exact⟨a,gF hs h1,h2⟩)
  |(obtain⟨a,h1,h2⟩:=hr;exact⟨a,p7 hs h1,h2⟩)
  |(obtain⟨a,h1,h2⟩:=hr;exact⟨a,p7 hs h1,sB ho h2⟩)
  |(obtain⟨a,h1,h2⟩:=hr;exact⟨a,p7 hs h1,sB (Tb ho) h2⟩)
  |(obtain⟨a,h1,h2⟩:=hr;exact⟨a,p7 hs h1,sB (Tc ho _) h2⟩)
  |(obtain⟨a,h1,h2⟩:=hr;exact⟨a,uZ hs h1,h2⟩)
  |(obtain⟨a,h1,h2⟩:=hr;exact⟨a,sA hs h1,h2⟩)
  |(obtain⟨a,h1,b,h2,h3⟩:=hr;exact⟨a,gF hs h1,b,gF hs h2,h3⟩)
  |(obtain⟨a,h1,b,h2,h3⟩:=hr;exact⟨a,hs _ _ h1,b,gF hs h2,h3⟩)
  |(obtain⟨a,h1,b,h2,c,h3,h4⟩:=hr;exact⟨a,hs _ _ h1,b,gF hs h2,c,gF hs h3,h4⟩)
  |(obtain⟨a,h1,b,h2,c,h3,d,h4,h5⟩:=hr;exact⟨a,gF hs h1,b,Du hs h2,c,Du hs h3,d,Du hs h4,h5⟩)
  | skip
 case pick c a b =>
  obtain⟨v,h1,w,h2,h3⟩:=hr;rw[fR]at h2;exact⟨v,gF hs h1,w,fR.2 (h2.imp (fun q=>⟨q.1,gF hs q.2⟩) (fun q=>⟨q.1,gF hs q.2⟩)),h3⟩
 case lU x args =>
  obtain⟨v,h1,vs,h2,h3⟩:=hr;refine⟨v,gF hs h1,vs,p7 hs h2,?_⟩;cases v<;>first | exact h3 | exact sB ho h3
theorem P8 {orc orc2:iE} (ho:orc.le orc2) {base:Nat} {draw:Bool} {op:iM} {h:Hp} {x:PV × Env × Hp} (hx:step orc base draw op e h=some x):step orc2 base draw op e2 h=some (x.1,e2,x.2.2):=by
 have h1:=oZ orc base draw op e h fun v h=>some (v,h)
 rw[hx,Option.ag]at h1;have h2:=Nl hs ho h1;rw[oZ,Option.aa]at h2;obtain⟨y,h3,h4⟩:=h2;have h5:=tG h3;obtain⟨a,b,c⟩:=y;cases h4;simp only at h5;subst h5;exact h3
theorem zT {g:Option (Nat × Bool)} {b:Bool} (h:wanted e g=some b):wanted e2 g=some b:=by
 cases g with
 | none=>exact h
 | some g =>
  obtain⟨t,w⟩:=g;rw[uv,Option.aa]at h ⊢;obtain⟨v,h1,h2⟩:=h;exact⟨v,hs _ _ h1,h2⟩
theorem FC (d:Option Nat) (v:PV):Sub (dI e d v) (dI e2 d v):=by
 cases d with
 | none=>exact hs
 | some d =>
  intro t w hw;simp only[dI,look]at hw ⊢;split at hw
  ·rename_i hq;rw[if_pos hq];exact hw
  ·rename_i hq;rw[if_neg hq];exact hs _ _ hw
end
theorem pe {orc orc2:iE} (ho:orc.le orc2) {base:Nat} {draw:Bool}:∀ {l:List cr} {e e2:Env} {h:Hp} {r:Env × Hp},Sub e e2→bU orc base draw l e h=some r→∃ e3,bU orc2 base draw l e2 h=some (e3,r.2)∧Sub r.1 e3
 | [],e,e2,h,r,hs,hr=>by cases hr;exact⟨e2,rfl,hs⟩
 | o::l,e,e2,h,r,hs,hr=>by
  simp only[bU,Option.aa]at hr ⊢;obtain⟨b,h1,h2⟩:=hr;cases b with
  | true =>
   simp only[if_true,Option.aa]at h2;obtain⟨x,h3,h4⟩:=h2;rw[tG h3]at h4;obtain⟨e3,h5,h6⟩:=pe ho (FC hs o.dst x.1) h4;exact⟨e3,⟨true,zT hs h1,by simp only[if_true,Option.aa];exact⟨_,P8 hs ho h3,h5⟩⟩,h6⟩
  | false =>
   simp only[Bool.false_eq_true,if_false]at h2;obtain⟨e3,h5,h6⟩:=pe ho (FC hs o.dst .undef) h2;exact⟨e3,⟨false,zT hs h1,by simpa using h5⟩,h6⟩
theorem lH:∀ (ts:List Nat) (e:Env) (t:Nat),t∈ts→look (prune ts e) t=look e t
 | t'::ts,e,t,h=>by
  rw[yU,uU]
  by_cases hq:t'=t
  ·subst hq
   rw[if_pos rfl];cases hl:look e t' with
   | some v=>rfl
   | none =>
    rw[PZ];cases hp:look (prune ts e) t' with
    | none=>rfl
    | some v=>rw[iH _ _ _ _ hp]at hl;cases hl
  ·rw[if_neg hq]
   rcases List.mem_cons.1 h with h | h
   ·exact(hq h.symm).elim
   ·exact lH ts e t h
theorem pq:∀ (ts:List Nat) (e:Env) (t:Nat),t ∉ ts→look (prune ts e) t=none
 | [],e,t,h=>rfl
 | t'::ts,e,t,h=>by
  simp only[List.mem_cons,not_or]at h;rw[yU,uU,if_neg (fun q=>h.1 q.symm)];exact pq ts e t h.2
theorem Nn {k k':List Nat} (hk:∀ t∈k',t∈k) {e e2:Env} (hs:Sub e e2):Sub (prune k' e) (prune k e2):=by
 intro t v hv
 by_cases hm:t∈k'
 ·rw[lH _ _ _ hm]at hv
  rw[lH _ _ _ (hk t hm)];exact hs _ _ hv
 ·rw[pq _ _ _ hm]at hv;cases hv
theorem zU (k':List Nat) {e e2:Env} (hs:Sub e e2):Sub (prune k' e) e2:=fun t v hv=>hs _ _ (iH _ _ _ _ hv)
inductive Le:cE→cE→Prop
 | skip:Le .skip .skip
 | exit (i):Le (.exit i) (.exit i)
 | ret:Le .ret .ret
 | ops (l d k k') (hk:∀ t∈k',t∈k):Le (.ops l d k') (.ops l d k)
 | seq {a b a' b'} (ha:Le a' a) (hb:Le b' b):Le (.seq a' b') (.seq a b)
 | cond (c) {a b a' b'} (ha:Le a' a) (hb:Le b' b):Le (.cond c a' b') (.cond c a b)
 | block (i) {a a'} (ha:Le a' a):Le (.block i a') (.block i a)
 | loop {a a'} (ha:Le a' a):Le (.loop a') (.loop a)
 | scope {a a'} (ha:Le a' a):Le (.scope a') (.scope a)
 | pre (k) {a a'} (ha:Le a' a):Le (.seq (.ops [] false k) a') a
 | post (k) {a a'} (ha:Le a' a):Le (.seq a' (.ops [] false k)) a
theorem Le.refl:∀ c,Le c c
 | .skip=>.skip
 | .exit i=>.exit i
 | .ret=>.ret
 | .ops l d k=>.ops l d k k fun _ h=>h
 | .seq a b=>.seq (Le.refl a) (Le.refl b)
 | .cond c a b=>.cond c (Le.refl a) (Le.refl b)
 | .block i a=>.block i (Le.refl a)
 | .loop a=>.loop (Le.refl a)
 | .scope a=>.scope (Le.refl a)
inductive An where
 | leaf
 | ops (k:List Nat)
 | node (a b:An)
 | pre (k:List Nat) (a:An)
 | loop (k:List Nat) (a:An)
def Bx:An→cE→cE
 | .ops k',.ops l d k=>.ops l d (k'.filter fun t=>k.any fun s=>Nat.beq t s)
 | .node x y,.seq a b=>.seq (Bx x a) (Bx y b)
 | .node x y,.cond c a b=>.cond c (Bx x a) (Bx y b)
 | .node x _,.block i a=>.block i (Bx x a)
 | .node x _,.scope a=>.scope (Bx x a)
 | .pre k x,c=>.seq (.ops [] false k) (Bx x c)
 | .loop k x,.loop a=>.seq (.ops [] false k) (.loop (.seq (Bx x a) (.ops [] false k)))
 | _,c=>c
theorem kG:∀ (x:An) (c:cE),Le (Bx x c) c
 | .leaf,c=>by cases c<;>exact Le.refl _
 | .ops k',c=>by
  cases c<;>try exact Le.refl _
  rename_i l d k;refine .ops l d k _ fun t ht=>?_
  rw[List.mem_filter,List.any_eq_true]at ht;obtain⟨_,s,h1,h2⟩:=ht;rw[Nat.eq_of_beq_eq_true h2];exact h1
 | .node x y,c=>by
  cases c with
  | seq a b=>exact .seq (kG x a) (kG y b)
  | cond c a b=>exact .cond c (kG x a) (kG y b)
  | block i a=>exact .block i (kG x a)
  | scope a=>exact .scope (kG x a)
  | _=>exact Le.refl _
 | .pre k x,c=>by cases c<;>exact .pre k (kG x _)
 | .loop k x,c=>by
  cases c with
  | loop a=>exact .pre k (.loop (.post k (kG x a)))
  | _=>exact Le.refl _
def TLe (T' T:Table):Prop:=∀ f it',T' f=some it'→match it' with
 | .oE g=>T f=some (.oE g)
 | .jm g=>T f=some (.jm g)
 | .code F'=>∃ F,T f=some (.code F)∧Le F'.body F.body∧F'.results=F.results∧F'.keep=F.keep∧F'.own=F.own
theorem qF {e e2:Env} (hs:Sub e e2) (h:Hp):∀ {rs:List (Nat × Option (Nat × Bool))} {vs:List PV},aaF e h rs=some vs→aaF e2 h rs=some vs
 | [],vs,hv=>hv
 |(t,o)::rs,vs,hv=>by
  simp only[oK,Option.aa]at hv ⊢;obtain⟨v,h1,ws,h2,h3⟩:=hv;refine⟨v,?_,ws,qF hs h h2,h3⟩;cases o with
  | none=>exact hs _ _ h1
  | some o =>
   obtain⟨n,g⟩:=o;rw[Bp,Option.aa]at h1 ⊢;obtain⟨a,h4,h5⟩:=h1;exact⟨a,hs _ _ h4,h5⟩
theorem zV {F' F:di} (h1:F'.results=F.results) (h2:F'.keep=F.keep) (h3:F'.own=F.own) {e e2:Env} (hs:Sub e e2) {n0:Nat} {h:Hp} {r:PV × Hp} (hr:finish F' n0 e h=some r):finish F n0 e2 h=some r:=by
 rw[finish,Option.aa]at hr ⊢;obtain⟨vs,h4,h5⟩:=hr;rw[h1]at h4;rw[h2,h3]at h5;exact⟨vs,qF hs h h4,h5⟩
theorem zW {T' T:Table} (hT:TLe T' T):∀ n,(∀ c' c base e h x e1 h1 e2,Le c' c→exec T' n c' base e h=some (x,e1,h1)→Sub e e2→∃ e3,cI T c base e2 h=some (x,e3,h1)∧Sub e1 e3) ∧
  (∀ base f a h r,call T' n base f a h=some r→ai T base f a h=some r)
 | 0=>⟨fun _ _ _ _ _ _ _ _ _ _ hx=>by simp[exec]at hx,fun _ _ _ _ _ hx=>by simp[call]at hx⟩
 | n+1=>by
  obtain⟨ih,ihc⟩:=zW hT n;refine⟨fun c' c base e h x e1 h1 e2 hle hx hs=>?_,fun base f a h r hr=>?_⟩
  ·cases hle with
   | skip=>rw[exec]at hx;cases hx;exact⟨e2,yM,hs⟩
   | exit i=>rw[exec]at hx;cases hx;exact⟨e2,yN,hs⟩
   | ret=>rw[exec]at hx;cases hx;exact⟨e2,BH,hs⟩
   | ops l d k k' hk =>
    rw[exec,Option.aa]at hx;obtain⟨y,h2,h3⟩:=hx;obtain⟨e3,h4,h5⟩:=pe (fun f a h r=>ihc base f a h r) hs h2;cases h3;exact⟨prune k e3,by rw[BI,h4];rfl,Nn hk h5⟩
   | seq ha hb =>
    rw[exec,Option.aa]at hx;obtain⟨⟨y,ey,hy⟩,h2,h3⟩:=hx;obtain⟨e3,h4,h5⟩:=ih _ _ _ _ _ _ _ _ _ ha h2 hs;cases y with
    | norm =>
     obtain⟨e4,h6,h7⟩:=ih _ _ _ _ _ _ _ _ _ hb h3 h5;exact⟨e4,by rw[tj,h4];exact h6,h7⟩
    | _=>cases h3;exact⟨e3,by rw[tj,h4];rfl,h5⟩
   | cond c ha hb =>
    rw[exec,Option.aa]at hx;obtain⟨v,h2,h3⟩:=hx;rw[fR]at h3;rcases h3 with⟨rfl,h3⟩ | ⟨rfl,h3⟩
    ·obtain⟨e3,h4,h5⟩:=ih _ _ _ _ _ _ _ _ _ ha h3 hs
     exact⟨e3,by rw[qP,gF hs h2];exact h4,h5⟩
    ·obtain⟨e3,h4,h5⟩:=ih _ _ _ _ _ _ _ _ _ hb h3 hs
     exact⟨e3,by rw[qP,gF hs h2];exact h4,h5⟩
   | block i ha =>
    rw[exec,Option.aa]at hx;obtain⟨⟨y,ey,hy⟩,h2,h3⟩:=hx;obtain⟨e3,h4,h5⟩:=ih _ _ _ _ _ _ _ _ _ ha h2 hs;rw[uh,h4,Option.ag];cases y with
    | exit j =>
     simp only at h3 ⊢;split at h3
     ·rename_i hq;rw[if_pos hq];cases h3;exact⟨e3,rfl,h5⟩
     ·rename_i hq;rw[if_neg hq];cases h3;exact⟨e3,rfl,h5⟩
    | _=>cases h3;exact⟨e3,rfl,h5⟩
   | loop ha =>
    rw[exec,Option.aa]at hx;obtain⟨⟨y,ey,hy⟩,h2,h3⟩:=hx;obtain⟨e3,h4,h5⟩:=ih _ _ _ _ _ _ _ _ _ ha h2 hs;rw[yO,h4,Option.ag];cases y with
    | norm=>exact ih _ _ _ _ _ _ _ _ _ (.loop ha) h3 h5
    | _=>cases h3;exact⟨e3,rfl,h5⟩
   | scope ha =>
    rw[exec]at hx;rw[uj];exact ih _ _ _ _ _ _ _ _ _ ha hx hs
   | pre k ha =>
    rw[exec,Option.aa]at hx;obtain⟨⟨y,ey,hy⟩,h2,h3⟩:=hx;cases n with
    | zero=>simp[exec]at h2
    | succ m =>
     rw[exec,bU,Option.ag]at h2;cases h2;exact ih _ _ _ _ _ _ _ _ _ ha h3 (zU k hs)
   | post k ha =>
    rw[exec,Option.aa]at hx;obtain⟨⟨y,ey,hy⟩,h2,h3⟩:=hx;obtain⟨e3,h4,h5⟩:=ih _ _ _ _ _ _ _ _ _ ha h2 hs;cases y with
    | norm =>
     cases n with
     | zero=>simp[exec]at h2
     | succ m =>
      simp only at h3;rw[exec,bU,Option.ag]at h3;cases h3;exact⟨e3,h4,zU k h5⟩
    | _=>cases h3;exact⟨e3,h4,h5⟩
  ·rw[call]at hr
   cases hf:T' f with
   | none=>rw[hf]at hr;cases hr
   | some it =>
    rw[hf]at hr;cases it with
    | oE g=>rw[yQ (hT f _ hf)];exact hr
    | jm g=>rw[oH (hT f _ hf)];exact hr
    | code F' =>
     obtain⟨F,h1,h2,h3,h4,h5⟩:=hT f _ hf;simp only[Option.aa]at hr;obtain⟨⟨y,ey,hy⟩,h6,h7⟩:=hr;obtain⟨e3,h8,h9⟩:=ih _ _ _ _ _ _ _ _ _ h2 h6 (Sub.refl _);rw[h4]at h8;rw[yP h1,h8,Option.ag];cases y with
     | exit i=>cases h7
     | norm=>exact zV h3 h4 h5 h9 h7
     | ret=>exact zV h3 h4 h5 h9 h7
def bP (x:An) (F:di):di:={ F with body:=Bx x F.body }
def mV (P:Program) (gl:cQ) (I:Nat→World→Prop) (T:Table):Prop:=∀ f it,T f=some it→match it with
 | .code fn=>∃ x an fn0,P.funcs[f]?=some fn0∧(bQ P gl an fn0).map (bP x)=some fn
 | .oE pg=>nJ P I f pg
 | .jm pg=>me P I f pg
theorem zX {P:Program} {gl:cQ} {I:Nat→World→Prop} {T':Table} (hT:mV P gl I T'):∃ T,pX P gl I T∧TLe T' T:=by
 have hex:∀ f,∃ it:Option Ut,(∀ i,it=some i→match i with | .code fn=>∃ an fn0,P.funcs[f]?=some fn0∧bQ P gl an fn0=some fn | .oE pg=>nJ P I f pg | .jm pg=>me P I f pg) ∧
   (∀ it',T' f=some it'→match it' with | .oE g=>it=some (.oE g) | .jm g=>it=some (.jm g) | .code F'=>∃ F,it=some (.code F)∧Le F'.body F.body∧F'.results=F.results∧F'.keep=F.keep∧F'.own=F.own):=by
  intro f;cases hf:T' f with
  | none=>exact⟨none,fun _ h=>(nomatch h),fun _ h=>(nomatch h)⟩
  | some it' =>
   have h1:=hT f it' hf;cases it' with
   | oE g=>exact⟨some (.oE g),fun i hi=>by cases hi;exact h1,fun i hi=>by cases hi;rfl⟩
   | jm g=>exact⟨some (.jm g),fun i hi=>by cases hi;exact h1,fun i hi=>by cases hi;rfl⟩
   | code F' =>
    obtain⟨x,an,fn0,h2,h3⟩:=h1;rw[Option.map_eq_some_iff]at h3;obtain⟨F,h4,rfl⟩:=h3;exact⟨some (.code F),fun i hi=>by cases hi;exact⟨an,fn0,h2,h4⟩,fun i hi=>by cases hi;exact⟨F,rfl,kG x F.body,rfl,rfl,rfl⟩⟩
 exact⟨fun f=>Classical.choose (hex f),fun f it h=>(Classical.choose_spec (hex f)).1 it h,fun f it' h=>(Classical.choose_spec (hex f)).2 it' h⟩
theorem u5 {P:Program} {gl:cQ} {I:Nat→World→Prop} {T:Table} (hT:mV P gl I T) {f:Nat} (hcode:∃ F,T f=some (.code F)) (us:Array Value) (w:World):(callFunc f us).run P w=.ok (.enter f us) w:=by
 obtain⟨F,hF⟩:=hcode;obtain⟨x,an,fn0,h1,h2⟩:=hT f _ hF;rw[Option.map_eq_some_iff]at h2;obtain⟨F0,h3,_⟩:=h2;exact Jj h1 h3 us w
open Go.RowKit (Below) in
theorem VU {P:Program} {gl:cQ} {I:Nat→World→Prop} {T:Table} (hT:mV P gl I T) {f:Nat} {vs:List PV} {r:PV} {h':Hp} (hs:ai T 0 f vs []=some (r,h')) (w:World) (hgl:dR gl w.heap.size w) (hI:I w.heap.size w) (us:Array Value) (hlen:us.size=vs.length)
  (hrel:∀ (j:Nat) (x:PV),vs[j]?=some x→RV w.heap.size { ι:=id,n:=0,hw:=fun _=>none } w x (us.getD j Go.undef)) (hcode:∃ F,T f=some (.code F):=by exact⟨_,rfl⟩) :
  Calls P f us w fun en w'=>∃ u g',en=.returned u∧RV w.heap.size g' w' r u∧Below w.heap.size w w':=by
 obtain⟨T0,h1,h2⟩:=zX hT;obtain⟨n,hn⟩:=eW.1 hs;exact sound h1 ((zW h2 n).2 0 f vs [] _ hn) w hgl hI us hlen hrel (u5 hT hcode us w)
end Go.Am
namespace Go.Am.Qd
open Go.Proofs
def KS:List PV:=[(.int .u32 1116352408),(.int .u32 1899447441),(.int .u32 3049323471),(.int .u32 3921009573),(.int .u32 961987163),(.int .u32 1508970993),(.int .u32 2453635748),(.int .u32 2870763221),(.int .u32 3624381080),(.int .u32 310598401),(.int .u32 607225278),(.int .u32 1426881987),(.int .u32 1925078388),(.int .u32 2162078206),(.int .u32 2614888103),(.int .u32 3248222580),(.int .u32 3835390401),(.int .u32 4022224774),(.int .u32 264347078),(.int .u32 604807628),(.int .u32 770255983),(.int .u32 1249150122),(.int .u32 1555081692),(.int .u32 1996064986),(.int .u32 2554220882),(.int .u32 2821834349),(.int .u32 2952996808),(.int .u32 3210313671),(.int .u32 3336571891),(.int .u32 3584528711),(.int .u32 113926993),(.int .u32 338241895),(.int .u32 666307205),(.int .u32 773529912),(.int .u32 1294757372),(.int .u32 1396182291),(.int .u32 1695183700),(.int .u32 1986661051),(.int .u32 2177026350),(.int .u32 2456956037),(.int .u32 2730485921),(.int .u32 2820302411),(.int .u32 3259730800),(.int .u32 3345764771),(.int .u32 3516065817),(.int .u32 3600352804),(.int .u32 4094571909),(.int .u32 275423344),(.int .u32 430227734),(.int .u32 506948616),(.int .u32 659060556),(.int .u32 883997877),(.int .u32 958139571),(.int .u32 1322822218),(.int .u32 1537002063),(.int .u32 1747873779),(.int .u32 1955562222),(.int .u32 2024104815),(.int .u32 2227730452),(.int .u32 2361852424),(.int .u32 2428436474),(.int .u32 2756734187),(.int .u32 3204031479),(.int .u32 3329325298)]
def rep (n:Nat) (x:PV):List PV:=List.replicate n x
def gl:cQ:=[(0,KS),(2,KS)]
noncomputable def Fx (A:An) (o:Option di):di:=match o.map (bP A) with | some f=>f | none=>⟨[],.skip,false,false⟩
def A3:An:=(.node (.ops [2,3,1,0]) (.node (.node (.ops [22,2,3,1,0]) (.node (.node (.ops [8]) .leaf) .leaf)) (.node (.node (.ops [30,2,3,1,0]) (.node (.node (.ops [8]) .leaf) .leaf)) (.node (.ops [9,2,3,1,0,10]) (.node (.node (.ops [42,9,2,3,1]) (.node (.node (.ops [8]) .leaf) .leaf)) (.node (.ops [9,2,3,1,11]) (.node (.node (.node (.ops [9,11,2,3,1]) (.ops [64,9,11,2,3,1])) (.node (.node (.ops [8]) .leaf) .leaf)) (.node (.node (.ops [9,11,2,3,1,13,14]) (.node (.ops [81,9,11,2,3]) (.node (.node (.ops [8]) .leaf) .leaf))) (.node (.node (.ops [92,9,11,2,3]) (.node (.node (.ops [8]) .leaf) .leaf)) (.node (.node (.ops [9,11,2,3,16,15]) (.node (.ops [114,9,11,2,3]) (.node (.node (.ops [8]) .leaf) .leaf))) (.node (.ops [9,11,2,17,3]) (.node (.node (.ops [115,9,11,2,17]) (.node (.node (.ops [17,9,11,2]) (.node (.ops [121,17,9,11,2]) (.node (.node (.ops [8]) .leaf) .leaf))) .leaf)) (.pre [17,9,11,2] (.node (.node (.ops [18,17,9,11,2]) (.node (.loop [18,17,9,11,2] (.node (.node (.ops [125,17,9,11,2,18]) (.node .leaf .leaf)) (.node (.node (.node (.node (.ops [130,17,9,11,2,18]) (.node (.node (.ops [8]) .leaf) .leaf)) (.node (.ops [17,9,11,2,18,20,19]) (.node (.ops [162,17,9,11,2,18]) (.node (.node (.ops [8]) .leaf) .leaf)))) .leaf) (.ops [18,17,9,11,2])))) .leaf)) (.node (.ops [8]) .leaf)))))))))))))))
noncomputable def F3:di:=Fx A3 (bQ Tryz.prog gl { fix:=[(9,11)] } Tryz.f3)
def A8:An:=(.node (.ops []) (.node (.ops [1,2]) (.node (.node (.ops [29,1]) (.node (.node (.ops [0]) .leaf) .leaf)) (.node (.ops [1,3,4]) (.node (.ops [1,3,4,5]) (.node (.node (.node (.ops [5,1,3,4]) (.ops [87,5,1])) (.node (.node (.ops [0]) .leaf) .leaf)) (.node (.ops [5,1,7,8]) (.node (.node (.ops [126,5,1]) (.node (.node (.ops [0]) .leaf) .leaf)) (.node (.ops [5,1,9,10]) (.node (.node (.ops [156,5,1]) (.node (.node (.ops [0]) .leaf) .leaf)) (.node (.ops [5,1,11,12]) (.node (.node (.ops [186,5,1]) (.node (.node (.ops [0]) .leaf) .leaf)) (.node (.ops [5,1,13,14]) (.node (.ops [5,1,15,16,13,14]) (.node (.ops [5,1,15,16,13,14]) (.node (.ops [0]) .leaf))))))))))))))))
noncomputable def F8:di:=Fx A8 (bQ Tryz.prog gl { deep:=10,boxes:=[(2,4),(2,5),(5,0),(5,1)],fix:=[(6,5)] } Tryz.f8)
def A9:An:=(.node (.ops [0]) (.node (.ops [4]) (.node (.ops [4]) (.node (.ops [4]) (.node (.ops [4]) (.node (.ops [4]) (.node (.ops [4]) (.node (.node (.ops [102,4]) (.node (.node (.ops [2,3]) .leaf) .leaf)) (.node (.ops [2,3]) .leaf)))))))))
noncomputable def F9:di:=Fx A9 (bQ Tryz.prog gl { keep:=true } Tryz.f9)
def A10:An:=(.node (.ops [0,1]) (.node (.ops [0,6,5]) (.node (.node (.ops [5,0,6]) (.ops [4])) .leaf)))
noncomputable def F10:di:=Fx A10 (bQ Tryz.prog gl { fix:=[(2,5)] } Tryz.f10)
def A11:An:=(.node (.ops [2,0,1]) (.node (.node (.ops [12,2,0,1]) (.node (.node (.ops [6,7]) .leaf) .leaf)) (.node (.node (.ops [15,2,0,1]) (.node (.node (.ops [6,7]) .leaf) .leaf)) (.node (.ops [2,8]) (.node (.ops [6,7]) .leaf)))))
noncomputable def F11:di:=Fx A11 (bQ Tryz.prog gl { own:=true } Tryz.f11)
def A12:An:=(.node (.ops [1,0]) (.node (.ops [1,0,5]) (.node (.node (.node (.ops [14,1,0,5]) (.node (.node (.ops [4]) .leaf) (.node (.ops [17,1,0,5]) (.node (.node (.ops [4]) .leaf) (.node (.ops [21,1,0,5]) (.node (.node (.ops [4]) .leaf) .leaf)))))) .leaf) (.node (.ops [1,0,5]) (.node (.node (.ops [6,1,0]) (.node (.ops [35,6,1,0]) (.node (.node (.ops [4]) .leaf) .leaf))) (.node (.ops []) (.node (.ops [4]) .leaf)))))))
noncomputable def F12:di:=Fx A12 (bQ Tryz.prog gl { keep:=true } Tryz.f12)
def A13:An:=(.node (.ops [0,1]) (.node (.node (.ops [5,0,1]) (.node (.ops [13,5,0,1]) (.node (.node (.ops [4]) .leaf) .leaf))) (.node (.ops [0,6,1]) (.node (.node (.ops [30,0,6,1]) (.node (.node (.ops [4]) .leaf) .leaf)) (.node (.node (.ops [7,0,6,1]) (.node (.ops [45,7,0,6,1]) (.node (.node (.ops [7]) (.node (.ops [4]) .leaf)) .leaf))) (.node (.ops [0,6,8,1]) (.node (.ops [0,6,8]) (.node (.node (.ops [58,0,6]) (.node (.node (.ops [4]) .leaf) .leaf)) (.node (.ops [9,0]) (.node (.node (.ops [62,9,0]) (.node (.ops [9]) .leaf)) (.node (.ops [4]) .leaf)))))))))))
noncomputable def F13:di:=Fx A13 (bQ Tryz.prog gl { keep:=true } Tryz.f13)
def A14:An:=(.node (.ops [2,0]) (.node (.node (.ops [2,4,0]) (.node (.ops [13,2,4,0]) (.node (.node (.ops [2,3]) .leaf) .leaf))) (.node (.ops [2,5,0]) (.node (.node (.ops [28,2,5,0]) (.node (.node (.ops [2,3]) .leaf) .leaf)) (.node (.ops [2,5,0]) (.node (.ops [2,7,6,5,0]) (.node (.node (.ops [41,2,7,6,5,0]) (.node (.node (.ops [2,3]) .leaf) .leaf)) (.node (.ops [2,6,8,9,5]) (.node (.node (.node (.ops [51,2,6,8,9]) (.node (.node (.ops [2,3]) .leaf) (.node (.ops [61,2,6]) (.node (.node (.ops [2,3]) .leaf) .leaf)))) .leaf) (.node (.ops [2,3]) .leaf))))))))))
noncomputable def F14:di:=Fx A14 (bQ Tryz.prog gl {} Tryz.f14)
def A15:An:=(.node (.ops [0]) (.node (.ops [0,4]) (.node (.node (.node (.ops [12,0,4]) (.node (.node (.ops [2]) .leaf) (.node (.node (.ops [15,0,4]) (.node .leaf (.ops [15,0,4]))) (.node (.node (.ops [2]) .leaf) (.node (.ops [24,0]) (.node (.node (.ops [2]) .leaf) .leaf)))))) .leaf) (.node (.ops [2]) .leaf))))
noncomputable def F15:di:=Fx A15 (bQ Tryz.prog gl { keep:=true } Tryz.f15)
def A16:An:=(.node (.ops [0]) (.node (.ops [3,0,4]) (.node (.node (.ops [18,3,0]) (.node (.node (.ops [2]) .leaf) .leaf)) (.node (.ops [3,0]) (.node (.ops []) (.node (.ops [2]) .leaf))))))
noncomputable def F16:di:=Fx A16 (bQ Tryz.prog gl { keep:=true } Tryz.f16)
def A17:An:=(.node (.ops [0]) (.node (.ops [0]) (.node (.node (.ops [9,0]) (.node (.node (.ops [2,3]) .leaf) .leaf)) (.node (.node (.ops [0,5]) (.node (.ops [22,0]) (.node (.node (.ops [2,3]) .leaf) .leaf))) (.node (.ops [2,3]) .leaf)))))
noncomputable def F17:di:=Fx A17 (bQ Tryz.prog gl { keep:=true } Tryz.f17)
def A18:An:=(.node (.ops [0]) (.node (.node (.node (.ops [3,0]) (.node (.node (.ops [2]) .leaf) (.node (.ops [6,0]) (.node (.node (.ops [2]) .leaf) .leaf)))) .leaf) (.node (.ops [2]) .leaf)))
noncomputable def F18:di:=Fx A18 (bQ Tryz.prog gl { keep:=true } Tryz.f18)
def A19:An:=(.node (.ops [0]) (.node (.ops [4]) (.node (.ops [2]) .leaf)))
noncomputable def F19:di:=Fx A19 (bQ Tryz.prog gl {} Tryz.f19)
def A20:An:=(.node (.ops [0]) (.node (.ops [3]) (.node (.ops [2]) .leaf)))
noncomputable def F20:di:=Fx A20 (bQ Tryz.prog gl {} Tryz.f20)
def A21:An:=(.node (.ops [2,1,0]) (.node (.ops [2,7,8]) (.node (.ops [6]) .leaf)))
noncomputable def F21:di:=Fx A21 (bQ Tryz.prog gl {} Tryz.f21)
def A24:An:=(.node (.ops [2,0]) (.node (.ops [2,5,4,0]) (.node (.node (.node (.ops [11,2,5,4,0]) (.node (.node (.ops [2,3]) .leaf) (.node (.ops [16,2,4,0]) (.node (.node (.ops [2,3]) .leaf) (.node (.ops [24,2,4]) (.node (.node (.ops [2,3]) .leaf) .leaf)))))) .leaf) (.node (.ops [2,3]) .leaf))))
noncomputable def F24:di:=Fx A24 (bQ Tryz.prog gl {} Tryz.f24)
def A26:An:=(.node (.ops [0]) (.node (.node (.ops [7,0]) (.node (.node (.ops [2]) .leaf) .leaf)) (.node (.ops [2]) .leaf)))
noncomputable def F26:di:=Fx A26 (bQ Tryz.prog gl {} Tryz.f26)
def A28:An:=(.node (.ops [2,1,0]) (.node (.node (.ops [7,2,1,0]) (.node (.ops [14,7,2,1,0]) (.node (.node (.ops [6]) .leaf) .leaf))) (.node (.ops [6]) .leaf)))
noncomputable def F28:di:=Fx A28 (bQ Tryz.prog gl {} Tryz.f28)
def A30:An:=(.node (.ops [4,2,1]) (.node (.ops [4,2,1,6]) (.node (.node (.ops [14,4,2,1,6]) (.node (.node (.ops [4,5]) .leaf) .leaf)) (.node (.node (.ops [25,4,2,1,6]) (.node (.node (.ops [4,5]) .leaf) .leaf)) (.node (.ops [7,4,2,1,6]) (.node (.node (.ops [8,7,4,2,1,6]) (.node (.loop [8,7,4,2,1,6] (.node (.node (.ops [33,4,2,1,6,8,7]) (.node .leaf .leaf)) (.node (.node (.ops [7,4,2,1,6,8]) .leaf) (.ops [8,7,4,2,1,6])))) .leaf)) (.node (.ops [4,2,1]) (.node (.ops [4,2,1]) (.node (.ops [4,2]) (.node (.ops [4,5]) .leaf))))))))))
noncomputable def F30:di:=Fx A30 (bQ Tryz.prog gl {} Tryz.f30)
def A36:An:=(.ops [])
noncomputable def F36:di:=Fx A36 (bQ Tryz.prog gl {} Tryz.f36)
def A39:An:=(.node (.ops [1,0]) (.node (.node (.ops [17,1,0]) (.node (.node (.ops [4,5]) .leaf) .leaf)) (.node (.ops [6]) (.node (.ops [6,7,8]) (.node (.node (.ops [33,6,7]) (.node (.node (.ops [4,5]) .leaf) .leaf)) (.node (.ops [9,6,8]) (.node (.node (.ops [48,9,6]) (.node (.node (.ops [4,5]) .leaf) .leaf)) (.node (.ops [7]) (.node (.node (.ops [7,11]) (.node (.ops [63,7]) (.node (.node (.ops [4,5]) .leaf) .leaf))) (.node (.ops [4,5]) .leaf))))))))))
noncomputable def F39:di:=Fx A39 (bQ Tryz.prog gl {} Tryz.f39)
def A41:An:=(.node (.ops [0]) (.node (.ops [2]) .leaf))
noncomputable def F41:di:=Fx A41 (bQ Tryz.prog gl {} Tryz.f41)
def A43:An:=(.node (.ops [4,1,0]) (.node (.ops [4,6,7]) (.node (.node (.ops [17,4,6]) (.node (.node (.ops [4,5]) .leaf) .leaf)) (.node (.ops [4,8]) (.node (.ops [4,5]) .leaf)))))
noncomputable def F43:di:=Fx A43 (bQ Tryz.prog gl {} Tryz.f43)
def A44:An:=(.node (.ops [0]) (.node (.ops [2]) .leaf))
noncomputable def F44:di:=Fx A44 (bQ Tryz.prog gl {} Tryz.f44)
def A45:An:=(.node (.ops [0]) (.node (.node (.ops [13,0]) (.node (.node (.ops [2]) .leaf) .leaf)) (.node (.node (.ops [3,0]) (.node (.loop [3,0] (.node (.node (.ops [17,0,3]) (.node .leaf .leaf)) (.node (.node (.node (.ops [0,3,4]) (.node (.ops [0,3,5]) (.node (.ops [50,0,3]) (.node (.node (.ops [2]) .leaf) .leaf)))) .leaf) (.ops [3,0])))) .leaf)) (.node (.ops [2]) .leaf))))
noncomputable def Zf:di:=Fx A45 (bQ Tryz.prog gl {} Tryz.f45)
def A46:An:=(.node (.ops [0]) (.node (.ops [2]) .leaf))
noncomputable def F46:di:=Fx A46 (bQ Tryz.prog gl {} Tryz.f46)
def A47:An:=(.node (.ops [1,0]) (.node (.node (.ops [10,1,0]) (.node (.node (.ops [4]) .leaf) .leaf)) (.node (.node (.ops [5,1,0]) (.node (.loop [5,1,0] (.node (.node (.ops [14,1,0,5]) (.node .leaf .leaf)) (.node (.node (.node (.ops [25,1,0,5]) (.node (.node (.ops [4]) .leaf) .leaf)) .leaf) (.ops [5,1,0])))) .leaf)) (.node (.ops [4]) .leaf))))
noncomputable def Zg:di:=Fx A47 (bQ Tryz.prog gl {} Tryz.f47)
def A49:An:=(.node (.ops [2,1,0]) (.node (.ops [2,1,0,8]) (.node (.node (.ops [31,2,1,0]) (.node (.node (.ops [6,7]) .leaf) .leaf)) (.node (.ops [6,7]) .leaf))))
noncomputable def F49:di:=Fx A49 (bQ Tryz.prog gl { keep:=true } Tryz.f49)
def A50:An:=(.node (.ops [1]) (.node (.node (.ops [9,1]) (.node (.node (.ops [2,3]) .leaf) .leaf)) (.node (.ops [1,4]) (.node (.node (.ops [5,1,4]) (.node (.loop [5,1,4] (.node (.node (.ops [20,1,5,4]) (.node .leaf .leaf)) (.node (.node (.node (.ops [27,1,5,4]) (.node (.ops [1,4,5]) (.ops [1,4,5]))) .leaf) (.ops [5,1,4])))) .leaf)) (.node (.node (.ops [6,1,4]) (.node (.loop [6,1,4] (.node (.node (.ops [39,1,6,4]) (.node .leaf .leaf)) (.node (.node (.ops [1,4,6]) .leaf) (.ops [6,1,4])))) .leaf)) (.node (.ops [2,3]) .leaf))))))
noncomputable def VV:di:=Fx A50 (bQ Tryz.prog gl { gp:=[(8,6),(9,2),(13,6)],boxes:=[(3,0),(3,1)],low:=[(3,1)] } Tryz.f50)
def A51:An:=(.node (.ops [0,2]) (.node (.ops [0,3,2]) (.node (.node (.ops [4,0,3,2]) (.node (.loop [4,0,3,2] (.node (.node (.ops [24,0,2,4,3]) (.node .leaf .leaf)) (.node (.node (.ops [0,3,2,4]) .leaf) (.ops [4,0,3,2])))) .leaf)) (.node (.ops [3,2,0]) (.node (.node (.loop [3,2,0] (.node (.node (.ops [40,2,0,3]) (.node .leaf .leaf)) (.node (.ops [3,2,0]) .leaf))) .leaf) (.node (.ops [5,3,2]) (.node (.node (.ops [6,5,3,2]) (.node (.loop [6,5,3,2] (.node (.node (.ops [49,5,2,6,3]) (.node .leaf .leaf)) (.node (.node (.ops [5,3,2,6]) .leaf) (.ops [6,5,3,2])))) .leaf)) (.node (.ops [3,7,2]) (.node (.node (.ops [8,3,7,2]) (.node (.loop [8,3,7,2] (.node (.node (.ops [64,8,3,7,2]) (.node .leaf .leaf)) (.node (.node (.node (.ops [9,8,3,7,2]) (.node (.node (.ops [10,9,8,3,7,2]) (.node (.loop [10,9,8,3,7,2] (.node (.node (.ops [69,9,8,3,7,2,10]) (.node .leaf .leaf)) (.node (.node (.node (.node (.ops [73,9,8,3,7,2,10]) (.node (.node (.ops [9,8,3,7,2,10]) .leaf) .leaf)) (.node (.ops [9,8,3,7,2,10,11]) (.node (.ops [9,8,3,7,2,10,12,11]) (.ops [9,8,3,7,2,10])))) .leaf) (.ops [10,9,8,3,7,2])))) .leaf)) (.node (.ops [13,9,7,3,2,8]) (.node (.node (.ops [14,13,9,7,3,2,8]) (.node (.loop [14,13,9,7,3,2,8] (.node (.node (.ops [168,13,9,7,3,2,8,14]) (.node .leaf .leaf)) (.node (.node (.node (.ops [13,9,7,3,2,8,14,15]) (.node (.ops [13,9,7,3,2,8,14,15,16]) (.ops [13,9,7,3,2,8,14]))) .leaf) (.ops [14,13,9,7,3,2,8])))) .leaf)) (.node (.ops [17,7,13,3,2,8]) (.node (.loop [17,7,13,3,2,8] (.node (.node (.ops [256,7,13,3,2,8,17]) (.node .leaf .leaf)) (.node (.node (.ops [7,13,3,2,8,17]) .leaf) (.ops [17,7,13,3,2,8])))) .leaf)))))) .leaf) (.ops [8,3,7,2])))) .leaf)) (.node (.ops [18,7,2]) (.node (.node (.ops [19,18,7,2]) (.node (.loop [19,18,7,2] (.node (.node (.ops [270,18,7,2,19]) (.node .leaf .leaf)) (.node (.node (.ops [18,7,2,19]) .leaf) (.ops [19,18,7,2])))) .leaf)) (.node (.ops [2]) .leaf))))))))))))
noncomputable def Dy:di:=Fx A51 (bQ Tryz.prog gl {} Tryz.f51)
def A52:An:=(.node (.ops [0]) (.node (.ops [0,3]) (.node (.node (.ops [4,0,3]) (.node (.loop [4,0,3] (.node (.node (.ops [10,4,0,3]) (.node .leaf .leaf)) (.node (.node (.node (.ops [5,4,0,3]) (.node (.loop [5,4,0,3] (.node (.node (.ops [19,4,0,5,3]) (.node .leaf .leaf)) (.node (.node (.ops [4,0,3,5]) .leaf) (.ops [5,4,0,3])))) .leaf)) .leaf) (.ops [4,0,3])))) .leaf)) (.node (.ops [2]) .leaf))))
noncomputable def VW:di:=Fx A52 (bQ Tryz.prog gl { gp:=[(8,9)],own:=true } Tryz.f52)
def A53:An:=(.node (.ops [0]) (.node (.ops [2]) .leaf))
noncomputable def F53:di:=Fx A53 (bQ Tryz.prog gl {} Tryz.f53)
def A54:An:=(.node (.ops [0]) (.node (.ops [2]) .leaf))
noncomputable def F54:di:=Fx A54 (bQ Tryz.prog gl {} Tryz.f54)
def A55:An:=(.node (.ops [0]) (.node (.node (.ops [9,0,8]) (.node (.loop [9,0,8] (.node (.ops [10,0,8,9]) (.node (.node .leaf .leaf) (.node (.node (.node (.ops [0,8,9,3]) (.node (.ops [4,0,8,9]) (.node (.ops [24,4,0,8,9]) (.node (.node (.ops [2]) .leaf) .leaf)))) .leaf) (.ops [9,0,8]))))) .leaf)) (.node (.ops [2]) .leaf)))
noncomputable def Zh:di:=Fx A55 (bQ Tryz.prog gl {} Tryz.f55)
def A56:An:=(.node (.ops []) (.node (.ops [0]) .leaf))
noncomputable def F56:di:=Fx A56 (bQ Tryz.prog gl { keep:=true } Tryz.f56)
def A57:An:=(.node (.ops [0]) (.node (.node (.node (.ops [3,0]) (.node (.node (.ops []) (.node (.ops [2]) .leaf)) (.node (.ops [8]) (.node (.node (.ops [2]) .leaf) .leaf)))) .leaf) (.node (.ops [2]) .leaf)))
noncomputable def F57:di:=Fx A57 (bQ Tryz.prog gl {} Tryz.f57)
def A58:An:=(.node (.ops [1,0,4]) (.node (.ops [1,0,4]) (.node (.ops [1,0]) (.ops []))))
noncomputable def F58:di:=Fx A58 (bQ Tryz.prog gl { keep:=true } Tryz.f58)
def A59:An:=(.node (.ops [0]) (.node (.node (.ops [10,0]) (.node (.node (.ops [2]) .leaf) .leaf)) (.node (.ops [4,0,3]) (.node (.node (.ops [30,4]) (.node (.node (.ops [2]) .leaf) .leaf)) (.node (.ops [2]) .leaf)))))
noncomputable def F59:di:=Fx A59 (bQ Tryz.prog gl {} Tryz.f59)
def A60:An:=(.node (.ops [2,0]) (.node (.node (.node (.ops [11,2,0]) (.node (.node (.ops [2,3]) .leaf) (.node (.ops [16,2,0]) (.node (.node (.ops [2,3]) .leaf) .leaf)))) .leaf) (.node (.ops [2,0]) (.node (.node (.ops [2,0,5]) (.node (.ops [31,2,0]) (.node (.node (.ops [2,3]) .leaf) .leaf))) (.node (.ops [2,6,0]) (.node (.ops [2,6,0]) (.node (.ops [2,6,0,7]) (.node (.ops [2,6,0,9,7,10]) (.node (.node (.ops [57,2,6,0,9,7]) (.node (.node (.ops [2,3]) .leaf) .leaf)) (.node (.ops [2,6,0]) (.node (.ops [2,6]) (.node (.ops [2,3]) .leaf))))))))))))
noncomputable def F60:di:=Fx A60 (bQ Tryz.prog gl { boxes:=[(3,1),(3,2)] } Tryz.f60)
def A61:An:=(.node (.ops [2,0]) (.node (.ops [2,3,0]) (.node (.ops [2,3]) (.node (.ops [4,2,3]) (.node (.node (.ops [4,18,17,2]) (.node (.loop [4,18,17,2] (.node (.ops [19,4,17,2,18]) (.node (.node .leaf .leaf) (.node (.node (.node (.ops [4,6,5,17,2,18]) (.node (.ops [22,4,6,5,17,2,18]) (.node (.loop [22,4,6,5,17,2,18] (.node (.ops [23,4,6,5,17,2,18,22]) (.node (.node .leaf .leaf) (.node (.node (.node (.ops [4,6,5,17,2,18,22,7]) (.ops [4,6,5,17,2,18,22])) .leaf) (.ops [22,4,6,5,17,2,18]))))) .leaf))) .leaf) (.ops [4,18,17,2]))))) .leaf)) (.node (.ops [2]) .leaf))))))
noncomputable def F61:di:=Fx A61 (bQ Tryz.prog gl {} Tryz.f61)
def A62:An:=(.node (.ops [2,1,0]) (.node (.node (.ops [2,1,0,8,7]) (.node (.ops [21,2,1,0]) (.node (.node (.ops [6]) .leaf) .leaf))) (.node (.ops [6]) .leaf)))
noncomputable def F62:di:=Fx A62 (bQ Tryz.prog gl { keep:=true } Tryz.f62)
def A63:An:=(.node (.ops [1,0]) (.node (.ops [6,1,0]) (.node (.node (.ops [28,6]) (.node (.node (.ops [4,5]) .leaf) .leaf)) (.node (.node (.ops [33,6]) (.node (.node (.ops [4,5]) .leaf) .leaf)) (.node (.ops [8,6,7]) (.node (.node (.ops [40,8,6,7]) (.node (.node (.ops [4,5]) .leaf) .leaf)) (.node (.node (.ops [43,6]) (.node (.node (.ops [6]) (.node (.node (.ops [9,6]) (.node (.ops [58,9,6]) (.node (.node (.ops [4,5]) .leaf) .leaf))) (.node (.ops [4,5]) .leaf))) .leaf)) (.node (.ops [6,8,10]) (.node (.node (.ops [70,6,8]) (.node (.ops [8,6]) .leaf)) (.node (.node (.ops [78,8,6]) (.node (.node (.ops [4,5]) .leaf) .leaf)) (.node (.ops [4,5]) .leaf)))))))))))
noncomputable def F63:di:=Fx A63 (bQ Tryz.prog gl { keep:=true } Tryz.f63)
def A64:An:=(.node (.ops [2,1,0]) (.node (.ops [7]) (.node (.ops [7]) (.node (.ops [6]) .leaf))))
noncomputable def F64:di:=Fx A64 (bQ Tryz.prog gl { keep:=true } Tryz.f64)
def A65:An:=(.node (.ops [0,1,2]) (.node (.ops [0,1,2,8]) (.node (.node (.ops [0,1,2,8,10]) (.node (.ops [23,0,1,2,8]) (.node (.node (.ops [1,0,2,8]) (.node (.ops [1,0,2,8,12]) (.node (.ops [35,1,0,2,8]) (.node (.node (.ops [6,7]) .leaf) .leaf)))) .leaf))) (.node (.node (.ops [13,1,0]) (.node (.ops [41,13,1,0]) (.node (.node (.ops [6,7]) .leaf) .leaf))) (.node (.ops [1]) (.node (.ops [6,7]) .leaf))))))
noncomputable def F65:di:=Fx A65 (bQ Tryz.prog gl { keep:=true } Tryz.f65)
def A66:An:=(.node (.ops [0]) (.node (.ops [4]) (.node (.node (.ops [28,4]) (.node (.node (.ops [2,3]) .leaf) .leaf)) (.node (.ops [2,3]) .leaf))))
noncomputable def F66:di:=Fx A66 (bQ Tryz.prog gl {} Tryz.f66)
def A67:An:=(.node (.ops [1,0]) (.node (.ops [4]) .leaf))
noncomputable def F67:di:=Fx A67 (bQ Tryz.prog gl {} Tryz.f67)
def A69:An:=(.node (.ops [2,0]) (.node (.ops [3,2,0]) (.node (.node (.ops [9,3,7,2,8]) (.node (.loop [9,3,7,2,8] (.node (.ops [10,3,7,2,8,9]) (.node (.node .leaf .leaf) (.node (.node (.node (.ops [3,7,2,8,9,5]) (.ops [3,7,2,8,9])) .leaf) (.ops [9,3,7,2,8]))))) .leaf)) (.node (.ops [2]) .leaf))))
noncomputable def F69:di:=Fx A69 (bQ Tryz.prog gl {} Tryz.f69)
def A70:An:=(.node (.ops [2,1,0]) (.node (.node (.node (.ops [7,2,1,0]) (.node (.node (.ops [6]) .leaf) (.node (.ops [13]) (.node (.node (.ops [6]) .leaf) .leaf)))) .leaf) (.node (.ops [6]) .leaf)))
noncomputable def F70:di:=Fx A70 (bQ Tryz.prog gl {} Tryz.f70)
def A71:An:=(.node (.ops [1,0,2]) (.node (.node (.node (.ops [9,1,0,2]) (.node (.node (.ops [6]) .leaf) (.node (.ops [14,1,0,2]) (.node (.node (.ops [6]) .leaf) (.node (.ops [21,1,0,2]) (.node (.node (.ops [6]) .leaf) .leaf)))))) .leaf) (.node (.node (.ops [29,1,0,27,28]) (.node (.loop [29,1,0,27,28] (.node (.ops [30,1,0,27,28,29]) (.node (.node .leaf .leaf) (.node (.node (.node (.ops [1,0,27,28,29,8,7]) (.node (.ops [40,1,0,27,28,29]) (.node (.node (.ops [6]) .leaf) .leaf))) .leaf) (.ops [29,1,0,27,28]))))) .leaf)) (.node (.ops [6]) .leaf))))
noncomputable def F71:di:=Fx A71 (bQ Tryz.prog gl {} Tryz.f71)
def A72:An:=(.node (.ops [0]) (.node (.ops [2]) .leaf))
noncomputable def F72:di:=Fx A72 (bQ Tryz.prog gl {} Tryz.f72)
def A73:An:=(.node (.ops [0]) (.node (.node (.ops [4,0]) (.node (.node (.ops [2]) .leaf) .leaf)) (.node (.ops [2]) .leaf)))
noncomputable def F73:di:=Fx A73 (bQ Tryz.prog gl { boxes:=[(3,2)],own:=true } Tryz.f73)
def A76:An:=(.node (.ops [0]) (.node (.ops [0,3]) (.node (.node (.ops [4,0,3]) (.node (.loop [4,0,3] (.node (.node (.ops [9,0,4,3]) (.node .leaf .leaf)) (.node (.node (.ops [0,3,4]) .leaf) (.ops [4,0,3])))) .leaf)) (.node (.ops [2]) .leaf))))
noncomputable def Zj:di:=Fx A76 (bQ Tryz.prog gl { gp:=[(5,6)],own:=true } Tryz.f76)
def A79:An:=(.node (.ops [2,1,0]) (.node (.node (.ops [8,2,1,0]) (.node (.ops [14,8,2,1,0]) (.node (.node (.ops [6,7]) .leaf) .leaf))) (.node (.ops [6,7]) .leaf)))
noncomputable def F79:di:=Fx A79 (bQ Tryz.prog gl {} Tryz.f79)
def A81:An:=(.node (.ops [0]) (.node (.ops [2]) .leaf))
noncomputable def F81:di:=Fx A81 (bQ Tryz.prog gl {} Tryz.f81)
def A82:An:=(.node (.ops [0]) (.node (.ops [2]) .leaf))
noncomputable def F82:di:=Fx A82 (bQ Tryz.prog gl {} Tryz.f82)
def A83:An:=(.node (.ops [1]) (.node (.ops [2]) .leaf))
noncomputable def F83:di:=Fx A83 (bQ Tryz.prog gl {} Tryz.f83)
def A84:An:=(.node (.ops [1,0]) (.node (.ops [1,5]) (.node (.node (.ops [6,1,5]) (.node (.loop [6,1,5] (.node (.node (.ops [10,6,1,5]) (.node .leaf .leaf)) (.node (.node (.node (.ops [5,6,1]) (.ops [1,5,6])) .leaf) (.ops [6,1,5])))) .leaf)) (.node (.ops [4]) .leaf))))
noncomputable def Zl:di:=Fx A84 (bQ Tryz.prog gl { gp:=[(5,5)],own:=true } Tryz.f84)
def A85:An:=(.node (.ops [0]) (.node (.ops [2]) .leaf))
noncomputable def F85:di:=Fx A85 (bQ Tryz.prog gl {} Tryz.f85)
def A86:An:=(.node (.ops [1,0]) (.node (.ops [4]) .leaf))
noncomputable def F86:di:=Fx A86 (bQ Tryz.prog gl {} Tryz.f86)
def A87:An:=(.node (.ops [0]) (.node (.ops [2]) .leaf))
noncomputable def F87:di:=Fx A87 (bQ Tryz.prog gl {} Tryz.f87)
def A88:An:=(.node (.ops [0,1]) (.node (.node (.node (.ops [6,0,1]) (.node (.node (.ops [4]) .leaf) (.node (.ops [11,0,1]) (.node (.node (.ops [4]) .leaf) .leaf)))) .leaf) (.node (.ops [0,1]) (.node (.node (.ops [42,0,1,41]) (.node (.loop [42,0,1,41] (.node (.ops [43,0,1,41,42]) (.node (.node .leaf .leaf) (.node (.node (.node (.ops [0,1,41,42,5]) (.node (.ops [55,0,1,41,42]) (.node (.node (.ops [4]) .leaf) .leaf))) .leaf) (.ops [42,0,1,41]))))) .leaf)) (.node (.ops [4]) .leaf)))))
noncomputable def Zm:di:=Fx A88 (bQ Tryz.prog gl {} Tryz.f88)
def A89:An:=(.node (.ops [0]) (.node (.ops [0]) .leaf))
noncomputable def F89:di:=Fx A89 (bQ Tryz.prog gl {} Tryz.f89)
def A90:An:=(.node (.loop [0,1] (.node (.node (.ops [8,0,1]) (.node .leaf .leaf)) (.node (.node (.ops [0,4,1]) (.node (.ops [0,5,4,1]) (.node (.ops [0,1,5,4]) (.node (.ops [0,1,5,4]) (.node (.ops [35,0,1]) (.node (.ops [0,1]) .leaf)))))) .leaf))) .leaf)
noncomputable def Zn:di:=Fx A90 (bQ Tryz.prog gl {} Tryz.f90)
def A91:An:=(.node (.ops [1,0]) (.node (.ops [4]) .leaf))
noncomputable def F91:di:=Fx A91 (bQ Tryz.prog gl {} Tryz.f91)
def A92:An:=(.node (.ops [0]) (.node (.ops [4,0]) (.node (.node (.ops [11,4,0]) (.node (.node (.ops [2,3]) .leaf) .leaf)) (.node (.node (.ops [4,0,5]) (.node (.ops [24,4,0]) (.node (.node (.ops [2,3]) .leaf) .leaf))) (.node (.ops [2,3]) .leaf)))))
noncomputable def F92:di:=Fx A92 (bQ Tryz.prog gl {} Tryz.f92)
def A93:An:=(.node (.ops [0]) (.node (.node (.ops [8,0]) (.node (.node (.ops [2,3]) .leaf) .leaf)) (.node (.ops [0,4]) (.node (.node (.ops [9,0,4]) (.node (.loop [9,0,4] (.node (.ops [10,0,9,4]) (.node (.node .leaf .leaf) (.node (.node (.node (.ops [0,9,5,4]) (.ops [0,4,9])) .leaf) (.ops [9,0,4]))))) .leaf)) (.node (.ops [2,3]) .leaf)))))
noncomputable def Zo:di:=Fx A93 (bQ Tryz.prog gl {} Tryz.f93)
def A94:An:=(.node (.ops [0]) (.node (.ops [4]) (.node (.ops [2,3]) .leaf)))
noncomputable def F94:di:=Fx A94 (bQ Tryz.prog gl {} Tryz.f94)
def A95:An:=(.node (.ops [0]) (.node (.ops [3]) (.node (.ops [2]) .leaf)))
noncomputable def F95:di:=Fx A95 (bQ Tryz.prog gl { keep:=true } Tryz.f95)
def A96:An:=(.node (.ops [0]) (.node (.ops [0,3]) (.node (.node (.ops [14,0,3]) (.node (.ops [3,0]) .leaf)) (.pre [3,0] (.node (.ops [3,4,0]) (.node (.ops [3,4,0]) (.node (.ops [5,3,4]) (.node (.node (.ops [27,5,3,4]) (.node (.loop [27,5,3,4] (.node (.ops [28,5,3,4,27]) (.node (.node .leaf .leaf) (.node (.node (.node (.ops [5,3,4,27,6]) (.ops [5,3,4,27])) .leaf) (.ops [27,5,3,4]))))) .leaf)) (.node (.ops [2]) .leaf)))))))))
noncomputable def F96:di:=Fx A96 (bQ Tryz.prog gl {} Tryz.f96)
def A97:An:=(.node (.ops [2,1,0]) (.node (.node (.ops [7,2,1,0]) (.node (.ops [16,7,2,1,0]) (.node (.node (.ops [6]) .leaf) .leaf))) (.node (.node (.ops [2,1,0,8,9]) (.node (.ops [32,2,1,0]) (.node (.node (.ops [6]) .leaf) .leaf))) (.node (.ops [10,2,1,0]) (.node (.ops [10,2,1,0]) (.node (.ops [6]) .leaf))))))
noncomputable def F97:di:=Fx A97 (bQ Tryz.prog gl { keep:=true,quiet:=[(8,3),(9,3)] } Tryz.f97)
def A98:An:=(.node (.ops [0]) (.node (.ops [0,4]) (.node (.node (.ops [10,0,4]) (.node (.loop [10,0,4] (.node (.ops [11,0,10,4]) (.node (.node .leaf .leaf) (.node (.node (.node (.ops [0,10,5,4]) (.node (.ops [7,0,10,5,4,6]) (.node (.node (.ops [20,7,0,10,5,4,6]) (.node (.node (.ops [2,3]) .leaf) .leaf)) (.node (.ops [0,10,8,5,4,6]) (.node (.ops [43,0,10,8,5,4]) (.node (.ops [0,4,10]) .leaf)))))) .leaf) (.ops [10,0,4]))))) .leaf)) (.node (.ops [2,3]) .leaf))))
noncomputable def F98:di:=Fx A98 (bQ Tryz.prog gl {} Tryz.f98)
def A99:An:=(.node (.ops [0,1]) (.node (.node (.node (.ops [10,0,1]) (.node (.node (.ops [4]) .leaf) (.node (.ops [18,0,1]) (.node (.node (.ops [4]) .leaf) .leaf)))) .leaf) (.node (.ops [0,1,5]) (.node (.ops [0,1,5,6]) (.node (.node (.ops [7,0,1,5,6]) (.node (.ops [38,7,0,1,5,6]) (.node (.node (.ops [4]) .leaf) .leaf))) (.node (.ops [0,1,8,5,6,9]) (.node (.node (.ops [47,0,1,8,5,6,9]) (.node (.ops [0,1,8,5,6,9]) .leaf)) (.pre [0,1,8,5,6,9] (.node (.node (.ops [57,0,1,8,5,6,9]) (.node (.ops [9,0,1,8,5]) .leaf)) (.node (.node (.ops [62,9,0,1,8,5]) (.node (.node (.ops [4]) .leaf) .leaf)) (.node (.ops [0]) (.node (.ops []) (.node (.ops [4]) .leaf)))))))))))))
noncomputable def F99:di:=Fx A99 (bQ Tryz.prog gl { keep:=true } Tryz.f99)
def VX:An:=(.node (.ops [0]) (.node (.ops [3,0,4]) (.node (.node (.ops [19,3,0,4]) (.node (.node (.ops [2,3]) .leaf) .leaf)) (.node (.ops [0,4]) (.node (.node (.loop [0,4] (.node (.node (.ops [0,4,5,6]) (.node (.node (.ops [38,0,4,5]) (.node .leaf .leaf)) (.node (.node (.ops [46,0,4,5]) (.node (.node (.ops [2,3]) .leaf) .leaf)) (.node (.node (.ops [48,0,4,5]) (.node (.ops [0,4,5]) (.ops [0,4,5]))) (.ops [0,4]))))) .leaf)) .leaf) (.node (.node (.ops [76,74,75]) (.node (.loop [76,74,75] (.node (.ops [77,74,75,76]) (.node (.node .leaf .leaf) (.node (.node (.node (.ops [74,75,76,8]) (.node (.ops [81,74,75,76]) (.node (.node (.ops [2,3]) .leaf) .leaf))) .leaf) (.ops [76,74,75]))))) .leaf)) (.node (.ops [2,3]) .leaf)))))))
noncomputable def Zp:di:=Fx VX (bQ Tryz.prog gl { keep:=true } Tryz.f100)
def VY:An:=(.node (.ops [1,0]) (.node (.ops [7,6]) (.node (.ops [4,5]) .leaf)))
noncomputable def VZ:di:=Fx VY (bQ Tryz.prog gl { own:=true } Tryz.f101)
def V0:An:=(.node (.ops [1,0,2]) (.node (.ops [6]) .leaf))
noncomputable def Zq:di:=Fx V0 (bQ Tryz.prog gl {} Tryz.f104)
def V1:An:=(.node (.ops [1,0,2]) (.node (.ops [6]) .leaf))
noncomputable def Zr:di:=Fx V1 (bQ Tryz.prog gl {} Tryz.f105)
def V2:An:=(.node (.ops [1,0,2]) (.node (.node (.ops [11,1,0,9,10]) (.node (.loop [11,1,0,9,10] (.node (.ops [12,1,0,9,10,11]) (.node (.node .leaf .leaf) (.node (.node (.node (.ops [1,0,9,10,11,7,8]) (.node (.ops [27,1,0,9,10,11]) (.node (.node (.ops [6]) .leaf) .leaf))) .leaf) (.ops [11,1,0,9,10]))))) .leaf)) (.node (.ops [6]) .leaf)))
noncomputable def Zt:di:=Fx V2 (bQ Tryz.prog gl {} Tryz.f106)
def V3:An:=(.node (.ops [0,2,1]) (.node (.node (.ops [11,0,2,1]) (.node (.node (.ops []) (.node (.ops [6]) .leaf)) .leaf)) (.node (.node (.ops [19,0,2,1]) (.node (.ops [0,2,1]) .leaf)) (.node (.ops [0]) (.node (.ops []) (.node (.ops [6]) .leaf))))))
noncomputable def V4:di:=Fx V3 (bQ Tryz.prog gl {} Tryz.f107)
def V5:An:=(.node (.ops [2,1,0]) (.node (.node (.node (.ops [8,2,1,0]) (.node (.node (.ops [6,7]) .leaf) (.node (.ops [13,2,1,0]) (.node (.node (.ops [6,7]) .leaf) .leaf)))) .leaf) (.node (.ops [6,7]) .leaf)))
noncomputable def Zu:di:=Fx V5 (bQ Tryz.prog gl {} Tryz.f108)
def V6:An:=(.node (.ops [0]) (.node (.ops [3,0]) (.node (.node (.ops [3,4,0]) (.node (.loop [3,4,0] (.node (.node (.ops [11,3,4,0]) (.node .leaf .leaf)) (.node (.node (.node (.ops [5,3,4,0]) (.node (.loop [5,3,4,0] (.node (.node (.ops [15,4,0,5,3]) (.node .leaf .leaf)) (.node (.node (.node (.ops [4,0,5,6,3]) (.node (.ops [4,0,5,7,6,3]) (.node (.ops [4,0,5,3,7,6]) (.node (.ops [32,4,0,5,3]) (.node (.ops [3,4,0,5]) .leaf))))) .leaf) (.ops [5,3,4,0])))) .leaf)) .leaf) (.ops [3,4,0])))) .leaf)) (.node (.ops [2]) .leaf))))
noncomputable def Jz:di:=Fx V6 (bQ Tryz.prog gl {} Tryz.f111)
def V7:An:=(.node (.ops [2,0]) (.node (.ops [3,2,0]) (.node (.node (.ops [23,3,2,0]) (.node (.loop [23,3,2,0] (.node (.ops [24,3,2,0,23]) (.node (.node .leaf .leaf) (.node (.node (.node (.ops [3,2,0,23,4]) (.node (.ops [3,2,0,23,7,6,5,4,10,8,9]) (.node (.ops [3,2,0,23,11,7,6,5]) (.node (.ops [3,2,0,23,12,11]) (.node (.ops [3,2,0,23,12,11]) (.node (.ops [3,2,0,23,12,11]) (.ops [3,2,0,23]))))))) .leaf) (.ops [23,3,2,0]))))) .leaf)) (.node (.ops [100,0,99]) (.node (.loop [100,0,99] (.node (.ops [101,0,99,100]) (.node (.node .leaf .leaf) (.node (.node (.node (.ops [0,99,100,14,13]) (.ops [0,99,100])) .leaf) (.ops [100,0,99]))))) .leaf)))))
noncomputable def JA:di:=Fx V7 (bQ Tryz.prog gl {} Tryz.f112)
def V8:An:=(.node (.ops [0]) (.node (.ops [2]) .leaf))
noncomputable def V9:di:=Fx V8 (bQ Tryz.prog gl {} Tryz.f113)
def Wa:An:=(.node (.ops [0]) (.node (.node (.ops [0,6]) (.node (.loop [0,6] (.node (.ops [8,0,6,7]) (.node (.node .leaf .leaf) (.node (.node (.ops [0,6,4]) (.node (.ops [12,0,6]) (.node (.node (.ops [2]) .leaf) .leaf))) .leaf)))) .leaf)) (.node (.ops [2]) .leaf)))
noncomputable def P9:di:=Fx Wa (bQ Tryz.prog gl {} Tryz.f115)
def Wb:An:=(.node (.ops [2,1,0]) (.node (.node (.node (.node (.ops [7,2,1,0]) (.node .leaf (.ops [7,2,1]))) (.node (.node (.ops [6]) .leaf) (.node (.ops [22,2]) (.node (.node (.ops [6]) .leaf) (.node (.ops [29]) (.node (.node (.ops [6]) .leaf) .leaf)))))) .leaf) (.node (.ops [6]) .leaf)))
noncomputable def Zv:di:=Fx Wb (bQ Tryz.prog gl {} Tryz.f116)
def Wc:An:=(.node (.ops [2,0,1]) (.node (.ops [2,0,7,1]) (.node (.node (.node (.ops [12,2,0,7,1]) (.node (.node (.ops [6]) .leaf) (.node (.ops [20,2,0,7,1]) (.node (.node (.ops [6]) .leaf) .leaf)))) .leaf) (.node (.node (.ops [8,2,0,7]) (.node (.ops [44,8,2,0,7]) (.node (.node (.ops [6]) .leaf) .leaf))) (.node (.ops [2,0]) (.node (.ops []) (.node (.ops [6]) .leaf)))))))
noncomputable def Zw:di:=Fx Wc (bQ Tryz.prog gl { keep:=true } Tryz.f118)
def Wd:An:=(.node (.ops [1,0,2]) (.node (.ops [1,0,7,2]) (.node (.node (.ops [10,1,0,7]) (.node (.ops [1,7,0]) .leaf)) (.node (.ops [6]) .leaf))))
noncomputable def Zx:di:=Fx Wd (bQ Tryz.prog gl {} Tryz.f119)
def We:An:=(.node (.ops [0,1]) (.node (.ops [4,5]) .leaf))
noncomputable def Zy:di:=Fx We (bQ Tryz.prog gl {} Tryz.f120)
def Wf:An:=(.node (.ops [1,0]) (.node (.ops [1,6,0]) (.node (.node (.ops [14,1,6,0,12,13]) (.node (.loop [14,1,6,0,12,13] (.node (.ops [15,1,0,12,13,14,6]) (.node (.node .leaf .leaf) (.node (.node (.node (.ops [1,0,12,13,14,8,6]) (.node (.node (.ops [9,1,0,12,13,14,8,6]) (.node (.ops [27,9,1,0,12,13,14,8,6]) (.node (.node (.ops [4,5]) .leaf) .leaf))) (.ops [1,6,0,12,13,14]))) .leaf) (.ops [14,1,6,0,12,13]))))) .leaf)) (.node (.ops [4,5]) .leaf))))
noncomputable def Zz:di:=Fx Wf (bQ Tryz.prog gl {} Tryz.f122)
def Wg:An:=(.node (.ops [1,0]) (.node (.ops [1,5]) (.node (.node (.ops [9,1,5]) (.node (.loop [9,1,5] (.node (.ops [10,1,9,5]) (.node (.node .leaf .leaf) (.node (.node (.node (.ops [1,9,6,5]) (.ops [1,5,9])) .leaf) (.ops [9,1,5]))))) .leaf)) (.node (.ops [4]) .leaf))))
noncomputable def ZA:di:=Fx Wg (bQ Tryz.prog gl { gp:=[(5,7)] } Tryz.f123)
def Wh:An:=(.node (.ops [4,1,0]) (.node (.node (.ops [19,4,1,0]) (.node (.node (.ops [4,5]) .leaf) .leaf)) (.node (.ops [4,6,1,0]) (.node (.ops [4,6,1,0,7]) (.node (.node (.node (.ops [39,4,6,1,0,7]) (.node (.ops [4,6,7,1,0]) (.node (.ops [42,4,6,7,1,0]) (.node (.node (.ops [4,5]) .leaf) .leaf)))) .leaf) (.pre [4,6,7,1,0] (.node (.ops [4,6,7,1,0]) (.node (.node (.ops [64,4,6,7,1,0]) (.node (.node (.ops [4,5]) .leaf) .leaf)) (.node (.ops [4,6]) (.node (.ops [4,5]) .leaf))))))))))
noncomputable def ZB:di:=Fx Wh (bQ Tryz.prog gl {} Tryz.f124)
def Wi:An:=(.node (.ops [5,1,0]) (.node (.ops [8]) (.node (.ops [6]) .leaf)))
noncomputable def ZC:di:=Fx Wi (bQ Tryz.prog gl {} Tryz.f125)
def Wj:An:=(.node (.ops [0,2]) (.node (.ops [3,0,2]) (.node (.node (.ops [9,3,0,2]) (.node (.loop [9,3,0,2] (.node (.ops [10,3,0,2,9]) (.node (.node .leaf .leaf) (.node (.node (.node (.ops [3,0,2,9,4]) (.node (.node (.ops [13,3,0,2,9,4]) (.node (.node (.ops [3,0,2,9]) .leaf) .leaf)) (.node (.ops [3,0,2,9,4,6,5]) (.node (.ops [3,0,2,9,4,7,6]) (.node (.ops [3,0,2,9,8,4,7]) (.ops [3,0,2,9])))))) .leaf) (.ops [9,3,0,2]))))) .leaf)) (.node (.ops [2]) .leaf))))
noncomputable def Qa:di:=Fx Wj (bQ Tryz.prog gl {} Tryz.f128)
def Wk:An:=(.node (.ops [1,0]) (.node (.ops [4]) .leaf))
noncomputable def Wl:di:=Fx Wk (bQ Tryz.prog gl {} Tryz.f129)
def Wm:An:=(.node (.ops [1,0]) (.node (.ops [5,1]) (.node (.node (.ops [12,5,10,11]) (.node (.loop [12,5,10,11] (.node (.ops [13,10,11,12,5]) (.node (.node .leaf .leaf) (.node (.node (.node (.ops [10,11,12,7,5]) (.ops [5,10,11,12])) .leaf) (.ops [12,5,10,11]))))) .leaf)) (.node (.ops [4]) .leaf))))
noncomputable def Qb:di:=Fx Wm (bQ Tryz.prog gl {} Tryz.f130)
def Wn:An:=(.node (.ops [0]) (.node (.ops [2]) .leaf))
noncomputable def Wo:di:=Fx Wn (bQ Tryz.prog gl {} Tryz.f135)
def Wp:An:=(.node (.ops [0]) (.node (.ops [2]) .leaf))
noncomputable def ZD:di:=Fx Wp (bQ Tryz.prog gl {} Tryz.f137)
def Wq:An:=(.node (.ops [2,1,0]) (.node (.node (.ops [7,2,1,0]) (.node (.ops [13,7,2,1,0]) (.node (.node (.ops [6]) .leaf) .leaf))) (.node (.ops [6]) .leaf)))
noncomputable def ZE:di:=Fx Wq (bQ Tryz.prog gl {} Tryz.f138)
def Ws:An:=(.node (.ops [0]) (.node (.ops [2]) .leaf))
noncomputable def ZF:di:=Fx Ws (bQ Tryz.prog gl {} Tryz.f139)
def Wu:An:=(.node (.ops [0]) (.node (.ops [2]) .leaf))
noncomputable def ZG:di:=Fx Wu (bQ Tryz.prog gl {} Tryz.f140)
def Wv:An:=(.node (.ops [1]) (.node (.ops [2]) .leaf))
noncomputable def ZH:di:=Fx Wv (bQ Tryz.prog gl { keep:=true } Tryz.f142)
def Ww:An:=(.node (.ops [0,1]) (.node (.ops [5,0]) (.node (.ops [4]) .leaf)))
noncomputable def Wx:di:=Fx Ww (bQ Tryz.prog gl {} Tryz.f143)
def Wy:An:=(.node (.ops [1,0]) (.node (.ops [0]) (.node (.node (.ops [10,0]) (.node (.loop [10,0] (.node (.ops [11,10,0]) (.node (.node .leaf .leaf) (.node (.node (.node (.ops [10,5,0]) (.node (.ops [10,0,5]) (.node (.ops [17,10,0]) (.node (.ops [0,10]) .leaf)))) .leaf) (.ops [10,0]))))) .leaf)) (.node (.ops [4]) .leaf))))
noncomputable def Qc:di:=Fx Wy (bQ Tryz.prog gl {} Tryz.f144)
def D4:List PV:=[(.int .u32 0),(.int .i64 0),(.str []),(.int .u8 0),(.int .u8 0),(.int .u8 0),(.int .u8 0),(.int .u8 0),(.int .u8 0),(.int .u8 0),(.int .u8 0),(.int .u8 0),(.int .u8 0),(.int .u8 0),(.int .u8 0),(.int .u8 0),(.int .u8 0),(.int .u8 0),(.int .u8 0),(.int .u8 0),(.int .u8 0),(.int .u8 0),(.int .u8 0),(.int .u8 0),(.int .u8 0),(.int .u8 0),(.int .u8 0),(.int .u8 0),(.int .u8 0),(.int .u8 0),(.int .u8 0),(.int .u8 0),(.int .u8 0),(.int .u8 0),(.int .u8 0)]
noncomputable def T:Table:=fun f=>match f with
 | 3=>some (.code F3)
 | 8=>some (.code F8)
 | 9=>some (.code F9)
 | 10=>some (.code F10)
 | 11=>some (.code F11)
 | 12=>some (.code F12)
 | 13=>some (.code F13)
 | 14=>some (.code F14)
 | 15=>some (.code F15)
 | 16=>some (.code F16)
 | 17=>some (.code F17)
 | 18=>some (.code F18)
 | 19=>some (.code F19)
 | 20=>some (.code F20)
 | 21=>some (.code F21)
 | 24=>some (.code F24)
 | 26=>some (.code F26)
 | 28=>some (.code F28)
 | 36=>some (.code F36)
 | 39=>some (.code F39)
 | 41=>some (.code F41)
 | 43=>some (.code F43)
 | 44=>some (.code F44)
 | 45=>some (.code Zf)
 | 46=>some (.code F46)
 | 47=>some (.code Zg)
 | 48=>some (.jm Nc)
 | 49=>some (.code F49)
 | 50=>some (.code VV)
 | 51=>some (.code Dy)
 | 52=>some (.code VW)
 | 53=>some (.code F53)
 | 54=>some (.code F54)
 | 55=>some (.code Zh)
 | 56=>some (.code F56)
 | 57=>some (.code F57)
 | 58=>some (.code F58)
 | 59=>some (.code F59)
 | 60=>some (.code F60)
 | 61=>some (.code F61)
 | 62=>some (.code F62)
 | 63=>some (.code F63)
 | 64=>some (.code F64)
 | 65=>some (.code F65)
 | 66=>some (.code F66)
 | 67=>some (.code F67)
 | 69=>some (.code F69)
 | 70=>some (.code F70)
 | 71=>some (.code F71)
 | 72=>some (.code F72)
 | 73=>some (.code F73)
 | 76=>some (.code Zj)
 | 79=>some (.code F79)
 | 81=>some (.code F81)
 | 82=>some (.code F82)
 | 83=>some (.code F83)
 | 84=>some (.code Zl)
 | 85=>some (.code F85)
 | 86=>some (.code F86)
 | 87=>some (.code F87)
 | 88=>some (.code Zm)
 | 89=>some (.code F89)
 | 90=>some (.code Zn)
 | 91=>some (.code F91)
 | 92=>some (.code F92)
 | 93=>some (.code Zo)
 | 94=>some (.code F94)
 | 95=>some (.code F95)
 | 96=>some (.code F96)
 | 97=>some (.code F97)
 | 98=>some (.code F98)
 | 99=>some (.code F99)
 | 100=>some (.code Zp)
 | 101=>some (.code VZ)
 | 104=>some (.code Zq)
 | 105=>some (.code Zr)
 | 106=>some (.code Zt)
 | 107=>some (.code V4)
 | 108=>some (.code Zu)
 | 111=>some (.code Jz)
 | 112=>some (.code JA)
 | 113=>some (.code V9)
 | 114=>some (.oE (fun vs h=>(iK vs).map fun r=>(r,none)))
 | 115=>some (.code P9)
 | 116=>some (.code Zv)
 | 117=>some (.jm Dh)
 | 118=>some (.code Zw)
 | 119=>some (.code Zx)
 | 120=>some (.code Zy)
 | 121=>some (.oE PU)
 | 122=>some (.code Zz)
 | 123=>some (.code ZA)
 | 124=>some (.code ZB)
 | 125=>some (.code ZC)
 | 128=>some (.code Qa)
 | 129=>some (.code Wl)
 | 130=>some (.code Qb)
 | 135=>some (.code Wo)
 | 137=>some (.code ZD)
 | 138=>some (.code ZE)
 | 139=>some (.code ZF)
 | 140=>some (.code ZG)
 | 141=>some (.oE (xS 150))
 | 142=>some (.code ZH)
 | 143=>some (.code Wx)
 | 144=>some (.code Qc)
 | _=>none
theorem T_3:T 3=some (.code F3):=rfl
theorem T_8:T 8=some (.code F8):=rfl
theorem T_9:T 9=some (.code F9):=rfl
theorem asX:T 10=some (.code F10):=rfl
theorem afi:T 11=some (.code F11):=rfl
theorem afj:T 12=some (.code F12):=rfl
theorem asY:T 13=some (.code F13):=rfl
theorem asZ:T 14=some (.code F14):=rfl
theorem afk:T 15=some (.code F15):=rfl
theorem as0:T 16=some (.code F16):=rfl
theorem afl:T 17=some (.code F17):=rfl
theorem afm:T 18=some (.code F18):=rfl
theorem afn:T 19=some (.code F19):=rfl
theorem afo:T 20=some (.code F20):=rfl
theorem afp:T 21=some (.code F21):=rfl
theorem as1:T 24=some (.code F24):=rfl
theorem afq:T 26=some (.code F26):=rfl
theorem as2:T 28=some (.code F28):=rfl
theorem afr:T 36=some (.code F36):=rfl
theorem as3:T 39=some (.code F39):=rfl
theorem afs:T 41=some (.code F41):=rfl
theorem aft:T 43=some (.code F43):=rfl
theorem afu:T 44=some (.code F44):=rfl
theorem afv:T 45=some (.code Zf):=rfl
theorem afw:T 46=some (.code F46):=rfl
theorem afx:T 47=some (.code Zg):=rfl
theorem afy:T 48=some (.jm Nc):=rfl
theorem afz:T 49=some (.code F49):=rfl
theorem afA:T 50=some (.code VV):=rfl
theorem afB:T 51=some (.code Dy):=rfl
theorem afC:T 52=some (.code VW):=rfl
theorem afD:T 53=some (.code F53):=rfl
theorem afE:T 54=some (.code F54):=rfl
theorem afF:T 55=some (.code Zh):=rfl
theorem afG:T 56=some (.code F56):=rfl
theorem afH:T 57=some (.code F57):=rfl
theorem afI:T 58=some (.code F58):=rfl
theorem as4:T 59=some (.code F59):=rfl
theorem afJ:T 60=some (.code F60):=rfl
theorem as5:T 61=some (.code F61):=rfl
theorem as6:T 62=some (.code F62):=rfl
theorem as7:T 63=some (.code F63):=rfl
theorem as8:T 64=some (.code F64):=rfl
theorem afK:T 65=some (.code F65):=rfl
theorem afL:T 66=some (.code F66):=rfl
theorem afM:T 67=some (.code F67):=rfl
theorem as9:T 69=some (.code F69):=rfl
theorem ata:T 70=some (.code F70):=rfl
theorem atb:T 71=some (.code F71):=rfl
theorem atc:T 72=some (.code F72):=rfl
theorem afN:T 73=some (.code F73):=rfl
theorem afO:T 76=some (.code Zj):=rfl
theorem atd:T 79=some (.code F79):=rfl
theorem afP:T 81=some (.code F81):=rfl
theorem afQ:T 82=some (.code F82):=rfl
theorem afR:T 83=some (.code F83):=rfl
theorem afS:T 84=some (.code Zl):=rfl
theorem afT:T 85=some (.code F85):=rfl
theorem afU:T 86=some (.code F86):=rfl
theorem afV:T 87=some (.code F87):=rfl
theorem afW:T 88=some (.code Zm):=rfl
theorem afX:T 89=some (.code F89):=rfl
theorem afY:T 90=some (.code Zn):=rfl
theorem afZ:T 91=some (.code F91):=rfl
theorem af0:T 92=some (.code F92):=rfl
theorem af1:T 93=some (.code Zo):=rfl
theorem af2:T 94=some (.code F94):=rfl
theorem ate:T 95=some (.code F95):=rfl
theorem atf:T 96=some (.code F96):=rfl
theorem atg:T 97=some (.code F97):=rfl
theorem ath:T 98=some (.code F98):=rfl
theorem ati:T 99=some (.code F99):=rfl
theorem anY:T 100=some (.code Zp):=rfl
theorem ZI:T 101=some (.code VZ):=rfl
theorem anZ:T 104=some (.code Zq):=rfl
theorem an0:T 105=some (.code Zr):=rfl
theorem an1:T 106=some (.code Zt):=rfl
theorem ZJ:T 107=some (.code V4):=rfl
theorem an2:T 108=some (.code Zu):=rfl
theorem ZK:T 111=some (.code Jz):=rfl
theorem ZL:T 112=some (.code JA):=rfl
theorem ZM:T 113=some (.code V9):=rfl
theorem ZN:T 114=some (.oE (fun vs h=>(iK vs).map fun r=>(r,none))):=rfl
theorem ZO:T 115=some (.code P9):=rfl
theorem an3:T 116=some (.code Zv):=rfl
theorem an6:T 117=some (.jm Dh):=rfl
theorem an8:T 118=some (.code Zw):=rfl
theorem an9:T 119=some (.code Zx):=rfl
theorem aoc:T 120=some (.code Zy):=rfl
theorem aod:T 121=some (.oE PU):=rfl
theorem aoe:T 122=some (.code Zz):=rfl
theorem aof:T 123=some (.code ZA):=rfl
theorem aog:T 124=some (.code ZB):=rfl
theorem aok:T 125=some (.code ZC):=rfl
theorem ZP:T 128=some (.code Qa):=rfl
theorem ZQ:T 129=some (.code Wl):=rfl
theorem ZR:T 130=some (.code Qb):=rfl
theorem ZS:T 135=some (.code Wo):=rfl
theorem aol:T 137=some (.code ZD):=rfl
theorem aom:T 138=some (.code ZE):=rfl
theorem aon:T 139=some (.code ZF):=rfl
theorem aoo:T 140=some (.code ZG):=rfl
theorem aoq:T 141=some (.oE (xS 150)):=rfl
theorem aor:T 142=some (.code ZH):=rfl
theorem ZT:T 143=some (.code Wx):=rfl
theorem ZU:T 144=some (.code Qc):=rfl
end Go.Am.Qd
namespace Go.Proofs.YtmmjmkjoflfpmaaGreatDoor
open Go Go.Proofs Go.Lib
def JB:List Int:=Go.Am.Qd.KS.map fun | .int _ z=>z | _=>0
theorem Qd:Go.Am.Qd.KS=JB.map fun z=>Go.Am.PV.int .u32 z:=by decide
theorem La {W:World} {n:String} {g t:Nat} {H:Type} {d:DataW Unit} (hg:Tryz.prog.globalNamed n=some g) (hty:(Tryz.prog.globals[g]?).map (·.type)=some t) {e:TypeId} {k:Nat} (ht:Tryz.prog.underlying t=some (.array k e)) (he:Tryz.prog.underlying e=some (.int .u32))
  (hce:Tryz.prog.cellsOf e=1) (hct:Tryz.prog.cellsOf t=k) (h:VarReads Tryz.prog W n (tabData .u32 JB)):∀ (j:Nat) (z:Int),JB[j]?=some z→W.cell? ⟨g,j,none⟩=some (.int .u32 z):=by
 obtain⟨g',t',cs,fuel,p,q1,q2,q3,q4⟩:=h;obtain rfl:=Option.some.inj (hg.symm.trans q1);obtain rfl:=Option.some.inj (hty.symm.trans q2);have q5:DataW.trod (fun _=>()) Tryz.prog W 0 (fun _=>true) false fuel t cs.toList=some (tabData .u32 JB,p):=q4;have hcs:=cells_of_tab ht he hce hct q5;intro j z hz;rw[World.var?_cell hg q3 j,←Array.getElem?_toList,hcs,List.getElem?_map,hz];rfl
theorem FD {W:World} {g:Nat} (h:∀ (j:Nat) (z:Int),JB[j]?=some z→W.cell? ⟨g,j,none⟩=some (.int .u32 z)):g<W.heap.size∧∃ u:Nat→Value,(∀ j,j<Go.Am.Qd.KS.length→W.cell? ⟨g,j,none⟩=some (u j)) ∧
  ∀ (j:Nat) (x:Go.Am.PV),Go.Am.Qd.KS[j]?=some x→∀ q w,Go.Am.RV W.heap.size q w x (u j):=by
 have hlen:Go.Am.Qd.KS.length=JB.length:=by rw[Qd,List.length_map]
 refine⟨?_,fun j=>.int .u32 (JB.getD j 0),fun j hj=>?_,fun j x hx q w=>?_⟩
 ·have h0:=h 0 1116352408 rfl
  rcases Nat.lt_or_ge g W.heap.size with h' | h'
  ·exact h'
  ·simp[World.cell?,Array.getElem?_eq_none h']at h0
 ·have hj':j<JB.length:=by omega
  rw[h j JB[j] (List.getElem?_eq_getElem hj')];simp[hj']
 ·rw[Qd,List.getElem?_map,Option.map_eq_some_iff]at hx
  obtain⟨z,hz,rfl⟩:=hx;have:JB.getD j 0=z:=by simp[hz]
  show Go.Am.RV W.heap.size q w (Go.Am.PV.int .u32 z) (Value.int .u32 (JB.getD j 0));rw[this];exact .int _ _
theorem Qe {W:World} {l:List (String × DataW Unit)} (h:laidMet Tryz.prog l W) (h1:("outpost/outpostref01.words", Rows.laid_outpost_outpostref01_words)∈l) (h2:("outpost/sha.rounds", Rows.laid_outpost_sha_rounds)∈l) :
  Go.Am.dR Go.Am.Qd.gl W.heap.size W:=by
 have e1:∀ (j:Nat) (z:Int),JB[j]?=some z→W.cell? ⟨0,j,none⟩=some (.int .u32 z):=La (H:=Unit) (n:="outpost/outpostref01.words") (g:=0) (t:=130) (d:=tabData .u32 JB) (by kernel_rfl) (by kernel_rfl) Tryz.underlying130 Tryz.underlying30 (by kernel_rfl) (by kernel_rfl) (laidMet.reads h h1);have e2:∀ (j:Nat) (z:Int),JB[j]?=some z→W.cell? ⟨2,j,none⟩=some (.int .u32 z):=La (H:=Unit) (n:="outpost/sha.rounds") (g:=2) (t:=130) (d:=tabData .u32 JB) (by kernel_rfl) (by kernel_rfl) Tryz.underlying130 Tryz.underlying30 (by kernel_rfl) (by kernel_rfl) (laidMet.reads h h2);intro n cs hcs;have hg:Go.Am.IT Go.Am.Qd.gl n=if n=0 then some Go.Am.Qd.KS else if n=2 then some Go.Am.Qd.KS else none:=by
  by_cases h0:n=0
  ·subst h0;rfl
  ·by_cases h2:n=2
   ·subst h2;rfl
   ·rw[if_neg h0,if_neg h2]
    unfold Go.Am.IT Go.Am.Qd.gl;simp[Go.Am.IT,Ne.symm h0,Ne.symm h2]
 rw[hg]at hcs;split at hcs
 ·rename_i hn;subst hn;cases hcs;exact FD e1
 ·split at hcs
  ·rename_i hn;subst hn;cases hcs;exact FD e2
  ·cases hcs
end Go.Proofs.YtmmjmkjoflfpmaaGreatDoor
namespace Go.Am.QdR
open Go.Proofs
def gl:cQ:=[]
noncomputable def Fx (A:An) (o:Option di):di:=match o.map (bP A) with | some f=>f | none=>⟨[],.skip,false,false⟩
def A80:An:=(.node (.ops [0,1]) (.node (.node (.ops [13,0,1]) (.node (.node (.ops [4]) .leaf) .leaf)) (.node (.node (.ops [16,0,1]) (.node (.ops [0,1]) .leaf)) (.pre [0,1] (.node (.ops [0,6,5]) (.node (.node (.ops [32,0,6]) (.node (.ops [0,6]) .leaf)) (.pre [0,6] (.node (.ops [7,0]) (.node (.node (.ops [38,7,0]) (.node (.node (.ops [4]) .leaf) .leaf)) (.node (.ops [7,0,8]) (.node (.node (.ops [42,7,0,8]) (.node (.node (.ops [7,0,8]) (.node (.ops [50,7,0,8]) (.node (.ops [8,7,0]) .leaf))) .leaf)) (.pre [8,7,0] (.node (.ops [9,8,7,0]) (.node (.ops [9,10,8,7]) (.node (.node (.loop [9,10,8,7] (.node (.node (.ops [63,9,8,7,10]) (.node .leaf .leaf)) (.node (.node (.ops [9,8,7,11,10]) (.ops [9,10,8,7])) .leaf))) .leaf) (.node (.ops [4]) .leaf))))))))))))))))
noncomputable def Qf:di:=Fx A80 (bQ Tryz.prog gl { own:=true } Tryz.f80)
def Wz:An:=(.node (.ops [1,0]) (.node (.node (.node (.ops [7,6]) (.node (.ops [4,5]) .leaf)) .leaf) (.node (.ops [9,8]) (.node (.ops [4,5]) .leaf))))
noncomputable def WA:di:=Fx Wz (bQ Tryz.prog gl {} Tryz.f109)
def WB:An:=(.node (.ops [1,0]) (.node (.ops [1,0,6]) (.node (.ops [1,0,7,6]) (.node (.ops [1,0,7,6,8]) (.node (.ops [1,0,9,7,6,8]) (.node (.ops [1,0,9,7,6,10,8]) (.node (.ops [1,0,9,7,6,11]) (.node (.ops [1,0,9,7,6,12,11]) (.node (.ops [1,0,13,9,7,6,12]) (.node (.ops [1,0,12,13,9,7]) (.node (.ops [4,1,0]) (.node (.ops [4,5]) .leaf))))))))))))
noncomputable def WC:di:=Fx WB (bQ Tryz.prog gl {} Tryz.f127)
noncomputable def T:Table:=fun f=>match f with
 | 80=>some (.code Qf)
 | 109=>some (.code WA)
 | 110=>some (.jm Ym)
 | 127=>some (.code WC)
 | _=>none
theorem ZV:T 80=some (.code Qf):=rfl
theorem ZW:T 109=some (.code WA):=rfl
theorem ZX:T 110=some (.jm Ym):=rfl
theorem ZY:T 127=some (.code WC):=rfl
end Go.Am.QdR
namespace Go.Am.QdR
noncomputable def UK (base n0:Nat) (v0 v1:PV) (h:Hp):Option (PV × Hp):=Pt T Qf [1,1,1,1] base n0 [(0,v0),(1,v1)] h
noncomputable def UL (base n0:Nat) (v0 v6:PV) (h:Hp):Option (PV × Hp):=Pt T Qf [1,1,1,1,1,1,1] base n0 [(0,v0),(6,v6)] h
noncomputable def FE (base n0:Nat) (v8 v7 v0:PV) (h:Hp):Option (PV × Hp):=Pt T Qf [1,1,1,1,1,1,1,1,1,1,1,1] base n0 [(8,v8),(7,v7),(0,v0)] h
noncomputable def Lb (base n0:Nat) (v9 v10 v8 v7:PV) (h:Hp):Option (PV × Hp):=Pt T Qf [1,1,1,1,1,1,1,1,1,1,1,1,1,1,0,0,1] base n0 [(9,v9),(10,v10),(8,v8),(7,v7)] h
theorem Qg (base n0:Nat) (v0 v1:PV) (h:Hp):UK base n0 v0 v1 h =
 (cG false v0).ah fun x1 =>
 (cu x1 .u64).ah fun x2 =>
 (cu v1 .u64).ah fun x4 =>
 aG (ai T base 109 [x2,x4] h) fun x5 h6 =>
 (aE x5 0).ah fun x8 =>
 (aE x5 1).ah fun x9 =>
 (binOp .gtr x8 (.int .u64 0)).ah fun iT =>
 (aq iT false).ah fun Qh=>(au Qh (some x9) (some .undef)).ah fun mo =>
 (aq iT false).ah fun Te=>(au Te ((binOp .gtr mo (.int .u64 9223372036854775807)).ah some) (some .undef)).ah fun qf =>
 (aD iT (some (.bool true)) (some qf)).ah fun qG =>
 aD qG (
 none) (
 UL base n0 v0 x9 h6):=(ej T Qf [1,1,1,1] base n0 [(0,v0),(1,v1)] h).trans (by kernel_rfl)
theorem Qi (base n0:Nat) (v0 v6:PV) (h:Hp):UL base n0 v0 v6 h =
 (cu v6 .i64).ah fun x1 =>
 (cG false v0).ah fun x4 =>
 (binOp .eql x4 (.int .i64 0)).ah fun x5 =>
 aD x5 (
 (cF 1 false [(.int .u8 0)] 0 []).ah fun x6 =>
 bg false true n0 [x6] h) (
 (binOp .gtr x1 (.int .i64 8192)).ah fun iC =>
 aD iC (
 (cG false v0).ah fun iT =>
 (binOp .quo (.int .i64 8192) iT).ah fun mq =>
 (cG false v0).ah fun oe =>
 (binOp .mul mq oe).ah fun pz =>
 (binOp .eql pz (.int .i64 0)).ah fun oh =>
 aD oh (
 (cG false v0).ah fun nv =>
 FE base n0 nv x1 v0 h) (
 FE base n0 pz x1 v0 h)) (
 FE base n0 x1 x1 v0 h)):=(ej T Qf [1,1,1,1,1,1,1] base n0 [(0,v0),(6,v6)] h).trans (by kernel_rfl)
theorem Qj (base n0:Nat) (v8 v7 v0:PV) (h:Hp):FE base n0 v8 v7 v0 h =
 aG (ai T base 110 [v7] h) fun x1 h2 =>
 (cZ (some 1) none (some v7) (some v7) x1).ah fun x5 =>
 aG (copyV base x5 v0 h2) fun x9 h10 =>
 Lb base n0 x5 x9 v8 v7 h10:=(ej T Qf [1,1,1,1,1,1,1,1,1,1,1,1] base n0 [(8,v8),(7,v7),(0,v0)] h).trans (by kernel_rfl)
theorem Qk (base n0:Nat) (v9 v10 v8 v7:PV) (h:Hp):Lb base n0 v9 v10 v8 v7 h =
 (binOp .lss v10 v7).ah fun x2 =>
 aD x2 (
 (jH false [v10,v8]).ah fun x5 =>
 (cZ (some 1) (some v10) none none v9).ah fun iR =>
 (cZ (some 1) none (some x5) none v9).ah fun iT =>
 aG (copyV base iR iT h) fun mq Ql =>
 (binOp .add v10 mq).ah fun oe =>
 Lb base n0 v9 oe v8 v7 Ql) (
 bg false true n0 [v9] h):=(ej T Qf [1,1,1,1,1,1,1,1,1,1,1,1,1,1,0,0,1] base n0 [(9,v9),(10,v10),(8,v8),(7,v7)] h).trans (by kernel_rfl)
theorem S80 (base:Nat) (a0 a1:PV) (h:Hp):ai T base 80 [a0,a1] h =
 (binOp .eql a1 (.int .i64 0)).ah fun x2 =>
 aD x2 (
 (cF 1 false [(.int .u8 0)] 0 []).ah fun x3 =>
 bg false true (size h) [x3] h) (
 (binOp .lss a1 (.int .i64 0)).ah fun x6 =>
 aD x6 (
 none) (
 UK (size h) (size h) a0 a1 h)):=(aZ ZV base _ h).trans (by kernel_rfl)
theorem af4 (base:Nat) (a0 a1:PV) (h:Hp):ai T base 109 [a0,a1] h =
 aG (ai T (size h) 127 [a0,a1] h) fun x4 h5 =>
 (aE x4 0).ah fun x7 =>
 (aE x4 1).ah fun x8 =>
 bg false false (size h) [x7,x8] h5:=(aZ ZW base _ h).trans (by kernel_rfl)
theorem af5 (base:Nat) (a0 a1:PV) (h:Hp):ai T base 127 [a0,a1] h =
 (binOp .and a0 (.int .u64 4294967295)).ah fun x3 =>
 (binOp .shr a0 (.int .u64 32)).ah fun x6 =>
 (binOp .and a1 (.int .u64 4294967295)).ah fun x9 =>
 (binOp .shr a1 (.int .u64 32)).ah fun gG =>
 (binOp .mul x3 x9).ah fun oe =>
 (binOp .mul x6 x9).ah fun oh =>
 (binOp .shr oe (.int .u64 32)).ah fun nv =>
 (binOp .add oh nv).ah fun qG =>
 (binOp .and qG (.int .u64 4294967295)).ah fun mX =>
 (binOp .shr qG (.int .u64 32)).ah fun Bz =>
 (binOp .mul x3 gG).ah fun tH =>
 (binOp .add mX tH).ah fun rI =>
 (binOp .mul x6 gG).ah fun tI =>
 (binOp .add tI Bz).ah fun zY =>
 (binOp .shr rI (.int .u64 32)).ah fun Lc =>
 (binOp .add zY Lc).ah fun vP =>
 (binOp .mul a0 a1).ah fun HI =>
 bg false false (size h) [vP,HI] h:=(aZ ZY base _ h).trans (by kernel_rfl)
end Go.Am.QdR
namespace Go.Am
theorem ek (n g b off h):ax n g (.ptr b off) h=(ay h b).ah fun cs=>part cs off n g:=(rfl)
theorem ady (n g cs off h):ax n g (.ep cs off) h=part cs off n g:=(rfl)
theorem dz (base n b off u h):aS base n (.ptr b off) u h=(ay h b).ah fun cs =>
   if u.cells.length=n∧off+n≤cs.length∧u.cells.all scalar=true∧(b<base→belows 0 (aO u.cells)=true)
   then some (cy h b (bE cs off (if b<base then aO u.cells else u.cells))) else none:=(rfl)
theorem eo {α:Type} (z h) (K:PV→Hp→Option α):eu z h K=K (.ptr (size h) 0) (ext h [.cells z]):=(rfl)
theorem qg (n v h):tF n v h=if v.cells.length=n∧v.cells.all scalar=true then some (.ptr (size h) 0,ext h [.cells v.cells]) else none:=(rfl)
theorem B4 (z l):dw z l=(ir l z).ah fun cs=>some (.agg cs):=(rfl)
theorem u6 (sz g z len l):cF sz g z len l=(eV sz l (List.replicate len (if g then .agg z else z.headD .undef))).ah fun es=>some (.sl .full sz es):=(rfl)
theorem Nq (v):aF v=(isNil v).ah fun b=>if b then none else some v:=(rfl)
theorem qh (kd neg v):gE kd neg v=(jj kd v).ah fun b=>some (.bool (if neg then !b else b)):=(rfl)
theorem Qm (T z l c h):P5 T z l c h=(KM l c).ah fun n=>Fy T z n h:=(rfl)
theorem kU (base f b off len sz u h):copyV base (.bW f b off len sz) u h=(elems h u).ah fun xs=>(ay h b).ah fun cs =>
    if sz=1∧off+len≤cs.length∧xs.all scalar=true∧(b<base→belows 0 (xs.take len)=true)
    then some (.int .i64 (min xs.length len:Nat),cy h b (bE cs off (xs.take len))) else none:=(rfl)
theorem JC (base u h):copyV base .bn u h=(elems h u).ah fun xs=>some (.int .i64 0,h):=(rfl)
theorem mY (n d):oY n d none=some d:=(rfl)
theorem jd (n d v):oY n d (some v)=Zb n v:=(rfl)
theorem JD (lo hi s):cZ none lo hi none (.str s)=(oY s.length s.length hi).ah fun hh=>(oY hh 0 lo).ah fun l=>some (.str ((s.drop l).take (hh-l))):=(rfl)
theorem FG (n lo hi mx):cZ (some n) lo hi mx .bn=(oY 0 0 mx).ah fun m=>(oY 0 0 hi).ah fun hh=>(oY 0 0 lo).ah fun l=>some .bn:=(rfl)
theorem B5 (n lo hi o es):cZ (some n) lo hi none (.sl o n es)=(oY es.length es.length hi).ah fun hh=>(oY hh 0 lo).ah fun l =>
   some (.sl (if isFull o&&hh == es.length then .full else .no) n ((es.drop l).take (hh-l))):=by
 simp[cZ,mY,Option.ag]
theorem rj (n lo hi f b off len):cZ (some n) lo hi none (.bW f b off len n)=(oY len len hi).ah fun hh=>(oY hh 0 lo).ah fun l =>
   if hh-l=0 then some (.sl .no n []) else some (.bW (f&&hh == len) b (off+l*n) (hh-l) n):=by
 simp[cZ,mY,Option.ag]
theorem u7 (sz len b o i):aN sz len (.ptr b o) i=(ix i len).ah fun i=>some (.ptr b (o+i*sz)):=(rfl)
theorem zZ (sz len b o i):aN sz len (.ep b o) i=(ix i len).ah fun i=>some (.ep b (o+i*sz)):=(rfl)
theorem u9 (sz g len cs i):sx sz g len (.agg cs) i=(ix i len).ah fun i=>part cs (i*sz) sz g:=(rfl)
theorem kK (m x r):jH m (x::r)=mE m x r:=(rfl)
theorem pE (T sz v u h):qE T sz v u h=(elems h u).ah fun xs=>aaI h T sz v xs:=(rfl)
theorem JE (n g c o b off h):zR n g (.ptr c o) (.ptr b off) h=if b=c then none else ax n g (.ptr b off) h:=(rfl)
theorem Nr (n g c o cs off h):zR n g (.ptr c o) (.ep cs off) h=ax n g (.ep cs off) h:=(rfl)
theorem rq (n sz g b off h):nK n sz g (.ptr b off) h=if b<n then ax sz g (.ptr b off) h else none:=(rfl)
theorem Ns (n sz g cs off h):nK n sz g (.ep cs off) h=ax sz g (.ep cs off) h:=(rfl)
theorem Qn (base k h g vs):rL base k h g vs=(cU base h g vs).ah fun r=>if vI (base+k) h r.2 then some r else none:=(rfl)
theorem Ld {orc:iE} {n f:Nat} {vs:List PV} {h:Hp} {r:PV} {h':Hp} (ho:orc f vs h=some (r,h')) (hl:vI n h h'):oG orc n f vs h=some (r,h'):=by
 rw[oG,ho,Option.ag,if_pos hl]
theorem FH (base n c o b off u h):Dn base n (.ptr c o) (.ptr b off) u h=if b=c then aS base n (.ptr b off) u h else none:=(rfl)
theorem Nt (orc f cap vs h):Jv orc (.fn f cap) vs h=orc f (vs++cap) h:=(rfl)
theorem iP (v:PV) (h:Hp):forget h (v,h)=some (v,h):=by simp[forget]
theorem Dz (orc:iE) (f vs h):gu orc f vs h=(orc f vs h).ah (forget h):=(rfl)
theorem Lf {α:Type} (h) (y:Option α):Zd h h y=y:=by simp[Zd]
theorem bZ (n0 vs h):bg false false n0 vs h=(fM n0 h vs).ah fun vs=>if belows n0 vs=true then some (fS vs,bJ h n0) else none:=(rfl)
theorem mZ (o n0 vs h):bg true o n0 vs h=some (fS vs,h):=(rfl)
theorem pF (n0 vs h):bg false true n0 vs h=(jt n0 h vs).ah fun r=>some (fS r.1,r.2):=(rfl)
theorem Nu (sz u h):P6 sz .bn u h=(elems h u).ah fun xs=>if xs.all (fun x=>x.cells.length == sz) then(if xs.length≤gy then some (if xs.isEmpty then .bn else .sl .no sz (aO xs)) else none) else none:=(rfl)
theorem Nv (sz es u h):P6 sz (.sl .full sz es) u h=(elems h u).ah fun xs=>if xs.all (fun x=>x.cells.length == sz) then(if es.length+xs.length≤gy then some (if xs.isEmpty then .sl .full sz es else .sl .no sz (es++aO xs)) else none) else none:=by
 unfold P6;simp
theorem FI {α:Type} (x:Option α):x.ah some=x:=by cases x<;>rfl
theorem DA (base h):cU base h .makeMap []=some (.eL (size h),ext h [.map []]):=(rfl)
theorem vc (base h ks g z ok m k):cU base h (.lookup ks g z ok) [m,k]=(entriesOf h m).ah fun es=>if nX ks g k then(jK ks g k es 0).ah fun i=>(BF z es i).ah fun r =>
   some (if ok then .cC [r.1,.bool r.2] else r.1,h) else none:=(rfl)
theorem FJ (base h ks g b k v):cU base h (.CK ks g) [.eL b,k,v]=(bR h b).ah fun es=>if nX ks g k∧k.cells.all scalar=true∧v.cells.all scalar=true∧(b<base→below 0 (strip k)=true∧below 0 (strip v)=true) then(jK ks g k es 0).ah fun i =>
    some (.undef,aC h b (.map (ON (strip k) (strip v) es i))) else none:=(rfl)
theorem FK (base h ks g b k):cU base h (.CM ks g) [.eL b,k]=(bR h b).ah fun es=>if nX ks g k then(jK ks g k es 0).ah fun i=>some (.cC [],aC h b (.map (Vc es i))) else none:=(rfl)
theorem FL (base h m):cU base h .td [m]=(entriesOf h m).ah fun es=>some (.int .i64 es.length,h):=(rfl)
theorem B6 (base h n len v):cU base h (.jr n len false false) [v]=HF n len v none none h:=(rfl)
theorem tJ (base h n len v l):cU base h (.jr n len true false) [v,l]=HF n len v (some l) none h:=(rfl)
theorem B7 (base h n len v u):cU base h (.jr n len false true) [v,u]=HF n len v none (some u) h:=(rfl)
theorem Nw (base h n len v l u):cU base h (.jr n len true true) [v,l,u]=HF n len v (some l) (some u) h:=(rfl)
theorem xU (n len b off lo hi h):HF n len (.ptr b off) lo hi h=(ay h b).ah fun cs=>if off+len*n≤cs.length then(R7 len len hi).ah fun hh=>(R7 hh 0 lo).ah fun l =>
   if hh-l=0 then some (.sl .no n [],h) else some (.bW (hh == len) b (off+l*n) (hh-l) n,h) else none:=(rfl)
theorem sG (n d):R7 n d none=some d:=(rfl)
theorem Tf (n d k i):R7 n d (some (.int k i))=if 0≤i∧i≤n then some i.toNat else none:=(rfl)
theorem jI (base h cs):cU base h (.fC cs) []=some (.bW true (size h) 0 cs.length 1,ext h [.cells cs]):=(rfl)
theorem Qo (base h f b off len):cU base h .fix [.bW f b off len 1]=(ay h b).ah fun cs=>if base≤b∧1=1∧off+len≤cs.length∧cs.all scalar=true then some (.sl .no 1 ((cs.drop off).take len),aC h b .dead) else none:=(rfl)
theorem qi (base h f b o l z):cU base h .mark [.bW f b o l z]=(ay h b).ah fun _=>some (.bW f b o l z,h):=(rfl)
theorem Nx (base h sz v u):cU base h (.vH sz) [v,u]=(elems h u).ah fun xs=>(oF h sz v).ah fun l=>if xs=[] then some (v,h) else
   if xs.all (fits sz)=true∧l.1+xs.length≤gy∧l.2.1.all scalar=true then some (.bW false (size h) 0 (l.1+xs.length) sz,ext l.2.2 [.cells (l.2.1++xs.flatMap PV.cells)]) else none:=(rfl)
theorem z6 (h sz):oF h sz .bn=some (0,[],h):=(rfl)
theorem z7 (h sz es):oF h sz (.sl .full sz es)=some (es.length,es.flatMap PV.cells,h):=by simp[oF]
theorem B8 (h sz f b len):oF h sz (.bW f b 0 len sz)=(ay h b).ah fun cs=>if len*sz≤cs.length then some (len,cs.take (len*sz),aC h b .dead) else none:=by
 simp[oF]
theorem BA (h):entriesOf h .gr=some []:=(rfl)
theorem pG (h b):entriesOf h (.eL b)=bR h b:=(rfl)
theorem B9 (ks g k n):nX ks g (.int k n)=!g:=(rfl)
theorem Ny (ks g s):nX ks g (.str s)=!g:=(rfl)
theorem Nz (ks g cs):nX ks g (.agg cs)=(g&&cs.length == ks.length):=(rfl)
end Go.Am
namespace Go.Am
def jV :=
 And.intro @az <|
 And.intro @BL <|
 And.intro @OZ <|
 And.intro @Option.ag <|
 And.intro @Option.ig <|
 And.intro @Option.KL <|
 And.intro @aR <|
 And.intro @aL <|
 And.intro @Sg <|
 And.intro @yV <|
 And.intro @uw <|
 @eo
def jX :=
 And.intro @Int.toNat_natCast <|
 And.intro @Nat.zero_add <|
 And.intro @Nat.add_zero <|
 And.intro @Nat.le_refl <|
 And.intro @Nat.succ_eq_add_one <|
 And.intro @Nat.add_eq_zero_iff <|
 And.intro @Nat.succ_ne_self <|
 And.intro @and_true <|
 And.intro @true_and <|
 And.intro @and_self <|
 And.intro @Bool.false_eq_true <|
 And.intro @Bool.true_and <|
 And.intro @Bool.and_true <|
 And.intro @Bool.and_self <|
 And.intro @Bool.not_true <|
 And.intro @Bool.not_false <|
 And.intro @Bool.not_not <|
 And.intro @Bool.true_beq <|
 And.intro @Bool.false_beq <|
 And.intro @beq_true <|
 And.intro @beq_false <|
 And.intro @imp_self <|
 And.intro @false_implies <|
 And.intro @decide_eq_true_eq <|
 And.intro @not_true_eq_false <|
 And.intro @not_false_eq_true <|
 And.intro @Bool.not_eq_true' <|
 And.intro @decide_true <|
 And.intro @decide_false <|
 And.intro @Bool.true_or <|
 And.intro @Bool.false_or <|
 And.intro @Bool.or_true <|
 And.intro @Bool.or_false <|
 And.intro @Bool.false_and <|
 And.intro @Bool.and_false <|
 And.intro @true_or <|
 And.intro @or_true <|
 And.intro @false_or <|
 And.intro @or_false <|
 And.intro @or_self <|
 And.intro @false_and <|
 And.intro @and_false <|
 And.intro @Nat.add_eq_left <|
 And.intro @Nat.left_eq_add <|
 And.intro @Nat.add_left_cancel_iff <|
 And.intro @aW <|
 And.intro @Ea <|
 And.intro @aQ <|
 And.intro @eZ <|
 And.intro @fz <|
 And.intro @cH <|
 And.intro @bL <|
 And.intro @yT <|
 And.intro @BK <|
 And.intro @Ee <|
 And.intro @Ef <|
 And.intro @Eg <|
 And.intro @HU <|
 And.intro @L9 <|
 And.intro @Ma <|
 And.intro @HV <|
 And.intro @HW <|
 And.intro @Mb <|
 And.intro @OR <|
 And.intro @HX <|
 And.intro @Me <|
 And.intro @Ek <|
 And.intro @Em <|
 And.intro @Ia <|
 And.intro @OT <|
 And.intro @Mf <|
 And.intro @Mg <|
 And.intro @Mh <|
 And.intro @Ig <|
 And.intro @Mi <|
 And.intro @Mj <|
 And.intro @Ih <|
 And.intro @Ii <|
 And.intro @Mk <|
 And.intro @Ij <|
 And.intro @OU <|
 And.intro @Ml <|
 And.intro @Eo <|
 And.intro @Ep <|
 And.intro @Ik <|
 And.intro @OV <|
 And.intro @Io <|
 And.intro @Ip <|
 And.intro @Iq <|
 And.intro @Er <|
 And.intro @Ir <|
 And.intro @Mm <|
 And.intro @OW <|
 And.intro @OX <|
 And.intro @Mn <|
 And.intro @Es <|
 And.intro @OY <|
 And.intro @It <|
 And.intro @Et <|
 And.intro @O0 <|
 And.intro @O1 <|
 And.intro @Sk <|
 And.intro @Sl <|
 And.intro @Sm <|
 And.intro @Sn <|
 And.intro @Sp <|
 And.intro @Sq <|
 And.intro @Sr <|
 And.intro @Su <|
 And.intro @Sv <|
 And.intro @Sw <|
 And.intro @Ex <|
 And.intro @IA <|
 And.intro @IB <|
 And.intro @Ey <|
 And.intro @Ez <|
 And.intro @IC <|
 And.intro @EA <|
 And.intro @Mt <|
 And.intro @ID <|
 And.intro @C0 <|
 And.intro @C1 <|
 And.intro @EB <|
 And.intro @Mu <|
 And.intro @K7 <|
 And.intro @Nh <|
 And.intro @Fz <|
 And.intro @Jt <|
 And.intro @nE <|
 And.intro @CY <|
 And.intro @Eu <|
 And.intro @Iw <|
 And.intro @Iy <|
 And.intro @kZ <|
 And.intro @Mp <|
 And.intro @fA <|
 And.intro @O2 <|
 And.intro @k9 <|
 And.intro @tn <|
 And.intro @oI <|
 And.intro @Mr <|
 And.intro @Ms <|
 And.intro @EC <|
 And.intro @ED <|
 And.intro @EE <|
 And.intro @EF <|
 And.intro @EG <|
 And.intro @EH <|
 And.intro @IE <|
 And.intro @EI <|
 And.intro @yW <|
 And.intro @EJ <|
 And.intro @EK <|
 And.intro @EL <|
 And.intro @EM <|
 And.intro @EN <|
 And.intro @EO <|
 And.intro @EP <|
 And.intro @ER <|
 And.intro @MB <|
 And.intro @MC <|
 And.intro @MD <|
 And.intro @ME <|
 And.intro @MF <|
 And.intro @MG <|
 And.intro @MH <|
 And.intro @MI <|
 And.intro @MJ <|
 And.intro @MK <|
 And.intro @ML <|
 And.intro @MM <|
 And.intro @MN <|
 And.intro @MO <|
 And.intro @O4 <|
 And.intro @O5 <|
 And.intro @ES <|
 And.intro @yX <|
 And.intro @IF <|
 And.intro @ET <|
 And.intro @EU <|
 And.intro @EV <|
 And.intro @IG <|
 And.intro @iN <|
 And.intro @EW <|
 And.intro @II <|
 And.intro @Mv <|
 And.intro @Mw <|
 And.intro @IJ <|
 And.intro @IK <|
 And.intro @IL <|
 And.intro @EX <|
 And.intro @IM <|
 And.intro @Mx <|
 And.intro @oJ <|
 And.intro @E0 <|
 And.intro @Mz <|
 And.intro @MA <|
 And.intro @E1 <|
 And.intro @E2 <|
 And.intro @E3 <|
 And.intro @E4 <|
 And.intro @rS <|
 And.intro @fY <|
 And.intro @qD <|
 And.intro @lG <|
 And.intro @su <|
 And.intro @iy <|
 And.intro @Jm <|
 And.intro @jP <|
 And.intro @mT <|
 And.intro @L7 <|
 And.intro @aJ <|
 And.intro @Bk <|
 And.intro @BJ <|
 And.intro @Eb <|
 And.intro @Bg <|
 And.intro @Bh <|
 And.intro @eF <|
 And.intro @Ec <|
 And.intro @CU <|
 And.intro @CV <|
 And.intro @fN <|
 And.intro @kA <|
 And.intro @CS <|
 And.intro @Bi <|
 And.intro @Bj <|
 And.intro @mF <|
 And.intro @Bd <|
 And.intro @yR <|
 And.intro @yS <|
 And.intro @OS <|
 And.intro @Mc <|
 And.intro @Eh <|
 And.intro @HY <|
 And.intro @Md <|
 And.intro @Ej <|
 And.intro @HZ <|
 And.intro @Ie <|
 And.intro @uo <|
 And.intro @My <|
 And.intro @O6 <|
 And.intro @O7 <|
 And.intro @jL <|
 And.intro @ee <|
 And.intro @IQ <|
 And.intro @xP <|
 And.intro @C3 <|
 And.intro @KT <|
 And.intro @MP <|
 And.intro @MQ <|
 And.intro @yY <|
 And.intro @rR <|
 And.intro @KU <|
 And.intro @O8 <|
 And.intro @O9 <|
 And.intro @Sz <|
 And.intro @Vh <|
 And.intro @Pc <|
 And.intro @MR <|
 And.intro @Pd <|
 And.intro @Vi <|
 And.intro @IS <|
 And.intro @yZ <|
 And.intro @E5 <|
 And.intro @MS <|
 And.intro @E6 <|
 And.intro @lX <|
 And.intro @Ng <|
 And.intro @Fu <|
 And.intro @zP <|
 And.intro @P4 <|
 And.intro @zQ <|
 And.intro @Dl <|
 And.intro @P0 <|
 And.intro @Fv <|
 And.intro @Dm <|
 And.intro @Fw <|
 And.intro @Jr <|
 And.intro @Js <|
 And.intro @P3 <|
 And.intro @Dk <|
 And.intro @zO <|
 And.intro @Bw <|
 And.intro @mG <|
 And.intro @ek <|
 And.intro @ady <|
 And.intro @dz <|
 And.intro @qg <|
 And.intro @B4 <|
 And.intro @u6 <|
 And.intro @Nq <|
 And.intro @qh <|
 And.intro @Qm <|
 And.intro @kU <|
 And.intro @JC <|
 And.intro @mY <|
 And.intro @jd <|
 And.intro @JD <|
 And.intro @FG <|
 And.intro @B5 <|
 And.intro @rj <|
 And.intro @u7 <|
 And.intro @zZ <|
 And.intro @u9 <|
 And.intro @kK <|
 And.intro @pE <|
 And.intro @JE <|
 And.intro @Nr <|
 And.intro @rq <|
 And.intro @Ns <|
 And.intro @FH <|
 And.intro @Nt <|
 And.intro @Lf <|
 And.intro @iP <|
 And.intro @Dz <|
 And.intro @bZ <|
 And.intro @mZ <|
 And.intro @pF <|
 And.intro @Nu <|
 And.intro @Nv <|
 @FI
def jY :=
 And.intro @List.all_cons.{0} <|
 And.intro @List.all_nil.{0} <|
 And.intro @List.getElem?_cons_zero.{0} <|
 And.intro @List.getElem?_cons_succ.{0} <|
 And.intro @List.getElem?_nil.{0} <|
 And.intro @List.length_cons.{0} <|
 And.intro @List.length_nil.{0} <|
 And.intro @List.set_cons_zero.{0} <|
 And.intro @List.set_cons_succ.{0} <|
 And.intro @List.drop_zero.{0} <|
 And.intro @List.drop_succ_cons.{0} <|
 And.intro @List.drop_nil.{0} <|
 And.intro @List.take_zero.{0} <|
 And.intro @List.take_succ_cons.{0} <|
 And.intro @List.take_nil.{0} <|
 And.intro @List.replicate_succ.{0} <|
 And.intro @List.replicate_zero.{0} <|
 And.intro @List.headD_cons.{0} <|
 And.intro @List.cons_append.{0} <|
 And.intro @List.nil_append.{0} <|
 And.intro @bne_self_eq_false.{0} <|
 And.intro @beq_self_eq_true.{0} <|
 And.intro @Option.map_some.{0,0} <|
 And.intro @List.map_cons.{0,0} <|
 @List.map_nil.{0,0}
def jZ :=
 And.intro @DA <|
 And.intro @vc <|
 And.intro @FJ <|
 And.intro @FK <|
 And.intro @FL <|
 And.intro @jI <|
 And.intro @B6 <|
 And.intro @tJ <|
 And.intro @B7 <|
 And.intro @Nw <|
 And.intro @sG <|
 And.intro @qi <|
 And.intro @z6 <|
 And.intro @z7 <|
 And.intro @B8 <|
 And.intro @BA <|
 And.intro @pG <|
 And.intro @B9 <|
 And.intro @Ny <|
 And.intro @Nz <|
 And.intro @rP <|
 And.intro @CT <|
 And.intro @Be <|
 And.intro @Bf <|
 And.intro @Sx <|
 And.intro @Sy <|
 And.intro @Ib <|
 And.intro @Ic <|
 And.intro @Il <|
 And.intro @Im <|
 And.intro @IN <|
 And.intro @IP <|
 And.intro @EY <|
 And.intro @EZ <|
 And.intro @Pa <|
 And.intro @Pb <|
 @L8
end Go.Am
namespace Go.Am
theorem Bu.aO:∀ l:List UInt8,aO (aP l)=aP l
 | []=>rfl
 | c::l=>by show strip _::Go.Am.aO (aP l)=_;rw[Bu.aO l];rfl
theorem Bu.len (l:List UInt8):(aP l).length=l.length:=by simp[aP]
theorem Bu.append (a b:List UInt8):aP a++aP b=aP (a++b):=by simp[aP]
theorem Bu.bytesOf (l:List UInt8):bytesOf (aP l)=some l:=mG l
theorem Bu.ne {l:List UInt8} (h:l≠[]):aP l≠[]:=by cases l<;>simp_all [aP]
theorem Bu.nil:aP []=[]:=rfl
theorem Bu.cons (c:UInt8) (l:List UInt8):aP (c::l)=.int .u8 c.toNat::aP l:=rfl
theorem Bu.one (c:UInt8):[PV.int .u8 (c.toNat:Int)]=aP [c]:=rfl
theorem Bu.fits:∀ l:List UInt8,(aP l).all (fits 1)=true
 | []=>rfl
 | c::l=>by show(_&&List.all (aP l) _)=true;rw[Bu.fits l];rfl
theorem Bu.scalar:∀ l:List UInt8,(aP l).all scalar=true
 | []=>rfl
 | c::l=>by show(_&&List.all (aP l) _)=true;rw[Bu.scalar l];rfl
theorem Bu.below (n:Nat):∀ l:List UInt8,belows n (aP l)=true
 | []=>rfl
 | c::l=>by show(_&&belows n (aP l))=true;rw[Bu.below n l];rfl
theorem Bu.get {l:List UInt8} {i:Nat} {c:UInt8} (h:l[i]?=some c):(aP l)[i]?=some (.int .u8 c.toNat):=by simp[aP,h]
theorem Bu.drop (l:List UInt8) (n:Nat):(aP l).drop n=aP (l.drop n):=by simp[aP]
theorem Bu.take (l:List UInt8) (n:Nat):(aP l).take n=aP (l.take n):=by simp[aP]
theorem Bu.ix {k:IntKind} {l:List UInt8} {i:Nat} (h:i<l.length):ix (.int k i) (aP l).length=some i:=iZ k i _ (by rw[Bu.len];exact h)
def gV (h:Hp) (z:PV) (sz:Nat) (es:List PV):PV:=if es.isEmpty then z else .sl (.tok (size h)) sz es
def gH (h:Hp) (T:Nat) (es:List PV):Hp:=if es.isEmpty then h else ext h [.tok es.length T]
def gZ (sz:Nat) (z:PV):Prop:=z=.bn∨z=.sl .full sz []
theorem WE (h z sz):gV h z sz []=z:=rfl
theorem WG (h T):gH h T []=h:=rfl
theorem Z0 {h:Hp} {T sz:Nat} {z:PV} (hz:gZ sz z) (es xs:List PV) (hf:xs.all (fits sz)=true) (hs:aO xs=xs) (hl:es.length+xs.length≤gy) :
  aaI (gH h T es) T sz (gV h z sz es) xs=some (gV h z sz (es++xs),gH h T (es++xs)):=by
 unfold aaI;rw[if_pos hf];cases es with
 | nil =>
  simp only[WE,WG,List.nil_append];simp only[List.length_nil]at hl;rcases hz with rfl | rfl
  ·simp only
   rw[if_pos (by omega)];cases xs with
   | nil=>rfl
   | cons x xs=>simp only[List.isEmpty_cons,Bool.false_eq_true,if_false,gV,gH,hs]
  ·simp only
   rw[if_pos (by simp;omega)];cases xs with
   | nil=>rfl
   | cons x xs=>simp only[List.isEmpty_cons,Bool.false_eq_true,if_false,gV,gH,hs,List.nil_append,List.length_nil,Nat.zero_add]
 | cons e es =>
  have e1:gV h z sz (e::es)=.sl (.tok (size h)) sz (e::es):=rfl;have e2:gH h T (e::es)=ext h [.tok (e::es).length T]:=rfl;rw[e1,e2];simp only[kA,BJ,Option.ag,hs];rw[if_pos ⟨trivial,trivial,hl⟩,eF];simp only[gV,gH,List.cons_append,List.isEmpty_cons,Bool.false_eq_true,if_false,List.length_cons,List.length_append,Nat.add_right_comm]
theorem af6 {h:Hp} {T:Nat} {z:PV} (hz:gZ 1 z) (out:List UInt8) (c:UInt8) (hl:out.length+1≤gy) :
  aaI (gH h T (aP out)) T 1 (gV h z 1 (aP out)) [.int .u8 c.toNat]=some (gV h z 1 (aP (out++[c])),gH h T (aP (out++[c]))):=by
 have:=Z0 (h:=h) (T:=T) hz (aP out) (aP [c]) (Bu.fits [c]) (Bu.aO [c]) (by rw[Bu.len];exact hl);rw[Bu.append]at this;exact this
def gD (z:PV) (sz:Nat) (es:List PV):PV:=if es.isEmpty then z else .sl .no sz es
theorem WH {sz:Nat} {z:PV} (hz:gZ sz z) (h:Hp) (es:List PV):cG false (gV h z sz es)=some (.int .i64 es.length):=by
 unfold gV;cases es with
 | nil=>rcases hz with rfl | rfl<;>rfl
 | cons x xs=>rfl
def Bv (b:PV) (l:List UInt8):Prop:=(b=.bn∧l=[])∨b=.sl .no 1 (aP l)∨b=.sl .full 1 (aP l)
theorem Bv.bn:Bv .bn []:=.inl ⟨rfl,rfl⟩
theorem Bv.no (l):Bv (.sl .no 1 (aP l)) l:=.inr (.inl rfl)
theorem Bv.full (l):Bv (.sl .full 1 (aP l)) l:=.inr (.inr rfl)
section
variable {b:PV} {l:List UInt8} (hb:Bv b l)
include hb
theorem Bv.len:cG false b=some (.int .i64 l.length):=by
 rcases hb with⟨rfl,rfl⟩ | rfl | rfl
 ·rfl
 ·rw[fA,Bu.len]
 ·rw[fA,Bu.len]
theorem Bv.elems (h:Hp):Go.Am.elems h b=some (aP l):=by rcases hb with⟨rfl,rfl⟩ | rfl | rfl<;>rfl
theorem Bv.idx {k:IntKind} {i:Nat} {c:UInt8} (hc:l[i]?=some c):cX b (.int k i) 1=some (.ep [.int .u8 c.toNat] 0):=by
 have hi:=(List.getElem?_eq_some_iff.1 hc).1;rcases hb with⟨rfl,rfl⟩ | rfl | rfl
 ·simp at hc
 ·rw[k9,if_pos rfl,Bu.ix hi,Option.ag,Bu.get hc];rfl
 ·rw[k9,if_pos rfl,Bu.ix hi,Option.ag,Bu.get hc];rfl
theorem Bv.scalar:Go.Am.scalar b=true:=by rcases hb with⟨rfl,rfl⟩ | rfl | rfl<;>rfl
theorem Bv.gW (n:Nat) (h:Hp):Go.Am.gW n h b=some b:=by rcases hb with⟨rfl,rfl⟩ | rfl | rfl<;>rfl
theorem Bv.strip:Go.Am.strip b=b:=by rcases hb with⟨rfl,rfl⟩ | rfl | rfl<;>rfl
theorem Bv.below (n:Nat):Go.Am.below n b=true:=by
 rcases hb with⟨rfl,rfl⟩ | rfl | rfl
 ·rfl
 ·rw[oJ,Bu.below];rfl
 ·rw[oJ,Bu.below];rfl
theorem Bv.cells:b.cells=[b]:=by rcases hb with⟨rfl,rfl⟩ | rfl | rfl<;>rfl
end
theorem Bv.done {z:PV} (hz:gZ 1 z) (l:List UInt8):Bv (gD z 1 (aP l)) l:=by
 unfold gD;cases l with
 | nil =>
  rcases hz with rfl | rfl
  ·exact .inl ⟨rfl,rfl⟩
  ·exact .inr (.inr rfl)
 | cons x xs=>exact .inr (.inl rfl)
structure Rd (b:PV) (l:List UInt8):Prop where
 len:cG false b=some (.int .i64 l.length)
 idx:∀ {k:IntKind} {i:Nat} {c:UInt8},l[i]?=some c→cX b (.int k i) 1=some (.ep [.int .u8 c.toNat] 0)
 elems:∀ h,Go.Am.elems h b=some (aP l)
theorem Bv.rd {b:PV} {l:List UInt8} (hb:Bv b l):Rd b l:=⟨hb.len,hb.idx,hb.elems⟩
theorem jQ (o:Own) (l:List UInt8):Rd (.sl o 1 (aP l)) l:=by
 refine⟨by rw[fA,Bu.len],fun {k i c} hc=>?_,fun h=>rfl⟩;have hi:=(List.getElem?_eq_some_iff.1 hc).1;rw[k9,if_pos rfl,Bu.ix hi,Option.ag,Bu.get hc];rfl
end Go.Am
namespace Go.Am
structure El {α:Type} (e:α→PV) (sz:Nat):Prop where
 len:∀ a,(e a).cells.length=sz
 sc:∀ a,(e a).cells.all scalar=true
 st:∀ a,strip (e a)=e a
 be:∀ n a,below n (e a)=true
section
variable {α:Type} {e:α→PV} {sz:Nat}
theorem El.fits (he:El e sz) (l:List α):(l.map e).all (fits sz)=true:=by
 induction l with
 | nil=>rfl
 | cons a l ih =>
  simp only[List.map_cons,List.all_cons,ih,Bool.and_true,Fu,he.len,he.sc,beq_self_eq_true]
theorem El.aO (he:El e sz) (l:List α):aO (l.map e)=l.map e:=by
 induction l with
 | nil=>rfl
 | cons a l ih=>simp only[List.map_cons,uo,he.st,ih]
theorem El.belows (he:El e sz) (n:Nat) (l:List α):belows n (l.map e)=true:=by
 induction l with
 | nil=>rfl
 | cons a l ih=>simp only[List.map_cons,iN,he.be,ih,Bool.and_self]
def Lv (e:α→PV) (sz:Nat) (b:PV) (l:List α):Prop:=(b=.bn∧l=[])∨b=.sl .no sz (l.map e)∨b=.sl .full sz (l.map e)
theorem Lv.bn:Lv e sz .bn []:=.inl ⟨rfl,rfl⟩
theorem Lv.no (l:List α):Lv e sz (.sl .no sz (l.map e)) l:=.inr (.inl rfl)
theorem Lv.full (l:List α):Lv e sz (.sl .full sz (l.map e)) l:=.inr (.inr rfl)
structure Rl (e:α→PV) (sz:Nat) (b:PV) (l:List α):Prop where
 len:cG false b=some (.int .i64 l.length)
 idx:∀ {k:IntKind} {i:Nat} {a:α},l[i]?=some a→cX b (.int k i) sz=some (.ep (e a).cells 0)
 elems:∀ h,Go.Am.elems h b=some (l.map e)
theorem Lg (o:Own) (l:List α):Rl e sz (.sl o sz (l.map e)) l:=by
 refine⟨by rw[fA,List.length_map],fun {k i a} hc=>?_,fun h=>rfl⟩;have hi:=(List.getElem?_eq_some_iff.1 hc).1;rw[k9,if_pos rfl,iZ k i _ (by rw[List.length_map];exact hi),Option.ag,List.getElem?_map,hc];rfl
theorem Lh:Rl e sz .bn []:=⟨rfl,fun {k i a} hc=>by simp at hc,fun h=>rfl⟩
section
variable {b:PV} {l:List α} (hb:Lv e sz b l)
include hb
theorem Lv.rl:Rl e sz b l:=by
 rcases hb with⟨rfl,rfl⟩ | rfl | rfl
 ·exact Lh
 ·exact Lg _ _
 ·exact Lg _ _
theorem Lv.len:cG false b=some (.int .i64 l.length):=hb.rl.len
theorem Lv.idx {k:IntKind} {i:Nat} {a:α} (ha:l[i]?=some a):cX b (.int k i) sz=some (.ep (e a).cells 0):=hb.rl.idx ha
theorem Lv.elems (h:Hp):Go.Am.elems h b=some (l.map e):=hb.rl.elems h
theorem Lv.scalar:Go.Am.scalar b=true:=by rcases hb with⟨rfl,rfl⟩ | rfl | rfl<;>rfl
theorem Lv.gW (n:Nat) (h:Hp):Go.Am.gW n h b=some b:=by rcases hb with⟨rfl,rfl⟩ | rfl | rfl<;>rfl
theorem Lv.strip:Go.Am.strip b=b:=by rcases hb with⟨rfl,rfl⟩ | rfl | rfl<;>rfl
theorem Lv.cells:b.cells=[b]:=by rcases hb with⟨rfl,rfl⟩ | rfl | rfl<;>rfl
theorem Lv.below (he:El e sz) (n:Nat):Go.Am.below n b=true:=by
 rcases hb with⟨rfl,rfl⟩ | rfl | rfl
 ·rfl
 ·rw[oJ,he.belows];rfl
 ·rw[oJ,he.belows];rfl
end
theorem Lv.done {z:PV} (hz:gZ sz z) (l:List α):Lv e sz (gD z sz (l.map e)) l:=by
 unfold gD;cases l with
 | nil =>
  rcases hz with rfl | rfl
  ·exact .inl ⟨rfl,rfl⟩
  ·exact .inr (.inr rfl)
 | cons x xs=>exact .inr (.inl rfl)
end
theorem sH {k:Hp} (l:List gT) {n:Nat} (hn:n≤size k):bJ (ext k l) n=bJ k n:=by
 simp only[bJ,ext,size]at *;exact List.take_append_of_le_length hn
end Go.Am
namespace Go.Am
structure GS (h:Hp) (T sz:Nat) (z v:PV) (es:List PV) (H:Hp):Prop where
 tr:bJ H (size h)=h
 le:size h≤size H
 va:(es=[]∧v=z)∨(es≠[]∧∃ t,v=.sl (.tok t) sz es∧size h≤t∧t<size H∧dm H t=some (es.length,T))
section
variable {h H:Hp} {T sz:Nat} {z v:PV} {es:List PV}
theorem GS.zero (h:Hp) (T sz:Nat) (z:PV):GS h T sz z z [] h:=⟨by simp[bJ,size],Nat.le_refl _,.inl ⟨rfl,rfl⟩⟩
theorem Th (H l:Hp) {t:Nat} (ht:t<size H):bX (ext H l) t=bX H t:=by
 simp only[bX,ext,size]at *;rw[List.getElem?_append_left ht]
theorem GS.ext (g:GS h T sz z v es H) (l:List gT):GS h T sz z v es (ext H l):=by
 refine⟨by rw[sH l g.le];exact g.tr,by have:=g.le;simp only[size,Go.Am.ext,List.length_append]at *;omega,?_⟩;rcases g.va with a | ⟨a,t,b,c,d,e⟩
 ·exact .inl a
 ·refine .inr ⟨a,t,b,c,by simp only[size,Go.Am.ext,List.length_append]at *;omega,?_⟩
  unfold dm at *;rw[Th H l d];exact e
theorem GS.set (g:GS h T sz z v es H) {b:Nat} {cs cs':List PV} (hb:ay H b=some cs) (hn:size h≤b):GS h T sz z v es (cy H b cs'):=by
 refine⟨by have:=g.tr;simp only[bJ,cy,aC]at *;rw[List.take_set_of_le hn];exact this,by have:=g.le;simp only[size,cy,aC,List.length_set]at *;exact this,?_⟩;rcases g.va with a | ⟨a,t,q,c,d,e⟩
 ·exact .inl a
 ·refine .inr ⟨a,t,q,c,by simpa only[size,cy,aC,List.length_set] using d,?_⟩
  have hne:b≠t:=by
   rintro rfl;unfold dm at e;unfold ay at hb;cases hq:bX H b with
   | none=>rw[hq]at hb;cases hb
   | some x =>
    rw[hq]at hb e;cases x<;>simp[Option.ah,cellsOf,nW]at hb e
  unfold dm at *;simp only[bX,cy,aC]at *;rw[List.getElem?_set_ne hne];exact e
theorem GS.grow (g:GS h T sz z v es H) (hz:gZ sz z) {x:PV} (hf:fits sz x=true) (hs:strip x=x) (hl:es.length+1≤gy) :
  ∃ v' H',aaI H T sz v [x]=some (v',H')∧GS h T sz z v' (es++[x]) H':=by
 have hff:[x].all (fits sz)=true:=by simp[hf]
 have Za:aO [x]=[x]:=by rw[aO,hs];rfl
 rcases g.va with⟨rfl,rfl⟩ | ⟨hne,t,rfl,c,d,e⟩
 ·refine⟨.sl (.tok (size H)) sz [x],Go.Am.ext H [.tok 1 T],?_,?_⟩
  ·unfold aaI
   rw[if_pos hff];simp only[List.length_nil]at hl;rcases hz with rfl | rfl
   ·simp only
    rw[if_pos (by simpa using hl),Za];rfl
   ·simp only
    rw[if_pos (by simpa using hl),Za];rfl
  ·refine⟨by rw[sH _ g.le];exact g.tr,by have:=g.le;simp only[size,Go.Am.ext,List.length_append]at *;omega,.inr ⟨by simp,size H,rfl,g.le,by simp[size,Go.Am.ext],?_⟩⟩
   simp[dm,bX,size,Go.Am.ext,Option.ah,nW]
 ·refine⟨.sl (.tok t) sz (es++[x]),aC H t (.tok (es.length+1) T),?_,?_⟩
  ·unfold aaI
   rw[if_pos hff];simp only[e,Option.ah];rw[if_pos (by simpa using hl),Za];rfl
  ·refine⟨by have:=g.tr;simp only[bJ,aC]at *;rw[List.take_set_of_le c];exact this,by have:=g.le;simp only[size,aC,List.length_set]at *;exact this,.inr ⟨by simp,t,rfl,c,by simpa only[size,aC,List.length_set] using d,?_⟩⟩
   have hd:t<H.length:=d;simp[dm,bX,aC,List.getElem?_set_self hd,Option.ah,nW]
theorem GS.gW (g:GS h T sz z v es H) (hz:gZ sz z) (n:Nat) (k:Hp):gW n k v=some (gD z sz es):=by
 rcases g.va with⟨rfl,rfl⟩ | ⟨hne,t,rfl,_⟩
 ·rcases hz with rfl | rfl<;>rfl
 ·cases es with
  | nil=>exact(hne rfl).elim
  | cons x xs=>rfl
end
theorem GS.rl {α:Type} {e:α→PV} {h H:Hp} {T sz:Nat} {z v:PV} {l:List α} (g:GS h T sz z v (l.map e) H) (hz:gZ sz z):Rl e sz v l:=by
 rcases g.va with⟨a,rfl⟩ | ⟨hne,t,rfl,_⟩
 ·have:l=[]:=by simpa using a
  subst this;rcases hz with rfl | rfl
  ·exact Lh
  ·exact Lg .full []
 ·exact Lg _ _
end Go.Am
namespace Go.Am
structure Fl where
 b:List UInt8
 aj:Nat
 bN:List Nat
 dh:Nat
 left:Int
 down:Bool
structure FP where
 f:Nat
 bb:Nat
 wb:Nat
def lI (l:List Nat):List PV:=l.map fun(n:Nat)=>PV.int .i64 (n:Int)
def DB (p:FP) (F:Fl):List PV:=[.bW true p.bb 0 F.b.length 1,.int .i64 F.aj,.bW true p.wb 0 F.bN.length 1,.int .i64 F.dh,.int .i64 F.left,.bool F.down]
def cw (h:Hp) (p:FP) (F:Fl):Hp:=aC (aC (aC h p.bb (.cells (aP F.b))) p.wb (.cells (lI F.bN))) p.f (.cells (DB p F))
structure pH (h:Hp) (p:FP):Prop where
 lf:p.f<size h
 lb:p.bb<size h
 lw:p.wb<size h
 n1:p.f≠p.bb
 n2:p.f≠p.wb
 n3:p.bb≠p.wb
theorem pI {h k:Hp} (hs:size h=size k) (hb:∀ b,bX h b=bX k b):h=k:=List.ext_getElem? hb
theorem nM {h:Hp} {b n:Nat} {x:gT}:bX (aC h b x) n=if b=n then(if n<size h then some x else none) else bX h n:=by
 by_cases hb:b=n
 ·subst hb
  rw[if_pos rfl];split
  ·rename_i hl;exact cM hl
  ·rename_i hl;simp only[bX,aC,size]at *;rw[List.getElem?_eq_none (by simp;omega)]
 ·rw[if_neg hb,cN hb]
theorem bS {h:Hp} {p:FP} {F:Fl}:size (cw h p F)=size h:=by simp only[cw,aJ]
theorem dA {h:Hp} {p:FP} {F:Fl} (hp:pH h p) (n:Nat):bX (cw h p F) n=if n=p.f then some (.cells (DB p F)) else if n=p.wb then some (.cells (lI F.bN)) else if n=p.bb then some (.cells (aP F.b)) else bX h n:=by
 obtain⟨l1,l2,l3,n1,n2,n3⟩:=hp;simp only[cw,nM,aJ]
 by_cases h1:n=p.f
 ·subst h1;rw[if_pos rfl,if_pos l1,if_pos rfl]
 ·rw[if_neg (Ne.symm h1),if_neg h1]
  by_cases h2:n=p.wb
  ·subst h2;rw[if_pos rfl,if_pos l3,if_pos rfl]
  ·rw[if_neg (Ne.symm h2),if_neg h2]
   by_cases h3:n=p.bb
   ·subst h3;rw[if_pos rfl,if_pos l2,if_pos rfl]
   ·rw[if_neg (Ne.symm h3),if_neg h3]
theorem pH.set {h:Hp} {p:FP} (hp:pH h p) (b:Nat) (x:gT):pH (aC h b x) p:=⟨by rw[aJ];exact hp.lf,by rw[aJ];exact hp.lb,by rw[aJ];exact hp.lw,hp.n1,hp.n2,hp.n3⟩
theorem pH.ext {h:Hp} {p:FP} (hp:pH h p) (l:Hp):pH (Go.Am.ext h l) p:=⟨by rw[aW];have:=hp.lf;omega,by rw[aW];have:=hp.lb;omega,by rw[aW];have:=hp.lw;omega,hp.n1,hp.n2,hp.n3⟩
theorem pH.put {h:Hp} {p q:FP} {F:Fl} (hp:pH h p):pH (cw h q F) p:=⟨by rw[bS];exact hp.lf,by rw[bS];exact hp.lb,by rw[bS];exact hp.lw,hp.n1,hp.n2,hp.n3⟩
theorem Ca {h:Hp} {p:FP} {F G:Fl} (hp:pH h p):cw (cw h p F) p G=cw h p G:=by
 refine pI (by simp only[bS]) fun n=>?_
 rw[dA hp.put,dA hp,dA hp];split<;>(try rfl)
 split<;>(try rfl)
 split<;>rfl
theorem Aa {h l:Hp} {p:FP} {F:Fl} (hp:pH h p):ext (cw h p F) l=cw (ext h l) p F:=by
 simp only[cw];rw[aaD hp.lb,aaD (by rw[aJ];exact hp.lw),aaD (by rw[aJ,aJ];exact hp.lf)]
theorem Ab {h:Hp} {p:FP} {F:Fl} {b:Nat} {x:gT} (hp:pH h p) (h1:b≠p.f) (h2:b≠p.bb) (h3:b≠p.wb):aC (cw h p F) b x=cw (aC h b x) p F:=by
 refine pI (by simp only[bS,aJ]) fun n=>?_
 rw[dA (hp.set _ _),nM,nM,dA hp,bS]
 by_cases hb:b=n
 ·subst hb;rw[if_pos rfl,if_neg h1,if_neg h3,if_neg h2,if_pos rfl]
 ·rw[if_neg hb,if_neg hb]
theorem iQ {h:Hp} {p:FP} {F:Fl} {b:Nat} (hp:pH h p) (h1:b≠p.f) (h2:b≠p.bb) (h3:b≠p.wb):ay (cw h p F) b=ay h b:=by rw[ay,dA hp,if_neg h1,if_neg h3,if_neg h2];rfl
theorem FM {h:Hp} {p:FP} {F:Fl} {b:Nat} (hp:pH h p) (h1:b≠p.f) (h2:b≠p.bb) (h3:b≠p.wb):bR (cw h p F) b=bR h b:=by rw[bR,dA hp,if_neg h1,if_neg h3,if_neg h2];rfl
theorem ad4 {h l:Hp} {p:FP} {F:Fl} (hp:pH h p):bJ (cw (ext h l) p F) (size h)=cw h p F:=by
 rw[←Aa hp];have:=cH (h:=cw h p F) (l:=l);rwa [bS]at this
theorem cR {h:Hp} {p:FP} {F:Fl}:bJ (cw h p F) (size h)=cw h p F:=by
 have:=bL (h:=cw h p F);rwa [bS]at this
section cells
variable {h:Hp} {p:FP} {F:Fl} (hp:pH h p)
include hp
theorem DC:ay (cw h p F) p.f=some (DB p F):=by rw[ay,dA hp,if_pos rfl];rfl
theorem Z1:ay (cw h p F) p.bb=some (aP F.b):=by rw[ay,dA hp,if_neg (Ne.symm hp.n1),if_neg hp.n3,if_pos rfl];rfl
theorem UM:ay (cw h p F) p.wb=some (lI F.bN):=by rw[ay,dA hp,if_neg (Ne.symm hp.n2),if_pos rfl];rfl
theorem WI {G:Fl} (hb:G.b=F.b) (hw:G.bN=F.bN):cy (cw h p F) p.f (DB p G)=cw h p G:=by
 refine pI (by simp only[cy,bS,aJ]) fun n=>?_
 rw[cy,nM,dA hp,dA hp,bS,hb,hw]
 by_cases h1:n=p.f
 ·subst h1;rw[if_pos rfl,if_pos hp.lf,if_pos rfl]
 ·rw[if_neg (Ne.symm h1),if_neg h1,if_neg h1]
theorem Z2 {l:List UInt8} (hl:l.length=F.b.length):cy (cw h p F) p.bb (aP l)=cw h p { F with b:=l }:=by
 refine pI (by simp only[cy,bS,aJ]) fun n=>?_
 rw[cy,nM,dA hp,dA hp,bS]
 by_cases h1:n=p.f
 ·subst h1;rw[if_neg (Ne.symm hp.n1),if_pos rfl,if_pos rfl];simp only[DB,hl]
 ·rw[if_neg h1,if_neg h1]
  by_cases h2:n=p.wb
  ·subst h2;rw[if_neg hp.n3,if_pos rfl,if_pos rfl]
  ·rw[if_neg h2,if_neg h2]
   by_cases h3:n=p.bb
   ·subst h3;rw[if_pos rfl,if_pos hp.lb,if_pos rfl]
   ·rw[if_neg (Ne.symm h3),if_neg h3,if_neg h3]
theorem Z3 {l:List Nat} (hl:l.length=F.bN.length):cy (cw h p F) p.wb (lI l)=cw h p { F with bN:=l }:=by
 refine pI (by simp only[cy,bS,aJ]) fun n=>?_
 rw[cy,nM,dA hp,dA hp,bS]
 by_cases h1:n=p.f
 ·subst h1;rw[if_neg (Ne.symm hp.n2),if_pos rfl,if_pos rfl];simp only[DB,hl]
 ·rw[if_neg h1,if_neg h1]
  by_cases h2:n=p.wb
  ·subst h2;rw[if_pos rfl,if_pos hp.lw,if_pos rfl]
  ·rw[if_neg (Ne.symm h2),if_neg h2,if_neg h2]
theorem ld0:ax 1 false (.ptr p.f 0) (cw h p F)=some (.bW true p.bb 0 F.b.length 1):=by rw[ek,DC hp];rfl
theorem ld1:ax 1 false (.ptr p.f 1) (cw h p F)=some (.int .i64 F.aj):=by rw[ek,DC hp];rfl
theorem ld2:ax 1 false (.ptr p.f 2) (cw h p F)=some (.bW true p.wb 0 F.bN.length 1):=by rw[ek,DC hp];rfl
theorem ld3:ax 1 false (.ptr p.f 3) (cw h p F)=some (.int .i64 F.dh):=by rw[ek,DC hp];rfl
theorem ld4:ax 1 false (.ptr p.f 4) (cw h p F)=some (.int .i64 F.left):=by rw[ek,DC hp];rfl
theorem ld5:ax 1 false (.ptr p.f 5) (cw h p F)=some (.bool F.down):=by rw[ek,DC hp];rfl
theorem ldb {i:Nat} {c:UInt8} (hi:F.b[i]?=some c):ax 1 false (.ptr p.bb (i*1)) (cw h p F)=some (.int .u8 c.toNat):=by
 rw[ek,Z1 hp,Option.ag,part,if_neg (by simp),Nat.mul_one,pZ,hi];rfl
theorem ldw {i n:Nat} (hi:F.bN[i]?=some n):ax 1 false (.ptr p.wb (i*1)) (cw h p F)=some (.int .i64 n):=by
 rw[ek,UM hp,Option.ag,part,if_neg (by simp),Nat.mul_one,lI,List.getElem?_map,hi];rfl
theorem st3 {base:Nat} {n:Nat}:aS base 1 (.ptr p.f 3) (.int .i64 n) (cw h p F)=some (cw h p { F with dh:=n }):=by
 rw[dz,DC hp,Option.ag,if_pos ⟨rfl,by simp[DB],rfl,fun _=>rfl⟩];have:bE (DB p F) 3 (if p.f<base then aO (PV.int .i64 n).cells else(PV.int .i64 n).cells)=DB p { F with dh:=n }:=by split<;>rfl
 rw[this,WI (F:=F) hp (G:={ F with dh:=n }) rfl rfl]
theorem Yp {base:Nat} {n:Int}:aS base 1 (.ptr p.f 4) (.int .i64 n) (cw h p F)=some (cw h p { F with left:=n }):=by
 rw[dz,DC hp,Option.ag,if_pos ⟨rfl,by simp[DB],rfl,fun _=>rfl⟩];have:bE (DB p F) 4 (if p.f<base then aO (PV.int .i64 n).cells else(PV.int .i64 n).cells)=DB p { F with left:=n }:=by split<;>rfl
 rw[this,WI (F:=F) hp (G:={ F with left:=n }) rfl rfl]
theorem st5 {base:Nat} {n:Bool}:aS base 1 (.ptr p.f 5) (.bool n) (cw h p F)=some (cw h p { F with down:=n }):=by
 rw[dz,DC hp,Option.ag,if_pos ⟨rfl,by simp[DB],rfl,fun _=>rfl⟩];have:bE (DB p F) 5 (if p.f<base then aO (PV.bool n).cells else(PV.bool n).cells)=DB p { F with down:=n }:=by split<;>rfl
 rw[this,WI (F:=F) hp (G:={ F with down:=n }) rfl rfl]
omit hp in
theorem xV (l:List UInt8) (i:Nat) (c:UInt8):(aP l).set i (.int .u8 c.toNat)=aP (l.set i c):=by simp[aP,List.map_set]
omit hp in
theorem aM (l:List UInt8):(aP l).length=l.length:=by simp[aP]
theorem stb {base i:Nat} {c:UInt8} (hi:i<F.b.length):aS base 1 (.ptr p.bb (i*1)) (.int .u8 c.toNat) (cw h p F)=some (cw h p { F with b:=F.b.set i c }):=by
 rw[dz,Z1 hp,Option.ag,if_pos ⟨rfl,by rw[aM];omega,rfl,fun _=>rfl⟩];have:bE (aP F.b) (i*1) (if p.bb<base then aO (PV.int .u8 c.toNat).cells else(PV.int .u8 c.toNat).cells)=aP (F.b.set i c):=by
  rw[Nat.mul_one,←xV];split<;>rfl
 rw[this,Z2 hp (by simp)]
theorem stw {base i n:Nat} (hi:i<F.bN.length):aS base 1 (.ptr p.wb (i*1)) (.int .i64 n) (cw h p F)=some (cw h p { F with bN:=F.bN.set i n }):=by
 rw[dz,UM hp,Option.ag,if_pos ⟨rfl,by simp[lI];omega,rfl,fun _=>rfl⟩];have:bE (lI F.bN) (i*1) (if p.wb<base then aO (PV.int .i64 n).cells else(PV.int .i64 n).cells)=lI (F.bN.set i n):=by
  rw[Nat.mul_one];have e:lI (F.bN.set i n)=(lI F.bN).set i (.int .i64 n):=by simp[lI,List.map_set]
  rw[e];split<;>rfl
 rw[this,Z3 hp (by simp)]
end cells
/-! ### What a cV does -/
def Fl.cD (F:Fl) (i:Nat) (c:UInt8):Bool × Fl :=
 if F.left=0 then(false,{ F with down:=true })
 else(true,{ F with left:=if F.left > 0 then F.left-1 else F.left,b:=F.b.set i c,dh:=min (F.dh+1) 1073741824 })
def Fl.prog (F:Fl) (i:Nat):List UInt8→Nat × Fl
 | []=>(0,F)
 | c::r=>if(F.cD i c).1=true then(F.cD i c).2.prog (i+1) r else(30,(F.cD i c).2)
def Fl.clears (F:Fl) (i:Nat) (l:List UInt8):Bool:=(l.zipIdx).all fun p=>p.1 &&& ~~~ (F.b.getD (i+p.2) 0) == 0
def Fl.program (F:Fl) (i:Nat) (l:List UInt8):Nat × Fl:=if F.down then(30,F) else if F.clears i l then F.prog i l else(31,F)
def Fl.erase (F:Fl) (s:Nat):Nat × Fl:=if F.down then(30,F) else
 ({ F with bN:=F.bN.set s (min (F.bN.getD s 0+1) 1073741824) }:Fl).prog (s*F.aj) (List.replicate F.aj 255)
end Go.Am
namespace Go.Am
theorem mI (m n:Nat) (h:m+n≤9223372036854775807):IntKind.i64.wrap ((m:Int)+(n:Int))=((m+n:Nat):Int):=by rw[wrap_small (by omega) (by omega)];simp
theorem aa8 (m n:Nat) (h:n≤m) (h2:m≤9223372036854775807):IntKind.i64.wrap ((m:Int)-(n:Int))=((m-n:Nat):Int):=by rw[wrap_small (by omega) (by omega)];omega
theorem DE (m n:Nat) (h:m*n≤9223372036854775807):IntKind.i64.wrap ((m:Int)*(n:Int))=((m*n:Nat):Int):=by
 have:(m:Int)*(n:Int)=((m*n:Nat):Int):=by simp
 rw[this,wrap_small (by omega) (by omega)]
theorem fm (m:Nat) (h:m+1≤9223372036854775807):IntKind.i64.wrap ((m:Int)+1)=((m+1:Nat):Int):=by rw[wrap_small (by omega) (by omega)];simp
theorem acM (m:Nat) (h:m+2≤9223372036854775807):IntKind.i64.wrap ((m:Int)+2)=((m+2:Nat):Int):=by rw[wrap_small (by omega) (by omega)];simp
theorem aeQ (m:Nat) (h:m+7≤9223372036854775807):IntKind.i64.wrap ((m:Int)+7)=((m+7:Nat):Int):=by rw[wrap_small (by omega) (by omega)];simp
theorem aou (m:Nat) (h:m+7≤9223372036854775807):IntKind.i64.wrap (7+(m:Int))=((7+m:Nat):Int):=by rw[wrap_small (by omega) (by omega)];simp
theorem aeR (m:Nat) (h:1≤m) (h2:m≤9223372036854775807):IntKind.i64.wrap ((m:Int)-1)=((m-1:Nat):Int):=by rw[wrap_small (by omega) (by omega)];omega
theorem Qp (m:Nat) (h:4≤m) (h2:m≤9223372036854775807):IntKind.i64.wrap ((m:Int)-4)=((m-4:Nat):Int):=by rw[wrap_small (by omega) (by omega)];omega
theorem dec_lt (m n:Nat):decide ((m:Int)<(n:Int))=decide (m<n):=by simp
theorem Qq (m n:Nat):decide ((m:Int)≤(n:Int))=decide (m≤n):=by simp
theorem aaL (m n:Nat):decide ((m:Int) > (n:Int))=decide (m > n):=by simp
theorem DF (m n:Nat):decide ((m:Int)≥(n:Int))=decide (m≥n):=by simp
theorem aaX (m:Nat):decide ((m:Int)≥0)=true:=by simp
theorem Ti (m:Nat):decide ((m:Int)<0)=false:=by simp
end Go.Am
namespace Go.Am
def GK (h H:Hp) (v:PV) (es:List PV):Prop:=∃ g,H=ext h g∧es.all scalar=true∧belows (size h) es=true ∧
 ((es=[]∧(v=.bn∨v=.sl .full 1 []))∨∃ b,size h≤b∧v=.bW false b 0 es.length 1∧ay H b=some es)
theorem qH {n:Nat}:∀ {a b:List PV},belows n a=true→belows n b=true→belows n (a++b)=true
 | [],b,_,hb=>hb
 | x::a,b,ha,hb=>by
  simp only[belows,Bool.and_eq_true,List.cons_append]at *;exact⟨ha.1,qH ha.2 hb⟩
theorem tK:∀ {xs:List PV},xs.all scalar=true→xs.all (fits 1)=true∧xs.flatMap PV.cells=xs
 | [],_=>⟨rfl,rfl⟩
 | x::xs,h=>by
  simp only[List.all_cons,Bool.and_eq_true]at h;obtain⟨h1,h2⟩:=tK h.2;have hc:x.cells=[x]:=by
   have:=h.1;cases x<;>simp[scalar]at this ⊢<;>rfl
  exact⟨by simp only[List.all_cons,h1,Bool.and_true,fits,hc];simp[h.1],by rw[List.flatMap_cons,hc,h2];rfl⟩
theorem ez {h g:Hp} {b:Nat} {x:gT} (hb:size h≤b):aC (ext h g) b x=ext h (g.set (b-size h) x):=by
 simp only[aC,ext,size]at *;rw[List.set_append_right _ _ hb]
theorem GK.app {h H:Hp} {v:PV} {es xs:List PV} (hk:GK h H v es) (base:Nat) {o:Own} (hs:xs.all scalar=true) (hb:belows (size h) xs=true) (hlim:es.length+xs.length≤1000000) (hne:xs≠[]) :
  ∃ v' H',cU base H (.vH 1) [v,.sl o 1 xs]=some (v',H')∧GK h H' v' (es++xs):=by
 obtain⟨g,rfl,h1,h2,h3⟩:=hk;obtain⟨f1,f2⟩:=tK hs;have fin:∀ (H2:Hp),(∃ g,H2=ext h g)→GK h (ext H2 [.cells (es++xs)]) (.bW false (size H2) 0 (es++xs).length 1) (es++xs):=by
  rintro H2 ⟨g2,rfl⟩;refine⟨g2++[.cells (es++xs)],by simp[ext],by rw[List.all_append,h1,hs];rfl,qH h2 hb,.inr ⟨_,by rw[aW];omega,rfl,by rw[aQ];rfl⟩⟩
 rw[Nx];rcases h3 with⟨rfl,rfl | rfl⟩ | ⟨b,hb1,rfl,hb2⟩
 ·refine⟨_,_,?_,fin (ext h g) ⟨g,rfl⟩⟩
  simp only[jP,Option.ag,z6,if_neg hne,f1,f2,List.all_nil,gy,List.nil_append];rw[if_pos ⟨trivial,by simp at hlim;omega,trivial⟩];simp
 ·refine⟨_,_,?_,fin (ext h g) ⟨g,rfl⟩⟩
  simp only[jP,Option.ag,z7,if_neg hne,f1,f2,List.flatMap_nil,List.all_nil,gy,List.nil_append];rw[if_pos ⟨trivial,by simp at hlim ⊢;omega,trivial⟩];simp
 ·refine⟨_,_,?_,fin (aC (ext h g) b .dead) ⟨_,ez hb1⟩⟩
  have ht:es.take (es.length*1)=es:=by rw[Nat.mul_one,List.take_length]
  simp only[jP,Option.ag,B8,hb2,if_neg hne,f1,f2,gy,Nat.mul_one,Nat.le_refl,if_true,List.take_length,h1];rw[if_pos ⟨trivial,by omega,trivial⟩,List.length_append,aJ]
theorem GK.fin {h H:Hp} {v:PV} {es:List PV} (hk:GK h H v es) (hst:aO es=es) (hne:es≠[]):bg false false (size h) [v] H=some (.sl .no 1 es,h):=by
 obtain⟨g,rfl,h1,h2,h3⟩:=hk;rcases h3 with⟨rfl,_⟩ | ⟨b,hb1,rfl,hb2⟩
 ·exact(hne rfl).elim
 ·rw[bZ]
  simp only[fM,xP,if_neg (show ¬ b<size h by omega),hb2,Option.ag,List.drop_zero,lX,Bool.false_eq_true,if_false,List.take_length];rw[if_pos ⟨Nat.le_refl _,h1⟩];simp only[Option.ag,hst];rw[if_pos (by simp[belows,below,Own.below,h2]),cH];rfl
theorem GK.WJ {h:Hp} {es:List PV} (h1:es.all scalar=true) (h2:belows (size h) es=true):GK h (ext h [.cells es]) (.bW false (size h) 0 es.length 1) es :=
 ⟨_,rfl,h1,h2,.inr ⟨_,Nat.le_refl _,rfl,by rw[aQ];rfl⟩⟩
theorem GK.nil {h:Hp} {v:PV} (hv:v=.bn∨v=.sl .full 1 []):GK h h v []:=⟨[],by simp[ext],rfl,rfl,.inl ⟨rfl,hv⟩⟩
end Go.Am
namespace Go.Am.QdR
variable {h:Hp}
theorem Qr (n:Nat) (hn:n<4294967296):binOp .and (.int .u64 (n:Int)) (.int .u64 4294967295)=some (.int .u64 (n:Int)):=by
 show some (PV.int .u64 (IntKind.u64.wrap ((BitVec.ofInt 64 (n:Int) &&& BitVec.ofInt 64 4294967295).toNat:Int)))=_;have h1:(BitVec.ofInt 64 (n:Int)).toNat=n:=by simp;omega
 have h2:(BitVec.ofInt 64 4294967295).toNat=2 ^ 32-1:=by decide
 rw[BitVec.toNat_and,h1,h2,Nat.and_two_pow_sub_one_eq_mod,Nat.mod_eq_of_lt (by omega)];simp[IntKind.wrap,IntKind.signed,IntKind.bits];omega
theorem FN (n:Nat) (hn:n<4294967296):binOp .shr (.int .u64 (n:Int)) (.int .u64 32)=some (.int .u64 0):=by
 show some (PV.int .u64 ((n:Int).fdiv (2 ^ 32)))=_;rw[Int.fdiv_eq_ediv_of_nonneg _ (by decide),Int.ediv_eq_zero_of_lt (by omega) (by omega)]
theorem w64 (n:Nat) (hn:n<4294967296):IntKind.u64.wrap (n:Int)=(n:Int):=by
 simp[IntKind.wrap,IntKind.signed,IntKind.bits];omega
theorem Qs (base:Nat) (n:Nat) (hn:n<4294967296):ai T base 127 [.int .u64 1,.int .u64 (n:Int)] h=some (.cC [.int .u64 0,.int .u64 (n:Int)],h):=by
 have a1:=Qr 1 (by decide);have a2:=Qr n hn;have b1:=FN 1 (by decide);have b2:=FN n hn;have b0:=FN 0 (by decide);have a0:=Qr 0 (by decide);simp only[show((1:Nat):Int)=1 from rfl,show((0:Nat):Int)=0 from rfl]at a1 b1 a0 b0;have m1:binOp .mul (.int .u64 1) (.int .u64 (n:Int))=some (.int .u64 (n:Int)):=by
  show some (PV.int .u64 (IntKind.u64.wrap (1*(n:Int))))=_;rw[Int.one_mul,w64 n hn]
 have m0:binOp .mul (.int .u64 0) (.int .u64 (n:Int))=some (.int .u64 0):=by
  show some (PV.int .u64 (IntKind.u64.wrap (0*(n:Int))))=_;rw[Int.zero_mul];rfl
 have m2:binOp .mul (.int .u64 1) (.int .u64 0)=some (.int .u64 0):=rfl;have m3:binOp .mul (.int .u64 0) (.int .u64 0)=some (.int .u64 0):=rfl;have p0:binOp .add (.int .u64 0) (.int .u64 0)=some (.int .u64 0):=rfl;rw[af5];rw[a1,Option.ag,b1,Option.ag,a2,Option.ag,b2,Option.ag,m1,Option.ag,m0,Option.ag,b2,Option.ag,p0,Option.ag,a0,Option.ag,b0,Option.ag,m2,Option.ag,p0,Option.ag,m3,Option.ag,p0,Option.ag,b0,Option.ag,p0,Option.ag,Option.ag];simp only[bL,↓jV,jX,jY,jZ,simprocAttr,if_true,if_false,implies_true,forall_const]
theorem JF (base:Nat) (n:Nat) (hn:n<4294967296):ai T base 109 [.int .u64 1,.int .u64 (n:Int)] h=some (.cC [.int .u64 0,.int .u64 (n:Int)],h):=by
 have:=fun b=>Qs (h:=h) b n hn
 rw[af4];simp only[this,bL,↓jV,jX,jY,jZ,simprocAttr,if_true,if_false,implies_true,forall_const]
def fU (a n:Nat):List PV:=List.replicate a (.int .u8 255)++List.replicate (n-a) .undef
theorem Ac {a n:Nat} (ha:a≤n):(fU a n).length=n:=by simp[fU];omega
theorem NA {a n c:Nat} (hc:c≤a):(fU a n).take c=List.replicate c (.int .u8 255):=by
 unfold fU;rw[List.take_append_of_le_length (by simpa using hc),List.take_replicate,Nat.min_eq_left hc]
theorem nN:∀ (k a n:Nat),a+k≤n→bE (fU a n) a (List.replicate k (.int .u8 255))=fU (a+k) n
 | 0,a,n,_=>rfl
 | k+1,a,n,h=>by
  rw[List.replicate_succ,bE];have e:(fU a n).set a (.int .u8 255)=fU (a+1) n:=by
   unfold fU;have h1:n-a=(n-(a+1))+1:=by omega
   rw[h1,List.replicate_succ,List.set_append_right _ _ (by simp),List.length_replicate,Nat.sub_self,List.set_cons_zero,List.replicate_succ'];simp
  rw[e,nN k (a+1) n (by omega)];congr 1;omega
theorem Qt {base b a n c:Nat} {f f':Bool} {H:Hp} (hb:ay H b=some (fU a n)) (hc:c≤a) (ha:a≤n) (hbase:base≤b) :
  copyV base (.bW f b a (n-a) 1) (.bW f' b 0 c 1) H=some (.int .i64 ((min c (n-a):Nat):Int),aC H b (.cells (fU (a+min c (n-a)) n))):=by
 have he:elems H (.bW f' b 0 c 1)=some (List.replicate c (.int .u8 255)):=by
  rw[mT,hb,Option.ag,List.drop_zero,NA hc,if_pos ⟨by rw[Ac ha];omega,by simp[scalar]⟩]
 rw[kU,he,Option.ag,hb,Option.ag,if_pos ⟨rfl,by rw[Ac ha];omega,by simp[scalar],fun q=>absurd q (by omega)⟩];rw[List.take_replicate,List.length_replicate,nN _ _ _ (by omega),cy,Nat.min_comm]
theorem FO (base n0:Nat) {b n mx:Nat} (hn:n≤1000000) (hmx:1≤mx) (aga:mx≤1000000) (hbase:base≤b) (hn0:n0≤b):∀ (m a:Nat) {H:Hp},n-a≤m→1≤a→a≤n→ay H b=some (fU a n) →
  Lb base n0 (.bW true b 0 n 1) (.int .i64 (a:Int)) (.int .i64 (mx:Int)) (.int .i64 (n:Int)) H=bg false true n0 [.bW true b 0 n 1] (aC H b (.cells (fU n n)))
 | m,a,H,hm,ha,han,hb=>by
  rw[Qk]
  by_cases hlt:a<n
  ·have d1:decide (a<n)=true:=by simpa using hlt
   have hmin:jH false [.int .i64 (a:Int),.int .i64 (mx:Int)]=some (.int .i64 ((min a mx:Nat):Int)):=by
    show some (PV.int .i64 (if(mx:Int)<(a:Int) then(mx:Int) else(a:Int)))=_;congr 2;split<;>omega
   have s1:cZ (some 1) (some (.int .i64 (a:Int))) none none (.bW true b 0 n 1)=some (.bW true b a (n-a) 1):=by
    rw[rj,mY,Option.ag,jd,gQ _ _ _ (by omega),Option.ag,if_neg (by omega)];simp
   have s2:cZ (some 1) none (some (.int .i64 ((min a mx:Nat):Int))) none (.bW true b 0 n 1)=some (.bW (true&&min a mx == n) b 0 (min a mx) 1):=by
    rw[rj,jd,gQ _ _ _ (by omega),Option.ag,mY,Option.ag,if_neg (by omega)];simp
   have hc:=Qt (base:=base) (f:=true) (f':=(true&&min a mx == n)) hb (c:=min a mx) (by omega) han hbase;have hw:IntKind.i64.wrap ((a:Int)+((min (min a mx) (n-a):Nat):Int))=((a+min (min a mx) (n-a):Nat):Int):=mI _ _ (by omega);have hlt':b<size H:=bw (bq hb)
   match m,hm with
   | m+1,hm =>
    have ih:=FO base n0 hn hmx aga hbase hn0 m (a+min (min a mx) (n-a)) (H:=aC H b (.cells (fU (a+min (min a mx) (n-a)) n))) (by omega) (by omega) (by omega) (by rw[ay,cM hlt'];rfl);have hq:binOp .lss (.int .i64 (a:Int)) (.int .i64 (n:Int))=some (.bool true):=by
     show some (PV.bool (decide ((a:Int)<(n:Int))))=_;rw[dec_lt,d1]
    have had:binOp .add (.int .i64 (a:Int)) (.int .i64 ((min (min a mx) (n-a):Nat):Int))=some (.int .i64 ((a+min (min a mx) (n-a):Nat):Int)):=by
     show some (PV.int .i64 (IntKind.i64.wrap _))=_;rw[hw]
    rw[hq,Option.ag,aR,hmin,Option.ag,s1,Option.ag,s2,Option.ag,hc,az,had,Option.ag,ih,fN]
   | 0,hm=>omega
  ·have hq:binOp .lss (.int .i64 (a:Int)) (.int .i64 (n:Int))=some (.bool false):=by
    show some (PV.bool (decide ((a:Int)<(n:Int))))=_;rw[dec_lt,decide_eq_false hlt]
   have:a=n:=by omega
   subst this;rw[hq,Option.ag,aL,ju (bq hb)]
theorem Ad (k:Nat):∀ n,belows k (List.replicate n (PV.int .u8 255))=true
 | 0=>rfl
 | n+1=>by rw[List.replicate_succ];simp only[belows,Ad k n,Bool.and_true];rfl
theorem FQ (base:Nat) {n:Nat} (h1:1≤n) (hn:n≤1000000):ai T base 80 [.sl .full 1 [.int .u8 255],.int .i64 (n:Int)] h=some (.bW true (size h) 0 n 1,ext h [.cells (List.replicate n (.int .u8 255))]):=by
 have e0:binOp .eql (.int .i64 (n:Int)) (.int .i64 0)=some (.bool false):=by
  show some (PV.bool ((n:Int) == 0))=_;have:((n:Int) == 0)=false:=by rw[beq_eq_false_iff_ne];omega
  rw[this]
 have e1:binOp .lss (.int .i64 (n:Int)) (.int .i64 0)=some (.bool false):=by
  show some (PV.bool (decide ((n:Int)<0)))=_;rw[decide_eq_false (by omega)]
 have t1:cu (.int .i64 1) .u64=some (.int .u64 1):=rfl;have t2:cu (.int .i64 (n:Int)) .u64=some (.int .u64 (n:Int)):=by rw[nE,w64 n (by omega)]
 have t3:cu (.int .u64 (n:Int)) .i64=some (.int .i64 (n:Int)):=by rw[nE,wrap_small (by omega) (by omega)]
 have g1:binOp .gtr (.int .u64 0) (.int .u64 0)=some (.bool false):=rfl;have g2:binOp .gtr (.int .u64 (n:Int)) (.int .u64 9223372036854775807)=some (.bool false):=by
  show some (PV.bool (decide ((n:Int) > 9223372036854775807)))=_;rw[decide_eq_false (by omega)]
 have hl:cG false (.sl .full 1 [.int .u8 255])=some (.int .i64 1):=rfl;have hm:=JF (h:=h) (size h) n (by omega);have hmk:∀ base,ai T base 110 [.int .i64 (n:Int)] h=some (.bW false (size h) 0 n 1,ext h [.cells (List.replicate n .undef)]):=fun base=>by
  rw[oH ZX,Ym,if_pos ⟨by omega,by omega⟩];rfl
 have hs:cZ (some 1) none (some (.int .i64 (n:Int))) (some (.int .i64 (n:Int))) (.bW false (size h) 0 n 1)=some (.bW true (size h) 0 n 1):=by
  simp only[cZ,if_true,jd,mY];rw[gQ _ _ _ (Nat.le_refl n),Option.ag,gQ _ _ _ (Nat.le_refl n),Option.ag,Option.ag,if_neg (by omega)];simp
 have hb0:ay (ext h [.cells (List.replicate n .undef)]) (size h)=some (fU 0 n):=by rw[aQ];simp[fU,cellsOf]
 have hcp:copyV (size h) (.bW true (size h) 0 n 1) (.sl .full 1 [.int .u8 255]) (ext h [.cells (List.replicate n .undef)])=some (.int .i64 1,ext h [.cells (fU 1 n)]):=by
  rw[kU,jP,Option.ag,hb0,Option.ag,if_pos ⟨rfl,by rw[Ac (by omega)];omega,rfl,fun q=>absurd q (by omega)⟩];have e:[PV.int .u8 255].take n=List.replicate 1 (.int .u8 255):=by
   rw[List.take_of_length_le (by simpa using h1)];rfl
  rw[e,nN 1 0 n (by omega),cy,ez (Nat.le_refl _)];have:min ([PV.int .u8 255] : List PV).length n=1:=by simp;omega
  rw[this];simp
 have fin:∀ mx:Nat,1≤mx→mx≤1000000→FE (size h) (size h) (.int .i64 (mx:Int)) (.int .i64 (n:Int)) (.sl .full 1 [.int .u8 255]) h=some (.bW true (size h) 0 n 1,ext h [.cells (List.replicate n (.int .u8 255))]):=by
  intro mx hx1 hx2;have hlp:=FO (size h) (size h) (b:=size h) hn hx1 hx2 (Nat.le_refl _) (Nat.le_refl _) n 1 (H:=ext h [.cells (fU 1 n)]) (by omega) (Nat.le_refl 1) h1 (by rw[aQ];rfl);simp only[show((1:Nat):Int)=1 from rfl]at hlp;have hfull:fU n n=List.replicate n (.int .u8 255):=by simp[fU]
  have hset:aC (ext h [.cells (fU 1 n)]) (size h) (.cells (fU n n))=ext h [.cells (List.replicate n (.int .u8 255))]:=by
   rw[ez (Nat.le_refl _),hfull];simp
  rw[hset]at hlp;have hbl:belows (size h) (List.replicate n (PV.int .u8 255))=true:=Ad _ n;rw[Qj,hmk,az,hs,Option.ag,hcp,az,hlp,pF,yZ,if_neg (by omega),aQ];simp only[cellsOf,Option.ag];rw[if_pos ⟨rfl,hbl⟩,Option.ag,cH];rfl
 rw[S80,e0,Option.ag,aL,e1,Option.ag,aL,Qg,hl,Option.ag,t1,Option.ag,t2,Option.ag,hm,az];have q1:aE (.cC [.int .u64 0,.int .u64 (n:Int)]) 0=some (.int .u64 0):=rfl;have q2:aE (.cC [.int .u64 0,.int .u64 (n:Int)]) 1=some (.int .u64 (n:Int)):=rfl;have el:binOp .eql (.int .i64 1) (.int .i64 0)=some (.bool false):=rfl;have quo:binOp .quo (.int .i64 8192) (.int .i64 1)=some (.int .i64 8192):=rfl;have mul:binOp .mul (.int .i64 8192) (.int .i64 1)=some (.int .i64 8192):=rfl;have eq2:binOp .eql (.int .i64 8192) (.int .i64 0)=some (.bool false):=rfl;have f8:=fin 8192 (by omega) (by omega);have fn:=fin n h1 hn;simp only[show((8192:Nat):Int)=8192 from rfl]at f8;have gt:binOp .gtr (.int .i64 (n:Int)) (.int .i64 8192)=some (.bool (decide (n > 8192))):=by
  show some (PV.bool (decide ((n:Int) > 8192)))=_;congr 2;rw[decide_eq_decide];omega
 rw[q1,Option.ag,q2,Option.ag,g1,Option.ag];simp only[Qi,t3,hl,el,gt,quo,mul,eq2,f8,fn,g2,↓jV,jX,jY,jZ,simprocAttr,if_true,if_false,implies_true,forall_const];split<;>rfl
end Go.Am.QdR
namespace Go.Proofs
open Go.Shelf Go.RowKit
def Tryz.Cb:Go.Shelf.Ren:=⟨fun | 7=>142 | 10=>150 | n=>n,fun | 23=>143 | 26=>3 | 3=>22 | 28=>188 | 0=>0 | 27=>187 | 33=>196 | 4=>4 | n=>n,fun | n=>n⟩
theorem Tryz.Z4:Go.Proofs.SlLaysZI.n7 Tryz.prog Tryz.Cb:={
 mixed:=by kernel_rfl
 f7:=⟨Tryz.f142.name,by decide,Tryz.func142.trans (congrArg some (by kernel_rfl))⟩
 f10:=⟨Tryz.f150.name,by decide,Tryz.func150.trans (congrArg some (by kernel_rfl))⟩
 t0:=Tryz.underlying0
 a0:=Tryz.isAgg0
 z0:=Tryz.sizeOf0
 v0:=Tryz.zeroValue0
 t4:=Tryz.underlying4
 a4:=Tryz.isAgg4
 z4:=Tryz.sizeOf4
 v4:=Tryz.zeroValue4
 t23:=Tryz.underlying143
 a23:=Tryz.isAgg143
 z23:=Tryz.sizeOf143
 v23:=Tryz.zeroValue143
 t26:=Tryz.underlying3
 a26:=Tryz.isAgg3
 z26:=Tryz.sizeOf3
 v26:=Tryz.zeroValue3
 t27:=Tryz.underlying187
 a27:=Tryz.isAgg187
 z27:=Tryz.sizeOf187
 v27:=Tryz.zeroValue187
 t28:=Tryz.underlying188
 a28:=Tryz.isAgg188
 z28:=Tryz.sizeOf188
 v28:=Tryz.zeroValue188
 t33:=Tryz.underlying196
 a33:=Tryz.isAgg196
 z33:=Tryz.sizeOf196
 v33:=Tryz.zeroValue196 }
def Tryz.ve:Go.Shelf.Ren:=⟨fun | 6=>141 | 8=>148 | 9=>149 | 11=>154 | 13=>156 | 12=>155 | 23=>171 | 24=>172 | 14=>162 | 15=>163 | 16=>164 | 17=>165 | 18=>166 | 19=>167 | 20=>168 | 21=>169 | 22=>170 | 25=>174 | 26=>175 | 27=>176 | 28=>177 | 29=>178 | 30=>179 | 31=>181 | n=>n,fun | 26=>3 | 28=>188 | 24=>59 | 0=>0 | 3=>3 | 37=>132 | 48=>30 | 50=>128 | 4=>4 | 40=>206 | 39=>205 | 45=>210 | 5=>5 | 9=>9 | 51=>218 | 55=>222 | 57=>224 | 58=>110 | 33=>196 | n=>n,fun | n=>n⟩
theorem Tryz.Tl:Go.Proofs.SlLaysZI.n6 Tryz.prog Tryz.ve:={
 mixed:=by kernel_rfl
 f6:=⟨Tryz.f141.name,by decide,Tryz.func141.trans (congrArg some (by kernel_rfl))⟩
 f8:=⟨Tryz.f148.name,by decide,Tryz.func148.trans (congrArg some (by kernel_rfl))⟩
 f11:=⟨Tryz.f154.name,by decide,Tryz.func154.trans (congrArg some (by kernel_rfl))⟩
 t0:=Tryz.underlying0
 a0:=Tryz.isAgg0
 z0:=Tryz.sizeOf0
 v0:=Tryz.zeroValue0
 t24:=Tryz.underlying59
 a24:=Tryz.isAgg59
 z24:=Tryz.sizeOf59
 v24:=Tryz.zeroValue59
 t26:=Tryz.underlying3
 a26:=Tryz.isAgg3
 z26:=Tryz.sizeOf3
 v26:=Tryz.zeroValue3
 t28:=Tryz.underlying188
 a28:=Tryz.isAgg188
 z28:=Tryz.sizeOf188
 v28:=Tryz.zeroValue188
 i26:=by kernel_rfl }
def Tryz.ND:Go.Shelf.Ren:=⟨fun | 5=>149 | 8=>156 | 7=>155 | 19=>171 | 20=>172 | 10=>162 | 11=>163 | 12=>164 | 13=>165 | 14=>166 | 15=>167 | 16=>168 | 17=>169 | 18=>170 | 30=>174 | 31=>175 | 32=>176 | 33=>177 | 34=>178 | 35=>179 | 40=>181 | n=>n,fun | 23=>59 | 25=>3 | 3=>3 | 32=>132 | 22=>59 | 0=>0 | 44=>30 | 46=>128 | 4=>4 | 36=>206 | 35=>205 | 41=>210 | 5=>5 | 9=>9 | 53=>218 | 57=>222 | 63=>224 | 64=>110 | n=>n,fun | n=>n⟩
theorem Tryz.UN:Go.Proofs.SlLaysM.n5 Tryz.prog Tryz.ND:={
 mixed:=by kernel_rfl
 f5:=⟨Tryz.f149.name,by decide,Tryz.func149.trans (congrArg some (by kernel_rfl))⟩
 f7:=⟨Tryz.f155.name,by decide,Tryz.func155.trans (congrArg some (by kernel_rfl))⟩
 f8:=Tryz.func156.trans (congrArg some (by kernel_rfl))
 f10:=⟨Tryz.f162.name,by decide,Tryz.func162.trans (congrArg some (by kernel_rfl))⟩
 f11:=⟨Tryz.f163.name,by decide,Tryz.func163.trans (congrArg some (by kernel_rfl))⟩
 f12:=⟨Tryz.f164.name,by decide,Tryz.func164.trans (congrArg some (by kernel_rfl))⟩
 f13:=⟨Tryz.f165.name,by decide,Tryz.func165.trans (congrArg some (by kernel_rfl))⟩
 f14:=⟨Tryz.f166.name,by decide,Tryz.func166.trans (congrArg some (by kernel_rfl))⟩
 f15:=⟨Tryz.f167.name,by decide,Tryz.func167.trans (congrArg some (by kernel_rfl))⟩
 f16:=⟨Tryz.f168.name,by decide,Tryz.func168.trans (congrArg some (by kernel_rfl))⟩
 f17:=⟨Tryz.f169.name,by decide,Tryz.func169.trans (congrArg some (by kernel_rfl))⟩
 f18:=⟨Tryz.f170.name,by decide,Tryz.func170.trans (congrArg some (by kernel_rfl))⟩
 f19:=Tryz.func171.trans (congrArg some (by kernel_rfl))
 f20:=Tryz.func172.trans (congrArg some (by kernel_rfl))
 f30:=⟨Tryz.f174.name,by decide,Tryz.func174.trans (congrArg some (by kernel_rfl))⟩
 f31:=Tryz.func175.trans (congrArg some (by kernel_rfl))
 f32:=Tryz.func176.trans (congrArg some (by kernel_rfl))
 f33:=⟨Tryz.f177.name,by decide,Tryz.func177.trans (congrArg some (by kernel_rfl))⟩
 f34:=⟨Tryz.f178.name,by decide,Tryz.func178.trans (congrArg some (by kernel_rfl))⟩
 f35:=⟨Tryz.f179.name,by decide,Tryz.func179.trans (congrArg some (by kernel_rfl))⟩
 f40:=⟨Tryz.f181.name,by decide,Tryz.func181.trans (congrArg some (by kernel_rfl))⟩
 t0:=Tryz.underlying0
 a0:=Tryz.isAgg0
 z0:=Tryz.sizeOf0
 v0:=Tryz.zeroValue0
 t3:=Tryz.underlying3
 a3:=Tryz.isAgg3
 z3:=Tryz.sizeOf3
 v3:=Tryz.zeroValue3
 t4:=Tryz.underlying4
 a4:=Tryz.isAgg4
 z4:=Tryz.sizeOf4
 v4:=Tryz.zeroValue4
 t5:=Tryz.underlying5
 a5:=Tryz.isAgg5
 z5:=Tryz.sizeOf5
 v5:=Tryz.zeroValue5
 t9:=Tryz.underlying9
 a9:=Tryz.isAgg9
 z9:=Tryz.sizeOf9
 v9:=Tryz.zeroValue9
 t22:=Tryz.underlying59
 a22:=Tryz.isAgg59
 z22:=Tryz.sizeOf59
 v22:=Tryz.zeroValue59
 t23:=Tryz.underlying59
 a23:=Tryz.isAgg59
 z23:=Tryz.sizeOf59
 v23:=Tryz.zeroValue59
 t25:=Tryz.underlying3
 a25:=Tryz.isAgg3
 z25:=Tryz.sizeOf3
 v25:=Tryz.zeroValue3
 t32:=Tryz.underlying132
 a32:=Tryz.isAgg132
 z32:=Tryz.sizeOf132
 v32:=Tryz.zeroValue132
 t35:=Tryz.underlying205
 a35:=Tryz.isAgg205
 z35:=Tryz.sizeOf205
 v35:=Tryz.zeroValue205
 t36:=Tryz.underlying206
 a36:=Tryz.isAgg206
 z36:=Tryz.sizeOf206
 v36:=Tryz.zeroValue206
 t41:=Tryz.underlying210
 a41:=Tryz.isAgg210
 z41:=Tryz.sizeOf210
 v41:=Tryz.zeroValue210
 t44:=Tryz.underlying30
 a44:=Tryz.isAgg30
 z44:=Tryz.sizeOf30
 v44:=Tryz.zeroValue30
 t46:=Tryz.underlying128
 a46:=Tryz.isAgg128
 z46:=Tryz.sizeOf128
 v46:=Tryz.zeroValue128
 t53:=Tryz.underlying218
 a53:=Tryz.isAgg218
 z53:=Tryz.sizeOf218
 v53:=Tryz.zeroValue218
 t57:=Tryz.underlying222
 a57:=Tryz.isAgg222
 z57:=Tryz.sizeOf222
 v57:=Tryz.zeroValue222
 t63:=Tryz.underlying224
 a63:=Tryz.isAgg224
 z63:=Tryz.sizeOf224
 v63:=Tryz.zeroValue224
 t64:=Tryz.underlying110
 a64:=Tryz.isAgg110
 z64:=Tryz.sizeOf110
 v64:=Tryz.zeroValue110 }
def Tryz.JG:Go.Shelf.Ren:=⟨fun | 5=>117 | 7=>136 | n=>n,fun | 23=>143 | 25=>3 | 3=>22 | 4=>4 | 20=>20 | n=>n,fun | n=>n⟩
theorem Tryz.WK:Go.Proofs.SlLaysW.n5 Tryz.prog Tryz.JG:={
 mixed:=by kernel_rfl
 f5:=⟨Tryz.f117.name,by decide,Tryz.func117.trans (congrArg some (by kernel_rfl))⟩
 f7:=Tryz.func136.trans (congrArg some (by kernel_rfl))
 t4:=Tryz.underlying4
 a4:=Tryz.isAgg4
 z4:=Tryz.sizeOf4
 v4:=Tryz.zeroValue4
 t20:=Tryz.underlying20
 a20:=Tryz.isAgg20
 z20:=Tryz.sizeOf20
 v20:=Tryz.zeroValue20
 t23:=Tryz.underlying143
 a23:=Tryz.isAgg143
 z23:=Tryz.sizeOf143
 v23:=Tryz.zeroValue143 }
open Go.RowKit Go.Maps Go.Sort in
theorem Tryz.WL (m:Nat):AnyZI.SortsIn Tryz.prog Tryz.ve Fence.wide m :=
 ⟨fun blk off cap ss W hH hblk hsz=>callsIn_wide.2 (AnyM.slices_Sort_int Tryz.UN blk off cap ss W hH hblk hsz),
  fun p cap W=>callsIn_wide.2 (AnyM.slices_Sort_int_none Tryz.UN p cap W)⟩
theorem Tryz.maps_Clone (b:Nat) (es:Array MapEntry) (clock:Nat) (w:World) (hb:w.heap[b]?=some (.map es clock)) :
  Calls Tryz.prog 117 #[.map (some b)] w fun e w'=>e=.returned (.map (some w.heap.size))∧w'=w.alloc (.map es clock):=AnyW.maps_Clone Tryz.WK b es clock w hb
end Go.Proofs
namespace Go.Proofs.YtmmjmkjoflfpmaaGreatDoorR
open Go Go.Proofs Go.Am
def qI (N0:Nat) (w:World):Prop:=True
theorem agc:me Tryz.prog qI 110 Ym :=
 PW (ps:=Tryz.f110.params) (t:=22) Tryz.underlying22 fun n w v w' h=>by
  rw[run_callFunc_extern Tryz.func110 (by kernel_rfl) (by kernel_rfl) (by kernel_rfl) (e:=Extern.BytealgMakeNoZero.makeNoZero Tryz.f110.params #[22]) (by kernel_rfl),h];rfl
end Go.Proofs.YtmmjmkjoflfpmaaGreatDoorR
namespace Go.Am.QdR
open Go.Proofs
theorem agd:(bQ Tryz.prog gl { own:=true } Tryz.f80).map (bP A80)=some Qf:=by kernel_rfl
theorem Z5:(bQ Tryz.prog gl {} Tryz.f109).map (bP Wz)=some WA:=by kernel_rfl
theorem Z6:(bQ Tryz.prog gl {} Tryz.f127).map (bP WB)=some WC:=by kernel_rfl
theorem xX:mV Tryz.prog gl Go.Proofs.YtmmjmkjoflfpmaaGreatDoorR.qI T:=by
 intro f it h;unfold T at h;split at h
 ·cases h;exact⟨A80,{ own:=true },Tryz.f80,Tryz.func80,agd⟩
 ·cases h;exact⟨Wz,{},Tryz.f109,Tryz.func109,Z5⟩
 ·cases h;exact Go.Proofs.YtmmjmkjoflfpmaaGreatDoorR.agc
 ·cases h;exact⟨WB,{},Tryz.f127,Tryz.func127,Z6⟩
 ·cases h
end Go.Am.QdR
namespace Go.Am
theorem Qv {N0:Nat} {P:Program} {w0:World} {gl:cQ} {I:Nat→World→Prop} {T:Table} (hT:mV P gl I T) (hgl:dR gl N0 w0) (hI:I N0 w0) {base f:Nat} {vs:List PV} {h h':Hp} {r:PV}
  (hs:ai T base f vs h=some (r,h')) (hb:base≤size h) (g:G) (us:Array Value) (w:World) (k:ox N0 w0 g h w) (hl:us.size=vs.length) (hrel:∀ (j:Nat) (x:PV),vs[j]?=some x→RV N0 g w x (us.getD j Go.undef)) :
  Fk P f us w fun en w'=>∃ u g',en=.returned u∧Ext N0 g w g' w'∧ox N0 w0 g' h' w'∧RV N0 g' w' r u:=by
 obtain⟨T0,h1,h2⟩:=zX hT;obtain⟨n,hn⟩:=eW.1 hs;obtain⟨m,hm⟩:=eW.1 ((zW h2 n).2 base f vs h _ hn);exact(Dg hgl hI h1 m).2.2 base f vs h r h' hm hb g us w k hl hrel
end Go.Am
namespace Go.Am.QdR
open Go Go.Proofs
open Go.RowKit (Below)
theorem Qw {n:Nat} (h1:1≤n) (hn:n≤1000000) (w:World) {b:Nat} {T:TypeId} {fr:Nat × Nat} (hb:w.heap[b]?=some (.cells #[.int .u8 255] T fr)) :
  Calls Tryz.prog 80 #[.slice (some ⟨b,0,none⟩) 1 1,.int .i64 (n:Int)] w fun e w'=>∃ c arr T lo hi,e=.returned (.slice (some ⟨c,0,none⟩) n n)∧w.heap.size≤c∧w'.heap[c]?=some (.cells arr T (lo,hi))∧(lo≠hi→arr.size≤lo)∧n≤arr.size ∧
   (∀ k,k<n→arr.getD k Go.undef=.int .u8 255)∧Below w.heap.size w w':=by
 have hbl:b<w.heap.size:=(Array.getElem?_eq_some_iff.1 hb).1;have k0:ox w.heap.size w { ι:=id,n:=0,hw:=fun _=>none } [] w :=
  ⟨rfl,rfl,Below.refl _ _,fun b c x y hx=>by simp[bX]at hx,fun b cs hb=>by simp[bX]at hb,fun c m hm=>by simp at hm,fun t v hv=>by simp[look]at hv⟩
 have hs:=FQ (h:=[]) 0 h1 hn;have hin:=Qv (gl:=gl) (I:=Go.Proofs.YtmmjmkjoflfpmaaGreatDoorR.qI) xX (fun n cs h=>by simp[gl,IT]at h) (N0:=w.heap.size) (w0:=w) (by exact trivial) hs (Nat.zero_le _) _ #[.slice (some ⟨b,0,none⟩) 1 1,.int .i64 (n:Int)] w k0 rfl (fun j x hx=>by
  match j,hx with
  | 0,hx =>
   cases hx;refine RV.sl .full 1 [.int .u8 255] b 0 1 (fun _ _=>.int .u8 255) (by simp) (fun _=>rfl) (fun i e he=>?_) (fun i j hi hj=>?_) (fun i j e x he hx=>?_) (fun _=>.inl hbl) none (fun _=>rfl) (by simp)
   ·match i,he with
    | 0,he=>cases he;rfl
    | i+1,he=>simp at he
   ·have:i=0:=by simpa using hi
    have:j=0:=by omega
    subst i;subst j;simp[World.cell?,hb]
   ·match i,he with
    | 0,he =>
     cases he
     match j,hx with
     | 0,hx=>cases hx;exact .int _ _
     | j+1,hx=>simp[PV.cells]at hx
    | i+1,he=>simp at he
  | 1,hx=>cases hx;exact .int _ _
  | j+2,hx=>simp at hx)
 have hen:(callFunc 80 #[.slice (some ⟨b,0,none⟩) 1 1,.int .i64 (n:Int)]).run Tryz.prog w=_:=u5 xX ⟨_,ZV⟩ _ _;refine(hin.calls hen).mono fun e w' hw=>?_
 obtain⟨u,g',rfl,hx,hok,hr⟩:=hw;have hk:=hok.cells (b:=0) (cs:=List.replicate n (.int .u8 255)) rfl;obtain⟨k1,k2,arr,T',lo,hi,k3,k4,⟨k5,k6⟩,k7,k8⟩:=hk;cases hr with
 | bW f b off len sz cap q1 q2 q3 q4 =>
  have hc:=q3 rfl;subst hc;refine⟨_,arr,T',lo,hi,rfl,k1,k3,k4,by simpa using Nat.le_trans k5 k6,fun k hk=>?_,hok.below⟩;have:=k8 k (.int .u8 255) (by simp[hk]);generalize hv:arr.getD k Go.undef=V at this;cases this;rfl
end Go.Am.QdR
namespace Go.Proofs.YtmmjmkjoflfpmaaGreatDoor
open Go Go.Proofs Go.Am
open Go.RowKit (Below)
open Go.Maps
def qI (N0:Nat) (w:World):Prop:=True
theorem Tm:me Tryz.prog qI 117 Dh :=
 Ft (Am.enters_of Tryz.func117 (by kernel_rfl) rfl) fun b es clock w hb=>Tryz.maps_Clone b es clock w hb
theorem Qx:nJ Tryz.prog qI 141 (xS 150):=by
 refine Br (tk:=3) Tryz.underlying3 (Am.enters_of Tryz.func141 (by kernel_rfl) rfl) fun Bm b nn D0 w hBm hm hown hmax hbytes=>?_
 have hseq:SeqGives Fence.wide 2 Tryz.prog 150 #[.pointer (some ⟨Bm,0,none⟩)] encZ (fun ss=>ss.Perm (intKeys D0)) (Maps.size D0) w :=
  AnyZI.keys_gives (ρ:=Tryz.Cb) { Tryz.Z4 with } Fence.wide _ trivial rfl (by omega) Bm b nn D0 _ hBm hm hown
 have cS:=AnyZI.sorted_in Tryz.Tl Fence.wide 5 trivial trivial trivial trivial rfl (by omega) (Tryz.WL _) (enters_of Tryz.func149 (by kernel_rfl) rfl) 150 #[.pointer (some ⟨Bm,0,none⟩)] trivial (enters_of Tryz.func150 (by kernel_rfl) rfl) _ _ hmax hbytes _ hseq;exact(callsIn_wide (n:=5)).1 cS
theorem WM (a:Option Addr) (n cap:Nat) (hn:n≤17179869184) (w:World):Calls Tryz.prog 140 #[.slice a n cap] w fun e w'=>e=.returned (.int .i64 ((7+n:Nat):Int))∧w'=w:=by
 go_enter Tryz.func140,Tryz.ntmps140
 go_wp2
 go_ret
 refine⟨?_,rfl⟩;have:(7+(n:Int)+9223372036854775808) % 18446744073709551616-9223372036854775808=((7+n:Nat):Int):=by omega
 first | (simp[this];done) | (congr 2) | skip
def Lk (w' w:World):Prop:=w'.heap=w.heap∧w'.os=w.os∧w'.output=w.output∧w'.tape=w.tape
theorem Tn {P:Program} (w:World) (ty:TypeId) (bm since c0:Nat) (seen:Array Nat) (es:Array MapEntry) (clock:Nat) (hb:w.heap[bm]?=some (.map es clock)) (hold:∀ x∈es.toList,x.born<since) (hsc:since≤c0) :
  ((leftOf es seen).size=0∧(Instr.next (.pointer (some ⟨w.heap.size,0,none⟩)) false ty).run P (w.alloc (.mapIter (some bm) since seen c0))=.ok (.tuple #[.bool false]) (w.alloc (.mapIter (some bm) since seen c0))) ∨
  ∃ e∈(leftOf es seen).toList,∃ w1:World,Lk w1 w∧(Instr.next (.pointer (some ⟨w.heap.size,0,none⟩)) false ty).run P (w.alloc (.mapIter (some bm) since seen c0))=.ok (.tuple #[.bool true,e.key,e.val]) (w1.alloc (.mapIter (some bm) since (seen.push e.born) clock)):=by
 have hlt:bm<w.heap.size:=(Array.getElem?_eq_some_iff.1 hb).1;have hb':(w.alloc (.mapIter (some bm) since seen c0)).heap[bm]?=some (.map es clock):=by rw[heap_alloc_old w _ hlt,hb]
 rcases run_next_at (P:=P) (w.alloc (.mapIter (some bm) since seen c0)) ty w.heap.size bm since c0 seen es clock (heap_alloc_new w _) hb' hold hsc with h | ⟨e,he,w1,hw,hrun⟩
 ·exact .inl h
 ·have key:∀ v:World,Go.ChangeMaps.setBlock (v.alloc (.mapIter (some bm) since seen c0)) v.heap.size (.mapIter (some bm) since (seen.push e.born) clock)=v.alloc (.mapIter (some bm) since (seen.push e.born) clock):=by
   intro v;have hh:(v.heap.push (.mapIter (some bm) since seen c0)).setIfInBounds v.heap.size (.mapIter (some bm) since (seen.push e.born) clock)=v.heap.push (.mapIter (some bm) since (seen.push e.born) clock):=by
    apply Array.toList_inj.1;simp
   show({ v.alloc (.mapIter (some bm) since seen c0) with heap:=(v.heap.push (.mapIter (some bm) since seen c0)).setIfInBounds v.heap.size (.mapIter (some bm) since (seen.push e.born) clock) }:World)=_;rw[hh];rfl
  rcases hw with rfl | rfl
  ·exact .inr ⟨e,he,w,⟨rfl,rfl,rfl,rfl⟩,hrun.trans (by rw[key w])⟩
  ·exact .inr ⟨e,he,w.drew,⟨rfl,rfl,rfl,rfl⟩,hrun.trans (congrArg _ (key w.drew))⟩
def szV:Value→Int
 | .slice _ n _=>(7+n:Nat)
 | _=>0
def JH (e:MapEntry):MapEntry:={ e with val:=.int .i64 (szV e.val) }
theorem qJ:∀ (l:List MapEntry) (seen:Array Nat) (B:Int),(∀ x∈l,0≤valOf x.val∧valOf x.val≤B)→0≤seenSum l seen∧seenSum l seen≤l.length*B
 | [],seen,B,h=>by simp[seenSum]
 | x::l,seen,B,h=>by
  obtain⟨h1,h2⟩:=qJ l seen B (fun y hy=>h y (List.mem_cons_of_mem _ hy));obtain⟨h3,h4⟩:=h x List.mem_cons_self;have h5:((l.length+1:Nat):Int)*B=l.length*B+B:=by rw[Int.natCast_add,Int.add_mul];simp
  simp only[seenSum,List.length_cons,h5];split<;>omega
theorem NF (bm:Nat) (es:Array MapEntry) (clock:Nat) (w:World) (hb:w.heap[bm]?=some (.map es clock)) (hst:MapKept.Stamped es clock) (hv:∀ x∈es.toList,∃ a n cap,x.val=.slice a n cap∧n≤17179869184) (hs:es.size≤1048576) :
  Calls Tryz.prog 121 #[.map (some bm)] w fun e w'=>e=.returned (.int .i64 (8+((es.toList.map JH).map fun e=>valOf e.val).sum))∧∃ (w1:World) (seen:Array Nat),Lk w1 w∧w'=w1.alloc (.mapIter (some bm) clock seen clock):=by
 have hrg:=run_range_map (P:=Tryz.prog) w 143 3 22 bm es clock Tryz.underlying143 hb;have hnd:((es.toList.map JH).map (·.born)).Nodup:=by
  have:(es.toList.map JH).map (·.born)=es.toList.map (·.born):=by rw[List.map_map];rfl
  rw[this];exact hst.2.1
 go_enter Tryz.func121,Tryz.ntmps121
 go_wp2
 go_loopw [3] (fun s w'=>∃ (w1:World) (seen:Array Nat),Lk w1 w∧w'=w1.alloc (.mapIter (some bm) clock seen clock)∧s=.int .i64 (8+seenSum (es.toList.map JH) seen)) (fun _ w'=>(leftOf es (w'.iterSeen w.heap.size)).size)
 case atStart=>exact⟨w,#[],⟨rfl,rfl,rfl,rfl⟩,rfl,by rw[seenSum_none];rfl⟩
 case round =>
  obtain⟨w1,seen,hal,rfl,rfl⟩:=hrel;have hsz:w1.heap.size=w.heap.size:=by rw[hal.1]
  have hb1:w1.heap[bm]?=some (.map es clock):=by rw[hal.1];exact hb
  have law:=Tn (P:=Tryz.prog) w1 0 bm clock clock seen es clock hb1 hst.1 (Nat.le_refl _);rw[hsz]at law;rcases law with⟨h0,hrun⟩ | ⟨e,he,w2,hal2,hrun⟩
  ·have hnx:∀ ty,(Instr.next (.pointer (some ⟨w.heap.size,0,none⟩)) false ty).run Tryz.prog (w1.alloc (.mapIter (some bm) clock seen clock))=_:=fun _=>hrun
   go_wp2
   go_ret
   have hall:seenSum (es.toList.map JH) seen=((es.toList.map JH).map fun e=>valOf e.val).sum :=
    seenSum_full seen _ (fun x hx=>by obtain⟨y,hy,rfl⟩:=List.mem_map.1 hx;exact all_seen es seen h0 y hy)
   rw[hall];exact⟨rfl,w1,seen,hal,rfl⟩
  ·obtain⟨a,n,cap,hval,hn⟩:=hv e (mem_left he).1
   rw[hval]at hrun;have hnx:∀ ty,(Instr.next (.pointer (some ⟨w.heap.size,0,none⟩)) false ty).run Tryz.prog (w1.alloc (.mapIter (some bm) clock seen clock))=_:=fun _=>hrun
   have hsz2:w2.heap.size=w.heap.size:=by rw[hal2.1,hal.1]
   have hb2:w2.heap[bm]?=some (.map es clock):=by rw[hal2.1];exact hb1
   have hen:=run_entry_map (P:=Tryz.prog) w2 bm clock seen es clock e hb2 (mem_left he).1 hst.2.1;rw[hsz2,hval]at hen
   go_wp2_with (go_at_call 140;refine(WM a n cap hn _).mono ?_;rintro e' w' ⟨rfl,rfl⟩)
   go_roundw
   case rel =>
    refine⟨w2,seen.push e.born,⟨hal2.1.trans hal.1,hal2.2.1.trans hal.2.1,hal2.2.2.1.trans hal.2.2.1,hal2.2.2.2.trans hal.2.2.2⟩,rfl,?_⟩;have hp:=seenSum_push seen (JH e) (mem_left he).2 (es.toList.map JH) hnd (List.mem_map.2 ⟨e,(mem_left he).1,rfl⟩);have hb9:(JH e).born=e.born:=rfl;rw[hb9]at hp;rw[hp];have hve:valOf (JH e).val=7+(n:Int):=by simp[JH,valOf,hval,szV]
    have hbd:=qJ (es.toList.map JH) seen 17179869191 (by
     intro x hx;obtain⟨y,hy,rfl⟩:=List.mem_map.1 hx;obtain⟨a',n',cap',hv',hn'⟩:=hv y hy;simp only[JH,valOf,hv',szV];omega)
    rw[List.length_map,Array.length_toList]at hbd;rw[hve];have hfin:∀ x y:Int,x=y→Value.int .i64 x=Value.int .i64 y:=fun x y hxy=>by rw[hxy]
    apply hfin;simp only[RowKit.wrap64];have:(es.size:Int)≤1048576:=by omega
    have h3:(es.size:Int)*17179869191≤1048576*17179869191:=Int.mul_le_mul_of_nonneg_right this (by omega);omega
   case measure =>
    rw[←hsz2,World.iterSeen_alloc,hsz2,←hsz,World.iterSeen_alloc];exact left_shrinks es seen e he
theorem Ae:∀ {es:List (PV × PV)} {ls:List Nat},oX es=some ls→ls.length=es.length∧∀ (i:Nat) (x:PV × PV),es[i]?=some x→∃ n,ls[i]?=some n∧∀ (N0:Nat) (g:G) (w:World) (V:Value),RV N0 g w x.2 V→∃ a cap,V=.slice a n cap
 | [],ls,h=>by simp only[oX,Option.some.injEq]at h;subst h;exact⟨rfl,fun i x hx=>by simp at hx⟩
 |(k,v)::r,ls,h=>by
  have key:∀ n,(oX r).map (n::·)=some ls→(∀ (N0:Nat) (g:G) (w:World) (V:Value),RV N0 g w v V→∃ a cap,V=.slice a n cap)→ls.length=((k,v)::r).length∧∀ (i:Nat) (x:PV × PV),((k,v)::r)[i]?=some x→∃ n,ls[i]?=some n∧∀ (N0:Nat) (g:G) (w:World) (V:Value),RV N0 g w x.2 V→∃ a cap,V=.slice a n cap:=by
   intro n hn hv;rw[Option.map_eq_some_iff]at hn;obtain⟨l,hl,rfl⟩:=hn;obtain⟨h1,h2⟩:=Ae hl;refine⟨by simp[h1],fun i x hx=>?_⟩;cases i with
   | zero=>simp at hx;subst hx;exact⟨n,rfl,hv⟩
   | succ i=>simpa using h2 i x (by simpa using hx)
  cases v<;>simp only[oX]at h<;>(try cases h)
  ·exact key _ h fun N0 g w V hV=>by cases hV;exact⟨_,_,rfl⟩
  ·exact key _ h fun N0 g w V hV=>by cases hV;exact⟨_,_,rfl⟩
  ·exact key _ h fun N0 g w V hV=>by cases hV;exact⟨_,_,rfl⟩
theorem WN:nJ Tryz.prog qI 121 PU:=by
 intro vs h r hr N0 w0 g us w hI k hlen hrel;refine⟨(Am.enters_of Tryz.func121 (by kernel_rfl) rfl) us w,?_⟩;unfold PU at hr;split at hr
 ·rename_i b
  simp only[Option.aa]at hr;obtain⟨es,hes,hr⟩:=hr;split at hr
  ·rename_i hle
   simp only[Option.aa]at hr;obtain⟨ls,hls,hr⟩:=hr;split at hr
   ·rename_i hall
    simp only[Option.some.injEq]at hr;subst hr;obtain⟨u,rfl⟩ : ∃ u,us=#[u]:=by
     have:us.size=1:=by simpa using hlen
     exact rW this
    have h1:=hrel 0 _ rfl;simp only[Array.getD_eq_getD_getElem?,List.getElem?_toArray,List.getElem?_cons_zero,Option.getD_some]at h1;rcases iI (a:=⟨#[],[]⟩) k h1 (es:=es) (by simpa[entriesOf] using hes) with⟨hq,_⟩ | ⟨b',ea,cl,hbb,rfl,hg,hw,hrel2,hst⟩
    ·cases hq
    cases hbb;obtain⟨hl1,hl2⟩:=Ae hls;have hel:ea.size=es.length:=by have:=hrel2.1;simpa using this
    have hval:∀ (i:Nat) (y:MapEntry),ea[i]?=some y→∃ a n cap,y.val=.slice a n cap∧ls[i]?=some n∧n≤17179869184:=by
     intro i y hy;have hi:i<es.length:=by rw[←hel];exact(Array.getElem?_eq_some_iff.1 hy).1
     obtain⟨y',hy',_,_,_,q4⟩:=hrel2.2 i es[i] (List.getElem?_eq_getElem hi);rw[Array.getElem?_toList,hy]at hy';cases hy';obtain⟨n,n1,n2⟩:=hl2 i es[i] (List.getElem?_eq_getElem hi);obtain⟨a,cap,hV⟩:=n2 _ _ _ _ q4;have:=List.all_eq_true.1 hall n (List.mem_of_getElem? n1);exact⟨a,n,cap,hV,n1,by simpa using this⟩
    refine(NF (g.ι b) ea cl w hw hst (fun y hy=>?_) (by omega)).mono fun en w' hen=>?_
    ·obtain⟨i,hi⟩:=List.getElem?_of_mem hy
     rw[Array.getElem?_toList]at hi;obtain⟨a,n,cap,q1,_,q2⟩:=hval i y hi;exact⟨a,n,cap,q1,q2⟩
    ·obtain⟨rfl,w1,seen,hal,rfl⟩:=hen
     have hsz:w1.heap.size=w.heap.size:=by rw[hal.1]
     have hbl:Below w.heap.size w (w1.alloc (.mapIter (some (g.ι b)) cl seen cl)):=by
      have h2:Below w.heap.size w w1:=⟨hal.2.1,hal.2.2.2,hal.2.2.1,by omega,fun c hc=>by rw[hal.1]⟩;exact h2.alloc (by omega) _
     obtain⟨hx,hok⟩:=sq k hbl;refine⟨_,g,rfl,hx,hok,?_⟩;have hsum:(ea.toList.map JH).map (fun e=>valOf e.val)=ls.map fun n=>((7+n:Nat):Int):=by
      apply List.ext_getElem?;intro i;simp only[List.getElem?_map,Array.getElem?_toList];cases hy:ea[i]? with
      | none =>
       have:ea.size≤i:=by simpa using hy
       rw[List.getElem?_eq_none (by omega)];rfl
      | some y =>
       obtain⟨a,n,cap,q1,q2,_⟩:=hval i y hy;simp[JH,valOf,q1,szV,q2]
     have hcast:∀ l:List Nat,((l.map fun n=>((7+n:Nat):Int)).sum)=(((l.map fun n=>7+n).sum:Nat):Int):=by
      intro l
      induction l with
      | nil=>rfl
      | cons x l ih=>simp only[List.map_cons,List.sum_cons,ih];omega
     rw[hsum,hcast,show((8:Int)+(((ls.map fun n=>7+n).sum:Nat):Int))=((8+(ls.map fun n=>7+n).sum:Nat):Int) by simp];exact .int _ _
   ·cases hr
  ·cases hr
 ·cases hr
end Go.Proofs.YtmmjmkjoflfpmaaGreatDoor
namespace Go.Proofs.YtmmjmkjoflfpmaaGreatDoor
open Go Go.Proofs Go.Am
open Go.RowKit (Below)
def To (w w':World) (c n:Nat):Prop:=w.heap.size≤c∧(∃ arr T lo hi,w'.heap[c]?=some (.cells arr T (lo,hi))∧(lo≠hi→arr.size≤lo)∧n≤arr.size∧∀ k,k<n→arr.getD k Go.undef=.int .u8 255)∧Below w.heap.size w w'
theorem Z7 {n:Nat} (h1:1≤n) (hn:n≤1000000) (w:World) {b:Nat} (hb:w.heap[b]?=some (.cells #[.int .u8 255] 5)) :
  Calls Tryz.prog 80 #[.slice (some ⟨b,0,none⟩) 1 1,.int .i64 (n:Int)] w fun e w'=>∃ c,e=.returned (.slice (some ⟨c,0,none⟩) n n)∧To w w' c n :=
 (Go.Am.QdR.Qw h1 hn w hb).mono fun e w' ⟨c,arr,T,lo,hi,h1,h2,h3,h4,h5,h6,h7⟩=>⟨c,h1,h2,⟨arr,T,lo,hi,h3,h4,h5,h6⟩,h7⟩
theorem Tp (k:Nat) (h1:1≤k) (hk:k≤64) (w:World):(Instr.makeSlice 59 (.int .i64 (k:Int)) (.int .i64 (k:Int))).run Tryz.prog w=.ok (.slice (some ⟨w.heap.size,0,none⟩) k k) (w.alloc (.cells ((Array.range k).map fun _=>.int .i64 0) 3)):=by
 have ht:Tryz.prog.underlying 59=some (.slice 3):=by kernel_rfl
 obtain⟨i,hi,hz,hs,hb⟩ : ∃ i,Tryz.prog.info? 3=some i∧i.zero=some (.int .i64 0)∧i.size=1∧i.bytes=8:=by
  have h:(Tryz.prog.info? 3).map (fun i=>(i.zero,i.size,i.bytes))=some (some (.int .i64 0),1,8):=by kernel_rfl
  rw[Option.map_eq_some_iff]at h;obtain⟨i,h1,h2⟩:=h;simp only[Prod.mk.injEq]at h2;exact⟨i,h1,h2.1,h2.2.1,h2.2.2⟩
 have w2:IntKind.i64.wrap (k:Int)=k:=by rw[IntKind.wrap_i64];omega
 have hbig':¬ (281474976710656<(8:Int)*(k:Int)):=by omega
 have c0:¬ (k:Int)<0:=by omega
 have k0:¬ k=0:=by omega
 simp[Instr.makeSlice,run_underlying ht,typeInfo,hi,asInt,asIntOf,w2,hb,hbig',c0,Go.sizeOf,k0,newRow,zeroValue,hz,hs,Value.cells,Nat.mod_one]
theorem at1 (w:World) (o:Obj):(w.alloc o).drew.heap[w.heap.size]?=some o:=heap_alloc_new w o
theorem at2 (w:World) (o p:Obj):((w.alloc o).alloc p).drew.heap[w.heap.size]?=some o:=by
 show((w.heap.push o).push p)[w.heap.size]?=some o;rw[Array.getElem?_push_lt (by simp)];simp
theorem at3 (w:World) (o p:Obj):((w.alloc o).alloc p).drew.heap[w.heap.size+1]?=some p:=by
 show((w.heap.push o).push p)[w.heap.size+1]?=some p;have:w.heap.size+1=(w.heap.push o).size:=by simp
 rw[this,Array.getElem?_push_size]
theorem WO {n:Nat} (h1:1≤n) (hn:n≤1000000) (w:World) {b:Nat} {m:Int} (hm:m=(n:Int)) (hb:w.heap[b]?=some (.cells #[.int .u8 255] 5)) :
  Calls Tryz.prog 80 #[.slice (some ⟨b,0,none⟩) 1 1,.int .i64 m] w fun e w'=>∃ c,e=.returned (.slice (some ⟨c,0,none⟩) n n)∧To w w' c n:=by
 rw[hm];exact Z7 h1 hn w hb
def Qy (k:Nat):Obj:=.cells ((Array.range k).map fun _=>.int .i64 0) 3
def Tq (c1 n s c2 k:Nat):Obj:=.cells #[.slice (some ⟨c1,0,none⟩) n n,.int .i64 s,.slice (some ⟨c2,0,none⟩) k k,.int .i64 0,.int .i64 (-1),.bool false] 117
def WQ (w w':World) (k s n c3:Nat):Prop:=∃ c1 c2,w.heap.size≤c1∧w.heap.size≤c2∧w.heap.size≤c3∧c1≠c2∧c1≠c3∧c2≠c3 ∧
 (∃ arr T lo hi,w'.heap[c1]?=some (.cells arr T (lo,hi))∧(lo≠hi→arr.size≤lo)∧n≤arr.size∧∀ k,k<n→arr.getD k Go.undef=.int .u8 255) ∧
 w'.heap[c2]?=some (Qy k)∧w'.heap[c3]?=some (Tq c1 n s c2 k)∧Below w.heap.size w w'
theorem new1 {w w1:World} {k s n c1:Nat} {A:Obj} (h:To (w.alloc A).drew w1 c1 n):WQ w ((w1.alloc (Qy k)).alloc (Tq c1 n s w1.heap.size k)) k s n (w1.heap.size+1):=by
 obtain⟨h1,⟨arr,T,lo,hi,h2,h3⟩,h4⟩:=h;have hlt:c1<w1.heap.size:=(Array.getElem?_eq_some_iff.1 h2).1;have hsz:(w.alloc A).drew.heap.size=w.heap.size+1:=by show(w.heap.push A).size=_;simp
 have hs:=h4.size;rw[hsz]at h1 hs h4;have hb:Below w.heap.size w w1:=(((Below.refl w.heap.size w).alloc (Nat.le_refl _) A).drew).trans (h4.mono (by omega));refine⟨c1,w1.heap.size,by omega,by omega,by omega,by omega,by omega,by omega,⟨arr,T,lo,hi,?_,h3⟩,at2 w1 _ _,at3 w1 _ _,(hb.alloc (by omega) _).alloc (by show _≤(w1.heap.push _).size;simp;omega) _⟩;show((w1.heap.push _).push _)[c1]?=_;rw[Array.getElem?_push_lt (by simp;omega),Array.getElem_push_lt hlt];rw[←h2,Array.getElem?_eq_getElem hlt]
theorem new2 {w w1:World} {k s n c1 c2:Nat} {A B:Obj} (h:To ((w.alloc A).alloc B).drew w1 c1 n) (hc:c2=w.heap.size∧A=Qy k∨c2=w.heap.size+1∧B=Qy k):WQ w (w1.alloc (Tq c1 n s c2 k)) k s n w1.heap.size:=by
 obtain⟨h1,⟨arr,T,lo,hi,h2,h3⟩,h4⟩:=h;have hlt:c1<w1.heap.size:=(Array.getElem?_eq_some_iff.1 h2).1;have hsz:((w.alloc A).alloc B).drew.heap.size=w.heap.size+2:=by show((w.heap.push A).push B).size=_;simp
 have hs:=h4.size;have hz:w1.heap[c2]?=some (Qy k):=by
  rcases hc with⟨rfl,rfl⟩ | ⟨rfl,rfl⟩
  ·rw[h4.block _ (by rw[hsz];omega)];exact at2 w _ _
  ·rw[h4.block _ (by rw[hsz];omega)];exact at3 w _ _
 have hc2:w.heap.size≤c2∧c2<w.heap.size+2:=by rcases hc with⟨rfl,_⟩ | ⟨rfl,_⟩<;>omega
 rw[hsz]at h1 hs h4;have hb:Below w.heap.size w w1:=((((Below.refl w.heap.size w).alloc (Nat.le_refl _) A).alloc (by show _≤(w.heap.push _).size;simp) B).drew).trans (h4.mono (by omega));have old:∀ c,c<w1.heap.size→(w1.alloc (Tq c1 n s c2 k)).heap[c]?=w1.heap[c]?:=fun c hc=>by
  show(w1.heap.push _)[c]?=_;rw[Array.getElem?_push_lt hc,Array.getElem?_eq_getElem hc]
 exact⟨c1,c2,by omega,hc2.1,by omega,by omega,by omega,by omega,⟨arr,T,lo,hi,by rw[old _ hlt];exact h2,h3⟩,by rw[old _ (by omega)];exact hz,heap_alloc_new w1 _,hb.alloc (by omega) _⟩
set_option maxHeartbeats 600000 in
theorem Qz (k s n:Nat) (hk1:1≤k) (hk2:k≤64) (hs1:16≤s) (hs2:s≤4096) (hn1:1≤n) (hn2:n≤1000000) (hn:(k:Int)*(s:Int)=(n:Int)) (a z:Int) (ha:min (max a 1) 64=(k:Int)) (hz:min (max z 16) 4096=(s:Int)) (w:World) :
  Calls Tryz.prog 48 #[.int .i64 a,.int .i64 z] w fun e w'=>∃ c3,e=.returned (.pointer (some ⟨c3,0,none⟩))∧WQ w w' k s n c3:=by
 go_enter Tryz.func48,Tryz.ntmps48
 go_wp2
 have hmk:=Tp k hk1 hk2
 go_region_with (go_at_call 80;refine Calls.mono (WO hn1 hn2 _ (by rw[IntKind.wrap_i64];omega) (by first | exact at1 _ _ | exact at2 _ _ _ | exact at3 _ _ _)) ?_;rintro e w1 ⟨c1,rfl,b1⟩)
 all_goals go_wp2
 all_goals go_ret
 ·exact⟨_,rfl,new1 b1⟩
 ·exact⟨_,rfl,new2 b1 (.inr ⟨rfl,rfl⟩)⟩
 ·exact⟨_,rfl,new2 b1 (.inl ⟨rfl,rfl⟩)⟩
theorem WR (a:Int):min (max a 1) 64=((gX 1 64 a).toNat:Int)∧1≤(gX 1 64 a).toNat∧(gX 1 64 a).toNat≤64:=by
 unfold gX;split<;>split at*<;> omega
theorem WS (a:Int):min (max a 16) 4096=((gX 16 4096 a).toNat:Int)∧16≤(gX 16 4096 a).toNat∧(gX 16 4096 a).toNat≤4096:=by
 unfold gX;split<;>split at*<;> omega
theorem FR {N0:Nat} {g g':G} {w w':World} {h:Hp} (hn:g.n=size h) (hx:Ext N0 g w g' w') (ht:g'.tk=g.tk) {c:Nat} (hι:g'.ι (size h)=c) {m:Nat} {S:List Nat} (h0:∀ b x,bX h b=some x→blk g b x<m∨blk g b x∈S) {cs:List PV} :
  ∀ b x,bX (ext h [.cells cs]) b=some x→blk g' b x<m∨blk g' b x∈c::S:=by
 intro b y hy;have hlt:=bw hy;rw[aW]at hlt
 by_cases h1:b=size h
 ·subst h1
  rw[cJ rfl]at hy;cases hy;exact .inr (by show g'.ι (size h)∈_;rw[hι];exact List.mem_cons_self)
 ·rw[dP (by simp at hlt;omega)]at hy
  have hb:b<size h:=bw hy;have hblk:blk g' b y=blk g b y:=by
   have:=hx.ι b (by omega);cases y<;>simp only[blk,this,ht]
  rw[hblk];rcases h0 b y hy with h2 | h2
  ·exact .inl h2
  ·exact .inr (List.mem_cons_of_mem _ h2)
theorem Z8:me Tryz.prog qI 48 Nc:=by
 intro vs h r hr N0 w0 g us w hI k hlen hrel;unfold Nc at hr;split at hr
 ·rename_i a z
  simp only[Option.some.injEq]at hr;subst hr;obtain⟨ha,ka1,ka2⟩:=WR a;obtain⟨hz,kz1,kz2⟩:=WS z;generalize (gX 1 64 a).toNat=K at *;generalize (gX 16 4096 z).toNat=S at *;have hks:1≤K*S∧K*S≤1000000:=by
   have h3:K*S≤64*4096:=Nat.mul_le_mul ka2 kz2;have h4:1*16≤K*S:=Nat.mul_le_mul ka1 kz1;omega
  have hus:us=#[.int .i64 a,.int .i64 z]:=by
   have h0:=hrel 0 _ rfl;have h1:=hrel 1 _ rfl;have hl:us.size=2:=by simpa using hlen
   obtain⟨x,y,rfl⟩ : ∃ x y,us=#[x,y]:=by
    clear h0 h1 hrel
    match us,hl with
    | ⟨[x,y]⟩,_=>exact⟨x,y,rfl⟩
   simp at h0 h1;cases h0;cases h1;rfl
  subst hus;refine .inl ⟨(Am.enters_of Tryz.func48 (by kernel_rfl) rfl) _ _,?_⟩;refine(Qz K S (K*S) ka1 ka2 kz1 kz2 hks.1 hks.2 (by simp) a z ha hz w).mono fun e w' hw=>?_
  obtain⟨c3,rfl,c1,c2,g1,g2,g3,n1,n2,n3,⟨arr,T,lo,hi,b1,b2,b3,b4⟩,z1,s1,hb⟩:=hw;obtain⟨hx,hok⟩:=sq k hb;have hN:=iB k;have hold:∀ b x,bX h b=some x→blk g b x<w.heap.size:=fun b x hbx=>(lC (a:=⟨#[],[]⟩) k hbx).2
  have hnone:∀ c,w.heap.size≤c→g.hw c=none:=fun c hc=>by
   cases hq:g.hw c with
   | none=>rfl
   | some m=>have:=(k.arr c m hq).2;omega
  have hrep:∀ (m:Nat) (v:PV) (j:Nat) (x:PV),(List.replicate m v)[j]?=some x→j<m∧x=v:=fun m v j x hx=>by
   rw[List.getElem?_replicate]at hx;split at hx
   ·rename_i hj;exact⟨hj,(Option.some.inj hx).symm⟩
   ·cases hx
  have nb:∀ (m:Nat) (k:IntKind) (c:Int) (T':Nat) (Q:Prop),(List.replicate m (PV.int k c))[0]?=some (.eG T')→Q:=fun m k c T' Q hT=>by have:=(hrep _ _ _ _ hT).2;cases this
  have ints:∀ (g':G) (w':World) (m:Nat) (k:IntKind) (c:Int) (arr:Array Value),(∀ j,j<m→arr.getD j Go.undef=.int k c)→∀ (j:Nat) (x:PV),(List.replicate m (PV.int k c))[j]?=some x→RV N0 g' w' x (arr.getD j Go.undef):=fun g' w' m k c arr ha j x hx=>by
   obtain⟨hj,rfl⟩:=hrep _ _ _ _ hx;rw[ha j hj];exact .int _ _
  have B0:∀ b x,bX h b=some x→blk g b x<w.heap.size∨blk g b x∈([] : List Nat):=fun b x hbx=>.inl (hold b x hbx)
  have far:∀ {S:List Nat} {c:Nat} {g:G} {h:Hp},(∀ b x,bX h b=some x→blk g b x<w.heap.size∨blk g b x∈S)→w.heap.size≤c→c ∉ S→∀ b x,bX h b=some x→x≠.dead→blk g b x≠c:=fun hB hc hS b x hbx _ hq=>by
   rcases hB b x hbx with h1 | h1
   ·omega
   ·exact hS (hq▸h1)
  obtain⟨ga,xa,ka,na,ia,pa,wa,ta⟩:=pU (a:=⟨#[],[]⟩) hok (c:=c1) (cs:=List.replicate (K*S) (.int .u8 255)) (cpv:=K*S) (far B0 g1 (by simp)) (fun g' hx' hι hhw hcp =>
   ⟨by rw[hι];omega,by rw[hι,hhw];exact hnone c1 g1,arr,T,lo,hi,by rw[hι];exact b1,b2,⟨by rw[hcp];simp,by rw[hcp];exact b3⟩,fun T' hT=>nb _ _ _ _ _ hT,ints _ _ _ _ _ _ b4⟩)
  have B1:=FR (cs:=List.replicate (K*S) (.int .u8 255)) hok.n xa ta ia B0;obtain⟨gb,xb,kb,nb,ib,pb,wb,tb⟩:=pU (a:=⟨#[],[]⟩) ka (c:=c2) (cs:=List.replicate K (.int .i64 0)) (cpv:=K) (far B1 g2 (by simp;omega)) (fun g' hx' hι hhw hcp =>
   ⟨by rw[hι];omega,by rw[hι,hhw,wa];exact hnone c2 g2,_,_,_,_,by rw[hι];exact z1,by simp,⟨by rw[hcp];simp,by rw[hcp];simp⟩,fun T' hT=>nb _ _ _ _ _ hT,ints _ _ _ _ _ _ fun j hj=>by rw[Array.getD_eq_getD_getElem?,Array.getElem?_map,Array.getElem?_range,if_pos hj];rfl⟩)
  have B2:=FR (cs:=List.replicate K (.int .i64 0)) ka.n xb tb ib B1;have hs1:size (ext h [.cells (List.replicate (K*S) (.int .u8 255))])=size h+1:=by rw[aW];rfl
  rw[hs1]at ib pb nb;obtain⟨gc,xc,kc,nc,ic,pc,wc,tc⟩:=pU (a:=⟨#[],[]⟩) kb (c:=c3) (cs:=ri (size h+1) (size h) (K*S) S K) (cpv:=6) (far B2 g3 (by simp;omega)) (fun g' hx' hι hhw hcp=>by
   have e1:g'.ι (size h)=c1:=by rw[hx'.ι _ (by omega),xb.ι _ (by omega),ia]
   have e2:g'.ι (size h+1)=c2:=by rw[hx'.ι _ (by omega),ib]
   have e3:g'.cp (size h)=K*S:=by rw[hx'.cp _ (by omega),xb.cp _ (by omega),pa]
   have e4:g'.cp (size h+1)=K:=by rw[hx'.cp _ (by omega),pb]
   have hlt:size h+2≤g'.n:=by have:=hx'.n;omega
   have v1:RV N0 g' w' (.bW true (size h) 0 (K*S) 1) (.slice (some ⟨c1,0,none⟩) (K*S) (K*S)):=by
    rw[←e1];exact RV.bW _ _ _ _ _ _ (by omega) (Nat.le_refl _) (fun _=>rfl) (by rw[e3];omega)
   have v2:RV N0 g' w' (.bW true (size h+1) 0 K 1) (.slice (some ⟨c2,0,none⟩) K K):=by
    rw[←e2];exact RV.bW _ _ _ _ _ _ (by omega) (Nat.le_refl _) (fun _=>rfl) (by rw[e4];omega)
   refine⟨by rw[hι];omega,by rw[hι,hhw,wb,wa];exact hnone c3 g3,_,_,_,_,by rw[hι];exact s1,by simp,⟨by rw[hcp];simp[ri],by rw[hcp];simp⟩,fun T' hT=>by simp[ri]at hT,fun j x hx=>?_⟩
   match j,hx with
   | 0,hx=>cases hx;exact v1
   | 1,hx=>cases hx;exact .int _ _
   | 2,hx=>cases hx;exact v2
   | 3,hx=>cases hx;exact .int _ _
   | 4,hx=>cases hx;exact .int _ _
   | 5,hx=>cases hx;exact .bool _
   | j+6,hx=>simp[ri]at hx)
  have hs2:size (ext (ext h [.cells (List.replicate (K*S) (.int .u8 255))]) [.cells (List.replicate K (.int .i64 0))])=size h+2:=by rw[aW,hs1];rfl
  rw[hs2]at ic nc;refine⟨_,gc,rfl,((hx.trans xa).trans xb).trans xc,?_,?_⟩
  ·rw[fz,fz]at kc;exact kc
  ·have:=RV.ptr (N0:=N0) (g:=gc) (w:=w') (size h+2) 0 (by omega)
   rw[ic]at this;exact this
 ·cases hr
end Go.Proofs.YtmmjmkjoflfpmaaGreatDoor
namespace Go.Proofs
open Go.Shelf Go.RowKit
def Tryz.FT:Go.Shelf.Ren:=⟨fun | 162=>114 | 232=>131 | 227=>132 | 234=>133 | 236=>134 | 228=>145 | 271=>146 | 151=>147 | 120=>151 | 197=>152 | 152=>153 | 260=>157 | 137=>158 | 119=>159 | 224=>160 | 225=>161 | 217=>173 | 266=>180 | n=>n,fun | 9=>9 | 4=>4 | 3=>3 | 5=>5 | 117=>178 | 116=>177 | 0=>0 | 124=>181 | 21=>21 | 105=>192 | 46=>132 | 119=>214 | 139=>217 | 138=>216 | n=>n,fun | 3=>3 | 4=>4 | n=>n⟩
theorem Tryz.Tr:Go.Proofs.Lays.n162 Tryz.prog Tryz.FT:={
 mixed:=by kernel_rfl
 f119:=Tryz.func159.trans (congrArg some (by kernel_rfl))
 f120:=Tryz.func151.trans (congrArg some (by kernel_rfl))
 f137:=Tryz.func158.trans (congrArg some (by kernel_rfl))
 f151:=Tryz.func147.trans (congrArg some (by kernel_rfl))
 f152:=Tryz.func153.trans (congrArg some (by kernel_rfl))
 f162:=Tryz.func114.trans (congrArg some (by kernel_rfl))
 f197:=Tryz.func152.trans (congrArg some (by kernel_rfl))
 f217:=Tryz.func173.trans (congrArg some (by kernel_rfl))
 f224:=Tryz.func160.trans (congrArg some (by kernel_rfl))
 f225:=Tryz.func161.trans (congrArg some (by kernel_rfl))
 f227:=Tryz.func132.trans (congrArg some (by kernel_rfl))
 f228:=Tryz.func145.trans (congrArg some (by kernel_rfl))
 f232:=Tryz.func131.trans (congrArg some (by kernel_rfl))
 f234:=Tryz.func133.trans (congrArg some (by kernel_rfl))
 f236:=Tryz.func134.trans (congrArg some (by kernel_rfl))
 f260:=Tryz.func157.trans (congrArg some (by kernel_rfl))
 f266:=Tryz.func180.trans (congrArg some (by kernel_rfl))
 f271:=Tryz.func146.trans (congrArg some (by kernel_rfl))
 t0:=Tryz.underlying0
 a0:=Tryz.isAgg0
 z0:=Tryz.sizeOf0
 v0:=Tryz.zeroValue0
 t3:=Tryz.underlying3
 a3:=Tryz.isAgg3
 z3:=Tryz.sizeOf3
 v3:=Tryz.zeroValue3
 t4:=Tryz.underlying4
 a4:=Tryz.isAgg4
 z4:=Tryz.sizeOf4
 v4:=Tryz.zeroValue4
 t5:=Tryz.underlying5
 a5:=Tryz.isAgg5
 z5:=Tryz.sizeOf5
 v5:=Tryz.zeroValue5
 t9:=Tryz.underlying9
 a9:=Tryz.isAgg9
 z9:=Tryz.sizeOf9
 v9:=Tryz.zeroValue9
 t21:=Tryz.underlying21
 a21:=Tryz.isAgg21
 z21:=Tryz.sizeOf21
 v21:=Tryz.zeroValue21
 t46:=Tryz.underlying132
 a46:=Tryz.isAgg132
 z46:=Tryz.sizeOf132
 v46:=Tryz.zeroValue132
 t105:=Tryz.underlying192
 a105:=Tryz.isAgg192
 z105:=Tryz.sizeOf192
 v105:=Tryz.zeroValue192
 t116:=Tryz.underlying177
 a116:=Tryz.isAgg177
 z116:=Tryz.sizeOf177
 t117:=Tryz.underlying178
 a117:=Tryz.isAgg178
 z117:=Tryz.sizeOf178
 v117:=Tryz.zeroValue178
 t119:=Tryz.underlying214
 a119:=Tryz.isAgg214
 z119:=Tryz.sizeOf214
 t124:=Tryz.underlying181
 a124:=Tryz.isAgg181
 z124:=Tryz.sizeOf181
 v124:=Tryz.zeroValue181
 t138:=Tryz.underlying216
 a138:=Tryz.isAgg216
 z138:=Tryz.sizeOf216
 v138:=Tryz.zeroValue216
 t139:=Tryz.underlying217
 a139:=Tryz.isAgg217
 z139:=Tryz.sizeOf217
 v139:=Tryz.zeroValue217
 g3:=by kernel_rfl
 g4:=by kernel_rfl }
open Go.RowKit in
theorem Tryz.strings_TrimRight_one (s:ByteArray) (c:UInt8) (hc:c.toNat<128) (w:World) (hs:s.size≤9223372036854775807) :
  Calls Tryz.prog 114 #[.string s,.string ⟨#[c]⟩] w fun e w'=>e=.returned (.string ⟨(Lib.trimRightB s.data.toList c).toArray⟩)∧w'=w:=Any.strings_TrimRight_one Tryz.Tr s c hc w hs
end Go.Proofs
namespace Go.Proofs.YtmmjmkjoflfpmaaGreatDoor
open Go Go.Proofs Go.Am
theorem FU:nJ Tryz.prog qI 114 (fun vs h=>(iK vs).map fun r=>(r,none)) :=
 zN (Am.enters_of Tryz.func114 (by kernel_rfl) rfl) Tryz.strings_TrimRight_one
end Go.Proofs.YtmmjmkjoflfpmaaGreatDoor
namespace Go.Am.Qd
open Go.Proofs
theorem C_3:(bQ Tryz.prog gl { fix:=[(9,11)] } Tryz.f3).map (bP A3)=some F3:=by kernel_rfl
theorem C_8:(bQ Tryz.prog gl { deep:=10,boxes:=[(2,4),(2,5),(5,0),(5,1)],fix:=[(6,5)] } Tryz.f8).map (bP A8)=some F8:=by kernel_rfl
theorem C_9:(bQ Tryz.prog gl { keep:=true } Tryz.f9).map (bP A9)=some F9:=by kernel_rfl
theorem agh:(bQ Tryz.prog gl { fix:=[(2,5)] } Tryz.f10).map (bP A10)=some F10:=by kernel_rfl
theorem agi:(bQ Tryz.prog gl { own:=true } Tryz.f11).map (bP A11)=some F11:=by kernel_rfl
theorem agj:(bQ Tryz.prog gl { keep:=true } Tryz.f12).map (bP A12)=some F12:=by kernel_rfl
theorem agk:(bQ Tryz.prog gl { keep:=true } Tryz.f13).map (bP A13)=some F13:=by kernel_rfl
theorem agl:(bQ Tryz.prog gl {} Tryz.f14).map (bP A14)=some F14:=by kernel_rfl
theorem agm:(bQ Tryz.prog gl { keep:=true } Tryz.f15).map (bP A15)=some F15:=by kernel_rfl
theorem agn:(bQ Tryz.prog gl { keep:=true } Tryz.f16).map (bP A16)=some F16:=by kernel_rfl
theorem ago:(bQ Tryz.prog gl { keep:=true } Tryz.f17).map (bP A17)=some F17:=by kernel_rfl
theorem agp:(bQ Tryz.prog gl { keep:=true } Tryz.f18).map (bP A18)=some F18:=by kernel_rfl
theorem agq:(bQ Tryz.prog gl {} Tryz.f19).map (bP A19)=some F19:=by kernel_rfl
theorem agr:(bQ Tryz.prog gl {} Tryz.f20).map (bP A20)=some F20:=by kernel_rfl
theorem ags:(bQ Tryz.prog gl {} Tryz.f21).map (bP A21)=some F21:=by kernel_rfl
theorem agt:(bQ Tryz.prog gl {} Tryz.f24).map (bP A24)=some F24:=by kernel_rfl
theorem agu:(bQ Tryz.prog gl {} Tryz.f26).map (bP A26)=some F26:=by kernel_rfl
theorem agv:(bQ Tryz.prog gl {} Tryz.f28).map (bP A28)=some F28:=by kernel_rfl
theorem agw:(bQ Tryz.prog gl {} Tryz.f36).map (bP A36)=some F36:=by kernel_rfl
theorem agx:(bQ Tryz.prog gl {} Tryz.f39).map (bP A39)=some F39:=by kernel_rfl
theorem agy:(bQ Tryz.prog gl {} Tryz.f41).map (bP A41)=some F41:=by kernel_rfl
theorem agz:(bQ Tryz.prog gl {} Tryz.f43).map (bP A43)=some F43:=by kernel_rfl
theorem agA:(bQ Tryz.prog gl {} Tryz.f44).map (bP A44)=some F44:=by kernel_rfl
theorem agB:(bQ Tryz.prog gl {} Tryz.f45).map (bP A45)=some Zf:=by kernel_rfl
theorem agC:(bQ Tryz.prog gl {} Tryz.f46).map (bP A46)=some F46:=by kernel_rfl
theorem agD:(bQ Tryz.prog gl {} Tryz.f47).map (bP A47)=some Zg:=by kernel_rfl
theorem agE:(bQ Tryz.prog gl { keep:=true } Tryz.f49).map (bP A49)=some F49:=by kernel_rfl
theorem agF:(bQ Tryz.prog gl { gp:=[(8,6),(9,2),(13,6)],boxes:=[(3,0),(3,1)],low:=[(3,1)] } Tryz.f50).map (bP A50)=some VV:=by kernel_rfl
theorem agG:(bQ Tryz.prog gl {} Tryz.f51).map (bP A51)=some Dy:=by kernel_rfl
theorem agH:(bQ Tryz.prog gl { gp:=[(8,9)],own:=true } Tryz.f52).map (bP A52)=some VW:=by kernel_rfl
theorem agI:(bQ Tryz.prog gl {} Tryz.f53).map (bP A53)=some F53:=by kernel_rfl
theorem agJ:(bQ Tryz.prog gl {} Tryz.f54).map (bP A54)=some F54:=by kernel_rfl
theorem agK:(bQ Tryz.prog gl {} Tryz.f55).map (bP A55)=some Zh:=by kernel_rfl
theorem agL:(bQ Tryz.prog gl { keep:=true } Tryz.f56).map (bP A56)=some F56:=by kernel_rfl
theorem agM:(bQ Tryz.prog gl {} Tryz.f57).map (bP A57)=some F57:=by kernel_rfl
theorem agN:(bQ Tryz.prog gl { keep:=true } Tryz.f58).map (bP A58)=some F58:=by kernel_rfl
theorem agO:(bQ Tryz.prog gl {} Tryz.f59).map (bP A59)=some F59:=by kernel_rfl
theorem agP:(bQ Tryz.prog gl { boxes:=[(3,1),(3,2)] } Tryz.f60).map (bP A60)=some F60:=by kernel_rfl
theorem atv:(bQ Tryz.prog gl {} Tryz.f61).map (bP A61)=some F61:=by kernel_rfl
theorem agQ:(bQ Tryz.prog gl { keep:=true } Tryz.f62).map (bP A62)=some F62:=by kernel_rfl
theorem agR:(bQ Tryz.prog gl { keep:=true } Tryz.f63).map (bP A63)=some F63:=by kernel_rfl
theorem agS:(bQ Tryz.prog gl { keep:=true } Tryz.f64).map (bP A64)=some F64:=by kernel_rfl
theorem agT:(bQ Tryz.prog gl { keep:=true } Tryz.f65).map (bP A65)=some F65:=by kernel_rfl
theorem agU:(bQ Tryz.prog gl {} Tryz.f66).map (bP A66)=some F66:=by kernel_rfl
theorem agV:(bQ Tryz.prog gl {} Tryz.f67).map (bP A67)=some F67:=by kernel_rfl
theorem atw:(bQ Tryz.prog gl {} Tryz.f69).map (bP A69)=some F69:=by kernel_rfl
theorem agW:(bQ Tryz.prog gl {} Tryz.f70).map (bP A70)=some F70:=by kernel_rfl
theorem agX:(bQ Tryz.prog gl {} Tryz.f71).map (bP A71)=some F71:=by kernel_rfl
theorem atz:(bQ Tryz.prog gl {} Tryz.f72).map (bP A72)=some F72:=by kernel_rfl
theorem agY:(bQ Tryz.prog gl { boxes:=[(3,2)],own:=true } Tryz.f73).map (bP A73)=some F73:=by kernel_rfl
theorem agZ:(bQ Tryz.prog gl { gp:=[(5,6)],own:=true } Tryz.f76).map (bP A76)=some Zj:=by kernel_rfl
theorem ag0:(bQ Tryz.prog gl {} Tryz.f79).map (bP A79)=some F79:=by kernel_rfl
theorem ag1:(bQ Tryz.prog gl {} Tryz.f81).map (bP A81)=some F81:=by kernel_rfl
theorem ag2:(bQ Tryz.prog gl {} Tryz.f82).map (bP A82)=some F82:=by kernel_rfl
theorem ag3:(bQ Tryz.prog gl {} Tryz.f83).map (bP A83)=some F83:=by kernel_rfl
theorem ag4:(bQ Tryz.prog gl { gp:=[(5,5)],own:=true } Tryz.f84).map (bP A84)=some Zl:=by kernel_rfl
theorem ag5:(bQ Tryz.prog gl {} Tryz.f85).map (bP A85)=some F85:=by kernel_rfl
theorem ag6:(bQ Tryz.prog gl {} Tryz.f86).map (bP A86)=some F86:=by kernel_rfl
theorem ag7:(bQ Tryz.prog gl {} Tryz.f87).map (bP A87)=some F87:=by kernel_rfl
theorem ag8:(bQ Tryz.prog gl {} Tryz.f88).map (bP A88)=some Zm:=by kernel_rfl
theorem ag9:(bQ Tryz.prog gl {} Tryz.f89).map (bP A89)=some F89:=by kernel_rfl
theorem aha:(bQ Tryz.prog gl {} Tryz.f90).map (bP A90)=some Zn:=by kernel_rfl
theorem ahb:(bQ Tryz.prog gl {} Tryz.f91).map (bP A91)=some F91:=by kernel_rfl
theorem ahc:(bQ Tryz.prog gl {} Tryz.f92).map (bP A92)=some F92:=by kernel_rfl
theorem ahd:(bQ Tryz.prog gl {} Tryz.f93).map (bP A93)=some Zo:=by kernel_rfl
theorem ahe:(bQ Tryz.prog gl {} Tryz.f94).map (bP A94)=some F94:=by kernel_rfl
theorem atA:(bQ Tryz.prog gl { keep:=true } Tryz.f95).map (bP A95)=some F95:=by kernel_rfl
theorem atB:(bQ Tryz.prog gl {} Tryz.f96).map (bP A96)=some F96:=by kernel_rfl
theorem ahf:(bQ Tryz.prog gl { keep:=true,quiet:=[(8,3),(9,3)] } Tryz.f97).map (bP A97)=some F97:=by kernel_rfl
theorem ahg:(bQ Tryz.prog gl {} Tryz.f98).map (bP A98)=some F98:=by kernel_rfl
theorem ahh:(bQ Tryz.prog gl { keep:=true } Tryz.f99).map (bP A99)=some F99:=by kernel_rfl
theorem Z9:(bQ Tryz.prog gl { keep:=true } Tryz.f100).map (bP VX)=some Zp:=by kernel_rfl
theorem aaa:(bQ Tryz.prog gl { own:=true } Tryz.f101).map (bP VY)=some VZ:=by kernel_rfl
theorem aab:(bQ Tryz.prog gl {} Tryz.f104).map (bP V0)=some Zq:=by kernel_rfl
theorem aac:(bQ Tryz.prog gl {} Tryz.f105).map (bP V1)=some Zr:=by kernel_rfl
theorem aad:(bQ Tryz.prog gl {} Tryz.f106).map (bP V2)=some Zt:=by kernel_rfl
theorem aae:(bQ Tryz.prog gl {} Tryz.f107).map (bP V3)=some V4:=by kernel_rfl
theorem aaf:(bQ Tryz.prog gl {} Tryz.f108).map (bP V5)=some Zu:=by kernel_rfl
theorem aag:(bQ Tryz.prog gl {} Tryz.f111).map (bP V6)=some Jz:=by kernel_rfl
theorem aah:(bQ Tryz.prog gl {} Tryz.f112).map (bP V7)=some JA:=by kernel_rfl
theorem aai:(bQ Tryz.prog gl {} Tryz.f113).map (bP V8)=some V9:=by kernel_rfl
theorem aaj:(bQ Tryz.prog gl {} Tryz.f115).map (bP Wa)=some P9:=by kernel_rfl
theorem aak:(bQ Tryz.prog gl {} Tryz.f116).map (bP Wb)=some Zv:=by kernel_rfl
theorem aal:(bQ Tryz.prog gl { keep:=true } Tryz.f118).map (bP Wc)=some Zw:=by kernel_rfl
theorem aam:(bQ Tryz.prog gl {} Tryz.f119).map (bP Wd)=some Zx:=by kernel_rfl
theorem aan:(bQ Tryz.prog gl {} Tryz.f120).map (bP We)=some Zy:=by kernel_rfl
theorem aao:(bQ Tryz.prog gl {} Tryz.f122).map (bP Wf)=some Zz:=by kernel_rfl
theorem aap:(bQ Tryz.prog gl { gp:=[(5,7)] } Tryz.f123).map (bP Wg)=some ZA:=by kernel_rfl
theorem aaq:(bQ Tryz.prog gl {} Tryz.f124).map (bP Wh)=some ZB:=by kernel_rfl
theorem aar:(bQ Tryz.prog gl {} Tryz.f125).map (bP Wi)=some ZC:=by kernel_rfl
theorem aas:(bQ Tryz.prog gl {} Tryz.f128).map (bP Wj)=some Qa:=by kernel_rfl
theorem aat:(bQ Tryz.prog gl {} Tryz.f129).map (bP Wk)=some Wl:=by kernel_rfl
theorem aau:(bQ Tryz.prog gl {} Tryz.f130).map (bP Wm)=some Qb:=by kernel_rfl
theorem aav:(bQ Tryz.prog gl {} Tryz.f135).map (bP Wn)=some Wo:=by kernel_rfl
theorem aaw:(bQ Tryz.prog gl {} Tryz.f137).map (bP Wp)=some ZD:=by kernel_rfl
theorem aax:(bQ Tryz.prog gl {} Tryz.f138).map (bP Wq)=some ZE:=by kernel_rfl
theorem aay:(bQ Tryz.prog gl {} Tryz.f139).map (bP Ws)=some ZF:=by kernel_rfl
theorem aaz:(bQ Tryz.prog gl {} Tryz.f140).map (bP Wu)=some ZG:=by kernel_rfl
theorem aaA:(bQ Tryz.prog gl { keep:=true } Tryz.f142).map (bP Wv)=some ZH:=by kernel_rfl
theorem aaB:(bQ Tryz.prog gl {} Tryz.f143).map (bP Ww)=some Wx:=by kernel_rfl
theorem aaC:(bQ Tryz.prog gl {} Tryz.f144).map (bP Wy)=some Qc:=by kernel_rfl
theorem xX:mV Tryz.prog gl Go.Proofs.YtmmjmkjoflfpmaaGreatDoor.qI T:=by
 intro f it h;unfold T at h;split at h
 ·cases h;exact⟨A3,{ fix:=[(9,11)] },Tryz.f3,Tryz.func3,C_3⟩
 ·cases h;exact⟨A8,{ deep:=10,boxes:=[(2,4),(2,5),(5,0),(5,1)],fix:=[(6,5)] },Tryz.f8,Tryz.func8,C_8⟩
 ·cases h;exact⟨A9,{ keep:=true },Tryz.f9,Tryz.func9,C_9⟩
 ·cases h;exact⟨A10,{ fix:=[(2,5)] },Tryz.f10,Tryz.func10,agh⟩
 ·cases h;exact⟨A11,{ own:=true },Tryz.f11,Tryz.func11,agi⟩
 ·cases h;exact⟨A12,{ keep:=true },Tryz.f12,Tryz.func12,agj⟩
 ·cases h;exact⟨A13,{ keep:=true },Tryz.f13,Tryz.func13,agk⟩
 ·cases h;exact⟨A14,{},Tryz.f14,Tryz.func14,agl⟩
 ·cases h;exact⟨A15,{ keep:=true },Tryz.f15,Tryz.func15,agm⟩
 ·cases h;exact⟨A16,{ keep:=true },Tryz.f16,Tryz.func16,agn⟩
 ·cases h;exact⟨A17,{ keep:=true },Tryz.f17,Tryz.func17,ago⟩
 ·cases h;exact⟨A18,{ keep:=true },Tryz.f18,Tryz.func18,agp⟩
 ·cases h;exact⟨A19,{},Tryz.f19,Tryz.func19,agq⟩
 ·cases h;exact⟨A20,{},Tryz.f20,Tryz.func20,agr⟩
 ·cases h;exact⟨A21,{},Tryz.f21,Tryz.func21,ags⟩
 ·cases h;exact⟨A24,{},Tryz.f24,Tryz.func24,agt⟩
 ·cases h;exact⟨A26,{},Tryz.f26,Tryz.func26,agu⟩
 ·cases h;exact⟨A28,{},Tryz.f28,Tryz.func28,agv⟩
 ·cases h;exact⟨A36,{},Tryz.f36,Tryz.func36,agw⟩
 ·cases h;exact⟨A39,{},Tryz.f39,Tryz.func39,agx⟩
 ·cases h;exact⟨A41,{},Tryz.f41,Tryz.func41,agy⟩
 ·cases h;exact⟨A43,{},Tryz.f43,Tryz.func43,agz⟩
 ·cases h;exact⟨A44,{},Tryz.f44,Tryz.func44,agA⟩
 ·cases h;exact⟨A45,{},Tryz.f45,Tryz.func45,agB⟩
 ·cases h;exact⟨A46,{},Tryz.f46,Tryz.func46,agC⟩
 ·cases h;exact⟨A47,{},Tryz.f47,Tryz.func47,agD⟩
 ·cases h;exact Go.Proofs.YtmmjmkjoflfpmaaGreatDoor.Z8
 ·cases h;exact⟨A49,{ keep:=true },Tryz.f49,Tryz.func49,agE⟩
 ·cases h;exact⟨A50,{ gp:=[(8,6),(9,2),(13,6)],boxes:=[(3,0),(3,1)],low:=[(3,1)] },Tryz.f50,Tryz.func50,agF⟩
 ·cases h;exact⟨A51,{},Tryz.f51,Tryz.func51,agG⟩
 ·cases h;exact⟨A52,{ gp:=[(8,9)],own:=true },Tryz.f52,Tryz.func52,agH⟩
 ·cases h;exact⟨A53,{},Tryz.f53,Tryz.func53,agI⟩
 ·cases h;exact⟨A54,{},Tryz.f54,Tryz.func54,agJ⟩
 ·cases h;exact⟨A55,{},Tryz.f55,Tryz.func55,agK⟩
 ·cases h;exact⟨A56,{ keep:=true },Tryz.f56,Tryz.func56,agL⟩
 ·cases h;exact⟨A57,{},Tryz.f57,Tryz.func57,agM⟩
 ·cases h;exact⟨A58,{ keep:=true },Tryz.f58,Tryz.func58,agN⟩
 ·cases h;exact⟨A59,{},Tryz.f59,Tryz.func59,agO⟩
 ·cases h;exact⟨A60,{ boxes:=[(3,1),(3,2)] },Tryz.f60,Tryz.func60,agP⟩
 ·cases h;exact⟨A61,{},Tryz.f61,Tryz.func61,atv⟩
 ·cases h;exact⟨A62,{ keep:=true },Tryz.f62,Tryz.func62,agQ⟩
 ·cases h;exact⟨A63,{ keep:=true },Tryz.f63,Tryz.func63,agR⟩
 ·cases h;exact⟨A64,{ keep:=true },Tryz.f64,Tryz.func64,agS⟩
 ·cases h;exact⟨A65,{ keep:=true },Tryz.f65,Tryz.func65,agT⟩
 ·cases h;exact⟨A66,{},Tryz.f66,Tryz.func66,agU⟩
 ·cases h;exact⟨A67,{},Tryz.f67,Tryz.func67,agV⟩
 ·cases h;exact⟨A69,{},Tryz.f69,Tryz.func69,atw⟩
 ·cases h;exact⟨A70,{},Tryz.f70,Tryz.func70,agW⟩
 ·cases h;exact⟨A71,{},Tryz.f71,Tryz.func71,agX⟩
 ·cases h;exact⟨A72,{},Tryz.f72,Tryz.func72,atz⟩
 ·cases h;exact⟨A73,{ boxes:=[(3,2)],own:=true },Tryz.f73,Tryz.func73,agY⟩
 ·cases h;exact⟨A76,{ gp:=[(5,6)],own:=true },Tryz.f76,Tryz.func76,agZ⟩
 ·cases h;exact⟨A79,{},Tryz.f79,Tryz.func79,ag0⟩
 ·cases h;exact⟨A81,{},Tryz.f81,Tryz.func81,ag1⟩
 ·cases h;exact⟨A82,{},Tryz.f82,Tryz.func82,ag2⟩
 ·cases h;exact⟨A83,{},Tryz.f83,Tryz.func83,ag3⟩
 ·cases h;exact⟨A84,{ gp:=[(5,5)],own:=true },Tryz.f84,Tryz.func84,ag4⟩
 ·cases h;exact⟨A85,{},Tryz.f85,Tryz.func85,ag5⟩
 ·cases h;exact⟨A86,{},Tryz.f86,Tryz.func86,ag6⟩
 ·cases h;exact⟨A87,{},Tryz.f87,Tryz.func87,ag7⟩
 ·cases h;exact⟨A88,{},Tryz.f88,Tryz.func88,ag8⟩
 ·cases h;exact⟨A89,{},Tryz.f89,Tryz.func89,ag9⟩
 ·cases h;exact⟨A90,{},Tryz.f90,Tryz.func90,aha⟩
 ·cases h;exact⟨A91,{},Tryz.f91,Tryz.func91,ahb⟩
 ·cases h;exact⟨A92,{},Tryz.f92,Tryz.func92,ahc⟩
 ·cases h;exact⟨A93,{},Tryz.f93,Tryz.func93,ahd⟩
 ·cases h;exact⟨A94,{},Tryz.f94,Tryz.func94,ahe⟩
 ·cases h;exact⟨A95,{ keep:=true },Tryz.f95,Tryz.func95,atA⟩
 ·cases h;exact⟨A96,{},Tryz.f96,Tryz.func96,atB⟩
 ·cases h;exact⟨A97,{ keep:=true,quiet:=[(8,3),(9,3)] },Tryz.f97,Tryz.func97,ahf⟩
 ·cases h;exact⟨A98,{},Tryz.f98,Tryz.func98,ahg⟩
 ·cases h;exact⟨A99,{ keep:=true },Tryz.f99,Tryz.func99,ahh⟩
 ·cases h;exact⟨VX,{ keep:=true },Tryz.f100,Tryz.func100,Z9⟩
 ·cases h;exact⟨VY,{ own:=true },Tryz.f101,Tryz.func101,aaa⟩
 ·cases h;exact⟨V0,{},Tryz.f104,Tryz.func104,aab⟩
 ·cases h;exact⟨V1,{},Tryz.f105,Tryz.func105,aac⟩
 ·cases h;exact⟨V2,{},Tryz.f106,Tryz.func106,aad⟩
 ·cases h;exact⟨V3,{},Tryz.f107,Tryz.func107,aae⟩
 ·cases h;exact⟨V5,{},Tryz.f108,Tryz.func108,aaf⟩
 ·cases h;exact⟨V6,{},Tryz.f111,Tryz.func111,aag⟩
 ·cases h;exact⟨V7,{},Tryz.f112,Tryz.func112,aah⟩
 ·cases h;exact⟨V8,{},Tryz.f113,Tryz.func113,aai⟩
 ·cases h;exact Go.Proofs.YtmmjmkjoflfpmaaGreatDoor.FU
 ·cases h;exact⟨Wa,{},Tryz.f115,Tryz.func115,aaj⟩
 ·cases h;exact⟨Wb,{},Tryz.f116,Tryz.func116,aak⟩
 ·cases h;exact Go.Proofs.YtmmjmkjoflfpmaaGreatDoor.Tm
 ·cases h;exact⟨Wc,{ keep:=true },Tryz.f118,Tryz.func118,aal⟩
 ·cases h;exact⟨Wd,{},Tryz.f119,Tryz.func119,aam⟩
 ·cases h;exact⟨We,{},Tryz.f120,Tryz.func120,aan⟩
 ·cases h;exact Go.Proofs.YtmmjmkjoflfpmaaGreatDoor.WN
 ·cases h;exact⟨Wf,{},Tryz.f122,Tryz.func122,aao⟩
 ·cases h;exact⟨Wg,{ gp:=[(5,7)] },Tryz.f123,Tryz.func123,aap⟩
 ·cases h;exact⟨Wh,{},Tryz.f124,Tryz.func124,aaq⟩
 ·cases h;exact⟨Wi,{},Tryz.f125,Tryz.func125,aar⟩
 ·cases h;exact⟨Wj,{},Tryz.f128,Tryz.func128,aas⟩
 ·cases h;exact⟨Wk,{},Tryz.f129,Tryz.func129,aat⟩
 ·cases h;exact⟨Wm,{},Tryz.f130,Tryz.func130,aau⟩
 ·cases h;exact⟨Wn,{},Tryz.f135,Tryz.func135,aav⟩
 ·cases h;exact⟨Wp,{},Tryz.f137,Tryz.func137,aaw⟩
 ·cases h;exact⟨Wq,{},Tryz.f138,Tryz.func138,aax⟩
 ·cases h;exact⟨Ws,{},Tryz.f139,Tryz.func139,aay⟩
 ·cases h;exact⟨Wu,{},Tryz.f140,Tryz.func140,aaz⟩
 ·cases h;exact Go.Proofs.YtmmjmkjoflfpmaaGreatDoor.Qx
 ·cases h;exact⟨Wv,{ keep:=true },Tryz.f142,Tryz.func142,aaA⟩
 ·cases h;exact⟨Ww,{},Tryz.f143,Tryz.func143,aaB⟩
 ·cases h;exact⟨Wy,{},Tryz.f144,Tryz.func144,aaC⟩
 ·cases h
end Go.Am.Qd
namespace Go.Am.Qd
noncomputable def QA (base n0:Nat) (Af v9 v11 v2:PV) (h:Hp):Option (PV × Hp):=Pt T F3 [1,1,1,1,1,1,1,1,1,1,1,1,1] base n0 [(17,Af),(9,v9),(11,v11),(2,v2)] h
noncomputable def Ts (base n0:Nat) (Li Af v9 v11 v2:PV) (h:Hp):Option (PV × Hp):=Pt T F3 [1,1,1,1,1,1,1,1,1,1,1,1,1,0,1,0,1] base n0 [(18,Li),(17,Af),(9,v9),(11,v11),(2,v2)] h
theorem Lj (base n0:Nat) (Af v9 v11 v2:PV) (h:Hp):QA base n0 Af v9 v11 v2 h =
 Ts base n0 (.int .i64 0) Af v9 v11 v2 h:=(ej T F3 [1,1,1,1,1,1,1,1,1,1,1,1,1] base n0 [(17,Af),(9,v9),(11,v11),(2,v2)] h).trans (by kernel_rfl)
theorem Ll (base n0:Nat) (Li Af v9 v11 v2:PV) (h:Hp):Ts base n0 Li Af v9 v11 v2 h =
 (binOp .and v2 (.int .i64 3)).ah fun x2 =>
 (binOp .leq Li x2).ah fun x3 =>
 aD x3 (
 aG (ai T base 16 [v9] h) fun x5 h6 =>
 (unOp .not x5).ah fun x7 =>
 aD x7 (
 bg false false n0 [(.bool false)] h6) (
 (aF v9).ah fun iR =>
 (aA iR 6).ah fun iC =>
 (ax 1 false iC h6).ah fun gG =>
 aG (ai T base 17 [gG] h6) fun iT D5 =>
 (aE iT 0).ah fun oe =>
 (aE iT 1).ah fun pz =>
 (binOp .neq oe Af).ah fun nv =>
 (aq nv false).ah fun b25=>(au b25 (some pz) (some .undef)).ah fun s8 =>
 (aq nv false).ah fun WT=>(au WT ((binOp .neq s8 (.int .i64 0)).ah some) (some .undef)).ah fun Ag =>
 (aD nv (some (.bool true)) (some Ag)).ah fun Ah =>
 (aq Ah false).ah fun b35=>(au b35 (some v9) (some .undef)).ah fun tH =>
 (aq Ah false).ah fun b39=>(au b39 ((aF tH).ah some) (some .undef)).ah fun Ai =>
 (aq Ah false).ah fun b43=>(au b43 ((aA Ai 6).ah some) (some .undef)).ah fun NG =>
 (aq Ah false).ah fun b47=>(au b47 ((ax 1 false NG D5).ah some) (some .undef)).ah fun NH =>
 (aq Ah false).ah fun b51=>aG (au b51 (aG (ai T base 19 [NH] D5) fun JJ WU=>some (JJ,WU)) (some (.undef,D5))) fun FV WU =>
 (aq Ah false).ah fun b55=>(au b55 ((binOp .neq FV (.int .i64 0)).ah some) (some .undef)).ah fun ya =>
 (aD Ah (some (.bool true)) (some ya)).ah fun sI =>
 (aq sI false).ah fun b61=>(au b61 (some v9) (some .undef)).ah fun Lm =>
 (aq sI false).ah fun b65=>(au b65 ((aF Lm).ah some) (some .undef)).ah fun QB =>
 (aq sI false).ah fun b69=>(au b69 ((aA QB 6).ah some) (some .undef)).ah fun DG =>
 (aq sI false).ah fun b73=>(au b73 ((ax 1 false DG WU).ah some) (some .undef)).ah fun Tt =>
 (aq sI false).ah fun b77=>aG (au b77 (aG (ai T base 20 [Tt] WU) fun Tu Yq=>some (Tu,Yq)) (some (.undef,WU))) fun WV Yq =>
 (aq sI false).ah fun b81=>(au b81 (some Af) (some .undef)).ah fun x80 =>
 (aq sI false).ah fun b85=>(au b85 ((binOp .neq WV x80).ah some) (some .undef)).ah fun WW =>
 (aD sI (some (.bool true)) (some WW)).ah fun Tv =>
 aD Tv (
 bg false false n0 [(.bool false)] Yq) (
 (binOp .add Li (.int .i64 1)).ah fun Tw =>
 Ts base n0 Tw Af v9 v11 v2 Yq))) (
 (aF v9).ah fun QC =>
 (aA QC 6).ah fun WX =>
 (ax 1 false WX h).ah fun WY =>
 aG (ai T base 21 [WY,(.int .i64 1),v11] h) fun Sa Yr =>
 (aq Sa true).ah fun ahl=>(au ahl (some v9) (some .undef)).ah fun WZ =>
 (aq Sa true).ah fun ahm=>(au ahm ((aF WZ).ah some) (some .undef)).ah fun NI =>
 (aq Sa true).ah fun ahn=>(au ahn ((aA NI 6).ah some) (some .undef)).ah fun W3 =>
 (aq Sa true).ah fun aho=>(au aho ((ax 1 false W3 Yr).ah some) (some .undef)).ah fun ahp =>
 (aq Sa true).ah fun W4=>aG (au W4 (aG (ai T base 18 [ahp] Yr) fun W5 W6=>some (W5,W6)) (some (.undef,Yr))) fun W7 W6 =>
 (aq Sa true).ah fun W8=>(au W8 ((binOp .eql W7 (.int .i64 60)).ah some) (some .undef)).ah fun W9 =>
 (aD Sa (some W9) (some (.bool false))).ah fun Xa =>
 bg false false n0 [Xa] W6):=(ej T F3 [1,1,1,1,1,1,1,1,1,1,1,1,1,0,1,0,1] base n0 [(18,Li),(17,Af),(9,v9),(11,v11),(2,v2)] h).trans (by kernel_rfl)
theorem S3 (base:Nat) (a0 a1 a2 a3:PV) (h:Hp):ai T base 3 [a0,a1,a2,a3] h =
 aG (ai T (size h) 8 [] h) fun x1 h2 =>
 (unOp .not x1).ah fun x3 =>
 aD x3 (
 bg false false (size h) [(.bool false)] h2) (
 (cG false a0).ah fun x6 =>
 (binOp .gtr x6 (.int .i64 150)).ah fun x7 =>
 (aq x7 false).ah fun b10=>(au b10 (some a1) (some .undef)).ah fun x9 =>
 (aq x7 false).ah fun Xb=>(au Xb ((cG false x9).ah some) (some .undef)).ah fun iT =>
 (aq x7 false).ah fun Xc=>(au Xc ((binOp .gtr iT (.int .i64 150)).ah some) (some .undef)).ah fun pz =>
 (aD x7 (some (.bool true)) (some pz)).ah fun oy =>
 aD oy (
 bg false false (size h) [(.bool true)] h2) (
 aG (ai T (size h) 9 [(.int .i64 0)] h2) fun qG h24 =>
 (aE qG 0).ah fun mX =>
 (aE qG 1).ah fun BB =>
 (unOp .not BB).ah fun qj =>
 (aq qj false).ah fun b34=>(au b34 (some mX) (some .undef)).ah fun Aj =>
 (aq qj false).ah fun b38=>(au b38 (some a0) (some .undef)).ah fun s9 =>
 (aq qj false).ah fun b42=>aG (au b42 (aG (ai T (size h) 10 [Aj,s9] h24) fun vP h43=>some (vP,h43)) (some (.undef,h24))) fun zY h43 =>
 (aq qj false).ah fun b46=>(au b46 ((unOp .not zY).ah some) (some .undef)).ah fun vg =>
 (aD qj (some (.bool true)) (some vg)).ah fun x49 =>
 aD x49 (
 bg false false (size h) [(.bool false)] h43) (
 aG (ai T (size h) 11 [(.str [97,112,112]),(.int .u32 2),a1] h43) fun QD h53 =>
 (aE QD 0).ah fun vi =>
 (aE QD 1).ah fun QE =>
 aG (cU (size h) h53 .fix [vi]) fun Cc Ys =>
 (aF mX).ah fun Tx =>
 (aA Tx 6).ah fun FW =>
 (ax 1 false FW Ys).ah fun QB =>
 (cG false Cc).ah fun NK =>
 aG (ai T (size h) 12 [QB,NK] Ys) fun NL h68 =>
 (binOp .neq NL (.int .i64 0)).ah fun HJ =>
 (aq HJ false).ah fun b72=>(au b72 (some mX) (some .undef)).ah fun QF =>
 (aq HJ false).ah fun b76=>(au b76 ((aF QF).ah some) (some .undef)).ah fun Ty =>
 (aq HJ false).ah fun b80=>(au b80 ((aA Ty 6).ah some) (some .undef)).ah fun Tu =>
 (aq HJ false).ah fun b84=>(au b84 ((ax 1 false Tu h68).ah some) (some .undef)).ah fun QG =>
 (aq HJ false).ah fun b88=>(au b88 (some Cc) (some .undef)).ah fun NM =>
 (aq HJ false).ah fun b92=>aG (au b92 (aG (ai T (size h) 13 [QG,NM] h68) fun QC Xd=>some (QC,Xd)) (some (.undef,h68))) fun Tw Xd =>
 (aq HJ false).ah fun b96=>(au b96 ((binOp .neq Tw (.int .i64 0)).ah some) (some .undef)).ah fun WX =>
 (aD HJ (some (.bool true)) (some WX)).ah fun x99 =>
 aD x99 (
 bg false false (size h) [(.bool false)] Xd) (
 (aF mX).ah fun tM =>
 (aA tM 6).ah fun ahx =>
 (ax 1 false ahx Xd).ah fun JK =>
 aG (ai T (size h) 14 [JK] Xd) fun NI Xe =>
 (aE NI 0).ah fun JL =>
 (aE NI 1).ah fun W3 =>
 eu D4 Xe fun Tz ahy =>
 (aS (size h) 35 Tz JL ahy).ah fun NN =>
 (binOp .neq W3 (.int .i64 0)).ah fun NO =>
 (aq NO false).ah fun W4=>(au W4 ((aA Tz 1).ah some) (some .undef)).ah fun W7 =>
 (aq NO false).ah fun W8=>(au W8 ((ax 1 false W7 NN).ah some) (some .undef)).ah fun W9 =>
 (aq NO false).ah fun ahz=>(au ahz (some a1) (some .undef)).ah fun Xa =>
 (aq NO false).ah fun ahA=>(au ahA ((cG false Xa).ah some) (some .undef)).ah fun ahB =>
 (aq NO false).ah fun ahC=>(au ahC ((binOp .neq W9 ahB).ah some) (some .undef)).ah fun ahD =>
 (aD NO (some (.bool true)) (some ahD)).ah fun ahE =>
 aD ahE (
 bg false false (size h) [(.bool false)] NN) (
 (aF mX).ah fun Xf =>
 (aA Xf 6).ah fun ahF =>
 (ax 1 false ahF NN).ah fun Xg =>
 aG (ai T (size h) 15 [Xg] NN) fun ahG aaJ =>
 (binOp .neq ahG (.int .i64 0)).ah fun TA =>
 (aq TA false).ah fun ahH=>(au ahH (some mX) (some .undef)).ah fun ahI =>
 (aq TA false).ah fun ahJ=>aG (au ahJ (aG (ai T (size h) 16 [ahI] aaJ) fun Xh QH=>some (Xh,QH)) (some (.undef,aaJ))) fun ahK QH =>
 (aq TA false).ah fun ahL=>(au ahL ((unOp .not ahK).ah some) (some .undef)).ah fun ahM =>
 (aD TA (some (.bool true)) (some ahM)).ah fun ahN =>
 aD ahN (
 bg false false (size h) [(.bool false)] QH) (
 (aF mX).ah fun tN =>
 (aA tN 6).ah fun ahO =>
 (ax 1 false ahO QH).ah fun Xi =>
 aG (ai T (size h) 17 [Xi] QH) fun aaK Xj =>
 (aE aaK 0).ah fun Xk =>
 (aE aaK 1).ah fun ahP =>
 (binOp .neq Xk (.int .i64 1)).ah fun Xl =>
 (aq Xl false).ah fun ahQ=>(au ahQ (some ahP) (some .undef)).ah fun ahR =>
 (aq Xl false).ah fun ahS=>(au ahS ((binOp .neq ahR (.int .i64 0)).ah some) (some .undef)).ah fun ahT =>
 (aD Xl (some (.bool true)) (some ahT)).ah fun JM =>
 (aq JM false).ah fun ahU=>(au ahU (some mX) (some .undef)).ah fun ahV =>
 (aq JM false).ah fun ahW=>(au ahW ((aF ahV).ah some) (some .undef)).ah fun ahX =>
 (aq JM false).ah fun ahY=>(au ahY ((aA ahX 6).ah some) (some .undef)).ah fun ahZ =>
 (aq JM false).ah fun ah0=>(au ah0 ((ax 1 false ahZ Xj).ah some) (some .undef)).ah fun ah1 =>
 (aq JM false).ah fun ah2=>aG (au ah2 (aG (ai T (size h) 12 [ah1,(.int .i64 64)] Xj) fun ah3 FX=>some (ah3,FX)) (some (.undef,Xj))) fun Xm FX =>
 (aq JM false).ah fun ah4=>(au ah4 ((binOp .neq Xm (.int .i64 60)).ah some) (some .undef)).ah fun Xn =>
 (aD JM (some (.bool true)) (some Xn)).ah fun ah5 =>
 aD ah5 (
 bg false false (size h) [(.bool false)] FX) (
 aD a3 (
 (aF mX).ah fun Xo =>
 (aA Xo 6).ah fun Xp =>
 (ax 1 false Xp FX).ah fun Xq =>
 aG (ai T (size h) 18 [Xq] FX) fun QI QJ =>
 (binOp .neq QI (.int .i64 0)).ah fun Xr =>
 aD Xr (
 bg false false (size h) [(.bool false)] QJ) (
 QA (size h) (size h) (.int .i64 1) mX Cc a2 QJ)) (
 QA (size h) (size h) (.int .i64 0) mX Cc a2 FX)))))))):=(aZ T_3 base _ h).trans (by kernel_rfl)
theorem S8 (base:Nat) (h:Hp):ai T base 8 [] h =
 aG (ai T (size h) 9 [(.int .i64 0)] h) fun x1 h2 =>
 (aE x1 0).ah fun x4 =>
 (aE x1 1).ah fun x5 =>
 (unOp .not x5).ah fun x9 =>
 (aq x9 false).ah fun TB=>(au TB (some x4) (some .undef)).ah fun iC =>
 (aq x9 false).ah fun Qh=>aG (au Qh (aG (cU (size h) h2 (.fC [(.int .u8 111),(.int .u8 110),(.int .u8 101)]) []) fun qu Ak=>some (qu,Ak)) (some (.undef,h2))) fun mo Ak =>
 (aq x9 false).ah fun Te=>aG (au Te (aG (cU (size h) Ak .mark [mo]) fun nv FY=>some (nv,FY)) (some (.undef,Ak))) fun qf FY =>
 (aq x9 false).ah fun TC=>aG (au TC (aG (ai T (size h) 10 [iC,qf] FY) fun mX JN=>some (mX,JN)) (some (.undef,FY))) fun qG JN =>
 (aq x9 false).ah fun TD=>(au TD ((unOp .not qG).ah some) (some .undef)).ah fun BB =>
 (aD x9 (some (.bool true)) (some BB)).ah fun qj =>
 aD qj (
 bg false false (size h) [(.bool false)] JN) (
 (aF x4).ah fun tH =>
 (aA tH 6).ah fun rI =>
 (ax 1 false rI JN).ah fun QK =>
 aG (ai T (size h) 17 [QK] JN) fun s9 UO =>
 (aE s9 0).ah fun FZ =>
 (aE s9 1).ah fun zY =>
 aG (cU (size h) UO (.fC [(.int .u8 116),(.int .u8 119),(.int .u8 111)]) []) fun vP Yt =>
 aG (cU (size h) Yt .mark [vP]) fun NH h47 =>
 aG (ai T (size h) 11 [(.str [97,112,112]),(.int .u32 2),NH] h47) fun HI h49 =>
 (aE HI 0).ah fun D6 =>
 (aE HI 1).ah fun QD =>
 aG (cU (size h) h49 .fix [D6]) fun vi Sb =>
 (binOp .neq zY (.int .i64 0)).ah fun sI =>
 (aq sI false).ah fun b61=>(au b61 (some FZ) (some .undef)).ah fun Lm =>
 (aq sI false).ah fun b65=>(au b65 ((binOp .neq Lm (.int .i64 0)).ah some) (some .undef)).ah fun QB =>
 (aD sI (some (.bool true)) (some QB)).ah fun DG =>
 (aq DG false).ah fun b71=>(au b71 (some x4) (some .undef)).ah fun Xs =>
 (aq DG false).ah fun b75=>(au b75 ((aF Xs).ah some) (some .undef)).ah fun TE =>
 (aq DG false).ah fun b79=>(au b79 ((aA TE 6).ah some) (some .undef)).ah fun Sc =>
 (aq DG false).ah fun b83=>(au b83 ((ax 1 false Sc Sb).ah some) (some .undef)).ah fun UP =>
 (aq DG false).ah fun b87=>(au b87 (some vi) (some .undef)).ah fun Xt =>
 (aq DG false).ah fun b91=>(au b91 ((cG false Xt).ah some) (some .undef)).ah fun OF =>
 (aq DG false).ah fun b95=>aG (au b95 (aG (ai T (size h) 12 [UP,OF] Sb) fun Xu h96=>some (Xu,h96)) (some (.undef,Sb))) fun QC h96 =>
 (aq DG false).ah fun b99=>(au b99 ((binOp .neq QC (.int .i64 0)).ah some) (some .undef)).ah fun Sa =>
 (aD DG (some (.bool true)) (some Sa)).ah fun tM =>
 (aq tM false).ah fun Xv=>(au Xv (some x4) (some .undef)).ah fun JK =>
 (aq tM false).ah fun Xw=>(au Xw ((aF JK).ah some) (some .undef)).ah fun JL =>
 (aq tM false).ah fun ah7=>(au ah7 ((aA JL 6).ah some) (some .undef)).ah fun F1 =>
 (aq tM false).ah fun ah8=>(au ah8 ((ax 1 false F1 h96).ah some) (some .undef)).ah fun ah9 =>
 (aq tM false).ah fun aia=>(au aia (some vi) (some .undef)).ah fun W5 =>
 (aq tM false).ah fun aib=>(au aib ((cZ (some 1) none (some (.int .i64 10)) none W5).ah some) (some .undef)).ah fun aic =>
 (aq tM false).ah fun aid=>aG (au aid (aG (ai T (size h) 13 [ah9,aic] h96) fun aie QL=>some (aie,QL)) (some (.undef,h96))) fun aif QL =>
 (aq tM false).ah fun aih=>(au aih ((binOp .neq aif (.int .i64 0)).ah some) (some .undef)).ah fun aii =>
 (aD tM (some (.bool true)) (some aii)).ah fun DH =>
 (aq DH false).ah fun aij=>(au aij (some x4) (some .undef)).ah fun aik =>
 (aq DH false).ah fun ail=>(au ail ((aF aik).ah some) (some .undef)).ah fun Xg =>
 (aq DH false).ah fun aim=>(au aim ((aA Xg 6).ah some) (some .undef)).ah fun ain =>
 (aq DH false).ah fun aio=>(au aio ((ax 1 false ain QL).ah some) (some .undef)).ah fun aip =>
 (aq DH false).ah fun aiq=>aG (au aiq (aG (ai T (size h) 26 [aip] QL) fun air QM=>some (air,QM)) (some (.undef,QL))) fun Xh QM =>
 (aq DH false).ah fun ais=>(au ais ((binOp .neq Xh (.int .i64 10)).ah some) (some .undef)).ah fun ait =>
 (aD DH (some (.bool true)) (some ait)).ah fun tN =>
 (aq tN false).ah fun aiu=>(au aiu (some x4) (some .undef)).ah fun Xi =>
 (aq tN false).ah fun aiv=>(au aiv ((aF Xi).ah some) (some .undef)).ah fun Xk =>
 (aq tN false).ah fun aiw=>(au aiw ((aA Xk 6).ah some) (some .undef)).ah fun aix =>
 (aq tN false).ah fun aiy=>(au aiy ((ax 1 false aix QM).ah some) (some .undef)).ah fun aiz =>
 (aq tN false).ah fun aiA=>(au aiA (some vi) (some .undef)).ah fun aiB =>
 (aq tN false).ah fun aiC=>(au aiC ((cZ (some 1) (some (.int .i64 10)) none none aiB).ah some) (some .undef)).ah fun aiD =>
 (aq tN false).ah fun aiE=>aG (au aiE (aG (ai T (size h) 13 [aiz,aiD] QM) fun aiF QN=>some (aiF,QN)) (some (.undef,QM))) fun aiG QN =>
 (aq tN false).ah fun aiH=>(au aiH ((binOp .neq aiG (.int .i64 0)).ah some) (some .undef)).ah fun aiI =>
 (aD tN (some (.bool true)) (some aiI)).ah fun aiJ =>
 aD aiJ (
 bg false false (size h) [(.bool false)] QN) (
 (aF x4).ah fun aiK =>
 (aA aiK 6).ah fun aiL =>
 (ax 1 false aiL QN).ah fun Xm =>
 aG (ai T (size h) 14 [Xm] QN) fun aaM FX =>
 (aE aaM 0).ah fun Xn =>
 (aE aaM 1).ah fun aiM =>
 eu D4 FX fun aaN aiN =>
 (aS (size h) 35 aaN Xn aiN).ah fun TF =>
 (binOp .neq aiM (.int .i64 0)).ah fun TG =>
 (aq TG false).ah fun aiO=>(au aiO ((aA aaN 0).ah some) (some .undef)).ah fun aiP =>
 (aq TG false).ah fun aiQ=>(au aiQ ((ax 1 false aiP TF).ah some) (some .undef)).ah fun QI =>
 (aq TG false).ah fun aiR=>(au aiR ((binOp .neq QI (.int .u32 2)).ah some) (some .undef)).ah fun aiS =>
 (aD TG (some (.bool true)) (some aiS)).ah fun JO =>
 (aq JO false).ah fun aiT=>(au aiT (some x4) (some .undef)).ah fun aiU =>
 (aq JO false).ah fun aiV=>(au aiV ((aF aiU).ah some) (some .undef)).ah fun aiW =>
 (aq JO false).ah fun aiX=>(au aiX ((aA aiW 6).ah some) (some .undef)).ah fun aiY =>
 (aq JO false).ah fun aiZ=>(au aiZ ((ax 1 false aiY TF).ah some) (some .undef)).ah fun ai0 =>
 (aq JO false).ah fun ai1=>aG (au ai1 (aG (ai T (size h) 15 [ai0] TF) fun ai2 QO=>some (ai2,QO)) (some (.undef,TF))) fun ai3 QO =>
 (aq JO false).ah fun ai4=>(au ai4 ((binOp .neq ai3 (.int .i64 0)).ah some) (some .undef)).ah fun ai5 =>
 (aD JO (some (.bool true)) (some ai5)).ah fun JP =>
 (aq JP false).ah fun ai6=>(au ai6 (some x4) (some .undef)).ah fun ai7 =>
 (aq JP false).ah fun ai8=>(au ai8 ((aF ai7).ah some) (some .undef)).ah fun ai9 =>
 (aq JP false).ah fun aja=>(au aja ((aA ai9 6).ah some) (some .undef)).ah fun ajb =>
 (aq JP false).ah fun ajc=>(au ajc ((ax 1 false ajb QO).ah some) (some .undef)).ah fun ajd =>
 (aq JP false).ah fun aje=>aG (au aje (aG (ai T (size h) 19 [ajd] QO) fun ajf QS=>some (ajf,QS)) (some (.undef,QO))) fun ajg QS =>
 (aq JP false).ah fun ajh=>(au ajh ((binOp .neq ajg (.int .i64 1)).ah some) (some .undef)).ah fun aji =>
 (aD JP (some (.bool true)) (some aji)).ah fun JQ =>
 (aq JQ false).ah fun ajj=>(au ajj (some x4) (some .undef)).ah fun ajk =>
 (aq JQ false).ah fun ajl=>(au ajl ((aF ajk).ah some) (some .undef)).ah fun ajm =>
 (aq JQ false).ah fun ajn=>(au ajn ((aA ajm 6).ah some) (some .undef)).ah fun ajo =>
 (aq JQ false).ah fun ajp=>(au ajp ((ax 1 false ajo QS).ah some) (some .undef)).ah fun ajq =>
 (aq JQ false).ah fun ajr=>aG (au ajr (aG (ai T (size h) 46 [ajq] QS) fun ajs QT=>some (ajs,QT)) (some (.undef,QS))) fun ajt QT =>
 (aq JQ false).ah fun aju=>(au aju ((binOp .neq ajt (.int .i64 1)).ah some) (some .undef)).ah fun ajv =>
 (aD JQ (some (.bool true)) (some ajv)).ah fun ajw =>
 aD ajw (
 bg false false (size h) [(.bool false)] QT) (
 (aF x4).ah fun ajx =>
 (aA ajx 6).ah fun ajy =>
 (ax 1 false ajy QT).ah fun ajz =>
 aG (ai T (size h) 17 [ajz] QT) fun aaO Xx =>
 (aE aaO 0).ah fun ajA =>
 (aE aaO 1).ah fun ajB =>
 (binOp .neq ajB (.int .i64 0)).ah fun Xy =>
 (aq Xy false).ah fun ajC=>(au ajC (some ajA) (some .undef)).ah fun ajD =>
 (aq Xy false).ah fun ajE=>(au ajE ((binOp .neq ajD (.int .i64 1)).ah some) (some .undef)).ah fun ajF =>
 (aD Xy (some (.bool true)) (some ajF)).ah fun JR =>
 (aq JR false).ah fun ajG=>(au ajG (some x4) (some .undef)).ah fun ajH =>
 (aq JR false).ah fun ajI=>(au ajI ((aF ajH).ah some) (some .undef)).ah fun ajJ =>
 (aq JR false).ah fun ajK=>(au ajK ((aA ajJ 6).ah some) (some .undef)).ah fun ajL =>
 (aq JR false).ah fun ajM=>(au ajM ((ax 1 false ajL Xx).ah some) (some .undef)).ah fun ajN =>
 (aq JR false).ah fun ajO=>aG (au ajO (aG (ai T (size h) 44 [ajN] Xx) fun ajP QU=>some (ajP,QU)) (some (.undef,Xx))) fun ajQ QU =>
 (aq JR false).ah fun ajR=>(au ajR ((binOp .neq ajQ (.int .i64 1)).ah some) (some .undef)).ah fun ajS =>
 (aD JR (some (.bool true)) (some ajS)).ah fun JT =>
 (aq JT false).ah fun ajT=>(au ajT (some x4) (some .undef)).ah fun ajU =>
 (aq JT false).ah fun ajV=>(au ajV ((aF ajU).ah some) (some .undef)).ah fun ajW =>
 (aq JT false).ah fun ajX=>(au ajX ((aA ajW 6).ah some) (some .undef)).ah fun ajY =>
 (aq JT false).ah fun ajZ=>(au ajZ ((ax 1 false ajY QU).ah some) (some .undef)).ah fun aj0 =>
 (aq JT false).ah fun aj1=>aG (au aj1 (aG (ai T (size h) 20 [aj0] QU) fun aj2 QV=>some (aj2,QV)) (some (.undef,QU))) fun aj3 QV =>
 (aq JT false).ah fun aj4=>(au aj4 ((binOp .neq aj3 (.int .i64 0)).ah some) (some .undef)).ah fun aj5 =>
 (aD JT (some (.bool true)) (some aj5)).ah fun aj6 =>
 aD aj6 (
 bg false false (size h) [(.bool false)] QV) (
 (aF x4).ah fun aj7 =>
 (aA aj7 6).ah fun aj8 =>
 (ax 1 false aj8 QV).ah fun aj9 =>
 aG (ai T (size h) 17 [aj9] QV) fun aaP Xz =>
 (aE aaP 0).ah fun aka =>
 (aE aaP 1).ah fun akb =>
 (binOp .neq akb (.int .i64 0)).ah fun XA =>
 (aq XA false).ah fun akc=>(au akc (some aka) (some .undef)).ah fun akd =>
 (aq XA false).ah fun ake=>(au ake ((binOp .neq akd (.int .i64 0)).ah some) (some .undef)).ah fun akf =>
 (aD XA (some (.bool true)) (some akf)).ah fun JU =>
 (aq JU false).ah fun akg=>(au akg (some x4) (some .undef)).ah fun akh =>
 (aq JU false).ah fun aki=>(au aki ((aF akh).ah some) (some .undef)).ah fun akj =>
 (aq JU false).ah fun akk=>(au akk ((aA akj 6).ah some) (some .undef)).ah fun akl =>
 (aq JU false).ah fun akm=>(au akm ((ax 1 false akl Xz).ah some) (some .undef)).ah fun akn =>
 (aq JU false).ah fun ako=>aG (au ako (aG (ai T (size h) 19 [akn] Xz) fun akp QW=>some (akp,QW)) (some (.undef,Xz))) fun akq QW =>
 (aq JU false).ah fun akr=>(au akr ((binOp .neq akq (.int .i64 0)).ah some) (some .undef)).ah fun aks =>
 (aD JU (some (.bool true)) (some aks)).ah fun JV =>
 (aq JV false).ah fun akt=>(au akt (some x4) (some .undef)).ah fun aku =>
 (aq JV false).ah fun akv=>(au akv ((aF aku).ah some) (some .undef)).ah fun akw =>
 (aq JV false).ah fun akx=>(au akx ((aA akw 6).ah some) (some .undef)).ah fun aky =>
 (aq JV false).ah fun akz=>(au akz ((ax 1 false aky QW).ah some) (some .undef)).ah fun akA =>
 (aq JV false).ah fun akB=>aG (au akB (aG (ai T (size h) 18 [akA] QW) fun akC QX=>some (akC,QX)) (some (.undef,QW))) fun akD QX =>
 (aq JV false).ah fun akE=>(au akE ((binOp .neq akD (.int .i64 60)).ah some) (some .undef)).ah fun akF =>
 (aD JV (some (.bool true)) (some akF)).ah fun akG =>
 aD akG (
 bg false false (size h) [(.bool false)] QX) (
 (aF x4).ah fun akH =>
 (aA akH 6).ah fun akI =>
 (ax 1 false akI QX).ah fun akJ =>
 aG (ai T (size h) 43 [akJ,(.int .i64 1)] QX) fun aaQ akK =>
 (aE aaQ 0).ah fun akL =>
 (aE aaQ 1).ah fun TH =>
 eu D4 akK fun aaR akM =>
 (aS (size h) 35 aaR akL akM).ah fun aaS =>
 (aF x4).ah fun akN =>
 (aA akN 6).ah fun akO =>
 (ax 1 false akO aaS).ah fun akP =>
 aG (ai T (size h) 39 [akP,(.int .i64 1)] aaS) fun aaT aaU =>
 (aE aaT 0).ah fun akQ =>
 (aE aaT 1).ah fun akR =>
 (aF x4).ah fun akS =>
 (aA akS 6).ah fun akT =>
 (ax 1 false akT aaU).ah fun akU =>
 aG (ai T (size h) 36 [akU] aaU) fun aqk XB =>
 (aq TH true).ah fun akV=>(au akV ((aA aaR 0).ah some) (some .undef)).ah fun akW =>
 (aq TH true).ah fun akX=>(au akX ((ax 1 false akW XB).ah some) (some .undef)).ah fun akY =>
 (aq TH true).ah fun akZ=>(au akZ ((binOp .eql akY (.int .u32 2)).ah some) (some .undef)).ah fun ak0 =>
 (aD TH (some ak0) (some (.bool false))).ah fun aaV =>
 (aq aaV true).ah fun ak1=>(au ak1 (some akR) (some .undef)).ah fun ak2 =>
 (aD aaV (some ak2) (some (.bool false))).ah fun TI =>
 (aq TI true).ah fun ak3=>(au ak3 (some akQ) (some .undef)).ah fun ak4 =>
 (aq TI true).ah fun ak5=>(au ak5 (some vi) (some .undef)).ah fun ak6 =>
 (aq TI true).ah fun ak7=>aG (au ak7 (aG (ai T (size h) 47 [ak4,ak6] XB) fun ak8 QY=>some (ak8,QY)) (some (.undef,XB))) fun ak9 QY =>
 (aD TI (some ak9) (some (.bool false))).ah fun JW =>
 (aq JW true).ah fun ala=>(au ala (some x4) (some .undef)).ah fun alb =>
 (aq JW true).ah fun alc=>(au alc ((aF alb).ah some) (some .undef)).ah fun ald =>
 (aq JW true).ah fun ale=>(au ale ((aA ald 6).ah some) (some .undef)).ah fun alf =>
 (aq JW true).ah fun alg=>(au alg ((ax 1 false alf QY).ah some) (some .undef)).ah fun alh =>
 (aq JW true).ah fun ali=>(au ali (some vi) (some .undef)).ah fun alj =>
 (aq JW true).ah fun alk=>aG (au alk (aG (ai T (size h) 21 [alh,(.int .i64 1),alj] QY) fun alm QZ=>some (alm,QZ)) (some (.undef,QY))) fun aln QZ =>
 (aD JW (some aln) (some (.bool false))).ah fun Ga =>
 (aq Ga true).ah fun alo=>(au alo (some x4) (some .undef)).ah fun alp =>
 (aq Ga true).ah fun alq=>(au alq ((aF alp).ah some) (some .undef)).ah fun alr =>
 (aq Ga true).ah fun als=>(au als ((aA alr 6).ah some) (some .undef)).ah fun alu =>
 (aq Ga true).ah fun alv=>(au alv ((ax 1 false alu QZ).ah some) (some .undef)).ah fun alw =>
 (aq Ga true).ah fun alx=>(au alx (some vi) (some .undef)).ah fun aly =>
 (aq Ga true).ah fun alz=>aG (au alz (aG (ai T (size h) 21 [alw,(.int .i64 0),aly] QZ) fun alA XC=>some (alA,XC)) (some (.undef,QZ))) fun alB XC =>
 (aq Ga true).ah fun alC=>(au alC ((unOp .not alB).ah some) (some .undef)).ah fun alD =>
 (aD Ga (some alD) (some (.bool false))).ah fun alE =>
 bg false false (size h) [alE] XC))))):=(aZ T_8 base _ h).trans (by kernel_rfl)
theorem S9 (base:Nat) (a0:PV) (h:Hp):ai T base 9 [a0] h =
 (binOp .and a0 (.int .i64 3)).ah fun x3 =>
 (binOp .add (.int .i64 4) x3).ah fun x4 =>
 (dw [.bp,.bp,.bp,.bp,.bp,.bp,.bp,(.int .i64 0)] [(7,1,x4)]).ah fun x5 =>
 aG (tF 8 x5 h) fun x6 h7 =>
 (aF x6).ah fun iC =>
 (aA iC 7).ah fun gG =>
 (ax 1 false gG h7).ah fun iT =>
 (binOp .mul (.int .i64 2) iT).ah fun mq =>
 (binOp .add (.int .i64 4) mq).ah fun mo =>
 aG (ai T base 48 [mo,(.int .i64 64)] h7) fun oe Ak =>
 (aF x6).ah fun qu =>
 (aA qu 0).ah fun qf =>
 (aS base 1 qf oe Ak).ah fun Yu =>
 (aF x6).ah fun qG =>
 (aA qG 0).ah fun s8 =>
 (ax 1 false s8 Yu).ah fun yb =>
 aG (ai T base 49 [yb,(.int .i64 0),(.int .i64 2)] Yu) fun mX h27 =>
 (aE mX 0).ah fun Bz =>
 (aE mX 1).ah fun Al =>
 (aF x6).ah fun qj =>
 (aA qj 1).ah fun Ah =>
 (aS base 1 Ah Bz h27).ah fun JX =>
 (aF x6).ah fun QK =>
 (aA QK 0).ah fun s9 =>
 (ax 1 false s9 JX).ah fun Ai =>
 aG (ai T base 49 [Ai,(.int .i64 2),(.int .i64 2)] JX) fun tI h40 =>
 (aE tI 0).ah fun NG =>
 (aE tI 1).ah fun Lc =>
 (aF x6).ah fun vP =>
 (aA vP 2).ah fun vg =>
 (aS base 1 vg NG h40).ah fun h46 =>
 (aF x6).ah fun x49 =>
 (aA x49 0).ah fun FV =>
 (ax 1 false FV h46).ah fun D6 =>
 (aF x6).ah fun JJ =>
 (aA JJ 7).ah fun ya =>
 (ax 1 false ya h46).ah fun vi =>
 aG (ai T base 49 [D6,(.int .i64 4),vi] h46) fun QE h57 =>
 (aE QE 0).ah fun Cc =>
 (aE QE 1).ah fun Lm =>
 (aF x6).ah fun JY =>
 (aA JY 3).ah fun Tx =>
 (aS base 1 Tx Cc h57).ah fun h63 =>
 (aF x6).ah fun NK =>
 (aA NK 0).ah fun NL =>
 (ax 1 false NL h63).ah fun DG =>
 (aF x6).ah fun Xs =>
 (aA Xs 7).ah fun QF =>
 (ax 1 false QF h63).ah fun Tt =>
 (binOp .add (.int .i64 4) Tt).ah fun TJ =>
 (aF x6).ah fun Ty =>
 (aA Ty 7).ah fun WV =>
 (ax 1 false WV h63).ah fun TK =>
 aG (ai T base 49 [DG,TJ,TK] h63) fun Sc h79 =>
 (aE Sc 0).ah fun OG =>
 (aE Sc 1).ah fun UP =>
 (aF x6).ah fun QG =>
 (aA QG 4).ah fun WW =>
 (aS base 1 WW OG h79).ah fun Yv =>
 (aF x6).ah fun NM =>
 (aA NM 1).ah fun Tv =>
 (ax 1 false Tv Yv).ah fun TL =>
 (gE 0 false TL).ah fun OF =>
 (aq OF false).ah fun b93=>(au b93 (some x6) (some .undef)).ah fun XD =>
 (aq OF false).ah fun b97=>(au b97 ((aF XD).ah some) (some .undef)).ah fun WY =>
 (aq OF false).ah fun alG=>(au alG ((aA WY 2).ah some) (some .undef)).ah fun Q0 =>
 (aq OF false).ah fun Xv=>(au Xv ((ax 1 false Q0 Yv).ah some) (some .undef)).ah fun JK =>
 (aq OF false).ah fun Xw=>(au Xw ((gE 0 false JK).ah some) (some .undef)).ah fun JL =>
 (aD OF (some (.bool true)) (some JL)).ah fun F1 =>
 (aq F1 false).ah fun alH=>(au alH (some x6) (some .undef)).ah fun alI =>
 (aq F1 false).ah fun alJ=>(au alJ ((aF alI).ah some) (some .undef)).ah fun alK =>
 (aq F1 false).ah fun alL=>(au alL ((aA alK 3).ah some) (some .undef)).ah fun alM =>
 (aq F1 false).ah fun alN=>(au alN ((ax 1 false alM Yv).ah some) (some .undef)).ah fun alO =>
 (aq F1 false).ah fun alP=>(au alP ((gE 0 false alO).ah some) (some .undef)).ah fun alQ =>
 (aD F1 (some (.bool true)) (some alQ)).ah fun NP =>
 (aq NP false).ah fun alR=>(au alR (some x6) (some .undef)).ah fun DH =>
 (aq NP false).ah fun alS=>(au alS ((aF DH).ah some) (some .undef)).ah fun Xf =>
 (aq NP false).ah fun alT=>(au alT ((aA Xf 4).ah some) (some .undef)).ah fun alU =>
 (aq NP false).ah fun alV=>(au alV ((ax 1 false alU Yv).ah some) (some .undef)).ah fun alW =>
 (aq NP false).ah fun alX=>(au alX ((gE 0 false alW).ah some) (some .undef)).ah fun alY =>
 (aD NP (some (.bool true)) (some alY)).ah fun alZ =>
 aD alZ (
 bg true false (size h) [x6,(.bool false)] Yv) (
 aG (ai T base 16 [x6] Yv) fun tN al0 =>
 bg true false (size h) [x6,tN] al0):=(gR T_9 base _ h).trans (by kernel_rfl)
theorem S10 (base:Nat) (a0 a1:PV) (h:Hp):ai T base 10 [a0,a1] h =
 aG (ai T (size h) 11 [(.str [97,112,112]),(.int .u32 1),a1] h) fun x2 h3 =>
 (aE x2 0).ah fun x5 =>
 (aE x2 1).ah fun x6 =>
 aG (cU (size h) h3 .fix [x5]) fun x9 h10 =>
 (binOp .eql x6 (.int .i64 0)).ah fun gG =>
 (aq gG true).ah fun b15=>(au b15 (some a0) (some .undef)).ah fun mq =>
 (aq gG true).ah fun b19=>(au b19 ((aF mq).ah some) (some .undef)).ah fun qu =>
 (aq gG true).ah fun b23=>(au b23 ((aA qu 3).ah some) (some .undef)).ah fun nv =>
 (aq gG true).ah fun b27=>(au b27 ((ax 1 false nv h10).ah some) (some .undef)).ah fun mX =>
 (aq gG true).ah fun b31=>(au b31 (some x9) (some .undef)).ah fun Al =>
 (aq gG true).ah fun b35=>aG (au b35 (aG (ai T (size h) 28 [mX,(.int .i64 0),Al] h10) fun s9 h36=>some (s9,h36)) (some (.undef,h10))) fun tH h36 =>
 (aq gG true).ah fun b39=>(au b39 ((binOp .eql tH (.int .i64 0)).ah some) (some .undef)).ah fun Ai =>
 (aD gG (some Ai) (some (.bool false))).ah fun NG =>
 bg false false (size h) [NG] h36:=(aZ asX base _ h).trans (by kernel_rfl)
theorem S11 (base:Nat) (a0 a1 a2:PV) (h:Hp):ai T base 11 [a0,a1,a2] h =
 aG (ai T (size h) 45 [a0] h) fun x3 h4 =>
 (unOp .not x3).ah fun x5 =>
 aD x5 (
 bg false true (size h) [.bn,(.int .i64 1)] h4) (
 (cG false a2).ah fun x9 =>
 (binOp .gtr x9 (.int .i64 1048576)).ah fun iR =>
 aD iR (
 bg false true (size h) [.bn,(.int .i64 2)] h4) (
 (cG false a2).ah fun mo =>
 aG (ai T (size h) 51 [a2] h4) fun qu UQ =>
 (dw D4 [(0,1,a1),(1,1,mo),(2,1,a0),(3,32,qu)]).ah fun oh =>
 aG (ai T (size h) 50 [oh] UQ) fun oy OH =>
 (aE oy 0).ah fun s8 =>
 (aE oy 1).ah fun yb =>
 (cF 1 false [.bn] 2 [(0,strip s8),(1,strip a2)]).ah fun Al =>
 aG (ai T (size h) 52 [Al] OH) fun qj Yw =>
 bg false true (size h) [qj,(.int .i64 0)] Yw)):=(aZ afi base _ h).trans (by kernel_rfl)
theorem S12 (base:Nat) (a0 a1:PV) (h:Hp):ai T base 12 [a0,a1] h =
 aG (ai T base 46 [a0] h) fun x3 h4 =>
 (aF a0).ah fun x5 =>
 (aA x5 0).ah fun x6 =>
 (aN 1 2 x6 x3).ah fun x7 =>
 (ax 1 false x7 h4).ah fun x8 =>
 aG (ai T base 53 [a0] h4) fun iC h12 =>
 aD iC (
 bg true false (size h) [(.int .i64 30)] h12) (
 aG (ai T base 19 [a0] h12) fun oe Ak =>
 (binOp .neq oe (.int .i64 0)).ah fun qu =>
 aD qu (
 bg true false (size h) [(.int .i64 60)] Ak) (
 (binOp .lss a1 (.int .i64 64)).ah fun nv =>
 (aq nv false).ah fun b25=>(au b25 (some a1) (some .undef)).ah fun s8 =>
 (aq nv false).ah fun WT=>(au WT (some x8) (some .undef)).ah fun Ag =>
 (aq nv false).ah fun b33=>aG (au b33 (aG (ai T base 54 [Ag] Ak) fun rI UR=>some (rI,UR)) (some (.undef,Ak))) fun Ah UR =>
 (aq nv false).ah fun b37=>(au b37 ((binOp .gtr s8 Ah).ah some) (some .undef)).ah fun QK =>
 (aD nv (some (.bool true)) (some QK)).ah fun FZ =>
 aD FZ (
 bg true false (size h) [(.int .i64 53)] UR) (
 aG (ai T base 36 [a0] UR) fun vP Yt =>
 aG (ai T base 55 [x8] Yt) fun Gb h48 =>
 (binOp .neq Gb (.int .i64 0)).ah fun D6 =>
 aD D6 (
 bg true false (size h) [Gb] h48) (
 aG (ai T base 56 [] h48) fun QE h57 =>
 (dw [(.int .i64 0),(.int .i64 0),.bn,.bp] [(0,1,a1),(3,1,QE)]).ah fun sI =>
 aG (tF 4 sI h57) fun Cc Ys =>
 (aF a0).ah fun JY =>
 (aA JY 4).ah fun Tx =>
 (aS base 1 Tx Cc Ys).ah fun h63 =>
 bg true false (size h) [(.int .i64 0)] h63)))):=(gR afj base _ h).trans (by kernel_rfl)
theorem S13 (base:Nat) (a0 a1:PV) (h:Hp):ai T base 13 [a0,a1] h =
 aG (ai T base 57 [a0] h) fun x2 h3 =>
 (binOp .neq x2 (.int .i64 0)).ah fun x6 =>
 aD x6 (
 bg true false (size h) [x2] h3) (
 (aF a0).ah fun iR =>
 (aA iR 4).ah fun iC =>
 (ax 1 false iC h3).ah fun gG =>
 (cG false a1).ah fun mo =>
 (aF gG).ah fun pz =>
 (aA pz 0).ah fun qu =>
 (ax 1 false qu h3).ah fun qf =>
 (aF gG).ah fun oy =>
 (aA oy 1).ah fun nv =>
 (ax 1 false nv h3).ah fun qG =>
 (binOp .sub qf qG).ah fun s8 =>
 (binOp .gtr mo s8).ah fun yb =>
 aD yb (
 bg true false (size h) [(.int .i64 2)] h3) (
 aG (gu (ai T base) 46 [a0] h3) fun Bz h30=>(fun y=>if h30=h3 then y else none) <|
 (aF a0).ah fun qj =>
 (aA qj 0).ah fun Ah =>
 (aN 1 2 Ah Bz).ah fun Aj =>
 (ax 1 false Aj h3).ah fun tH =>
 (aF gG).ah fun QK =>
 (aA QK 1).ah fun s9 =>
 (ax 1 false s9 h3).ah fun Ai =>
 aG (ai T base 28 [tH,Ai,a1] h3) fun FZ h41 =>
 (binOp .neq FZ (.int .i64 0)).ah fun vP =>
 aD vP (
 aG (ai T base 36 [a0] h41) fun NH h47 =>
 bg true false (size h) [FZ] h47) (
 (aF gG).ah fun D6 =>
 (aA D6 2).ah fun QD =>
 (ax 1 false QD h41).ah fun JJ =>
 (cG false JJ).ah fun ya =>
 aG (ai T base 58 [gG,a1] h41) fun sI h59 =>
 (binOp .eql ya (.int .i64 64)).ah fun JY =>
 aD JY (
 bg true false (size h) [(.int .i64 0)] h59) (
 aG (ai T base 59 [gG] h59) fun QB h65 =>
 (binOp .neq QB (.int .i64 0)).ah fun DG =>
 aD DG (
 aG (ai T base 36 [a0] h65) fun Xs h71 =>
 bg true false (size h) [QB] h71) (
 bg true false (size h) [QB] h65))))):=(gR asY base _ h).trans (by kernel_rfl)
theorem S14 (base:Nat) (a0:PV) (h:Hp):ai T base 14 [a0] h =
 eu D4 h fun x0 h1 =>
 aG (ai T (size h) 57 [a0] h1) fun x4 h5 =>
 (binOp .neq x4 (.int .i64 0)).ah fun x8 =>
 aD x8 (
 (dw D4 []).ah fun x9 =>
 (aS (size h) 35 x0 x9 h5).ah fun h11 =>
 (qQ x0 h11 35 true).ah fun r13 =>
 bg false false (size h) [r13,x4] h11) (
 (aF a0).ah fun mo =>
 (aA mo 4).ah fun oe =>
 (ax 1 false oe h5).ah fun pz =>
 (aF pz).ah fun oh =>
 (aA oh 1).ah fun oy =>
 (ax 1 false oy h5).ah fun nv =>
 (aF pz).ah fun s8 =>
 (aA s8 0).ah fun yb =>
 (ax 1 false yb h5).ah fun mX =>
 (binOp .lss nv mX).ah fun BB =>
 aD BB (
 (dw D4 []).ah fun Ag =>
 (aS (size h) 35 x0 Ag h5).ah fun Q1 =>
 (qQ x0 Q1 35 true).ah fun r31 =>
 bg false false (size h) [r31,(.int .i64 53)] Q1) (
 aG (ai T (size h) 36 [a0] h5) fun Aj UR =>
 (aF pz).ah fun QK =>
 (aA QK 2).ah fun s9 =>
 (ax 1 false s9 UR).ah fun Ai =>
 aG (ai T (size h) 60 [Ai] UR) fun tI h40 =>
 (aE tI 0).ah fun NG =>
 (aE tI 1).ah fun Lc =>
 eu D4 h40 fun vP Yt =>
 (aS (size h) 35 vP NG Yt).ah fun h46 =>
 (binOp .neq Lc (.int .i64 0)).ah fun x49 =>
 aD x49 (
 (dw D4 []).ah fun FV =>
 (aS (size h) 35 x0 FV h46).ah fun WU =>
 (qQ x0 WU 35 true).ah fun r54 =>
 bg false false (size h) [r54,Lc] WU) (
 aG (ai T (size h) 20 [a0] h46) fun Lo h58 =>
 aG (ai T (size h) 43 [a0,Lo] h58) fun Cc Ys =>
 (aE Cc 0).ah fun Tx =>
 (aE Cc 1).ah fun FW =>
 eu D4 Ys fun QB h65 =>
 (aS (size h) 35 QB Tx h65).ah fun h66 =>
 (aF pz).ah fun HJ =>
 (aA HJ 3).ah fun Xs =>
 (ax 1 false Xs h66).ah fun QF =>
 aG (gu (ai T (size h)) 61 [QF] h66) fun Tt h73=>(fun y=>if h73=h66 then y else none) <|
 (aA vP 3).ah fun TE =>
 (ax 32 true TE h66).ah fun Ty =>
 (VT true [1,1,1,1,1,1,1,1,1,1,1,1,1,1,1,1,1,1,1,1,1,1,1,1,1,1,1,1,1,1,1,1] Tt Ty).ah fun WV =>
 aD WV (
 (dw D4 []).ah fun Sc =>
 (aS (size h) 35 x0 Sc h66).ah fun h79 =>
 (qQ x0 h79 35 true).ah fun r81 =>
 bg false false (size h) [r81,(.int .i64 51)] h79) (
 (aq FW true).ah fun b85=>(au b85 ((aA vP 0).ah some) (some .undef)).ah fun WW =>
 (aq FW true).ah fun b89=>(au b89 ((ax 1 false WW h66).ah some) (some .undef)).ah fun Tv =>
 (aq FW true).ah fun b93=>(au b93 ((aA QB 0).ah some) (some .undef)).ah fun XD =>
 (aq FW true).ah fun b97=>(au b97 ((ax 1 false XD h66).ah some) (some .undef)).ah fun WY =>
 (aq FW true).ah fun alG=>(au alG ((binOp .leq Tv WY).ah some) (some .undef)).ah fun Q0 =>
 (aD FW (some Q0) (some (.bool false))).ah fun JK =>
 aD JK (
 (dw D4 []).ah fun ahj =>
 (aS (size h) 35 x0 ahj h66).ah fun aeU =>
 (qQ x0 aeU 35 true).ah fun atx =>
 bg false false (size h) [atx,(.int .i64 52)] aeU) (
 (ax 35 true vP h66).ah fun Tz =>
 (aS (size h) 35 x0 Tz h66).ah fun ahy =>
 (qQ x0 ahy 35 true).ah fun aty =>
 bg false false (size h) [aty,(.int .i64 0)] ahy))))):=(aZ asZ base _ h).trans (by kernel_rfl)
theorem S15 (base:Nat) (a0:PV) (h:Hp):ai T base 15 [a0] h =
 aG (ai T base 46 [a0] h) fun x3 h4 =>
 aG (ai T base 43 [a0,x3] h4) fun x5 h6 =>
 (aE x5 0).ah fun x8 =>
 (aE x5 1).ah fun x9 =>
 eu D4 h6 fun iR h11 =>
 (aS base 35 iR x8 h11).ah fun h12 =>
 aG (ai T base 53 [a0] h12) fun mo HK =>
 aD mo (
 bg true false (size h) [(.int .i64 30)] HK) (
 aG (ai T base 19 [a0] HK) fun oh FY =>
 (binOp .neq oh (.int .i64 0)).ah fun nv =>
 aD nv (
 aD nv (
 bg true false (size h) [(.int .i64 60)] FY) (
 (unOp .not x9).ah fun mX =>
 aD mX (
 bg true false (size h) [(.int .i64 4)] FY) (
 aG (ai T base 20 [a0] FY) fun qj Yw =>
 aG (ai T base 62 [a0,qj,(.int .i64 1)] Yw) fun Aj UR =>
 bg true false (size h) [Aj] UR))) (
 (aF a0).ah fun s9 =>
 (aA s9 4).ah fun Ai =>
 (ax 1 false Ai FY).ah fun tI =>
 (gE 0 true tI).ah fun FZ =>
 aD FZ (
 bg true false (size h) [(.int .i64 60)] FY) (
 (unOp .not x9).ah fun vP =>
 aD vP (
 bg true false (size h) [(.int .i64 4)] FY) (
 aG (ai T base 20 [a0] FY) fun x49 h50 =>
 aG (ai T base 62 [a0,x49,(.int .i64 1)] h50) fun D6 WU =>
 bg true false (size h) [D6] WU)))):=(gR afk base _ h).trans (by kernel_rfl)
theorem S16 (base:Nat) (a0:PV) (h:Hp):ai T base 16 [a0] h =
 (aF a0).ah fun x2 =>
 (aA x2 1).ah fun x3 =>
 (ax 1 false x3 h).ah fun x4 =>
 (aF a0).ah fun x6 =>
 (aA x6 2).ah fun x7 =>
 (ax 1 false x7 h).ah fun x8 =>
 aG (ai T base 63 [x4,x8] h) fun x9 h10 =>
 (aE x9 0).ah fun gG =>
 (aE x9 1).ah fun iT =>
 (binOp .neq iT (.int .i64 0)).ah fun pz =>
 aD pz (
 bg true false (size h) [(.bool false)] h10) (
 (aF a0).ah fun oy =>
 (aA oy 5).ah fun nv =>
 (aS base 1 nv gG h10).ah fun h23 =>
 (aF a0).ah fun mX =>
 (aA mX 3).ah fun BB =>
 (ax 1 false BB h23).ah fun Ag =>
 (aF a0).ah fun Al =>
 (aA Al 4).ah fun qj =>
 (ax 1 false qj h23).ah fun Ah =>
 aG (ai T base 64 [Ag,Ah,gG] h23) fun tH h35 =>
 (aF a0).ah fun QK =>
 (aA QK 6).ah fun s9 =>
 (aS base 1 s9 tH h35).ah fun UO =>
 bg true false (size h) [(.bool true)] UO):=(gR as0 base _ h).trans (by kernel_rfl)
theorem S17 (base:Nat) (a0:PV) (h:Hp):ai T base 17 [a0] h =
 aG (ai T base 36 [a0] h) fun x3 h4 =>
 aG (ai T base 53 [a0] h4) fun x6 h7 =>
 aD x6 (
 bg true false (size h) [(.int .i64 0),(.int .i64 30)] h7) (
 aG (ai T base 46 [a0] h7) fun gG h13 =>
 aG (ai T base 43 [a0,gG] h13) fun mq Ql =>
 (aE mq 0).ah fun pz =>
 (aE mq 1).ah fun qu =>
 eu D4 Ql fun qf Yu =>
 (aS base 35 qf pz Yu).ah fun FY =>
 aG (ai T base 19 [a0] FY) fun s8 JN =>
 (binOp .eql s8 (.int .i64 1)).ah fun mX =>
 (aq mX true).ah fun WT=>(au WT (some qu) (some .undef)).ah fun Ag =>
 (aD mX (some Ag) (some (.bool false))).ah fun Ah =>
 aD Ah (
 aG (ai T base 46 [a0] JN) fun rI h36 =>
 aG (ai T base 65 [a0,rI,(.int .i64 2)] h36) fun s9 UO =>
 (aE s9 0).ah fun tI =>
 (aE s9 1).ah fun FZ =>
 bg true false (size h) [tI,FZ] UO) (
 aG (ai T base 20 [a0] JN) fun vg h46 =>
 aG (ai T base 65 [a0,vg,(.int .i64 0)] h46) fun Gb h48 =>
 (aE Gb 0).ah fun x49 =>
 (aE Gb 1).ah fun FV =>
 bg true false (size h) [x49,FV] h48)):=(gR afl base _ h).trans (by kernel_rfl)
theorem S18 (base:Nat) (a0:PV) (h:Hp):ai T base 18 [a0] h =
 aG (ai T base 53 [a0] h) fun x2 h3 =>
 aD x2 (
 bg true false (size h) [(.int .i64 30)] h3) (
 aG (ai T base 19 [a0] h3) fun x7 h8 =>
 (binOp .neq x7 (.int .i64 2)).ah fun x9 =>
 (aq x9 false).ah fun TB=>(au TB (some a0) (some .undef)).ah fun iC =>
 (aq x9 false).ah fun Qh=>(au Qh ((aF iC).ah some) (some .undef)).ah fun mo =>
 (aq x9 false).ah fun Te=>(au Te ((aA mo 3).ah some) (some .undef)).ah fun qf =>
 (aq x9 false).ah fun TC=>(au TC ((ax 1 false qf h8).ah some) (some .undef)).ah fun qG =>
 (aq x9 false).ah fun TD=>(au TD (some a0) (some .undef)).ah fun BB =>
 (aq x9 false).ah fun XE=>aG (au XE (aG (gu (ai T base) 46 [BB] h8) fun tH JX=>(fun y=>if JX=h8 then y else none)<|some (tH,h8)) (some (.undef,h8))) fun qj JX =>
 (aq x9 false).ah fun b36=>(au b36 ((binOp .neq qG qj).ah some) (some .undef)).ah fun rI =>
 (aD x9 (some (.bool true)) (some rI)).ah fun tI =>
 aD tI (
 bg true false (size h) [(.int .i64 60)] JX) (
 (aF a0).ah fun vP =>
 (aA vP 3).ah fun vg =>
 (ax 1 false vg JX).ah fun NH =>
 aG (ai T base 62 [a0,NH,(.int .i64 0)] JX) fun Gb h48 =>
 bg true false (size h) [Gb] h48)):=(gR afm base _ h).trans (by kernel_rfl)
theorem S19 (base:Nat) (a0:PV) (h:Hp):ai T base 19 [a0] h =
 aG (ai T (size h) 66 [a0] h) fun x2 h3 =>
 (aE x2 0).ah fun x5 =>
 (aE x2 1).ah fun x6 =>
 bg false false (size h) [x6] h3:=(aZ afn base _ h).trans (by kernel_rfl)
theorem S20 (base:Nat) (a0:PV) (h:Hp):ai T base 20 [a0] h =
 aG (ai T (size h) 66 [a0] h) fun x2 h3 =>
 (aE x2 0).ah fun x5 =>
 (aE x2 1).ah fun x6 =>
 bg false false (size h) [x5] h3:=(aZ afo base _ h).trans (by kernel_rfl)
theorem S21 (base:Nat) (a0 a1 a2:PV) (h:Hp):ai T base 21 [a0,a1,a2] h =
 aG (ai T (size h) 39 [a0,a1] h) fun x3 h4 =>
 (aE x3 0).ah fun x6 =>
 (aE x3 1).ah fun x7 =>
 (aq x7 true).ah fun b13=>(au b13 (some x6) (some .undef)).ah fun gG =>
 (aq x7 true).ah fun b17=>(au b17 (some a2) (some .undef)).ah fun oe =>
 (aq x7 true).ah fun b21=>aG (au b21 (aG (ai T (size h) 67 [gG,oe] h4) fun qG OH=>some (qG,OH)) (some (.undef,h4))) fun oh OH =>
 (aD x7 (some oh) (some (.bool false))).ah fun s8 =>
 bg false false (size h) [s8] OH:=(aZ afp base _ h).trans (by kernel_rfl)
theorem S24 (base:Nat) (a0:PV) (h:Hp):ai T base 24 [a0] h =
 eu D4 h fun x0 h1 =>
 aG (ai T (size h) 60 [a0] h1) fun x4 h5 =>
 (aE x4 0).ah fun x7 =>
 (aE x4 1).ah fun x8 =>
 eu D4 h5 fun x9 h10 =>
 (aS (size h) 35 x9 x7 h10).ah fun h11 =>
 (binOp .neq x8 (.int .i64 0)).ah fun mq =>
 aD mq (
 (dw D4 []).ah fun oe =>
 (aS (size h) 35 x0 oe h11).ah fun h18 =>
 (qQ x0 h18 35 true).ah fun r20 =>
 bg false false (size h) [r20,x8] h18) (
 (cG false a0).ah fun nv =>
 (binOp .sub nv (.int .i64 64)).ah fun qG =>
 (aA x9 1).ah fun s8 =>
 (ax 1 false s8 h11).ah fun yb =>
 (binOp .neq qG yb).ah fun mX =>
 aD mX (
 (dw D4 []).ah fun Ag =>
 (aS (size h) 35 x0 Ag h11).ah fun Q1 =>
 (qQ x0 Q1 35 true).ah fun r31 =>
 bg false false (size h) [r31,(.int .i64 53)] Q1) (
 (cZ (some 1) (some (.int .i64 64)) none none a0).ah fun Aj =>
 (cF 1 false [.bn] 1 [(0,strip Aj)]).ah fun tH =>
 aG (gu (ai T (size h)) 69 [tH] h11) fun rI h36=>(fun y=>if h36=h11 then y else none) <|
 (aA x9 3).ah fun s9 =>
 (ax 32 true s9 h11).ah fun Ai =>
 (VT true [1,1,1,1,1,1,1,1,1,1,1,1,1,1,1,1,1,1,1,1,1,1,1,1,1,1,1,1,1,1,1,1] rI Ai).ah fun tI =>
 aD tI (
 (dw D4 []).ah fun zY =>
 (aS (size h) 35 x0 zY h11).ah fun h42 =>
 (qQ x0 h42 35 true).ah fun r44 =>
 bg false false (size h) [r44,(.int .i64 51)] h42) (
 (ax 35 true x9 h11).ah fun vg =>
 (aS (size h) 35 x0 vg h11).ah fun h46 =>
 (qQ x0 h46 35 true).ah fun r48 =>
 bg false false (size h) [r48,(.int .i64 0)] h46))):=(aZ as1 base _ h).trans (by kernel_rfl)
theorem S26 (base:Nat) (a0:PV) (h:Hp):ai T base 26 [a0] h =
 (aF a0).ah fun x2 =>
 (aA x2 4).ah fun x3 =>
 (ax 1 false x3 h).ah fun x4 =>
 (gE 0 false x4).ah fun x5 =>
 aD x5 (
 bg false false (size h) [(.int .i64 0)] h) (
 (aF a0).ah fun x8 =>
 (aA x8 4).ah fun x9 =>
 (ax 1 false x9 h).ah fun iR =>
 (aF iR).ah fun iC =>
 (aA iC 1).ah fun gG =>
 (ax 1 false gG h).ah fun iT =>
 bg false false (size h) [iT] h):=(aZ afq base _ h).trans (by kernel_rfl)
theorem S28 (base:Nat) (a0 a1 a2:PV) (h:Hp):ai T base 28 [a0,a1,a2] h =
 (cG false a2).ah fun x4 =>
 aG (ai T (size h) 70 [a0,a1,x4] h) fun x5 h6 =>
 (binOp .neq x5 (.int .i64 0)).ah fun x9 =>
 aD x9 (
 bg false false (size h) [x5] h6) (
 (aF a0).ah fun iT =>
 (aA iT 0).ah fun mq =>
 (ax 1 false mq h6).ah fun mo =>
 aG (gu (ai T (size h)) 72 [a0] h6) fun pz h18=>(fun y=>if h18=h6 then y else none) <|
 (binOp .add pz a1).ah fun oh =>
 aG (ai T (size h) 71 [mo,oh,a2] h6) fun nv h23 =>
 bg false false (size h) [nv] h23):=(aZ as2 base _ h).trans (by kernel_rfl)
theorem S36 (base:Nat) (a0:PV) (h:Hp):ai T base 36 [a0] h =
 (aF a0).ah fun x1 =>
 (aA x1 4).ah fun x2 =>
 (aS (size h) 1 x2 .bp h).ah fun h3 =>
 bg false false (size h) [] h3:=(aZ afr base _ h).trans (by kernel_rfl)
theorem S39 (base:Nat) (a0 a1:PV) (h:Hp):ai T base 39 [a0,a1] h =
 (binOp .lss a1 (.int .i64 0)).ah fun x3 =>
 (aq x3 false).ah fun b6=>(au b6 (some a1) (some .undef)).ah fun x5 =>
 (aq x3 false).ah fun b10=>(au b10 ((binOp .gtr x5 (.int .i64 1)).ah some) (some .undef)).ah fun x9 =>
 (aD x3 (some (.bool true)) (some x9)).ah fun iT =>
 aD iT (
 bg false false (size h) [.bn,(.bool false)] h) (
 (aF a0).ah fun qu =>
 (aA qu 0).ah fun qf =>
 (aN 1 2 qf a1).ah fun oh =>
 (ax 1 false oh h).ah fun oy =>
 aG (ai T (size h) 54 [oy] h) fun yb h26 =>
 (jH false [yb,(.int .i64 64)]).ah fun BB =>
 aG (ai T (size h) 79 [oy,(.int .i64 0),BB] h26) fun Ag Q1 =>
 (aE Ag 0).ah fun qj =>
 (aE Ag 1).ah fun Ah =>
 (binOp .neq Ah (.int .i64 0)).ah fun QK =>
 aD QK (
 bg false false (size h) [.bn,(.bool false)] Q1) (
 aG (ai T (size h) 60 [qj] Q1) fun FZ h41 =>
 (aE FZ 0).ah fun Lc =>
 (aE FZ 1).ah fun vP =>
 eu D4 h41 fun vg h46 =>
 (aS (size h) 35 vg Lc h46).ah fun h47 =>
 (binOp .neq vP (.int .i64 0)).ah fun FV =>
 (aq FV false).ah fun b53=>(au b53 ((aA vg 1).ah some) (some .undef)).ah fun QD =>
 (aq FV false).ah fun b57=>(au b57 ((ax 1 false QD h47).ah some) (some .undef)).ah fun QE =>
 (aq FV false).ah fun b61=>(au b61 (some oy) (some .undef)).ah fun Lm =>
 (aq FV false).ah fun b65=>aG (au b65 (aG (gu (ai T (size h)) 54 [Lm] h47) fun NL h66=>(fun y=>if h66=h47 then y else none)<|some (NL,h47)) (some (.undef,h47))) fun QB h66 =>
 (aq FV false).ah fun b69=>(au b69 ((binOp .sub QB (.int .i64 64)).ah some) (some .undef)).ah fun DG =>
 (aq FV false).ah fun b73=>(au b73 ((binOp .gtr QE DG).ah some) (some .undef)).ah fun Tt =>
 (aD FV (some (.bool true)) (some Tt)).ah fun WV =>
 aD WV (
 bg false false (size h) [.bn,(.bool false)] h66) (
 (aA vg 1).ah fun x80 =>
 (ax 1 false x80 h66).ah fun OG =>
 (binOp .add (.int .i64 64) OG).ah fun UP =>
 aG (ai T (size h) 79 [oy,(.int .i64 0),UP] h66) fun QG h84 =>
 (aE QG 0).ah fun Xt =>
 (aE QG 1).ah fun NM =>
 aG (ai T (size h) 24 [Xt] h84) fun OF h91 =>
 (aE OF 0).ah fun XG =>
 (aE OF 1).ah fun QC =>
 eu D4 h91 fun WX h96 =>
 (aS (size h) 35 WX XG h96).ah fun h97 =>
 (binOp .neq QC (.int .i64 0)).ah fun Q0 =>
 aD Q0 (
 bg false false (size h) [.bn,(.bool false)] h97) (
 bg false false (size h) [Xt,(.bool true)] h97)))):=(aZ as3 base _ h).trans (by kernel_rfl)
theorem S41 (base:Nat) (a0:PV) (h:Hp):ai T base 41 [a0] h =
 (aF a0).ah fun x2 =>
 (aA x2 5).ah fun x3 =>
 (ax 1 false x3 h).ah fun x4 =>
 bg false false (size h) [x4] h:=(aZ afs base _ h).trans (by kernel_rfl)
theorem S43 (base:Nat) (a0 a1:PV) (h:Hp):ai T base 43 [a0,a1] h =
 eu D4 h fun x0 h1 =>
 aG (ai T (size h) 39 [a0,a1] h1) fun x5 h6 =>
 (aE x5 0).ah fun x8 =>
 (aE x5 1).ah fun x9 =>
 (unOp .not x9).ah fun iT =>
 aD iT (
 (dw D4 []).ah fun mq =>
 (aS (size h) 35 x0 mq h6).ah fun Ql =>
 (qQ x0 Ql 35 true).ah fun XF =>
 bg false false (size h) [XF,(.bool false)] Ql) (
 aG (ai T (size h) 60 [x8] h6) fun qf Yu =>
 (aE qf 0).ah fun nv =>
 (aE qf 1).ah fun qG =>
 eu D4 Yu fun s8 JN =>
 (aS (size h) 35 s8 nv JN).ah fun h26 =>
 (ax 35 true s8 h26).ah fun Ag =>
 (aS (size h) 35 x0 Ag h26).ah fun Q1 =>
 (qQ x0 Q1 35 true).ah fun r31 =>
 bg false false (size h) [r31,(.bool true)] Q1):=(aZ aft base _ h).trans (by kernel_rfl)
theorem S44 (base:Nat) (a0:PV) (h:Hp):ai T base 44 [a0] h =
 (aF a0).ah fun x2 =>
 (aA x2 3).ah fun x3 =>
 (ax 1 false x3 h).ah fun x4 =>
 bg false false (size h) [x4] h:=(aZ afu base _ h).trans (by kernel_rfl)
noncomputable def Ln (base n0:Nat) (v3 v0:PV) (h:Hp):Option (PV × Hp):=Pt T Zf [1,1,0,1,0,1] base n0 [(3,v3),(0,v0)] h
theorem Gc (base n0:Nat) (v3 v0:PV) (h:Hp):Ln base n0 v3 v0 h =
 (cG true v0).ah fun x2 =>
 (binOp .lss v3 x2).ah fun x3 =>
 aD x3 (
 (lW v0 v3).ah fun x6 =>
 (binOp .geq x6 (.int .u8 97)).ah fun x9 =>
 (aq x9 true).ah fun TB=>(au TB (some x6) (some .undef)).ah fun iC =>
 (aq x9 true).ah fun Qh=>(au Qh ((binOp .leq iC (.int .u8 122)).ah some) (some .undef)).ah fun mo =>
 (aD x9 (some mo) (some (.bool false))).ah fun qf =>
 (aq qf false).ah fun b22=>(au b22 (some x6) (some .undef)).ah fun oy =>
 (aq qf false).ah fun b26=>(au b26 ((binOp .geq oy (.int .u8 48)).ah some) (some .undef)).ah fun yb =>
 (aq qf false).ah fun b30=>(au b30 (some yb) (some .undef)).ah fun Bz =>
 (aq Bz true).ah fun b34=>(au b34 (some x6) (some .undef)).ah fun Aj =>
 (aq Bz true).ah fun b38=>(au b38 ((binOp .leq Aj (.int .u8 57)).ah some) (some .undef)).ah fun s9 =>
 (aq qf false).ah fun b42=>(au b42 ((aD Bz (some s9) (some (.bool false))).ah some) (some .undef)).ah fun zY =>
 (aD qf (some (.bool true)) (some zY)).ah fun vg =>
 (aq vg false).ah fun b48=>(au b48 (some x6) (some .undef)).ah fun Gb =>
 (aq vg false).ah fun b52=>(au b52 ((binOp .eql Gb (.int .u8 46)).ah some) (some .undef)).ah fun D6 =>
 (aD vg (some (.bool true)) (some D6)).ah fun vi =>
 (aq vi false).ah fun b58=>(au b58 (some x6) (some .undef)).ah fun Lo =>
 (aq vi false).ah fun b62=>(au b62 ((binOp .eql Lo (.int .u8 45)).ah some) (some .undef)).ah fun JY =>
 (aD vi (some (.bool true)) (some JY)).ah fun TM =>
 (aq TM false).ah fun b68=>(au b68 (some x6) (some .undef)).ah fun NL =>
 (aq TM false).ah fun b72=>(au b72 ((binOp .eql NL (.int .u8 95)).ah some) (some .undef)).ah fun QF =>
 (aD TM (some (.bool true)) (some QF)).ah fun Ty =>
 (unOp .not Ty).ah fun Sc =>
 aD Sc (
 bg false false n0 [(.bool false)] h) (
 (binOp .add v3 (.int .i64 1)).ah fun OG =>
 Ln base n0 OG v0 h)) (
 bg false false n0 [(.bool true)] h):=(ej T Zf [1,1,0,1,0,1] base n0 [(3,v3),(0,v0)] h).trans (by kernel_rfl)
theorem S45 (base:Nat) (a0:PV) (h:Hp):ai T base 45 [a0] h =
 (cG true a0).ah fun x2 =>
 (binOp .lss x2 (.int .i64 1)).ah fun x3 =>
 (aq x3 false).ah fun b6=>(au b6 (some a0) (some .undef)).ah fun x5 =>
 (aq x3 false).ah fun b10=>(au b10 ((cG true x5).ah some) (some .undef)).ah fun x9 =>
 (aq x3 false).ah fun Xb=>(au Xb ((binOp .gtr x9 (.int .i64 16)).ah some) (some .undef)).ah fun iT =>
 (aD x3 (some (.bool true)) (some iT)).ah fun pz =>
 aD pz (
 bg false false (size h) [(.bool false)] h) (
 Ln (size h) (size h) (.int .i64 0) a0 h):=(aZ afv base _ h).trans (by kernel_rfl)
theorem S46 (base:Nat) (a0:PV) (h:Hp):ai T base 46 [a0] h =
 aG (ai T (size h) 20 [a0] h) fun x2 h3 =>
 (binOp .sub (.int .i64 1) x2).ah fun x4 =>
 bg false false (size h) [x4] h3:=(aZ afw base _ h).trans (by kernel_rfl)
noncomputable def Lp (base n0:Nat) (v5 v1 v0:PV) (h:Hp):Option (PV × Hp):=Pt T Zg [1,1,0,1,0,1] base n0 [(5,v5),(1,v1),(0,v0)] h
theorem Gd (base n0:Nat) (v5 v1 v0:PV) (h:Hp):Lp base n0 v5 v1 v0 h =
 (cG false v0).ah fun x2 =>
 (binOp .lss v5 x2).ah fun x3 =>
 aD x3 (
 (cX v0 v5 1).ah fun x6 =>
 (ax 1 false x6 h).ah fun x7 =>
 (cX v1 v5 1).ah fun iR =>
 (ax 1 false iR h).ah fun iC =>
 (binOp .neq x7 iC).ah fun gG =>
 aD gG (
 bg false false n0 [(.bool false)] h) (
 (binOp .add v5 (.int .i64 1)).ah fun mo =>
 Lp base n0 mo v1 v0 h)) (
 bg false false n0 [(.bool true)] h):=(ej T Zg [1,1,0,1,0,1] base n0 [(5,v5),(1,v1),(0,v0)] h).trans (by kernel_rfl)
theorem S47 (base:Nat) (a0 a1:PV) (h:Hp):ai T base 47 [a0,a1] h =
 (cG false a0).ah fun x2 =>
 (cG false a1).ah fun x4 =>
 (binOp .neq x2 x4).ah fun x5 =>
 aD x5 (
 bg false false (size h) [(.bool false)] h) (
 Lp (size h) (size h) (.int .i64 0) a1 a0 h):=(aZ afx base _ h).trans (by kernel_rfl)
theorem S49 (base:Nat) (a0 a1 a2:PV) (h:Hp):ai T base 49 [a0,a1,a2] h =
 aG (ai T base 81 [a0] h) fun x3 h4 =>
 aG (ai T base 82 [a0] h4) fun x6 h7 =>
 (binOp .quo x3 x6).ah fun x8 =>
 (binOp .lss a2 (.int .i64 1)).ah fun iC =>
 (aq iC false).ah fun Xb=>(au Xb (some a1) (some .undef)).ah fun iT =>
 (aq iC false).ah fun Xc=>(au Xc ((binOp .lss iT (.int .i64 0)).ah some) (some .undef)).ah fun pz =>
 (aD iC (some (.bool true)) (some pz)).ah fun oy =>
 (aq oy false).ah fun TC=>(au TC (some a1) (some .undef)).ah fun qG =>
 (aq oy false).ah fun TD=>(au TD (some x8) (some .undef)).ah fun BB =>
 (aq oy false).ah fun XE=>(au XE ((binOp .geq qG BB).ah some) (some .undef)).ah fun qj =>
 (aD oy (some (.bool true)) (some qj)).ah fun rI =>
 (aq rI false).ah fun b38=>(au b38 (some a2) (some .undef)).ah fun s9 =>
 (aq rI false).ah fun b42=>(au b42 (some x8) (some .undef)).ah fun zY =>
 (aq rI false).ah fun b46=>(au b46 (some a1) (some .undef)).ah fun vg =>
 (aq rI false).ah fun b50=>(au b50 ((binOp .sub zY vg).ah some) (some .undef)).ah fun x49 =>
 (aq rI false).ah fun b54=>(au b54 ((binOp .gtr s9 x49).ah some) (some .undef)).ah fun JJ =>
 (aD rI (some (.bool true)) (some JJ)).ah fun Lo =>
 aD Lo (
 bg true false (size h) [.bp,(.int .i64 1)] h7) (
 (dw [.bp,(.int .i64 0),(.int .i64 0)] [(0,1,a0),(1,1,a1),(2,1,a2)]).ah fun FW =>
 aG (tF 3 FW h7) fun QB h65 =>
 bg true false (size h) [QB,(.int .i64 0)] h65):=(gR afz base _ h).trans (by kernel_rfl)
noncomputable def Ge (base n0:Nat) (v5 v1 v4:PV) (h:Hp):Option (PV × Hp):=Pt T VV [1,1,1,0,1,0,1] base n0 [(5,v5),(1,v1),(4,v4)] h
noncomputable def Lq (base n0:Nat) (v6 v1 v4:PV) (h:Hp):Option (PV × Hp):=Pt T VV [1,1,1,1,0,1,0,1] base n0 [(6,v6),(1,v1),(4,v4)] h
theorem Gf (base n0:Nat) (v5 v1 v4:PV) (h:Hp):Ge base n0 v5 v1 v4 h =
 (binOp .lss v5 (.int .i64 16)).ah fun x1 =>
 aD x1 (
 (aA v1 2).ah fun x3 =>
 (ax 1 false x3 h).ah fun x4 =>
 (cG true x4).ah fun x5 =>
 (binOp .lss v5 x5).ah fun x6 =>
 aD x6 (
 (aA v1 2).ah fun x8 =>
 (ax 1 false x8 h).ah fun x9 =>
 (lW x9 v5).ah fun iC =>
 (cF 1 false [(.int .u8 0)] 1 [(0,strip iC)]).ah fun gG =>
 aG (cU base h (.vH 1) [v4,gG]) fun iT D5 =>
 (binOp .add v5 (.int .i64 1)).ah fun pz =>
 Ge base n0 pz v1 iT D5) (
 (cF 1 false [(.int .u8 0)] 1 [(0,strip (.int .u8 0))]).ah fun oh =>
 aG (cU base h (.vH 1) [v4,oh]) fun oy OH =>
 (binOp .add v5 (.int .i64 1)).ah fun yb =>
 Ge base n0 yb v1 oy OH)) (
 Lq base n0 (.int .i64 0) v1 v4 h):=(ej T VV [1,1,1,0,1,0,1] base n0 [(5,v5),(1,v1),(4,v4)] h).trans (by kernel_rfl)
theorem Gg (base n0:Nat) (v6 v1 v4:PV) (h:Hp):Lq base n0 v6 v1 v4 h =
 (binOp .lss v6 (.int .i64 32)).ah fun x1 =>
 aD x1 (
 (aA v1 3).ah fun x4 =>
 (aN 1 32 x4 v6).ah fun x5 =>
 (ax 1 false x5 h).ah fun x6 =>
 (cF 1 false [(.int .u8 0)] 1 [(0,strip x6)]).ah fun x7 =>
 aG (cU base h (.vH 1) [v4,x7]) fun x8 h9 =>
 (binOp .add v6 (.int .i64 1)).ah fun gG =>
 Lq base n0 gG v1 x8 h9) (
 aG (ai T base 85 [v4] h) fun mo HK =>
 bg false false n0 [mo,(.int .i64 0)] HK):=(ej T VV [1,1,1,1,0,1,0,1] base n0 [(6,v6),(1,v1),(4,v4)] h).trans (by kernel_rfl)
theorem S50 (base:Nat) (a0:PV) (h:Hp):ai T base 50 [a0] h =
 aG (tF 35 a0 h) fun x0 h1 =>
 (ax 35 true x0 h1).ah fun x4 =>
 aG (ai T (size h) 83 [x4] h1) fun x5 h6 =>
 (unOp .not x5).ah fun x7 =>
 aD x7 (
 bg false false (size h) [.bn,(.int .i64 1)] h6) (
 aG (rL (size h) 1 h6 (.fC [(.int .u8 79),(.int .u8 84),(.int .u8 80),(.int .u8 88)]) []) fun iR h11 =>
 aG (cU (size h) h11 .mark [iR]) fun gG h13 =>
 (aA x0 0).ah fun mq =>
 (nK ((size h)+1) 1 false mq h13).ah fun mo =>
 aG (oG (ai T (size h)) ((size h)+1) 84 [gG,mo] h13) fun oe Ak =>
 (aA x0 1).ah fun qu =>
 (nK ((size h)+1) 1 false qu Ak).ah fun qf =>
 (cu qf .u32).ah fun oh =>
 aG (oG (ai T (size h)) ((size h)+1) 84 [oe,oh] Ak) fun oy OH =>
 Ge (size h) (size h) (.int .i64 0) x0 oy OH):=(aZ afA base _ h).trans (by kernel_rfl)
noncomputable def Lr (base n0:Nat) (v4 v0 v3 v2:PV) (h:Hp):Option (PV × Hp):=Pt T Dy [1,1,0,1,0,1] base n0 [(4,v4),(0,v0),(3,v3),(2,v2)] h
noncomputable def Gh (base n0:Nat) (v3 v2 v0:PV) (h:Hp):Option (PV × Hp):=Pt T Dy [1,1,1,1,0,0,1] base n0 [(3,v3),(2,v2),(0,v0)] h
noncomputable def vj (base n0:Nat) (v6 v5 v3 v2:PV) (h:Hp):Option (PV × Hp):=Pt T Dy [1,1,1,1,1,1,0,1,0,1] base n0 [(6,v6),(5,v5),(3,v3),(2,v2)] h
noncomputable def qK (base n0:Nat) (v8 v3 v7 v2:PV) (h:Hp):Option (PV × Hp):=Pt T Dy [1,1,1,1,1,1,1,1,0,1,0,1] base n0 [(8,v8),(3,v3),(7,v7),(2,v2)] h
noncomputable def Ao (base n0:Nat) (v10 v9 v8 v3 v7 v2:PV) (h:Hp):Option (PV × Hp):=Pt T Dy [1,1,1,1,1,1,1,1,0,1,0,1,0,0,1,0,0,1,0,1,0,1] base n0 [(10,v10),(9,v9),(8,v8),(3,v3),(7,v7),(2,v2)] h
noncomputable def Ls (base n0:Nat) (TN Li v7 v2:PV) (h:Hp):Option (PV × Hp):=Pt T Dy [1,1,1,1,1,1,1,1,1,1,0,1,0,1] base n0 [(19,TN),(18,Li),(7,v7),(2,v2)] h
noncomputable def Gi (base n0:Nat) (US om v9 v7 v3 v2 v8:PV) (h:Hp):Option (PV × Hp):=Pt T Dy [1,1,1,1,1,1,1,1,0,1,0,1,0,0,1,0,0,1,1,1,0,1,0,1] base n0 [(14,US),(13,om),(9,v9),(7,v7),(3,v3),(2,v2),(8,v8)] h
noncomputable def Gj (base n0:Nat) (Af v7 om v3 v2 v8:PV) (h:Hp):Option (PV × Hp):=Pt T Dy [1,1,1,1,1,1,1,1,0,1,0,1,0,0,1,0,0,1,1,1,1,1,0,1] base n0 [(17,Af),(7,v7),(13,om),(3,v3),(2,v2),(8,v8)] h
theorem Gk (base n0:Nat) (v4 v0 v3 v2:PV) (h:Hp):Lr base n0 v4 v0 v3 v2 h =
 (cG false v0).ah fun x2 =>
 (binOp .lss v4 x2).ah fun x3 =>
 aD x3 (
 (cX v0 v4 1).ah fun x7 =>
 (ax 1 false x7 h).ah fun x8 =>
 (cF 1 false [(.int .u8 0)] 1 [(0,strip x8)]).ah fun x9 =>
 aG (qE 5 1 v3 x9 h) fun iR h11 =>
 (binOp .add v4 (.int .i64 1)).ah fun mq =>
 Lr base n0 mq v0 iR v2 h11) (
 (cF 1 false [(.int .u8 0)] 1 [(0,strip (.int .u8 128))]).ah fun pz =>
 aG (qE 5 1 v3 pz h) fun qu UQ =>
 Gh base n0 qu v2 v0 UQ):=(ej T Dy [1,1,0,1,0,1] base n0 [(4,v4),(0,v0),(3,v3),(2,v2)] h).trans (by kernel_rfl)
theorem Gl (base n0:Nat) (v3 v2 v0:PV) (h:Hp):Gh base n0 v3 v2 v0 h =
 (cG false v3).ah fun x1 =>
 (binOp .rem x1 (.int .i64 64)).ah fun x2 =>
 (binOp .neq x2 (.int .i64 56)).ah fun x3 =>
 aD x3 (
 (cF 1 false [(.int .u8 0)] 1 [(0,strip (.int .u8 0))]).ah fun x5 =>
 aG (qE 5 1 v3 x5 h) fun x6 h7 =>
 Gh base n0 x6 v2 v0 h7) (
 (cG false v0).ah fun iR =>
 (cu iR .u64).ah fun iC =>
 (binOp .mul iC (.int .u64 8)).ah fun gG =>
 vj base n0 (.int .i64 7) gG v3 v2 h):=(ej T Dy [1,1,1,1,0,0,1] base n0 [(3,v3),(2,v2),(0,v0)] h).trans (by kernel_rfl)
theorem Gm (base n0:Nat) (v6 v5 v3 v2:PV) (h:Hp):vj base n0 v6 v5 v3 v2 h =
 (binOp .geq v6 (.int .i64 0)).ah fun x1 =>
 aD x1 (
 (binOp .mul (.int .i64 8) v6).ah fun x5 =>
 (binOp .shr v5 x5).ah fun x6 =>
 (cu x6 .u8).ah fun x7 =>
 (cF 1 false [(.int .u8 0)] 1 [(0,strip x7)]).ah fun x8 =>
 aG (qE 5 1 v3 x8 h) fun x9 h10 =>
 (binOp .sub v6 (.int .i64 1)).ah fun iT =>
 vj base n0 iT v5 x9 v2 h10) (
 (dw (rep 8 (.int .u32 0)) [(0,1,(.int .u32 1779033703)),(1,1,(.int .u32 3144134277)),(2,1,(.int .u32 1013904242)),(3,1,(.int .u32 2773480762)),(4,1,(.int .u32 1359893119)),(5,1,(.int .u32 2600822924)),(6,1,(.int .u32 528734635)),(7,1,(.int .u32 1541459225))]).ah fun mo =>
 eu (rep 8 (.int .u32 0)) h fun oe Ak =>
 (aS base 8 oe mo Ak).ah fun h18 =>
 qK base n0 (.int .i64 0) v3 oe v2 h18):=(ej T Dy [1,1,1,1,1,1,0,1,0,1] base n0 [(6,v6),(5,v5),(3,v3),(2,v2)] h).trans (by kernel_rfl)
theorem Gn (base n0:Nat) (v8 v3 v7 v2:PV) (h:Hp):qK base n0 v8 v3 v7 v2 h =
 (cG false v3).ah fun x2 =>
 (binOp .lss v8 x2).ah fun x3 =>
 aD x3 (
 (dw (rep 64 (.int .u32 0)) []).ah fun x4 =>
 eu (rep 64 (.int .u32 0)) h fun x5 h6 =>
 (aS base 64 x5 x4 h6).ah fun h7 =>
 Ao base n0 (.int .i64 0) x5 v8 v3 v7 v2 h7) (
 (dw (rep 32 (.int .u8 0)) []).ah fun x9 =>
 eu (rep 32 (.int .u8 0)) h fun iR h11 =>
 (aS base 32 iR x9 h11).ah fun h12 =>
 Ls base n0 (.int .i64 0) iR v7 v2 h12):=(ej T Dy [1,1,1,1,1,1,1,1,0,1,0,1] base n0 [(8,v8),(3,v3),(7,v7),(2,v2)] h).trans (by kernel_rfl)
theorem Ap (base n0:Nat) (v10 v9 v8 v3 v7 v2:PV) (h:Hp):Ao base n0 v10 v9 v8 v3 v7 v2 h =
 (binOp .lss v10 (.int .i64 64)).ah fun x1 =>
 aD x1 (
 (binOp .lss v10 (.int .i64 16)).ah fun x3 =>
 aD x3 (
 (binOp .mul (.int .i64 4) v10).ah fun x8 =>
 (binOp .add v8 x8).ah fun x9 =>
 (cX v3 x9 1).ah fun iR =>
 (ax 1 false iR h).ah fun iC =>
 (cu iC .u32).ah fun gG =>
 (binOp .mul gG (.int .u32 16777216)).ah fun iT =>
 (binOp .mul (.int .i64 4) v10).ah fun pz =>
 (binOp .add v8 pz).ah fun qu =>
 (binOp .add qu (.int .i64 1)).ah fun qf =>
 (cX v3 qf 1).ah fun oh =>
 (ax 1 false oh h).ah fun oy =>
 (cu oy .u32).ah fun nv =>
 (binOp .mul nv (.int .u32 65536)).ah fun qG =>
 (binOp .add iT qG).ah fun s8 =>
 (binOp .mul (.int .i64 4) v10).ah fun Ag =>
 (binOp .add v8 Ag).ah fun Bz =>
 (binOp .add Bz (.int .i64 2)).ah fun Al =>
 (cX v3 Al 1).ah fun qj =>
 (ax 1 false qj h).ah fun Ah =>
 (cu Ah .u32).ah fun Aj =>
 (binOp .mul Aj (.int .u32 256)).ah fun tH =>
 (binOp .add s8 tH).ah fun rI =>
 (binOp .mul (.int .i64 4) v10).ah fun tI =>
 (binOp .add v8 tI).ah fun FZ =>
 (binOp .add FZ (.int .i64 3)).ah fun zY =>
 (cX v3 zY 1).ah fun NG =>
 (ax 1 false NG h).ah fun Lc =>
 (cu Lc .u32).ah fun vP =>
 (binOp .add rI vP).ah fun vg =>
 (aN 1 64 v9 v10).ah fun NH =>
 (aS base 1 NH vg h).ah fun h47 =>
 (binOp .add v10 (.int .i64 1)).ah fun x49 =>
 Ao base n0 x49 v9 v8 v3 v7 v2 h47) (
 (binOp .sub v10 (.int .i64 15)).ah fun QD =>
 (aN 1 64 v9 QD).ah fun JJ =>
 (ax 1 false JJ h).ah fun ya =>
 aG (gu (ai T base) 86 [ya,(.int .i64 7)] h) fun vi Sb=>(fun y=>if Sb=h then y else none) <|
 (binOp .sub v10 (.int .i64 15)).ah fun sI =>
 (aN 1 64 v9 sI).ah fun Cc =>
 (ax 1 false Cc h).ah fun Lm =>
 aG (gu (ai T base) 86 [Lm,(.int .i64 18)] h) fun JY h62=>(fun y=>if h62=h then y else none) <|
 (binOp .xor vi JY).ah fun FW =>
 (binOp .sub v10 (.int .i64 15)).ah fun TM =>
 (aN 1 64 v9 TM).ah fun NK =>
 (ax 1 false NK h).ah fun NL =>
 (binOp .shr NL (.int .u64 3)).ah fun DG =>
 (binOp .xor FW DG).ah fun HJ =>
 (binOp .sub v10 (.int .i64 2)).ah fun Tt =>
 (aN 1 64 v9 Tt).ah fun TJ =>
 (ax 1 false TJ h).ah fun TE =>
 aG (gu (ai T base) 86 [TE,(.int .i64 17)] h) fun Ty h76=>(fun y=>if h76=h then y else none) <|
 (binOp .sub v10 (.int .i64 2)).ah fun Sc =>
 (aN 1 64 v9 Sc).ah fun Tu =>
 (ax 1 false Tu h).ah fun x80 =>
 aG (gu (ai T base) 86 [x80,(.int .i64 19)] h) fun OG h82=>(fun y=>if h82=h then y else none) <|
 (binOp .xor Ty OG).ah fun QG =>
 (binOp .sub v10 (.int .i64 2)).ah fun x85 =>
 (aN 1 64 v9 x85).ah fun Xt =>
 (ax 1 false Xt h).ah fun NM =>
 (binOp .shr NM (.int .u64 10)).ah fun Tv =>
 (binOp .xor QG Tv).ah fun TL =>
 (binOp .sub v10 (.int .i64 16)).ah fun XG =>
 (aN 1 64 v9 XG).ah fun QC =>
 (ax 1 false QC h).ah fun WX =>
 (binOp .add WX HJ).ah fun Xu =>
 (binOp .sub v10 (.int .i64 7)).ah fun x99 =>
 (aN 1 64 v9 x99).ah fun Q0 =>
 (ax 1 false Q0 h).ah fun WZ =>
 (binOp .add Xu WZ).ah fun tM =>
 (binOp .add tM TL).ah fun JK =>
 (aN 1 64 v9 v10).ah fun NI =>
 (aS base 1 NI JK h).ah fun Xe =>
 (binOp .add v10 (.int .i64 1)).ah fun JL =>
 Ao base n0 JL v9 v8 v3 v7 v2 Xe)) (
 (ax 8 true v7 h).ah fun Tz =>
 eu (rep 8 (.int .u32 0)) h fun aa1 NN =>
 (aS base 8 aa1 Tz NN).ah fun al9 =>
 Gi base n0 (.int .i64 0) aa1 v9 v7 v3 v2 v8 al9):=(ej T Dy [1,1,1,1,1,1,1,1,0,1,0,1,0,0,1,0,0,1,0,1,0,1] base n0 [(10,v10),(9,v9),(8,v8),(3,v3),(7,v7),(2,v2)] h).trans (by kernel_rfl)
theorem Gp (base n0:Nat) (TN Li v7 v2:PV) (h:Hp):Ls base n0 TN Li v7 v2 h =
 (binOp .lss TN (.int .i64 32)).ah fun x1 =>
 aD x1 (
 (binOp .quo TN (.int .i64 4)).ah fun x4 =>
 (aN 1 8 v7 x4).ah fun x5 =>
 (ax 1 false x5 h).ah fun x6 =>
 (binOp .rem TN (.int .i64 4)).ah fun x8 =>
 (binOp .mul (.int .i64 8) x8).ah fun x9 =>
 (binOp .sub (.int .i64 24) x9).ah fun iR =>
 (binOp .shr x6 iR).ah fun iC =>
 (cu iC .u8).ah fun gG =>
 (aN 1 32 Li TN).ah fun iT =>
 (aS base 1 iT gG h).ah fun D5 =>
 (binOp .add TN (.int .i64 1)).ah fun oe =>
 Ls base n0 oe Li v7 v2 D5) (
 (ax 32 true Li h).ah fun qu =>
 (aS base 32 v2 qu h).ah fun UQ =>
 (qQ v2 UQ 32 true).ah fun r20 =>
 bg false false n0 [r20] UQ):=(ej T Dy [1,1,1,1,1,1,1,1,1,1,0,1,0,1] base n0 [(19,TN),(18,Li),(7,v7),(2,v2)] h).trans (by kernel_rfl)
theorem Gq (base n0:Nat) (US om v9 v7 v3 v2 v8:PV) (h:Hp):Gi base n0 US om v9 v7 v3 v2 v8 h =
 (binOp .lss US (.int .i64 64)).ah fun x1 =>
 aD x1 (
 (aN 1 8 om (.int .i64 7)).ah fun x2 =>
 (ax 1 false x2 h).ah fun x3 =>
 (aN 1 8 om (.int .i64 4)).ah fun x4 =>
 (ax 1 false x4 h).ah fun x5 =>
 aG (gu (ai T base) 86 [x5,(.int .i64 6)] h) fun x6 h7=>(fun y=>if h7=h then y else none) <|
 (aN 1 8 om (.int .i64 4)).ah fun x8 =>
 (ax 1 false x8 h).ah fun x9 =>
 aG (gu (ai T base) 86 [x9,(.int .i64 11)] h) fun iR h11=>(fun y=>if h11=h then y else none) <|
 (binOp .xor x6 iR).ah fun gG =>
 (aN 1 8 om (.int .i64 4)).ah fun iT =>
 (ax 1 false iT h).ah fun mq =>
 aG (gu (ai T base) 86 [mq,(.int .i64 25)] h) fun mo HK=>(fun y=>if HK=h then y else none) <|
 (binOp .xor gG mo).ah fun pz =>
 (binOp .add x3 pz).ah fun qu =>
 (aN 1 8 om (.int .i64 4)).ah fun qf =>
 (ax 1 false qf h).ah fun oh =>
 (aN 1 8 om (.int .i64 5)).ah fun oy =>
 (ax 1 false oy h).ah fun nv =>
 (binOp .and oh nv).ah fun qG =>
 (aN 1 8 om (.int .i64 4)).ah fun s8 =>
 (ax 1 false s8 h).ah fun yb =>
 (unOp .xor yb).ah fun mX =>
 (aN 1 8 om (.int .i64 6)).ah fun BB =>
 (ax 1 false BB h).ah fun Ag =>
 (binOp .and mX Ag).ah fun Bz =>
 (binOp .xor qG Bz).ah fun Al =>
 (binOp .add qu Al).ah fun qj =>
 (aN 1 64 (.ep KS 0) US).ah fun Aj =>
 (ax 1 false Aj h).ah fun tH =>
 (binOp .add qj tH).ah fun rI =>
 (aN 1 64 v9 US).ah fun s9 =>
 (ax 1 false s9 h).ah fun Ai =>
 (binOp .add rI Ai).ah fun tI =>
 (aN 1 8 om (.int .i64 0)).ah fun zY =>
 (ax 1 false zY h).ah fun NG =>
 aG (gu (ai T base) 86 [NG,(.int .i64 2)] h) fun Lc h44=>(fun y=>if h44=h then y else none) <|
 (aN 1 8 om (.int .i64 0)).ah fun vg =>
 (ax 1 false vg h).ah fun NH =>
 aG (gu (ai T base) 86 [NH,(.int .i64 13)] h) fun Gb h48=>(fun y=>if h48=h then y else none) <|
 (binOp .xor Lc Gb).ah fun x49 =>
 (aN 1 8 om (.int .i64 0)).ah fun FV =>
 (ax 1 false FV h).ah fun D6 =>
 aG (gu (ai T base) 86 [D6,(.int .i64 22)] h) fun QD h53=>(fun y=>if h53=h then y else none) <|
 (binOp .xor x49 QD).ah fun ya =>
 (aN 1 8 om (.int .i64 0)).ah fun vi =>
 (ax 1 false vi h).ah fun QE =>
 (aN 1 8 om (.int .i64 1)).ah fun Lo =>
 (ax 1 false Lo h).ah fun sI =>
 (binOp .and QE sI).ah fun Cc =>
 (aN 1 8 om (.int .i64 0)).ah fun Lm =>
 (ax 1 false Lm h).ah fun JY =>
 (aN 1 8 om (.int .i64 2)).ah fun Tx =>
 (ax 1 false Tx h).ah fun FW =>
 (binOp .and JY FW).ah fun QB =>
 (binOp .xor Cc QB).ah fun TM =>
 (aN 1 8 om (.int .i64 1)).ah fun NK =>
 (ax 1 false NK h).ah fun NL =>
 (aN 1 8 om (.int .i64 2)).ah fun DG =>
 (ax 1 false DG h).ah fun HJ =>
 (binOp .and NL HJ).ah fun Xs =>
 (binOp .xor TM Xs).ah fun QF =>
 (binOp .add ya QF).ah fun Tt =>
 (binOp .add tI Tt).ah fun WV =>
 (aN 1 8 om (.int .i64 0)).ah fun TK =>
 (ax 1 false TK h).ah fun Sc =>
 (aN 1 8 om (.int .i64 1)).ah fun Tu =>
 (ax 1 false Tu h).ah fun x80 =>
 (aN 1 8 om (.int .i64 2)).ah fun OG =>
 (ax 1 false OG h).ah fun UP =>
 (aN 1 8 om (.int .i64 3)).ah fun QG =>
 (ax 1 false QG h).ah fun WW =>
 (binOp .add WW tI).ah fun Xt =>
 (aN 1 8 om (.int .i64 4)).ah fun NM =>
 (ax 1 false NM h).ah fun Tv =>
 (aN 1 8 om (.int .i64 5)).ah fun TL =>
 (ax 1 false TL h).ah fun OF =>
 (aN 1 8 om (.int .i64 6)).ah fun Tw =>
 (ax 1 false Tw h).ah fun XD =>
 (dw (rep 8 (.int .u32 0)) [(0,1,WV),(1,1,Sc),(2,1,x80),(3,1,UP),(4,1,Xt),(5,1,Tv),(6,1,OF),(7,1,XD)]).ah fun XG =>
 (aS base 8 om XG h).ah fun h94 =>
 (binOp .add US (.int .i64 1)).ah fun WY =>
 Gi base n0 WY om v9 v7 v3 v2 v8 h94) (
 Gj base n0 (.int .i64 0) v7 om v3 v2 v8 h):=(ej T Dy [1,1,1,1,1,1,1,1,0,1,0,1,0,0,1,0,0,1,1,1,0,1,0,1] base n0 [(14,US),(13,om),(9,v9),(7,v7),(3,v3),(2,v2),(8,v8)] h).trans (by kernel_rfl)
theorem Gr (base n0:Nat) (Af v7 om v3 v2 v8:PV) (h:Hp):Gj base n0 Af v7 om v3 v2 v8 h =
 (binOp .lss Af (.int .i64 8)).ah fun x1 =>
 aD x1 (
 (aN 1 8 v7 Af).ah fun x4 =>
 (ax 1 false x4 h).ah fun x5 =>
 (aN 1 8 om Af).ah fun x7 =>
 (ax 1 false x7 h).ah fun x8 =>
 (binOp .add x5 x8).ah fun x9 =>
 (aN 1 8 v7 Af).ah fun iR =>
 (aS base 1 iR x9 h).ah fun h11 =>
 (binOp .add Af (.int .i64 1)).ah fun iT =>
 Gj base n0 iT v7 om v3 v2 v8 h11) (
 (binOp .add v8 (.int .i64 64)).ah fun oe =>
 qK base n0 oe v3 v7 v2 h):=(ej T Dy [1,1,1,1,1,1,1,1,0,1,0,1,0,0,1,0,0,1,1,1,1,1,0,1] base n0 [(17,Af),(7,v7),(13,om),(3,v3),(2,v2),(8,v8)] h).trans (by kernel_rfl)
theorem S51 (base:Nat) (a0:PV) (h:Hp):ai T base 51 [a0] h =
 eu (rep 32 (.int .u8 0)) h fun x0 h1 =>
 (cF 1 false [(.int .u8 0)] 0 []).ah fun x2 =>
 Lr (size h) (size h) (.int .i64 0) a0 x2 x0 h1:=(aZ afB base _ h).trans (by kernel_rfl)
noncomputable def Gs (base n0:Nat) (v4 v0 v3:PV) (h:Hp):Option (PV × Hp):=Pt T VW [1,1,0,1,0,1] base n0 [(4,v4),(0,v0),(3,v3)] h
noncomputable def Lt (base n0:Nat) (v5 v4 v0 v3:PV) (h:Hp):Option (PV × Hp):=Pt T VW [1,1,0,1,0,1,0,0,1,0,0,1,0,1] base n0 [(5,v5),(4,v4),(0,v0),(3,v3)] h
theorem Gt (base n0:Nat) (v4 v0 v3:PV) (h:Hp):Gs base n0 v4 v0 v3 h =
 (cG false v0).ah fun x2 =>
 (binOp .lss v4 x2).ah fun x3 =>
 aD x3 (
 Lt base n0 (.int .i64 0) v4 v0 v3 h) (
 bg false true n0 [v3] h):=(ej T VW [1,1,0,1,0,1] base n0 [(4,v4),(0,v0),(3,v3)] h).trans (by kernel_rfl)
theorem Gu (base n0:Nat) (v5 v4 v0 v3:PV) (h:Hp):Lt base n0 v5 v4 v0 v3 h =
 (cX v0 v4 1).ah fun x3 =>
 (ax 1 false x3 h).ah fun x4 =>
 (cG false x4).ah fun x5 =>
 (binOp .lss v5 x5).ah fun x6 =>
 aD x6 (
 (cX v0 v4 1).ah fun iR =>
 (ax 1 false iR h).ah fun iC =>
 (cX iC v5 1).ah fun iT =>
 (ax 1 false iT h).ah fun mq =>
 (cF 1 false [(.int .u8 0)] 1 [(0,strip mq)]).ah fun mo =>
 aG (cU base h (.vH 1) [v3,mo]) fun oe Ak =>
 (binOp .add v5 (.int .i64 1)).ah fun oh =>
 Lt base n0 oh v4 v0 oe Ak) (
 (binOp .add v4 (.int .i64 1)).ah fun qG =>
 Gs base n0 qG v0 v3 h):=(ej T VW [1,1,0,1,0,1,0,0,1,0,0,1,0,1] base n0 [(5,v5),(4,v4),(0,v0),(3,v3)] h).trans (by kernel_rfl)
theorem S52 (base:Nat) (a0:PV) (h:Hp):ai T base 52 [a0] h =
 (cF 1 false [(.int .u8 0)] 0 []).ah fun x1 =>
 Gs (size h) (size h) (.int .i64 0) a0 x1 h:=(aZ afC base _ h).trans (by kernel_rfl)
theorem S53 (base:Nat) (a0:PV) (h:Hp):ai T base 53 [a0] h =
 (aF a0).ah fun x2 =>
 (aA x2 0).ah fun x3 =>
 (aN 1 2 x3 (.int .i64 0)).ah fun x4 =>
 (ax 1 false x4 h).ah fun x5 =>
 aG (ai T (size h) 87 [x5] h) fun x6 h7 =>
 aG (ai T (size h) 41 [x6] h7) fun x8 h9 =>
 (aq x8 false).ah fun TB=>(au TB (some a0) (some .undef)).ah fun iC =>
 (aq x8 false).ah fun Qh=>(au Qh ((aF iC).ah some) (some .undef)).ah fun mo =>
 (aq x8 false).ah fun Te=>(au Te ((aA mo 0).ah some) (some .undef)).ah fun qf =>
 (aq x8 false).ah fun TC=>(au TC ((aN 1 2 qf (.int .i64 1)).ah some) (some .undef)).ah fun qG =>
 (aq x8 false).ah fun TD=>(au TD ((ax 1 false qG h9).ah some) (some .undef)).ah fun BB =>
 (aq x8 false).ah fun XE=>aG (au XE (aG (ai T (size h) 87 [BB] h9) fun tH JX=>some (tH,JX)) (some (.undef,h9))) fun qj JX =>
 (aq x8 false).ah fun b36=>aG (au b36 (aG (ai T (size h) 41 [qj] JX) fun Ai h37=>some (Ai,h37)) (some (.undef,JX))) fun rI h37 =>
 (aD x8 (some (.bool true)) (some rI)).ah fun tI =>
 bg false false (size h) [tI] h37:=(aZ afD base _ h).trans (by kernel_rfl)
theorem S54 (base:Nat) (a0:PV) (h:Hp):ai T base 54 [a0] h =
 (aF a0).ah fun x2 =>
 (aA x2 2).ah fun x3 =>
 (ax 1 false x3 h).ah fun x4 =>
 (aF a0).ah fun x6 =>
 (aA x6 0).ah fun x7 =>
 (ax 1 false x7 h).ah fun x8 =>
 aG (gu (ai T (size h)) 82 [x8] h) fun x9 h10=>(fun y=>if h10=h then y else none) <|
 (binOp .mul x4 x9).ah fun iC =>
 bg false false (size h) [iC] h:=(aZ afE base _ h).trans (by kernel_rfl)
noncomputable def Lu (base n0:Nat) (v9 v0 v8:PV) (h:Hp):Option (PV × Hp):=Pt T Zh [1,0,1,0,1] base n0 [(9,v9),(0,v0),(8,v8)] h
theorem Gv (base n0:Nat) (v9 v0 v8:PV) (h:Hp):Lu base n0 v9 v0 v8 h =
 (binOp .lss v9 v8).ah fun x0 =>
 aD x0 (
 (aF v0).ah fun x4 =>
 (aA x4 0).ah fun x5 =>
 (ax 1 false x5 h).ah fun x6 =>
 (aF v0).ah fun x8 =>
 (aA x8 1).ah fun x9 =>
 (ax 1 false x9 h).ah fun iR =>
 (binOp .add iR v9).ah fun gG =>
 aG (ai T base 88 [x6,gG] h) fun iT D5 =>
 (binOp .neq iT (.int .i64 0)).ah fun pz =>
 aD pz (
 bg false false n0 [iT] D5) (
 (binOp .add v9 (.int .i64 1)).ah fun oh =>
 Lu base n0 oh v0 v8 D5)) (
 bg false false n0 [(.int .i64 0)] h):=(ej T Zh [1,0,1,0,1] base n0 [(9,v9),(0,v0),(8,v8)] h).trans (by kernel_rfl)
theorem S55 (base:Nat) (a0:PV) (h:Hp):ai T base 55 [a0] h =
 (aF a0).ah fun x2 =>
 (aA x2 2).ah fun x3 =>
 (ax 1 false x3 h).ah fun x4 =>
 Lu (size h) (size h) (.int .i64 0) a0 x4 h:=(aZ afF base _ h).trans (by kernel_rfl)
theorem S56 (base:Nat) (h:Hp):ai T base 56 [] h =
 aG (ai T base 89 [] h) fun x1 h2 =>
 (dw (rep 8 (.int .u32 0)++rep 64 (.int .u8 0)++[(.int .i64 0)]) [(0,8,x1)]).ah fun x3 =>
 aG (tF 73 x3 h2) fun x4 h5 =>
 bg true false (size h) [x4] h5:=(gR afG base _ h).trans (by kernel_rfl)
theorem S57 (base:Nat) (a0:PV) (h:Hp):ai T base 57 [a0] h =
 aG (ai T (size h) 53 [a0] h) fun x2 h3 =>
 aD x2 (
 aG (ai T (size h) 36 [a0] h3) fun x6 h7 =>
 bg false false (size h) [(.int .i64 30)] h7) (
 (aF a0).ah fun iR =>
 (aA iR 4).ah fun iC =>
 (ax 1 false iC h3).ah fun gG =>
 (gE 0 false gG).ah fun iT =>
 aD iT (
 bg false false (size h) [(.int .i64 60)] h3) (
 bg false false (size h) [(.int .i64 0)] h3)):=(aZ afH base _ h).trans (by kernel_rfl)
theorem S58 (base:Nat) (a0 a1:PV) (h:Hp):ai T base 58 [a0,a1] h =
 (cG false a1).ah fun x1 =>
 (aF a0).ah fun x3 =>
 (aA x3 2).ah fun x4 =>
 (ax 1 false x4 h).ah fun x5 =>
 (cG false x5).ah fun x6 =>
 (binOp .sub (.int .i64 64) x6).ah fun x7 =>
 (jH false [x1,x7]).ah fun x8 =>
 (aF a0).ah fun gG =>
 (aA gG 2).ah fun iT =>
 (ax 1 false iT h).ah fun mq =>
 (cZ (some 1) none (some x8) none a1).ah fun pz =>
 aG (qE 5 1 mq pz h) fun qu UQ =>
 (aF a0).ah fun oh =>
 (aA oh 2).ah fun oy =>
 (aS base 1 oy qu UQ).ah fun OH =>
 (aF a0).ah fun s8 =>
 (aA s8 3).ah fun yb =>
 (ax 1 false yb OH).ah fun mX =>
 (cZ (some 1) (some x8) none none a1).ah fun Bz =>
 aG (ai T base 90 [mX,Bz] OH) fun Al UT =>
 (aF a0).ah fun Aj =>
 (aA Aj 1).ah fun tH =>
 (ax 1 false tH UT).ah fun rI =>
 (cG false a1).ah fun s9 =>
 (binOp .add rI s9).ah fun Ai =>
 (aF a0).ah fun tI =>
 (aA tI 1).ah fun FZ =>
 (aS base 1 FZ Ai UT).ah fun h41 =>
 bg true false (size h) [] h41:=(gR afI base _ h).trans (by kernel_rfl)
theorem S59 (base:Nat) (a0:PV) (h:Hp):ai T base 59 [a0] h =
 (aF a0).ah fun x2 =>
 (aA x2 2).ah fun x3 =>
 (ax 1 false x3 h).ah fun x4 =>
 (cG false x4).ah fun x5 =>
 (binOp .lss x5 (.int .i64 64)).ah fun x6 =>
 aD x6 (
 bg false false (size h) [(.int .i64 0)] h) (
 (aF a0).ah fun x9 =>
 (aA x9 2).ah fun iR =>
 (ax 1 false iR h).ah fun iC =>
 aG (ai T (size h) 60 [iC] h) fun gG h13 =>
 (aE gG 0).ah fun mo =>
 (aE gG 1).ah fun oe =>
 eu D4 h13 fun pz h18 =>
 (aS (size h) 35 pz mo h18).ah fun UQ =>
 (binOp .eql oe (.int .i64 0)).ah fun nv =>
 (aq nv true).ah fun b25=>(au b25 ((aA pz 1).ah some) (some .undef)).ah fun s8 =>
 (aq nv true).ah fun WT=>(au WT ((ax 1 false s8 UQ).ah some) (some .undef)).ah fun Ag =>
 (aq nv true).ah fun b33=>(au b33 ((binOp .add Ag (.int .i64 64)).ah some) (some .undef)).ah fun Ah =>
 (aq nv true).ah fun b37=>(au b37 (some a0) (some .undef)).ah fun QK =>
 (aq nv true).ah fun b41=>(au b41 ((aF QK).ah some) (some .undef)).ah fun FZ =>
 (aq nv true).ah fun b45=>(au b45 ((aA FZ 0).ah some) (some .undef)).ah fun vP =>
 (aq nv true).ah fun b49=>(au b49 ((ax 1 false vP UQ).ah some) (some .undef)).ah fun HI =>
 (aq nv true).ah fun b53=>(au b53 ((binOp .neq Ah HI).ah some) (some .undef)).ah fun QD =>
 (aD nv (some QD) (some (.bool false))).ah fun QE =>
 aD QE (
 bg false false (size h) [(.int .i64 53)] UQ) (
 bg false false (size h) [oe] UQ)):=(aZ as4 base _ h).trans (by kernel_rfl)
theorem S60 (base:Nat) (a0:PV) (h:Hp):ai T base 60 [a0] h =
 eu D4 h fun x0 h1 =>
 (cG false a0).ah fun x4 =>
 (binOp .lss x4 (.int .i64 64)).ah fun x5 =>
 aD x5 (
 (dw D4 []).ah fun x7 =>
 (aS (size h) 35 x0 x7 h1).ah fun h8 =>
 (qQ x0 h8 35 true).ah fun r10 =>
 bg false false (size h) [r10,(.int .i64 20)] h8) (
 aG (cU (size h) h1 (.fC [(.int .u8 79),(.int .u8 84),(.int .u8 80),(.int .u8 88)]) []) fun gG h13 =>
 aG (cU (size h) h13 .mark [gG]) fun mq Ql =>
 aG (ai T (size h) 91 [a0,mq] Ql) fun oe Ak =>
 (unOp .not oe).ah fun qu =>
 aD qu (
 (dw D4 []).ah fun oh =>
 (aS (size h) 35 x0 oh Ak).ah fun FY =>
 (qQ x0 FY 35 true).ah fun r23 =>
 bg false false (size h) [r23,(.int .i64 50)] FY) (
 (cZ (some 1) none (some (.int .i64 64)) none a0).ah fun yb =>
 aG (ai T (size h) 92 [yb] Ak) fun Ag Q1 =>
 (aE Ag 0).ah fun qj =>
 (aE Ag 1).ah fun Ah =>
 (unOp .not Ah).ah fun QK =>
 aD QK (
 (dw D4 []).ah fun s9 =>
 (aS (size h) 35 x0 s9 Q1).ah fun UO =>
 (qQ x0 UO 35 true).ah fun r40 =>
 bg false false (size h) [r40,(.int .i64 51)] UO) (
 eu D4 Q1 fun zY h42 =>
 (cZ (some 1) (some (.int .i64 4)) none none yb).ah fun vP =>
 aG (ai T (size h) 93 [vP] h42) fun vg h46 =>
 (aE vg 0).ah fun HI =>
 (aE vg 1).ah fun x49 =>
 (aA zY 0).ah fun FV =>
 (aS (size h) 1 FV HI h46).ah fun h51 =>
 (cZ (some 1) (some (.int .i64 8)) none none yb).ah fun JJ =>
 aG (ai T (size h) 93 [JJ] h51) fun ya h55 =>
 (aE ya 0).ah fun Lo =>
 (aE ya 1).ah fun sI =>
 (cZ (some 1) (some (.int .i64 12)) (some (.int .i64 28)) none yb).ah fun Tx =>
 aG (ai T (size h) 94 [Tx] h55) fun FW HL =>
 (aE FW 0).ah fun NK =>
 (aE FW 1).ah fun NL =>
 (unOp .not NL).ah fun QF =>
 (aq QF false).ah fun b74=>(au b74 (some Lo) (some .undef)).ah fun TJ =>
 (aq QF false).ah fun b78=>(au b78 ((binOp .gtr TJ (.int .u32 1048576)).ah some) (some .undef)).ah fun TK =>
 (aD QF (some (.bool true)) (some TK)).ah fun OG =>
 aD OG (
 (dw D4 []).ah fun UP =>
 (aS (size h) 35 x0 UP HL).ah fun h83 =>
 (qQ x0 h83 35 true).ah fun r85 =>
 bg false false (size h) [r85,(.int .i64 20)] h83) (
 (cu Lo .i64).ah fun NM =>
 (aA zY 1).ah fun TL =>
 (aS (size h) 1 TL NM HL).ah fun h90 =>
 (aA zY 2).ah fun Tw =>
 (aS (size h) 1 Tw NK h90).ah fun h92 =>
 (aA zY 3).ah fun XG =>
 aG (cU (size h) h92 (.jr 1 32 false false) [XG]) fun QC h95 =>
 (cZ (some 1) (some (.int .i64 28)) (some (.int .i64 60)) none yb).ah fun Xu =>
 aG (copyV (size h) QC Xu h95) fun Sa Yr =>
 (ax 35 true zY Yr).ah fun Q0 =>
 (aS (size h) 35 x0 Q0 Yr).ah fun aa2 =>
 (qQ x0 aa2 35 true).ah fun amf =>
 bg false false (size h) [amf,(.int .i64 0)] aa2)))):=(aZ afJ base _ h).trans (by kernel_rfl)
noncomputable def adz (base n0:Nat) (v4 Li Af v2:PV) (h:Hp):Option (PV × Hp):=Pt T F61 [1,1,1,1,0,1,0,1] base n0 [(4,v4),(18,Li),(17,Af),(2,v2)] h
noncomputable def acN (base n0:Nat) (v22 v4 v6 v5 Af v2 Li:PV) (h:Hp):Option (PV × Hp):=Pt T F61 [1,1,1,1,0,1,0,1,0,0,1,1,0,0,1,1,0,1] base n0 [(22,v22),(4,v4),(6,v6),(5,v5),(17,Af),(2,v2),(18,Li)] h
theorem adA (base n0:Nat) (v4 Li Af v2:PV) (h:Hp):adz base n0 v4 Li Af v2 h =
 (binOp .lss Li (.int .i64 8)).ah fun x0 =>
 aD x0 (
 (sx 1 false 8 Af Li).ah fun x2 =>
 acN base n0 (.int .i64 0) v4 x2 Li Af v2 Li h) (
 (ax 32 true v4 h).ah fun x6 =>
 (aS base 32 v2 x6 h).ah fun h7 =>
 (qQ v2 h7 32 true).ah fun r8 =>
 bg false false n0 [r8] h7):=(ej T F61 [1,1,1,1,0,1,0,1] base n0 [(4,v4),(18,Li),(17,Af),(2,v2)] h).trans (by kernel_rfl)
theorem adB (base n0:Nat) (v22 v4 v6 v5 Af v2 Li:PV) (h:Hp):acN base n0 v22 v4 v6 v5 Af v2 Li h =
 (binOp .lss v22 (.int .i64 4)).ah fun x0 =>
 aD x0 (
 (binOp .mul (.int .i64 4) v5).ah fun x4 =>
 (binOp .add x4 v22).ah fun x6 =>
 (binOp .mul (.int .i64 8) v22).ah fun x9 =>
 (binOp .sub (.int .i64 24) x9).ah fun iR =>
 (binOp .shr v6 iR).ah fun iC =>
 (cu iC .u8).ah fun gG =>
 (aN 1 32 v4 x6).ah fun iT =>
 (aS base 1 iT gG h).ah fun D5 =>
 (binOp .add v22 (.int .i64 1)).ah fun mo =>
 acN base n0 mo v4 v6 v5 Af v2 Li D5) (
 (binOp .add Li (.int .i64 1)).ah fun pz =>
 adz base n0 v4 pz Af v2 h):=(ej T F61 [1,1,1,1,0,1,0,1,0,0,1,1,0,0,1,1,0,1] base n0 [(22,v22),(4,v4),(6,v6),(5,v5),(17,Af),(2,v2),(18,Li)] h).trans (by kernel_rfl)
theorem S61 (base:Nat) (a0:PV) (h:Hp):ai T base 61 [a0] h =
 eu (rep 32 (.int .u8 0)) h fun x0 h1 =>
 aG (ai T (size h) 95 [a0] h1) fun x3 h4 =>
 aG (ai T (size h) 96 [a0] h4) fun x8 h9 =>
 aG (ai T (size h) 90 [x3,x8] h9) fun iR h11 =>
 eu (rep 32 (.int .u8 0)) h11 fun gG h13 =>
 (aF x3).ah fun mo =>
 (aA mo 0).ah fun oe =>
 (ax 8 true oe h13).ah fun pz =>
 adz (size h) (size h) gG (.int .i64 0) pz x0 h13:=(aZ as5 base _ h).trans (by kernel_rfl)
theorem S62 (base:Nat) (a0 a1 a2:PV) (h:Hp):ai T base 62 [a0,a1,a2] h =
 aG (ai T base 66 [a0] h) fun x2 h3 =>
 (aE x2 0).ah fun x5 =>
 (aE x2 1).ah fun x6 =>
 (binOp .eql x5 a1).ah fun iC =>
 (aq iC true).ah fun Xb=>(au Xb (some x6) (some .undef)).ah fun iT =>
 (aq iC true).ah fun Xc=>(au Xc (some a2) (some .undef)).ah fun pz =>
 (aq iC true).ah fun b22=>(au b22 ((binOp .eql iT pz).ah some) (some .undef)).ah fun oy =>
 (aD iC (some oy) (some (.bool false))).ah fun yb =>
 aD yb (
 bg true false (size h) [(.int .i64 0)] h3) (
 (aF a0).ah fun Ag =>
 (aA Ag 2).ah fun Bz =>
 (ax 1 false Bz h3).ah fun Al =>
 (cu a1 .u8).ah fun Ah =>
 (cu a2 .u8).ah fun tH =>
 (cF 1 false [(.int .u8 0)] 2 [(0,strip Ah),(1,strip tH)]).ah fun rI =>
 aG (ai T base 97 [Al,(.int .i64 0),rI] h3) fun QK h37 =>
 bg true false (size h) [QK] h37):=(gR as6 base _ h).trans (by kernel_rfl)
theorem S63 (base:Nat) (a0 a1:PV) (h:Hp):ai T base 63 [a0,a1] h =
 (dw [.bp,.bp] [(0,1,a0),(1,1,a1)]).ah fun x4 =>
 aG (ai T base 54 [a0] h) fun x6 h7 =>
 aG (ai T base 54 [a1] h7) fun x9 h10 =>
 (jH false [x6,x9]).ah fun iC =>
 (dw [.bp,.bp,(.int .i64 0),(.int .i64 0),(.int .u32 0),(.int .i64 0),.gr] [(0,2,x4),(2,1,iC)]).ah fun gG =>
 aG (tF 7 gG h10) fun iT D5 =>
 aG (ai T base 87 [a0] D5) fun pz h18 =>
 aG (ai T base 41 [pz] h18) fun qf Yu =>
 (aq qf false).ah fun b23=>(au b23 (some a1) (some .undef)).ah fun nv =>
 (aq qf false).ah fun b27=>aG (au b27 (aG (ai T base 87 [nv] Yu) fun Bz h28=>some (Bz,h28)) (some (.undef,Yu))) fun mX h28 =>
 (aq qf false).ah fun b31=>aG (au b31 (aG (ai T base 41 [mX] h28) fun Aj Yw=>some (Aj,Yw)) (some (.undef,h28))) fun Al Yw =>
 (aD qf (some (.bool true)) (some Al)).ah fun tH =>
 aD tH (
 bg true false (size h) [.bp,(.int .i64 30)] Yw) (
 (aF iT).ah fun Ai =>
 (aA Ai 2).ah fun tI =>
 (ax 1 false tI Yw).ah fun FZ =>
 (binOp .lss FZ (.int .i64 32)).ah fun zY =>
 aD zY (
 bg true false (size h) [.bp,(.int .i64 53)] Yw) (
 aG (ai T base 98 [iT] Yw) fun vg h46 =>
 (aE vg 0).ah fun HI =>
 (aE vg 1).ah fun x49 =>
 (binOp .neq x49 (.int .i64 0)).ah fun JJ =>
 aD JJ (
 bg true false (size h) [.bp,x49] h46) (
 (unOp .not HI).ah fun sI =>
 aD sI (
 aG (cU base h46 .makeMap []) fun JY h62 =>
 (aF iT).ah fun FW =>
 (aA FW 6).ah fun QB =>
 (aS base 1 QB JY h62).ah fun h65 =>
 (aF iT).ah fun NK =>
 (aA NK 3).ah fun NL =>
 (aS base 1 NL (.int .i64 1) h65).ah fun h68 =>
 (aF iT).ah fun QF =>
 (aA QF 6).ah fun Tt =>
 (ax 1 false Tt h68).ah fun TJ =>
 aG (ai T base 99 [iT,TJ] h68) fun TE h75 =>
 (binOp .neq TE (.int .i64 0)).ah fun Sc =>
 aD Sc (
 bg true false (size h) [.bp,TE] h75) (
 bg true false (size h) [iT,(.int .i64 0)] h75)) (
 aG (ai T base 100 [iT] h46) fun Xt h87 =>
 (aE Xt 0).ah fun TL =>
 (aE Xt 1).ah fun OF =>
 (binOp .eql OF (.int .i64 0)).ah fun QC =>
 (aq QC true).ah fun b97=>(au b97 (some TL) (some .undef)).ah fun WY =>
 (aD QC (some WY) (some (.bool false))).ah fun Q0 =>
 aD Q0 (
 (aF iT).ah fun ahx =>
 (aA ahx 6).ah fun JK =>
 (ax 1 false JK h87).ah fun NI =>
 aG (ai T base 99 [iT,NI] h87) fun ahj aeU =>
 (binOp .neq ahj (.int .i64 0)).ah fun Tz =>
 aD Tz (
 bg true false (size h) [.bp,ahj] aeU) (
 bg true false (size h) [iT,(.int .i64 0)] aeU)) (
 (binOp .neq OF (.int .i64 0)).ah fun alK =>
 aD alK (
 bg true false (size h) [.bp,OF] h87) (
 bg true false (size h) [iT,(.int .i64 0)] h87)))))):=(gR as7 base _ h).trans (by kernel_rfl)
theorem S64 (base:Nat) (a0 a1 a2:PV) (h:Hp):ai T base 64 [a0,a1,a2] h =
 (dw [.bp,.bp] [(0,1,a0),(1,1,a1)]).ah fun x3 =>
 (dw [.bp,.bp,.bp,(.int .i64 0),.bp] [(0,2,x3),(2,1,a2)]).ah fun x5 =>
 aG (tF 5 x5 h) fun x6 h7 =>
 aG (ai T base 20 [x6] h7) fun iC h12 =>
 (aF x6).ah fun iT =>
 (aA iT 3).ah fun mq =>
 (aS base 1 mq iC h12).ah fun Ql =>
 bg true false (size h) [x6] Ql:=(gR as8 base _ h).trans (by kernel_rfl)
theorem S65 (base:Nat) (a0 a1 a2:PV) (h:Hp):ai T base 65 [a0,a1,a2] h =
 aG (ai T base 20 [a0] h) fun x3 h4 =>
 aG (ai T base 43 [a0,a1] h4) fun x8 h9 =>
 (aE x8 0).ah fun iC =>
 (aE x8 1).ah fun gG =>
 eu D4 h9 fun iT D5 =>
 (aS base 35 iT iC D5).ah fun Ql =>
 (unOp .not gG).ah fun qu =>
 aD qu (
 (binOp .sub (.int .i64 1) a1).ah fun oh =>
 (binOp .sub (.int .i64 1) a1).ah fun nv =>
 aG (ai T base 43 [a0,oh] Ql) fun Ag Q1 =>
 (aE Ag 0).ah fun qj =>
 (aE Ag 1).ah fun Ah =>
 eu D4 Q1 fun Aj UR =>
 (aS base 35 Aj qj UR).ah fun h35 =>
 (unOp .not Ah).ah fun Ai =>
 aD Ai (
 bg true false (size h) [(.int .i64 0),(.int .i64 4)] h35) (
 aG (ai T base 62 [a0,nv,(.int .i64 0)] h35) fun vP Yt =>
 (binOp .neq vP (.int .i64 0)).ah fun HI =>
 aD HI (
 bg true false (size h) [(.int .i64 0),vP] Yt) (
 (aF a0).ah fun ya =>
 (aA ya 3).ah fun vi =>
 (aS base 1 vi oh Yt).ah fun Sb =>
 bg true false (size h) [oh,(.int .i64 0)] Sb))) (
 aG (ai T base 62 [a0,x3,a2] Ql) fun FW HL =>
 (binOp .neq FW (.int .i64 0)).ah fun NL =>
 aD NL (
 bg true false (size h) [(.int .i64 0),FW] HL) (
 (aF a0).ah fun TJ =>
 (aA TJ 3).ah fun TE =>
 (aS base 1 TE a1 HL).ah fun h75 =>
 bg true false (size h) [a1,(.int .i64 0)] h75)):=(gR afK base _ h).trans (by kernel_rfl)
end Go.Am.Qd
