/- Points of a function's code: what the rest of the function does from there, as a plain function of the slots. | Code that keeps fewer slots: what it answers, the code answers. | The functions of the YV as the abstract machine's code, printed by a program of this work (X6/v2/DE.sh, Nl.py). | What a anc list of package-level BS gives. | The functions of the YV as the abstract machine's code, printed by a program of this work (X6/v2/DE.sh, Nl.py). | What the functions do from point to point, as equations. sK by X6/v2/DE.sh, Nl.py. | Ws equations of the plain functions. | The Jp equations, aci. sK by a program of this work. By the session's AI agent. | Slices that grow on top of a heap; bytes. | Slices of values of one form, by value. | A slice that aaA, in a heap where boxes come Th. | A cX in the machine's heap: its box, its bytes, its bN; what is read and written there. | DK: a sum that stays in its range is the sum. | A slice that aaA in its box, in a frame: what it holds; what is OK; how the frame ends. | 'bytes.Repeat' of one byte, on the abstract machine. | The Tl Nz at this program, in plain words: laid by the kit's own afK; of them Us that are used. | What 'bytes.Repeat' takes of the model itself. | The abstract machine's code is what the Dd program Qq to, function by function: by the kernel. sK by X6/v2/Nl.py. | What the machine answers in the ank of a run, the program answers. | 'bytes.Repeat' of one byte, in the Dd program. | The library's functions over maps at this 
   By the session's AI agent. -/
import Derived.Test.YtmmjmkjoflfpmaaGreatDoorT52
import Derived.Test.YtmmjmkjoflfpmaaGreatDoorProg
import Derived.Test.YtmmjmkjoflfpmaaGreatDoorRows
import Derived.Lib.LaidTab
import Derived.Lib.LaidU8
import Derived.LaidLaws
import Derived.WalkKit
import Derived.KernelRfl
import Derived.Shelf.SlIterI.Nil
import Derived.Shelf.SortM.Plain
import Derived.Shelf.SortM.SortNone
import Derived.Shelf.SlMaps.Clone
import Derived.LoopTactic
import Derived.Handy
import Derived.Deep.RegionHeld3
import Derived.Shelf.Strings.Trim
set_option linter.defProp false
set_option linter.unusedSimpArgs false
set_option linter.unusedVariables false
set_option maxRecDepth 100000
namespace Go.Am
def zW:iP→Bool
 | .Uk _ | .pick _ _ _ | .bin _ _ _ | .CU _ _ _ | .oB _ _ _ | .un _ _ | .toInt _ _ | .load _ _ _ | .gy _ _ _ _ | .nC _ _ | .field _ _ _ _ | .CV _ _ _ | .oD _ _ _ _
 | .nD _ _ | .oE _ _ _ _ _ | .extract _ _ | .kC _ _ _ _ | .len _ _ | .mE _ _ | .slice _ _ _ _ _ | .rO _ | .HW _ _ | .build _ _ | .iu _ | .eqv _ _ _ _ | .fE _ _ _ _=>true
 | _=>false
theorem JA {α:Type} {op:iP} (hp:zW op=true) (orc:iG) (base:Nat) (draw:Bool) (e:Env) (h:Hp) (K:PV→Hp→Option α) :
  cg orc base draw op e h K=(cg orc base draw op e h fun v _=>some v).ah fun v=>K v h:=by
 cases op<;>first | (simp only[cg,aG,Option.ag];done) | cases hp
noncomputable def DA {α:Type} (g:Option (Nat × Bool)) (p:Bool) (e:Env) (h:Hp) (z:Option PV) (x:Option (PV × Hp)) (y:Option α) (K:PV→Hp→Option α):Option α :=
 match g with
 | none=>y
 | some (t,w)=>(look e t).ah fun v=>(aq v w).ah fun w=>match p with
  | true=>(au w z (some .undef)).ah fun v=>K v h
  | false=>aH (au w x (some (.undef,h))) K
noncomputable def DB {α:Type} (orc:iG) (base:Nat) (draw:Bool) (l:List cq):Env→Hp→(Env→Hp→Option α)→Option α :=
 List.rec (motive:=fun _=>Env→Hp→(Env→Hp→Option α)→Option α) (fun e h K=>K e h)
  (fun o _ ih e h K=>DA o.guard (zW o.op) e h (cg orc base draw o.op e h fun v _=>some v) (cg orc base draw o.op e h fun v h=>some (v,h)) (cg orc base draw o.op e h fun v h=>ih (dI e o.dst v) h K)
   fun v h=>ih (dI e o.dst v) h K) l
theorem Ng {α:Type} (orc:iG) (base:Nat) (draw:Bool) (o:cq) (r:List cq) (e:Env) (h:Hp) (K:Env→Hp→Option α) :
  DB orc base draw (o::r) e h K=DA o.guard (zW o.op) e h (cg orc base draw o.op e h fun v _=>some v) (cg orc base draw o.op e h fun v h=>some (v,h)) (cg orc base draw o.op e h fun v h=>DB orc base draw r (dI e o.dst v) h K)
   fun v h=>DB orc base draw r (dI e o.dst v) h K:=rfl
theorem tL {orc:iG} {base:Nat} {draw:Bool} {op:iP} {e:Env} {h:Hp} {x:PV × Env × Hp} (hs:step orc base draw op e h=some x):x.2.1=e:=by
 have key:∀ {β:Type} {y:Option β} {f:β→Option (PV × Env × Hp)},(∀ a,f a=some x→x.2.1=e)→y.ah f=some x→x.2.1=e:=by
  intro β y f hf hy;rw[Option.aa]at hy;obtain⟨a,_,ha⟩:=hy;exact hf a ha
 have one:∀ {v:PV} {k:Hp},some (v,e,k)=some x→x.2.1=e:=by intro v k hq;cases hq;rfl
 unfold step at hs;cases op<;>simp only at hs<;>first | exact one hs | cases hs | skip
 all_goals first
  |(refine key (fun a ha=>?_) hs;exact one ha)
  |(refine key (fun a ha=>?_) hs;refine key (fun b hb=>?_) ha;first | exact one hb | (split at hb<;>first | exact one hb | cases hb))
  |(refine key (fun a ha=>?_) hs;refine key (fun b hb=>?_) ha;refine key (fun c hc=>?_) hb;exact one hc)
  | skip
 case pick c a b =>
  refine key (fun v hv=>?_) hs;rw[fS]at hv;rcases hv with⟨_,hv⟩ | ⟨_,hv⟩<;>exact key (fun a ha=>one ha) hv
 case box n y=>refine key (fun v hv=>?_) hs;split at hv<;>first | exact one hv | cases hv
 case load n agg a =>
  refine key (fun v hv=>?_) hs;split at hv
  ·exact key (fun _ h1=>key (fun _ h2=>one h2) h1) hv
  ·exact key (fun _ h1=>one h1) hv
  ·cases hv
 case store n a y =>
  refine key (fun v hv=>key (fun u hu=>?_) hv) hs;split at hu
  ·refine key (fun _ h1=>?_) hu;split at h1<;>first | exact one h1 | cases h1
  ·cases hu
 case rO y=>refine key (fun v hv=>?_) hs;split at hv<;>first | exact one hv | cases hv
 case toInt k y=>refine key (fun v hv=>?_) hs;split at hv<;>first | exact one hv | cases hv
 case ir bx y =>
  refine key (fun v hv=>?_) hs;split at hv
  ·split at hv
   ·split at hv<;>exact one hv
   ·cases hv
  ·cases hv
 case iu y =>
  refine key (fun v hv=>?_) hs;split at hv
  ·cases hv
  ·exact key (fun _ h1=>key (fun _ h2=>one h2) h1) hv
 case mD T z agg l c =>
  refine key (fun _ h1=>key (fun _ h2=>key (fun _ h3=>?_) h2) h1) hs;split at h3
  ·exact one h3
  ·split at h3
   ·exact one h3
   ·cases h3
 case oC d y =>
  refine key (fun _ h1=>key (fun _ h2=>key (fun _ h3=>?_) h2) h1) hs;split at h3
  ·refine key (fun _ h1=>?_) h3;split at h1<;>first | exact one h1 | cases h1
  ·exact one h3
  ·cases h3
 case range y=>refine key (fun v hv=>?_) hs;split at hv<;>first | exact one hv | cases hv
 case next y =>
  refine key (fun v hv=>?_) hs;split at hv
  ·refine key (fun _ h1=>?_) hv;split at h1<;>exact one h1
  ·cases hv
 case eqv neg ks y z =>
  refine key (fun _ h1=>key (fun _ h2=>?_) h1) hs;split at h2
  ·exact key (fun _ h3=>one h3) h2
  ·cases h2
 case nC off y=>refine key (fun v hv=>?_) hs;split at hv<;>first | exact one hv | cases hv
 case field off n agg y=>refine key (fun v hv=>?_) hs;split at hv<;>first | exact key (fun _ h1=>one h1) hv | cases hv
 case CV sz y i =>
  refine key (fun _ h1=>key (fun _ h2=>?_) h1) hs;split at h2
  ·split at h2
   ·exact key (fun _ h3=>key (fun _ h4=>one h4) h3) h2
   ·cases h2
  ·split at h2
   ·exact key (fun _ h3=>one h3) h2
   ·cases h2
  ·cases h2
 case oD sz len y i =>
  refine key (fun _ h1=>key (fun _ h2=>?_) h1) hs;split at h2<;>first | exact key (fun _ h3=>one h3) h2 | cases h2
 case nD y i =>
  refine key (fun _ h1=>key (fun _ h2=>?_) h1) hs;split at h2<;>first | exact key (fun _ h3=>key (fun _ h4=>one h4) h3) h2 | cases h2
 case oE sz agg len y i =>
  refine key (fun _ h1=>key (fun _ h2=>?_) h1) hs;split at h2<;>first | exact key (fun _ h3=>key (fun _ h4=>one h4) h3) h2 | cases h2
 case extract y i=>refine key (fun v hv=>?_) hs;split at hv<;>first | exact key (fun _ h1=>one h1) hv | cases hv
 case kC t ok z y =>
  refine key (fun v hv=>?_) hs;split at hv
  ·split at hv
   ·split at hv<;>exact one hv
   ·split at hv<;>first | exact one hv | cases hv
  ·split at hv<;>first | exact one hv | cases hv
  ·cases hv
 case len str y=>refine key (fun v hv=>?_) hs;split at hv<;>first | exact one hv | cases hv
 case mE mx xs=>refine key (fun v hv=>?_) hs;split at hv<;>first | exact key (fun _ h1=>one h1) hv | cases hv
 case append sz s y =>
  refine key (fun _ h1=>key (fun _ h2=>key (fun _ h3=>?_) h2) h1) hs;split at h3
  ·split at h3
   ·split at h3<;>first | exact one h3 | cases h3
   ·split at h3<;>first | exact one h3 | cases h3
   ·cases h3
  ·cases h3
 case iC T sz s y=>exact key (fun _ h1=>key (fun _ h2=>key (fun _ h3=>key (fun _ h4=>one h4) h3) h2) h1) hs
 case fD sz s y =>
  refine key (fun _ h1=>key (fun _ h2=>key (fun _ h3=>key (fun _ h4=>?_) h3) h2) h1) hs;split at h4
  ·exact one h4
  ·split at h4
   ·exact one h4
   ·cases h4
 case call f args =>
  refine key (fun _ h1=>key (fun _ h2=>?_) h1) hs;split at h2
  ·split at h2<;>first | exact one h2 | cases h2
  ·exact one h2
 case lX y args =>
  refine key (fun _ h1=>?_) hs;split at h1
  ·refine key (fun _ h2=>key (fun _ h3=>?_) h2) h1
   split at h3
   ·split at h3<;>first | exact one h3 | cases h3
   ·exact one h3
  ·cases h1
 case fE k n agg a =>
  refine key (fun _ h1=>?_) hs;split at h1
  ·split at h1
   ·exact key (fun _ h3=>key (fun _ h4=>one h4) h3) h1
   ·cases h1
  ·exact key (fun _ h3=>one h3) h1
  ·cases h1
 case iW k f args =>
  refine key (fun _ h1=>key (fun _ h2=>?_) h1) hs;split at h2
  ·split at h2<;>first | exact one h2 | cases h2
  ·exact one h2
 case gy t n agg a =>
  refine key (fun _ h1=>key (fun _ h2=>?_) h1) hs;split at h2
  ·split at h2
   ·cases h2
   ·exact key (fun _ h3=>key (fun _ h4=>one h4) h3) h2
  ·exact key (fun _ h3=>one h3) h2
  ·cases h2
 case fR t n a y =>
  refine key (fun _ h1=>key (fun _ h2=>key (fun _ h3=>?_) h2) h1) hs;split at h3
  ·split at h3
   ·refine key (fun _ h4=>?_) h3;split at h4<;>first | exact one h4 | cases h4
   ·cases h3
  ·cases h3
theorem Lb {α:Type} (orc:iG) (base:Nat) (draw:Bool):∀ (l:List cq) (e:Env) (h:Hp) (K:Env→Hp→Option α),
  DB orc base draw l e h K=(bU orc base draw l e h).ah fun x=>K x.1 x.2
 | [],e,h,K=>rfl
 | o::r,e,h,K=>by
  have ih:∀ (v:PV) (h:Hp),DB orc base draw r (dI e o.dst v) h K=(bU orc base draw r (dI e o.dst v) h).ah fun x=>K x.1 x.2:=fun v h=>Lb orc base draw r _ h K
  have main:cg orc base draw o.op e h (fun v h=>DB orc base draw r (dI e o.dst v) h K) =
    ((step orc base draw o.op e h).ah fun x=>bU orc base draw r (dI x.2.1 o.dst x.1) x.2.2).ah fun x=>K x.1 x.2:=by
   rw[o7,aG];cases hs:step orc base draw o.op e h with
   | none=>rfl
   | some x=>simp only[Option.ag,ih,tL hs]
  rw[Ng,bU];cases hg:o.guard with
  | none=>simp only[DA,wanted,Option.ag,if_true];exact main
  | some g =>
   obtain⟨t,w⟩:=g;simp only[DA,uy,aG];refine bA _ fun v=>?_
   cases hw:aq v w with
   | none=>rfl
   | some b =>
    cases b with
    | true =>
     simp only[Option.ag,yZ,if_true];rw[←main];cases hp:zW o.op with
     | true=>simp only;rw[JA hp orc base draw e h (fun v h=>DB orc base draw r (dI e o.dst v) h K)];rfl
     | false =>
      simp only;rw[o7,o7];cases step orc base draw o.op e h<;>rfl
    | false=>cases zW o.op<;>(simp only[Option.ag,uz,az,Bool.false_eq_true,if_false];exact ih _ _)
inductive Fr where
 | seq (b:cE)
 | block (i:Nat)
 | loop (a:cE)
noncomputable def bk (keep own:Bool) (n0:Nat) (vs:List PV) (h:Hp):Option (PV × Hp) :=
 if keep then some (fT vs,h)
  else if own then(ju n0 h vs).ah fun r=>some (fT r.1,r.2)
  else(fN n0 h vs).ah fun vs=>if belows n0 vs=true then some (fT vs,bJ h n0) else none
noncomputable def o9 {α:Type} (e:Env) (h:Hp):List (Nat × Option (Nat × Bool))→(List PV→Option α)→Option α
 | [],K=>K []
 | t::ts,K=>(mO e h t).ah fun v=>o9 e h ts fun vs=>K (v::vs)
theorem u6 {α:Type} (e:Env) (h:Hp):∀ (rs:List (Nat × Option (Nat × Bool))) (K:List PV→Option α),o9 e h rs K=(aam e h rs).ah K
 | [],K=>rfl
 | t::ts,K=>by
  simp only[o9,oL,aG,Option.ag];exact bA _ fun v=>u6 e h ts _
noncomputable def YT (fn:dm) (n0:Nat) (x:rR) (e:Env) (h:Hp):Option (PV × Hp):=match x with
 | .exit _=>none
 | _=>o9 e h fn.results fun vs=>bk fn.keep fn.own n0 vs h
theorem Nh (fn:dm) (n0:Nat) (e:Env) (h:Hp):finish fn n0 e h=o9 e h fn.results fun vs=>bk fn.keep fn.own n0 vs h:=by
 rw[u6];rfl
noncomputable def Oz (fn:dm) (n0:Nat) (run:cE→List Fr→Env→Hp→Option (PV × Hp)) (lp:cE→List Fr→Env→Hp→Option (PV × Hp)):List Fr→rR→Env→Hp→Option (PV × Hp)
 | [],x,e,h=>YT fn n0 x e h
 | .seq b::r,x,e,h=>match x with
  | .norm=>run b r e h
  | x=>Oz fn n0 run lp r x e h
 | .block i::r,x,e,h=>match x with
  | .exit j=>if j=i then Oz fn n0 run lp r .norm e h else Oz fn n0 run lp r (.exit j) e h
  | x=>Oz fn n0 run lp r x e h
 | .loop a::r,x,e,h=>match x with
  | .norm=>lp a r e h
  | x=>Oz fn n0 run lp r x e h
noncomputable def vP (T:Table) (fn:dm) (base n0:Nat):List Fr→rR→Env→Hp→Option (PV × Hp)
 | [],x,e,h=>YT fn n0 x e h
 | .seq b::r,x,e,h=>match x with
  | .norm=>rY (cJ T b base e h) (vP T fn base n0 r)
  | x=>vP T fn base n0 r x e h
 | .block i::r,x,e,h=>match x with
  | .exit j=>if j=i then vP T fn base n0 r .norm e h else vP T fn base n0 r (.exit j) e h
  | x=>vP T fn base n0 r x e h
 | .loop a::r,x,e,h=>match x with
  | .norm=>rY (cJ T (.loop a) base e h) (vP T fn base n0 r)
  | x=>vP T fn base n0 r x e h
noncomputable def tg (T:Table) (fn:dm) (base n0:Nat) (c:cE) (fr:List Fr) (e:Env) (h:Hp):Option (PV × Hp):=rY (cJ T c base e h) (vP T fn base n0 fr)
noncomputable def mI (T:Table) (fn:dm) (base n0:Nat):Nat→cE→List Fr→Env→Hp→Option (PV × Hp)
 | 0,c,fr,e,h=>tg T fn base n0 c fr e h
 | n+1,c,fr,e,h=>match c with
  | .skip=>Oz fn n0 (mI T fn base n0 n) (fun a=>tg T fn base n0 (.loop a)) fr .norm e h
  | .ops l draw keep=>DB (ai T base) base draw l e h fun e h=>Oz fn n0 (mI T fn base n0 n) (fun a=>tg T fn base n0 (.loop a)) fr .norm (prune keep e) h
  | .seq a b=>match a with
   | .ops [] _ k=>tg T fn base n0 b fr (prune k e) h
   | a=>mI T fn base n0 n a (.seq b::fr) e h
  | .cond c a b=>(ev e c).ah fun v=>aD v (mI T fn base n0 n a fr e h) (mI T fn base n0 n b fr e h)
  | .block i a=>mI T fn base n0 n a (.block i::fr) e h
  | .loop a=>tg T fn base n0 (.loop a) fr e h
  | .scope a=>mI T fn base n0 n a fr e h
  | .exit i=>Oz fn n0 (mI T fn base n0 n) (fun a=>tg T fn base n0 (.loop a)) fr (.exit i) e h
  | .ret=>Oz fn n0 (mI T fn base n0 n) (fun a=>tg T fn base n0 (.loop a)) fr .ret e h
theorem JB {α:Type} (v:PV) (x y:Option (rR × Env × Hp)) (K:rR→Env→Hp→Option α):aD v (rY x K) (rY y K)=rY (aD v x y) K:=by
 cases v<;>try rfl
 rename_i b;cases b<;>rfl
section
variable {T:Table} {fn:dm} {base n0:Nat}
theorem pe {run:cE→List Fr→Env→Hp→Option (PV × Hp)} (hr:∀ c fr e h,run c fr e h=tg T fn base n0 c fr e h):∀ (fr:List Fr) (x:rR) (e:Env) (h:Hp),Oz fn n0 run (fun a=>tg T fn base n0 (.loop a)) fr x e h=vP T fn base n0 fr x e h
 | [],x,e,h=>rfl
 | .seq b::r,x,e,h=>by
  cases x with
  | norm=>rw[Oz,hr];rfl
  | _=>exact pe hr r _ e h
 | .block i::r,x,e,h=>by
  cases x with
  | exit j=>simp only[Oz,vP,pe hr r]
  | _=>exact pe hr r _ e h
 | .loop a::r,x,e,h=>by
  cases x with
  | norm=>rfl
  | _=>exact pe hr r _ e h
theorem Tb (a b:cE) (fr:List Fr) (e:Env) (h:Hp):tg T fn base n0 (.seq a b) fr e h=tg T fn base n0 a (.seq b::fr) e h:=by
 unfold tg;rw[Yq];cases cJ T a base e h with
 | none=>rfl
 | some x=>obtain⟨x,e',h'⟩:=x;cases x<;>rfl
theorem Ni (i:Nat) (a:cE) (fr:List Fr) (e:Env) (h:Hp):tg T fn base n0 (.block i a) fr e h=tg T fn base n0 a (.block i::fr) e h:=by
 unfold tg;rw[SD];cases cJ T a base e h with
 | none=>rfl
 | some x =>
  obtain⟨x,e',h'⟩:=x;cases x with
  | exit j=>simp only[tB,uA,vP];split<;>rfl
  | _=>rfl
theorem P3 (a:cE) (fr:List Fr) (e:Env) (h:Hp):tg T fn base n0 (.loop a) fr e h=tg T fn base n0 a (.loop a::fr) e h:=by
 unfold tg;rw[Va];cases cJ T a base e h with
 | none=>rfl
 | some x=>obtain⟨x,e',h'⟩:=x;cases x<;>rfl
theorem Lc (l:List cq) (d:Bool) (k:List Nat) (fr:List Fr) (e:Env) (h:Hp):tg T fn base n0 (.ops l d k) fr e h=DB (ai T base) base d l e h fun e h=>vP T fn base n0 fr .norm (prune k e) h:=by
 unfold tg;rw[Lb,Yp];cases bU (ai T base) base d l e h<;>rfl
theorem DC:∀ (n:Nat) (c:cE) (fr:List Fr) (e:Env) (h:Hp),mI T fn base n0 n c fr e h=tg T fn base n0 c fr e h
 | 0,c,fr,e,h=>rfl
 | n+1,c,fr,e,h=>by
  have ih:=DC n;cases c with
  | skip=>rw[mI,pe ih];unfold tg;rw[yQ];rfl
  | exit i=>rw[mI,pe ih];unfold tg;rw[yR];rfl
  | ret=>rw[mI,pe ih];unfold tg;rw[BN];rfl
  | ops l d k=>rw[mI,Lc];simp only[pe ih]
  | seq a b =>
   rw[Tb];cases a with
   | ops l d k =>
    cases l with
    | nil=>rw[Lc];rfl
    | cons o l=>exact ih _ _ _ _
   | _=>exact ih _ _ _ _
  | cond c a b =>
   rw[mI];simp only[ih];unfold tg;rw[qR];cases ev e c with
   | none=>rfl
   | some v=>simp only[Option.ag,JB]
  | block i a=>rw[mI,ih,Ni]
  | loop a=>rfl
  | scope a=>rw[mI,ih];unfold tg;rw[ur]
end
def ctx:List Nat→cE→List Fr→cE × List Fr
 | [],c,fr=>(c,fr)
 | i::p,.seq a b,fr=>if i=0 then ctx p a (.seq b::fr) else ctx p b fr
 | i::p,.cond _ a b,fr=>if i=0 then ctx p a fr else ctx p b fr
 | _::p,.block i a,fr=>ctx p a (.block i::fr)
 | _::p,.loop a,fr=>ctx p a (.loop a::fr)
 | _::p,.scope a,fr=>ctx p a fr
 | _::_,c,fr=>(c,fr)
noncomputable def Pt (T:Table) (fn:dm) (p:List Nat) (base n0:Nat) (e:Env) (h:Hp):Option (PV × Hp) :=
 tg T fn base n0 (ctx p fn.body []).1 (ctx p fn.body []).2 e h
def unr:cE × List Fr→cE × List Fr
 |(.loop a,fr)=>(a,.loop a::fr)
 | x=>x
theorem ez (T:Table) (fn:dm) (p:List Nat) (base n0:Nat) (e:Env) (h:Hp) :
  Pt T fn p base n0 e h=mI T fn base n0 200 (unr (ctx p fn.body [])).1 (unr (ctx p fn.body [])).2 e h:=by
 rw[DC];unfold Pt;generalize ctx p fn.body []=r;obtain⟨c,fr⟩:=r;cases c with
 | loop a=>exact P3 a fr e h
 | _=>rfl
theorem FI {T:Table} {f:Nat} {fn:dm} (hT:T f=some (.code fn)) (base:Nat) (a:List PV) (h:Hp) :
  ai T base f a h=mI T fn (if fn.keep then base else size h) (size h) 200 fn.body [] (params 0 a) h:=by
 rw[yT hT,DC];unfold tg;cases cJ T fn.body (if fn.keep then base else size h) (params 0 a) h with
 | none=>rfl
 | some x=>obtain⟨x,e',h'⟩:=x;cases x<;>simp only[Option.ag,tB,Nh]<;>rfl
theorem aZ {T:Table} {f:Nat} {rs:List (Nat × Option (Nat × Bool))} {body:cE} {own:Bool} (hT:T f=some (.code ⟨rs,body,false,own⟩)) (base:Nat) (a:List PV) (h:Hp) :
  ai T base f a h=mI T ⟨rs,body,false,own⟩ (size h) (size h) 200 body [] (params 0 a) h:=FI hT base a h
theorem gT {T:Table} {f:Nat} {rs:List (Nat × Option (Nat × Bool))} {body:cE} {own:Bool} (hT:T f=some (.code ⟨rs,body,true,own⟩)) (base:Nat) (a:List PV) (h:Hp) :
  ai T base f a h=mI T ⟨rs,body,true,own⟩ base (size h) 200 body [] (params 0 a) h:=FI hT base a h
def YU {α:Type} (h h':Hp) (y:Option α):Option α:=if h'=h then y else none
end Go.Am
namespace Go.Am
def Sub (e e2:Env):Prop:=∀ t v,look e t=some v→look e2 t=some v
theorem Sub.refl (e:Env):Sub e e:=fun _ _ h=>h
section
variable {e e2:Env} (hs:Sub e e2)
include hs
theorem gI {x:bH} {v:PV} (h:ev e x=some v):ev e2 x=some v:=by
 cases x with
 | tmp t=>exact hs t v h
 | const c=>exact h
theorem qh:∀ {xs:List bH} {vs:List PV},nA e xs=some vs→nA e2 xs=some vs
 | [],vs,h=>h
 | x::xs,vs,h=>by
  simp only[nA,Option.aa]at h ⊢;obtain⟨v,h1,w,h2,h3⟩:=h;exact⟨v,gI hs h1,w,qh h2,h3⟩
theorem u7:∀ {xs:List (Nat × bH)} {vs:List (Nat × PV)},eX e xs=some vs→eX e2 xs=some vs
 | [],vs,h=>h
 |(i,x)::xs,vs,h=>by
  simp only[Ds,Option.aa]at h ⊢;obtain⟨v,h1,w,h2,h3⟩:=h;exact⟨v,gI hs h1,w,u7 h2,h3⟩
theorem sG:∀ {xs:List (Nat × Nat × bH)} {vs:List (Nat × Nat × PV)},eY e xs=some vs→eY e2 xs=some vs
 | [],vs,h=>h
 |(i,n,x)::xs,vs,h=>by
  simp only[BC,Option.aa]at h ⊢;obtain⟨v,h1,w,h2,h3⟩:=h;exact⟨v,gI hs h1,w,sG h2,h3⟩
theorem DD {x:Option bH} {v:Option PV} (h:HJ e x=some v):HJ e2 x=some v:=by
 cases x with
 | none=>exact h
 | some x =>
  simp only[HJ,Option.aa]at h ⊢;obtain⟨a,h1,h2⟩:=h;exact⟨a,gI hs h1,h2⟩
omit hs in
theorem sH {orc orc2:iG} (ho:orc.le orc2) {f:Nat} {vs:List PV} {h:Hp} {K:PV→Hp→Option (PV × Hp)} {r:PV × Hp} (hr:aH (orc f vs h) K=some r):aH (orc2 f vs h) K=some r:=by
 cases hq:orc f vs h with
 | none=>rw[hq]at hr;cases hr
 | some x=>rw[hq]at hr;rw[ho _ _ _ _ hq];exact hr
omit hs in
theorem Tc {orc orc2:iG} (ho:orc.le orc2):iG.le (gv orc) (gv orc2):=by
 intro f a h r hr;simp only[gv,Option.aa]at hr ⊢;obtain⟨y,h1,h2⟩:=hr;exact⟨y,ho _ _ _ _ h1,h2⟩
omit hs in
theorem Td {orc orc2:iG} (ho:orc.le orc2) (n:Nat):iG.le (oH orc n) (oH orc2 n):=by
 intro f a h r hr;simp only[oH,Option.aa]at hr ⊢;obtain⟨y,h1,h2⟩:=hr;exact⟨y,ho _ _ _ _ h1,h2⟩
theorem Nj {orc orc2:iG} (ho:orc.le orc2) {base:Nat} {draw:Bool} {op:iP} {h:Hp} {K:PV→Hp→Option (PV × Hp)} {r:PV × Hp} (hr:cg orc base draw op e h K=some r):cg orc2 base draw op e2 h K=some r:=by
 cases op<;>simp only[cg,Option.aa]at hr ⊢<;>first
  | exact hr
  |(obtain⟨a,h1,h2⟩:=hr;exact⟨a,gI hs h1,h2⟩)
  |(obtain⟨a,h1,h2⟩:=hr;exact⟨a,qh hs h1,h2⟩)
  |(obtain⟨a,h1,h2⟩:=hr;exact⟨a,qh hs h1,sH ho h2⟩)
  |(obtain⟨a,h1,h2⟩:=hr;exact⟨a,qh hs h1,sH (Tc ho) h2⟩)
  |(obtain⟨a,h1,h2⟩:=hr;exact⟨a,qh hs h1,sH (Td ho _) h2⟩)
  |(obtain⟨a,h1,h2⟩:=hr;exact⟨a,u7 hs h1,h2⟩)
  |(obtain⟨a,h1,h2⟩:=hr;exact⟨a,sG hs h1,h2⟩)
  |(obtain⟨a,h1,b,h2,h3⟩:=hr;exact⟨a,gI hs h1,b,gI hs h2,h3⟩)
  |(obtain⟨a,h1,b,h2,h3⟩:=hr;exact⟨a,hs _ _ h1,b,gI hs h2,h3⟩)
  |(obtain⟨a,h1,b,h2,c,h3,h4⟩:=hr;exact⟨a,hs _ _ h1,b,gI hs h2,c,gI hs h3,h4⟩)
  |(obtain⟨a,h1,b,h2,c,h3,d,h4,h5⟩:=hr;exact⟨a,gI hs h1,b,DD hs h2,c,DD hs h3,d,DD hs h4,h5⟩)
  | skip
 case pick c a b =>
  obtain⟨v,h1,w,h2,h3⟩:=hr;rw[fS]at h2;exact⟨v,gI hs h1,w,fS.2 (h2.imp (fun q=>⟨q.1,gI hs q.2⟩) (fun q=>⟨q.1,gI hs q.2⟩)),h3⟩
 case lX x args =>
  obtain⟨v,h1,vs,h2,h3⟩:=hr;refine⟨v,gI hs h1,vs,qh hs h2,?_⟩;cases v<;>first | exact h3 | exact sH ho h3
theorem P4 {orc orc2:iG} (ho:orc.le orc2) {base:Nat} {draw:Bool} {op:iP} {h:Hp} {x:PV × Env × Hp} (hx:step orc base draw op e h=some x):step orc2 base draw op e2 h=some (x.1,e2,x.2.2):=by
 have h1:=o7 orc base draw op e h fun v h=>some (v,h)
 rw[hx,Option.ag]at h1;have h2:=Nj hs ho h1;rw[o7,Option.aa]at h2;obtain⟨y,h3,h4⟩:=h2;have h5:=tL h3;obtain⟨a,b,c⟩:=y;cases h4;simp only at h5;subst h5;exact h3
theorem zX {g:Option (Nat × Bool)} {b:Bool} (h:wanted e g=some b):wanted e2 g=some b:=by
 cases g with
 | none=>exact h
 | some g =>
  obtain⟨t,w⟩:=g;rw[uy,Option.aa]at h ⊢;obtain⟨v,h1,h2⟩:=h;exact⟨v,hs _ _ h1,h2⟩
theorem FJ (d:Option Nat) (v:PV):Sub (dI e d v) (dI e2 d v):=by
 cases d with
 | none=>exact hs
 | some d =>
  intro t w hw;simp only[dI,look]at hw ⊢;split at hw
  ·rename_i hq;rw[if_pos hq];exact hw
  ·rename_i hq;rw[if_neg hq];exact hs _ _ hw
end
theorem pq {orc orc2:iG} (ho:orc.le orc2) {base:Nat} {draw:Bool}:∀ {l:List cq} {e e2:Env} {h:Hp} {r:Env × Hp},Sub e e2→bU orc base draw l e h=some r→∃ e3,bU orc2 base draw l e2 h=some (e3,r.2)∧Sub r.1 e3
 | [],e,e2,h,r,hs,hr=>by cases hr;exact⟨e2,rfl,hs⟩
 | o::l,e,e2,h,r,hs,hr=>by
  simp only[bU,Option.aa]at hr ⊢;obtain⟨b,h1,h2⟩:=hr;cases b with
  | true =>
   simp only[if_true,Option.aa]at h2;obtain⟨x,h3,h4⟩:=h2;rw[tL h3]at h4;obtain⟨e3,h5,h6⟩:=pq ho (FJ hs o.dst x.1) h4;exact⟨e3,⟨true,zX hs h1,by simp only[if_true,Option.aa];exact⟨_,P4 hs ho h3,h5⟩⟩,h6⟩
  | false =>
   simp only[Bool.false_eq_true,if_false]at h2;obtain⟨e3,h5,h6⟩:=pq ho (FJ hs o.dst .undef) h2;exact⟨e3,⟨false,zX hs h1,by simpa using h5⟩,h6⟩
theorem lK:∀ (ts:List Nat) (e:Env) (t:Nat),t∈ts→look (prune ts e) t=look e t
 | t'::ts,e,t,h=>by
  rw[yY,uY]
  by_cases hq:t'=t
  ·subst hq
   rw[if_pos rfl];cases hl:look e t' with
   | some v=>rfl
   | none =>
    rw[PU];cases hp:look (prune ts e) t' with
    | none=>rfl
    | some v=>rw[iJ _ _ _ _ hp]at hl;cases hl
  ·rw[if_neg hq]
   rcases List.mem_cons.1 h with h | h
   ·exact(hq h.symm).elim
   ·exact lK ts e t h
theorem pz:∀ (ts:List Nat) (e:Env) (t:Nat),t ∉ ts→look (prune ts e) t=none
 | [],e,t,h=>rfl
 | t'::ts,e,t,h=>by
  simp only[List.mem_cons,not_or]at h;rw[yY,uY,if_neg (fun q=>h.1 q.symm)];exact pz ts e t h.2
theorem Nk {k k':List Nat} (hk:∀ t∈k',t∈k) {e e2:Env} (hs:Sub e e2):Sub (prune k' e) (prune k e2):=by
 intro t v hv
 by_cases hm:t∈k'
 ·rw[lK _ _ _ hm]at hv
  rw[lK _ _ _ (hk t hm)];exact hs _ _ hv
 ·rw[pz _ _ _ hm]at hv;cases hv
theorem zY (k':List Nat) {e e2:Env} (hs:Sub e e2):Sub (prune k' e) e2:=fun t v hv=>hs _ _ (iJ _ _ _ _ hv)
inductive Le:cE→cE→Prop
 | skip:Le .skip .skip
 | exit (i):Le (.exit i) (.exit i)
 | ret:Le .ret .ret
 | ops (l d k k') (hk:∀ t∈k',t∈k):Le (.ops l d k') (.ops l d k)
 | seq {a b a' b'} (ha:Le a' a) (hb:Le b' b):Le (.seq a' b') (.seq a b)
 | cond (c) {a b a' b'} (ha:Le a' a) (hb:Le b' b):Le (.cond c a' b') (.cond c a b)
 | block (i) {a a'} (ha:Le a' a):Le (.block i a') (.block i a)
 | loop {a a'} (ha:Le a' a):Le (.loop a') (.loop a)
 | scope {a a'} (ha:Le a' a):Le (.scope a') (.scope a)
 | pre (k) {a a'} (ha:Le a' a):Le (.seq (.ops [] false k) a') a
 | post (k) {a a'} (ha:Le a' a):Le (.seq a' (.ops [] false k)) a
theorem Le.refl:∀ c,Le c c
 | .skip=>.skip
 | .exit i=>.exit i
 | .ret=>.ret
 | .ops l d k=>.ops l d k k fun _ h=>h
 | .seq a b=>.seq (Le.refl a) (Le.refl b)
 | .cond c a b=>.cond c (Le.refl a) (Le.refl b)
 | .block i a=>.block i (Le.refl a)
 | .loop a=>.loop (Le.refl a)
 | .scope a=>.scope (Le.refl a)
inductive An where
 | leaf
 | ops (k:List Nat)
 | node (a b:An)
 | pre (k:List Nat) (a:An)
 | loop (k:List Nat) (a:An)
def BE:An→cE→cE
 | .ops k',.ops l d k=>.ops l d (k'.filter fun t=>k.any fun s=>Nat.beq t s)
 | .node x y,.seq a b=>.seq (BE x a) (BE y b)
 | .node x y,.cond c a b=>.cond c (BE x a) (BE y b)
 | .node x _,.block i a=>.block i (BE x a)
 | .node x _,.scope a=>.scope (BE x a)
 | .pre k x,c=>.seq (.ops [] false k) (BE x c)
 | .loop k x,.loop a=>.seq (.ops [] false k) (.loop (.seq (BE x a) (.ops [] false k)))
 | _,c=>c
theorem kK:∀ (x:An) (c:cE),Le (BE x c) c
 | .leaf,c=>by cases c<;>exact Le.refl _
 | .ops k',c=>by
  cases c<;>try exact Le.refl _
  rename_i l d k;refine .ops l d k _ fun t ht=>?_
  rw[List.mem_filter,List.any_eq_true]at ht;obtain⟨_,s,h1,h2⟩:=ht;rw[Nat.eq_of_beq_eq_true h2];exact h1
 | .node x y,c=>by
  cases c with
  | seq a b=>exact .seq (kK x a) (kK y b)
  | cond c a b=>exact .cond c (kK x a) (kK y b)
  | block i a=>exact .block i (kK x a)
  | scope a=>exact .scope (kK x a)
  | _=>exact Le.refl _
 | .pre k x,c=>by cases c<;>exact .pre k (kK x _)
 | .loop k x,c=>by
  cases c with
  | loop a=>exact .pre k (.loop (.post k (kK x a)))
  | _=>exact Le.refl _
def TLe (T' T:Table):Prop:=∀ f it',T' f=some it'→match it' with
 | .oF g=>T f=some (.oF g)
 | .jo g=>T f=some (.jo g)
 | .code F'=>∃ F,T f=some (.code F)∧Le F'.body F.body∧F'.results=F.results∧F'.keep=F.keep∧F'.own=F.own
theorem qI {e e2:Env} (hs:Sub e e2) (h:Hp):∀ {rs:List (Nat × Option (Nat × Bool))} {vs:List PV},aam e h rs=some vs→aam e2 h rs=some vs
 | [],vs,hv=>hv
 |(t,o)::rs,vs,hv=>by
  simp only[oL,Option.aa]at hv ⊢;obtain⟨v,h1,ws,h2,h3⟩:=hv;refine⟨v,?_,ws,qI hs h h2,h3⟩;cases o with
  | none=>exact hs _ _ h1
  | some o =>
   obtain⟨n,g⟩:=o;rw[Bz,Option.aa]at h1 ⊢;obtain⟨a,h4,h5⟩:=h1;exact⟨a,hs _ _ h4,h5⟩
theorem zZ {F' F:dm} (h1:F'.results=F.results) (h2:F'.keep=F.keep) (h3:F'.own=F.own) {e e2:Env} (hs:Sub e e2) {n0:Nat} {h:Hp} {r:PV × Hp} (hr:finish F' n0 e h=some r):finish F n0 e2 h=some r:=by
 rw[finish,Option.aa]at hr ⊢;obtain⟨vs,h4,h5⟩:=hr;rw[h1]at h4;rw[h2,h3]at h5;exact⟨vs,qI hs h h4,h5⟩
theorem z6 {T' T:Table} (hT:TLe T' T):∀ n,(∀ c' c base e h x e1 h1 e2,Le c' c→exec T' n c' base e h=some (x,e1,h1)→Sub e e2→∃ e3,cJ T c base e2 h=some (x,e3,h1)∧Sub e1 e3) ∧
  (∀ base f a h r,call T' n base f a h=some r→ai T base f a h=some r)
 | 0=>⟨fun _ _ _ _ _ _ _ _ _ _ hx=>by simp[exec]at hx,fun _ _ _ _ _ hx=>by simp[call]at hx⟩
 | n+1=>by
  obtain⟨ih,ihc⟩:=z6 hT n;refine⟨fun c' c base e h x e1 h1 e2 hle hx hs=>?_,fun base f a h r hr=>?_⟩
  ·cases hle with
   | skip=>rw[exec]at hx;cases hx;exact⟨e2,yQ,hs⟩
   | exit i=>rw[exec]at hx;cases hx;exact⟨e2,yR,hs⟩
   | ret=>rw[exec]at hx;cases hx;exact⟨e2,BN,hs⟩
   | ops l d k k' hk =>
    rw[exec,Option.aa]at hx;obtain⟨y,h2,h3⟩:=hx;obtain⟨e3,h4,h5⟩:=pq (fun f a h r=>ihc base f a h r) hs h2;cases h3;exact⟨prune k e3,by rw[BO,h4];rfl,Nk hk h5⟩
   | seq ha hb =>
    rw[exec,Option.aa]at hx;obtain⟨⟨y,ey,hy⟩,h2,h3⟩:=hx;obtain⟨e3,h4,h5⟩:=ih _ _ _ _ _ _ _ _ _ ha h2 hs;cases y with
    | norm =>
     obtain⟨e4,h6,h7⟩:=ih _ _ _ _ _ _ _ _ _ hb h3 h5;exact⟨e4,by rw[tw,h4];exact h6,h7⟩
    | _=>cases h3;exact⟨e3,by rw[tw,h4];rfl,h5⟩
   | cond c ha hb =>
    rw[exec,Option.aa]at hx;obtain⟨v,h2,h3⟩:=hx;rw[fS]at h3;rcases h3 with⟨rfl,h3⟩ | ⟨rfl,h3⟩
    ·obtain⟨e3,h4,h5⟩:=ih _ _ _ _ _ _ _ _ _ ha h3 hs
     exact⟨e3,by rw[qR,gI hs h2];exact h4,h5⟩
    ·obtain⟨e3,h4,h5⟩:=ih _ _ _ _ _ _ _ _ _ hb h3 hs
     exact⟨e3,by rw[qR,gI hs h2];exact h4,h5⟩
   | block i ha =>
    rw[exec,Option.aa]at hx;obtain⟨⟨y,ey,hy⟩,h2,h3⟩:=hx;obtain⟨e3,h4,h5⟩:=ih _ _ _ _ _ _ _ _ _ ha h2 hs;rw[uo,h4,Option.ag];cases y with
    | exit j =>
     simp only at h3 ⊢;split at h3
     ·rename_i hq;rw[if_pos hq];cases h3;exact⟨e3,rfl,h5⟩
     ·rename_i hq;rw[if_neg hq];cases h3;exact⟨e3,rfl,h5⟩
    | _=>cases h3;exact⟨e3,rfl,h5⟩
   | loop ha =>
    rw[exec,Option.aa]at hx;obtain⟨⟨y,ey,hy⟩,h2,h3⟩:=hx;obtain⟨e3,h4,h5⟩:=ih _ _ _ _ _ _ _ _ _ ha h2 hs;rw[yS,h4,Option.ag];cases y with
    | norm=>exact ih _ _ _ _ _ _ _ _ _ (.loop ha) h3 h5
    | _=>cases h3;exact⟨e3,rfl,h5⟩
   | scope ha =>
    rw[exec]at hx;rw[ur];exact ih _ _ _ _ _ _ _ _ _ ha hx hs
   | pre k ha =>
    rw[exec,Option.aa]at hx;obtain⟨⟨y,ey,hy⟩,h2,h3⟩:=hx;cases n with
    | zero=>simp[exec]at h2
    | succ m =>
     rw[exec,bU,Option.ag]at h2;cases h2;exact ih _ _ _ _ _ _ _ _ _ ha h3 (zY k hs)
   | post k ha =>
    rw[exec,Option.aa]at hx;obtain⟨⟨y,ey,hy⟩,h2,h3⟩:=hx;obtain⟨e3,h4,h5⟩:=ih _ _ _ _ _ _ _ _ _ ha h2 hs;cases y with
    | norm =>
     cases n with
     | zero=>simp[exec]at h2
     | succ m =>
      simp only at h3;rw[exec,bU,Option.ag]at h3;cases h3;exact⟨e3,h4,zY k h5⟩
    | _=>cases h3;exact⟨e3,h4,h5⟩
  ·rw[call]at hr
   cases hf:T' f with
   | none=>rw[hf]at hr;cases hr
   | some it =>
    rw[hf]at hr;cases it with
    | oF g=>rw[yU (hT f _ hf)];exact hr
    | jo g=>rw[oI (hT f _ hf)];exact hr
    | code F' =>
     obtain⟨F,h1,h2,h3,h4,h5⟩:=hT f _ hf;simp only[Option.aa]at hr;obtain⟨⟨y,ey,hy⟩,h6,h7⟩:=hr;obtain⟨e3,h8,h9⟩:=ih _ _ _ _ _ _ _ _ _ h2 h6 (Sub.refl _);rw[h4]at h8;rw[yT h1,h8,Option.ag];cases y with
     | exit i=>cases h7
     | norm=>exact zZ h3 h4 h5 h9 h7
     | ret=>exact zZ h3 h4 h5 h9 h7
def bP (x:An) (F:dm):dm:={ F with body:=BE x F.body }
def mX (P:Program) (gl:cR) (I:Nat→World→Prop) (T:Table):Prop:=∀ f it,T f=some it→match it with
 | .code fn=>∃ x an fn0,P.funcs[f]?=some fn0∧(bQ P gl an fn0).map (bP x)=some fn
 | .oF pg=>nK P I f pg
 | .jo pg=>mo P I f pg
theorem z7 {P:Program} {gl:cR} {I:Nat→World→Prop} {T':Table} (hT:mX P gl I T'):∃ T,p7 P gl I T∧TLe T' T:=by
 have hex:∀ f,∃ it:Option Um,(∀ i,it=some i→match i with | .code fn=>∃ an fn0,P.funcs[f]?=some fn0∧bQ P gl an fn0=some fn | .oF pg=>nK P I f pg | .jo pg=>mo P I f pg) ∧
   (∀ it',T' f=some it'→match it' with | .oF g=>it=some (.oF g) | .jo g=>it=some (.jo g) | .code F'=>∃ F,it=some (.code F)∧Le F'.body F.body∧F'.results=F.results∧F'.keep=F.keep∧F'.own=F.own):=by
  intro f;cases hf:T' f with
  | none=>exact⟨none,fun _ h=>(nomatch h),fun _ h=>(nomatch h)⟩
  | some it' =>
   have h1:=hT f it' hf;cases it' with
   | oF g=>exact⟨some (.oF g),fun i hi=>by cases hi;exact h1,fun i hi=>by cases hi;rfl⟩
   | jo g=>exact⟨some (.jo g),fun i hi=>by cases hi;exact h1,fun i hi=>by cases hi;rfl⟩
   | code F' =>
    obtain⟨x,an,fn0,h2,h3⟩:=h1;rw[Option.map_eq_some_iff]at h3;obtain⟨F,h4,rfl⟩:=h3;exact⟨some (.code F),fun i hi=>by cases hi;exact⟨an,fn0,h2,h4⟩,fun i hi=>by cases hi;exact⟨F,rfl,kK x F.body,rfl,rfl,rfl⟩⟩
 exact⟨fun f=>Classical.choose (hex f),fun f it h=>(Classical.choose_spec (hex f)).1 it h,fun f it' h=>(Classical.choose_spec (hex f)).2 it' h⟩
theorem u9 {P:Program} {gl:cR} {I:Nat→World→Prop} {T:Table} (hT:mX P gl I T) {f:Nat} (hcode:∃ F,T f=some (.code F)) (us:Array Value) (w:World):(callFunc f us).run P w=.ok (.enter f us) w:=by
 obtain⟨F,hF⟩:=hcode;obtain⟨x,an,fn0,h1,h2⟩:=hT f _ hF;rw[Option.map_eq_some_iff]at h2;obtain⟨F0,h3,_⟩:=h2;exact Jm h1 h3 us w
open Go.RowKit (Below) in
theorem VK {P:Program} {gl:cR} {I:Nat→World→Prop} {T:Table} (hT:mX P gl I T) {f:Nat} {vs:List PV} {r:PV} {h':Hp} (hs:ai T 0 f vs []=some (r,h')) (w:World) (hgl:dR gl w.heap.size w) (hI:I w.heap.size w) (us:Array Value) (hlen:us.size=vs.length)
  (hrel:∀ (j:Nat) (x:PV),vs[j]?=some x→RV w.heap.size { ι:=id,n:=0,hw:=fun _=>none } w x (us.getD j Go.undef)) (hcode:∃ F,T f=some (.code F):=by exact⟨_,rfl⟩) :
  Calls P f us w fun en w'=>∃ u g',en=.returned u∧RV w.heap.size g' w' r u∧Below w.heap.size w w':=by
 obtain⟨T0,h1,h2⟩:=z7 hT;obtain⟨n,hn⟩:=eW.1 hs;exact sound h1 ((z6 h2 n).2 0 f vs [] _ hn) w hgl hI us hlen hrel (u9 hT hcode us w)
end Go.Am
namespace Go.Am.Qd
open Go.Proofs
def KS:List PV:=[(.int .u32 1116352408),(.int .u32 1899447441),(.int .u32 3049323471),(.int .u32 3921009573),(.int .u32 961987163),(.int .u32 1508970993),(.int .u32 2453635748),(.int .u32 2870763221),(.int .u32 3624381080),(.int .u32 310598401),(.int .u32 607225278),(.int .u32 1426881987),(.int .u32 1925078388),(.int .u32 2162078206),(.int .u32 2614888103),(.int .u32 3248222580),(.int .u32 3835390401),(.int .u32 4022224774),(.int .u32 264347078),(.int .u32 604807628),(.int .u32 770255983),(.int .u32 1249150122),(.int .u32 1555081692),(.int .u32 1996064986),(.int .u32 2554220882),(.int .u32 2821834349),(.int .u32 2952996808),(.int .u32 3210313671),(.int .u32 3336571891),(.int .u32 3584528711),(.int .u32 113926993),(.int .u32 338241895),(.int .u32 666307205),(.int .u32 773529912),(.int .u32 1294757372),(.int .u32 1396182291),(.int .u32 1695183700),(.int .u32 1986661051),(.int .u32 2177026350),(.int .u32 2456956037),(.int .u32 2730485921),(.int .u32 2820302411),(.int .u32 3259730800),(.int .u32 3345764771),(.int .u32 3516065817),(.int .u32 3600352804),(.int .u32 4094571909),(.int .u32 275423344),(.int .u32 430227734),(.int .u32 506948616),(.int .u32 659060556),(.int .u32 883997877),(.int .u32 958139571),(.int .u32 1322822218),(.int .u32 1537002063),(.int .u32 1747873779),(.int .u32 1955562222),(.int .u32 2024104815),(.int .u32 2227730452),(.int .u32 2361852424),(.int .u32 2428436474),(.int .u32 2756734187),(.int .u32 3204031479),(.int .u32 3329325298)]
def rep (n:Nat) (x:PV):List PV:=List.replicate n x
def gl:cR:=[(0,KS),(2,KS)]
noncomputable def Fx (A:An) (o:Option dm):dm:=match o.map (bP A) with | some f=>f | none=>⟨[],.skip,false,false⟩
def A5:An:=(.node (.ops [2,1,0]) (.node (.node (.ops [18,2,1,0]) (.node (.node (.ops [6]) .leaf) .leaf)) (.node (.node (.ops [31,2,1,0]) (.node (.node (.ops [6]) .leaf) .leaf)) (.node (.ops [7,2,1,0,8]) (.node (.node (.ops [43,7,2,1]) (.node (.node (.ops [6]) .leaf) .leaf)) (.node (.ops [7,2,9]) (.node (.node (.node (.ops [9,7,2]) (.ops [56,9,7,2])) (.node (.node (.ops [6]) .leaf) .leaf)) (.node (.ops [9,7,11,2]) (.node (.node (.ops [60,9,7,11,58,59]) (.node (.loop [60,9,7,11,58,59] (.node (.ops [61,9,7,58,59,60,11]) (.node (.node .leaf .leaf) (.node (.node (.node (.ops [9,7,58,59,60,11,13]) (.node (.ops [9,7,58,59,60,14,11]) (.node (.node (.ops [78,9,7,58,59,60,14,11]) (.node (.node (.ops [6]) .leaf) .leaf)) (.node (.ops [9,7,11,58,59,60]) (.node (.ops [92,9,7,11,58,59,60]) (.node (.node (.ops [6]) .leaf) .leaf)))))) .leaf) (.ops [60,9,7,11,58,59]))))) .leaf)) (.node (.node (.ops [100,7,9]) (.node (.node (.ops [6]) .leaf) .leaf)) (.node (.ops [7,9,15,16]) (.node (.ops [6]) .leaf))))))))))))
noncomputable def F5:dm:=Fx A5 (bQ Tryz.prog gl { fix:=[(9,9)] } Tryz.f5)
def A8:An:=(.node (.ops []) (.node (.ops [1,2]) (.node (.node (.ops [29,1]) (.node (.node (.ops [0]) .leaf) .leaf)) (.node (.ops [1,3,4]) (.node (.ops [1,3,4,5]) (.node (.node (.node (.ops [5,1,3,4]) (.ops [87,5,1])) (.node (.node (.ops [0]) .leaf) .leaf)) (.node (.ops [5,1,7,8]) (.node (.node (.ops [126,5,1]) (.node (.node (.ops [0]) .leaf) .leaf)) (.node (.ops [5,1,9,10]) (.node (.node (.ops [156,5,1]) (.node (.node (.ops [0]) .leaf) .leaf)) (.node (.ops [5,1,11,12]) (.node (.node (.ops [186,5,1]) (.node (.node (.ops [0]) .leaf) .leaf)) (.node (.ops [5,1,13,14]) (.node (.ops [5,1,15,16,13,14]) (.node (.ops [5,1,15,16,13,14]) (.node (.ops [0]) .leaf))))))))))))))))
noncomputable def F8:dm:=Fx A8 (bQ Tryz.prog gl { deep:=10,boxes:=[(2,4),(2,5),(5,0),(5,1)],fix:=[(6,5)] } Tryz.f8)
def A9:An:=(.node (.ops [0]) (.node (.ops [4]) (.node (.ops [4]) (.node (.ops [4]) (.node (.ops [4]) (.node (.ops [4]) (.node (.ops [4]) (.node (.node (.ops [102,4]) (.node (.node (.ops [2,3]) .leaf) .leaf)) (.node (.ops [2,3]) .leaf)))))))))
noncomputable def F9:dm:=Fx A9 (bQ Tryz.prog gl { keep:=true } Tryz.f9)
def A10:An:=(.node (.ops [0,1]) (.node (.ops [0,6,5]) (.node (.node (.ops [5,0,6]) (.ops [4])) .leaf)))
noncomputable def F10:dm:=Fx A10 (bQ Tryz.prog gl { fix:=[(2,5)] } Tryz.f10)
def A11:An:=(.node (.ops [2,0,1]) (.node (.node (.ops [12,2,0,1]) (.node (.node (.ops [6,7]) .leaf) .leaf)) (.node (.node (.ops [15,2,0,1]) (.node (.node (.ops [6,7]) .leaf) .leaf)) (.node (.ops [2,8]) (.node (.ops [6,7]) .leaf)))))
noncomputable def F11:dm:=Fx A11 (bQ Tryz.prog gl { own:=true } Tryz.f11)
def A12:An:=(.node (.ops [1,0]) (.node (.ops [1,0,5]) (.node (.node (.node (.ops [14,1,0,5]) (.node (.node (.ops [4]) .leaf) (.node (.ops [17,1,0,5]) (.node (.node (.ops [4]) .leaf) (.node (.ops [21,1,0,5]) (.node (.node (.ops [4]) .leaf) .leaf)))))) .leaf) (.node (.ops [1,0,5]) (.node (.node (.ops [6,1,0]) (.node (.ops [35,6,1,0]) (.node (.node (.ops [4]) .leaf) .leaf))) (.node (.ops []) (.node (.ops [4]) .leaf)))))))
noncomputable def F12:dm:=Fx A12 (bQ Tryz.prog gl { keep:=true } Tryz.f12)
def A13:An:=(.node (.ops [0,1]) (.node (.node (.ops [5,0,1]) (.node (.ops [13,5,0,1]) (.node (.node (.ops [4]) .leaf) .leaf))) (.node (.ops [0,6,1]) (.node (.node (.ops [30,0,6,1]) (.node (.node (.ops [4]) .leaf) .leaf)) (.node (.node (.ops [7,0,6,1]) (.node (.ops [45,7,0,6,1]) (.node (.node (.ops [7]) (.node (.ops [4]) .leaf)) .leaf))) (.node (.ops [0,6,8,1]) (.node (.ops [0,6,8]) (.node (.node (.ops [58,0,6]) (.node (.node (.ops [4]) .leaf) .leaf)) (.node (.ops [9,0]) (.node (.node (.ops [62,9,0]) (.node (.ops [9]) .leaf)) (.node (.ops [4]) .leaf)))))))))))
noncomputable def F13:dm:=Fx A13 (bQ Tryz.prog gl { keep:=true } Tryz.f13)
def A14:An:=(.node (.ops [2,0]) (.node (.node (.ops [2,4,0]) (.node (.ops [13,2,4,0]) (.node (.node (.ops [2,3]) .leaf) .leaf))) (.node (.ops [2,5,0]) (.node (.node (.ops [28,2,5,0]) (.node (.node (.ops [2,3]) .leaf) .leaf)) (.node (.ops [2,5,0]) (.node (.ops [2,7,6,5,0]) (.node (.node (.ops [41,2,7,6,5,0]) (.node (.node (.ops [2,3]) .leaf) .leaf)) (.node (.ops [2,6,8,9,5]) (.node (.node (.node (.ops [51,2,6,8,9]) (.node (.node (.ops [2,3]) .leaf) (.node (.ops [61,2,6]) (.node (.node (.ops [2,3]) .leaf) .leaf)))) .leaf) (.node (.ops [2,3]) .leaf))))))))))
noncomputable def F14:dm:=Fx A14 (bQ Tryz.prog gl {} Tryz.f14)
def A15:An:=(.node (.ops [0]) (.node (.ops [0,4]) (.node (.node (.node (.ops [12,0,4]) (.node (.node (.ops [2]) .leaf) (.node (.node (.ops [15,0,4]) (.node .leaf (.ops [15,0,4]))) (.node (.node (.ops [2]) .leaf) (.node (.ops [24,0]) (.node (.node (.ops [2]) .leaf) .leaf)))))) .leaf) (.node (.ops [2]) .leaf))))
noncomputable def F15:dm:=Fx A15 (bQ Tryz.prog gl { keep:=true } Tryz.f15)
def A16:An:=(.node (.ops [0]) (.node (.ops [3,0,4]) (.node (.node (.ops [18,3,0]) (.node (.node (.ops [2]) .leaf) .leaf)) (.node (.ops [3,0]) (.node (.ops []) (.node (.ops [2]) .leaf))))))
noncomputable def F16:dm:=Fx A16 (bQ Tryz.prog gl { keep:=true } Tryz.f16)
def A17:An:=(.node (.ops [0]) (.node (.ops [0]) (.node (.node (.ops [9,0]) (.node (.node (.ops [2,3]) .leaf) .leaf)) (.node (.node (.ops [0,5]) (.node (.ops [22,0]) (.node (.node (.ops [2,3]) .leaf) .leaf))) (.node (.ops [2,3]) .leaf)))))
noncomputable def F17:dm:=Fx A17 (bQ Tryz.prog gl { keep:=true } Tryz.f17)
def A18:An:=(.node (.ops [0]) (.node (.node (.node (.ops [3,0]) (.node (.node (.ops [2]) .leaf) (.node (.ops [6,0]) (.node (.node (.ops [2]) .leaf) .leaf)))) .leaf) (.node (.ops [2]) .leaf)))
noncomputable def F18:dm:=Fx A18 (bQ Tryz.prog gl { keep:=true } Tryz.f18)
def A19:An:=(.node (.ops [0]) (.node (.ops [4]) (.node (.ops [2]) .leaf)))
noncomputable def F19:dm:=Fx A19 (bQ Tryz.prog gl {} Tryz.f19)
def A20:An:=(.node (.ops [0]) (.node (.ops [3]) (.node (.ops [2]) .leaf)))
noncomputable def F20:dm:=Fx A20 (bQ Tryz.prog gl {} Tryz.f20)
def A21:An:=(.node (.ops [2,1,0]) (.node (.ops [2,7,8]) (.node (.ops [6]) .leaf)))
noncomputable def F21:dm:=Fx A21 (bQ Tryz.prog gl {} Tryz.f21)
def A24:An:=(.node (.ops [2,0]) (.node (.ops [2,5,4,0]) (.node (.node (.node (.ops [11,2,5,4,0]) (.node (.node (.ops [2,3]) .leaf) (.node (.ops [16,2,4,0]) (.node (.node (.ops [2,3]) .leaf) (.node (.ops [24,2,4]) (.node (.node (.ops [2,3]) .leaf) .leaf)))))) .leaf) (.node (.ops [2,3]) .leaf))))
noncomputable def F24:dm:=Fx A24 (bQ Tryz.prog gl {} Tryz.f24)
def A26:An:=(.node (.ops [0]) (.node (.node (.ops [7,0]) (.node (.node (.ops [2]) .leaf) .leaf)) (.node (.ops [2]) .leaf)))
noncomputable def F26:dm:=Fx A26 (bQ Tryz.prog gl {} Tryz.f26)
def A28:An:=(.node (.ops [2,1,0]) (.node (.node (.ops [7,2,1,0]) (.node (.ops [14,7,2,1,0]) (.node (.node (.ops [6]) .leaf) .leaf))) (.node (.ops [6]) .leaf)))
noncomputable def F28:dm:=Fx A28 (bQ Tryz.prog gl {} Tryz.f28)
def A30:An:=(.node (.ops [4,2,1]) (.node (.ops [4,2,1,6]) (.node (.node (.ops [14,4,2,1,6]) (.node (.node (.ops [4,5]) .leaf) .leaf)) (.node (.node (.ops [25,4,2,1,6]) (.node (.node (.ops [4,5]) .leaf) .leaf)) (.node (.ops [7,4,2,1,6]) (.node (.node (.ops [8,7,4,2,1,6]) (.node (.loop [8,7,4,2,1,6] (.node (.node (.ops [33,4,2,1,6,8,7]) (.node .leaf .leaf)) (.node (.node (.ops [7,4,2,1,6,8]) .leaf) (.ops [8,7,4,2,1,6])))) .leaf)) (.node (.ops [4,2,1]) (.node (.ops [4,2,1]) (.node (.ops [4,2]) (.node (.ops [4,5]) .leaf))))))))))
noncomputable def F30:dm:=Fx A30 (bQ Tryz.prog gl {} Tryz.f30)
def A36:An:=(.ops [])
noncomputable def F36:dm:=Fx A36 (bQ Tryz.prog gl {} Tryz.f36)
def A39:An:=(.node (.ops [1,0]) (.node (.node (.ops [17,1,0]) (.node (.node (.ops [4,5]) .leaf) .leaf)) (.node (.ops [6]) (.node (.ops [6,7,8]) (.node (.node (.ops [33,6,7]) (.node (.node (.ops [4,5]) .leaf) .leaf)) (.node (.ops [9,6,8]) (.node (.node (.ops [48,9,6]) (.node (.node (.ops [4,5]) .leaf) .leaf)) (.node (.ops [7]) (.node (.node (.ops [7,11]) (.node (.ops [63,7]) (.node (.node (.ops [4,5]) .leaf) .leaf))) (.node (.ops [4,5]) .leaf))))))))))
noncomputable def F39:dm:=Fx A39 (bQ Tryz.prog gl {} Tryz.f39)
def A41:An:=(.node (.ops [0]) (.node (.ops [2]) .leaf))
noncomputable def F41:dm:=Fx A41 (bQ Tryz.prog gl {} Tryz.f41)
def A43:An:=(.node (.ops [4,1,0]) (.node (.ops [4,6,7]) (.node (.node (.ops [17,4,6]) (.node (.node (.ops [4,5]) .leaf) .leaf)) (.node (.ops [4,8]) (.node (.ops [4,5]) .leaf)))))
noncomputable def F43:dm:=Fx A43 (bQ Tryz.prog gl {} Tryz.f43)
def A44:An:=(.node (.ops [0]) (.node (.ops [2]) .leaf))
noncomputable def F44:dm:=Fx A44 (bQ Tryz.prog gl {} Tryz.f44)
def A45:An:=(.node (.ops [0]) (.node (.node (.ops [13,0]) (.node (.node (.ops [2]) .leaf) .leaf)) (.node (.node (.ops [3,0]) (.node (.loop [3,0] (.node (.node (.ops [17,0,3]) (.node .leaf .leaf)) (.node (.node (.node (.ops [0,3,4]) (.node (.ops [0,3,5]) (.node (.ops [50,0,3]) (.node (.node (.ops [2]) .leaf) .leaf)))) .leaf) (.ops [3,0])))) .leaf)) (.node (.ops [2]) .leaf))))
noncomputable def YW:dm:=Fx A45 (bQ Tryz.prog gl {} Tryz.f45)
def A46:An:=(.node (.ops [0]) (.node (.ops [2]) .leaf))
noncomputable def F46:dm:=Fx A46 (bQ Tryz.prog gl {} Tryz.f46)
def A47:An:=(.node (.ops [1,0]) (.node (.node (.ops [10,1,0]) (.node (.node (.ops [4]) .leaf) .leaf)) (.node (.node (.ops [5,1,0]) (.node (.loop [5,1,0] (.node (.node (.ops [14,1,0,5]) (.node .leaf .leaf)) (.node (.node (.node (.ops [25,1,0,5]) (.node (.node (.ops [4]) .leaf) .leaf)) .leaf) (.ops [5,1,0])))) .leaf)) (.node (.ops [4]) .leaf))))
noncomputable def YX:dm:=Fx A47 (bQ Tryz.prog gl {} Tryz.f47)
def A49:An:=(.node (.ops [2,1,0]) (.node (.ops [2,1,0,8]) (.node (.node (.ops [31,2,1,0]) (.node (.node (.ops [6,7]) .leaf) .leaf)) (.node (.ops [6,7]) .leaf))))
noncomputable def F49:dm:=Fx A49 (bQ Tryz.prog gl { keep:=true } Tryz.f49)
def A50:An:=(.node (.ops [1]) (.node (.node (.ops [9,1]) (.node (.node (.ops [2,3]) .leaf) .leaf)) (.node (.ops [1,4]) (.node (.node (.ops [5,1,4]) (.node (.loop [5,1,4] (.node (.node (.ops [20,1,5,4]) (.node .leaf .leaf)) (.node (.node (.node (.ops [27,1,5,4]) (.node (.ops [1,4,5]) (.ops [1,4,5]))) .leaf) (.ops [5,1,4])))) .leaf)) (.node (.node (.ops [6,1,4]) (.node (.loop [6,1,4] (.node (.node (.ops [39,1,6,4]) (.node .leaf .leaf)) (.node (.node (.ops [1,4,6]) .leaf) (.ops [6,1,4])))) .leaf)) (.node (.ops [2,3]) .leaf))))))
noncomputable def VL:dm:=Fx A50 (bQ Tryz.prog gl { aaA:=[(8,6),(9,2),(13,6)],boxes:=[(3,0),(3,1)],low:=[(3,1)] } Tryz.f50)
def A51:An:=(.node (.ops [0,2]) (.node (.ops [0,3,2]) (.node (.node (.ops [4,0,3,2]) (.node (.loop [4,0,3,2] (.node (.node (.ops [24,0,2,4,3]) (.node .leaf .leaf)) (.node (.node (.ops [0,3,2,4]) .leaf) (.ops [4,0,3,2])))) .leaf)) (.node (.ops [3,2,0]) (.node (.node (.loop [3,2,0] (.node (.node (.ops [40,2,0,3]) (.node .leaf .leaf)) (.node (.ops [3,2,0]) .leaf))) .leaf) (.node (.ops [5,3,2]) (.node (.node (.ops [6,5,3,2]) (.node (.loop [6,5,3,2] (.node (.node (.ops [49,5,2,6,3]) (.node .leaf .leaf)) (.node (.node (.ops [5,3,2,6]) .leaf) (.ops [6,5,3,2])))) .leaf)) (.node (.ops [3,7,2]) (.node (.node (.ops [8,3,7,2]) (.node (.loop [8,3,7,2] (.node (.node (.ops [64,8,3,7,2]) (.node .leaf .leaf)) (.node (.node (.node (.ops [9,8,3,7,2]) (.node (.node (.ops [10,9,8,3,7,2]) (.node (.loop [10,9,8,3,7,2] (.node (.node (.ops [69,9,8,3,7,2,10]) (.node .leaf .leaf)) (.node (.node (.node (.node (.ops [73,9,8,3,7,2,10]) (.node (.node (.ops [9,8,3,7,2,10]) .leaf) .leaf)) (.node (.ops [9,8,3,7,2,10,11]) (.node (.ops [9,8,3,7,2,10,12,11]) (.ops [9,8,3,7,2,10])))) .leaf) (.ops [10,9,8,3,7,2])))) .leaf)) (.node (.ops [13,9,7,3,2,8]) (.node (.node (.ops [14,13,9,7,3,2,8]) (.node (.loop [14,13,9,7,3,2,8] (.node (.node (.ops [168,13,9,7,3,2,8,14]) (.node .leaf .leaf)) (.node (.node (.node (.ops [13,9,7,3,2,8,14,15]) (.node (.ops [13,9,7,3,2,8,14,15,16]) (.ops [13,9,7,3,2,8,14]))) .leaf) (.ops [14,13,9,7,3,2,8])))) .leaf)) (.node (.ops [17,7,13,3,2,8]) (.node (.loop [17,7,13,3,2,8] (.node (.node (.ops [256,7,13,3,2,8,17]) (.node .leaf .leaf)) (.node (.node (.ops [7,13,3,2,8,17]) .leaf) (.ops [17,7,13,3,2,8])))) .leaf)))))) .leaf) (.ops [8,3,7,2])))) .leaf)) (.node (.ops [18,7,2]) (.node (.node (.ops [19,18,7,2]) (.node (.loop [19,18,7,2] (.node (.node (.ops [270,18,7,2,19]) (.node .leaf .leaf)) (.node (.node (.ops [18,7,2,19]) .leaf) (.ops [19,18,7,2])))) .leaf)) (.node (.ops [2]) .leaf))))))))))))
noncomputable def DF:dm:=Fx A51 (bQ Tryz.prog gl {} Tryz.f51)
def A52:An:=(.node (.ops [0]) (.node (.ops [0,3]) (.node (.node (.ops [4,0,3]) (.node (.loop [4,0,3] (.node (.node (.ops [10,4,0,3]) (.node .leaf .leaf)) (.node (.node (.node (.ops [5,4,0,3]) (.node (.loop [5,4,0,3] (.node (.node (.ops [19,4,0,5,3]) (.node .leaf .leaf)) (.node (.node (.ops [4,0,3,5]) .leaf) (.ops [5,4,0,3])))) .leaf)) .leaf) (.ops [4,0,3])))) .leaf)) (.node (.ops [2]) .leaf))))
noncomputable def VM:dm:=Fx A52 (bQ Tryz.prog gl { aaA:=[(8,9)],own:=true } Tryz.f52)
def A53:An:=(.node (.ops [0]) (.node (.ops [2]) .leaf))
noncomputable def F53:dm:=Fx A53 (bQ Tryz.prog gl {} Tryz.f53)
def A54:An:=(.node (.ops [0]) (.node (.ops [2]) .leaf))
noncomputable def F54:dm:=Fx A54 (bQ Tryz.prog gl {} Tryz.f54)
def A55:An:=(.node (.ops [0]) (.node (.node (.ops [9,0,8]) (.node (.loop [9,0,8] (.node (.ops [10,0,8,9]) (.node (.node .leaf .leaf) (.node (.node (.node (.ops [0,8,9,3]) (.node (.ops [4,0,8,9]) (.node (.ops [24,4,0,8,9]) (.node (.node (.ops [2]) .leaf) .leaf)))) .leaf) (.ops [9,0,8]))))) .leaf)) (.node (.ops [2]) .leaf)))
noncomputable def YY:dm:=Fx A55 (bQ Tryz.prog gl {} Tryz.f55)
def A56:An:=(.node (.ops []) (.node (.ops [0]) .leaf))
noncomputable def F56:dm:=Fx A56 (bQ Tryz.prog gl { keep:=true } Tryz.f56)
def A57:An:=(.node (.ops [0]) (.node (.node (.node (.ops [3,0]) (.node (.node (.ops []) (.node (.ops [2]) .leaf)) (.node (.ops [8]) (.node (.node (.ops [2]) .leaf) .leaf)))) .leaf) (.node (.ops [2]) .leaf)))
noncomputable def F57:dm:=Fx A57 (bQ Tryz.prog gl {} Tryz.f57)
def A58:An:=(.node (.ops [1,0,4]) (.node (.ops [1,0,4]) (.node (.ops [1,0]) (.ops []))))
noncomputable def F58:dm:=Fx A58 (bQ Tryz.prog gl { keep:=true } Tryz.f58)
def A59:An:=(.node (.ops [0]) (.node (.node (.ops [10,0]) (.node (.node (.ops [2]) .leaf) .leaf)) (.node (.ops [4,0,3]) (.node (.node (.ops [30,4]) (.node (.node (.ops [2]) .leaf) .leaf)) (.node (.ops [2]) .leaf)))))
noncomputable def F59:dm:=Fx A59 (bQ Tryz.prog gl {} Tryz.f59)
def A60:An:=(.node (.ops [2,0]) (.node (.node (.node (.ops [11,2,0]) (.node (.node (.ops [2,3]) .leaf) (.node (.ops [16,2,0]) (.node (.node (.ops [2,3]) .leaf) .leaf)))) .leaf) (.node (.ops [2,0]) (.node (.node (.ops [2,0,5]) (.node (.ops [31,2,0]) (.node (.node (.ops [2,3]) .leaf) .leaf))) (.node (.ops [2,6,0]) (.node (.ops [2,6,0]) (.node (.ops [2,6,0,7]) (.node (.ops [2,6,0,9,7,10]) (.node (.node (.ops [57,2,6,0,9,7]) (.node (.node (.ops [2,3]) .leaf) .leaf)) (.node (.ops [2,6,0]) (.node (.ops [2,6]) (.node (.ops [2,3]) .leaf))))))))))))
noncomputable def F60:dm:=Fx A60 (bQ Tryz.prog gl { boxes:=[(3,1),(3,2)] } Tryz.f60)
def A61:An:=(.node (.ops [2,0]) (.node (.ops [2,3,0]) (.node (.ops [2,3]) (.node (.ops [4,2,3]) (.node (.node (.ops [4,18,17,2]) (.node (.loop [4,18,17,2] (.node (.ops [19,4,17,2,18]) (.node (.node .leaf .leaf) (.node (.node (.node (.ops [4,6,5,17,2,18]) (.node (.ops [22,4,6,5,17,2,18]) (.node (.loop [22,4,6,5,17,2,18] (.node (.ops [23,4,6,5,17,2,18,22]) (.node (.node .leaf .leaf) (.node (.node (.node (.ops [4,6,5,17,2,18,22,7]) (.ops [4,6,5,17,2,18,22])) .leaf) (.ops [22,4,6,5,17,2,18]))))) .leaf))) .leaf) (.ops [4,18,17,2]))))) .leaf)) (.node (.ops [2]) .leaf))))))
noncomputable def F61:dm:=Fx A61 (bQ Tryz.prog gl {} Tryz.f61)
def A62:An:=(.node (.ops [2,1,0]) (.node (.node (.ops [2,1,0,8,7]) (.node (.ops [21,2,1,0]) (.node (.node (.ops [6]) .leaf) .leaf))) (.node (.ops [6]) .leaf)))
noncomputable def F62:dm:=Fx A62 (bQ Tryz.prog gl { keep:=true } Tryz.f62)
def A63:An:=(.node (.ops [1,0]) (.node (.ops [6,1,0]) (.node (.node (.ops [28,6]) (.node (.node (.ops [4,5]) .leaf) .leaf)) (.node (.node (.ops [33,6]) (.node (.node (.ops [4,5]) .leaf) .leaf)) (.node (.ops [8,6,7]) (.node (.node (.ops [40,8,6,7]) (.node (.node (.ops [4,5]) .leaf) .leaf)) (.node (.node (.ops [43,6]) (.node (.node (.ops [6]) (.node (.node (.ops [9,6]) (.node (.ops [58,9,6]) (.node (.node (.ops [4,5]) .leaf) .leaf))) (.node (.ops [4,5]) .leaf))) .leaf)) (.node (.ops [6,8,10]) (.node (.node (.ops [70,6,8]) (.node (.ops [8,6]) .leaf)) (.node (.node (.ops [78,8,6]) (.node (.node (.ops [4,5]) .leaf) .leaf)) (.node (.ops [4,5]) .leaf)))))))))))
noncomputable def F63:dm:=Fx A63 (bQ Tryz.prog gl { keep:=true } Tryz.f63)
def A64:An:=(.node (.ops [2,1,0]) (.node (.ops [7]) (.node (.ops [7]) (.node (.ops [6]) .leaf))))
noncomputable def F64:dm:=Fx A64 (bQ Tryz.prog gl { keep:=true } Tryz.f64)
def A65:An:=(.node (.ops [0,1,2]) (.node (.ops [0,1,2,8]) (.node (.node (.ops [0,1,2,8,10]) (.node (.ops [23,0,1,2,8]) (.node (.node (.ops [1,0,2,8]) (.node (.ops [1,0,2,8,12]) (.node (.ops [35,1,0,2,8]) (.node (.node (.ops [6,7]) .leaf) .leaf)))) .leaf))) (.node (.node (.ops [13,1,0]) (.node (.ops [41,13,1,0]) (.node (.node (.ops [6,7]) .leaf) .leaf))) (.node (.ops [1]) (.node (.ops [6,7]) .leaf))))))
noncomputable def F65:dm:=Fx A65 (bQ Tryz.prog gl { keep:=true } Tryz.f65)
def A66:An:=(.node (.ops [0]) (.node (.ops [4]) (.node (.node (.ops [28,4]) (.node (.node (.ops [2,3]) .leaf) .leaf)) (.node (.ops [2,3]) .leaf))))
noncomputable def F66:dm:=Fx A66 (bQ Tryz.prog gl {} Tryz.f66)
def A67:An:=(.node (.ops [1,0]) (.node (.ops [4]) .leaf))
noncomputable def F67:dm:=Fx A67 (bQ Tryz.prog gl {} Tryz.f67)
def A69:An:=(.node (.ops [2,0]) (.node (.ops [3,2,0]) (.node (.node (.ops [9,3,7,2,8]) (.node (.loop [9,3,7,2,8] (.node (.ops [10,3,7,2,8,9]) (.node (.node .leaf .leaf) (.node (.node (.node (.ops [3,7,2,8,9,5]) (.ops [3,7,2,8,9])) .leaf) (.ops [9,3,7,2,8]))))) .leaf)) (.node (.ops [2]) .leaf))))
noncomputable def F69:dm:=Fx A69 (bQ Tryz.prog gl {} Tryz.f69)
def A70:An:=(.node (.ops [2,1,0]) (.node (.node (.node (.ops [7,2,1,0]) (.node (.node (.ops [6]) .leaf) (.node (.ops [13]) (.node (.node (.ops [6]) .leaf) .leaf)))) .leaf) (.node (.ops [6]) .leaf)))
noncomputable def F70:dm:=Fx A70 (bQ Tryz.prog gl {} Tryz.f70)
def A71:An:=(.node (.ops [1,0,2]) (.node (.node (.node (.ops [9,1,0,2]) (.node (.node (.ops [6]) .leaf) (.node (.ops [14,1,0,2]) (.node (.node (.ops [6]) .leaf) (.node (.ops [21,1,0,2]) (.node (.node (.ops [6]) .leaf) .leaf)))))) .leaf) (.node (.node (.ops [29,1,0,27,28]) (.node (.loop [29,1,0,27,28] (.node (.ops [30,1,0,27,28,29]) (.node (.node .leaf .leaf) (.node (.node (.node (.ops [1,0,27,28,29,8,7]) (.node (.ops [40,1,0,27,28,29]) (.node (.node (.ops [6]) .leaf) .leaf))) .leaf) (.ops [29,1,0,27,28]))))) .leaf)) (.node (.ops [6]) .leaf))))
noncomputable def F71:dm:=Fx A71 (bQ Tryz.prog gl {} Tryz.f71)
def A72:An:=(.node (.ops [0]) (.node (.ops [2]) .leaf))
noncomputable def F72:dm:=Fx A72 (bQ Tryz.prog gl {} Tryz.f72)
def A73:An:=(.node (.ops [0]) (.node (.node (.ops [4,0]) (.node (.node (.ops [2]) .leaf) .leaf)) (.node (.ops [2]) .leaf)))
noncomputable def F73:dm:=Fx A73 (bQ Tryz.prog gl { boxes:=[(3,2)],own:=true } Tryz.f73)
def A76:An:=(.node (.ops [0]) (.node (.ops [0,3]) (.node (.node (.ops [4,0,3]) (.node (.loop [4,0,3] (.node (.node (.ops [9,0,4,3]) (.node .leaf .leaf)) (.node (.node (.ops [0,3,4]) .leaf) (.ops [4,0,3])))) .leaf)) (.node (.ops [2]) .leaf))))
noncomputable def Y0:dm:=Fx A76 (bQ Tryz.prog gl { aaA:=[(5,6)],own:=true } Tryz.f76)
def A79:An:=(.node (.ops [2,1,0]) (.node (.node (.ops [8,2,1,0]) (.node (.ops [14,8,2,1,0]) (.node (.node (.ops [6,7]) .leaf) .leaf))) (.node (.ops [6,7]) .leaf)))
noncomputable def F79:dm:=Fx A79 (bQ Tryz.prog gl {} Tryz.f79)
def A81:An:=(.node (.ops [0]) (.node (.ops [2]) .leaf))
noncomputable def F81:dm:=Fx A81 (bQ Tryz.prog gl {} Tryz.f81)
def A82:An:=(.node (.ops [0]) (.node (.ops [2]) .leaf))
noncomputable def F82:dm:=Fx A82 (bQ Tryz.prog gl {} Tryz.f82)
def A83:An:=(.node (.ops [1]) (.node (.ops [2]) .leaf))
noncomputable def F83:dm:=Fx A83 (bQ Tryz.prog gl {} Tryz.f83)
def A84:An:=(.node (.ops [1,0]) (.node (.ops [1,5]) (.node (.node (.ops [6,1,5]) (.node (.loop [6,1,5] (.node (.node (.ops [10,6,1,5]) (.node .leaf .leaf)) (.node (.node (.node (.ops [5,6,1]) (.ops [1,5,6])) .leaf) (.ops [6,1,5])))) .leaf)) (.node (.ops [4]) .leaf))))
noncomputable def Y2:dm:=Fx A84 (bQ Tryz.prog gl { aaA:=[(5,5)],own:=true } Tryz.f84)
def A85:An:=(.node (.ops [0]) (.node (.ops [2]) .leaf))
noncomputable def F85:dm:=Fx A85 (bQ Tryz.prog gl {} Tryz.f85)
def A86:An:=(.node (.ops [1,0]) (.node (.ops [4]) .leaf))
noncomputable def F86:dm:=Fx A86 (bQ Tryz.prog gl {} Tryz.f86)
def A87:An:=(.node (.ops [0]) (.node (.ops [2]) .leaf))
noncomputable def F87:dm:=Fx A87 (bQ Tryz.prog gl {} Tryz.f87)
def A88:An:=(.node (.ops [0,1]) (.node (.node (.node (.ops [6,0,1]) (.node (.node (.ops [4]) .leaf) (.node (.ops [11,0,1]) (.node (.node (.ops [4]) .leaf) .leaf)))) .leaf) (.node (.ops [0,1]) (.node (.node (.ops [42,0,1,41]) (.node (.loop [42,0,1,41] (.node (.ops [43,0,1,41,42]) (.node (.node .leaf .leaf) (.node (.node (.node (.ops [0,1,41,42,5]) (.node (.ops [55,0,1,41,42]) (.node (.node (.ops [4]) .leaf) .leaf))) .leaf) (.ops [42,0,1,41]))))) .leaf)) (.node (.ops [4]) .leaf)))))
noncomputable def Y3:dm:=Fx A88 (bQ Tryz.prog gl {} Tryz.f88)
def A89:An:=(.node (.ops [0]) (.node (.ops [0]) .leaf))
noncomputable def F89:dm:=Fx A89 (bQ Tryz.prog gl {} Tryz.f89)
def A90:An:=(.node (.loop [0,1] (.node (.node (.ops [8,0,1]) (.node .leaf .leaf)) (.node (.node (.ops [0,4,1]) (.node (.ops [0,5,4,1]) (.node (.ops [0,1,5,4]) (.node (.ops [0,1,5,4]) (.node (.ops [35,0,1]) (.node (.ops [0,1]) .leaf)))))) .leaf))) .leaf)
noncomputable def Y4:dm:=Fx A90 (bQ Tryz.prog gl {} Tryz.f90)
def A91:An:=(.node (.ops [1,0]) (.node (.ops [4]) .leaf))
noncomputable def F91:dm:=Fx A91 (bQ Tryz.prog gl {} Tryz.f91)
def A92:An:=(.node (.ops [0]) (.node (.ops [4,0]) (.node (.node (.ops [11,4,0]) (.node (.node (.ops [2,3]) .leaf) .leaf)) (.node (.node (.ops [4,0,5]) (.node (.ops [24,4,0]) (.node (.node (.ops [2,3]) .leaf) .leaf))) (.node (.ops [2,3]) .leaf)))))
noncomputable def F92:dm:=Fx A92 (bQ Tryz.prog gl {} Tryz.f92)
def A93:An:=(.node (.ops [0]) (.node (.node (.ops [8,0]) (.node (.node (.ops [2,3]) .leaf) .leaf)) (.node (.ops [0,4]) (.node (.node (.ops [9,0,4]) (.node (.loop [9,0,4] (.node (.ops [10,0,9,4]) (.node (.node .leaf .leaf) (.node (.node (.node (.ops [0,9,5,4]) (.ops [0,4,9])) .leaf) (.ops [9,0,4]))))) .leaf)) (.node (.ops [2,3]) .leaf)))))
noncomputable def Y5:dm:=Fx A93 (bQ Tryz.prog gl {} Tryz.f93)
def A94:An:=(.node (.ops [0]) (.node (.ops [4]) (.node (.ops [2,3]) .leaf)))
noncomputable def F94:dm:=Fx A94 (bQ Tryz.prog gl {} Tryz.f94)
def A95:An:=(.node (.ops [0]) (.node (.ops [3]) (.node (.ops [2]) .leaf)))
noncomputable def F95:dm:=Fx A95 (bQ Tryz.prog gl { keep:=true } Tryz.f95)
def A96:An:=(.node (.ops [0]) (.node (.ops [0,3]) (.node (.node (.ops [14,0,3]) (.node (.ops [3,0]) .leaf)) (.pre [3,0] (.node (.ops [3,4,0]) (.node (.ops [3,4,0]) (.node (.ops [5,3,4]) (.node (.node (.ops [27,5,3,4]) (.node (.loop [27,5,3,4] (.node (.ops [28,5,3,4,27]) (.node (.node .leaf .leaf) (.node (.node (.node (.ops [5,3,4,27,6]) (.ops [5,3,4,27])) .leaf) (.ops [27,5,3,4]))))) .leaf)) (.node (.ops [2]) .leaf)))))))))
noncomputable def F96:dm:=Fx A96 (bQ Tryz.prog gl {} Tryz.f96)
def A97:An:=(.node (.ops [2,1,0]) (.node (.node (.ops [7,2,1,0]) (.node (.ops [16,7,2,1,0]) (.node (.node (.ops [6]) .leaf) .leaf))) (.node (.node (.ops [2,1,0,8,9]) (.node (.ops [32,2,1,0]) (.node (.node (.ops [6]) .leaf) .leaf))) (.node (.ops [10,2,1,0]) (.node (.ops [10,2,1,0]) (.node (.ops [6]) .leaf))))))
noncomputable def F97:dm:=Fx A97 (bQ Tryz.prog gl { keep:=true,quiet:=[(8,3),(9,3)] } Tryz.f97)
def A98:An:=(.node (.ops [0]) (.node (.ops [0,4]) (.node (.node (.ops [10,0,4]) (.node (.loop [10,0,4] (.node (.ops [11,0,10,4]) (.node (.node .leaf .leaf) (.node (.node (.node (.ops [0,10,5,4]) (.node (.ops [7,0,10,5,4,6]) (.node (.node (.ops [20,7,0,10,5,4,6]) (.node (.node (.ops [2,3]) .leaf) .leaf)) (.node (.ops [0,10,8,5,4,6]) (.node (.ops [43,0,10,8,5,4]) (.node (.ops [0,4,10]) .leaf)))))) .leaf) (.ops [10,0,4]))))) .leaf)) (.node (.ops [2,3]) .leaf))))
noncomputable def F98:dm:=Fx A98 (bQ Tryz.prog gl {} Tryz.f98)
def A99:An:=(.node (.ops [0,1]) (.node (.node (.node (.ops [10,0,1]) (.node (.node (.ops [4]) .leaf) (.node (.ops [18,0,1]) (.node (.node (.ops [4]) .leaf) .leaf)))) .leaf) (.node (.ops [0,1,5]) (.node (.ops [0,1,5,6]) (.node (.node (.ops [7,0,1,5,6]) (.node (.ops [38,7,0,1,5,6]) (.node (.node (.ops [4]) .leaf) .leaf))) (.node (.ops [0,1,8,5,6,9]) (.node (.node (.ops [47,0,1,8,5,6,9]) (.node (.ops [0,1,8,5,6,9]) .leaf)) (.pre [0,1,8,5,6,9] (.node (.node (.ops [57,0,1,8,5,6,9]) (.node (.ops [9,0,1,8,5]) .leaf)) (.node (.node (.ops [62,9,0,1,8,5]) (.node (.node (.ops [4]) .leaf) .leaf)) (.node (.ops [0]) (.node (.ops []) (.node (.ops [4]) .leaf)))))))))))))
noncomputable def F99:dm:=Fx A99 (bQ Tryz.prog gl { keep:=true } Tryz.f99)
def VN:An:=(.node (.ops [0]) (.node (.ops [3,0,4]) (.node (.node (.ops [19,3,0,4]) (.node (.node (.ops [2,3]) .leaf) .leaf)) (.node (.ops [0,4]) (.node (.node (.loop [0,4] (.node (.node (.ops [0,4,5,6]) (.node (.node (.ops [38,0,4,5]) (.node .leaf .leaf)) (.node (.node (.ops [46,0,4,5]) (.node (.node (.ops [2,3]) .leaf) .leaf)) (.node (.node (.ops [48,0,4,5]) (.node (.ops [0,4,5]) (.ops [0,4,5]))) (.ops [0,4]))))) .leaf)) .leaf) (.node (.node (.ops [76,74,75]) (.node (.loop [76,74,75] (.node (.ops [77,74,75,76]) (.node (.node .leaf .leaf) (.node (.node (.node (.ops [74,75,76,8]) (.node (.ops [81,74,75,76]) (.node (.node (.ops [2,3]) .leaf) .leaf))) .leaf) (.ops [76,74,75]))))) .leaf)) (.node (.ops [2,3]) .leaf)))))))
noncomputable def Y6:dm:=Fx VN (bQ Tryz.prog gl { keep:=true } Tryz.f100)
def VO:An:=(.node (.ops [1,0]) (.node (.ops [7,6]) (.node (.ops [4,5]) .leaf)))
noncomputable def VP:dm:=Fx VO (bQ Tryz.prog gl { own:=true } Tryz.f101)
def VQ:An:=(.node (.ops [1,0,2]) (.node (.ops [6]) .leaf))
noncomputable def Y7:dm:=Fx VQ (bQ Tryz.prog gl {} Tryz.f104)
def VR:An:=(.node (.ops [1,0,2]) (.node (.ops [6]) .leaf))
noncomputable def Y8:dm:=Fx VR (bQ Tryz.prog gl {} Tryz.f105)
def VS:An:=(.node (.ops [1,0,2]) (.node (.node (.ops [11,1,0,9,10]) (.node (.loop [11,1,0,9,10] (.node (.ops [12,1,0,9,10,11]) (.node (.node .leaf .leaf) (.node (.node (.node (.ops [1,0,9,10,11,7,8]) (.node (.ops [27,1,0,9,10,11]) (.node (.node (.ops [6]) .leaf) .leaf))) .leaf) (.ops [11,1,0,9,10]))))) .leaf)) (.node (.ops [6]) .leaf)))
noncomputable def Y9:dm:=Fx VS (bQ Tryz.prog gl {} Tryz.f106)
def VT:An:=(.node (.ops [0,2,1]) (.node (.node (.ops [11,0,2,1]) (.node (.node (.ops []) (.node (.ops [6]) .leaf)) .leaf)) (.node (.node (.ops [19,0,2,1]) (.node (.ops [0,2,1]) .leaf)) (.node (.ops [0]) (.node (.ops []) (.node (.ops [6]) .leaf))))))
noncomputable def VU:dm:=Fx VT (bQ Tryz.prog gl {} Tryz.f107)
def VV:An:=(.node (.ops [2,1,0]) (.node (.node (.node (.ops [8,2,1,0]) (.node (.node (.ops [6,7]) .leaf) (.node (.ops [13,2,1,0]) (.node (.node (.ops [6,7]) .leaf) .leaf)))) .leaf) (.node (.ops [6,7]) .leaf)))
noncomputable def Za:dm:=Fx VV (bQ Tryz.prog gl {} Tryz.f108)
def VW:An:=(.node (.ops [0]) (.node (.ops [3,0]) (.node (.node (.ops [3,4,0]) (.node (.loop [3,4,0] (.node (.node (.ops [11,3,4,0]) (.node .leaf .leaf)) (.node (.node (.node (.ops [5,3,4,0]) (.node (.loop [5,3,4,0] (.node (.node (.ops [15,4,0,5,3]) (.node .leaf .leaf)) (.node (.node (.node (.ops [4,0,5,6,3]) (.node (.ops [4,0,5,7,6,3]) (.node (.ops [4,0,5,3,7,6]) (.node (.ops [32,4,0,5,3]) (.node (.ops [3,4,0,5]) .leaf))))) .leaf) (.ops [5,3,4,0])))) .leaf)) .leaf) (.ops [3,4,0])))) .leaf)) (.node (.ops [2]) .leaf))))
noncomputable def JC:dm:=Fx VW (bQ Tryz.prog gl {} Tryz.f111)
def VX:An:=(.node (.ops [2,0]) (.node (.ops [3,2,0]) (.node (.node (.ops [23,3,2,0]) (.node (.loop [23,3,2,0] (.node (.ops [24,3,2,0,23]) (.node (.node .leaf .leaf) (.node (.node (.node (.ops [3,2,0,23,4]) (.node (.ops [3,2,0,23,7,6,5,4,10,8,9]) (.node (.ops [3,2,0,23,11,7,6,5]) (.node (.ops [3,2,0,23,12,11]) (.node (.ops [3,2,0,23,12,11]) (.node (.ops [3,2,0,23,12,11]) (.ops [3,2,0,23]))))))) .leaf) (.ops [23,3,2,0]))))) .leaf)) (.node (.ops [100,0,99]) (.node (.loop [100,0,99] (.node (.ops [101,0,99,100]) (.node (.node .leaf .leaf) (.node (.node (.node (.ops [0,99,100,14,13]) (.ops [0,99,100])) .leaf) (.ops [100,0,99]))))) .leaf)))))
noncomputable def JD:dm:=Fx VX (bQ Tryz.prog gl {} Tryz.f112)
def VY:An:=(.node (.ops [0]) (.node (.ops [2]) .leaf))
noncomputable def VZ:dm:=Fx VY (bQ Tryz.prog gl {} Tryz.f113)
def V0:An:=(.node (.ops [0]) (.node (.node (.ops [0,6]) (.node (.loop [0,6] (.node (.ops [8,0,6,7]) (.node (.node .leaf .leaf) (.node (.node (.ops [0,6,4]) (.node (.ops [12,0,6]) (.node (.node (.ops [2]) .leaf) .leaf))) .leaf)))) .leaf)) (.node (.ops [2]) .leaf)))
noncomputable def P5:dm:=Fx V0 (bQ Tryz.prog gl {} Tryz.f115)
def V1:An:=(.node (.ops [2,1,0]) (.node (.node (.node (.node (.ops [7,2,1,0]) (.node .leaf (.ops [7,2,1]))) (.node (.node (.ops [6]) .leaf) (.node (.ops [22,2]) (.node (.node (.ops [6]) .leaf) (.node (.ops [29]) (.node (.node (.ops [6]) .leaf) .leaf)))))) .leaf) (.node (.ops [6]) .leaf)))
noncomputable def Zb:dm:=Fx V1 (bQ Tryz.prog gl {} Tryz.f116)
def V2:An:=(.node (.ops [2,0,1]) (.node (.ops [2,0,7,1]) (.node (.node (.node (.ops [12,2,0,7,1]) (.node (.node (.ops [6]) .leaf) (.node (.ops [20,2,0,7,1]) (.node (.node (.ops [6]) .leaf) .leaf)))) .leaf) (.node (.node (.ops [8,2,0,7]) (.node (.ops [44,8,2,0,7]) (.node (.node (.ops [6]) .leaf) .leaf))) (.node (.ops [2,0]) (.node (.ops []) (.node (.ops [6]) .leaf)))))))
noncomputable def Zc:dm:=Fx V2 (bQ Tryz.prog gl { keep:=true } Tryz.f118)
def V3:An:=(.node (.ops [1,0,2]) (.node (.ops [1,0,7,2]) (.node (.node (.ops [10,1,0,7]) (.node (.ops [1,7,0]) .leaf)) (.node (.ops [6]) .leaf))))
noncomputable def Zd:dm:=Fx V3 (bQ Tryz.prog gl {} Tryz.f119)
def V4:An:=(.node (.ops [0,1]) (.node (.ops [4,5]) .leaf))
noncomputable def Ze:dm:=Fx V4 (bQ Tryz.prog gl {} Tryz.f120)
def V5:An:=(.node (.ops [1,0]) (.node (.ops [1,6,0]) (.node (.node (.ops [14,1,6,0,12,13]) (.node (.loop [14,1,6,0,12,13] (.node (.ops [15,1,0,12,13,14,6]) (.node (.node .leaf .leaf) (.node (.node (.node (.ops [1,0,12,13,14,8,6]) (.node (.node (.ops [9,1,0,12,13,14,8,6]) (.node (.ops [27,9,1,0,12,13,14,8,6]) (.node (.node (.ops [4,5]) .leaf) .leaf))) (.ops [1,6,0,12,13,14]))) .leaf) (.ops [14,1,6,0,12,13]))))) .leaf)) (.node (.ops [4,5]) .leaf))))
noncomputable def Zf:dm:=Fx V5 (bQ Tryz.prog gl {} Tryz.f122)
def V6:An:=(.node (.ops [1,0]) (.node (.ops [1,5]) (.node (.node (.ops [9,1,5]) (.node (.loop [9,1,5] (.node (.ops [10,1,9,5]) (.node (.node .leaf .leaf) (.node (.node (.node (.ops [1,9,6,5]) (.ops [1,5,9])) .leaf) (.ops [9,1,5]))))) .leaf)) (.node (.ops [4]) .leaf))))
noncomputable def Zg:dm:=Fx V6 (bQ Tryz.prog gl { aaA:=[(5,7)] } Tryz.f123)
def V7:An:=(.node (.ops [4,1,0]) (.node (.node (.ops [19,4,1,0]) (.node (.node (.ops [4,5]) .leaf) .leaf)) (.node (.ops [4,6,1,0]) (.node (.ops [4,6,1,0,7]) (.node (.node (.node (.ops [39,4,6,1,0,7]) (.node (.ops [4,6,7,1,0]) (.node (.ops [42,4,6,7,1,0]) (.node (.node (.ops [4,5]) .leaf) .leaf)))) .leaf) (.pre [4,6,7,1,0] (.node (.ops [4,6,7,1,0]) (.node (.node (.ops [64,4,6,7,1,0]) (.node (.node (.ops [4,5]) .leaf) .leaf)) (.node (.ops [4,6]) (.node (.ops [4,5]) .leaf))))))))))
noncomputable def Zh:dm:=Fx V7 (bQ Tryz.prog gl {} Tryz.f124)
def V8:An:=(.node (.ops [5,1,0]) (.node (.ops [8]) (.node (.ops [6]) .leaf)))
noncomputable def Zi:dm:=Fx V8 (bQ Tryz.prog gl {} Tryz.f125)
def V9:An:=(.node (.ops [0,2]) (.node (.ops [3,0,2]) (.node (.node (.ops [9,3,0,2]) (.node (.loop [9,3,0,2] (.node (.ops [10,3,0,2,9]) (.node (.node .leaf .leaf) (.node (.node (.node (.ops [3,0,2,9,4]) (.node (.node (.ops [13,3,0,2,9,4]) (.node (.node (.ops [3,0,2,9]) .leaf) .leaf)) (.node (.ops [3,0,2,9,4,6,5]) (.node (.ops [3,0,2,9,4,7,6]) (.node (.ops [3,0,2,9,8,4,7]) (.ops [3,0,2,9])))))) .leaf) (.ops [9,3,0,2]))))) .leaf)) (.node (.ops [2]) .leaf))))
noncomputable def P6:dm:=Fx V9 (bQ Tryz.prog gl {} Tryz.f128)
def Wa:An:=(.node (.ops [1,0]) (.node (.ops [4]) .leaf))
noncomputable def Wb:dm:=Fx Wa (bQ Tryz.prog gl {} Tryz.f129)
def Wc:An:=(.node (.ops [1,0]) (.node (.ops [5,1]) (.node (.node (.ops [12,5,10,11]) (.node (.loop [12,5,10,11] (.node (.ops [13,10,11,12,5]) (.node (.node .leaf .leaf) (.node (.node (.node (.ops [10,11,12,7,5]) (.ops [5,10,11,12])) .leaf) (.ops [12,5,10,11]))))) .leaf)) (.node (.ops [4]) .leaf))))
noncomputable def P7:dm:=Fx Wc (bQ Tryz.prog gl {} Tryz.f130)
def Wd:An:=(.node (.ops [0]) (.node (.ops [2]) .leaf))
noncomputable def We:dm:=Fx Wd (bQ Tryz.prog gl {} Tryz.f135)
def Wf:An:=(.node (.ops [0]) (.node (.ops [2]) .leaf))
noncomputable def Zj:dm:=Fx Wf (bQ Tryz.prog gl {} Tryz.f137)
def Wg:An:=(.node (.ops [2,1,0]) (.node (.node (.ops [7,2,1,0]) (.node (.ops [13,7,2,1,0]) (.node (.node (.ops [6]) .leaf) .leaf))) (.node (.ops [6]) .leaf)))
noncomputable def Zk:dm:=Fx Wg (bQ Tryz.prog gl {} Tryz.f138)
def Wh:An:=(.node (.ops [0]) (.node (.ops [2]) .leaf))
noncomputable def Zl:dm:=Fx Wh (bQ Tryz.prog gl {} Tryz.f139)
def Wi:An:=(.node (.ops [0]) (.node (.ops [2]) .leaf))
noncomputable def Zm:dm:=Fx Wi (bQ Tryz.prog gl {} Tryz.f140)
def Wj:An:=(.node (.ops [1]) (.node (.ops [2]) .leaf))
noncomputable def Zn:dm:=Fx Wj (bQ Tryz.prog gl { keep:=true } Tryz.f142)
def Wk:An:=(.node (.ops [0,1]) (.node (.ops [5,0]) (.node (.ops [4]) .leaf)))
noncomputable def Wl:dm:=Fx Wk (bQ Tryz.prog gl {} Tryz.f143)
def Wm:An:=(.node (.ops [1,0]) (.node (.ops [0]) (.node (.node (.ops [10,0]) (.node (.loop [10,0] (.node (.ops [11,10,0]) (.node (.node .leaf .leaf) (.node (.node (.node (.ops [10,5,0]) (.node (.ops [10,0,5]) (.node (.ops [17,10,0]) (.node (.ops [0,10]) .leaf)))) .leaf) (.ops [10,0]))))) .leaf)) (.node (.ops [4]) .leaf))))
noncomputable def P8:dm:=Fx Wm (bQ Tryz.prog gl {} Tryz.f144)
def Ec:List PV:=[(.int .u32 0),(.int .i64 0),(.str []),(.int .u8 0),(.int .u8 0),(.int .u8 0),(.int .u8 0),(.int .u8 0),(.int .u8 0),(.int .u8 0),(.int .u8 0),(.int .u8 0),(.int .u8 0),(.int .u8 0),(.int .u8 0),(.int .u8 0),(.int .u8 0),(.int .u8 0),(.int .u8 0),(.int .u8 0),(.int .u8 0),(.int .u8 0),(.int .u8 0),(.int .u8 0),(.int .u8 0),(.int .u8 0),(.int .u8 0),(.int .u8 0),(.int .u8 0),(.int .u8 0),(.int .u8 0),(.int .u8 0),(.int .u8 0),(.int .u8 0),(.int .u8 0)]
noncomputable def T:Table:=fun f=>match f with
 | 5=>some (.code F5)
 | 8=>some (.code F8)
 | 9=>some (.code F9)
 | 10=>some (.code F10)
 | 11=>some (.code F11)
 | 12=>some (.code F12)
 | 13=>some (.code F13)
 | 14=>some (.code F14)
 | 15=>some (.code F15)
 | 16=>some (.code F16)
 | 17=>some (.code F17)
 | 18=>some (.code F18)
 | 19=>some (.code F19)
 | 20=>some (.code F20)
 | 21=>some (.code F21)
 | 24=>some (.code F24)
 | 26=>some (.code F26)
 | 28=>some (.code F28)
 | 36=>some (.code F36)
 | 39=>some (.code F39)
 | 41=>some (.code F41)
 | 43=>some (.code F43)
 | 44=>some (.code F44)
 | 45=>some (.code YW)
 | 46=>some (.code F46)
 | 47=>some (.code YX)
 | 48=>some (.jo Na)
 | 49=>some (.code F49)
 | 50=>some (.code VL)
 | 51=>some (.code DF)
 | 52=>some (.code VM)
 | 53=>some (.code F53)
 | 54=>some (.code F54)
 | 55=>some (.code YY)
 | 56=>some (.code F56)
 | 57=>some (.code F57)
 | 58=>some (.code F58)
 | 59=>some (.code F59)
 | 60=>some (.code F60)
 | 61=>some (.code F61)
 | 62=>some (.code F62)
 | 63=>some (.code F63)
 | 64=>some (.code F64)
 | 65=>some (.code F65)
 | 66=>some (.code F66)
 | 67=>some (.code F67)
 | 69=>some (.code F69)
 | 70=>some (.code F70)
 | 71=>some (.code F71)
 | 72=>some (.code F72)
 | 73=>some (.code F73)
 | 76=>some (.code Y0)
 | 79=>some (.code F79)
 | 81=>some (.code F81)
 | 82=>some (.code F82)
 | 83=>some (.code F83)
 | 84=>some (.code Y2)
 | 85=>some (.code F85)
 | 86=>some (.code F86)
 | 87=>some (.code F87)
 | 88=>some (.code Y3)
 | 89=>some (.code F89)
 | 90=>some (.code Y4)
 | 91=>some (.code F91)
 | 92=>some (.code F92)
 | 93=>some (.code Y5)
 | 94=>some (.code F94)
 | 95=>some (.code F95)
 | 96=>some (.code F96)
 | 97=>some (.code F97)
 | 98=>some (.code F98)
 | 99=>some (.code F99)
 | 100=>some (.code Y6)
 | 101=>some (.code VP)
 | 104=>some (.code Y7)
 | 105=>some (.code Y8)
 | 106=>some (.code Y9)
 | 107=>some (.code VU)
 | 108=>some (.code Za)
 | 111=>some (.code JC)
 | 112=>some (.code JD)
 | 113=>some (.code VZ)
 | 114=>some (.oF (fun vs h=>(iM vs).map fun r=>(r,none)))
 | 115=>some (.code P5)
 | 116=>some (.code Zb)
 | 117=>some (.jo Dp)
 | 118=>some (.code Zc)
 | 119=>some (.code Zd)
 | 120=>some (.code Ze)
 | 121=>some (.oF PN)
 | 122=>some (.code Zf)
 | 123=>some (.code Zg)
 | 124=>some (.code Zh)
 | 125=>some (.code Zi)
 | 128=>some (.code P6)
 | 129=>some (.code Wb)
 | 130=>some (.code P7)
 | 135=>some (.code We)
 | 137=>some (.code Zj)
 | 138=>some (.code Zk)
 | 139=>some (.code Zl)
 | 140=>some (.code Zm)
 | 141=>some (.oF (xY 150))
 | 142=>some (.code Zn)
 | 143=>some (.code Wl)
 | 144=>some (.code P8)
 | _=>none
theorem T_5:T 5=some (.code F5):=rfl
theorem T_8:T 8=some (.code F8):=rfl
theorem T_9:T 9=some (.code F9):=rfl
theorem arY:T 10=some (.code F10):=rfl
theorem aeR:T 11=some (.code F11):=rfl
theorem aeS:T 12=some (.code F12):=rfl
theorem arZ:T 13=some (.code F13):=rfl
theorem ar0:T 14=some (.code F14):=rfl
theorem aeT:T 15=some (.code F15):=rfl
theorem ar1:T 16=some (.code F16):=rfl
theorem aeU:T 17=some (.code F17):=rfl
theorem aeV:T 18=some (.code F18):=rfl
theorem aeW:T 19=some (.code F19):=rfl
theorem aeX:T 20=some (.code F20):=rfl
theorem aeY:T 21=some (.code F21):=rfl
theorem ar2:T 24=some (.code F24):=rfl
theorem aeZ:T 26=some (.code F26):=rfl
theorem ar3:T 28=some (.code F28):=rfl
theorem ae0:T 36=some (.code F36):=rfl
theorem ar4:T 39=some (.code F39):=rfl
theorem ae1:T 41=some (.code F41):=rfl
theorem ae2:T 43=some (.code F43):=rfl
theorem ae3:T 44=some (.code F44):=rfl
theorem ae4:T 45=some (.code YW):=rfl
theorem ae5:T 46=some (.code F46):=rfl
theorem ae6:T 47=some (.code YX):=rfl
theorem ae7:T 48=some (.jo Na):=rfl
theorem ae8:T 49=some (.code F49):=rfl
theorem ae9:T 50=some (.code VL):=rfl
theorem afa:T 51=some (.code DF):=rfl
theorem afb:T 52=some (.code VM):=rfl
theorem afc:T 53=some (.code F53):=rfl
theorem afd:T 54=some (.code F54):=rfl
theorem afe:T 55=some (.code YY):=rfl
theorem aff:T 56=some (.code F56):=rfl
theorem afg:T 57=some (.code F57):=rfl
theorem afh:T 58=some (.code F58):=rfl
theorem ar5:T 59=some (.code F59):=rfl
theorem afi:T 60=some (.code F60):=rfl
theorem ar6:T 61=some (.code F61):=rfl
theorem ar7:T 62=some (.code F62):=rfl
theorem ar8:T 63=some (.code F63):=rfl
theorem ar9:T 64=some (.code F64):=rfl
theorem afj:T 65=some (.code F65):=rfl
theorem afk:T 66=some (.code F66):=rfl
theorem afl:T 67=some (.code F67):=rfl
theorem asa:T 69=some (.code F69):=rfl
theorem asb:T 70=some (.code F70):=rfl
theorem asc:T 71=some (.code F71):=rfl
theorem asd:T 72=some (.code F72):=rfl
theorem afm:T 73=some (.code F73):=rfl
theorem afn:T 76=some (.code Y0):=rfl
theorem ase:T 79=some (.code F79):=rfl
theorem afo:T 81=some (.code F81):=rfl
theorem afp:T 82=some (.code F82):=rfl
theorem afq:T 83=some (.code F83):=rfl
theorem afr:T 84=some (.code Y2):=rfl
theorem afs:T 85=some (.code F85):=rfl
theorem aft:T 86=some (.code F86):=rfl
theorem afu:T 87=some (.code F87):=rfl
theorem afv:T 88=some (.code Y3):=rfl
theorem afw:T 89=some (.code F89):=rfl
theorem afx:T 90=some (.code Y4):=rfl
theorem afy:T 91=some (.code F91):=rfl
theorem afz:T 92=some (.code F92):=rfl
theorem afA:T 93=some (.code Y5):=rfl
theorem afB:T 94=some (.code F94):=rfl
theorem asf:T 95=some (.code F95):=rfl
theorem asg:T 96=some (.code F96):=rfl
theorem ash:T 97=some (.code F97):=rfl
theorem asi:T 98=some (.code F98):=rfl
theorem asj:T 99=some (.code F99):=rfl
theorem am8:T 100=some (.code Y6):=rfl
theorem Zo:T 101=some (.code VP):=rfl
theorem ana:T 104=some (.code Y7):=rfl
theorem anb:T 105=some (.code Y8):=rfl
theorem anf:T 106=some (.code Y9):=rfl
theorem Zp:T 107=some (.code VU):=rfl
theorem ang:T 108=some (.code Za):=rfl
theorem Zq:T 111=some (.code JC):=rfl
theorem Zr:T 112=some (.code JD):=rfl
theorem Zt:T 113=some (.code VZ):=rfl
theorem Zu:T 114=some (.oF (fun vs h=>(iM vs).map fun r=>(r,none))):=rfl
theorem Zv:T 115=some (.code P5):=rfl
theorem anh:T 116=some (.code Zb):=rfl
theorem ani:T 117=some (.jo Dp):=rfl
theorem anj:T 118=some (.code Zc):=rfl
theorem anl:T 119=some (.code Zd):=rfl
theorem anm:T 120=some (.code Ze):=rfl
theorem ann:T 121=some (.oF PN):=rfl
theorem ano:T 122=some (.code Zf):=rfl
theorem anp:T 123=some (.code Zg):=rfl
theorem anq:T 124=some (.code Zh):=rfl
theorem anr:T 125=some (.code Zi):=rfl
theorem Zw:T 128=some (.code P6):=rfl
theorem Zx:T 129=some (.code Wb):=rfl
theorem Zy:T 130=some (.code P7):=rfl
theorem Zz:T 135=some (.code We):=rfl
theorem ans:T 137=some (.code Zj):=rfl
theorem ant:T 138=some (.code Zk):=rfl
theorem anu:T 139=some (.code Zl):=rfl
theorem anv:T 140=some (.code Zm):=rfl
theorem anw:T 141=some (.oF (xY 150)):=rfl
theorem anx:T 142=some (.code Zn):=rfl
theorem ZA:T 143=some (.code Wl):=rfl
theorem ZB:T 144=some (.code P8):=rfl
end Go.Am.Qd
namespace Go.Proofs.YtmmjmkjoflfpmaaGreatDoor
open Go Go.Proofs Go.Lib
def JE:List Int:=Go.Am.Qd.KS.map fun | .int _ z=>z | _=>0
theorem P9:Go.Am.Qd.KS=JE.map fun z=>Go.Am.PV.int .u32 z:=by decide
theorem Ld {W:World} {n:String} {g t:Nat} {H:Type} {d:DataW Unit} (hg:Tryz.prog.globalNamed n=some g) (hty:(Tryz.prog.globals[g]?).map (·.type)=some t) {e:TypeId} {k:Nat} (ht:Tryz.prog.underlying t=some (.array k e)) (he:Tryz.prog.underlying e=some (.int .u32))
  (hce:Tryz.prog.cellsOf e=1) (hct:Tryz.prog.cellsOf t=k) (h:VarReads Tryz.prog W n (tabData .u32 JE)):∀ (j:Nat) (z:Int),JE[j]?=some z→W.cell? ⟨g,j,none⟩=some (.int .u32 z):=by
 obtain⟨g',t',cs,fuel,p,q1,q2,q3,q4⟩:=h;obtain rfl:=Option.some.inj (hg.symm.trans q1);obtain rfl:=Option.some.inj (hty.symm.trans q2);have q5:DataW.trod (fun _=>()) Tryz.prog W 0 (fun _=>true) false fuel t cs.toList=some (tabData .u32 JE,p):=q4;have hcs:=cells_of_tab ht he hce hct q5;intro j z hz;rw[World.var?_cell hg q3 j,←Array.getElem?_toList,hcs,List.getElem?_map,hz];rfl
theorem FK {W:World} {g:Nat} (h:∀ (j:Nat) (z:Int),JE[j]?=some z→W.cell? ⟨g,j,none⟩=some (.int .u32 z)):g<W.heap.size∧∃ u:Nat→Value,(∀ j,j<Go.Am.Qd.KS.length→W.cell? ⟨g,j,none⟩=some (u j)) ∧
  ∀ (j:Nat) (x:Go.Am.PV),Go.Am.Qd.KS[j]?=some x→∀ q w,Go.Am.RV W.heap.size q w x (u j):=by
 have hlen:Go.Am.Qd.KS.length=JE.length:=by rw[P9,List.length_map]
 refine⟨?_,fun j=>.int .u32 (JE.getD j 0),fun j hj=>?_,fun j x hx q w=>?_⟩
 ·have h0:=h 0 1116352408 rfl
  rcases Nat.lt_or_ge g W.heap.size with h' | h'
  ·exact h'
  ·simp[World.cell?,Array.getElem?_eq_none h']at h0
 ·have hj':j<JE.length:=by omega
  rw[h j JE[j] (List.getElem?_eq_getElem hj')];simp[hj']
 ·rw[P9,List.getElem?_map,Option.map_eq_some_iff]at hx
  obtain⟨z,hz,rfl⟩:=hx;have:JE.getD j 0=z:=by simp[hz]
  show Go.Am.RV W.heap.size q w (Go.Am.PV.int .u32 z) (Value.int .u32 (JE.getD j 0));rw[this];exact .int _ _
theorem Qa {W:World} {l:List (String × DataW Unit)} (h:laidMet Tryz.prog l W) (h1:("outpost/outpostref01.words", Rows.laid_outpost_outpostref01_words)∈l) (h2:("outpost/sha.rounds", Rows.laid_outpost_sha_rounds)∈l) :
  Go.Am.dR Go.Am.Qd.gl W.heap.size W:=by
 have e1:∀ (j:Nat) (z:Int),JE[j]?=some z→W.cell? ⟨0,j,none⟩=some (.int .u32 z):=Ld (H:=Unit) (n:="outpost/outpostref01.words") (g:=0) (t:=130) (d:=tabData .u32 JE) (by kernel_rfl) (by kernel_rfl) Tryz.underlying130 Tryz.underlying30 (by kernel_rfl) (by kernel_rfl) (laidMet.reads h h1);have e2:∀ (j:Nat) (z:Int),JE[j]?=some z→W.cell? ⟨2,j,none⟩=some (.int .u32 z):=Ld (H:=Unit) (n:="outpost/sha.rounds") (g:=2) (t:=130) (d:=tabData .u32 JE) (by kernel_rfl) (by kernel_rfl) Tryz.underlying130 Tryz.underlying30 (by kernel_rfl) (by kernel_rfl) (laidMet.reads h h2);intro n cs hcs;have hg:Go.Am.IW Go.Am.Qd.gl n=if n=0 then some Go.Am.Qd.KS else if n=2 then some Go.Am.Qd.KS else none:=by
  by_cases h0:n=0
  ·subst h0;rfl
  ·by_cases h2:n=2
   ·subst h2;rfl
   ·rw[if_neg h0,if_neg h2]
    unfold Go.Am.IW Go.Am.Qd.gl;simp[Go.Am.IW,Ne.symm h0,Ne.symm h2]
 rw[hg]at hcs;split at hcs
 ·rename_i hn;subst hn;cases hcs;exact FK e1
 ·split at hcs
  ·rename_i hn;subst hn;cases hcs;exact FK e2
  ·cases hcs
end Go.Proofs.YtmmjmkjoflfpmaaGreatDoor
namespace Go.Am.QdR
open Go.Proofs
def gl:cR:=[]
noncomputable def Fx (A:An) (o:Option dm):dm:=match o.map (bP A) with | some f=>f | none=>⟨[],.skip,false,false⟩
def A80:An:=(.node (.ops [0,1]) (.node (.node (.ops [13,0,1]) (.node (.node (.ops [4]) .leaf) .leaf)) (.node (.node (.ops [16,0,1]) (.node (.ops [0,1]) .leaf)) (.pre [0,1] (.node (.ops [0,6,5]) (.node (.node (.ops [32,0,6]) (.node (.ops [0,6]) .leaf)) (.pre [0,6] (.node (.ops [7,0]) (.node (.node (.ops [38,7,0]) (.node (.node (.ops [4]) .leaf) .leaf)) (.node (.ops [7,0,8]) (.node (.node (.ops [42,7,0,8]) (.node (.node (.ops [7,0,8]) (.node (.ops [50,7,0,8]) (.node (.ops [8,7,0]) .leaf))) .leaf)) (.pre [8,7,0] (.node (.ops [9,8,7,0]) (.node (.ops [9,10,8,7]) (.node (.node (.loop [9,10,8,7] (.node (.node (.ops [63,9,8,7,10]) (.node .leaf .leaf)) (.node (.node (.ops [9,8,7,11,10]) (.ops [9,10,8,7])) .leaf))) .leaf) (.node (.ops [4]) .leaf))))))))))))))))
noncomputable def Qb:dm:=Fx A80 (bQ Tryz.prog gl { own:=true } Tryz.f80)
def Wn:An:=(.node (.ops [1,0]) (.node (.node (.node (.ops [7,6]) (.node (.ops [4,5]) .leaf)) .leaf) (.node (.ops [9,8]) (.node (.ops [4,5]) .leaf))))
noncomputable def Wo:dm:=Fx Wn (bQ Tryz.prog gl {} Tryz.f109)
def Wp:An:=(.node (.ops [1,0]) (.node (.ops [1,0,6]) (.node (.ops [1,0,7,6]) (.node (.ops [1,0,7,6,8]) (.node (.ops [1,0,9,7,6,8]) (.node (.ops [1,0,9,7,6,10,8]) (.node (.ops [1,0,9,7,6,11]) (.node (.ops [1,0,9,7,6,12,11]) (.node (.ops [1,0,13,9,7,6,12]) (.node (.ops [1,0,12,13,9,7]) (.node (.ops [4,1,0]) (.node (.ops [4,5]) .leaf))))))))))))
noncomputable def Wq:dm:=Fx Wp (bQ Tryz.prog gl {} Tryz.f127)
noncomputable def T:Table:=fun f=>match f with
 | 80=>some (.code Qb)
 | 109=>some (.code Wo)
 | 110=>some (.jo X5)
 | 127=>some (.code Wq)
 | _=>none
theorem ZC:T 80=some (.code Qb):=rfl
theorem ZD:T 109=some (.code Wo):=rfl
theorem ZE:T 110=some (.jo X5):=rfl
theorem ZF:T 127=some (.code Wq):=rfl
end Go.Am.QdR
namespace Go.Am.QdR
noncomputable def UD (base n0:Nat) (v0 v1:PV) (h:Hp):Option (PV × Hp):=Pt T Qb [1,1,1,1] base n0 [(0,v0),(1,v1)] h
noncomputable def UE (base n0:Nat) (v0 v6:PV) (h:Hp):Option (PV × Hp):=Pt T Qb [1,1,1,1,1,1,1] base n0 [(0,v0),(6,v6)] h
noncomputable def FL (base n0:Nat) (v8 v7 v0:PV) (h:Hp):Option (PV × Hp):=Pt T Qb [1,1,1,1,1,1,1,1,1,1,1,1] base n0 [(8,v8),(7,v7),(0,v0)] h
noncomputable def Lf (base n0:Nat) (v9 v10 v8 v7:PV) (h:Hp):Option (PV × Hp):=Pt T Qb [1,1,1,1,1,1,1,1,1,1,1,1,1,1,0,0,1] base n0 [(9,v9),(10,v10),(8,v8),(7,v7)] h
theorem Qc (base n0:Nat) (v0 v1:PV) (h:Hp):UD base n0 v0 v1 h =
 (cB false v0).ah fun x1 =>
 (ct x1 .u64).ah fun x2 =>
 (ct v1 .u64).ah fun x4 =>
 aH (ai T base 109 [x2,x4] h) fun x5 h6 =>
 (aE x5 0).ah fun x8 =>
 (aE x5 1).ah fun x9 =>
 (binOp .gtr x8 (.int .u64 0)).ah fun je =>
 (aq je false).ah fun Qd=>(au Qd (some x9) (some .undef)).ah fun mu =>
 (aq je false).ah fun Tf=>(au Tf ((binOp .gtr mu (.int .u64 9223372036854775807)).ah some) (some .undef)).ah fun qi =>
 (aD je (some (.bool true)) (some qi)).ah fun ru =>
 aD ru (
 none) (
 UE base n0 v0 x9 h6):=(ez T Qb [1,1,1,1] base n0 [(0,v0),(1,v1)] h).trans (by kernel_rfl)
theorem Qe (base n0:Nat) (v0 v6:PV) (h:Hp):UE base n0 v0 v6 h =
 (ct v6 .i64).ah fun x1 =>
 (cB false v0).ah fun x4 =>
 (binOp .eql x4 (.int .i64 0)).ah fun x5 =>
 aD x5 (
 (cH 1 false [(.int .u8 0)] 0 []).ah fun x6 =>
 bk false true n0 [x6] h) (
 (binOp .gtr x1 (.int .i64 8192)).ah fun iS =>
 aD iS (
 (cB false v0).ah fun je =>
 (binOp .quo (.int .i64 8192) je).ah fun lU =>
 (cB false v0).ah fun oy =>
 (binOp .mul lU oy).ah fun pE =>
 (binOp .eql pE (.int .i64 0)).ah fun x20 =>
 aD x20 (
 (cB false v0).ah fun oz =>
 FL base n0 oz x1 v0 h) (
 FL base n0 pE x1 v0 h)) (
 FL base n0 x1 x1 v0 h)):=(ez T Qb [1,1,1,1,1,1,1] base n0 [(0,v0),(6,v6)] h).trans (by kernel_rfl)
theorem Qf (base n0:Nat) (v8 v7 v0:PV) (h:Hp):FL base n0 v8 v7 v0 h =
 aH (ai T base 110 [v7] h) fun x1 h2 =>
 (cO (some 1) none (some v7) (some v7) x1).ah fun x5 =>
 aH (copyV base x5 v0 h2) fun x9 h10 =>
 Lf base n0 x5 x9 v8 v7 h10:=(ez T Qb [1,1,1,1,1,1,1,1,1,1,1,1] base n0 [(8,v8),(7,v7),(0,v0)] h).trans (by kernel_rfl)
theorem Qg (base n0:Nat) (v9 v10 v8 v7:PV) (h:Hp):Lf base n0 v9 v10 v8 v7 h =
 (binOp .lss v10 v7).ah fun x2 =>
 aD x2 (
 (jI false [v10,v8]).ah fun x5 =>
 (cO (some 1) (some v10) none none v9).ah fun jf =>
 (cO (some 1) none (some x5) none v9).ah fun je =>
 aH (copyV base jf je h) fun lU Qh =>
 (binOp .add v10 lU).ah fun oy =>
 Lf base n0 v9 oy v8 v7 Qh) (
 bk false true n0 [v9] h):=(ez T Qb [1,1,1,1,1,1,1,1,1,1,1,1,1,1,0,0,1] base n0 [(9,v9),(10,v10),(8,v8),(7,v7)] h).trans (by kernel_rfl)
theorem S80 (base:Nat) (a0 a1:PV) (h:Hp):ai T base 80 [a0,a1] h =
 (binOp .eql a1 (.int .i64 0)).ah fun x2 =>
 aD x2 (
 (cH 1 false [(.int .u8 0)] 0 []).ah fun x3 =>
 bk false true (size h) [x3] h) (
 (binOp .lss a1 (.int .i64 0)).ah fun x6 =>
 aD x6 (
 none) (
 UD (size h) (size h) a0 a1 h)):=(aZ ZC base _ h).trans (by kernel_rfl)
theorem afD (base:Nat) (a0 a1:PV) (h:Hp):ai T base 109 [a0,a1] h =
 aH (ai T (size h) 127 [a0,a1] h) fun x4 h5 =>
 (aE x4 0).ah fun x7 =>
 (aE x4 1).ah fun x8 =>
 bk false false (size h) [x7,x8] h5:=(aZ ZD base _ h).trans (by kernel_rfl)
theorem afE (base:Nat) (a0 a1:PV) (h:Hp):ai T base 127 [a0,a1] h =
 (binOp .and a0 (.int .u64 4294967295)).ah fun x3 =>
 (binOp .shr a0 (.int .u64 32)).ah fun x6 =>
 (binOp .and a1 (.int .u64 4294967295)).ah fun x9 =>
 (binOp .shr a1 (.int .u64 32)).ah fun gJ =>
 (binOp .mul x3 x9).ah fun oy =>
 (binOp .mul x6 x9).ah fun x20 =>
 (binOp .shr oy (.int .u64 32)).ah fun oz =>
 (binOp .add x20 oz).ah fun ru =>
 (binOp .and ru (.int .u64 4294967295)).ah fun sL =>
 (binOp .shr ru (.int .u64 32)).ah fun Aa =>
 (binOp .mul x3 gJ).ah fun vR =>
 (binOp .add sL vR).ah fun qj =>
 (binOp .mul x6 gJ).ah fun sM =>
 (binOp .add sM Aa).ah fun Ab =>
 (binOp .shr qj (.int .u64 32)).ah fun HK =>
 (binOp .add Ab HK).ah fun vS =>
 (binOp .mul a0 a1).ah fun Ed =>
 bk false false (size h) [vS,Ed] h:=(aZ ZF base _ h).trans (by kernel_rfl)
end Go.Am.QdR
namespace Go.Am
theorem ej (n g b off h):ax n g (.ptr b off) h=(ay h b).ah fun cs=>part cs off n g:=(rfl)
theorem FM (n g cs off h):ax n g (.ep cs off) h=part cs off n g:=(rfl)
theorem dA (base n b off u h):aS base n (.ptr b off) u h=(ay h b).ah fun cs =>
   if u.cells.length=n∧off+n≤cs.length∧u.cells.all scalar=true∧(b<base→belows 0 (aO u.cells)=true)
   then some (cx h b (bE cs off (if b<base then aO u.cells else u.cells))) else none:=(rfl)
theorem ek {α:Type} (z h) (K:PV→Hp→Option α):eo z h K=K (.ptr (size h) 0) (ext h [.cells z]):=(rfl)
theorem ql (n v h):tK n v h=if v.cells.length=n∧v.cells.all scalar=true then some (.ptr (size h) 0,ext h [.cells v.cells]) else none:=(rfl)
theorem Ca (z l):dz z l=(iy l z).ah fun cs=>some (.agg cs):=(rfl)
theorem vc (sz g z len l):cH sz g z len l=(eV sz l (List.replicate len (if g then .agg z else z.headD .undef))).ah fun es=>some (.sl .full sz es):=(rfl)
theorem Nn (v):aF v=(isNil v).ah fun b=>if b then none else some v:=(rfl)
theorem qm (kd neg v):gG kd neg v=(jk kd v).ah fun b=>some (.bool (if neg then !b else b)):=(rfl)
theorem Qi (T z l c h):PZ T z l c h=(KP l c).ah fun n=>ac9 T z n h:=(rfl)
theorem kX (base f b off len sz u h):copyV base (.bX f b off len sz) u h=(elems h u).ah fun xs=>(ay h b).ah fun cs =>
    if sz=1∧off+len≤cs.length∧xs.all scalar=true∧(b<base→belows 0 (xs.take len)=true)
    then some (.int .i64 (min xs.length len:Nat),cx h b (bE cs off (xs.take len))) else none:=(rfl)
theorem JF (base u h):copyV base .bg u h=(elems h u).ah fun xs=>some (.int .i64 0,h):=(rfl)
theorem mZ (n d):oZ n d none=some d:=(rfl)
theorem gK (n d v):oZ n d (some v)=YS n v:=(rfl)
theorem JG (lo hi s):cO none lo hi none (.str s)=(oZ s.length s.length hi).ah fun hh=>(oZ hh 0 lo).ah fun l=>some (.str ((s.drop l).take (hh-l))):=(rfl)
theorem FN (n lo hi mx):cO (some n) lo hi mx .bg=(oZ 0 0 mx).ah fun m=>(oZ 0 0 hi).ah fun hh=>(oZ 0 0 lo).ah fun l=>some .bg:=(rfl)
theorem Cb (n lo hi o es):cO (some n) lo hi none (.sl o n es)=(oZ es.length es.length hi).ah fun hh=>(oZ hh 0 lo).ah fun l =>
   some (.sl (if isFull o&&hh == es.length then .full else .no) n ((es.drop l).take (hh-l))):=by
 simp[cO,mZ,Option.ag]
theorem ry (n lo hi f b off len):cO (some n) lo hi none (.bX f b off len n)=(oZ len len hi).ah fun hh=>(oZ hh 0 lo).ah fun l =>
   if hh-l=0 then some (.sl .no n []) else some (.bX (f&&hh == len) b (off+l*n) (hh-l) n):=by
 simp[cO,mZ,Option.ag]
theorem ve (sz len b o i):aN sz len (.ptr b o) i=(ix i len).ah fun i=>some (.ptr b (o+i*sz)):=(rfl)
theorem Ac (sz len b o i):aN sz len (.ep b o) i=(ix i len).ah fun i=>some (.ep b (o+i*sz)):=(rfl)
theorem vg (sz g len cs i):sE sz g len (.agg cs) i=(ix i len).ah fun i=>part cs (i*sz) sz g:=(rfl)
theorem kN (m x r):jI m (x::r)=mF m x r:=(rfl)
theorem pF (T sz v u h):qH T sz v u h=(elems h u).ah fun xs=>gr h T sz v xs:=(rfl)
theorem JH (n g c o b off h):zV n g (.ptr c o) (.ptr b off) h=if b=c then none else ax n g (.ptr b off) h:=(rfl)
theorem Np (n g c o cs off h):zV n g (.ptr c o) (.ep cs off) h=ax n g (.ep cs off) h:=(rfl)
theorem rz (n sz g b off h):nL n sz g (.ptr b off) h=if b<n then ax sz g (.ptr b off) h else none:=(rfl)
theorem Nq (n sz g cs off h):nL n sz g (.ep cs off) h=ax sz g (.ep cs off) h:=(rfl)
theorem Qj (base k h g vs):rQ base k h g vs=(cV base h g vs).ah fun r=>if vK (base+k) h r.2 then some r else none:=(rfl)
theorem Lg {orc:iG} {n f:Nat} {vs:List PV} {h:Hp} {r:PV} {h':Hp} (ho:orc f vs h=some (r,h')) (hl:vK n h h'):oH orc n f vs h=some (r,h'):=by
 rw[oH,ho,Option.ag,if_pos hl]
theorem FO (base n c o b off u h):Dy base n (.ptr c o) (.ptr b off) u h=if b=c then aS base n (.ptr b off) u h else none:=(rfl)
theorem Nr (orc f cap vs h):Jy orc (.fn f cap) vs h=orc f (vs++cap) h:=(rfl)
theorem iT (v:PV) (h:Hp):forget h (v,h)=some (v,h):=by simp[forget]
theorem DG (orc:iG) (f vs h):gv orc f vs h=(orc f vs h).ah (forget h):=(rfl)
theorem Lh {α:Type} (h) (y:Option α):YU h h y=y:=by simp[YU]
theorem cc (n0 vs h):bk false false n0 vs h=(fN n0 h vs).ah fun vs=>if belows n0 vs=true then some (fT vs,bJ h n0) else none:=(rfl)
theorem m6 (o n0 vs h):bk true o n0 vs h=some (fT vs,h):=(rfl)
theorem pG (n0 vs h):bk false true n0 vs h=(ju n0 h vs).ah fun r=>some (fT r.1,r.2):=(rfl)
theorem Ns (sz u h):P0 sz .bg u h=(elems h u).ah fun xs=>if xs.all (fun x=>x.cells.length == sz) then(if xs.length≤gA then some (if xs.isEmpty then .bg else .sl .no sz (aO xs)) else none) else none:=(rfl)
theorem Nt (sz es u h):P0 sz (.sl .full sz es) u h=(elems h u).ah fun xs=>if xs.all (fun x=>x.cells.length == sz) then(if es.length+xs.length≤gA then some (if xs.isEmpty then .sl .full sz es else .sl .no sz (es++aO xs)) else none) else none:=by
 unfold P0;simp
theorem FQ {α:Type} (x:Option α):x.ah some=x:=by cases x<;>rfl
theorem DH (base h):cV base h .makeMap []=some (.eL (size h),ext h [.map []]):=(rfl)
theorem vi (base h ks g z ok m k):cV base h (.lookup ks g z ok) [m,k]=(entriesOf h m).ah fun es=>if nY ks g k then(jL ks g k es 0).ah fun i=>(BL z es i).ah fun r =>
   some (if ok then .cF [r.1,.bool r.2] else r.1,h) else none:=(rfl)
theorem FR (base h ks g b k v):cV base h (.CS ks g) [.eL b,k,v]=(bR h b).ah fun es=>if nY ks g k∧k.cells.all scalar=true∧v.cells.all scalar=true∧(b<base→below 0 (strip k)=true∧below 0 (strip v)=true) then(jL ks g k es 0).ah fun i =>
    some (.undef,aC h b (.map (OJ (strip k) (strip v) es i))) else none:=(rfl)
theorem FT (base h ks g b k):cV base h (.CT ks g) [.eL b,k]=(bR h b).ah fun es=>if nY ks g k then(jL ks g k es 0).ah fun i=>some (.cF [],aC h b (.map (U2 es i))) else none:=(rfl)
theorem FU (base h m):cV base h .tq [m]=(entriesOf h m).ah fun es=>some (.int .i64 es.length,h):=(rfl)
theorem Cc (base h n len v):cV base h (.jt n len false false) [v]=HH n len v none none h:=(rfl)
theorem tM (base h n len v l):cV base h (.jt n len true false) [v,l]=HH n len v (some l) none h:=(rfl)
theorem Cd (base h n len v u):cV base h (.jt n len false true) [v,u]=HH n len v none (some u) h:=(rfl)
theorem Nu (base h n len v l u):cV base h (.jt n len true true) [v,l,u]=HH n len v (some l) (some u) h:=(rfl)
theorem xZ (n len b off lo hi h):HH n len (.ptr b off) lo hi h=(ay h b).ah fun cs=>if off+len*n≤cs.length then(R7 len len hi).ah fun hh=>(R7 hh 0 lo).ah fun l =>
   if hh-l=0 then some (.sl .no n [],h) else some (.bX (hh == len) b (off+l*n) (hh-l) n,h) else none:=(rfl)
theorem sN (n d):R7 n d none=some d:=(rfl)
theorem Tg (n d k i):R7 n d (some (.int k i))=if 0≤i∧i≤n then some i.toNat else none:=(rfl)
theorem jJ (base h cs):cV base h (.fC cs) []=some (.bX true (size h) 0 cs.length 1,ext h [.cells cs]):=(rfl)
theorem Qk (base h f b off len):cV base h .fix [.bX f b off len 1]=(ay h b).ah fun cs=>if base≤b∧1=1∧off+len≤cs.length∧cs.all scalar=true then some (.sl .no 1 ((cs.drop off).take len),aC h b .dead) else none:=(rfl)
theorem qn (base h f b o l z):cV base h .mark [.bX f b o l z]=(ay h b).ah fun _=>some (.bX f b o l z,h):=(rfl)
theorem Nv (base h sz v u):cV base h (.vJ sz) [v,u]=(elems h u).ah fun xs=>(oG h sz v).ah fun l=>if xs=[] then some (v,h) else
   if xs.all (fits sz)=true∧l.1+xs.length≤gA∧l.2.1.all scalar=true then some (.bX false (size h) 0 (l.1+xs.length) sz,ext l.2.2 [.cells (l.2.1++xs.flatMap PV.cells)]) else none:=(rfl)
theorem Ad (h sz):oG h sz .bg=some (0,[],h):=(rfl)
theorem Ae (h sz es):oG h sz (.sl .full sz es)=some (es.length,es.flatMap PV.cells,h):=by simp[oG]
theorem Ce (h sz f b len):oG h sz (.bX f b 0 len sz)=(ay h b).ah fun cs=>if len*sz≤cs.length then some (len,cs.take (len*sz),aC h b .dead) else none:=by
 simp[oG]
theorem BF (h):entriesOf h .gu=some []:=(rfl)
theorem pH (h b):entriesOf h (.eL b)=bR h b:=(rfl)
theorem Cg (ks g k n):nY ks g (.int k n)=!g:=(rfl)
theorem Nw (ks g s):nY ks g (.str s)=!g:=(rfl)
theorem Nx (ks g cs):nY ks g (.agg cs)=(g&&cs.length == ks.length):=(rfl)
end Go.Am
namespace Go.Am
def jY :=
 And.intro @az <|
 And.intro @BR <|
 And.intro @OV <|
 And.intro @Option.ag <|
 And.intro @Option.iq <|
 And.intro @Option.KO <|
 And.intro @aR <|
 And.intro @aL <|
 And.intro @Si <|
 And.intro @yZ <|
 And.intro @uz <|
 @ek
def jZ :=
 And.intro @Int.toNat_natCast <|
 And.intro @Nat.zero_add <|
 And.intro @Nat.add_zero <|
 And.intro @Nat.le_refl <|
 And.intro @Nat.succ_eq_add_one <|
 And.intro @Nat.add_eq_zero_iff <|
 And.intro @Nat.succ_ne_self <|
 And.intro @and_true <|
 And.intro @true_and <|
 And.intro @and_self <|
 And.intro @Bool.false_eq_true <|
 And.intro @Bool.true_and <|
 And.intro @Bool.and_true <|
 And.intro @Bool.and_self <|
 And.intro @Bool.not_true <|
 And.intro @Bool.not_false <|
 And.intro @Bool.not_not <|
 And.intro @Bool.true_beq <|
 And.intro @Bool.false_beq <|
 And.intro @beq_true <|
 And.intro @beq_false <|
 And.intro @imp_self <|
 And.intro @false_implies <|
 And.intro @decide_eq_true_eq <|
 And.intro @not_true_eq_false <|
 And.intro @not_false_eq_true <|
 And.intro @Bool.not_eq_true' <|
 And.intro @decide_true <|
 And.intro @decide_false <|
 And.intro @Bool.true_or <|
 And.intro @Bool.false_or <|
 And.intro @Bool.or_true <|
 And.intro @Bool.or_false <|
 And.intro @Bool.false_and <|
 And.intro @Bool.and_false <|
 And.intro @true_or <|
 And.intro @or_true <|
 And.intro @false_or <|
 And.intro @or_false <|
 And.intro @or_self <|
 And.intro @false_and <|
 And.intro @and_false <|
 And.intro @Nat.add_eq_left <|
 And.intro @Nat.left_eq_add <|
 And.intro @Nat.add_left_cancel_iff <|
 And.intro @aW <|
 And.intro @Eh <|
 And.intro @aQ <|
 And.intro @eZ <|
 And.intro @fA <|
 And.intro @cI <|
 And.intro @bL <|
 And.intro @yX <|
 And.intro @BQ <|
 And.intro @Em <|
 And.intro @Eo <|
 And.intro @Ep <|
 And.intro @HX <|
 And.intro @L7 <|
 And.intro @L8 <|
 And.intro @HY <|
 And.intro @HZ <|
 And.intro @L9 <|
 And.intro @ON <|
 And.intro @Ia <|
 And.intro @Mc <|
 And.intro @Eu <|
 And.intro @Ev <|
 And.intro @Ie <|
 And.intro @OP <|
 And.intro @Md <|
 And.intro @Me <|
 And.intro @Mf <|
 And.intro @Ij <|
 And.intro @Mg <|
 And.intro @Mh <|
 And.intro @Ik <|
 And.intro @Il <|
 And.intro @Mi <|
 And.intro @Im <|
 And.intro @OQ <|
 And.intro @Mj <|
 And.intro @Ew <|
 And.intro @Ex <|
 And.intro @Io <|
 And.intro @OR <|
 And.intro @Ir <|
 And.intro @It <|
 And.intro @Iu <|
 And.intro @Ey <|
 And.intro @Iv <|
 And.intro @Mk <|
 And.intro @OS <|
 And.intro @OT <|
 And.intro @Ml <|
 And.intro @Ez <|
 And.intro @OU <|
 And.intro @Iw <|
 And.intro @EA <|
 And.intro @OW <|
 And.intro @OX <|
 And.intro @Sl <|
 And.intro @Sm <|
 And.intro @Sn <|
 And.intro @Sp <|
 And.intro @Sq <|
 And.intro @Sr <|
 And.intro @Su <|
 And.intro @Sv <|
 And.intro @Sw <|
 And.intro @Sx <|
 And.intro @EE <|
 And.intro @ID <|
 And.intro @IE <|
 And.intro @EF <|
 And.intro @EG <|
 And.intro @IF <|
 And.intro @EH <|
 And.intro @Mr <|
 And.intro @IG <|
 And.intro @C8 <|
 And.intro @C9 <|
 And.intro @EI <|
 And.intro @Ms <|
 And.intro @La <|
 And.intro @Nd <|
 And.intro @FG <|
 And.intro @Jw <|
 And.intro @nF <|
 And.intro @C6 <|
 And.intro @EB <|
 And.intro @Iz <|
 And.intro @IB <|
 And.intro @lu <|
 And.intro @Mn <|
 And.intro @fe <|
 And.intro @OY <|
 And.intro @jM <|
 And.intro @tA <|
 And.intro @oJ <|
 And.intro @Mp <|
 And.intro @Mq <|
 And.intro @EJ <|
 And.intro @EK <|
 And.intro @EL <|
 And.intro @EM <|
 And.intro @EN <|
 And.intro @EO <|
 And.intro @II <|
 And.intro @EP <|
 And.intro @y8 <|
 And.intro @ER <|
 And.intro @ES <|
 And.intro @ET <|
 And.intro @EU <|
 And.intro @EV <|
 And.intro @EW <|
 And.intro @EX <|
 And.intro @EY <|
 And.intro @Mz <|
 And.intro @MA <|
 And.intro @MB <|
 And.intro @MC <|
 And.intro @MD <|
 And.intro @ME <|
 And.intro @MF <|
 And.intro @MG <|
 And.intro @MH <|
 And.intro @MI <|
 And.intro @MJ <|
 And.intro @MK <|
 And.intro @ML <|
 And.intro @MM <|
 And.intro @O0 <|
 And.intro @O1 <|
 And.intro @EZ <|
 And.intro @y9 <|
 And.intro @IJ <|
 And.intro @E0 <|
 And.intro @E1 <|
 And.intro @E2 <|
 And.intro @IK <|
 And.intro @iQ <|
 And.intro @E3 <|
 And.intro @IL <|
 And.intro @Mt <|
 And.intro @Mu <|
 And.intro @IM <|
 And.intro @IN <|
 And.intro @IP <|
 And.intro @E4 <|
 And.intro @IQ <|
 And.intro @Mv <|
 And.intro @oK <|
 And.intro @E7 <|
 And.intro @Mx <|
 And.intro @My <|
 And.intro @E8 <|
 And.intro @E9 <|
 And.intro @Fa <|
 And.intro @Fb <|
 And.intro @rX <|
 And.intro @fZ <|
 And.intro @qG <|
 And.intro @lJ <|
 And.intro @sB <|
 And.intro @iA <|
 And.intro @Jq <|
 And.intro @jR <|
 And.intro @mV <|
 And.intro @L5 <|
 And.intro @aJ <|
 And.intro @Br <|
 And.intro @BP <|
 And.intro @Ei <|
 And.intro @Bn <|
 And.intro @Bo <|
 And.intro @eE <|
 And.intro @Ej <|
 And.intro @C1 <|
 And.intro @C3 <|
 And.intro @fO <|
 And.intro @kD <|
 And.intro @CZ <|
 And.intro @Bp <|
 And.intro @Bq <|
 And.intro @mG <|
 And.intro @Bj <|
 And.intro @yV <|
 And.intro @yW <|
 And.intro @OO <|
 And.intro @Ma <|
 And.intro @Er <|
 And.intro @Ib <|
 And.intro @Mb <|
 And.intro @Et <|
 And.intro @Ic <|
 And.intro @Ii <|
 And.intro @uw <|
 And.intro @Mw <|
 And.intro @O2 <|
 And.intro @O3 <|
 And.intro @jN <|
 And.intro @ee <|
 And.intro @IU <|
 And.intro @xV <|
 And.intro @Da <|
 And.intro @KW <|
 And.intro @MN <|
 And.intro @MO <|
 And.intro @za <|
 And.intro @rW <|
 And.intro @KX <|
 And.intro @O4 <|
 And.intro @O5 <|
 And.intro @SA <|
 And.intro @U7 <|
 And.intro @O8 <|
 And.intro @MP <|
 And.intro @O9 <|
 And.intro @U8 <|
 And.intro @IV <|
 And.intro @zb <|
 And.intro @Fc <|
 And.intro @MQ <|
 And.intro @Fe <|
 And.intro @lZ <|
 And.intro @Nc <|
 And.intro @FC <|
 And.intro @zT <|
 And.intro @PY <|
 And.intro @zU <|
 And.intro @Du <|
 And.intro @PW <|
 And.intro @FD <|
 And.intro @Dw <|
 And.intro @FE <|
 And.intro @Ju <|
 And.intro @Jv <|
 And.intro @PX <|
 And.intro @Dt <|
 And.intro @zS <|
 And.intro @BD <|
 And.intro @mH <|
 And.intro @ej <|
 And.intro @FM <|
 And.intro @dA <|
 And.intro @ql <|
 And.intro @Ca <|
 And.intro @vc <|
 And.intro @Nn <|
 And.intro @qm <|
 And.intro @Qi <|
 And.intro @kX <|
 And.intro @JF <|
 And.intro @mZ <|
 And.intro @gK <|
 And.intro @JG <|
 And.intro @FN <|
 And.intro @Cb <|
 And.intro @ry <|
 And.intro @ve <|
 And.intro @Ac <|
 And.intro @vg <|
 And.intro @kN <|
 And.intro @pF <|
 And.intro @JH <|
 And.intro @Np <|
 And.intro @rz <|
 And.intro @Nq <|
 And.intro @FO <|
 And.intro @Nr <|
 And.intro @Lh <|
 And.intro @iT <|
 And.intro @DG <|
 And.intro @cc <|
 And.intro @m6 <|
 And.intro @pG <|
 And.intro @Ns <|
 And.intro @Nt <|
 @FQ
def j4 :=
 And.intro @List.all_cons.{0} <|
 And.intro @List.all_nil.{0} <|
 And.intro @List.getElem?_cons_zero.{0} <|
 And.intro @List.getElem?_cons_succ.{0} <|
 And.intro @List.getElem?_nil.{0} <|
 And.intro @List.length_cons.{0} <|
 And.intro @List.length_nil.{0} <|
 And.intro @List.set_cons_zero.{0} <|
 And.intro @List.set_cons_succ.{0} <|
 And.intro @List.drop_zero.{0} <|
 And.intro @List.drop_succ_cons.{0} <|
 And.intro @List.drop_nil.{0} <|
 And.intro @List.take_zero.{0} <|
 And.intro @List.take_succ_cons.{0} <|
 And.intro @List.take_nil.{0} <|
 And.intro @List.replicate_succ.{0} <|
 And.intro @List.replicate_zero.{0} <|
 And.intro @List.headD_cons.{0} <|
 And.intro @List.cons_append.{0} <|
 And.intro @List.nil_append.{0} <|
 And.intro @bne_self_eq_false.{0} <|
 And.intro @beq_self_eq_true.{0} <|
 And.intro @Option.map_some.{0,0} <|
 And.intro @List.map_cons.{0,0} <|
 @List.map_nil.{0,0}
def j5 :=
 And.intro @DH <|
 And.intro @vi <|
 And.intro @FR <|
 And.intro @FT <|
 And.intro @FU <|
 And.intro @jJ <|
 And.intro @Cc <|
 And.intro @tM <|
 And.intro @Cd <|
 And.intro @Nu <|
 And.intro @sN <|
 And.intro @qn <|
 And.intro @Ad <|
 And.intro @Ae <|
 And.intro @Ce <|
 And.intro @BF <|
 And.intro @pH <|
 And.intro @Cg <|
 And.intro @Nw <|
 And.intro @Nx <|
 And.intro @rU <|
 And.intro @C0 <|
 And.intro @Bk <|
 And.intro @Bl <|
 And.intro @Sy <|
 And.intro @Sz <|
 And.intro @Ig <|
 And.intro @Ih <|
 And.intro @Ip <|
 And.intro @Iq <|
 And.intro @IS <|
 And.intro @IT <|
 And.intro @E5 <|
 And.intro @E6 <|
 And.intro @O6 <|
 And.intro @O7 <|
 @L6
end Go.Am
namespace Go.Am
theorem Bu.aO:∀ l:List UInt8,aO (aP l)=aP l
 | []=>rfl
 | c::l=>by show strip _::Go.Am.aO (aP l)=_;rw[Bu.aO l];rfl
theorem Bu.len (l:List UInt8):(aP l).length=l.length:=by simp[aP]
theorem Bu.append (a b:List UInt8):aP a++aP b=aP (a++b):=by simp[aP]
theorem Bu.bytesOf (l:List UInt8):bytesOf (aP l)=some l:=mH l
theorem Bu.ne {l:List UInt8} (h:l≠[]):aP l≠[]:=by cases l<;>simp_all [aP]
theorem Bu.nil:aP []=[]:=rfl
theorem Bu.cons (c:UInt8) (l:List UInt8):aP (c::l)=.int .u8 c.toNat::aP l:=rfl
theorem Bu.one (c:UInt8):[PV.int .u8 (c.toNat:Int)]=aP [c]:=rfl
theorem Bu.fits:∀ l:List UInt8,(aP l).all (fits 1)=true
 | []=>rfl
 | c::l=>by show(_&&List.all (aP l) _)=true;rw[Bu.fits l];rfl
theorem Bu.scalar:∀ l:List UInt8,(aP l).all scalar=true
 | []=>rfl
 | c::l=>by show(_&&List.all (aP l) _)=true;rw[Bu.scalar l];rfl
theorem Bu.below (n:Nat):∀ l:List UInt8,belows n (aP l)=true
 | []=>rfl
 | c::l=>by show(_&&belows n (aP l))=true;rw[Bu.below n l];rfl
theorem Bu.get {l:List UInt8} {i:Nat} {c:UInt8} (h:l[i]?=some c):(aP l)[i]?=some (.int .u8 c.toNat):=by simp[aP,h]
theorem Bu.drop (l:List UInt8) (n:Nat):(aP l).drop n=aP (l.drop n):=by simp[aP]
theorem Bu.take (l:List UInt8) (n:Nat):(aP l).take n=aP (l.take n):=by simp[aP]
theorem Bu.ix {k:IntKind} {l:List UInt8} {i:Nat} (h:i<l.length):ix (.int k i) (aP l).length=some i:=iN k i _ (by rw[Bu.len];exact h)
def gV (h:Hp) (z:PV) (sz:Nat) (es:List PV):PV:=if es.isEmpty then z else .sl (.tok (size h)) sz es
def gH (h:Hp) (T:Nat) (es:List PV):Hp:=if es.isEmpty then h else ext h [.tok es.length T]
def gZ (sz:Nat) (z:PV):Prop:=z=.bg∨z=.sl .full sz []
theorem Wu (h z sz):gV h z sz []=z:=rfl
theorem Wv (h T):gH h T []=h:=rfl
theorem ZH {h:Hp} {T sz:Nat} {z:PV} (hz:gZ sz z) (es xs:List PV) (hf:xs.all (fits sz)=true) (hs:aO xs=xs) (hl:es.length+xs.length≤gA) :
  gr (gH h T es) T sz (gV h z sz es) xs=some (gV h z sz (es++xs),gH h T (es++xs)):=by
 unfold gr;rw[if_pos hf];cases es with
 | nil =>
  simp only[Wu,Wv,List.nil_append];simp only[List.length_nil]at hl;rcases hz with rfl | rfl
  ·simp only
   rw[if_pos (by omega)];cases xs with
   | nil=>rfl
   | cons x xs=>simp only[List.isEmpty_cons,Bool.false_eq_true,if_false,gV,gH,hs]
  ·simp only
   rw[if_pos (by simp;omega)];cases xs with
   | nil=>rfl
   | cons x xs=>simp only[List.isEmpty_cons,Bool.false_eq_true,if_false,gV,gH,hs,List.nil_append,List.length_nil,Nat.zero_add]
 | cons e es =>
  have e1:gV h z sz (e::es)=.sl (.tok (size h)) sz (e::es):=rfl;have e2:gH h T (e::es)=ext h [.tok (e::es).length T]:=rfl;rw[e1,e2];simp only[kD,BP,Option.ag,hs];rw[if_pos ⟨trivial,trivial,hl⟩,eE];simp only[gV,gH,List.cons_append,List.isEmpty_cons,Bool.false_eq_true,if_false,List.length_cons,List.length_append,Nat.add_right_comm]
theorem afF {h:Hp} {T:Nat} {z:PV} (hz:gZ 1 z) (out:List UInt8) (c:UInt8) (hl:out.length+1≤gA) :
  gr (gH h T (aP out)) T 1 (gV h z 1 (aP out)) [.int .u8 c.toNat]=some (gV h z 1 (aP (out++[c])),gH h T (aP (out++[c]))):=by
 have:=ZH (h:=h) (T:=T) hz (aP out) (aP [c]) (Bu.fits [c]) (Bu.aO [c]) (by rw[Bu.len];exact hl);rw[Bu.append]at this;exact this
def gD (z:PV) (sz:Nat) (es:List PV):PV:=if es.isEmpty then z else .sl .no sz es
theorem Ww {sz:Nat} {z:PV} (hz:gZ sz z) (h:Hp) (es:List PV):cB false (gV h z sz es)=some (.int .i64 es.length):=by
 unfold gV;cases es with
 | nil=>rcases hz with rfl | rfl<;>rfl
 | cons x xs=>rfl
def Bv (b:PV) (l:List UInt8):Prop:=(b=.bg∧l=[])∨b=.sl .no 1 (aP l)∨b=.sl .full 1 (aP l)
theorem Bv.bg:Bv .bg []:=.inl ⟨rfl,rfl⟩
theorem Bv.no (l):Bv (.sl .no 1 (aP l)) l:=.inr (.inl rfl)
theorem Bv.full (l):Bv (.sl .full 1 (aP l)) l:=.inr (.inr rfl)
section
variable {b:PV} {l:List UInt8} (hb:Bv b l)
include hb
theorem Bv.len:cB false b=some (.int .i64 l.length):=by
 rcases hb with⟨rfl,rfl⟩ | rfl | rfl
 ·rfl
 ·rw[fe,Bu.len]
 ·rw[fe,Bu.len]
theorem Bv.elems (h:Hp):Go.Am.elems h b=some (aP l):=by rcases hb with⟨rfl,rfl⟩ | rfl | rfl<;>rfl
theorem Bv.idx {k:IntKind} {i:Nat} {c:UInt8} (hc:l[i]?=some c):cW b (.int k i) 1=some (.ep [.int .u8 c.toNat] 0):=by
 have hi:=(List.getElem?_eq_some_iff.1 hc).1;rcases hb with⟨rfl,rfl⟩ | rfl | rfl
 ·simp at hc
 ·rw[jM,if_pos rfl,Bu.ix hi,Option.ag,Bu.get hc];rfl
 ·rw[jM,if_pos rfl,Bu.ix hi,Option.ag,Bu.get hc];rfl
theorem Bv.scalar:Go.Am.scalar b=true:=by rcases hb with⟨rfl,rfl⟩ | rfl | rfl<;>rfl
theorem Bv.gY (n:Nat) (h:Hp):Go.Am.gY n h b=some b:=by rcases hb with⟨rfl,rfl⟩ | rfl | rfl<;>rfl
theorem Bv.strip:Go.Am.strip b=b:=by rcases hb with⟨rfl,rfl⟩ | rfl | rfl<;>rfl
theorem Bv.below (n:Nat):Go.Am.below n b=true:=by
 rcases hb with⟨rfl,rfl⟩ | rfl | rfl
 ·rfl
 ·rw[oK,Bu.below];rfl
 ·rw[oK,Bu.below];rfl
theorem Bv.cells:b.cells=[b]:=by rcases hb with⟨rfl,rfl⟩ | rfl | rfl<;>rfl
end
theorem Bv.done {z:PV} (hz:gZ 1 z) (l:List UInt8):Bv (gD z 1 (aP l)) l:=by
 unfold gD;cases l with
 | nil =>
  rcases hz with rfl | rfl
  ·exact .inl ⟨rfl,rfl⟩
  ·exact .inr (.inr rfl)
 | cons x xs=>exact .inr (.inl rfl)
structure Rd (b:PV) (l:List UInt8):Prop where
 len:cB false b=some (.int .i64 l.length)
 idx:∀ {k:IntKind} {i:Nat} {c:UInt8},l[i]?=some c→cW b (.int k i) 1=some (.ep [.int .u8 c.toNat] 0)
 elems:∀ h,Go.Am.elems h b=some (aP l)
theorem Bv.rd {b:PV} {l:List UInt8} (hb:Bv b l):Rd b l:=⟨hb.len,hb.idx,hb.elems⟩
theorem jS (o:Own) (l:List UInt8):Rd (.sl o 1 (aP l)) l:=by
 refine⟨by rw[fe,Bu.len],fun {k i c} hc=>?_,fun h=>rfl⟩;have hi:=(List.getElem?_eq_some_iff.1 hc).1;rw[jM,if_pos rfl,Bu.ix hi,Option.ag,Bu.get hc];rfl
end Go.Am
namespace Go.Am
structure El {α:Type} (e:α→PV) (sz:Nat):Prop where
 len:∀ a,(e a).cells.length=sz
 sc:∀ a,(e a).cells.all scalar=true
 st:∀ a,strip (e a)=e a
 be:∀ n a,below n (e a)=true
section
variable {α:Type} {e:α→PV} {sz:Nat}
theorem El.fits (he:El e sz) (l:List α):(l.map e).all (fits sz)=true:=by
 induction l with
 | nil=>rfl
 | cons a l ih =>
  simp only[List.map_cons,List.all_cons,ih,Bool.and_true,FC,he.len,he.sc,beq_self_eq_true]
theorem El.aO (he:El e sz) (l:List α):aO (l.map e)=l.map e:=by
 induction l with
 | nil=>rfl
 | cons a l ih=>simp only[List.map_cons,uw,he.st,ih]
theorem El.belows (he:El e sz) (n:Nat) (l:List α):belows n (l.map e)=true:=by
 induction l with
 | nil=>rfl
 | cons a l ih=>simp only[List.map_cons,iQ,he.be,ih,Bool.and_self]
def Lv (e:α→PV) (sz:Nat) (b:PV) (l:List α):Prop:=(b=.bg∧l=[])∨b=.sl .no sz (l.map e)∨b=.sl .full sz (l.map e)
theorem Lv.bg:Lv e sz .bg []:=.inl ⟨rfl,rfl⟩
theorem Lv.no (l:List α):Lv e sz (.sl .no sz (l.map e)) l:=.inr (.inl rfl)
theorem Lv.full (l:List α):Lv e sz (.sl .full sz (l.map e)) l:=.inr (.inr rfl)
structure Rl (e:α→PV) (sz:Nat) (b:PV) (l:List α):Prop where
 len:cB false b=some (.int .i64 l.length)
 idx:∀ {k:IntKind} {i:Nat} {a:α},l[i]?=some a→cW b (.int k i) sz=some (.ep (e a).cells 0)
 elems:∀ h,Go.Am.elems h b=some (l.map e)
theorem Li (o:Own) (l:List α):Rl e sz (.sl o sz (l.map e)) l:=by
 refine⟨by rw[fe,List.length_map],fun {k i a} hc=>?_,fun h=>rfl⟩;have hi:=(List.getElem?_eq_some_iff.1 hc).1;rw[jM,if_pos rfl,iN k i _ (by rw[List.length_map];exact hi),Option.ag,List.getElem?_map,hc];rfl
theorem Lj:Rl e sz .bg []:=⟨rfl,fun {k i a} hc=>by simp at hc,fun h=>rfl⟩
section
variable {b:PV} {l:List α} (hb:Lv e sz b l)
include hb
theorem Lv.rl:Rl e sz b l:=by
 rcases hb with⟨rfl,rfl⟩ | rfl | rfl
 ·exact Lj
 ·exact Li _ _
 ·exact Li _ _
theorem Lv.len:cB false b=some (.int .i64 l.length):=hb.rl.len
theorem Lv.idx {k:IntKind} {i:Nat} {a:α} (ha:l[i]?=some a):cW b (.int k i) sz=some (.ep (e a).cells 0):=hb.rl.idx ha
theorem Lv.elems (h:Hp):Go.Am.elems h b=some (l.map e):=hb.rl.elems h
theorem Lv.scalar:Go.Am.scalar b=true:=by rcases hb with⟨rfl,rfl⟩ | rfl | rfl<;>rfl
theorem Lv.gY (n:Nat) (h:Hp):Go.Am.gY n h b=some b:=by rcases hb with⟨rfl,rfl⟩ | rfl | rfl<;>rfl
theorem Lv.strip:Go.Am.strip b=b:=by rcases hb with⟨rfl,rfl⟩ | rfl | rfl<;>rfl
theorem Lv.cells:b.cells=[b]:=by rcases hb with⟨rfl,rfl⟩ | rfl | rfl<;>rfl
theorem Lv.below (he:El e sz) (n:Nat):Go.Am.below n b=true:=by
 rcases hb with⟨rfl,rfl⟩ | rfl | rfl
 ·rfl
 ·rw[oK,he.belows];rfl
 ·rw[oK,he.belows];rfl
end
theorem Lv.done {z:PV} (hz:gZ sz z) (l:List α):Lv e sz (gD z sz (l.map e)) l:=by
 unfold gD;cases l with
 | nil =>
  rcases hz with rfl | rfl
  ·exact .inl ⟨rfl,rfl⟩
  ·exact .inr (.inr rfl)
 | cons x xs=>exact .inr (.inl rfl)
end
theorem sO {k:Hp} (l:List gW) {n:Nat} (hn:n≤size k):bJ (ext k l) n=bJ k n:=by
 simp only[bJ,ext,size]at *;exact List.take_append_of_le_length hn
end Go.Am
namespace Go.Am
structure GS (h:Hp) (T sz:Nat) (z v:PV) (es:List PV) (H:Hp):Prop where
 tr:bJ H (size h)=h
 le:size h≤size H
 va:(es=[]∧v=z)∨(es≠[]∧∃ t,v=.sl (.tok t) sz es∧size h≤t∧t<size H∧dw H t=some (es.length,T))
section
variable {h H:Hp} {T sz:Nat} {z v:PV} {es:List PV}
theorem GS.zero (h:Hp) (T sz:Nat) (z:PV):GS h T sz z z [] h:=⟨by simp[bJ,size],Nat.le_refl _,.inl ⟨rfl,rfl⟩⟩
theorem Ti (H l:Hp) {t:Nat} (ht:t<size H):bY (ext H l) t=bY H t:=by
 simp only[bY,ext,size]at *;rw[List.getElem?_append_left ht]
theorem GS.ext (g:GS h T sz z v es H) (l:List gW):GS h T sz z v es (ext H l):=by
 refine⟨by rw[sO l g.le];exact g.tr,by have:=g.le;simp only[size,Go.Am.ext,List.length_append]at *;omega,?_⟩;rcases g.va with a | ⟨a,t,b,c,d,e⟩
 ·exact .inl a
 ·refine .inr ⟨a,t,b,c,by simp only[size,Go.Am.ext,List.length_append]at *;omega,?_⟩
  unfold dw at *;rw[Ti H l d];exact e
theorem GS.set (g:GS h T sz z v es H) {b:Nat} {cs cs':List PV} (hb:ay H b=some cs) (hn:size h≤b):GS h T sz z v es (cx H b cs'):=by
 refine⟨by have:=g.tr;simp only[bJ,cx,aC]at *;rw[List.take_set_of_le hn];exact this,by have:=g.le;simp only[size,cx,aC,List.length_set]at *;exact this,?_⟩;rcases g.va with a | ⟨a,t,q,c,d,e⟩
 ·exact .inl a
 ·refine .inr ⟨a,t,q,c,by simpa only[size,cx,aC,List.length_set] using d,?_⟩
  have hne:b≠t:=by
   rintro rfl;unfold dw at e;unfold ay at hb;cases hq:bY H b with
   | none=>rw[hq]at hb;cases hb
   | some x =>
    rw[hq]at hb e;cases x<;>simp[Option.ah,cellsOf,nX]at hb e
  unfold dw at *;simp only[bY,cx,aC]at *;rw[List.getElem?_set_ne hne];exact e
theorem GS.grow (g:GS h T sz z v es H) (hz:gZ sz z) {x:PV} (hf:fits sz x=true) (hs:strip x=x) (hl:es.length+1≤gA) :
  ∃ v' H',gr H T sz v [x]=some (v',H')∧GS h T sz z v' (es++[x]) H':=by
 have hff:[x].all (fits sz)=true:=by simp[hf]
 have YR:aO [x]=[x]:=by rw[aO,hs];rfl
 rcases g.va with⟨rfl,rfl⟩ | ⟨hne,t,rfl,c,d,e⟩
 ·refine⟨.sl (.tok (size H)) sz [x],Go.Am.ext H [.tok 1 T],?_,?_⟩
  ·unfold gr
   rw[if_pos hff];simp only[List.length_nil]at hl;rcases hz with rfl | rfl
   ·simp only
    rw[if_pos (by simpa using hl),YR];rfl
   ·simp only
    rw[if_pos (by simpa using hl),YR];rfl
  ·refine⟨by rw[sO _ g.le];exact g.tr,by have:=g.le;simp only[size,Go.Am.ext,List.length_append]at *;omega,.inr ⟨by simp,size H,rfl,g.le,by simp[size,Go.Am.ext],?_⟩⟩
   simp[dw,bY,size,Go.Am.ext,Option.ah,nX]
 ·refine⟨.sl (.tok t) sz (es++[x]),aC H t (.tok (es.length+1) T),?_,?_⟩
  ·unfold gr
   rw[if_pos hff];simp only[e,Option.ah];rw[if_pos (by simpa using hl),YR];rfl
  ·refine⟨by have:=g.tr;simp only[bJ,aC]at *;rw[List.take_set_of_le c];exact this,by have:=g.le;simp only[size,aC,List.length_set]at *;exact this,.inr ⟨by simp,t,rfl,c,by simpa only[size,aC,List.length_set] using d,?_⟩⟩
   have hd:t<H.length:=d;simp[dw,bY,aC,List.getElem?_set_self hd,Option.ah,nX]
theorem GS.gY (g:GS h T sz z v es H) (hz:gZ sz z) (n:Nat) (k:Hp):gY n k v=some (gD z sz es):=by
 rcases g.va with⟨rfl,rfl⟩ | ⟨hne,t,rfl,_⟩
 ·rcases hz with rfl | rfl<;>rfl
 ·cases es with
  | nil=>exact(hne rfl).elim
  | cons x xs=>rfl
end
theorem GS.rl {α:Type} {e:α→PV} {h H:Hp} {T sz:Nat} {z v:PV} {l:List α} (g:GS h T sz z v (l.map e) H) (hz:gZ sz z):Rl e sz v l:=by
 rcases g.va with⟨a,rfl⟩ | ⟨hne,t,rfl,_⟩
 ·have:l=[]:=by simpa using a
  subst this;rcases hz with rfl | rfl
  ·exact Lj
  ·exact Li .full []
 ·exact Li _ _
end Go.Am
namespace Go.Am
structure Fl where
 b:List UInt8
 aj:Nat
 bN:List Nat
 di:Nat
 left:Int
 down:Bool
structure FP where
 f:Nat
 bb:Nat
 wb:Nat
def lM (l:List Nat):List PV:=l.map fun(n:Nat)=>PV.int .i64 (n:Int)
def DI (p:FP) (F:Fl):List PV:=[.bX true p.bb 0 F.b.length 1,.int .i64 F.aj,.bX true p.wb 0 F.bN.length 1,.int .i64 F.di,.int .i64 F.left,.bool F.down]
def cv (h:Hp) (p:FP) (F:Fl):Hp:=aC (aC (aC h p.bb (.cells (aP F.b))) p.wb (.cells (lM F.bN))) p.f (.cells (DI p F))
structure pI (h:Hp) (p:FP):Prop where
 lf:p.f<size h
 lb:p.bb<size h
 lw:p.wb<size h
 n1:p.f≠p.bb
 n2:p.f≠p.wb
 n3:p.bb≠p.wb
theorem pJ {h k:Hp} (hs:size h=size k) (hb:∀ b,bY h b=bY k b):h=k:=List.ext_getElem? hb
theorem nN {h:Hp} {b n:Nat} {x:gW}:bY (aC h b x) n=if b=n then(if n<size h then some x else none) else bY h n:=by
 by_cases hb:b=n
 ·subst hb
  rw[if_pos rfl];split
  ·rename_i hl;exact cM hl
  ·rename_i hl;simp only[bY,aC,size]at *;rw[List.getElem?_eq_none (by simp;omega)]
 ·rw[if_neg hb,cN hb]
theorem bS {h:Hp} {p:FP} {F:Fl}:size (cv h p F)=size h:=by simp only[cv,aJ]
theorem dD {h:Hp} {p:FP} {F:Fl} (hp:pI h p) (n:Nat):bY (cv h p F) n=if n=p.f then some (.cells (DI p F)) else if n=p.wb then some (.cells (lM F.bN)) else if n=p.bb then some (.cells (aP F.b)) else bY h n:=by
 obtain⟨l1,l2,l3,n1,n2,n3⟩:=hp;simp only[cv,nN,aJ]
 by_cases h1:n=p.f
 ·subst h1;rw[if_pos rfl,if_pos l1,if_pos rfl]
 ·rw[if_neg (Ne.symm h1),if_neg h1]
  by_cases h2:n=p.wb
  ·subst h2;rw[if_pos rfl,if_pos l3,if_pos rfl]
  ·rw[if_neg (Ne.symm h2),if_neg h2]
   by_cases h3:n=p.bb
   ·subst h3;rw[if_pos rfl,if_pos l2,if_pos rfl]
   ·rw[if_neg (Ne.symm h3),if_neg h3]
theorem pI.set {h:Hp} {p:FP} (hp:pI h p) (b:Nat) (x:gW):pI (aC h b x) p:=⟨by rw[aJ];exact hp.lf,by rw[aJ];exact hp.lb,by rw[aJ];exact hp.lw,hp.n1,hp.n2,hp.n3⟩
theorem pI.ext {h:Hp} {p:FP} (hp:pI h p) (l:Hp):pI (Go.Am.ext h l) p:=⟨by rw[aW];have:=hp.lf;omega,by rw[aW];have:=hp.lb;omega,by rw[aW];have:=hp.lw;omega,hp.n1,hp.n2,hp.n3⟩
theorem pI.put {h:Hp} {p q:FP} {F:Fl} (hp:pI h p):pI (cv h q F) p:=⟨by rw[bS];exact hp.lf,by rw[bS];exact hp.lb,by rw[bS];exact hp.lw,hp.n1,hp.n2,hp.n3⟩
theorem Ch {h:Hp} {p:FP} {F G:Fl} (hp:pI h p):cv (cv h p F) p G=cv h p G:=by
 refine pJ (by simp only[bS]) fun n=>?_
 rw[dD hp.put,dD hp,dD hp];split<;>(try rfl)
 split<;>(try rfl)
 split<;>rfl
theorem Af {h l:Hp} {p:FP} {F:Fl} (hp:pI h p):ext (cv h p F) l=cv (ext h l) p F:=by
 simp only[cv];rw[aak hp.lb,aak (by rw[aJ];exact hp.lw),aak (by rw[aJ,aJ];exact hp.lf)]
theorem Ag {h:Hp} {p:FP} {F:Fl} {b:Nat} {x:gW} (hp:pI h p) (h1:b≠p.f) (h2:b≠p.bb) (h3:b≠p.wb):aC (cv h p F) b x=cv (aC h b x) p F:=by
 refine pJ (by simp only[bS,aJ]) fun n=>?_
 rw[dD (hp.set _ _),nN,nN,dD hp,bS]
 by_cases hb:b=n
 ·subst hb;rw[if_pos rfl,if_neg h1,if_neg h3,if_neg h2,if_pos rfl]
 ·rw[if_neg hb,if_neg hb]
theorem iU {h:Hp} {p:FP} {F:Fl} {b:Nat} (hp:pI h p) (h1:b≠p.f) (h2:b≠p.bb) (h3:b≠p.wb):ay (cv h p F) b=ay h b:=by rw[ay,dD hp,if_neg h1,if_neg h3,if_neg h2];rfl
theorem FV {h:Hp} {p:FP} {F:Fl} {b:Nat} (hp:pI h p) (h1:b≠p.f) (h2:b≠p.bb) (h3:b≠p.wb):bR (cv h p F) b=bR h b:=by rw[bR,dD hp,if_neg h1,if_neg h3,if_neg h2];rfl
theorem adG {h l:Hp} {p:FP} {F:Fl} (hp:pI h p):bJ (cv (ext h l) p F) (size h)=cv h p F:=by
 rw[←Af hp];have:=cI (h:=cv h p F) (l:=l);rwa [bS]at this
theorem cT {h:Hp} {p:FP} {F:Fl}:bJ (cv h p F) (size h)=cv h p F:=by
 have:=bL (h:=cv h p F);rwa [bS]at this
section cells
variable {h:Hp} {p:FP} {F:Fl} (hp:pI h p)
include hp
theorem DJ:ay (cv h p F) p.f=some (DI p F):=by rw[ay,dD hp,if_pos rfl];rfl
theorem ZI:ay (cv h p F) p.bb=some (aP F.b):=by rw[ay,dD hp,if_neg (Ne.symm hp.n1),if_neg hp.n3,if_pos rfl];rfl
theorem UF:ay (cv h p F) p.wb=some (lM F.bN):=by rw[ay,dD hp,if_neg (Ne.symm hp.n2),if_pos rfl];rfl
theorem Wx {G:Fl} (hb:G.b=F.b) (hw:G.bN=F.bN):cx (cv h p F) p.f (DI p G)=cv h p G:=by
 refine pJ (by simp only[cx,bS,aJ]) fun n=>?_
 rw[cx,nN,dD hp,dD hp,bS,hb,hw]
 by_cases h1:n=p.f
 ·subst h1;rw[if_pos rfl,if_pos hp.lf,if_pos rfl]
 ·rw[if_neg (Ne.symm h1),if_neg h1,if_neg h1]
theorem ZJ {l:List UInt8} (hl:l.length=F.b.length):cx (cv h p F) p.bb (aP l)=cv h p { F with b:=l }:=by
 refine pJ (by simp only[cx,bS,aJ]) fun n=>?_
 rw[cx,nN,dD hp,dD hp,bS]
 by_cases h1:n=p.f
 ·subst h1;rw[if_neg (Ne.symm hp.n1),if_pos rfl,if_pos rfl];simp only[DI,hl]
 ·rw[if_neg h1,if_neg h1]
  by_cases h2:n=p.wb
  ·subst h2;rw[if_neg hp.n3,if_pos rfl,if_pos rfl]
  ·rw[if_neg h2,if_neg h2]
   by_cases h3:n=p.bb
   ·subst h3;rw[if_pos rfl,if_pos hp.lb,if_pos rfl]
   ·rw[if_neg (Ne.symm h3),if_neg h3,if_neg h3]
theorem ZK {l:List Nat} (hl:l.length=F.bN.length):cx (cv h p F) p.wb (lM l)=cv h p { F with bN:=l }:=by
 refine pJ (by simp only[cx,bS,aJ]) fun n=>?_
 rw[cx,nN,dD hp,dD hp,bS]
 by_cases h1:n=p.f
 ·subst h1;rw[if_neg (Ne.symm hp.n2),if_pos rfl,if_pos rfl];simp only[DI,hl]
 ·rw[if_neg h1,if_neg h1]
  by_cases h2:n=p.wb
  ·subst h2;rw[if_pos rfl,if_pos hp.lw,if_pos rfl]
  ·rw[if_neg (Ne.symm h2),if_neg h2,if_neg h2]
theorem ld0:ax 1 false (.ptr p.f 0) (cv h p F)=some (.bX true p.bb 0 F.b.length 1):=by rw[ej,DJ hp];rfl
theorem X8:ax 1 false (.ptr p.f 1) (cv h p F)=some (.int .i64 F.aj):=by rw[ej,DJ hp];rfl
theorem ld2:ax 1 false (.ptr p.f 2) (cv h p F)=some (.bX true p.wb 0 F.bN.length 1):=by rw[ej,DJ hp];rfl
theorem ld3:ax 1 false (.ptr p.f 3) (cv h p F)=some (.int .i64 F.di):=by rw[ej,DJ hp];rfl
theorem ld4:ax 1 false (.ptr p.f 4) (cv h p F)=some (.int .i64 F.left):=by rw[ej,DJ hp];rfl
theorem ld5:ax 1 false (.ptr p.f 5) (cv h p F)=some (.bool F.down):=by rw[ej,DJ hp];rfl
theorem ldb {i:Nat} {c:UInt8} (hi:F.b[i]?=some c):ax 1 false (.ptr p.bb (i*1)) (cv h p F)=some (.int .u8 c.toNat):=by
 rw[ej,ZI hp,Option.ag,part,if_neg (by simp),Nat.mul_one,qg,hi];rfl
theorem ldw {i n:Nat} (hi:F.bN[i]?=some n):ax 1 false (.ptr p.wb (i*1)) (cv h p F)=some (.int .i64 n):=by
 rw[ej,UF hp,Option.ag,part,if_neg (by simp),Nat.mul_one,lM,List.getElem?_map,hi];rfl
theorem st3 {base:Nat} {n:Nat}:aS base 1 (.ptr p.f 3) (.int .i64 n) (cv h p F)=some (cv h p { F with di:=n }):=by
 rw[dA,DJ hp,Option.ag,if_pos ⟨rfl,by simp[DI],rfl,fun _=>rfl⟩];have:bE (DI p F) 3 (if p.f<base then aO (PV.int .i64 n).cells else(PV.int .i64 n).cells)=DI p { F with di:=n }:=by split<;>rfl
 rw[this,Wx (F:=F) hp (G:={ F with di:=n }) rfl rfl]
theorem X9 {base:Nat} {n:Int}:aS base 1 (.ptr p.f 4) (.int .i64 n) (cv h p F)=some (cv h p { F with left:=n }):=by
 rw[dA,DJ hp,Option.ag,if_pos ⟨rfl,by simp[DI],rfl,fun _=>rfl⟩];have:bE (DI p F) 4 (if p.f<base then aO (PV.int .i64 n).cells else(PV.int .i64 n).cells)=DI p { F with left:=n }:=by split<;>rfl
 rw[this,Wx (F:=F) hp (G:={ F with left:=n }) rfl rfl]
theorem st5 {base:Nat} {n:Bool}:aS base 1 (.ptr p.f 5) (.bool n) (cv h p F)=some (cv h p { F with down:=n }):=by
 rw[dA,DJ hp,Option.ag,if_pos ⟨rfl,by simp[DI],rfl,fun _=>rfl⟩];have:bE (DI p F) 5 (if p.f<base then aO (PV.bool n).cells else(PV.bool n).cells)=DI p { F with down:=n }:=by split<;>rfl
 rw[this,Wx (F:=F) hp (G:={ F with down:=n }) rfl rfl]
omit hp in
theorem ya (l:List UInt8) (i:Nat) (c:UInt8):(aP l).set i (.int .u8 c.toNat)=aP (l.set i c):=by simp[aP,List.map_set]
omit hp in
theorem aM (l:List UInt8):(aP l).length=l.length:=by simp[aP]
theorem stb {base i:Nat} {c:UInt8} (hi:i<F.b.length):aS base 1 (.ptr p.bb (i*1)) (.int .u8 c.toNat) (cv h p F)=some (cv h p { F with b:=F.b.set i c }):=by
 rw[dA,ZI hp,Option.ag,if_pos ⟨rfl,by rw[aM];omega,rfl,fun _=>rfl⟩];have:bE (aP F.b) (i*1) (if p.bb<base then aO (PV.int .u8 c.toNat).cells else(PV.int .u8 c.toNat).cells)=aP (F.b.set i c):=by
  rw[Nat.mul_one,←ya];split<;>rfl
 rw[this,ZJ hp (by simp)]
theorem stw {base i n:Nat} (hi:i<F.bN.length):aS base 1 (.ptr p.wb (i*1)) (.int .i64 n) (cv h p F)=some (cv h p { F with bN:=F.bN.set i n }):=by
 rw[dA,UF hp,Option.ag,if_pos ⟨rfl,by simp[lM];omega,rfl,fun _=>rfl⟩];have:bE (lM F.bN) (i*1) (if p.wb<base then aO (PV.int .i64 n).cells else(PV.int .i64 n).cells)=lM (F.bN.set i n):=by
  rw[Nat.mul_one];have e:lM (F.bN.set i n)=(lM F.bN).set i (.int .i64 n):=by simp[lM,List.map_set]
  rw[e];split<;>rfl
 rw[this,ZK hp (by simp)]
end cells
/-! ### What a cX does -/
def Fl.cD (F:Fl) (i:Nat) (c:UInt8):Bool × Fl :=
 if F.left=0 then(false,{ F with down:=true })
 else(true,{ F with left:=if F.left > 0 then F.left-1 else F.left,b:=F.b.set i c,di:=min (F.di+1) 1073741824 })
def Fl.prog (F:Fl) (i:Nat):List UInt8→Nat × Fl
 | []=>(0,F)
 | c::r=>if(F.cD i c).1=true then(F.cD i c).2.prog (i+1) r else(30,(F.cD i c).2)
def Fl.clears (F:Fl) (i:Nat) (l:List UInt8):Bool:=(l.zipIdx).all fun p=>p.1 &&& ~~~ (F.b.getD (i+p.2) 0) == 0
def Fl.program (F:Fl) (i:Nat) (l:List UInt8):Nat × Fl:=if F.down then(30,F) else if F.clears i l then F.prog i l else(31,F)
def Fl.erase (F:Fl) (s:Nat):Nat × Fl:=if F.down then(30,F) else
 ({ F with bN:=F.bN.set s (min (F.bN.getD s 0+1) 1073741824) }:Fl).prog (s*F.aj) (List.replicate F.aj 255)
end Go.Am
namespace Go.Am
theorem mJ (m n:Nat) (h:m+n≤9223372036854775807):IntKind.i64.wrap ((m:Int)+(n:Int))=((m+n:Nat):Int):=by rw[wrap_small (by omega) (by omega)];simp
theorem aaN (m n:Nat) (h:n≤m) (h2:m≤9223372036854775807):IntKind.i64.wrap ((m:Int)-(n:Int))=((m-n:Nat):Int):=by rw[wrap_small (by omega) (by omega)];omega
theorem DL (m n:Nat) (h:m*n≤9223372036854775807):IntKind.i64.wrap ((m:Int)*(n:Int))=((m*n:Nat):Int):=by
 have:(m:Int)*(n:Int)=((m*n:Nat):Int):=by simp
 rw[this,wrap_small (by omega) (by omega)]
theorem fy (m:Nat) (h:m+1≤9223372036854775807):IntKind.i64.wrap ((m:Int)+1)=((m+1:Nat):Int):=by rw[wrap_small (by omega) (by omega)];simp
theorem aco (m:Nat) (h:m+2≤9223372036854775807):IntKind.i64.wrap ((m:Int)+2)=((m+2:Nat):Int):=by rw[wrap_small (by omega) (by omega)];simp
theorem aet (m:Nat) (h:m+7≤9223372036854775807):IntKind.i64.wrap ((m:Int)+7)=((m+7:Nat):Int):=by rw[wrap_small (by omega) (by omega)];simp
theorem anB (m:Nat) (h:m+7≤9223372036854775807):IntKind.i64.wrap (7+(m:Int))=((7+m:Nat):Int):=by rw[wrap_small (by omega) (by omega)];simp
theorem aev (m:Nat) (h:1≤m) (h2:m≤9223372036854775807):IntKind.i64.wrap ((m:Int)-1)=((m-1:Nat):Int):=by rw[wrap_small (by omega) (by omega)];omega
theorem Ql (m:Nat) (h:4≤m) (h2:m≤9223372036854775807):IntKind.i64.wrap ((m:Int)-4)=((m-4:Nat):Int):=by rw[wrap_small (by omega) (by omega)];omega
theorem dec_lt (m n:Nat):decide ((m:Int)<(n:Int))=decide (m<n):=by simp
theorem Qm (m n:Nat):decide ((m:Int)≤(n:Int))=decide (m≤n):=by simp
theorem aaz (m n:Nat):decide ((m:Int) > (n:Int))=decide (m > n):=by simp
theorem DM (m n:Nat):decide ((m:Int)≥(n:Int))=decide (m≥n):=by simp
theorem aaD (m:Nat):decide ((m:Int)≥0)=true:=by simp
theorem Tj (m:Nat):decide ((m:Int)<0)=false:=by simp
end Go.Am
namespace Go.Am
def GK (h H:Hp) (v:PV) (es:List PV):Prop:=∃ g,H=ext h g∧es.all scalar=true∧belows (size h) es=true ∧
 ((es=[]∧(v=.bg∨v=.sl .full 1 []))∨∃ b,size h≤b∧v=.bX false b 0 es.length 1∧ay H b=some es)
theorem qJ {n:Nat}:∀ {a b:List PV},belows n a=true→belows n b=true→belows n (a++b)=true
 | [],b,_,hb=>hb
 | x::a,b,ha,hb=>by
  simp only[belows,Bool.and_eq_true,List.cons_append]at *;exact⟨ha.1,qJ ha.2 hb⟩
theorem tN:∀ {xs:List PV},xs.all scalar=true→xs.all (fits 1)=true∧xs.flatMap PV.cells=xs
 | [],_=>⟨rfl,rfl⟩
 | x::xs,h=>by
  simp only[List.all_cons,Bool.and_eq_true]at h;obtain⟨h1,h2⟩:=tN h.2;have hc:x.cells=[x]:=by
   have:=h.1;cases x<;>simp[scalar]at this ⊢<;>rfl
  exact⟨by simp only[List.all_cons,h1,Bool.and_true,fits,hc];simp[h.1],by rw[List.flatMap_cons,hc,h2];rfl⟩
theorem eu {h g:Hp} {b:Nat} {x:gW} (hb:size h≤b):aC (ext h g) b x=ext h (g.set (b-size h) x):=by
 simp only[aC,ext,size]at *;rw[List.set_append_right _ _ hb]
theorem GK.app {h H:Hp} {v:PV} {es xs:List PV} (hk:GK h H v es) (base:Nat) {o:Own} (hs:xs.all scalar=true) (hb:belows (size h) xs=true) (hlim:es.length+xs.length≤1000000) (hne:xs≠[]) :
  ∃ v' H',cV base H (.vJ 1) [v,.sl o 1 xs]=some (v',H')∧GK h H' v' (es++xs):=by
 obtain⟨g,rfl,h1,h2,h3⟩:=hk;obtain⟨f1,f2⟩:=tN hs;have fin:∀ (H2:Hp),(∃ g,H2=ext h g)→GK h (ext H2 [.cells (es++xs)]) (.bX false (size H2) 0 (es++xs).length 1) (es++xs):=by
  rintro H2 ⟨g2,rfl⟩;refine⟨g2++[.cells (es++xs)],by simp[ext],by rw[List.all_append,h1,hs];rfl,qJ h2 hb,.inr ⟨_,by rw[aW];omega,rfl,by rw[aQ];rfl⟩⟩
 rw[Nv];rcases h3 with⟨rfl,rfl | rfl⟩ | ⟨b,hb1,rfl,hb2⟩
 ·refine⟨_,_,?_,fin (ext h g) ⟨g,rfl⟩⟩
  simp only[jR,Option.ag,Ad,if_neg hne,f1,f2,List.all_nil,gA,List.nil_append];rw[if_pos ⟨trivial,by simp at hlim;omega,trivial⟩];simp
 ·refine⟨_,_,?_,fin (ext h g) ⟨g,rfl⟩⟩
  simp only[jR,Option.ag,Ae,if_neg hne,f1,f2,List.flatMap_nil,List.all_nil,gA,List.nil_append];rw[if_pos ⟨trivial,by simp at hlim ⊢;omega,trivial⟩];simp
 ·refine⟨_,_,?_,fin (aC (ext h g) b .dead) ⟨_,eu hb1⟩⟩
  have ht:es.take (es.length*1)=es:=by rw[Nat.mul_one,List.take_length]
  simp only[jR,Option.ag,Ce,hb2,if_neg hne,f1,f2,gA,Nat.mul_one,Nat.le_refl,if_true,List.take_length,h1];rw[if_pos ⟨trivial,by omega,trivial⟩,List.length_append,aJ]
theorem GK.fin {h H:Hp} {v:PV} {es:List PV} (hk:GK h H v es) (hst:aO es=es) (hne:es≠[]):bk false false (size h) [v] H=some (.sl .no 1 es,h):=by
 obtain⟨g,rfl,h1,h2,h3⟩:=hk;rcases h3 with⟨rfl,_⟩ | ⟨b,hb1,rfl,hb2⟩
 ·exact(hne rfl).elim
 ·rw[cc]
  simp only[fN,xV,if_neg (show ¬ b<size h by omega),hb2,Option.ag,List.drop_zero,lZ,Bool.false_eq_true,if_false,List.take_length];rw[if_pos ⟨Nat.le_refl _,h1⟩];simp only[Option.ag,hst];rw[if_pos (by simp[belows,below,Own.below,h2]),cI];rfl
theorem GK.Wy {h:Hp} {es:List PV} (h1:es.all scalar=true) (h2:belows (size h) es=true):GK h (ext h [.cells es]) (.bX false (size h) 0 es.length 1) es :=
 ⟨_,rfl,h1,h2,.inr ⟨_,Nat.le_refl _,rfl,by rw[aQ];rfl⟩⟩
theorem GK.nil {h:Hp} {v:PV} (hv:v=.bg∨v=.sl .full 1 []):GK h h v []:=⟨[],by simp[ext],rfl,rfl,.inl ⟨rfl,hv⟩⟩
end Go.Am
namespace Go.Am.QdR
variable {h:Hp}
theorem Qn (n:Nat) (hn:n<4294967296):binOp .and (.int .u64 (n:Int)) (.int .u64 4294967295)=some (.int .u64 (n:Int)):=by
 show some (PV.int .u64 (IntKind.u64.wrap ((BitVec.ofInt 64 (n:Int) &&& BitVec.ofInt 64 4294967295).toNat:Int)))=_;have h1:(BitVec.ofInt 64 (n:Int)).toNat=n:=by simp;omega
 have h2:(BitVec.ofInt 64 4294967295).toNat=2 ^ 32-1:=by decide
 rw[BitVec.toNat_and,h1,h2,Nat.and_two_pow_sub_one_eq_mod,Nat.mod_eq_of_lt (by omega)];simp[IntKind.wrap,IntKind.signed,IntKind.bits];omega
theorem FW (n:Nat) (hn:n<4294967296):binOp .shr (.int .u64 (n:Int)) (.int .u64 32)=some (.int .u64 0):=by
 show some (PV.int .u64 ((n:Int).fdiv (2 ^ 32)))=_;rw[Int.fdiv_eq_ediv_of_nonneg _ (by decide),Int.ediv_eq_zero_of_lt (by omega) (by omega)]
theorem w64 (n:Nat) (hn:n<4294967296):IntKind.u64.wrap (n:Int)=(n:Int):=by
 simp[IntKind.wrap,IntKind.signed,IntKind.bits];omega
theorem Qo (base:Nat) (n:Nat) (hn:n<4294967296):ai T base 127 [.int .u64 1,.int .u64 (n:Int)] h=some (.cF [.int .u64 0,.int .u64 (n:Int)],h):=by
 have a1:=Qn 1 (by decide);have a2:=Qn n hn;have b1:=FW 1 (by decide);have b2:=FW n hn;have b0:=FW 0 (by decide);have a0:=Qn 0 (by decide);simp only[show((1:Nat):Int)=1 from rfl,show((0:Nat):Int)=0 from rfl]at a1 b1 a0 b0;have m1:binOp .mul (.int .u64 1) (.int .u64 (n:Int))=some (.int .u64 (n:Int)):=by
  show some (PV.int .u64 (IntKind.u64.wrap (1*(n:Int))))=_;rw[Int.one_mul,w64 n hn]
 have m0:binOp .mul (.int .u64 0) (.int .u64 (n:Int))=some (.int .u64 0):=by
  show some (PV.int .u64 (IntKind.u64.wrap (0*(n:Int))))=_;rw[Int.zero_mul];rfl
 have m2:binOp .mul (.int .u64 1) (.int .u64 0)=some (.int .u64 0):=rfl;have m3:binOp .mul (.int .u64 0) (.int .u64 0)=some (.int .u64 0):=rfl;have p0:binOp .add (.int .u64 0) (.int .u64 0)=some (.int .u64 0):=rfl;rw[afE];rw[a1,Option.ag,b1,Option.ag,a2,Option.ag,b2,Option.ag,m1,Option.ag,m0,Option.ag,b2,Option.ag,p0,Option.ag,a0,Option.ag,b0,Option.ag,m2,Option.ag,p0,Option.ag,m3,Option.ag,p0,Option.ag,b0,Option.ag,p0,Option.ag,Option.ag];simp only[bL,↓jY,jZ,j4,j5,simprocAttr,if_true,if_false,implies_true,forall_const]
theorem JJ (base:Nat) (n:Nat) (hn:n<4294967296):ai T base 109 [.int .u64 1,.int .u64 (n:Int)] h=some (.cF [.int .u64 0,.int .u64 (n:Int)],h):=by
 have:=fun b=>Qo (h:=h) b n hn
 rw[afD];simp only[this,bL,↓jY,jZ,j4,j5,simprocAttr,if_true,if_false,implies_true,forall_const]
def fM (a n:Nat):List PV:=List.replicate a (.int .u8 255)++List.replicate (n-a) .undef
theorem Ah {a n:Nat} (ha:a≤n):(fM a n).length=n:=by simp[fM];omega
theorem Ny {a n c:Nat} (hc:c≤a):(fM a n).take c=List.replicate c (.int .u8 255):=by
 unfold fM;rw[List.take_append_of_le_length (by simpa using hc),List.take_replicate,Nat.min_eq_left hc]
theorem nO:∀ (k a n:Nat),a+k≤n→bE (fM a n) a (List.replicate k (.int .u8 255))=fM (a+k) n
 | 0,a,n,_=>rfl
 | k+1,a,n,h=>by
  rw[List.replicate_succ,bE];have e:(fM a n).set a (.int .u8 255)=fM (a+1) n:=by
   unfold fM;have h1:n-a=(n-(a+1))+1:=by omega
   rw[h1,List.replicate_succ,List.set_append_right _ _ (by simp),List.length_replicate,Nat.sub_self,List.set_cons_zero,List.replicate_succ'];simp
  rw[e,nO k (a+1) n (by omega)];congr 1;omega
theorem Qp {base b a n c:Nat} {f f':Bool} {H:Hp} (hb:ay H b=some (fM a n)) (hc:c≤a) (ha:a≤n) (hbase:base≤b) :
  copyV base (.bX f b a (n-a) 1) (.bX f' b 0 c 1) H=some (.int .i64 ((min c (n-a):Nat):Int),aC H b (.cells (fM (a+min c (n-a)) n))):=by
 have he:elems H (.bX f' b 0 c 1)=some (List.replicate c (.int .u8 255)):=by
  rw[mV,hb,Option.ag,List.drop_zero,Ny hc,if_pos ⟨by rw[Ah ha];omega,by simp[scalar]⟩]
 rw[kX,he,Option.ag,hb,Option.ag,if_pos ⟨rfl,by rw[Ah ha];omega,by simp[scalar],fun q=>absurd q (by omega)⟩];rw[List.take_replicate,List.length_replicate,nO _ _ _ (by omega),cx,Nat.min_comm]
theorem FX (base n0:Nat) {b n mx:Nat} (hn:n≤1000000) (hmx:1≤mx) (afJ:mx≤1000000) (hbase:base≤b) (hn0:n0≤b):∀ (m a:Nat) {H:Hp},n-a≤m→1≤a→a≤n→ay H b=some (fM a n) →
  Lf base n0 (.bX true b 0 n 1) (.int .i64 (a:Int)) (.int .i64 (mx:Int)) (.int .i64 (n:Int)) H=bk false true n0 [.bX true b 0 n 1] (aC H b (.cells (fM n n)))
 | m,a,H,hm,ha,han,hb=>by
  rw[Qg]
  by_cases hlt:a<n
  ·have d1:decide (a<n)=true:=by simpa using hlt
   have hmin:jI false [.int .i64 (a:Int),.int .i64 (mx:Int)]=some (.int .i64 ((min a mx:Nat):Int)):=by
    show some (PV.int .i64 (if(mx:Int)<(a:Int) then(mx:Int) else(a:Int)))=_;congr 2;split<;>omega
   have s1:cO (some 1) (some (.int .i64 (a:Int))) none none (.bX true b 0 n 1)=some (.bX true b a (n-a) 1):=by
    rw[ry,mZ,Option.ag,gK,fV _ _ _ (by omega),Option.ag,if_neg (by omega)];simp
   have s2:cO (some 1) none (some (.int .i64 ((min a mx:Nat):Int))) none (.bX true b 0 n 1)=some (.bX (true&&min a mx == n) b 0 (min a mx) 1):=by
    rw[ry,gK,fV _ _ _ (by omega),Option.ag,mZ,Option.ag,if_neg (by omega)];simp
   have hc:=Qp (base:=base) (f:=true) (f':=(true&&min a mx == n)) hb (c:=min a mx) (by omega) han hbase;have hw:IntKind.i64.wrap ((a:Int)+((min (min a mx) (n-a):Nat):Int))=((a+min (min a mx) (n-a):Nat):Int):=mJ _ _ (by omega);have hlt':b<size H:=bw (bq hb)
   match m,hm with
   | m+1,hm =>
    have ih:=FX base n0 hn hmx afJ hbase hn0 m (a+min (min a mx) (n-a)) (H:=aC H b (.cells (fM (a+min (min a mx) (n-a)) n))) (by omega) (by omega) (by omega) (by rw[ay,cM hlt'];rfl);have hq:binOp .lss (.int .i64 (a:Int)) (.int .i64 (n:Int))=some (.bool true):=by
     show some (PV.bool (decide ((a:Int)<(n:Int))))=_;rw[dec_lt,d1]
    have had:binOp .add (.int .i64 (a:Int)) (.int .i64 ((min (min a mx) (n-a):Nat):Int))=some (.int .i64 ((a+min (min a mx) (n-a):Nat):Int)):=by
     show some (PV.int .i64 (IntKind.i64.wrap _))=_;rw[hw]
    rw[hq,Option.ag,aR,hmin,Option.ag,s1,Option.ag,s2,Option.ag,hc,az,had,Option.ag,ih,fO]
   | 0,hm=>omega
  ·have hq:binOp .lss (.int .i64 (a:Int)) (.int .i64 (n:Int))=some (.bool false):=by
    show some (PV.bool (decide ((a:Int)<(n:Int))))=_;rw[dec_lt,decide_eq_false hlt]
   have:a=n:=by omega
   subst this;rw[hq,Option.ag,aL,jv (bq hb)]
theorem Ai (k:Nat):∀ n,belows k (List.replicate n (PV.int .u8 255))=true
 | 0=>rfl
 | n+1=>by rw[List.replicate_succ];simp only[belows,Ai k n,Bool.and_true];rfl
theorem FY (base:Nat) {n:Nat} (h1:1≤n) (hn:n≤1000000):ai T base 80 [.sl .full 1 [.int .u8 255],.int .i64 (n:Int)] h=some (.bX true (size h) 0 n 1,ext h [.cells (List.replicate n (.int .u8 255))]):=by
 have e0:binOp .eql (.int .i64 (n:Int)) (.int .i64 0)=some (.bool false):=by
  show some (PV.bool ((n:Int) == 0))=_;have:((n:Int) == 0)=false:=by rw[beq_eq_false_iff_ne];omega
  rw[this]
 have e1:binOp .lss (.int .i64 (n:Int)) (.int .i64 0)=some (.bool false):=by
  show some (PV.bool (decide ((n:Int)<0)))=_;rw[decide_eq_false (by omega)]
 have t1:ct (.int .i64 1) .u64=some (.int .u64 1):=rfl;have t2:ct (.int .i64 (n:Int)) .u64=some (.int .u64 (n:Int)):=by rw[nF,w64 n (by omega)]
 have t3:ct (.int .u64 (n:Int)) .i64=some (.int .i64 (n:Int)):=by rw[nF,wrap_small (by omega) (by omega)]
 have g1:binOp .gtr (.int .u64 0) (.int .u64 0)=some (.bool false):=rfl;have g2:binOp .gtr (.int .u64 (n:Int)) (.int .u64 9223372036854775807)=some (.bool false):=by
  show some (PV.bool (decide ((n:Int) > 9223372036854775807)))=_;rw[decide_eq_false (by omega)]
 have hl:cB false (.sl .full 1 [.int .u8 255])=some (.int .i64 1):=rfl;have hm:=JJ (h:=h) (size h) n (by omega);have hmk:∀ base,ai T base 110 [.int .i64 (n:Int)] h=some (.bX false (size h) 0 n 1,ext h [.cells (List.replicate n .undef)]):=fun base=>by
  rw[oI ZE,X5,if_pos ⟨by omega,by omega⟩];rfl
 have hs:cO (some 1) none (some (.int .i64 (n:Int))) (some (.int .i64 (n:Int))) (.bX false (size h) 0 n 1)=some (.bX true (size h) 0 n 1):=by
  simp only[cO,if_true,gK,mZ];rw[fV _ _ _ (Nat.le_refl n),Option.ag,fV _ _ _ (Nat.le_refl n),Option.ag,Option.ag,if_neg (by omega)];simp
 have hb0:ay (ext h [.cells (List.replicate n .undef)]) (size h)=some (fM 0 n):=by rw[aQ];simp[fM,cellsOf]
 have hcp:copyV (size h) (.bX true (size h) 0 n 1) (.sl .full 1 [.int .u8 255]) (ext h [.cells (List.replicate n .undef)])=some (.int .i64 1,ext h [.cells (fM 1 n)]):=by
  rw[kX,jR,Option.ag,hb0,Option.ag,if_pos ⟨rfl,by rw[Ah (by omega)];omega,rfl,fun q=>absurd q (by omega)⟩];have e:[PV.int .u8 255].take n=List.replicate 1 (.int .u8 255):=by
   rw[List.take_of_length_le (by simpa using h1)];rfl
  rw[e,nO 1 0 n (by omega),cx,eu (Nat.le_refl _)];have:min ([PV.int .u8 255] : List PV).length n=1:=by simp;omega
  rw[this];simp
 have fin:∀ mx:Nat,1≤mx→mx≤1000000→FL (size h) (size h) (.int .i64 (mx:Int)) (.int .i64 (n:Int)) (.sl .full 1 [.int .u8 255]) h=some (.bX true (size h) 0 n 1,ext h [.cells (List.replicate n (.int .u8 255))]):=by
  intro mx hx1 hx2;have hlp:=FX (size h) (size h) (b:=size h) hn hx1 hx2 (Nat.le_refl _) (Nat.le_refl _) n 1 (H:=ext h [.cells (fM 1 n)]) (by omega) (Nat.le_refl 1) h1 (by rw[aQ];rfl);simp only[show((1:Nat):Int)=1 from rfl]at hlp;have hfull:fM n n=List.replicate n (.int .u8 255):=by simp[fM]
  have hset:aC (ext h [.cells (fM 1 n)]) (size h) (.cells (fM n n))=ext h [.cells (List.replicate n (.int .u8 255))]:=by
   rw[eu (Nat.le_refl _),hfull];simp
  rw[hset]at hlp;have hbl:belows (size h) (List.replicate n (PV.int .u8 255))=true:=Ai _ n;rw[Qf,hmk,az,hs,Option.ag,hcp,az,hlp,pG,zb,if_neg (by omega),aQ];simp only[cellsOf,Option.ag];rw[if_pos ⟨rfl,hbl⟩,Option.ag,cI];rfl
 rw[S80,e0,Option.ag,aL,e1,Option.ag,aL,Qc,hl,Option.ag,t1,Option.ag,t2,Option.ag,hm,az];have q1:aE (.cF [.int .u64 0,.int .u64 (n:Int)]) 0=some (.int .u64 0):=rfl;have q2:aE (.cF [.int .u64 0,.int .u64 (n:Int)]) 1=some (.int .u64 (n:Int)):=rfl;have el:binOp .eql (.int .i64 1) (.int .i64 0)=some (.bool false):=rfl;have quo:binOp .quo (.int .i64 8192) (.int .i64 1)=some (.int .i64 8192):=rfl;have mul:binOp .mul (.int .i64 8192) (.int .i64 1)=some (.int .i64 8192):=rfl;have eq2:binOp .eql (.int .i64 8192) (.int .i64 0)=some (.bool false):=rfl;have f8:=fin 8192 (by omega) (by omega);have fn:=fin n h1 hn;simp only[show((8192:Nat):Int)=8192 from rfl]at f8;have gt:binOp .gtr (.int .i64 (n:Int)) (.int .i64 8192)=some (.bool (decide (n > 8192))):=by
  show some (PV.bool (decide ((n:Int) > 8192)))=_;congr 2;rw[decide_eq_decide];omega
 rw[q1,Option.ag,q2,Option.ag,g1,Option.ag];simp only[Qe,t3,hl,el,gt,quo,mul,eq2,f8,fn,g2,↓jY,jZ,j4,j5,simprocAttr,if_true,if_false,implies_true,forall_const];split<;>rfl
end Go.Am.QdR
namespace Go.Proofs
open Go.Shelf Go.RowKit
def Tryz.Ci:Go.Shelf.Ren:=⟨fun | 7=>142 | 10=>150 | n=>n,fun | 23=>143 | 26=>3 | 3=>22 | 28=>188 | 0=>0 | 27=>187 | 33=>196 | 4=>4 | n=>n,fun | n=>n⟩
theorem Tryz.ZL:Go.Proofs.SlLaysZI.n7 Tryz.prog Tryz.Ci:={
 mixed:=by kernel_rfl
 f7:=⟨Tryz.f142.name,by decide,Tryz.func142.trans (congrArg some (by kernel_rfl))⟩
 f10:=⟨Tryz.f150.name,by decide,Tryz.func150.trans (congrArg some (by kernel_rfl))⟩
 t0:=Tryz.underlying0
 a0:=Tryz.isAgg0
 z0:=Tryz.sizeOf0
 v0:=Tryz.zeroValue0
 t4:=Tryz.underlying4
 a4:=Tryz.isAgg4
 z4:=Tryz.sizeOf4
 v4:=Tryz.zeroValue4
 t23:=Tryz.underlying143
 a23:=Tryz.isAgg143
 z23:=Tryz.sizeOf143
 v23:=Tryz.zeroValue143
 t26:=Tryz.underlying3
 a26:=Tryz.isAgg3
 z26:=Tryz.sizeOf3
 v26:=Tryz.zeroValue3
 t27:=Tryz.underlying187
 a27:=Tryz.isAgg187
 z27:=Tryz.sizeOf187
 v27:=Tryz.zeroValue187
 t28:=Tryz.underlying188
 a28:=Tryz.isAgg188
 z28:=Tryz.sizeOf188
 v28:=Tryz.zeroValue188
 t33:=Tryz.underlying196
 a33:=Tryz.isAgg196
 z33:=Tryz.sizeOf196
 v33:=Tryz.zeroValue196 }
def Tryz.vj:Go.Shelf.Ren:=⟨fun | 6=>141 | 8=>148 | 9=>149 | 11=>154 | 13=>156 | 12=>155 | 23=>171 | 24=>172 | 14=>162 | 15=>163 | 16=>164 | 17=>165 | 18=>166 | 19=>167 | 20=>168 | 21=>169 | 22=>170 | 25=>174 | 26=>175 | 27=>176 | 28=>177 | 29=>178 | 30=>179 | 31=>181 | n=>n,fun | 26=>3 | 28=>188 | 24=>59 | 0=>0 | 3=>3 | 37=>132 | 48=>30 | 50=>128 | 4=>4 | 40=>206 | 39=>205 | 45=>210 | 5=>5 | 9=>9 | 51=>218 | 55=>222 | 57=>224 | 58=>110 | 33=>196 | n=>n,fun | n=>n⟩
theorem Tryz.Tm:Go.Proofs.SlLaysZI.n6 Tryz.prog Tryz.vj:={
 mixed:=by kernel_rfl
 f6:=⟨Tryz.f141.name,by decide,Tryz.func141.trans (congrArg some (by kernel_rfl))⟩
 f8:=⟨Tryz.f148.name,by decide,Tryz.func148.trans (congrArg some (by kernel_rfl))⟩
 f11:=⟨Tryz.f154.name,by decide,Tryz.func154.trans (congrArg some (by kernel_rfl))⟩
 t0:=Tryz.underlying0
 a0:=Tryz.isAgg0
 z0:=Tryz.sizeOf0
 v0:=Tryz.zeroValue0
 t24:=Tryz.underlying59
 a24:=Tryz.isAgg59
 z24:=Tryz.sizeOf59
 v24:=Tryz.zeroValue59
 t26:=Tryz.underlying3
 a26:=Tryz.isAgg3
 z26:=Tryz.sizeOf3
 v26:=Tryz.zeroValue3
 t28:=Tryz.underlying188
 a28:=Tryz.isAgg188
 z28:=Tryz.sizeOf188
 v28:=Tryz.zeroValue188
 i26:=by kernel_rfl }
def Tryz.NA:Go.Shelf.Ren:=⟨fun | 5=>149 | 8=>156 | 7=>155 | 19=>171 | 20=>172 | 10=>162 | 11=>163 | 12=>164 | 13=>165 | 14=>166 | 15=>167 | 16=>168 | 17=>169 | 18=>170 | 30=>174 | 31=>175 | 32=>176 | 33=>177 | 34=>178 | 35=>179 | 40=>181 | n=>n,fun | 23=>59 | 25=>3 | 3=>3 | 32=>132 | 22=>59 | 0=>0 | 44=>30 | 46=>128 | 4=>4 | 36=>206 | 35=>205 | 41=>210 | 5=>5 | 9=>9 | 53=>218 | 57=>222 | 63=>224 | 64=>110 | n=>n,fun | n=>n⟩
theorem Tryz.UG:Go.Proofs.SlLaysM.n5 Tryz.prog Tryz.NA:={
 mixed:=by kernel_rfl
 f5:=⟨Tryz.f149.name,by decide,Tryz.func149.trans (congrArg some (by kernel_rfl))⟩
 f7:=⟨Tryz.f155.name,by decide,Tryz.func155.trans (congrArg some (by kernel_rfl))⟩
 f8:=Tryz.func156.trans (congrArg some (by kernel_rfl))
 f10:=⟨Tryz.f162.name,by decide,Tryz.func162.trans (congrArg some (by kernel_rfl))⟩
 f11:=⟨Tryz.f163.name,by decide,Tryz.func163.trans (congrArg some (by kernel_rfl))⟩
 f12:=⟨Tryz.f164.name,by decide,Tryz.func164.trans (congrArg some (by kernel_rfl))⟩
 f13:=⟨Tryz.f165.name,by decide,Tryz.func165.trans (congrArg some (by kernel_rfl))⟩
 f14:=⟨Tryz.f166.name,by decide,Tryz.func166.trans (congrArg some (by kernel_rfl))⟩
 f15:=⟨Tryz.f167.name,by decide,Tryz.func167.trans (congrArg some (by kernel_rfl))⟩
 f16:=⟨Tryz.f168.name,by decide,Tryz.func168.trans (congrArg some (by kernel_rfl))⟩
 f17:=⟨Tryz.f169.name,by decide,Tryz.func169.trans (congrArg some (by kernel_rfl))⟩
 f18:=⟨Tryz.f170.name,by decide,Tryz.func170.trans (congrArg some (by kernel_rfl))⟩
 f19:=Tryz.func171.trans (congrArg some (by kernel_rfl))
 f20:=Tryz.func172.trans (congrArg some (by kernel_rfl))
 f30:=⟨Tryz.f174.name,by decide,Tryz.func174.trans (congrArg some (by kernel_rfl))⟩
 f31:=Tryz.func175.trans (congrArg some (by kernel_rfl))
 f32:=Tryz.func176.trans (congrArg some (by kernel_rfl))
 f33:=⟨Tryz.f177.name,by decide,Tryz.func177.trans (congrArg some (by kernel_rfl))⟩
 f34:=⟨Tryz.f178.name,by decide,Tryz.func178.trans (congrArg some (by kernel_rfl))⟩
 f35:=⟨Tryz.f179.name,by decide,Tryz.func179.trans (congrArg some (by kernel_rfl))⟩
 f40:=⟨Tryz.f181.name,by decide,Tryz.func181.trans (congrArg some (by kernel_rfl))⟩
 t0:=Tryz.underlying0
 a0:=Tryz.isAgg0
 z0:=Tryz.sizeOf0
 v0:=Tryz.zeroValue0
 t3:=Tryz.underlying3
 a3:=Tryz.isAgg3
 z3:=Tryz.sizeOf3
 v3:=Tryz.zeroValue3
 t4:=Tryz.underlying4
 a4:=Tryz.isAgg4
 z4:=Tryz.sizeOf4
 v4:=Tryz.zeroValue4
 t5:=Tryz.underlying5
 a5:=Tryz.isAgg5
 z5:=Tryz.sizeOf5
 v5:=Tryz.zeroValue5
 t9:=Tryz.underlying9
 a9:=Tryz.isAgg9
 z9:=Tryz.sizeOf9
 v9:=Tryz.zeroValue9
 t22:=Tryz.underlying59
 a22:=Tryz.isAgg59
 z22:=Tryz.sizeOf59
 v22:=Tryz.zeroValue59
 t23:=Tryz.underlying59
 a23:=Tryz.isAgg59
 z23:=Tryz.sizeOf59
 v23:=Tryz.zeroValue59
 t25:=Tryz.underlying3
 a25:=Tryz.isAgg3
 z25:=Tryz.sizeOf3
 v25:=Tryz.zeroValue3
 t32:=Tryz.underlying132
 a32:=Tryz.isAgg132
 z32:=Tryz.sizeOf132
 v32:=Tryz.zeroValue132
 t35:=Tryz.underlying205
 a35:=Tryz.isAgg205
 z35:=Tryz.sizeOf205
 v35:=Tryz.zeroValue205
 t36:=Tryz.underlying206
 a36:=Tryz.isAgg206
 z36:=Tryz.sizeOf206
 v36:=Tryz.zeroValue206
 t41:=Tryz.underlying210
 a41:=Tryz.isAgg210
 z41:=Tryz.sizeOf210
 v41:=Tryz.zeroValue210
 t44:=Tryz.underlying30
 a44:=Tryz.isAgg30
 z44:=Tryz.sizeOf30
 v44:=Tryz.zeroValue30
 t46:=Tryz.underlying128
 a46:=Tryz.isAgg128
 z46:=Tryz.sizeOf128
 v46:=Tryz.zeroValue128
 t53:=Tryz.underlying218
 a53:=Tryz.isAgg218
 z53:=Tryz.sizeOf218
 v53:=Tryz.zeroValue218
 t57:=Tryz.underlying222
 a57:=Tryz.isAgg222
 z57:=Tryz.sizeOf222
 v57:=Tryz.zeroValue222
 t63:=Tryz.underlying224
 a63:=Tryz.isAgg224
 z63:=Tryz.sizeOf224
 v63:=Tryz.zeroValue224
 t64:=Tryz.underlying110
 a64:=Tryz.isAgg110
 z64:=Tryz.sizeOf110
 v64:=Tryz.zeroValue110 }
def Tryz.JK:Go.Shelf.Ren:=⟨fun | 5=>117 | 7=>136 | n=>n,fun | 23=>143 | 25=>3 | 3=>22 | 4=>4 | 20=>20 | n=>n,fun | n=>n⟩
theorem Tryz.Wz:Go.Proofs.SlLaysW.n5 Tryz.prog Tryz.JK:={
 mixed:=by kernel_rfl
 f5:=⟨Tryz.f117.name,by decide,Tryz.func117.trans (congrArg some (by kernel_rfl))⟩
 f7:=Tryz.func136.trans (congrArg some (by kernel_rfl))
 t4:=Tryz.underlying4
 a4:=Tryz.isAgg4
 z4:=Tryz.sizeOf4
 v4:=Tryz.zeroValue4
 t20:=Tryz.underlying20
 a20:=Tryz.isAgg20
 z20:=Tryz.sizeOf20
 v20:=Tryz.zeroValue20
 t23:=Tryz.underlying143
 a23:=Tryz.isAgg143
 z23:=Tryz.sizeOf143
 v23:=Tryz.zeroValue143 }
open Go.RowKit Go.Maps Go.Sort in
theorem Tryz.WA (m:Nat):AnyZI.SortsIn Tryz.prog Tryz.vj Fence.wide m :=
 ⟨fun blk off cap ss W hH hblk hsz=>callsIn_wide.2 (AnyM.slices_Sort_int Tryz.UG blk off cap ss W hH hblk hsz),
  fun p cap W=>callsIn_wide.2 (AnyM.slices_Sort_int_none Tryz.UG p cap W)⟩
theorem Tryz.maps_Clone (b:Nat) (es:Array MapEntry) (clock:Nat) (w:World) (hb:w.heap[b]?=some (.map es clock)) :
  Calls Tryz.prog 117 #[.map (some b)] w fun e w'=>e=.returned (.map (some w.heap.size))∧w'=w.alloc (.map es clock):=AnyW.maps_Clone Tryz.Wz b es clock w hb
end Go.Proofs
namespace Go.Proofs.YtmmjmkjoflfpmaaGreatDoorR
open Go Go.Proofs Go.Am
def qK (N0:Nat) (w:World):Prop:=True
theorem afL:mo Tryz.prog qK 110 X5 :=
 PR (ps:=Tryz.f110.params) (t:=22) Tryz.underlying22 fun n w v w' h=>by
  rw[run_callFunc_extern Tryz.func110 (by kernel_rfl) (by kernel_rfl) (by kernel_rfl) (e:=Extern.BytealgMakeNoZero.makeNoZero Tryz.f110.params #[22]) (by kernel_rfl),h];rfl
end Go.Proofs.YtmmjmkjoflfpmaaGreatDoorR
namespace Go.Am.QdR
open Go.Proofs
theorem afM:(bQ Tryz.prog gl { own:=true } Tryz.f80).map (bP A80)=some Qb:=by kernel_rfl
theorem ZM:(bQ Tryz.prog gl {} Tryz.f109).map (bP Wn)=some Wo:=by kernel_rfl
theorem ZN:(bQ Tryz.prog gl {} Tryz.f127).map (bP Wp)=some Wq:=by kernel_rfl
theorem yc:mX Tryz.prog gl Go.Proofs.YtmmjmkjoflfpmaaGreatDoorR.qK T:=by
 intro f it h;unfold T at h;split at h
 ·cases h;exact⟨A80,{ own:=true },Tryz.f80,Tryz.func80,afM⟩
 ·cases h;exact⟨Wn,{},Tryz.f109,Tryz.func109,ZM⟩
 ·cases h;exact Go.Proofs.YtmmjmkjoflfpmaaGreatDoorR.afL
 ·cases h;exact⟨Wp,{},Tryz.f127,Tryz.func127,ZN⟩
 ·cases h
end Go.Am.QdR
namespace Go.Am
theorem Qr {N0:Nat} {P:Program} {w0:World} {gl:cR} {I:Nat→World→Prop} {T:Table} (hT:mX P gl I T) (hgl:dR gl N0 w0) (hI:I N0 w0) {base f:Nat} {vs:List PV} {h h':Hp} {r:PV}
  (hs:ai T base f vs h=some (r,h')) (hb:base≤size h) (g:G) (us:Array Value) (w:World) (k:ox N0 w0 g h w) (hl:us.size=vs.length) (hrel:∀ (j:Nat) (x:PV),vs[j]?=some x→RV N0 g w x (us.getD j Go.undef)) :
  Fv P f us w fun en w'=>∃ u g',en=.returned u∧Ext N0 g w g' w'∧ox N0 w0 g' h' w'∧RV N0 g' w' r u:=by
 obtain⟨T0,h1,h2⟩:=z7 hT;obtain⟨n,hn⟩:=eW.1 hs;obtain⟨m,hm⟩:=eW.1 ((z6 h2 n).2 base f vs h _ hn);exact(Dn hgl hI h1 m).2.2 base f vs h r h' hm hb g us w k hl hrel
end Go.Am
namespace Go.Am.QdR
open Go Go.Proofs
open Go.RowKit (Below)
theorem Qs {n:Nat} (h1:1≤n) (hn:n≤1000000) (w:World) {b:Nat} {T:TypeId} {fr:Nat × Nat} (hb:w.heap[b]?=some (.cells #[.int .u8 255] T fr)) :
  Calls Tryz.prog 80 #[.slice (some ⟨b,0,none⟩) 1 1,.int .i64 (n:Int)] w fun e w'=>∃ c arr T lo hi,e=.returned (.slice (some ⟨c,0,none⟩) n n)∧w.heap.size≤c∧w'.heap[c]?=some (.cells arr T (lo,hi))∧(lo≠hi→arr.size≤lo)∧n≤arr.size ∧
   (∀ k,k<n→arr.getD k Go.undef=.int .u8 255)∧Below w.heap.size w w':=by
 have hbl:b<w.heap.size:=(Array.getElem?_eq_some_iff.1 hb).1;have k0:ox w.heap.size w { ι:=id,n:=0,hw:=fun _=>none } [] w :=
  ⟨rfl,rfl,Below.refl _ _,fun b c x y hx=>by simp[bY]at hx,fun b cs hb=>by simp[bY]at hb,fun c m hm=>by simp at hm,fun t v hv=>by simp[look]at hv⟩
 have hs:=FY (h:=[]) 0 h1 hn;have hin:=Qr (gl:=gl) (I:=Go.Proofs.YtmmjmkjoflfpmaaGreatDoorR.qK) yc (fun n cs h=>by simp[gl,IW]at h) (N0:=w.heap.size) (w0:=w) (by exact trivial) hs (Nat.zero_le _) _ #[.slice (some ⟨b,0,none⟩) 1 1,.int .i64 (n:Int)] w k0 rfl (fun j x hx=>by
  match j,hx with
  | 0,hx =>
   cases hx;refine RV.sl .full 1 [.int .u8 255] b 0 1 (fun _ _=>.int .u8 255) (by simp) (fun _=>rfl) (fun i e he=>?_) (fun i j hi hj=>?_) (fun i j e x he hx=>?_) (fun _=>.inl hbl) none (fun _=>rfl) (by simp)
   ·match i,he with
    | 0,he=>cases he;rfl
    | i+1,he=>simp at he
   ·have:i=0:=by simpa using hi
    have:j=0:=by omega
    subst i;subst j;simp[World.cell?,hb]
   ·match i,he with
    | 0,he =>
     cases he
     match j,hx with
     | 0,hx=>cases hx;exact .int _ _
     | j+1,hx=>simp[PV.cells]at hx
    | i+1,he=>simp at he
  | 1,hx=>cases hx;exact .int _ _
  | j+2,hx=>simp at hx)
 have hen:(callFunc 80 #[.slice (some ⟨b,0,none⟩) 1 1,.int .i64 (n:Int)]).run Tryz.prog w=_:=u9 yc ⟨_,ZC⟩ _ _;refine(hin.calls hen).mono fun e w' hw=>?_
 obtain⟨u,g',rfl,hx,hok,hr⟩:=hw;have hk:=hok.cells (b:=0) (cs:=List.replicate n (.int .u8 255)) rfl;obtain⟨k1,k2,arr,T',lo,hi,k3,k4,⟨k5,k6⟩,k7,k8⟩:=hk;cases hr with
 | bX f b off len sz cap q1 q2 q3 q4 =>
  have hc:=q3 rfl;subst hc;refine⟨_,arr,T',lo,hi,rfl,k1,k3,k4,by simpa using Nat.le_trans k5 k6,fun k hk=>?_,hok.below⟩;have:=k8 k (.int .u8 255) (by simp[hk]);generalize hv:arr.getD k Go.undef=V at this;cases this;rfl
end Go.Am.QdR
namespace Go.Proofs.YtmmjmkjoflfpmaaGreatDoor
open Go Go.Proofs Go.Am
open Go.RowKit (Below)
open Go.Maps
def qK (N0:Nat) (w:World):Prop:=True
theorem Tn:mo Tryz.prog qK 117 Dp :=
 FB (Am.enters_of Tryz.func117 (by kernel_rfl) rfl) fun b es clock w hb=>Tryz.maps_Clone b es clock w hb
theorem Qt:nK Tryz.prog qK 141 (xY 150):=by
 refine BB (tk:=3) Tryz.underlying3 (Am.enters_of Tryz.func141 (by kernel_rfl) rfl) fun Bm b nn D0 w hBm hm hown hmax hbytes=>?_
 have hseq:SeqGives Fence.wide 2 Tryz.prog 150 #[.pointer (some ⟨Bm,0,none⟩)] encZ (fun ss=>ss.Perm (intKeys D0)) (Maps.size D0) w :=
  AnyZI.keys_gives (ρ:=Tryz.Ci) { Tryz.ZL with } Fence.wide _ trivial rfl (by omega) Bm b nn D0 _ hBm hm hown
 have cS:=AnyZI.sorted_in Tryz.Tm Fence.wide 5 trivial trivial trivial trivial rfl (by omega) (Tryz.WA _) (enters_of Tryz.func149 (by kernel_rfl) rfl) 150 #[.pointer (some ⟨Bm,0,none⟩)] trivial (enters_of Tryz.func150 (by kernel_rfl) rfl) _ _ hmax hbytes _ hseq;exact(callsIn_wide (n:=5)).1 cS
theorem WB (a:Option Addr) (n cap:Nat) (hn:n≤17179869184) (w:World):Calls Tryz.prog 140 #[.slice a n cap] w fun e w'=>e=.returned (.int .i64 ((7+n:Nat):Int))∧w'=w:=by
 go_enter Tryz.func140,Tryz.ntmps140
 go_wp2
 go_ret
 refine⟨?_,rfl⟩;have:(7+(n:Int)+9223372036854775808) % 18446744073709551616-9223372036854775808=((7+n:Nat):Int):=by omega
 first | (simp[this];done) | (congr 2) | skip
def Lk (w' w:World):Prop:=w'.heap=w.heap∧w'.os=w.os∧w'.output=w.output∧w'.tape=w.tape
theorem To {P:Program} (w:World) (ty:TypeId) (bm since c0:Nat) (seen:Array Nat) (es:Array MapEntry) (clock:Nat) (hb:w.heap[bm]?=some (.map es clock)) (hold:∀ x∈es.toList,x.born<since) (hsc:since≤c0) :
  ((leftOf es seen).size=0∧(Instr.next (.pointer (some ⟨w.heap.size,0,none⟩)) false ty).run P (w.alloc (.mapIter (some bm) since seen c0))=.ok (.tuple #[.bool false]) (w.alloc (.mapIter (some bm) since seen c0))) ∨
  ∃ e∈(leftOf es seen).toList,∃ w1:World,Lk w1 w∧(Instr.next (.pointer (some ⟨w.heap.size,0,none⟩)) false ty).run P (w.alloc (.mapIter (some bm) since seen c0))=.ok (.tuple #[.bool true,e.key,e.val]) (w1.alloc (.mapIter (some bm) since (seen.push e.born) clock)):=by
 have hlt:bm<w.heap.size:=(Array.getElem?_eq_some_iff.1 hb).1;have hb':(w.alloc (.mapIter (some bm) since seen c0)).heap[bm]?=some (.map es clock):=by rw[heap_alloc_old w _ hlt,hb]
 rcases run_next_at (P:=P) (w.alloc (.mapIter (some bm) since seen c0)) ty w.heap.size bm since c0 seen es clock (heap_alloc_new w _) hb' hold hsc with h | ⟨e,he,w1,hw,hrun⟩
 ·exact .inl h
 ·have key:∀ v:World,Go.ChangeMaps.setBlock (v.alloc (.mapIter (some bm) since seen c0)) v.heap.size (.mapIter (some bm) since (seen.push e.born) clock)=v.alloc (.mapIter (some bm) since (seen.push e.born) clock):=by
   intro v;have hh:(v.heap.push (.mapIter (some bm) since seen c0)).setIfInBounds v.heap.size (.mapIter (some bm) since (seen.push e.born) clock)=v.heap.push (.mapIter (some bm) since (seen.push e.born) clock):=by
    apply Array.toList_inj.1;simp
   show({ v.alloc (.mapIter (some bm) since seen c0) with heap:=(v.heap.push (.mapIter (some bm) since seen c0)).setIfInBounds v.heap.size (.mapIter (some bm) since (seen.push e.born) clock) }:World)=_;rw[hh];rfl
  rcases hw with rfl | rfl
  ·exact .inr ⟨e,he,w,⟨rfl,rfl,rfl,rfl⟩,hrun.trans (by rw[key w])⟩
  ·exact .inr ⟨e,he,w.drew,⟨rfl,rfl,rfl,rfl⟩,hrun.trans (congrArg _ (key w.drew))⟩
def szV:Value→Int
 | .slice _ n _=>(7+n:Nat)
 | _=>0
def JL (e:MapEntry):MapEntry:={ e with val:=.int .i64 (szV e.val) }
theorem qL:∀ (l:List MapEntry) (seen:Array Nat) (B:Int),(∀ x∈l,0≤valOf x.val∧valOf x.val≤B)→0≤seenSum l seen∧seenSum l seen≤l.length*B
 | [],seen,B,h=>by simp[seenSum]
 | x::l,seen,B,h=>by
  obtain⟨h1,h2⟩:=qL l seen B (fun y hy=>h y (List.mem_cons_of_mem _ hy));obtain⟨h3,h4⟩:=h x List.mem_cons_self;have h5:((l.length+1:Nat):Int)*B=l.length*B+B:=by rw[Int.natCast_add,Int.add_mul];simp
  simp only[seenSum,List.length_cons,h5];split<;>omega
theorem NB (bm:Nat) (es:Array MapEntry) (clock:Nat) (w:World) (hb:w.heap[bm]?=some (.map es clock)) (hst:MapKept.Stamped es clock) (hv:∀ x∈es.toList,∃ a n cap,x.val=.slice a n cap∧n≤17179869184) (hs:es.size≤1048576) :
  Calls Tryz.prog 121 #[.map (some bm)] w fun e w'=>e=.returned (.int .i64 (8+((es.toList.map JL).map fun e=>valOf e.val).sum))∧∃ (w1:World) (seen:Array Nat),Lk w1 w∧w'=w1.alloc (.mapIter (some bm) clock seen clock):=by
 have hrg:=run_range_map (P:=Tryz.prog) w 143 3 22 bm es clock Tryz.underlying143 hb;have hnd:((es.toList.map JL).map (·.born)).Nodup:=by
  have:(es.toList.map JL).map (·.born)=es.toList.map (·.born):=by rw[List.map_map];rfl
  rw[this];exact hst.2.1
 go_enter Tryz.func121,Tryz.ntmps121
 go_wp2
 go_loopw [3] (fun s w'=>∃ (w1:World) (seen:Array Nat),Lk w1 w∧w'=w1.alloc (.mapIter (some bm) clock seen clock)∧s=.int .i64 (8+seenSum (es.toList.map JL) seen)) (fun _ w'=>(leftOf es (w'.iterSeen w.heap.size)).size)
 case atStart=>exact⟨w,#[],⟨rfl,rfl,rfl,rfl⟩,rfl,by rw[seenSum_none];rfl⟩
 case round =>
  obtain⟨w1,seen,hal,rfl,rfl⟩:=hrel;have hsz:w1.heap.size=w.heap.size:=by rw[hal.1]
  have hb1:w1.heap[bm]?=some (.map es clock):=by rw[hal.1];exact hb
  have law:=To (P:=Tryz.prog) w1 0 bm clock clock seen es clock hb1 hst.1 (Nat.le_refl _);rw[hsz]at law;rcases law with⟨h0,hrun⟩ | ⟨e,he,w2,hal2,hrun⟩
  ·have hnx:∀ ty,(Instr.next (.pointer (some ⟨w.heap.size,0,none⟩)) false ty).run Tryz.prog (w1.alloc (.mapIter (some bm) clock seen clock))=_:=fun _=>hrun
   go_wp2
   go_ret
   have hall:seenSum (es.toList.map JL) seen=((es.toList.map JL).map fun e=>valOf e.val).sum :=
    seenSum_full seen _ (fun x hx=>by obtain⟨y,hy,rfl⟩:=List.mem_map.1 hx;exact all_seen es seen h0 y hy)
   rw[hall];exact⟨rfl,w1,seen,hal,rfl⟩
  ·obtain⟨a,n,cap,hval,hn⟩:=hv e (mem_left he).1
   rw[hval]at hrun;have hnx:∀ ty,(Instr.next (.pointer (some ⟨w.heap.size,0,none⟩)) false ty).run Tryz.prog (w1.alloc (.mapIter (some bm) clock seen clock))=_:=fun _=>hrun
   have hsz2:w2.heap.size=w.heap.size:=by rw[hal2.1,hal.1]
   have hb2:w2.heap[bm]?=some (.map es clock):=by rw[hal2.1];exact hb1
   have hen:=run_entry_map (P:=Tryz.prog) w2 bm clock seen es clock e hb2 (mem_left he).1 hst.2.1;rw[hsz2,hval]at hen
   go_wp2_with (go_at_call 140;refine(WB a n cap hn _).mono ?_;rintro e' w' ⟨rfl,rfl⟩)
   go_roundw
   case rel =>
    refine⟨w2,seen.push e.born,⟨hal2.1.trans hal.1,hal2.2.1.trans hal.2.1,hal2.2.2.1.trans hal.2.2.1,hal2.2.2.2.trans hal.2.2.2⟩,rfl,?_⟩;have hp:=seenSum_push seen (JL e) (mem_left he).2 (es.toList.map JL) hnd (List.mem_map.2 ⟨e,(mem_left he).1,rfl⟩);have hb9:(JL e).born=e.born:=rfl;rw[hb9]at hp;rw[hp];have hve:valOf (JL e).val=7+(n:Int):=by simp[JL,valOf,hval,szV]
    have hbd:=qL (es.toList.map JL) seen 17179869191 (by
     intro x hx;obtain⟨y,hy,rfl⟩:=List.mem_map.1 hx;obtain⟨a',n',cap',hv',hn'⟩:=hv y hy;simp only[JL,valOf,hv',szV];omega)
    rw[List.length_map,Array.length_toList]at hbd;rw[hve];have hfin:∀ x y:Int,x=y→Value.int .i64 x=Value.int .i64 y:=fun x y hxy=>by rw[hxy]
    apply hfin;simp only[RowKit.wrap64];have:(es.size:Int)≤1048576:=by omega
    have h3:(es.size:Int)*17179869191≤1048576*17179869191:=Int.mul_le_mul_of_nonneg_right this (by omega);omega
   case measure =>
    rw[←hsz2,World.iterSeen_alloc,hsz2,←hsz,World.iterSeen_alloc];exact left_shrinks es seen e he
theorem Aj:∀ {es:List (PV × PV)} {ls:List Nat},oY es=some ls→ls.length=es.length∧∀ (i:Nat) (x:PV × PV),es[i]?=some x→∃ n,ls[i]?=some n∧∀ (N0:Nat) (g:G) (w:World) (V:Value),RV N0 g w x.2 V→∃ a cap,V=.slice a n cap
 | [],ls,h=>by simp only[oY,Option.some.injEq]at h;subst h;exact⟨rfl,fun i x hx=>by simp at hx⟩
 |(k,v)::r,ls,h=>by
  have key:∀ n,(oY r).map (n::·)=some ls→(∀ (N0:Nat) (g:G) (w:World) (V:Value),RV N0 g w v V→∃ a cap,V=.slice a n cap)→ls.length=((k,v)::r).length∧∀ (i:Nat) (x:PV × PV),((k,v)::r)[i]?=some x→∃ n,ls[i]?=some n∧∀ (N0:Nat) (g:G) (w:World) (V:Value),RV N0 g w x.2 V→∃ a cap,V=.slice a n cap:=by
   intro n hn hv;rw[Option.map_eq_some_iff]at hn;obtain⟨l,hl,rfl⟩:=hn;obtain⟨h1,h2⟩:=Aj hl;refine⟨by simp[h1],fun i x hx=>?_⟩;cases i with
   | zero=>simp at hx;subst hx;exact⟨n,rfl,hv⟩
   | succ i=>simpa using h2 i x (by simpa using hx)
  cases v<;>simp only[oY]at h<;>(try cases h)
  ·exact key _ h fun N0 g w V hV=>by cases hV;exact⟨_,_,rfl⟩
  ·exact key _ h fun N0 g w V hV=>by cases hV;exact⟨_,_,rfl⟩
  ·exact key _ h fun N0 g w V hV=>by cases hV;exact⟨_,_,rfl⟩
theorem WC:nK Tryz.prog qK 121 PN:=by
 intro vs h r hr N0 w0 g us w hI k hlen hrel;refine⟨(Am.enters_of Tryz.func121 (by kernel_rfl) rfl) us w,?_⟩;unfold PN at hr;split at hr
 ·rename_i b
  simp only[Option.aa]at hr;obtain⟨es,hes,hr⟩:=hr;split at hr
  ·rename_i hle
   simp only[Option.aa]at hr;obtain⟨ls,hls,hr⟩:=hr;split at hr
   ·rename_i hall
    simp only[Option.some.injEq]at hr;subst hr;obtain⟨u,rfl⟩ : ∃ u,us=#[u]:=by
     have:us.size=1:=by simpa using hlen
     exact sg this
    have h1:=hrel 0 _ rfl;simp only[Array.getD_eq_getD_getElem?,List.getElem?_toArray,List.getElem?_cons_zero,Option.getD_some]at h1;rcases iK (a:=⟨#[],[]⟩) k h1 (es:=es) (by simpa[entriesOf] using hes) with⟨hq,_⟩ | ⟨b',ea,cl,hbb,rfl,hg,hw,hrel2,hst⟩
    ·cases hq
    cases hbb;obtain⟨hl1,hl2⟩:=Aj hls;have hel:ea.size=es.length:=by have:=hrel2.1;simpa using this
    have hval:∀ (i:Nat) (y:MapEntry),ea[i]?=some y→∃ a n cap,y.val=.slice a n cap∧ls[i]?=some n∧n≤17179869184:=by
     intro i y hy;have hi:i<es.length:=by rw[←hel];exact(Array.getElem?_eq_some_iff.1 hy).1
     obtain⟨y',hy',_,_,_,q4⟩:=hrel2.2 i es[i] (List.getElem?_eq_getElem hi);rw[Array.getElem?_toList,hy]at hy';cases hy';obtain⟨n,n1,n2⟩:=hl2 i es[i] (List.getElem?_eq_getElem hi);obtain⟨a,cap,hV⟩:=n2 _ _ _ _ q4;have:=List.all_eq_true.1 hall n (List.mem_of_getElem? n1);exact⟨a,n,cap,hV,n1,by simpa using this⟩
    refine(NB (g.ι b) ea cl w hw hst (fun y hy=>?_) (by omega)).mono fun en w' hen=>?_
    ·obtain⟨i,hi⟩:=List.getElem?_of_mem hy
     rw[Array.getElem?_toList]at hi;obtain⟨a,n,cap,q1,_,q2⟩:=hval i y hi;exact⟨a,n,cap,q1,q2⟩
    ·obtain⟨rfl,w1,seen,hal,rfl⟩:=hen
     have hsz:w1.heap.size=w.heap.size:=by rw[hal.1]
     have hbl:Below w.heap.size w (w1.alloc (.mapIter (some (g.ι b)) cl seen cl)):=by
      have h2:Below w.heap.size w w1:=⟨hal.2.1,hal.2.2.2,hal.2.2.1,by omega,fun c hc=>by rw[hal.1]⟩;exact h2.alloc (by omega) _
     obtain⟨hx,hok⟩:=sy k hbl;refine⟨_,g,rfl,hx,hok,?_⟩;have hsum:(ea.toList.map JL).map (fun e=>valOf e.val)=ls.map fun n=>((7+n:Nat):Int):=by
      apply List.ext_getElem?;intro i;simp only[List.getElem?_map,Array.getElem?_toList];cases hy:ea[i]? with
      | none =>
       have:ea.size≤i:=by simpa using hy
       rw[List.getElem?_eq_none (by omega)];rfl
      | some y =>
       obtain⟨a,n,cap,q1,q2,_⟩:=hval i y hy;simp[JL,valOf,q1,szV,q2]
     have hcast:∀ l:List Nat,((l.map fun n=>((7+n:Nat):Int)).sum)=(((l.map fun n=>7+n).sum:Nat):Int):=by
      intro l
      induction l with
      | nil=>rfl
      | cons x l ih=>simp only[List.map_cons,List.sum_cons,ih];omega
     rw[hsum,hcast,show((8:Int)+(((ls.map fun n=>7+n).sum:Nat):Int))=((8+(ls.map fun n=>7+n).sum:Nat):Int) by simp];exact .int _ _
   ·cases hr
  ·cases hr
 ·cases hr
end Go.Proofs.YtmmjmkjoflfpmaaGreatDoor
namespace Go.Proofs.YtmmjmkjoflfpmaaGreatDoor
open Go Go.Proofs Go.Am
open Go.RowKit (Below)
def Tp (w w':World) (c n:Nat):Prop:=w.heap.size≤c∧(∃ arr T lo hi,w'.heap[c]?=some (.cells arr T (lo,hi))∧(lo≠hi→arr.size≤lo)∧n≤arr.size∧∀ k,k<n→arr.getD k Go.undef=.int .u8 255)∧Below w.heap.size w w'
theorem ZO {n:Nat} (h1:1≤n) (hn:n≤1000000) (w:World) {b:Nat} (hb:w.heap[b]?=some (.cells #[.int .u8 255] 5)) :
  Calls Tryz.prog 80 #[.slice (some ⟨b,0,none⟩) 1 1,.int .i64 (n:Int)] w fun e w'=>∃ c,e=.returned (.slice (some ⟨c,0,none⟩) n n)∧Tp w w' c n :=
 (Go.Am.QdR.Qs h1 hn w hb).mono fun e w' ⟨c,arr,T,lo,hi,h1,h2,h3,h4,h5,h6,h7⟩=>⟨c,h1,h2,⟨arr,T,lo,hi,h3,h4,h5,h6⟩,h7⟩
theorem Tq (k:Nat) (h1:1≤k) (hk:k≤64) (w:World):(Instr.makeSlice 59 (.int .i64 (k:Int)) (.int .i64 (k:Int))).run Tryz.prog w=.ok (.slice (some ⟨w.heap.size,0,none⟩) k k) (w.alloc (.cells ((Array.range k).map fun _=>.int .i64 0) 3)):=by
 have ht:Tryz.prog.underlying 59=some (.slice 3):=by kernel_rfl
 obtain⟨i,hi,hz,hs,hb⟩ : ∃ i,Tryz.prog.info? 3=some i∧i.zero=some (.int .i64 0)∧i.size=1∧i.bytes=8:=by
  have h:(Tryz.prog.info? 3).map (fun i=>(i.zero,i.size,i.bytes))=some (some (.int .i64 0),1,8):=by kernel_rfl
  rw[Option.map_eq_some_iff]at h;obtain⟨i,h1,h2⟩:=h;simp only[Prod.mk.injEq]at h2;exact⟨i,h1,h2.1,h2.2.1,h2.2.2⟩
 have w2:IntKind.i64.wrap (k:Int)=k:=by rw[IntKind.wrap_i64];omega
 have hbig':¬ (281474976710656<(8:Int)*(k:Int)):=by omega
 have c0:¬ (k:Int)<0:=by omega
 have k0:¬ k=0:=by omega
 simp[Instr.makeSlice,run_underlying ht,typeInfo,hi,asInt,asIntOf,w2,hb,hbig',c0,Go.sizeOf,k0,newRow,zeroValue,hz,hs,Value.cells,Nat.mod_one]
theorem at1 (w:World) (o:Obj):(w.alloc o).drew.heap[w.heap.size]?=some o:=heap_alloc_new w o
theorem at2 (w:World) (o p:Obj):((w.alloc o).alloc p).drew.heap[w.heap.size]?=some o:=by
 show((w.heap.push o).push p)[w.heap.size]?=some o;rw[Array.getElem?_push_lt (by simp)];simp
theorem at3 (w:World) (o p:Obj):((w.alloc o).alloc p).drew.heap[w.heap.size+1]?=some p:=by
 show((w.heap.push o).push p)[w.heap.size+1]?=some p;have:w.heap.size+1=(w.heap.push o).size:=by simp
 rw[this,Array.getElem?_push_size]
theorem WD {n:Nat} (h1:1≤n) (hn:n≤1000000) (w:World) {b:Nat} {m:Int} (hm:m=(n:Int)) (hb:w.heap[b]?=some (.cells #[.int .u8 255] 5)) :
  Calls Tryz.prog 80 #[.slice (some ⟨b,0,none⟩) 1 1,.int .i64 m] w fun e w'=>∃ c,e=.returned (.slice (some ⟨c,0,none⟩) n n)∧Tp w w' c n:=by
 rw[hm];exact ZO h1 hn w hb
def Qu (k:Nat):Obj:=.cells ((Array.range k).map fun _=>.int .i64 0) 3
def Tr (c1 n s c2 k:Nat):Obj:=.cells #[.slice (some ⟨c1,0,none⟩) n n,.int .i64 s,.slice (some ⟨c2,0,none⟩) k k,.int .i64 0,.int .i64 (-1),.bool false] 117
def WE (w w':World) (k s n c3:Nat):Prop:=∃ c1 c2,w.heap.size≤c1∧w.heap.size≤c2∧w.heap.size≤c3∧c1≠c2∧c1≠c3∧c2≠c3 ∧
 (∃ arr T lo hi,w'.heap[c1]?=some (.cells arr T (lo,hi))∧(lo≠hi→arr.size≤lo)∧n≤arr.size∧∀ k,k<n→arr.getD k Go.undef=.int .u8 255) ∧
 w'.heap[c2]?=some (Qu k)∧w'.heap[c3]?=some (Tr c1 n s c2 k)∧Below w.heap.size w w'
theorem new1 {w w1:World} {k s n c1:Nat} {A:Obj} (h:Tp (w.alloc A).drew w1 c1 n):WE w ((w1.alloc (Qu k)).alloc (Tr c1 n s w1.heap.size k)) k s n (w1.heap.size+1):=by
 obtain⟨h1,⟨arr,T,lo,hi,h2,h3⟩,h4⟩:=h;have hlt:c1<w1.heap.size:=(Array.getElem?_eq_some_iff.1 h2).1;have hsz:(w.alloc A).drew.heap.size=w.heap.size+1:=by show(w.heap.push A).size=_;simp
 have hs:=h4.size;rw[hsz]at h1 hs h4;have hb:Below w.heap.size w w1:=(((Below.refl w.heap.size w).alloc (Nat.le_refl _) A).drew).trans (h4.mono (by omega));refine⟨c1,w1.heap.size,by omega,by omega,by omega,by omega,by omega,by omega,⟨arr,T,lo,hi,?_,h3⟩,at2 w1 _ _,at3 w1 _ _,(hb.alloc (by omega) _).alloc (by show _≤(w1.heap.push _).size;simp;omega) _⟩;show((w1.heap.push _).push _)[c1]?=_;rw[Array.getElem?_push_lt (by simp;omega),Array.getElem_push_lt hlt];rw[←h2,Array.getElem?_eq_getElem hlt]
theorem new2 {w w1:World} {k s n c1 c2:Nat} {A B:Obj} (h:Tp ((w.alloc A).alloc B).drew w1 c1 n) (hc:c2=w.heap.size∧A=Qu k∨c2=w.heap.size+1∧B=Qu k):WE w (w1.alloc (Tr c1 n s c2 k)) k s n w1.heap.size:=by
 obtain⟨h1,⟨arr,T,lo,hi,h2,h3⟩,h4⟩:=h;have hlt:c1<w1.heap.size:=(Array.getElem?_eq_some_iff.1 h2).1;have hsz:((w.alloc A).alloc B).drew.heap.size=w.heap.size+2:=by show((w.heap.push A).push B).size=_;simp
 have hs:=h4.size;have hz:w1.heap[c2]?=some (Qu k):=by
  rcases hc with⟨rfl,rfl⟩ | ⟨rfl,rfl⟩
  ·rw[h4.block _ (by rw[hsz];omega)];exact at2 w _ _
  ·rw[h4.block _ (by rw[hsz];omega)];exact at3 w _ _
 have hc2:w.heap.size≤c2∧c2<w.heap.size+2:=by rcases hc with⟨rfl,_⟩ | ⟨rfl,_⟩<;>omega
 rw[hsz]at h1 hs h4;have hb:Below w.heap.size w w1:=((((Below.refl w.heap.size w).alloc (Nat.le_refl _) A).alloc (by show _≤(w.heap.push _).size;simp) B).drew).trans (h4.mono (by omega));have old:∀ c,c<w1.heap.size→(w1.alloc (Tr c1 n s c2 k)).heap[c]?=w1.heap[c]?:=fun c hc=>by
  show(w1.heap.push _)[c]?=_;rw[Array.getElem?_push_lt hc,Array.getElem?_eq_getElem hc]
 exact⟨c1,c2,by omega,hc2.1,by omega,by omega,by omega,by omega,⟨arr,T,lo,hi,by rw[old _ hlt];exact h2,h3⟩,by rw[old _ (by omega)];exact hz,heap_alloc_new w1 _,hb.alloc (by omega) _⟩
set_option maxHeartbeats 600000 in
theorem Qv (k s n:Nat) (hk1:1≤k) (hk2:k≤64) (hs1:16≤s) (hs2:s≤4096) (hn1:1≤n) (hn2:n≤1000000) (hn:(k:Int)*(s:Int)=(n:Int)) (a z:Int) (ha:min (max a 1) 64=(k:Int)) (hz:min (max z 16) 4096=(s:Int)) (w:World) :
  Calls Tryz.prog 48 #[.int .i64 a,.int .i64 z] w fun e w'=>∃ c3,e=.returned (.pointer (some ⟨c3,0,none⟩))∧WE w w' k s n c3:=by
 go_enter Tryz.func48,Tryz.ntmps48
 go_wp2
 have hmk:=Tq k hk1 hk2
 go_region_with (go_at_call 80;refine Calls.mono (WD hn1 hn2 _ (by rw[IntKind.wrap_i64];omega) (by first | exact at1 _ _ | exact at2 _ _ _ | exact at3 _ _ _)) ?_;rintro e w1 ⟨c1,rfl,b1⟩)
 all_goals go_wp2
 all_goals go_ret
 ·exact⟨_,rfl,new1 b1⟩
 ·exact⟨_,rfl,new2 b1 (.inr ⟨rfl,rfl⟩)⟩
 ·exact⟨_,rfl,new2 b1 (.inl ⟨rfl,rfl⟩)⟩
theorem WG (a:Int):min (max a 1) 64=((ig 1 64 a).toNat:Int)∧1≤(ig 1 64 a).toNat∧(ig 1 64 a).toNat≤64:=by
 unfold ig;split<;>split at*<;> omega
theorem WH (a:Int):min (max a 16) 4096=((ig 16 4096 a).toNat:Int)∧16≤(ig 16 4096 a).toNat∧(ig 16 4096 a).toNat≤4096:=by
 unfold ig;split<;>split at*<;> omega
theorem FZ {N0:Nat} {g g':G} {w w':World} {h:Hp} (hn:g.n=size h) (hx:Ext N0 g w g' w') (ht:g'.tk=g.tk) {c:Nat} (hι:g'.ι (size h)=c) {m:Nat} {S:List Nat} (h0:∀ b x,bY h b=some x→blk g b x<m∨blk g b x∈S) {cs:List PV} :
  ∀ b x,bY (ext h [.cells cs]) b=some x→blk g' b x<m∨blk g' b x∈c::S:=by
 intro b y hy;have hlt:=bw hy;rw[aW]at hlt
 by_cases h1:b=size h
 ·subst h1
  rw[cK rfl]at hy;cases hy;exact .inr (by show g'.ι (size h)∈_;rw[hι];exact List.mem_cons_self)
 ·rw[dP (by simp at hlt;omega)]at hy
  have hb:b<size h:=bw hy;have hblk:blk g' b y=blk g b y:=by
   have:=hx.ι b (by omega);cases y<;>simp only[blk,this,ht]
  rw[hblk];rcases h0 b y hy with h2 | h2
  ·exact .inl h2
  ·exact .inr (List.mem_cons_of_mem _ h2)
theorem ZP:mo Tryz.prog qK 48 Na:=by
 intro vs h r hr N0 w0 g us w hI k hlen hrel;unfold Na at hr;split at hr
 ·rename_i a z
  simp only[Option.some.injEq]at hr;subst hr;obtain⟨ha,ka1,ka2⟩:=WG a;obtain⟨hz,kz1,kz2⟩:=WH z;generalize (ig 1 64 a).toNat=K at *;generalize (ig 16 4096 z).toNat=S at *;have hks:1≤K*S∧K*S≤1000000:=by
   have h3:K*S≤64*4096:=Nat.mul_le_mul ka2 kz2;have h4:1*16≤K*S:=Nat.mul_le_mul ka1 kz1;omega
  have hus:us=#[.int .i64 a,.int .i64 z]:=by
   have h0:=hrel 0 _ rfl;have h1:=hrel 1 _ rfl;have hl:us.size=2:=by simpa using hlen
   obtain⟨x,y,rfl⟩ : ∃ x y,us=#[x,y]:=by
    clear h0 h1 hrel
    match us,hl with
    | ⟨[x,y]⟩,_=>exact⟨x,y,rfl⟩
   simp at h0 h1;cases h0;cases h1;rfl
  subst hus;refine .inl ⟨(Am.enters_of Tryz.func48 (by kernel_rfl) rfl) _ _,?_⟩;refine(Qv K S (K*S) ka1 ka2 kz1 kz2 hks.1 hks.2 (by simp) a z ha hz w).mono fun e w' hw=>?_
  obtain⟨c3,rfl,c1,c2,g1,g2,g3,n1,n2,n3,⟨arr,T,lo,hi,b1,b2,b3,b4⟩,z1,s1,hb⟩:=hw;obtain⟨hx,hok⟩:=sy k hb;have hN:=iE k;have hold:∀ b x,bY h b=some x→blk g b x<w.heap.size:=fun b x hbx=>(lF (a:=⟨#[],[]⟩) k hbx).2
  have hnone:∀ c,w.heap.size≤c→g.hw c=none:=fun c hc=>by
   cases hq:g.hw c with
   | none=>rfl
   | some m=>have:=(k.arr c m hq).2;omega
  have hrep:∀ (m:Nat) (v:PV) (j:Nat) (x:PV),(List.replicate m v)[j]?=some x→j<m∧x=v:=fun m v j x hx=>by
   rw[List.getElem?_replicate]at hx;split at hx
   ·rename_i hj;exact⟨hj,(Option.some.inj hx).symm⟩
   ·cases hx
  have nb:∀ (m:Nat) (k:IntKind) (c:Int) (T':Nat) (Q:Prop),(List.replicate m (PV.int k c))[0]?=some (.eG T')→Q:=fun m k c T' Q hT=>by have:=(hrep _ _ _ _ hT).2;cases this
  have ints:∀ (g':G) (w':World) (m:Nat) (k:IntKind) (c:Int) (arr:Array Value),(∀ j,j<m→arr.getD j Go.undef=.int k c)→∀ (j:Nat) (x:PV),(List.replicate m (PV.int k c))[j]?=some x→RV N0 g' w' x (arr.getD j Go.undef):=fun g' w' m k c arr ha j x hx=>by
   obtain⟨hj,rfl⟩:=hrep _ _ _ _ hx;rw[ha j hj];exact .int _ _
  have B0:∀ b x,bY h b=some x→blk g b x<w.heap.size∨blk g b x∈([] : List Nat):=fun b x hbx=>.inl (hold b x hbx)
  have far:∀ {S:List Nat} {c:Nat} {g:G} {h:Hp},(∀ b x,bY h b=some x→blk g b x<w.heap.size∨blk g b x∈S)→w.heap.size≤c→c ∉ S→∀ b x,bY h b=some x→x≠.dead→blk g b x≠c:=fun hB hc hS b x hbx _ hq=>by
   rcases hB b x hbx with h1 | h1
   ·omega
   ·exact hS (hq▸h1)
  obtain⟨ga,xa,ka,na,ia,pa,wa,ta⟩:=pX (a:=⟨#[],[]⟩) hok (c:=c1) (cs:=List.replicate (K*S) (.int .u8 255)) (cpv:=K*S) (far B0 g1 (by simp)) (fun g' hx' hι hhw hcp =>
   ⟨by rw[hι];omega,by rw[hι,hhw];exact hnone c1 g1,arr,T,lo,hi,by rw[hι];exact b1,b2,⟨by rw[hcp];simp,by rw[hcp];exact b3⟩,fun T' hT=>nb _ _ _ _ _ hT,ints _ _ _ _ _ _ b4⟩)
  have B1:=FZ (cs:=List.replicate (K*S) (.int .u8 255)) hok.n xa ta ia B0;obtain⟨gb,xb,kb,nb,ib,pb,wb,tb⟩:=pX (a:=⟨#[],[]⟩) ka (c:=c2) (cs:=List.replicate K (.int .i64 0)) (cpv:=K) (far B1 g2 (by simp;omega)) (fun g' hx' hι hhw hcp =>
   ⟨by rw[hι];omega,by rw[hι,hhw,wa];exact hnone c2 g2,_,_,_,_,by rw[hι];exact z1,by simp,⟨by rw[hcp];simp,by rw[hcp];simp⟩,fun T' hT=>nb _ _ _ _ _ hT,ints _ _ _ _ _ _ fun j hj=>by rw[Array.getD_eq_getD_getElem?,Array.getElem?_map,Array.getElem?_range,if_pos hj];rfl⟩)
  have B2:=FZ (cs:=List.replicate K (.int .i64 0)) ka.n xb tb ib B1;have hs1:size (ext h [.cells (List.replicate (K*S) (.int .u8 255))])=size h+1:=by rw[aW];rfl
  rw[hs1]at ib pb nb;obtain⟨gc,xc,kc,nc,ic,pc,wc,tc⟩:=pX (a:=⟨#[],[]⟩) kb (c:=c3) (cs:=rq (size h+1) (size h) (K*S) S K) (cpv:=6) (far B2 g3 (by simp;omega)) (fun g' hx' hι hhw hcp=>by
   have e1:g'.ι (size h)=c1:=by rw[hx'.ι _ (by omega),xb.ι _ (by omega),ia]
   have e2:g'.ι (size h+1)=c2:=by rw[hx'.ι _ (by omega),ib]
   have e3:g'.cp (size h)=K*S:=by rw[hx'.cp _ (by omega),xb.cp _ (by omega),pa]
   have e4:g'.cp (size h+1)=K:=by rw[hx'.cp _ (by omega),pb]
   have hlt:size h+2≤g'.n:=by have:=hx'.n;omega
   have v1:RV N0 g' w' (.bX true (size h) 0 (K*S) 1) (.slice (some ⟨c1,0,none⟩) (K*S) (K*S)):=by
    rw[←e1];exact RV.bX _ _ _ _ _ _ (by omega) (Nat.le_refl _) (fun _=>rfl) (by rw[e3];omega)
   have v2:RV N0 g' w' (.bX true (size h+1) 0 K 1) (.slice (some ⟨c2,0,none⟩) K K):=by
    rw[←e2];exact RV.bX _ _ _ _ _ _ (by omega) (Nat.le_refl _) (fun _=>rfl) (by rw[e4];omega)
   refine⟨by rw[hι];omega,by rw[hι,hhw,wb,wa];exact hnone c3 g3,_,_,_,_,by rw[hι];exact s1,by simp,⟨by rw[hcp];simp[rq],by rw[hcp];simp⟩,fun T' hT=>by simp[rq]at hT,fun j x hx=>?_⟩
   match j,hx with
   | 0,hx=>cases hx;exact v1
   | 1,hx=>cases hx;exact .int _ _
   | 2,hx=>cases hx;exact v2
   | 3,hx=>cases hx;exact .int _ _
   | 4,hx=>cases hx;exact .int _ _
   | 5,hx=>cases hx;exact .bool _
   | j+6,hx=>simp[rq]at hx)
  have hs2:size (ext (ext h [.cells (List.replicate (K*S) (.int .u8 255))]) [.cells (List.replicate K (.int .i64 0))])=size h+2:=by rw[aW,hs1];rfl
  rw[hs2]at ic nc;refine⟨_,gc,rfl,((hx.trans xa).trans xb).trans xc,?_,?_⟩
  ·rw[fA,fA]at kc;exact kc
  ·have:=RV.ptr (N0:=N0) (g:=gc) (w:=w') (size h+2) 0 (by omega)
   rw[ic]at this;exact this
 ·cases hr
end Go.Proofs.YtmmjmkjoflfpmaaGreatDoor
namespace Go.Proofs
open Go.Shelf Go.RowKit
def Tryz.F1:Go.Shelf.Ren:=⟨fun | 162=>114 | 232=>131 | 227=>132 | 234=>133 | 236=>134 | 228=>145 | 271=>146 | 151=>147 | 120=>151 | 197=>152 | 152=>153 | 260=>157 | 137=>158 | 119=>159 | 224=>160 | 225=>161 | 217=>173 | 266=>180 | n=>n,fun | 9=>9 | 4=>4 | 3=>3 | 5=>5 | 117=>178 | 116=>177 | 0=>0 | 124=>181 | 21=>21 | 105=>192 | 46=>132 | 119=>214 | 139=>217 | 138=>216 | n=>n,fun | 3=>3 | 4=>4 | n=>n⟩
theorem Tryz.Ts:Go.Proofs.Lays.n162 Tryz.prog Tryz.F1:={
 mixed:=by kernel_rfl
 f119:=Tryz.func159.trans (congrArg some (by kernel_rfl))
 f120:=Tryz.func151.trans (congrArg some (by kernel_rfl))
 f137:=Tryz.func158.trans (congrArg some (by kernel_rfl))
 f151:=Tryz.func147.trans (congrArg some (by kernel_rfl))
 f152:=Tryz.func153.trans (congrArg some (by kernel_rfl))
 f162:=Tryz.func114.trans (congrArg some (by kernel_rfl))
 f197:=Tryz.func152.trans (congrArg some (by kernel_rfl))
 f217:=Tryz.func173.trans (congrArg some (by kernel_rfl))
 f224:=Tryz.func160.trans (congrArg some (by kernel_rfl))
 f225:=Tryz.func161.trans (congrArg some (by kernel_rfl))
 f227:=Tryz.func132.trans (congrArg some (by kernel_rfl))
 f228:=Tryz.func145.trans (congrArg some (by kernel_rfl))
 f232:=Tryz.func131.trans (congrArg some (by kernel_rfl))
 f234:=Tryz.func133.trans (congrArg some (by kernel_rfl))
 f236:=Tryz.func134.trans (congrArg some (by kernel_rfl))
 f260:=Tryz.func157.trans (congrArg some (by kernel_rfl))
 f266:=Tryz.func180.trans (congrArg some (by kernel_rfl))
 f271:=Tryz.func146.trans (congrArg some (by kernel_rfl))
 t0:=Tryz.underlying0
 a0:=Tryz.isAgg0
 z0:=Tryz.sizeOf0
 v0:=Tryz.zeroValue0
 t3:=Tryz.underlying3
 a3:=Tryz.isAgg3
 z3:=Tryz.sizeOf3
 v3:=Tryz.zeroValue3
 t4:=Tryz.underlying4
 a4:=Tryz.isAgg4
 z4:=Tryz.sizeOf4
 v4:=Tryz.zeroValue4
 t5:=Tryz.underlying5
 a5:=Tryz.isAgg5
 z5:=Tryz.sizeOf5
 v5:=Tryz.zeroValue5
 t9:=Tryz.underlying9
 a9:=Tryz.isAgg9
 z9:=Tryz.sizeOf9
 v9:=Tryz.zeroValue9
 t21:=Tryz.underlying21
 a21:=Tryz.isAgg21
 z21:=Tryz.sizeOf21
 v21:=Tryz.zeroValue21
 t46:=Tryz.underlying132
 a46:=Tryz.isAgg132
 z46:=Tryz.sizeOf132
 v46:=Tryz.zeroValue132
 t105:=Tryz.underlying192
 a105:=Tryz.isAgg192
 z105:=Tryz.sizeOf192
 v105:=Tryz.zeroValue192
 t116:=Tryz.underlying177
 a116:=Tryz.isAgg177
 z116:=Tryz.sizeOf177
 t117:=Tryz.underlying178
 a117:=Tryz.isAgg178
 z117:=Tryz.sizeOf178
 v117:=Tryz.zeroValue178
 t119:=Tryz.underlying214
 a119:=Tryz.isAgg214
 z119:=Tryz.sizeOf214
 t124:=Tryz.underlying181
 a124:=Tryz.isAgg181
 z124:=Tryz.sizeOf181
 v124:=Tryz.zeroValue181
 t138:=Tryz.underlying216
 a138:=Tryz.isAgg216
 z138:=Tryz.sizeOf216
 v138:=Tryz.zeroValue216
 t139:=Tryz.underlying217
 a139:=Tryz.isAgg217
 z139:=Tryz.sizeOf217
 v139:=Tryz.zeroValue217
 g3:=by kernel_rfl
 g4:=by kernel_rfl }
open Go.RowKit in
theorem Tryz.strings_TrimRight_one (s:ByteArray) (c:UInt8) (hc:c.toNat<128) (w:World) (hs:s.size≤9223372036854775807) :
  Calls Tryz.prog 114 #[.string s,.string ⟨#[c]⟩] w fun e w'=>e=.returned (.string ⟨(Lib.trimRightB s.data.toList c).toArray⟩)∧w'=w:=Any.strings_TrimRight_one Tryz.Ts s c hc w hs
end Go.Proofs
namespace Go.Proofs.YtmmjmkjoflfpmaaGreatDoor
open Go Go.Proofs Go.Am
theorem Ga:nK Tryz.prog qK 114 (fun vs h=>(iM vs).map fun r=>(r,none)) :=
 zR (Am.enters_of Tryz.func114 (by kernel_rfl) rfl) Tryz.strings_TrimRight_one
end Go.Proofs.YtmmjmkjoflfpmaaGreatDoor
namespace Go.Am.Qd
open Go.Proofs
theorem C_5:(bQ Tryz.prog gl { fix:=[(9,9)] } Tryz.f5).map (bP A5)=some F5:=by kernel_rfl
theorem C_8:(bQ Tryz.prog gl { deep:=10,boxes:=[(2,4),(2,5),(5,0),(5,1)],fix:=[(6,5)] } Tryz.f8).map (bP A8)=some F8:=by kernel_rfl
theorem C_9:(bQ Tryz.prog gl { keep:=true } Tryz.f9).map (bP A9)=some F9:=by kernel_rfl
theorem afP:(bQ Tryz.prog gl { fix:=[(2,5)] } Tryz.f10).map (bP A10)=some F10:=by kernel_rfl
theorem afQ:(bQ Tryz.prog gl { own:=true } Tryz.f11).map (bP A11)=some F11:=by kernel_rfl
theorem afR:(bQ Tryz.prog gl { keep:=true } Tryz.f12).map (bP A12)=some F12:=by kernel_rfl
theorem afS:(bQ Tryz.prog gl { keep:=true } Tryz.f13).map (bP A13)=some F13:=by kernel_rfl
theorem afT:(bQ Tryz.prog gl {} Tryz.f14).map (bP A14)=some F14:=by kernel_rfl
theorem afU:(bQ Tryz.prog gl { keep:=true } Tryz.f15).map (bP A15)=some F15:=by kernel_rfl
theorem afV:(bQ Tryz.prog gl { keep:=true } Tryz.f16).map (bP A16)=some F16:=by kernel_rfl
theorem afW:(bQ Tryz.prog gl { keep:=true } Tryz.f17).map (bP A17)=some F17:=by kernel_rfl
theorem afX:(bQ Tryz.prog gl { keep:=true } Tryz.f18).map (bP A18)=some F18:=by kernel_rfl
theorem afY:(bQ Tryz.prog gl {} Tryz.f19).map (bP A19)=some F19:=by kernel_rfl
theorem afZ:(bQ Tryz.prog gl {} Tryz.f20).map (bP A20)=some F20:=by kernel_rfl
theorem af0:(bQ Tryz.prog gl {} Tryz.f21).map (bP A21)=some F21:=by kernel_rfl
theorem af1:(bQ Tryz.prog gl {} Tryz.f24).map (bP A24)=some F24:=by kernel_rfl
theorem af2:(bQ Tryz.prog gl {} Tryz.f26).map (bP A26)=some F26:=by kernel_rfl
theorem af3:(bQ Tryz.prog gl {} Tryz.f28).map (bP A28)=some F28:=by kernel_rfl
theorem af4:(bQ Tryz.prog gl {} Tryz.f36).map (bP A36)=some F36:=by kernel_rfl
theorem af5:(bQ Tryz.prog gl {} Tryz.f39).map (bP A39)=some F39:=by kernel_rfl
theorem af6:(bQ Tryz.prog gl {} Tryz.f41).map (bP A41)=some F41:=by kernel_rfl
theorem af7:(bQ Tryz.prog gl {} Tryz.f43).map (bP A43)=some F43:=by kernel_rfl
theorem af8:(bQ Tryz.prog gl {} Tryz.f44).map (bP A44)=some F44:=by kernel_rfl
theorem af9:(bQ Tryz.prog gl {} Tryz.f45).map (bP A45)=some YW:=by kernel_rfl
theorem aga:(bQ Tryz.prog gl {} Tryz.f46).map (bP A46)=some F46:=by kernel_rfl
theorem agb:(bQ Tryz.prog gl {} Tryz.f47).map (bP A47)=some YX:=by kernel_rfl
theorem agc:(bQ Tryz.prog gl { keep:=true } Tryz.f49).map (bP A49)=some F49:=by kernel_rfl
theorem agd:(bQ Tryz.prog gl { aaA:=[(8,6),(9,2),(13,6)],boxes:=[(3,0),(3,1)],low:=[(3,1)] } Tryz.f50).map (bP A50)=some VL:=by kernel_rfl
theorem age:(bQ Tryz.prog gl {} Tryz.f51).map (bP A51)=some DF:=by kernel_rfl
theorem agf:(bQ Tryz.prog gl { aaA:=[(8,9)],own:=true } Tryz.f52).map (bP A52)=some VM:=by kernel_rfl
theorem agh:(bQ Tryz.prog gl {} Tryz.f53).map (bP A53)=some F53:=by kernel_rfl
theorem agi:(bQ Tryz.prog gl {} Tryz.f54).map (bP A54)=some F54:=by kernel_rfl
theorem agj:(bQ Tryz.prog gl {} Tryz.f55).map (bP A55)=some YY:=by kernel_rfl
theorem agk:(bQ Tryz.prog gl { keep:=true } Tryz.f56).map (bP A56)=some F56:=by kernel_rfl
theorem agl:(bQ Tryz.prog gl {} Tryz.f57).map (bP A57)=some F57:=by kernel_rfl
theorem agm:(bQ Tryz.prog gl { keep:=true } Tryz.f58).map (bP A58)=some F58:=by kernel_rfl
theorem agn:(bQ Tryz.prog gl {} Tryz.f59).map (bP A59)=some F59:=by kernel_rfl
theorem ago:(bQ Tryz.prog gl { boxes:=[(3,1),(3,2)] } Tryz.f60).map (bP A60)=some F60:=by kernel_rfl
theorem asw:(bQ Tryz.prog gl {} Tryz.f61).map (bP A61)=some F61:=by kernel_rfl
theorem agp:(bQ Tryz.prog gl { keep:=true } Tryz.f62).map (bP A62)=some F62:=by kernel_rfl
theorem agq:(bQ Tryz.prog gl { keep:=true } Tryz.f63).map (bP A63)=some F63:=by kernel_rfl
theorem agr:(bQ Tryz.prog gl { keep:=true } Tryz.f64).map (bP A64)=some F64:=by kernel_rfl
theorem ags:(bQ Tryz.prog gl { keep:=true } Tryz.f65).map (bP A65)=some F65:=by kernel_rfl
theorem agt:(bQ Tryz.prog gl {} Tryz.f66).map (bP A66)=some F66:=by kernel_rfl
theorem agu:(bQ Tryz.prog gl {} Tryz.f67).map (bP A67)=some F67:=by kernel_rfl
theorem asz:(bQ Tryz.prog gl {} Tryz.f69).map (bP A69)=some F69:=by kernel_rfl
theorem agv:(bQ Tryz.prog gl {} Tryz.f70).map (bP A70)=some F70:=by kernel_rfl
theorem agw:(bQ Tryz.prog gl {} Tryz.f71).map (bP A71)=some F71:=by kernel_rfl
theorem asA:(bQ Tryz.prog gl {} Tryz.f72).map (bP A72)=some F72:=by kernel_rfl
theorem agx:(bQ Tryz.prog gl { boxes:=[(3,2)],own:=true } Tryz.f73).map (bP A73)=some F73:=by kernel_rfl
theorem agy:(bQ Tryz.prog gl { aaA:=[(5,6)],own:=true } Tryz.f76).map (bP A76)=some Y0:=by kernel_rfl
theorem agz:(bQ Tryz.prog gl {} Tryz.f79).map (bP A79)=some F79:=by kernel_rfl
theorem agA:(bQ Tryz.prog gl {} Tryz.f81).map (bP A81)=some F81:=by kernel_rfl
theorem agB:(bQ Tryz.prog gl {} Tryz.f82).map (bP A82)=some F82:=by kernel_rfl
theorem agC:(bQ Tryz.prog gl {} Tryz.f83).map (bP A83)=some F83:=by kernel_rfl
theorem agD:(bQ Tryz.prog gl { aaA:=[(5,5)],own:=true } Tryz.f84).map (bP A84)=some Y2:=by kernel_rfl
theorem agE:(bQ Tryz.prog gl {} Tryz.f85).map (bP A85)=some F85:=by kernel_rfl
theorem agF:(bQ Tryz.prog gl {} Tryz.f86).map (bP A86)=some F86:=by kernel_rfl
theorem agG:(bQ Tryz.prog gl {} Tryz.f87).map (bP A87)=some F87:=by kernel_rfl
theorem agH:(bQ Tryz.prog gl {} Tryz.f88).map (bP A88)=some Y3:=by kernel_rfl
theorem agI:(bQ Tryz.prog gl {} Tryz.f89).map (bP A89)=some F89:=by kernel_rfl
theorem agJ:(bQ Tryz.prog gl {} Tryz.f90).map (bP A90)=some Y4:=by kernel_rfl
theorem agK:(bQ Tryz.prog gl {} Tryz.f91).map (bP A91)=some F91:=by kernel_rfl
theorem agL:(bQ Tryz.prog gl {} Tryz.f92).map (bP A92)=some F92:=by kernel_rfl
theorem agM:(bQ Tryz.prog gl {} Tryz.f93).map (bP A93)=some Y5:=by kernel_rfl
theorem agN:(bQ Tryz.prog gl {} Tryz.f94).map (bP A94)=some F94:=by kernel_rfl
theorem asB:(bQ Tryz.prog gl { keep:=true } Tryz.f95).map (bP A95)=some F95:=by kernel_rfl
theorem asC:(bQ Tryz.prog gl {} Tryz.f96).map (bP A96)=some F96:=by kernel_rfl
theorem agO:(bQ Tryz.prog gl { keep:=true,quiet:=[(8,3),(9,3)] } Tryz.f97).map (bP A97)=some F97:=by kernel_rfl
theorem agP:(bQ Tryz.prog gl {} Tryz.f98).map (bP A98)=some F98:=by kernel_rfl
theorem agQ:(bQ Tryz.prog gl { keep:=true } Tryz.f99).map (bP A99)=some F99:=by kernel_rfl
theorem ZQ:(bQ Tryz.prog gl { keep:=true } Tryz.f100).map (bP VN)=some Y6:=by kernel_rfl
theorem ZR:(bQ Tryz.prog gl { own:=true } Tryz.f101).map (bP VO)=some VP:=by kernel_rfl
theorem ZS:(bQ Tryz.prog gl {} Tryz.f104).map (bP VQ)=some Y7:=by kernel_rfl
theorem ZT:(bQ Tryz.prog gl {} Tryz.f105).map (bP VR)=some Y8:=by kernel_rfl
theorem ZU:(bQ Tryz.prog gl {} Tryz.f106).map (bP VS)=some Y9:=by kernel_rfl
theorem ZV:(bQ Tryz.prog gl {} Tryz.f107).map (bP VT)=some VU:=by kernel_rfl
theorem ZW:(bQ Tryz.prog gl {} Tryz.f108).map (bP VV)=some Za:=by kernel_rfl
theorem ZX:(bQ Tryz.prog gl {} Tryz.f111).map (bP VW)=some JC:=by kernel_rfl
theorem ZY:(bQ Tryz.prog gl {} Tryz.f112).map (bP VX)=some JD:=by kernel_rfl
theorem ZZ:(bQ Tryz.prog gl {} Tryz.f113).map (bP VY)=some VZ:=by kernel_rfl
theorem Z0:(bQ Tryz.prog gl {} Tryz.f115).map (bP V0)=some P5:=by kernel_rfl
theorem Z1:(bQ Tryz.prog gl {} Tryz.f116).map (bP V1)=some Zb:=by kernel_rfl
theorem Z2:(bQ Tryz.prog gl { keep:=true } Tryz.f118).map (bP V2)=some Zc:=by kernel_rfl
theorem Z3:(bQ Tryz.prog gl {} Tryz.f119).map (bP V3)=some Zd:=by kernel_rfl
theorem Z4:(bQ Tryz.prog gl {} Tryz.f120).map (bP V4)=some Ze:=by kernel_rfl
theorem Z5:(bQ Tryz.prog gl {} Tryz.f122).map (bP V5)=some Zf:=by kernel_rfl
theorem Z6:(bQ Tryz.prog gl { aaA:=[(5,7)] } Tryz.f123).map (bP V6)=some Zg:=by kernel_rfl
theorem Z7:(bQ Tryz.prog gl {} Tryz.f124).map (bP V7)=some Zh:=by kernel_rfl
theorem Z8:(bQ Tryz.prog gl {} Tryz.f125).map (bP V8)=some Zi:=by kernel_rfl
theorem Z9:(bQ Tryz.prog gl {} Tryz.f128).map (bP V9)=some P6:=by kernel_rfl
theorem aaa:(bQ Tryz.prog gl {} Tryz.f129).map (bP Wa)=some Wb:=by kernel_rfl
theorem aab:(bQ Tryz.prog gl {} Tryz.f130).map (bP Wc)=some P7:=by kernel_rfl
theorem aac:(bQ Tryz.prog gl {} Tryz.f135).map (bP Wd)=some We:=by kernel_rfl
theorem aad:(bQ Tryz.prog gl {} Tryz.f137).map (bP Wf)=some Zj:=by kernel_rfl
theorem aae:(bQ Tryz.prog gl {} Tryz.f138).map (bP Wg)=some Zk:=by kernel_rfl
theorem aaf:(bQ Tryz.prog gl {} Tryz.f139).map (bP Wh)=some Zl:=by kernel_rfl
theorem aag:(bQ Tryz.prog gl {} Tryz.f140).map (bP Wi)=some Zm:=by kernel_rfl
theorem aah:(bQ Tryz.prog gl { keep:=true } Tryz.f142).map (bP Wj)=some Zn:=by kernel_rfl
theorem aai:(bQ Tryz.prog gl {} Tryz.f143).map (bP Wk)=some Wl:=by kernel_rfl
theorem aaj:(bQ Tryz.prog gl {} Tryz.f144).map (bP Wm)=some P8:=by kernel_rfl
theorem yc:mX Tryz.prog gl Go.Proofs.YtmmjmkjoflfpmaaGreatDoor.qK T:=by
 intro f it h;unfold T at h;split at h
 ·cases h;exact⟨A5,{ fix:=[(9,9)] },Tryz.f5,Tryz.func5,C_5⟩
 ·cases h;exact⟨A8,{ deep:=10,boxes:=[(2,4),(2,5),(5,0),(5,1)],fix:=[(6,5)] },Tryz.f8,Tryz.func8,C_8⟩
 ·cases h;exact⟨A9,{ keep:=true },Tryz.f9,Tryz.func9,C_9⟩
 ·cases h;exact⟨A10,{ fix:=[(2,5)] },Tryz.f10,Tryz.func10,afP⟩
 ·cases h;exact⟨A11,{ own:=true },Tryz.f11,Tryz.func11,afQ⟩
 ·cases h;exact⟨A12,{ keep:=true },Tryz.f12,Tryz.func12,afR⟩
 ·cases h;exact⟨A13,{ keep:=true },Tryz.f13,Tryz.func13,afS⟩
 ·cases h;exact⟨A14,{},Tryz.f14,Tryz.func14,afT⟩
 ·cases h;exact⟨A15,{ keep:=true },Tryz.f15,Tryz.func15,afU⟩
 ·cases h;exact⟨A16,{ keep:=true },Tryz.f16,Tryz.func16,afV⟩
 ·cases h;exact⟨A17,{ keep:=true },Tryz.f17,Tryz.func17,afW⟩
 ·cases h;exact⟨A18,{ keep:=true },Tryz.f18,Tryz.func18,afX⟩
 ·cases h;exact⟨A19,{},Tryz.f19,Tryz.func19,afY⟩
 ·cases h;exact⟨A20,{},Tryz.f20,Tryz.func20,afZ⟩
 ·cases h;exact⟨A21,{},Tryz.f21,Tryz.func21,af0⟩
 ·cases h;exact⟨A24,{},Tryz.f24,Tryz.func24,af1⟩
 ·cases h;exact⟨A26,{},Tryz.f26,Tryz.func26,af2⟩
 ·cases h;exact⟨A28,{},Tryz.f28,Tryz.func28,af3⟩
 ·cases h;exact⟨A36,{},Tryz.f36,Tryz.func36,af4⟩
 ·cases h;exact⟨A39,{},Tryz.f39,Tryz.func39,af5⟩
 ·cases h;exact⟨A41,{},Tryz.f41,Tryz.func41,af6⟩
 ·cases h;exact⟨A43,{},Tryz.f43,Tryz.func43,af7⟩
 ·cases h;exact⟨A44,{},Tryz.f44,Tryz.func44,af8⟩
 ·cases h;exact⟨A45,{},Tryz.f45,Tryz.func45,af9⟩
 ·cases h;exact⟨A46,{},Tryz.f46,Tryz.func46,aga⟩
 ·cases h;exact⟨A47,{},Tryz.f47,Tryz.func47,agb⟩
 ·cases h;exact Go.Proofs.YtmmjmkjoflfpmaaGreatDoor.ZP
 ·cases h;exact⟨A49,{ keep:=true },Tryz.f49,Tryz.func49,agc⟩
 ·cases h;exact⟨A50,{ aaA:=[(8,6),(9,2),(13,6)],boxes:=[(3,0),(3,1)],low:=[(3,1)] },Tryz.f50,Tryz.func50,agd⟩
 ·cases h;exact⟨A51,{},Tryz.f51,Tryz.func51,age⟩
 ·cases h;exact⟨A52,{ aaA:=[(8,9)],own:=true },Tryz.f52,Tryz.func52,agf⟩
 ·cases h;exact⟨A53,{},Tryz.f53,Tryz.func53,agh⟩
 ·cases h;exact⟨A54,{},Tryz.f54,Tryz.func54,agi⟩
 ·cases h;exact⟨A55,{},Tryz.f55,Tryz.func55,agj⟩
 ·cases h;exact⟨A56,{ keep:=true },Tryz.f56,Tryz.func56,agk⟩
 ·cases h;exact⟨A57,{},Tryz.f57,Tryz.func57,agl⟩
 ·cases h;exact⟨A58,{ keep:=true },Tryz.f58,Tryz.func58,agm⟩
 ·cases h;exact⟨A59,{},Tryz.f59,Tryz.func59,agn⟩
 ·cases h;exact⟨A60,{ boxes:=[(3,1),(3,2)] },Tryz.f60,Tryz.func60,ago⟩
 ·cases h;exact⟨A61,{},Tryz.f61,Tryz.func61,asw⟩
 ·cases h;exact⟨A62,{ keep:=true },Tryz.f62,Tryz.func62,agp⟩
 ·cases h;exact⟨A63,{ keep:=true },Tryz.f63,Tryz.func63,agq⟩
 ·cases h;exact⟨A64,{ keep:=true },Tryz.f64,Tryz.func64,agr⟩
 ·cases h;exact⟨A65,{ keep:=true },Tryz.f65,Tryz.func65,ags⟩
 ·cases h;exact⟨A66,{},Tryz.f66,Tryz.func66,agt⟩
 ·cases h;exact⟨A67,{},Tryz.f67,Tryz.func67,agu⟩
 ·cases h;exact⟨A69,{},Tryz.f69,Tryz.func69,asz⟩
 ·cases h;exact⟨A70,{},Tryz.f70,Tryz.func70,agv⟩
 ·cases h;exact⟨A71,{},Tryz.f71,Tryz.func71,agw⟩
 ·cases h;exact⟨A72,{},Tryz.f72,Tryz.func72,asA⟩
 ·cases h;exact⟨A73,{ boxes:=[(3,2)],own:=true },Tryz.f73,Tryz.func73,agx⟩
 ·cases h;exact⟨A76,{ aaA:=[(5,6)],own:=true },Tryz.f76,Tryz.func76,agy⟩
 ·cases h;exact⟨A79,{},Tryz.f79,Tryz.func79,agz⟩
 ·cases h;exact⟨A81,{},Tryz.f81,Tryz.func81,agA⟩
 ·cases h;exact⟨A82,{},Tryz.f82,Tryz.func82,agB⟩
 ·cases h;exact⟨A83,{},Tryz.f83,Tryz.func83,agC⟩
 ·cases h;exact⟨A84,{ aaA:=[(5,5)],own:=true },Tryz.f84,Tryz.func84,agD⟩
 ·cases h;exact⟨A85,{},Tryz.f85,Tryz.func85,agE⟩
 ·cases h;exact⟨A86,{},Tryz.f86,Tryz.func86,agF⟩
 ·cases h;exact⟨A87,{},Tryz.f87,Tryz.func87,agG⟩
 ·cases h;exact⟨A88,{},Tryz.f88,Tryz.func88,agH⟩
 ·cases h;exact⟨A89,{},Tryz.f89,Tryz.func89,agI⟩
 ·cases h;exact⟨A90,{},Tryz.f90,Tryz.func90,agJ⟩
 ·cases h;exact⟨A91,{},Tryz.f91,Tryz.func91,agK⟩
 ·cases h;exact⟨A92,{},Tryz.f92,Tryz.func92,agL⟩
 ·cases h;exact⟨A93,{},Tryz.f93,Tryz.func93,agM⟩
 ·cases h;exact⟨A94,{},Tryz.f94,Tryz.func94,agN⟩
 ·cases h;exact⟨A95,{ keep:=true },Tryz.f95,Tryz.func95,asB⟩
 ·cases h;exact⟨A96,{},Tryz.f96,Tryz.func96,asC⟩
 ·cases h;exact⟨A97,{ keep:=true,quiet:=[(8,3),(9,3)] },Tryz.f97,Tryz.func97,agO⟩
 ·cases h;exact⟨A98,{},Tryz.f98,Tryz.func98,agP⟩
 ·cases h;exact⟨A99,{ keep:=true },Tryz.f99,Tryz.func99,agQ⟩
 ·cases h;exact⟨VN,{ keep:=true },Tryz.f100,Tryz.func100,ZQ⟩
 ·cases h;exact⟨VO,{ own:=true },Tryz.f101,Tryz.func101,ZR⟩
 ·cases h;exact⟨VQ,{},Tryz.f104,Tryz.func104,ZS⟩
 ·cases h;exact⟨VR,{},Tryz.f105,Tryz.func105,ZT⟩
 ·cases h;exact⟨VS,{},Tryz.f106,Tryz.func106,ZU⟩
 ·cases h;exact⟨VT,{},Tryz.f107,Tryz.func107,ZV⟩
 ·cases h;exact⟨VV,{},Tryz.f108,Tryz.func108,ZW⟩
 ·cases h;exact⟨VW,{},Tryz.f111,Tryz.func111,ZX⟩
 ·cases h;exact⟨VX,{},Tryz.f112,Tryz.func112,ZY⟩
 ·cases h;exact⟨VY,{},Tryz.f113,Tryz.func113,ZZ⟩
 ·cases h;exact Go.Proofs.YtmmjmkjoflfpmaaGreatDoor.Ga
 ·cases h;exact⟨V0,{},Tryz.f115,Tryz.func115,Z0⟩
 ·cases h;exact⟨V1,{},Tryz.f116,Tryz.func116,Z1⟩
 ·cases h;exact Go.Proofs.YtmmjmkjoflfpmaaGreatDoor.Tn
 ·cases h;exact⟨V2,{ keep:=true },Tryz.f118,Tryz.func118,Z2⟩
 ·cases h;exact⟨V3,{},Tryz.f119,Tryz.func119,Z3⟩
 ·cases h;exact⟨V4,{},Tryz.f120,Tryz.func120,Z4⟩
 ·cases h;exact Go.Proofs.YtmmjmkjoflfpmaaGreatDoor.WC
 ·cases h;exact⟨V5,{},Tryz.f122,Tryz.func122,Z5⟩
 ·cases h;exact⟨V6,{ aaA:=[(5,7)] },Tryz.f123,Tryz.func123,Z6⟩
 ·cases h;exact⟨V7,{},Tryz.f124,Tryz.func124,Z7⟩
 ·cases h;exact⟨V8,{},Tryz.f125,Tryz.func125,Z8⟩
 ·cases h;exact⟨V9,{},Tryz.f128,Tryz.func128,Z9⟩
 ·cases h;exact⟨Wa,{},Tryz.f129,Tryz.func129,aaa⟩
 ·cases h;exact⟨Wc,{},Tryz.f130,Tryz.func130,aab⟩
 ·cases h;exact⟨Wd,{},Tryz.f135,Tryz.func135,aac⟩
 ·cases h;exact⟨Wf,{},Tryz.f137,Tryz.func137,aad⟩
 ·cases h;exact⟨Wg,{},Tryz.f138,Tryz.func138,aae⟩
 ·cases h;exact⟨Wh,{},Tryz.f139,Tryz.func139,aaf⟩
 ·cases h;exact⟨Wi,{},Tryz.f140,Tryz.func140,aag⟩
 ·cases h;exact Go.Proofs.YtmmjmkjoflfpmaaGreatDoor.Qt
 ·cases h;exact⟨Wj,{ keep:=true },Tryz.f142,Tryz.func142,aah⟩
 ·cases h;exact⟨Wk,{},Tryz.f143,Tryz.func143,aai⟩
 ·cases h;exact⟨Wm,{},Tryz.f144,Tryz.func144,aaj⟩
 ·cases h
end Go.Am.Qd
namespace Go.Am.Qd
noncomputable def Qw (base n0:Nat) (WI v9 v7 v11 Ya v59:PV) (h:Hp):Option (PV × Hp):=Pt T F5 [1,1,1,1,1,1,1,1,0,1,0,1] base n0 [(60,WI),(9,v9),(7,v7),(11,v11),(58,Ya),(59,v59)] h
theorem Ll (base n0:Nat) (WI v9 v7 v11 Ya v59:PV) (h:Hp):Qw base n0 WI v9 v7 v11 Ya v59 h =
 (binOp .lss WI v59).ah fun x0 =>
 aD x0 (
 (cW Ya WI 1).ah fun x1 =>
 (ax 1 false x1 h).ah fun x2 =>
 (binOp .and x2 (.int .i64 1023)).ah fun x5 =>
 (cB false v11).ah fun x7 =>
 (binOp .add x7 (.int .i64 1)).ah fun x8 =>
 (binOp .rem x5 x8).ah fun x9 =>
 (aF v7).ah fun gJ =>
 (aA gJ 6).ah fun je =>
 (ax 1 false je h).ah fun lU =>
 (cO (some 1) none (some x9) none v11).ah fun pE =>
 aH (ai T base 13 [lU,pE] h) fun pK OA =>
 (binOp .neq pK (.int .i64 0)).ah fun x20 =>
 aD x20 (
 bk false false n0 [(.bool false)] OA) (
 (cO (some 1) (some x9) none none v11).ah fun sP =>
 (aF v7).ah fun Ak =>
 (aA Ak 6).ah fun Al =>
 (ax 1 false Al OA).ah fun Aa =>
 aH (ai T base 26 [Aa] OA) fun wj Qx =>
 (cB false v9).ah fun Ao =>
 (cB false sP).ah fun qj =>
 (binOp .sub Ao qj).ah fun ND =>
 (binOp .neq wj ND).ah fun rA =>
 aD rA (
 bk false false n0 [(.bool false)] Qx) (
 (binOp .add WI (.int .i64 1)).ah fun sM =>
 Qw base n0 sM v9 v7 sP Ya v59 Qx))) (
 (aF v7).ah fun NF =>
 (aA NF 6).ah fun HK =>
 (ax 1 false HK h).ah fun vS =>
 aH (ai T base 13 [vS,v11] h) fun NG WJ =>
 (binOp .neq NG (.int .i64 0)).ah fun Ed =>
 aD Ed (
 bk false false n0 [(.bool false)] WJ) (
 (aF v7).ah fun Bf =>
 (aA Bf 6).ah fun Sa =>
 (ax 1 false Sa WJ).ah fun JM =>
 aH (ai T base 14 [JM] WJ) fun wk h55 =>
 (aE wk 0).ah fun HL =>
 (aE wk 1).ah fun yg =>
 eo Ec h55 fun Cj h60 =>
 (aS base 35 Cj HL h60).ah fun h61 =>
 (binOp .eql yg (.int .i64 0)).ah fun OB =>
 (aq OB true).ah fun b67=>(au b67 ((aA Cj 0).ah some) (some .undef)).ah fun HM =>
 (aq OB true).ah fun b71=>(au b71 ((ax 1 false HM h61).ah some) (some .undef)).ah fun Sb =>
 (aq OB true).ah fun b75=>(au b75 ((binOp .eql Sb (.int .u32 2)).ah some) (some .undef)).ah fun Qy =>
 (aD OB (some Qy) (some (.bool false))).ah fun Cl =>
 (aq Cl true).ah fun b81=>(au b81 (some v7) (some .undef)).ah fun WK =>
 (aq Cl true).ah fun b85=>(au b85 ((aF WK).ah some) (some .undef)).ah fun WL =>
 (aq Cl true).ah fun b89=>(au b89 ((aA WL 6).ah some) (some .undef)).ah fun Qz =>
 (aq Cl true).ah fun b93=>(au b93 ((ax 1 false Qz h61).ah some) (some .undef)).ah fun Tt =>
 (aq Cl true).ah fun b97=>(au b97 (some v9) (some .undef)).ah fun WM =>
 (aq Cl true).ah fun WN=>aH (au WN (aH (ai T base 21 [Tt,(.int .i64 1),WM] h61) fun agV QA=>some (agV,QA)) (some (.undef,h61))) fun JN QA =>
 (aD Cl (some JN) (some (.bool false))).ah fun tP =>
 (aq tP true).ah fun agW=>(au agW (some v7) (some .undef)).ah fun agX =>
 (aq tP true).ah fun agY=>(au agY ((aF agX).ah some) (some .undef)).ah fun WO =>
 (aq tP true).ah fun WQ=>(au WQ ((aA WO 6).ah some) (some .undef)).ah fun WR =>
 (aq tP true).ah fun WS=>(au WS ((ax 1 false WR QA).ah some) (some .undef)).ah fun WT =>
 (aq tP true).ah fun WU=>aH (au WU (aH (ai T base 26 [WT] QA) fun agZ WV=>some (agZ,WV)) (some (.undef,QA))) fun WW WV =>
 (aq tP true).ah fun WX=>(au WX ((binOp .eql WW (.int .i64 0)).ah some) (some .undef)).ah fun WY =>
 (aD tP (some WY) (some (.bool false))).ah fun WZ =>
 bk false false n0 [WZ] WV)):=(ez T F5 [1,1,1,1,1,1,1,1,0,1,0,1] base n0 [(60,WI),(9,v9),(7,v7),(11,v11),(58,Ya),(59,v59)] h).trans (by kernel_rfl)
theorem S5 (base:Nat) (a0 a1 a2:PV) (h:Hp):ai T base 5 [a0,a1,a2] h =
 aH (ai T (size h) 8 [] h) fun x1 h2 =>
 (unOp .not x1).ah fun x3 =>
 aD x3 (
 bk false false (size h) [(.bool false)] h2) (
 (cB false a0).ah fun x6 =>
 (binOp .gtr x6 (.int .i64 150)).ah fun x7 =>
 (aq x7 false).ah fun b10=>(au b10 (some a1) (some .undef)).ah fun x9 =>
 (aq x7 false).ah fun W3=>(au W3 ((cB false x9).ah some) (some .undef)).ah fun je =>
 (aq x7 false).ah fun W4=>(au W4 ((binOp .gtr je (.int .i64 150)).ah some) (some .undef)).ah fun pE =>
 (aD x7 (some (.bool true)) (some pE)).ah fun nP =>
 (aq nP false).ah fun QB=>(au QB (some a2) (some .undef)).ah fun ru =>
 (aq nP false).ah fun QC=>(au QC ((cB false ru).ah some) (some .undef)).ah fun Ak =>
 (aq nP false).ah fun Tu=>(au Tu ((binOp .gtr Ak (.int .i64 20)).ah some) (some .undef)).ah fun rM =>
 (aD nP (some (.bool true)) (some rM)).ah fun qj =>
 aD qj (
 bk false false (size h) [(.bool true)] h2) (
 aH (ai T (size h) 9 [(.int .i64 0)] h2) fun rA QD =>
 (aE rA 0).ah fun BG =>
 (aE rA 1).ah fun Ab =>
 (unOp .not Ab).ah fun rN =>
 (aq rN false).ah fun b48=>(au b48 (some BG) (some .undef)).ah fun DN =>
 (aq rN false).ah fun b52=>(au b52 (some a0) (some .undef)).ah fun Bf =>
 (aq rN false).ah fun b56=>aH (au b56 (aH (ai T (size h) 10 [DN,Bf] QD) fun yg UH=>some (yg,UH)) (some (.undef,QD))) fun vk UH =>
 (aq rN false).ah fun b60=>(au b60 ((unOp .not vk).ah some) (some .undef)).ah fun Cj =>
 (aD rN (some (.bool true)) (some Cj)).ah fun Gb =>
 aD Gb (
 bk false false (size h) [(.bool false)] UH) (
 aH (ai T (size h) 11 [(.str [97,112,112]),(.int .u32 2),a1] UH) fun HM h67 =>
 (aE HM 0).ah fun Tv =>
 (aE HM 1).ah fun Sb =>
 aH (cV (size h) h67 .fix [Tv]) fun NH h74 =>
 (aF BG).ah fun W5 =>
 (aA W5 6).ah fun QE =>
 (ax 1 false QE h74).ah fun Cl =>
 (cB false NH).ah fun WK =>
 aH (ai T (size h) 12 [Cl,WK] h74) fun Lm W6 =>
 (binOp .neq Lm (.int .i64 0)).ah fun QF =>
 aD QF (
 bk false false (size h) [(.bool false)] W6) (
 (cB false a2).ah fun Qz =>
 Qw (size h) (size h) (.int .i64 0) NH BG NH a2 Qz W6)))):=(aZ T_5 base _ h).trans (by kernel_rfl)
theorem S8 (base:Nat) (h:Hp):ai T base 8 [] h =
 aH (ai T (size h) 9 [(.int .i64 0)] h) fun x1 h2 =>
 (aE x1 0).ah fun x4 =>
 (aE x1 1).ah fun x5 =>
 (unOp .not x5).ah fun x9 =>
 (aq x9 false).ah fun Tw=>(au Tw (some x4) (some .undef)).ah fun iS =>
 (aq x9 false).ah fun Qd=>aH (au Qd (aH (cV (size h) h2 (.fC [(.int .u8 111),(.int .u8 110),(.int .u8 101)]) []) fun pK Ap=>some (pK,Ap)) (some (.undef,h2))) fun mu Ap =>
 (aq x9 false).ah fun Tf=>aH (au Tf (aH (cV (size h) Ap .mark [mu]) fun oz Gc=>some (oz,Gc)) (some (.undef,Ap))) fun qi Gc =>
 (aq x9 false).ah fun QB=>aH (au QB (aH (ai T (size h) 10 [iS,qi] Gc) fun sL JO=>some (sL,JO)) (some (.undef,Gc))) fun ru JO =>
 (aq x9 false).ah fun QC=>(au QC ((unOp .not ru).ah some) (some .undef)).ah fun Ak =>
 (aD x9 (some (.bool true)) (some Ak)).ah fun rM =>
 aD rM (
 bk false false (size h) [(.bool false)] JO) (
 (aF x4).ah fun vR =>
 (aA vR 6).ah fun qj =>
 (ax 1 false qj JO).ah fun ND =>
 aH (ai T (size h) 17 [ND] JO) fun rA QD =>
 (aE rA 0).ah fun BG =>
 (aE rA 1).ah fun Ab =>
 aH (cV (size h) QD (.fC [(.int .u8 116),(.int .u8 119),(.int .u8 111)]) []) fun vS Yb =>
 aH (cV (size h) Yb .mark [vS]) fun NG WJ =>
 aH (ai T (size h) 11 [(.str [97,112,112]),(.int .u32 2),NG] WJ) fun Ed h49 =>
 (aE Ed 0).ah fun Bf =>
 (aE Ed 1).ah fun Sa =>
 aH (cV (size h) h49 .fix [Bf]) fun vk Sc =>
 (binOp .neq Ab (.int .i64 0)).ah fun yg =>
 (aq yg false).ah fun b61=>(au b61 (some BG) (some .undef)).ah fun OC =>
 (aq yg false).ah fun b65=>(au b65 ((binOp .neq OC (.int .i64 0)).ah some) (some .undef)).ah fun OB =>
 (aD yg (some (.bool true)) (some OB)).ah fun Gd =>
 (aq Gd false).ah fun b71=>(au b71 (some x4) (some .undef)).ah fun Sb =>
 (aq Gd false).ah fun b75=>(au b75 ((aF Sb).ah some) (some .undef)).ah fun Qy =>
 (aq Gd false).ah fun b79=>(au b79 ((aA Qy 6).ah some) (some .undef)).ah fun Cl =>
 (aq Gd false).ah fun b83=>(au b83 ((ax 1 false Cl Sc).ah some) (some .undef)).ah fun UI =>
 (aq Gd false).ah fun b87=>(au b87 (some vk) (some .undef)).ah fun W7 =>
 (aq Gd false).ah fun b91=>(au b91 ((cB false W7).ah some) (some .undef)).ah fun OD =>
 (aq Gd false).ah fun b95=>aH (au b95 (aH (ai T (size h) 12 [UI,OD] Sc) fun W8 h96=>some (W8,h96)) (some (.undef,Sc))) fun W9 h96 =>
 (aq Gd false).ah fun b99=>(au b99 ((binOp .neq W9 (.int .i64 0)).ah some) (some .undef)).ah fun x98 =>
 (aD Gd (some (.bool true)) (some x98)).ah fun Aq =>
 (aq Aq false).ah fun Xa=>(au Xa (some x4) (some .undef)).ah fun tP =>
 (aq Aq false).ah fun Xb=>(au Xb ((aF tP).ah some) (some .undef)).ah fun QG =>
 (aq Aq false).ah fun ag4=>(au ag4 ((aA QG 6).ah some) (some .undef)).ah fun Ge =>
 (aq Aq false).ah fun ag5=>(au ag5 ((ax 1 false Ge h96).ah some) (some .undef)).ah fun ag6 =>
 (aq Aq false).ah fun ag7=>(au ag7 (some vk) (some .undef)).ah fun ag8 =>
 (aq Aq false).ah fun ag9=>(au ag9 ((cO (some 1) none (some (.int .i64 10)) none ag8).ah some) (some .undef)).ah fun aha =>
 (aq Aq false).ah fun ahb=>aH (au ahb (aH (ai T (size h) 13 [ag6,aha] h96) fun ahc QH=>some (ahc,QH)) (some (.undef,h96))) fun ahd QH =>
 (aq Aq false).ah fun ahe=>(au ahe ((binOp .neq ahd (.int .i64 0)).ah some) (some .undef)).ah fun ahf =>
 (aD Aq (some (.bool true)) (some ahf)).ah fun DO =>
 (aq DO false).ah fun ahg=>(au ahg (some x4) (some .undef)).ah fun ahh =>
 (aq DO false).ah fun ahi=>(au ahi ((aF ahh).ah some) (some .undef)).ah fun ahj =>
 (aq DO false).ah fun ahk=>(au ahk ((aA ahj 6).ah some) (some .undef)).ah fun ahl =>
 (aq DO false).ah fun ahm=>(au ahm ((ax 1 false ahl QH).ah some) (some .undef)).ah fun ahn =>
 (aq DO false).ah fun aho=>aH (au aho (aH (ai T (size h) 26 [ahn] QH) fun ahp QI=>some (ahp,QI)) (some (.undef,QH))) fun ahq QI =>
 (aq DO false).ah fun ahr=>(au ahr ((binOp .neq ahq (.int .i64 10)).ah some) (some .undef)).ah fun ahs =>
 (aD DO (some (.bool true)) (some ahs)).ah fun As =>
 (aq As false).ah fun aht=>(au aht (some x4) (some .undef)).ah fun ahu =>
 (aq As false).ah fun ahv=>(au ahv ((aF ahu).ah some) (some .undef)).ah fun ahw =>
 (aq As false).ah fun ahx=>(au ahx ((aA ahw 6).ah some) (some .undef)).ah fun ahy =>
 (aq As false).ah fun ahz=>(au ahz ((ax 1 false ahy QI).ah some) (some .undef)).ah fun ahA =>
 (aq As false).ah fun ahB=>(au ahB (some vk) (some .undef)).ah fun ahC =>
 (aq As false).ah fun ahD=>(au ahD ((cO (some 1) (some (.int .i64 10)) none none ahC).ah some) (some .undef)).ah fun ahE =>
 (aq As false).ah fun ahF=>aH (au ahF (aH (ai T (size h) 13 [ahA,ahE] QI) fun ahG QJ=>some (ahG,QJ)) (some (.undef,QI))) fun ahH QJ =>
 (aq As false).ah fun ahI=>(au ahI ((binOp .neq ahH (.int .i64 0)).ah some) (some .undef)).ah fun ahJ =>
 (aD As (some (.bool true)) (some ahJ)).ah fun ahK =>
 aD ahK (
 bk false false (size h) [(.bool false)] QJ) (
 (aF x4).ah fun ahL =>
 (aA ahL 6).ah fun ahM =>
 (ax 1 false ahM QJ).ah fun ahN =>
 aH (ai T (size h) 14 [ahN] QJ) fun aao ahO =>
 (aE aao 0).ah fun ahP =>
 (aE aao 1).ah fun ahQ =>
 eo Ec ahO fun aap ahR =>
 (aS (size h) 35 aap ahP ahR).ah fun Tx =>
 (binOp .neq ahQ (.int .i64 0)).ah fun Ty =>
 (aq Ty false).ah fun ahS=>(au ahS ((aA aap 0).ah some) (some .undef)).ah fun ahT =>
 (aq Ty false).ah fun ahU=>(au ahU ((ax 1 false ahT Tx).ah some) (some .undef)).ah fun ahV =>
 (aq Ty false).ah fun ahW=>(au ahW ((binOp .neq ahV (.int .u32 2)).ah some) (some .undef)).ah fun ahX =>
 (aD Ty (some (.bool true)) (some ahX)).ah fun JP =>
 (aq JP false).ah fun ahY=>(au ahY (some x4) (some .undef)).ah fun ahZ =>
 (aq JP false).ah fun ah0=>(au ah0 ((aF ahZ).ah some) (some .undef)).ah fun ah1 =>
 (aq JP false).ah fun ah2=>(au ah2 ((aA ah1 6).ah some) (some .undef)).ah fun ah3 =>
 (aq JP false).ah fun ah4=>(au ah4 ((ax 1 false ah3 Tx).ah some) (some .undef)).ah fun ah5 =>
 (aq JP false).ah fun ah6=>aH (au ah6 (aH (ai T (size h) 15 [ah5] Tx) fun ah7 QK=>some (ah7,QK)) (some (.undef,Tx))) fun ah8 QK =>
 (aq JP false).ah fun ah9=>(au ah9 ((binOp .neq ah8 (.int .i64 0)).ah some) (some .undef)).ah fun aia =>
 (aD JP (some (.bool true)) (some aia)).ah fun JQ =>
 (aq JQ false).ah fun aib=>(au aib (some x4) (some .undef)).ah fun aic =>
 (aq JQ false).ah fun aid=>(au aid ((aF aic).ah some) (some .undef)).ah fun aie =>
 (aq JQ false).ah fun aif=>(au aif ((aA aie 6).ah some) (some .undef)).ah fun aih =>
 (aq JQ false).ah fun aii=>(au aii ((ax 1 false aih QK).ah some) (some .undef)).ah fun aij =>
 (aq JQ false).ah fun aik=>aH (au aik (aH (ai T (size h) 19 [aij] QK) fun ail QL=>some (ail,QL)) (some (.undef,QK))) fun aim QL =>
 (aq JQ false).ah fun ain=>(au ain ((binOp .neq aim (.int .i64 1)).ah some) (some .undef)).ah fun aio =>
 (aD JQ (some (.bool true)) (some aio)).ah fun JR =>
 (aq JR false).ah fun aip=>(au aip (some x4) (some .undef)).ah fun aiq =>
 (aq JR false).ah fun air=>(au air ((aF aiq).ah some) (some .undef)).ah fun ais =>
 (aq JR false).ah fun ait=>(au ait ((aA ais 6).ah some) (some .undef)).ah fun aiu =>
 (aq JR false).ah fun aiv=>(au aiv ((ax 1 false aiu QL).ah some) (some .undef)).ah fun aiw =>
 (aq JR false).ah fun aix=>aH (au aix (aH (ai T (size h) 46 [aiw] QL) fun aiy QM=>some (aiy,QM)) (some (.undef,QL))) fun aiz QM =>
 (aq JR false).ah fun aiA=>(au aiA ((binOp .neq aiz (.int .i64 1)).ah some) (some .undef)).ah fun aiB =>
 (aD JR (some (.bool true)) (some aiB)).ah fun aiC =>
 aD aiC (
 bk false false (size h) [(.bool false)] QM) (
 (aF x4).ah fun aiD =>
 (aA aiD 6).ah fun aiE =>
 (ax 1 false aiE QM).ah fun aiF =>
 aH (ai T (size h) 17 [aiF] QM) fun aaq Xc =>
 (aE aaq 0).ah fun aiG =>
 (aE aaq 1).ah fun aiH =>
 (binOp .neq aiH (.int .i64 0)).ah fun Xd =>
 (aq Xd false).ah fun aiI=>(au aiI (some aiG) (some .undef)).ah fun aiJ =>
 (aq Xd false).ah fun aiK=>(au aiK ((binOp .neq aiJ (.int .i64 1)).ah some) (some .undef)).ah fun aiL =>
 (aD Xd (some (.bool true)) (some aiL)).ah fun JT =>
 (aq JT false).ah fun aiM=>(au aiM (some x4) (some .undef)).ah fun aiN =>
 (aq JT false).ah fun aiO=>(au aiO ((aF aiN).ah some) (some .undef)).ah fun aiP =>
 (aq JT false).ah fun aiQ=>(au aiQ ((aA aiP 6).ah some) (some .undef)).ah fun aiR =>
 (aq JT false).ah fun aiS=>(au aiS ((ax 1 false aiR Xc).ah some) (some .undef)).ah fun aiT =>
 (aq JT false).ah fun aiU=>aH (au aiU (aH (ai T (size h) 44 [aiT] Xc) fun aiV QN=>some (aiV,QN)) (some (.undef,Xc))) fun aiW QN =>
 (aq JT false).ah fun aiX=>(au aiX ((binOp .neq aiW (.int .i64 1)).ah some) (some .undef)).ah fun aiY =>
 (aD JT (some (.bool true)) (some aiY)).ah fun JU =>
 (aq JU false).ah fun aiZ=>(au aiZ (some x4) (some .undef)).ah fun ai0 =>
 (aq JU false).ah fun ai1=>(au ai1 ((aF ai0).ah some) (some .undef)).ah fun ai2 =>
 (aq JU false).ah fun ai3=>(au ai3 ((aA ai2 6).ah some) (some .undef)).ah fun ai4 =>
 (aq JU false).ah fun ai5=>(au ai5 ((ax 1 false ai4 QN).ah some) (some .undef)).ah fun ai6 =>
 (aq JU false).ah fun ai7=>aH (au ai7 (aH (ai T (size h) 20 [ai6] QN) fun ai8 QO=>some (ai8,QO)) (some (.undef,QN))) fun ai9 QO =>
 (aq JU false).ah fun aja=>(au aja ((binOp .neq ai9 (.int .i64 0)).ah some) (some .undef)).ah fun ajb =>
 (aD JU (some (.bool true)) (some ajb)).ah fun ajc =>
 aD ajc (
 bk false false (size h) [(.bool false)] QO) (
 (aF x4).ah fun ajd =>
 (aA ajd 6).ah fun aje =>
 (ax 1 false aje QO).ah fun ajf =>
 aH (ai T (size h) 17 [ajf] QO) fun aar Xe =>
 (aE aar 0).ah fun ajg =>
 (aE aar 1).ah fun ajh =>
 (binOp .neq ajh (.int .i64 0)).ah fun Xf =>
 (aq Xf false).ah fun aji=>(au aji (some ajg) (some .undef)).ah fun ajj =>
 (aq Xf false).ah fun ajk=>(au ajk ((binOp .neq ajj (.int .i64 0)).ah some) (some .undef)).ah fun ajl =>
 (aD Xf (some (.bool true)) (some ajl)).ah fun JV =>
 (aq JV false).ah fun ajm=>(au ajm (some x4) (some .undef)).ah fun ajn =>
 (aq JV false).ah fun ajo=>(au ajo ((aF ajn).ah some) (some .undef)).ah fun ajp =>
 (aq JV false).ah fun ajq=>(au ajq ((aA ajp 6).ah some) (some .undef)).ah fun ajr =>
 (aq JV false).ah fun ajs=>(au ajs ((ax 1 false ajr Xe).ah some) (some .undef)).ah fun ajt =>
 (aq JV false).ah fun aju=>aH (au aju (aH (ai T (size h) 19 [ajt] Xe) fun ajv QS=>some (ajv,QS)) (some (.undef,Xe))) fun ajw QS =>
 (aq JV false).ah fun ajx=>(au ajx ((binOp .neq ajw (.int .i64 0)).ah some) (some .undef)).ah fun ajy =>
 (aD JV (some (.bool true)) (some ajy)).ah fun JW =>
 (aq JW false).ah fun ajz=>(au ajz (some x4) (some .undef)).ah fun ajA =>
 (aq JW false).ah fun ajB=>(au ajB ((aF ajA).ah some) (some .undef)).ah fun ajC =>
 (aq JW false).ah fun ajD=>(au ajD ((aA ajC 6).ah some) (some .undef)).ah fun ajE =>
 (aq JW false).ah fun ajF=>(au ajF ((ax 1 false ajE QS).ah some) (some .undef)).ah fun ajG =>
 (aq JW false).ah fun ajH=>aH (au ajH (aH (ai T (size h) 18 [ajG] QS) fun ajI QT=>some (ajI,QT)) (some (.undef,QS))) fun ajJ QT =>
 (aq JW false).ah fun ajK=>(au ajK ((binOp .neq ajJ (.int .i64 60)).ah some) (some .undef)).ah fun ajL =>
 (aD JW (some (.bool true)) (some ajL)).ah fun ajM =>
 aD ajM (
 bk false false (size h) [(.bool false)] QT) (
 (aF x4).ah fun ajN =>
 (aA ajN 6).ah fun ajO =>
 (ax 1 false ajO QT).ah fun ajP =>
 aH (ai T (size h) 43 [ajP,(.int .i64 1)] QT) fun aas ajQ =>
 (aE aas 0).ah fun ajR =>
 (aE aas 1).ah fun Tz =>
 eo Ec ajQ fun aat ajS =>
 (aS (size h) 35 aat ajR ajS).ah fun aau =>
 (aF x4).ah fun ajT =>
 (aA ajT 6).ah fun ajU =>
 (ax 1 false ajU aau).ah fun ajV =>
 aH (ai T (size h) 39 [ajV,(.int .i64 1)] aau) fun aav aaw =>
 (aE aav 0).ah fun ajW =>
 (aE aav 1).ah fun ajX =>
 (aF x4).ah fun ajY =>
 (aA ajY 6).ah fun ajZ =>
 (ax 1 false ajZ aaw).ah fun aj0 =>
 aH (ai T (size h) 36 [aj0] aaw) fun apc Xg =>
 (aq Tz true).ah fun aj1=>(au aj1 ((aA aat 0).ah some) (some .undef)).ah fun aj2 =>
 (aq Tz true).ah fun aj3=>(au aj3 ((ax 1 false aj2 Xg).ah some) (some .undef)).ah fun aj4 =>
 (aq Tz true).ah fun aj5=>(au aj5 ((binOp .eql aj4 (.int .u32 2)).ah some) (some .undef)).ah fun aj6 =>
 (aD Tz (some aj6) (some (.bool false))).ah fun aax =>
 (aq aax true).ah fun aj7=>(au aj7 (some ajX) (some .undef)).ah fun aj8 =>
 (aD aax (some aj8) (some (.bool false))).ah fun TA =>
 (aq TA true).ah fun aj9=>(au aj9 (some ajW) (some .undef)).ah fun aka =>
 (aq TA true).ah fun akb=>(au akb (some vk) (some .undef)).ah fun akc =>
 (aq TA true).ah fun akd=>aH (au akd (aH (ai T (size h) 47 [aka,akc] Xg) fun ake QU=>some (ake,QU)) (some (.undef,Xg))) fun akf QU =>
 (aD TA (some akf) (some (.bool false))).ah fun JX =>
 (aq JX true).ah fun akg=>(au akg (some x4) (some .undef)).ah fun akh =>
 (aq JX true).ah fun aki=>(au aki ((aF akh).ah some) (some .undef)).ah fun akj =>
 (aq JX true).ah fun akk=>(au akk ((aA akj 6).ah some) (some .undef)).ah fun akl =>
 (aq JX true).ah fun akm=>(au akm ((ax 1 false akl QU).ah some) (some .undef)).ah fun akn =>
 (aq JX true).ah fun ako=>(au ako (some vk) (some .undef)).ah fun akp =>
 (aq JX true).ah fun akq=>aH (au akq (aH (ai T (size h) 21 [akn,(.int .i64 1),akp] QU) fun akr QV=>some (akr,QV)) (some (.undef,QU))) fun aks QV =>
 (aD JX (some aks) (some (.bool false))).ah fun Gf =>
 (aq Gf true).ah fun akt=>(au akt (some x4) (some .undef)).ah fun aku =>
 (aq Gf true).ah fun akv=>(au akv ((aF aku).ah some) (some .undef)).ah fun akw =>
 (aq Gf true).ah fun akx=>(au akx ((aA akw 6).ah some) (some .undef)).ah fun aky =>
 (aq Gf true).ah fun akz=>(au akz ((ax 1 false aky QV).ah some) (some .undef)).ah fun akA =>
 (aq Gf true).ah fun akB=>(au akB (some vk) (some .undef)).ah fun akC =>
 (aq Gf true).ah fun akD=>aH (au akD (aH (ai T (size h) 21 [akA,(.int .i64 0),akC] QV) fun akE Xh=>some (akE,Xh)) (some (.undef,QV))) fun akF Xh =>
 (aq Gf true).ah fun akG=>(au akG ((unOp .not akF).ah some) (some .undef)).ah fun akH =>
 (aD Gf (some akH) (some (.bool false))).ah fun akI =>
 bk false false (size h) [akI] Xh))))):=(aZ T_8 base _ h).trans (by kernel_rfl)
theorem S9 (base:Nat) (a0:PV) (h:Hp):ai T base 9 [a0] h =
 (binOp .and a0 (.int .i64 3)).ah fun x3 =>
 (binOp .add (.int .i64 4) x3).ah fun x4 =>
 (dz [.bp,.bp,.bp,.bp,.bp,.bp,.bp,(.int .i64 0)] [(7,1,x4)]).ah fun x5 =>
 aH (tK 8 x5 h) fun x6 h7 =>
 (aF x6).ah fun iS =>
 (aA iS 7).ah fun gJ =>
 (ax 1 false gJ h7).ah fun je =>
 (binOp .mul (.int .i64 2) je).ah fun lU =>
 (binOp .add (.int .i64 4) lU).ah fun mu =>
 aH (ai T base 48 [mu,(.int .i64 64)] h7) fun oy Ap =>
 (aF x6).ah fun pK =>
 (aA pK 0).ah fun qi =>
 (aS base 1 qi oy Ap).ah fun Yc =>
 (aF x6).ah fun ru =>
 (aA ru 0).ah fun sP =>
 (ax 1 false sP Yc).ah fun yj =>
 aH (ai T base 49 [yj,(.int .i64 0),(.int .i64 2)] Yc) fun sL h27 =>
 (aE sL 0).ah fun Aa =>
 (aE sL 1).ah fun wj =>
 (aF x6).ah fun rM =>
 (aA rM 1).ah fun JY =>
 (aS base 1 JY Aa h27).ah fun JZ =>
 (aF x6).ah fun ND =>
 (aA ND 0).ah fun rA =>
 (ax 1 false rA JZ).ah fun BH =>
 aH (ai T base 49 [BH,(.int .i64 2),(.int .i64 2)] JZ) fun sM h40 =>
 (aE sM 0).ah fun NF =>
 (aE sM 1).ah fun HK =>
 (aF x6).ah fun vS =>
 (aA vS 2).ah fun rN =>
 (aS base 1 rN NF h40).ah fun h46 =>
 (aF x6).ah fun Cm =>
 (aA Cm 0).ah fun J0 =>
 (ax 1 false J0 h46).ah fun Bf =>
 (aF x6).ah fun JM =>
 (aA JM 7).ah fun wk =>
 (ax 1 false wk h46).ah fun vk =>
 aH (ai T base 49 [Bf,(.int .i64 4),vk] h46) fun Sd UH =>
 (aE Sd 0).ah fun Cj =>
 (aE Sd 1).ah fun OC =>
 (aF x6).ah fun J1 =>
 (aA J1 3).ah fun Xi =>
 (aS base 1 Xi Cj UH).ah fun h63 =>
 (aF x6).ah fun HM =>
 (aA HM 0).ah fun QW =>
 (ax 1 false QW h63).ah fun Gd =>
 (aF x6).ah fun Sb =>
 (aA Sb 7).ah fun TB =>
 (ax 1 false TB h63).ah fun Xj =>
 (binOp .add (.int .i64 4) Xj).ah fun NH =>
 (aF x6).ah fun Xk =>
 (aA Xk 7).ah fun W5 =>
 (ax 1 false W5 h63).ah fun QE =>
 aH (ai T base 49 [Gd,NH,QE] h63) fun Cl h79 =>
 (aE Cl 0).ah fun Lm =>
 (aE Cl 1).ah fun UI =>
 (aF x6).ah fun QF =>
 (aA QF 4).ah fun WL =>
 (aS base 1 WL Lm h79).ah fun Yd =>
 (aF x6).ah fun QX =>
 (aA QX 1).ah fun Qz =>
 (ax 1 false Qz Yd).ah fun TC =>
 (gG 0 false TC).ah fun OD =>
 (aq OD false).ah fun b93=>(au b93 (some x6) (some .undef)).ah fun Tt =>
 (aq OD false).ah fun b97=>(au b97 ((aF Tt).ah some) (some .undef)).ah fun WM =>
 (aq OD false).ah fun WN=>(au WN ((aA WM 2).ah some) (some .undef)).ah fun JN =>
 (aq OD false).ah fun Xa=>(au Xa ((ax 1 false JN Yd).ah some) (some .undef)).ah fun tP =>
 (aq OD false).ah fun Xb=>(au Xb ((gG 0 false tP).ah some) (some .undef)).ah fun QG =>
 (aD OD (some (.bool true)) (some QG)).ah fun Ge =>
 (aq Ge false).ah fun WQ=>(au WQ (some x6) (some .undef)).ah fun WR =>
 (aq Ge false).ah fun WS=>(au WS ((aF WR).ah some) (some .undef)).ah fun WT =>
 (aq Ge false).ah fun WU=>(au WU ((aA WT 3).ah some) (some .undef)).ah fun WW =>
 (aq Ge false).ah fun WX=>(au WX ((ax 1 false WW Yd).ah some) (some .undef)).ah fun WY =>
 (aq Ge false).ah fun akJ=>(au akJ ((gG 0 false WY).ah some) (some .undef)).ah fun WZ =>
 (aD Ge (some (.bool true)) (some WZ)).ah fun NI =>
 (aq NI false).ah fun akK=>(au akK (some x6) (some .undef)).ah fun DO =>
 (aq NI false).ah fun akL=>(au akL ((aF DO).ah some) (some .undef)).ah fun akM =>
 (aq NI false).ah fun akN=>(au akN ((aA akM 4).ah some) (some .undef)).ah fun akO =>
 (aq NI false).ah fun akP=>(au akP ((ax 1 false akO Yd).ah some) (some .undef)).ah fun akQ =>
 (aq NI false).ah fun akR=>(au akR ((gG 0 false akQ).ah some) (some .undef)).ah fun akS =>
 (aD NI (some (.bool true)) (some akS)).ah fun akT =>
 aD akT (
 bk true false (size h) [x6,(.bool false)] Yd) (
 aH (ai T base 16 [x6] Yd) fun As akU =>
 bk true false (size h) [x6,As] akU):=(gT T_9 base _ h).trans (by kernel_rfl)
theorem S10 (base:Nat) (a0 a1:PV) (h:Hp):ai T base 10 [a0,a1] h =
 aH (ai T (size h) 11 [(.str [97,112,112]),(.int .u32 1),a1] h) fun x2 h3 =>
 (aE x2 0).ah fun x5 =>
 (aE x2 1).ah fun x6 =>
 aH (cV (size h) h3 .fix [x5]) fun x9 h10 =>
 (binOp .eql x6 (.int .i64 0)).ah fun gJ =>
 (aq gJ true).ah fun b15=>(au b15 (some a0) (some .undef)).ah fun lU =>
 (aq gJ true).ah fun b19=>(au b19 ((aF lU).ah some) (some .undef)).ah fun pK =>
 (aq gJ true).ah fun b23=>(au b23 ((aA pK 3).ah some) (some .undef)).ah fun oz =>
 (aq gJ true).ah fun b27=>(au b27 ((ax 1 false oz h10).ah some) (some .undef)).ah fun sL =>
 (aq gJ true).ah fun b31=>(au b31 (some x9) (some .undef)).ah fun wj =>
 (aq gJ true).ah fun b35=>aH (au b35 (aH (ai T (size h) 28 [sL,(.int .i64 0),wj] h10) fun rA h36=>some (rA,h36)) (some (.undef,h10))) fun vR h36 =>
 (aq gJ true).ah fun b39=>(au b39 ((binOp .eql vR (.int .i64 0)).ah some) (some .undef)).ah fun BH =>
 (aD gJ (some BH) (some (.bool false))).ah fun NF =>
 bk false false (size h) [NF] h36:=(aZ arY base _ h).trans (by kernel_rfl)
theorem S11 (base:Nat) (a0 a1 a2:PV) (h:Hp):ai T base 11 [a0,a1,a2] h =
 aH (ai T (size h) 45 [a0] h) fun x3 h4 =>
 (unOp .not x3).ah fun x5 =>
 aD x5 (
 bk false true (size h) [.bg,(.int .i64 1)] h4) (
 (cB false a2).ah fun x9 =>
 (binOp .gtr x9 (.int .i64 1048576)).ah fun jf =>
 aD jf (
 bk false true (size h) [.bg,(.int .i64 2)] h4) (
 (cB false a2).ah fun mu =>
 aH (ai T (size h) 51 [a2] h4) fun pK OA =>
 (dz Ec [(0,1,a1),(1,1,mu),(2,1,a0),(3,32,pK)]).ah fun x20 =>
 aH (ai T (size h) 50 [x20] OA) fun nP OE =>
 (aE nP 0).ah fun sP =>
 (aE nP 1).ah fun yj =>
 (cH 1 false [.bg] 2 [(0,strip sP),(1,strip a2)]).ah fun wj =>
 aH (ai T (size h) 52 [wj] OE) fun rM Ye =>
 bk false true (size h) [rM,(.int .i64 0)] Ye)):=(aZ aeR base _ h).trans (by kernel_rfl)
theorem S12 (base:Nat) (a0 a1:PV) (h:Hp):ai T base 12 [a0,a1] h =
 aH (ai T base 46 [a0] h) fun x3 h4 =>
 (aF a0).ah fun x5 =>
 (aA x5 0).ah fun x6 =>
 (aN 1 2 x6 x3).ah fun x7 =>
 (ax 1 false x7 h4).ah fun x8 =>
 aH (ai T base 53 [a0] h4) fun iS h12 =>
 aD iS (
 bk true false (size h) [(.int .i64 30)] h12) (
 aH (ai T base 19 [a0] h12) fun oy Ap =>
 (binOp .neq oy (.int .i64 0)).ah fun pK =>
 aD pK (
 bk true false (size h) [(.int .i64 60)] Ap) (
 (binOp .lss a1 (.int .i64 64)).ah fun oz =>
 (aq oz false).ah fun b25=>(au b25 (some a1) (some .undef)).ah fun sP =>
 (aq oz false).ah fun b29=>(au b29 (some x8) (some .undef)).ah fun Al =>
 (aq oz false).ah fun b33=>aH (au b33 (aH (ai T base 54 [Al] Ap) fun qj UJ=>some (qj,UJ)) (some (.undef,Ap))) fun JY UJ =>
 (aq oz false).ah fun b37=>(au b37 ((binOp .gtr sP JY).ah some) (some .undef)).ah fun ND =>
 (aD oz (some (.bool true)) (some ND)).ah fun BG =>
 aD BG (
 bk true false (size h) [(.int .i64 53)] UJ) (
 aH (ai T base 36 [a0] UJ) fun vS Yb =>
 aH (ai T base 55 [x8] Yb) fun DN h48 =>
 (binOp .neq DN (.int .i64 0)).ah fun Bf =>
 aD Bf (
 bk true false (size h) [DN] h48) (
 aH (ai T base 56 [] h48) fun Sd UH =>
 (dz [(.int .i64 0),(.int .i64 0),.bg,.bp] [(0,1,a1),(3,1,Sd)]).ah fun yg =>
 aH (tK 4 yg UH) fun Cj h60 =>
 (aF a0).ah fun J1 =>
 (aA J1 4).ah fun Xi =>
 (aS base 1 Xi Cj h60).ah fun h63 =>
 bk true false (size h) [(.int .i64 0)] h63)))):=(gT aeS base _ h).trans (by kernel_rfl)
theorem S13 (base:Nat) (a0 a1:PV) (h:Hp):ai T base 13 [a0,a1] h =
 aH (ai T base 57 [a0] h) fun x2 h3 =>
 (binOp .neq x2 (.int .i64 0)).ah fun x6 =>
 aD x6 (
 bk true false (size h) [x2] h3) (
 (aF a0).ah fun jf =>
 (aA jf 4).ah fun iS =>
 (ax 1 false iS h3).ah fun gJ =>
 (cB false a1).ah fun mu =>
 (aF gJ).ah fun pE =>
 (aA pE 0).ah fun pK =>
 (ax 1 false pK h3).ah fun qi =>
 (aF gJ).ah fun nP =>
 (aA nP 1).ah fun oz =>
 (ax 1 false oz h3).ah fun ru =>
 (binOp .sub qi ru).ah fun sP =>
 (binOp .gtr mu sP).ah fun yj =>
 aD yj (
 bk true false (size h) [(.int .i64 2)] h3) (
 aH (gv (ai T base) 46 [a0] h3) fun Aa h30=>(fun y=>if h30=h3 then y else none) <|
 (aF a0).ah fun rM =>
 (aA rM 0).ah fun JY =>
 (aN 1 2 JY Aa).ah fun Ao =>
 (ax 1 false Ao h3).ah fun vR =>
 (aF gJ).ah fun ND =>
 (aA ND 1).ah fun rA =>
 (ax 1 false rA h3).ah fun BH =>
 aH (ai T base 28 [vR,BH,a1] h3) fun BG h41 =>
 (binOp .neq BG (.int .i64 0)).ah fun vS =>
 aD vS (
 aH (ai T base 36 [a0] h41) fun NG WJ =>
 bk true false (size h) [BG] WJ) (
 (aF gJ).ah fun Bf =>
 (aA Bf 2).ah fun Sa =>
 (ax 1 false Sa h41).ah fun JM =>
 (cB false JM).ah fun wk =>
 aH (ai T base 58 [gJ,a1] h41) fun yg h59 =>
 (binOp .eql wk (.int .i64 64)).ah fun J1 =>
 aD J1 (
 bk true false (size h) [(.int .i64 0)] h59) (
 aH (ai T base 59 [gJ] h59) fun OB h65 =>
 (binOp .neq OB (.int .i64 0)).ah fun Gd =>
 aD Gd (
 aH (ai T base 36 [a0] h65) fun Sb h71 =>
 bk true false (size h) [OB] h71) (
 bk true false (size h) [OB] h65))))):=(gT arZ base _ h).trans (by kernel_rfl)
theorem S14 (base:Nat) (a0:PV) (h:Hp):ai T base 14 [a0] h =
 eo Ec h fun x0 h1 =>
 aH (ai T (size h) 57 [a0] h1) fun x4 h5 =>
 (binOp .neq x4 (.int .i64 0)).ah fun x8 =>
 aD x8 (
 (dz Ec []).ah fun x9 =>
 (aS (size h) 35 x0 x9 h5).ah fun h11 =>
 (qS x0 h11 35 true).ah fun r13 =>
 bk false false (size h) [r13,x4] h11) (
 (aF a0).ah fun mu =>
 (aA mu 4).ah fun oy =>
 (ax 1 false oy h5).ah fun pE =>
 (aF pE).ah fun x20 =>
 (aA x20 1).ah fun nP =>
 (ax 1 false nP h5).ah fun oz =>
 (aF pE).ah fun sP =>
 (aA sP 0).ah fun yj =>
 (ax 1 false yj h5).ah fun sL =>
 (binOp .lss oz sL).ah fun Ak =>
 aD Ak (
 (dz Ec []).ah fun Al =>
 (aS (size h) 35 x0 Al h5).ah fun QY =>
 (qS x0 QY 35 true).ah fun r31 =>
 bk false false (size h) [r31,(.int .i64 53)] QY) (
 aH (ai T (size h) 36 [a0] h5) fun Ao UJ =>
 (aF pE).ah fun ND =>
 (aA ND 2).ah fun rA =>
 (ax 1 false rA UJ).ah fun BH =>
 aH (ai T (size h) 60 [BH] UJ) fun sM h40 =>
 (aE sM 0).ah fun NF =>
 (aE sM 1).ah fun HK =>
 eo Ec h40 fun vS Yb =>
 (aS (size h) 35 vS NF Yb).ah fun h46 =>
 (binOp .neq HK (.int .i64 0)).ah fun Cm =>
 aD Cm (
 (dz Ec []).ah fun J0 =>
 (aS (size h) 35 x0 J0 h46).ah fun h52 =>
 (qS x0 h52 35 true).ah fun r54 =>
 bk false false (size h) [r54,HK] h52) (
 aH (ai T (size h) 20 [a0] h46) fun HL h58 =>
 aH (ai T (size h) 43 [a0,HL] h58) fun Cj h60 =>
 (aE Cj 0).ah fun Xi =>
 (aE Cj 1).ah fun Gb =>
 eo Ec h60 fun OB h65 =>
 (aS (size h) 35 OB Xi h65).ah fun h66 =>
 (aF pE).ah fun Tv =>
 (aA Tv 3).ah fun Sb =>
 (ax 1 false Sb h66).ah fun TB =>
 aH (gv (ai T (size h)) 61 [TB] h66) fun Xj h73=>(fun y=>if h73=h66 then y else none) <|
 (aA vS 3).ah fun Qy =>
 (ax 32 true Qy h66).ah fun Xk =>
 (VJ true [1,1,1,1,1,1,1,1,1,1,1,1,1,1,1,1,1,1,1,1,1,1,1,1,1,1,1,1,1,1,1,1] Xj Xk).ah fun W5 =>
 aD W5 (
 (dz Ec []).ah fun Cl =>
 (aS (size h) 35 x0 Cl h66).ah fun h79 =>
 (qS x0 h79 35 true).ah fun r81 =>
 bk false false (size h) [r81,(.int .i64 51)] h79) (
 (aq Gb true).ah fun b85=>(au b85 ((aA vS 0).ah some) (some .undef)).ah fun WL =>
 (aq Gb true).ah fun b89=>(au b89 ((ax 1 false WL h66).ah some) (some .undef)).ah fun Qz =>
 (aq Gb true).ah fun b93=>(au b93 ((aA OB 0).ah some) (some .undef)).ah fun Tt =>
 (aq Gb true).ah fun b97=>(au b97 ((ax 1 false Tt h66).ah some) (some .undef)).ah fun WM =>
 (aq Gb true).ah fun WN=>(au WN ((binOp .leq Qz WM).ah some) (some .undef)).ah fun JN =>
 (aD Gb (some JN) (some (.bool false))).ah fun tP =>
 aD tP (
 (dz Ec []).ah fun agX =>
 (aS (size h) 35 x0 agX h66).ah fun aex =>
 (qS x0 aex 35 true).ah fun asx =>
 bk false false (size h) [asx,(.int .i64 52)] aex) (
 (ax 35 true vS h66).ah fun WO =>
 (aS (size h) 35 x0 WO h66).ah fun anL =>
 (qS x0 anL 35 true).ah fun asy =>
 bk false false (size h) [asy,(.int .i64 0)] anL))))):=(aZ ar0 base _ h).trans (by kernel_rfl)
theorem S15 (base:Nat) (a0:PV) (h:Hp):ai T base 15 [a0] h =
 aH (ai T base 46 [a0] h) fun x3 h4 =>
 aH (ai T base 43 [a0,x3] h4) fun x5 h6 =>
 (aE x5 0).ah fun x8 =>
 (aE x5 1).ah fun x9 =>
 eo Ec h6 fun jf h11 =>
 (aS base 35 jf x8 h11).ah fun h12 =>
 aH (ai T base 53 [a0] h12) fun mu HN =>
 aD mu (
 bk true false (size h) [(.int .i64 30)] HN) (
 aH (ai T base 19 [a0] HN) fun x20 Gc =>
 (binOp .neq x20 (.int .i64 0)).ah fun oz =>
 aD oz (
 aD oz (
 bk true false (size h) [(.int .i64 60)] Gc) (
 (unOp .not x9).ah fun sL =>
 aD sL (
 bk true false (size h) [(.int .i64 4)] Gc) (
 aH (ai T base 20 [a0] Gc) fun rM Ye =>
 aH (ai T base 62 [a0,rM,(.int .i64 1)] Ye) fun Ao UJ =>
 bk true false (size h) [Ao] UJ))) (
 (aF a0).ah fun rA =>
 (aA rA 4).ah fun BH =>
 (ax 1 false BH Gc).ah fun sM =>
 (gG 0 true sM).ah fun BG =>
 aD BG (
 bk true false (size h) [(.int .i64 60)] Gc) (
 (unOp .not x9).ah fun vS =>
 aD vS (
 bk true false (size h) [(.int .i64 4)] Gc) (
 aH (ai T base 20 [a0] Gc) fun Cm h50 =>
 aH (ai T base 62 [a0,Cm,(.int .i64 1)] h50) fun Bf h52 =>
 bk true false (size h) [Bf] h52)))):=(gT aeT base _ h).trans (by kernel_rfl)
theorem S16 (base:Nat) (a0:PV) (h:Hp):ai T base 16 [a0] h =
 (aF a0).ah fun x2 =>
 (aA x2 1).ah fun x3 =>
 (ax 1 false x3 h).ah fun x4 =>
 (aF a0).ah fun x6 =>
 (aA x6 2).ah fun x7 =>
 (ax 1 false x7 h).ah fun x8 =>
 aH (ai T base 63 [x4,x8] h) fun x9 h10 =>
 (aE x9 0).ah fun gJ =>
 (aE x9 1).ah fun je =>
 (binOp .neq je (.int .i64 0)).ah fun pE =>
 aD pE (
 bk true false (size h) [(.bool false)] h10) (
 (aF a0).ah fun nP =>
 (aA nP 5).ah fun oz =>
 (aS base 1 oz gJ h10).ah fun h23 =>
 (aF a0).ah fun sL =>
 (aA sL 3).ah fun Ak =>
 (ax 1 false Ak h23).ah fun Al =>
 (aF a0).ah fun wj =>
 (aA wj 4).ah fun rM =>
 (ax 1 false rM h23).ah fun JY =>
 aH (ai T base 64 [Al,JY,gJ] h23) fun vR h35 =>
 (aF a0).ah fun ND =>
 (aA ND 6).ah fun rA =>
 (aS base 1 rA vR h35).ah fun QD =>
 bk true false (size h) [(.bool true)] QD):=(gT ar1 base _ h).trans (by kernel_rfl)
theorem S17 (base:Nat) (a0:PV) (h:Hp):ai T base 17 [a0] h =
 aH (ai T base 36 [a0] h) fun x3 h4 =>
 aH (ai T base 53 [a0] h4) fun x6 h7 =>
 aD x6 (
 bk true false (size h) [(.int .i64 0),(.int .i64 30)] h7) (
 aH (ai T base 46 [a0] h7) fun gJ h13 =>
 aH (ai T base 43 [a0,gJ] h13) fun lU Qh =>
 (aE lU 0).ah fun pE =>
 (aE lU 1).ah fun pK =>
 eo Ec Qh fun qi Yc =>
 (aS base 35 qi pE Yc).ah fun Gc =>
 aH (ai T base 19 [a0] Gc) fun sP JO =>
 (binOp .eql sP (.int .i64 1)).ah fun sL =>
 (aq sL true).ah fun b29=>(au b29 (some pK) (some .undef)).ah fun Al =>
 (aD sL (some Al) (some (.bool false))).ah fun JY =>
 aD JY (
 aH (ai T base 46 [a0] JO) fun qj h36 =>
 aH (ai T base 65 [a0,qj,(.int .i64 2)] h36) fun rA QD =>
 (aE rA 0).ah fun sM =>
 (aE rA 1).ah fun BG =>
 bk true false (size h) [sM,BG] QD) (
 aH (ai T base 20 [a0] JO) fun rN h46 =>
 aH (ai T base 65 [a0,rN,(.int .i64 0)] h46) fun DN h48 =>
 (aE DN 0).ah fun Cm =>
 (aE DN 1).ah fun J0 =>
 bk true false (size h) [Cm,J0] h48)):=(gT aeU base _ h).trans (by kernel_rfl)
theorem S18 (base:Nat) (a0:PV) (h:Hp):ai T base 18 [a0] h =
 aH (ai T base 53 [a0] h) fun x2 h3 =>
 aD x2 (
 bk true false (size h) [(.int .i64 30)] h3) (
 aH (ai T base 19 [a0] h3) fun x7 h8 =>
 (binOp .neq x7 (.int .i64 2)).ah fun x9 =>
 (aq x9 false).ah fun Tw=>(au Tw (some a0) (some .undef)).ah fun iS =>
 (aq x9 false).ah fun Qd=>(au Qd ((aF iS).ah some) (some .undef)).ah fun mu =>
 (aq x9 false).ah fun Tf=>(au Tf ((aA mu 3).ah some) (some .undef)).ah fun qi =>
 (aq x9 false).ah fun QB=>(au QB ((ax 1 false qi h8).ah some) (some .undef)).ah fun ru =>
 (aq x9 false).ah fun QC=>(au QC (some a0) (some .undef)).ah fun Ak =>
 (aq x9 false).ah fun Tu=>aH (au Tu (aH (gv (ai T base) 46 [Ak] h8) fun vR JZ=>(fun y=>if JZ=h8 then y else none)<|some (vR,h8)) (some (.undef,h8))) fun rM JZ =>
 (aq x9 false).ah fun b36=>(au b36 ((binOp .neq ru rM).ah some) (some .undef)).ah fun qj =>
 (aD x9 (some (.bool true)) (some qj)).ah fun sM =>
 aD sM (
 bk true false (size h) [(.int .i64 60)] JZ) (
 (aF a0).ah fun vS =>
 (aA vS 3).ah fun rN =>
 (ax 1 false rN JZ).ah fun NG =>
 aH (ai T base 62 [a0,NG,(.int .i64 0)] JZ) fun DN h48 =>
 bk true false (size h) [DN] h48)):=(gT aeV base _ h).trans (by kernel_rfl)
theorem S19 (base:Nat) (a0:PV) (h:Hp):ai T base 19 [a0] h =
 aH (ai T (size h) 66 [a0] h) fun x2 h3 =>
 (aE x2 0).ah fun x5 =>
 (aE x2 1).ah fun x6 =>
 bk false false (size h) [x6] h3:=(aZ aeW base _ h).trans (by kernel_rfl)
theorem S20 (base:Nat) (a0:PV) (h:Hp):ai T base 20 [a0] h =
 aH (ai T (size h) 66 [a0] h) fun x2 h3 =>
 (aE x2 0).ah fun x5 =>
 (aE x2 1).ah fun x6 =>
 bk false false (size h) [x5] h3:=(aZ aeX base _ h).trans (by kernel_rfl)
theorem S21 (base:Nat) (a0 a1 a2:PV) (h:Hp):ai T base 21 [a0,a1,a2] h =
 aH (ai T (size h) 39 [a0,a1] h) fun x3 h4 =>
 (aE x3 0).ah fun x6 =>
 (aE x3 1).ah fun x7 =>
 (aq x7 true).ah fun b13=>(au b13 (some x6) (some .undef)).ah fun gJ =>
 (aq x7 true).ah fun b17=>(au b17 (some a2) (some .undef)).ah fun oy =>
 (aq x7 true).ah fun b21=>aH (au b21 (aH (ai T (size h) 67 [gJ,oy] h4) fun ru OE=>some (ru,OE)) (some (.undef,h4))) fun x20 OE =>
 (aD x7 (some x20) (some (.bool false))).ah fun sP =>
 bk false false (size h) [sP] OE:=(aZ aeY base _ h).trans (by kernel_rfl)
theorem S24 (base:Nat) (a0:PV) (h:Hp):ai T base 24 [a0] h =
 eo Ec h fun x0 h1 =>
 aH (ai T (size h) 60 [a0] h1) fun x4 h5 =>
 (aE x4 0).ah fun x7 =>
 (aE x4 1).ah fun x8 =>
 eo Ec h5 fun x9 h10 =>
 (aS (size h) 35 x9 x7 h10).ah fun h11 =>
 (binOp .neq x8 (.int .i64 0)).ah fun lU =>
 aD lU (
 (dz Ec []).ah fun oy =>
 (aS (size h) 35 x0 oy h11).ah fun h18 =>
 (qS x0 h18 35 true).ah fun r20 =>
 bk false false (size h) [r20,x8] h18) (
 (cB false a0).ah fun oz =>
 (binOp .sub oz (.int .i64 64)).ah fun ru =>
 (aA x9 1).ah fun sP =>
 (ax 1 false sP h11).ah fun yj =>
 (binOp .neq ru yj).ah fun sL =>
 aD sL (
 (dz Ec []).ah fun Al =>
 (aS (size h) 35 x0 Al h11).ah fun QY =>
 (qS x0 QY 35 true).ah fun r31 =>
 bk false false (size h) [r31,(.int .i64 53)] QY) (
 (cO (some 1) (some (.int .i64 64)) none none a0).ah fun Ao =>
 (cH 1 false [.bg] 1 [(0,strip Ao)]).ah fun vR =>
 aH (gv (ai T (size h)) 69 [vR] h11) fun qj h36=>(fun y=>if h36=h11 then y else none) <|
 (aA x9 3).ah fun rA =>
 (ax 32 true rA h11).ah fun BH =>
 (VJ true [1,1,1,1,1,1,1,1,1,1,1,1,1,1,1,1,1,1,1,1,1,1,1,1,1,1,1,1,1,1,1,1] qj BH).ah fun sM =>
 aD sM (
 (dz Ec []).ah fun Ab =>
 (aS (size h) 35 x0 Ab h11).ah fun h42 =>
 (qS x0 h42 35 true).ah fun r44 =>
 bk false false (size h) [r44,(.int .i64 51)] h42) (
 (ax 35 true x9 h11).ah fun rN =>
 (aS (size h) 35 x0 rN h11).ah fun h46 =>
 (qS x0 h46 35 true).ah fun r48 =>
 bk false false (size h) [r48,(.int .i64 0)] h46))):=(aZ ar2 base _ h).trans (by kernel_rfl)
theorem S26 (base:Nat) (a0:PV) (h:Hp):ai T base 26 [a0] h =
 (aF a0).ah fun x2 =>
 (aA x2 4).ah fun x3 =>
 (ax 1 false x3 h).ah fun x4 =>
 (gG 0 false x4).ah fun x5 =>
 aD x5 (
 bk false false (size h) [(.int .i64 0)] h) (
 (aF a0).ah fun x8 =>
 (aA x8 4).ah fun x9 =>
 (ax 1 false x9 h).ah fun jf =>
 (aF jf).ah fun iS =>
 (aA iS 1).ah fun gJ =>
 (ax 1 false gJ h).ah fun je =>
 bk false false (size h) [je] h):=(aZ aeZ base _ h).trans (by kernel_rfl)
theorem S28 (base:Nat) (a0 a1 a2:PV) (h:Hp):ai T base 28 [a0,a1,a2] h =
 (cB false a2).ah fun x4 =>
 aH (ai T (size h) 70 [a0,a1,x4] h) fun x5 h6 =>
 (binOp .neq x5 (.int .i64 0)).ah fun x9 =>
 aD x9 (
 bk false false (size h) [x5] h6) (
 (aF a0).ah fun je =>
 (aA je 0).ah fun lU =>
 (ax 1 false lU h6).ah fun mu =>
 aH (gv (ai T (size h)) 72 [a0] h6) fun pE h18=>(fun y=>if h18=h6 then y else none) <|
 (binOp .add pE a1).ah fun x20 =>
 aH (ai T (size h) 71 [mu,x20,a2] h6) fun oz h23 =>
 bk false false (size h) [oz] h23):=(aZ ar3 base _ h).trans (by kernel_rfl)
theorem S36 (base:Nat) (a0:PV) (h:Hp):ai T base 36 [a0] h =
 (aF a0).ah fun x1 =>
 (aA x1 4).ah fun x2 =>
 (aS (size h) 1 x2 .bp h).ah fun h3 =>
 bk false false (size h) [] h3:=(aZ ae0 base _ h).trans (by kernel_rfl)
theorem S39 (base:Nat) (a0 a1:PV) (h:Hp):ai T base 39 [a0,a1] h =
 (binOp .lss a1 (.int .i64 0)).ah fun x3 =>
 (aq x3 false).ah fun b6=>(au b6 (some a1) (some .undef)).ah fun x5 =>
 (aq x3 false).ah fun b10=>(au b10 ((binOp .gtr x5 (.int .i64 1)).ah some) (some .undef)).ah fun x9 =>
 (aD x3 (some (.bool true)) (some x9)).ah fun je =>
 aD je (
 bk false false (size h) [.bg,(.bool false)] h) (
 (aF a0).ah fun pK =>
 (aA pK 0).ah fun qi =>
 (aN 1 2 qi a1).ah fun x20 =>
 (ax 1 false x20 h).ah fun nP =>
 aH (ai T (size h) 54 [nP] h) fun yj h26 =>
 (jI false [yj,(.int .i64 64)]).ah fun Ak =>
 aH (ai T (size h) 79 [nP,(.int .i64 0),Ak] h26) fun Al QY =>
 (aE Al 0).ah fun rM =>
 (aE Al 1).ah fun JY =>
 (binOp .neq JY (.int .i64 0)).ah fun ND =>
 aD ND (
 bk false false (size h) [.bg,(.bool false)] QY) (
 aH (ai T (size h) 60 [rM] QY) fun BG h41 =>
 (aE BG 0).ah fun HK =>
 (aE BG 1).ah fun vS =>
 eo Ec h41 fun rN h46 =>
 (aS (size h) 35 rN HK h46).ah fun WJ =>
 (binOp .neq vS (.int .i64 0)).ah fun J0 =>
 (aq J0 false).ah fun b53=>(au b53 ((aA rN 1).ah some) (some .undef)).ah fun Sa =>
 (aq J0 false).ah fun b57=>(au b57 ((ax 1 false Sa WJ).ah some) (some .undef)).ah fun Sd =>
 (aq J0 false).ah fun b61=>(au b61 (some nP) (some .undef)).ah fun OC =>
 (aq J0 false).ah fun b65=>aH (au b65 (aH (gv (ai T (size h)) 54 [OC] WJ) fun QW h66=>(fun y=>if h66=WJ then y else none)<|some (QW,WJ)) (some (.undef,WJ))) fun OB h66 =>
 (aq J0 false).ah fun b69=>(au b69 ((binOp .sub OB (.int .i64 64)).ah some) (some .undef)).ah fun Gd =>
 (aq J0 false).ah fun b73=>(au b73 ((binOp .gtr Sd Gd).ah some) (some .undef)).ah fun Xj =>
 (aD J0 (some (.bool true)) (some Xj)).ah fun W5 =>
 aD W5 (
 bk false false (size h) [.bg,(.bool false)] h66) (
 (aA rN 1).ah fun WK =>
 (ax 1 false WK h66).ah fun Lm =>
 (binOp .add (.int .i64 64) Lm).ah fun UI =>
 aH (ai T (size h) 79 [nP,(.int .i64 0),UI] h66) fun QF h84 =>
 (aE QF 0).ah fun W7 =>
 (aE QF 1).ah fun QX =>
 aH (ai T (size h) 24 [W7] h84) fun OD h91 =>
 (aE OD 0).ah fun Xn =>
 (aE OD 1).ah fun W9 =>
 eo Ec h91 fun x95 h96 =>
 (aS (size h) 35 x95 Xn h96).ah fun h97 =>
 (binOp .neq W9 (.int .i64 0)).ah fun JN =>
 aD JN (
 bk false false (size h) [.bg,(.bool false)] h97) (
 bk false false (size h) [W7,(.bool true)] h97)))):=(aZ ar4 base _ h).trans (by kernel_rfl)
theorem S41 (base:Nat) (a0:PV) (h:Hp):ai T base 41 [a0] h =
 (aF a0).ah fun x2 =>
 (aA x2 5).ah fun x3 =>
 (ax 1 false x3 h).ah fun x4 =>
 bk false false (size h) [x4] h:=(aZ ae1 base _ h).trans (by kernel_rfl)
theorem S43 (base:Nat) (a0 a1:PV) (h:Hp):ai T base 43 [a0,a1] h =
 eo Ec h fun x0 h1 =>
 aH (ai T (size h) 39 [a0,a1] h1) fun x5 h6 =>
 (aE x5 0).ah fun x8 =>
 (aE x5 1).ah fun x9 =>
 (unOp .not x9).ah fun je =>
 aD je (
 (dz Ec []).ah fun lU =>
 (aS (size h) 35 x0 lU h6).ah fun Qh =>
 (qS x0 Qh 35 true).ah fun Xl =>
 bk false false (size h) [Xl,(.bool false)] Qh) (
 aH (ai T (size h) 60 [x8] h6) fun qi Yc =>
 (aE qi 0).ah fun oz =>
 (aE qi 1).ah fun ru =>
 eo Ec Yc fun sP JO =>
 (aS (size h) 35 sP oz JO).ah fun h26 =>
 (ax 35 true sP h26).ah fun Al =>
 (aS (size h) 35 x0 Al h26).ah fun QY =>
 (qS x0 QY 35 true).ah fun r31 =>
 bk false false (size h) [r31,(.bool true)] QY):=(aZ ae2 base _ h).trans (by kernel_rfl)
theorem S44 (base:Nat) (a0:PV) (h:Hp):ai T base 44 [a0] h =
 (aF a0).ah fun x2 =>
 (aA x2 3).ah fun x3 =>
 (ax 1 false x3 h).ah fun x4 =>
 bk false false (size h) [x4] h:=(aZ ae3 base _ h).trans (by kernel_rfl)
noncomputable def Ln (base n0:Nat) (v3 v0:PV) (h:Hp):Option (PV × Hp):=Pt T YW [1,1,0,1,0,1] base n0 [(3,v3),(0,v0)] h
theorem Gg (base n0:Nat) (v3 v0:PV) (h:Hp):Ln base n0 v3 v0 h =
 (cB true v0).ah fun x2 =>
 (binOp .lss v3 x2).ah fun x3 =>
 aD x3 (
 (lY v0 v3).ah fun x6 =>
 (binOp .geq x6 (.int .u8 97)).ah fun x9 =>
 (aq x9 true).ah fun Tw=>(au Tw (some x6) (some .undef)).ah fun iS =>
 (aq x9 true).ah fun Qd=>(au Qd ((binOp .leq iS (.int .u8 122)).ah some) (some .undef)).ah fun mu =>
 (aD x9 (some mu) (some (.bool false))).ah fun qi =>
 (aq qi false).ah fun b22=>(au b22 (some x6) (some .undef)).ah fun nP =>
 (aq qi false).ah fun b26=>(au b26 ((binOp .geq nP (.int .u8 48)).ah some) (some .undef)).ah fun yj =>
 (aq qi false).ah fun b30=>(au b30 (some yj) (some .undef)).ah fun Aa =>
 (aq Aa true).ah fun b34=>(au b34 (some x6) (some .undef)).ah fun Ao =>
 (aq Aa true).ah fun b38=>(au b38 ((binOp .leq Ao (.int .u8 57)).ah some) (some .undef)).ah fun rA =>
 (aq qi false).ah fun b42=>(au b42 ((aD Aa (some rA) (some (.bool false))).ah some) (some .undef)).ah fun Ab =>
 (aD qi (some (.bool true)) (some Ab)).ah fun rN =>
 (aq rN false).ah fun b48=>(au b48 (some x6) (some .undef)).ah fun DN =>
 (aq rN false).ah fun b52=>(au b52 ((binOp .eql DN (.int .u8 46)).ah some) (some .undef)).ah fun Bf =>
 (aD rN (some (.bool true)) (some Bf)).ah fun vk =>
 (aq vk false).ah fun b58=>(au b58 (some x6) (some .undef)).ah fun HL =>
 (aq vk false).ah fun b62=>(au b62 ((binOp .eql HL (.int .u8 45)).ah some) (some .undef)).ah fun J1 =>
 (aD vk (some (.bool true)) (some J1)).ah fun TD =>
 (aq TD false).ah fun b68=>(au b68 (some x6) (some .undef)).ah fun QW =>
 (aq TD false).ah fun b72=>(au b72 ((binOp .eql QW (.int .u8 95)).ah some) (some .undef)).ah fun TB =>
 (aD TD (some (.bool true)) (some TB)).ah fun Xk =>
 (unOp .not Xk).ah fun Cl =>
 aD Cl (
 bk false false n0 [(.bool false)] h) (
 (binOp .add v3 (.int .i64 1)).ah fun Lm =>
 Ln base n0 Lm v0 h)) (
 bk false false n0 [(.bool true)] h):=(ez T YW [1,1,0,1,0,1] base n0 [(3,v3),(0,v0)] h).trans (by kernel_rfl)
theorem S45 (base:Nat) (a0:PV) (h:Hp):ai T base 45 [a0] h =
 (cB true a0).ah fun x2 =>
 (binOp .lss x2 (.int .i64 1)).ah fun x3 =>
 (aq x3 false).ah fun b6=>(au b6 (some a0) (some .undef)).ah fun x5 =>
 (aq x3 false).ah fun b10=>(au b10 ((cB true x5).ah some) (some .undef)).ah fun x9 =>
 (aq x3 false).ah fun W3=>(au W3 ((binOp .gtr x9 (.int .i64 16)).ah some) (some .undef)).ah fun je =>
 (aD x3 (some (.bool true)) (some je)).ah fun pE =>
 aD pE (
 bk false false (size h) [(.bool false)] h) (
 Ln (size h) (size h) (.int .i64 0) a0 h):=(aZ ae4 base _ h).trans (by kernel_rfl)
theorem S46 (base:Nat) (a0:PV) (h:Hp):ai T base 46 [a0] h =
 aH (ai T (size h) 20 [a0] h) fun x2 h3 =>
 (binOp .sub (.int .i64 1) x2).ah fun x4 =>
 bk false false (size h) [x4] h3:=(aZ ae5 base _ h).trans (by kernel_rfl)
noncomputable def Lo (base n0:Nat) (v5 v1 v0:PV) (h:Hp):Option (PV × Hp):=Pt T YX [1,1,0,1,0,1] base n0 [(5,v5),(1,v1),(0,v0)] h
theorem Gh (base n0:Nat) (v5 v1 v0:PV) (h:Hp):Lo base n0 v5 v1 v0 h =
 (cB false v0).ah fun x2 =>
 (binOp .lss v5 x2).ah fun x3 =>
 aD x3 (
 (cW v0 v5 1).ah fun x6 =>
 (ax 1 false x6 h).ah fun x7 =>
 (cW v1 v5 1).ah fun jf =>
 (ax 1 false jf h).ah fun iS =>
 (binOp .neq x7 iS).ah fun gJ =>
 aD gJ (
 bk false false n0 [(.bool false)] h) (
 (binOp .add v5 (.int .i64 1)).ah fun mu =>
 Lo base n0 mu v1 v0 h)) (
 bk false false n0 [(.bool true)] h):=(ez T YX [1,1,0,1,0,1] base n0 [(5,v5),(1,v1),(0,v0)] h).trans (by kernel_rfl)
theorem S47 (base:Nat) (a0 a1:PV) (h:Hp):ai T base 47 [a0,a1] h =
 (cB false a0).ah fun x2 =>
 (cB false a1).ah fun x4 =>
 (binOp .neq x2 x4).ah fun x5 =>
 aD x5 (
 bk false false (size h) [(.bool false)] h) (
 Lo (size h) (size h) (.int .i64 0) a1 a0 h):=(aZ ae6 base _ h).trans (by kernel_rfl)
theorem S49 (base:Nat) (a0 a1 a2:PV) (h:Hp):ai T base 49 [a0,a1,a2] h =
 aH (ai T base 81 [a0] h) fun x3 h4 =>
 aH (ai T base 82 [a0] h4) fun x6 h7 =>
 (binOp .quo x3 x6).ah fun x8 =>
 (binOp .lss a2 (.int .i64 1)).ah fun iS =>
 (aq iS false).ah fun W3=>(au W3 (some a1) (some .undef)).ah fun je =>
 (aq iS false).ah fun W4=>(au W4 ((binOp .lss je (.int .i64 0)).ah some) (some .undef)).ah fun pE =>
 (aD iS (some (.bool true)) (some pE)).ah fun nP =>
 (aq nP false).ah fun QB=>(au QB (some a1) (some .undef)).ah fun ru =>
 (aq nP false).ah fun QC=>(au QC (some x8) (some .undef)).ah fun Ak =>
 (aq nP false).ah fun Tu=>(au Tu ((binOp .geq ru Ak).ah some) (some .undef)).ah fun rM =>
 (aD nP (some (.bool true)) (some rM)).ah fun qj =>
 (aq qj false).ah fun b38=>(au b38 (some a2) (some .undef)).ah fun rA =>
 (aq qj false).ah fun b42=>(au b42 (some x8) (some .undef)).ah fun Ab =>
 (aq qj false).ah fun b46=>(au b46 (some a1) (some .undef)).ah fun rN =>
 (aq qj false).ah fun b50=>(au b50 ((binOp .sub Ab rN).ah some) (some .undef)).ah fun Cm =>
 (aq qj false).ah fun b54=>(au b54 ((binOp .gtr rA Cm).ah some) (some .undef)).ah fun JM =>
 (aD qj (some (.bool true)) (some JM)).ah fun HL =>
 aD HL (
 bk true false (size h) [.bp,(.int .i64 1)] h7) (
 (dz [.bp,(.int .i64 0),(.int .i64 0)] [(0,1,a0),(1,1,a1),(2,1,a2)]).ah fun Gb =>
 aH (tK 3 Gb h7) fun OB h65 =>
 bk true false (size h) [OB,(.int .i64 0)] h65):=(gT ae8 base _ h).trans (by kernel_rfl)
noncomputable def Gi (base n0:Nat) (v5 v1 v4:PV) (h:Hp):Option (PV × Hp):=Pt T VL [1,1,1,0,1,0,1] base n0 [(5,v5),(1,v1),(4,v4)] h
noncomputable def Lp (base n0:Nat) (v6 v1 v4:PV) (h:Hp):Option (PV × Hp):=Pt T VL [1,1,1,1,0,1,0,1] base n0 [(6,v6),(1,v1),(4,v4)] h
theorem Gj (base n0:Nat) (v5 v1 v4:PV) (h:Hp):Gi base n0 v5 v1 v4 h =
 (binOp .lss v5 (.int .i64 16)).ah fun x1 =>
 aD x1 (
 (aA v1 2).ah fun x3 =>
 (ax 1 false x3 h).ah fun x4 =>
 (cB true x4).ah fun x5 =>
 (binOp .lss v5 x5).ah fun x6 =>
 aD x6 (
 (aA v1 2).ah fun x8 =>
 (ax 1 false x8 h).ah fun x9 =>
 (lY x9 v5).ah fun iS =>
 (cH 1 false [(.int .u8 0)] 1 [(0,strip iS)]).ah fun gJ =>
 aH (cV base h (.vJ 1) [v4,gJ]) fun je Lq =>
 (binOp .add v5 (.int .i64 1)).ah fun pE =>
 Gi base n0 pE v1 je Lq) (
 (cH 1 false [(.int .u8 0)] 1 [(0,strip (.int .u8 0))]).ah fun x20 =>
 aH (cV base h (.vJ 1) [v4,x20]) fun nP OE =>
 (binOp .add v5 (.int .i64 1)).ah fun yj =>
 Gi base n0 yj v1 nP OE)) (
 Lp base n0 (.int .i64 0) v1 v4 h):=(ez T VL [1,1,1,0,1,0,1] base n0 [(5,v5),(1,v1),(4,v4)] h).trans (by kernel_rfl)
theorem Gk (base n0:Nat) (v6 v1 v4:PV) (h:Hp):Lp base n0 v6 v1 v4 h =
 (binOp .lss v6 (.int .i64 32)).ah fun x1 =>
 aD x1 (
 (aA v1 3).ah fun x4 =>
 (aN 1 32 x4 v6).ah fun x5 =>
 (ax 1 false x5 h).ah fun x6 =>
 (cH 1 false [(.int .u8 0)] 1 [(0,strip x6)]).ah fun x7 =>
 aH (cV base h (.vJ 1) [v4,x7]) fun x8 h9 =>
 (binOp .add v6 (.int .i64 1)).ah fun gJ =>
 Lp base n0 gJ v1 x8 h9) (
 aH (ai T base 85 [v4] h) fun mu HN =>
 bk false false n0 [mu,(.int .i64 0)] HN):=(ez T VL [1,1,1,1,0,1,0,1] base n0 [(6,v6),(1,v1),(4,v4)] h).trans (by kernel_rfl)
theorem S50 (base:Nat) (a0:PV) (h:Hp):ai T base 50 [a0] h =
 aH (tK 35 a0 h) fun x0 h1 =>
 (ax 35 true x0 h1).ah fun x4 =>
 aH (ai T (size h) 83 [x4] h1) fun x5 h6 =>
 (unOp .not x5).ah fun x7 =>
 aD x7 (
 bk false false (size h) [.bg,(.int .i64 1)] h6) (
 aH (rQ (size h) 1 h6 (.fC [(.int .u8 79),(.int .u8 84),(.int .u8 80),(.int .u8 88)]) []) fun jf h11 =>
 aH (cV (size h) h11 .mark [jf]) fun gJ h13 =>
 (aA x0 0).ah fun lU =>
 (nL ((size h)+1) 1 false lU h13).ah fun mu =>
 aH (oH (ai T (size h)) ((size h)+1) 84 [gJ,mu] h13) fun oy Ap =>
 (aA x0 1).ah fun pK =>
 (nL ((size h)+1) 1 false pK Ap).ah fun qi =>
 (ct qi .u32).ah fun x20 =>
 aH (oH (ai T (size h)) ((size h)+1) 84 [oy,x20] Ap) fun nP OE =>
 Gi (size h) (size h) (.int .i64 0) x0 nP OE):=(aZ ae9 base _ h).trans (by kernel_rfl)
noncomputable def Lr (base n0:Nat) (v4 v0 v3 v2:PV) (h:Hp):Option (PV × Hp):=Pt T DF [1,1,0,1,0,1] base n0 [(4,v4),(0,v0),(3,v3),(2,v2)] h
noncomputable def Gl (base n0:Nat) (v3 v2 v0:PV) (h:Hp):Option (PV × Hp):=Pt T DF [1,1,1,1,0,0,1] base n0 [(3,v3),(2,v2),(0,v0)] h
noncomputable def vm (base n0:Nat) (v6 v5 v3 v2:PV) (h:Hp):Option (PV × Hp):=Pt T DF [1,1,1,1,1,1,0,1,0,1] base n0 [(6,v6),(5,v5),(3,v3),(2,v2)] h
noncomputable def qM (base n0:Nat) (v8 v3 v7 v2:PV) (h:Hp):Option (PV × Hp):=Pt T DF [1,1,1,1,1,1,1,1,0,1,0,1] base n0 [(8,v8),(3,v3),(7,v7),(2,v2)] h
noncomputable def Au (base n0:Nat) (v10 v9 v8 v3 v7 v2:PV) (h:Hp):Option (PV × Hp):=Pt T DF [1,1,1,1,1,1,1,1,0,1,0,1,0,0,1,0,0,1,0,1,0,1] base n0 [(10,v10),(9,v9),(8,v8),(3,v3),(7,v7),(2,v2)] h
noncomputable def Ls (base n0:Nat) (TE Xm v7 v2:PV) (h:Hp):Option (PV × Hp):=Pt T DF [1,1,1,1,1,1,1,1,1,1,0,1,0,1] base n0 [(19,TE),(18,Xm),(7,v7),(2,v2)] h
noncomputable def Gm (base n0:Nat) (UK oh v9 v7 v3 v2 v8:PV) (h:Hp):Option (PV × Hp):=Pt T DF [1,1,1,1,1,1,1,1,0,1,0,1,0,0,1,0,0,1,1,1,0,1,0,1] base n0 [(14,UK),(13,oh),(9,v9),(7,v7),(3,v3),(2,v2),(8,v8)] h
noncomputable def Gn (base n0:Nat) (TF v7 oh v3 v2 v8:PV) (h:Hp):Option (PV × Hp):=Pt T DF [1,1,1,1,1,1,1,1,0,1,0,1,0,0,1,0,0,1,1,1,1,1,0,1] base n0 [(17,TF),(7,v7),(13,oh),(3,v3),(2,v2),(8,v8)] h
theorem Gp (base n0:Nat) (v4 v0 v3 v2:PV) (h:Hp):Lr base n0 v4 v0 v3 v2 h =
 (cB false v0).ah fun x2 =>
 (binOp .lss v4 x2).ah fun x3 =>
 aD x3 (
 (cW v0 v4 1).ah fun x7 =>
 (ax 1 false x7 h).ah fun x8 =>
 (cH 1 false [(.int .u8 0)] 1 [(0,strip x8)]).ah fun x9 =>
 aH (qH 5 1 v3 x9 h) fun jf h11 =>
 (binOp .add v4 (.int .i64 1)).ah fun lU =>
 Lr base n0 lU v0 jf v2 h11) (
 (cH 1 false [(.int .u8 0)] 1 [(0,strip (.int .u8 128))]).ah fun pE =>
 aH (qH 5 1 v3 pE h) fun pK OA =>
 Gl base n0 pK v2 v0 OA):=(ez T DF [1,1,0,1,0,1] base n0 [(4,v4),(0,v0),(3,v3),(2,v2)] h).trans (by kernel_rfl)
theorem Gq (base n0:Nat) (v3 v2 v0:PV) (h:Hp):Gl base n0 v3 v2 v0 h =
 (cB false v3).ah fun x1 =>
 (binOp .rem x1 (.int .i64 64)).ah fun x2 =>
 (binOp .neq x2 (.int .i64 56)).ah fun x3 =>
 aD x3 (
 (cH 1 false [(.int .u8 0)] 1 [(0,strip (.int .u8 0))]).ah fun x5 =>
 aH (qH 5 1 v3 x5 h) fun x6 h7 =>
 Gl base n0 x6 v2 v0 h7) (
 (cB false v0).ah fun jf =>
 (ct jf .u64).ah fun iS =>
 (binOp .mul iS (.int .u64 8)).ah fun gJ =>
 vm base n0 (.int .i64 7) gJ v3 v2 h):=(ez T DF [1,1,1,1,0,0,1] base n0 [(3,v3),(2,v2),(0,v0)] h).trans (by kernel_rfl)
theorem Gr (base n0:Nat) (v6 v5 v3 v2:PV) (h:Hp):vm base n0 v6 v5 v3 v2 h =
 (binOp .geq v6 (.int .i64 0)).ah fun x1 =>
 aD x1 (
 (binOp .mul (.int .i64 8) v6).ah fun x5 =>
 (binOp .shr v5 x5).ah fun x6 =>
 (ct x6 .u8).ah fun x7 =>
 (cH 1 false [(.int .u8 0)] 1 [(0,strip x7)]).ah fun x8 =>
 aH (qH 5 1 v3 x8 h) fun x9 h10 =>
 (binOp .sub v6 (.int .i64 1)).ah fun je =>
 vm base n0 je v5 x9 v2 h10) (
 (dz (rep 8 (.int .u32 0)) [(0,1,(.int .u32 1779033703)),(1,1,(.int .u32 3144134277)),(2,1,(.int .u32 1013904242)),(3,1,(.int .u32 2773480762)),(4,1,(.int .u32 1359893119)),(5,1,(.int .u32 2600822924)),(6,1,(.int .u32 528734635)),(7,1,(.int .u32 1541459225))]).ah fun mu =>
 eo (rep 8 (.int .u32 0)) h fun oy Ap =>
 (aS base 8 oy mu Ap).ah fun h18 =>
 qM base n0 (.int .i64 0) v3 oy v2 h18):=(ez T DF [1,1,1,1,1,1,0,1,0,1] base n0 [(6,v6),(5,v5),(3,v3),(2,v2)] h).trans (by kernel_rfl)
theorem Gs (base n0:Nat) (v8 v3 v7 v2:PV) (h:Hp):qM base n0 v8 v3 v7 v2 h =
 (cB false v3).ah fun x2 =>
 (binOp .lss v8 x2).ah fun x3 =>
 aD x3 (
 (dz (rep 64 (.int .u32 0)) []).ah fun x4 =>
 eo (rep 64 (.int .u32 0)) h fun x5 h6 =>
 (aS base 64 x5 x4 h6).ah fun h7 =>
 Au base n0 (.int .i64 0) x5 v8 v3 v7 v2 h7) (
 (dz (rep 32 (.int .u8 0)) []).ah fun x9 =>
 eo (rep 32 (.int .u8 0)) h fun jf h11 =>
 (aS base 32 jf x9 h11).ah fun h12 =>
 Ls base n0 (.int .i64 0) jf v7 v2 h12):=(ez T DF [1,1,1,1,1,1,1,1,0,1,0,1] base n0 [(8,v8),(3,v3),(7,v7),(2,v2)] h).trans (by kernel_rfl)
theorem Av (base n0:Nat) (v10 v9 v8 v3 v7 v2:PV) (h:Hp):Au base n0 v10 v9 v8 v3 v7 v2 h =
 (binOp .lss v10 (.int .i64 64)).ah fun x1 =>
 aD x1 (
 (binOp .lss v10 (.int .i64 16)).ah fun x3 =>
 aD x3 (
 (binOp .mul (.int .i64 4) v10).ah fun x8 =>
 (binOp .add v8 x8).ah fun x9 =>
 (cW v3 x9 1).ah fun jf =>
 (ax 1 false jf h).ah fun iS =>
 (ct iS .u32).ah fun gJ =>
 (binOp .mul gJ (.int .u32 16777216)).ah fun je =>
 (binOp .mul (.int .i64 4) v10).ah fun pE =>
 (binOp .add v8 pE).ah fun pK =>
 (binOp .add pK (.int .i64 1)).ah fun qi =>
 (cW v3 qi 1).ah fun x20 =>
 (ax 1 false x20 h).ah fun nP =>
 (ct nP .u32).ah fun oz =>
 (binOp .mul oz (.int .u32 65536)).ah fun ru =>
 (binOp .add je ru).ah fun sP =>
 (binOp .mul (.int .i64 4) v10).ah fun Al =>
 (binOp .add v8 Al).ah fun Aa =>
 (binOp .add Aa (.int .i64 2)).ah fun wj =>
 (cW v3 wj 1).ah fun rM =>
 (ax 1 false rM h).ah fun JY =>
 (ct JY .u32).ah fun Ao =>
 (binOp .mul Ao (.int .u32 256)).ah fun vR =>
 (binOp .add sP vR).ah fun qj =>
 (binOp .mul (.int .i64 4) v10).ah fun sM =>
 (binOp .add v8 sM).ah fun BG =>
 (binOp .add BG (.int .i64 3)).ah fun Ab =>
 (cW v3 Ab 1).ah fun NF =>
 (ax 1 false NF h).ah fun HK =>
 (ct HK .u32).ah fun vS =>
 (binOp .add qj vS).ah fun rN =>
 (aN 1 64 v9 v10).ah fun NG =>
 (aS base 1 NG rN h).ah fun WJ =>
 (binOp .add v10 (.int .i64 1)).ah fun Cm =>
 Au base n0 Cm v9 v8 v3 v7 v2 WJ) (
 (binOp .sub v10 (.int .i64 15)).ah fun Sa =>
 (aN 1 64 v9 Sa).ah fun JM =>
 (ax 1 false JM h).ah fun wk =>
 aH (gv (ai T base) 86 [wk,(.int .i64 7)] h) fun vk Sc=>(fun y=>if Sc=h then y else none) <|
 (binOp .sub v10 (.int .i64 15)).ah fun yg =>
 (aN 1 64 v9 yg).ah fun Cj =>
 (ax 1 false Cj h).ah fun OC =>
 aH (gv (ai T base) 86 [OC,(.int .i64 18)] h) fun J1 h62=>(fun y=>if h62=h then y else none) <|
 (binOp .xor vk J1).ah fun Gb =>
 (binOp .sub v10 (.int .i64 15)).ah fun TD =>
 (aN 1 64 v9 TD).ah fun HM =>
 (ax 1 false HM h).ah fun QW =>
 (binOp .shr QW (.int .u64 3)).ah fun Gd =>
 (binOp .xor Gb Gd).ah fun Tv =>
 (binOp .sub v10 (.int .i64 2)).ah fun Xj =>
 (aN 1 64 v9 Xj).ah fun NH =>
 (ax 1 false NH h).ah fun Qy =>
 aH (gv (ai T base) 86 [Qy,(.int .i64 17)] h) fun Xk h76=>(fun y=>if h76=h then y else none) <|
 (binOp .sub v10 (.int .i64 2)).ah fun Cl =>
 (aN 1 64 v9 Cl).ah fun x79 =>
 (ax 1 false x79 h).ah fun WK =>
 aH (gv (ai T base) 86 [WK,(.int .i64 19)] h) fun Lm W6=>(fun y=>if W6=h then y else none) <|
 (binOp .xor Xk Lm).ah fun QF =>
 (binOp .sub v10 (.int .i64 2)).ah fun x85 =>
 (aN 1 64 v9 x85).ah fun W7 =>
 (ax 1 false W7 h).ah fun QX =>
 (binOp .shr QX (.int .u64 10)).ah fun Qz =>
 (binOp .xor QF Qz).ah fun TC =>
 (binOp .sub v10 (.int .i64 16)).ah fun Xn =>
 (aN 1 64 v9 Xn).ah fun W9 =>
 (ax 1 false W9 h).ah fun x95 =>
 (binOp .add x95 Tv).ah fun W8 =>
 (binOp .sub v10 (.int .i64 7)).ah fun x99 =>
 (aN 1 64 v9 x99).ah fun JN =>
 (ax 1 false JN h).ah fun ak5 =>
 (binOp .add W8 ak5).ah fun Aq =>
 (binOp .add Aq TC).ah fun tP =>
 (aN 1 64 v9 v10).ah fun ak6 =>
 (aS base 1 ak6 tP h).ah fun ak7 =>
 (binOp .add v10 (.int .i64 1)).ah fun QG =>
 Au base n0 QG v9 v8 v3 v7 v2 ak7)) (
 (ax 8 true v7 h).ah fun WO =>
 eo (rep 8 (.int .u32 0)) h fun aaF ak8 =>
 (aS base 8 aaF WO ak8).ah fun ak9 =>
 Gm base n0 (.int .i64 0) aaF v9 v7 v3 v2 v8 ak9):=(ez T DF [1,1,1,1,1,1,1,1,0,1,0,1,0,0,1,0,0,1,0,1,0,1] base n0 [(10,v10),(9,v9),(8,v8),(3,v3),(7,v7),(2,v2)] h).trans (by kernel_rfl)
theorem Gt (base n0:Nat) (TE Xm v7 v2:PV) (h:Hp):Ls base n0 TE Xm v7 v2 h =
 (binOp .lss TE (.int .i64 32)).ah fun x1 =>
 aD x1 (
 (binOp .quo TE (.int .i64 4)).ah fun x4 =>
 (aN 1 8 v7 x4).ah fun x5 =>
 (ax 1 false x5 h).ah fun x6 =>
 (binOp .rem TE (.int .i64 4)).ah fun x8 =>
 (binOp .mul (.int .i64 8) x8).ah fun x9 =>
 (binOp .sub (.int .i64 24) x9).ah fun jf =>
 (binOp .shr x6 jf).ah fun iS =>
 (ct iS .u8).ah fun gJ =>
 (aN 1 32 Xm TE).ah fun je =>
 (aS base 1 je gJ h).ah fun Lq =>
 (binOp .add TE (.int .i64 1)).ah fun oy =>
 Ls base n0 oy Xm v7 v2 Lq) (
 (ax 32 true Xm h).ah fun pK =>
 (aS base 32 v2 pK h).ah fun OA =>
 (qS v2 OA 32 true).ah fun r20 =>
 bk false false n0 [r20] OA):=(ez T DF [1,1,1,1,1,1,1,1,1,1,0,1,0,1] base n0 [(19,TE),(18,Xm),(7,v7),(2,v2)] h).trans (by kernel_rfl)
theorem Gu (base n0:Nat) (UK oh v9 v7 v3 v2 v8:PV) (h:Hp):Gm base n0 UK oh v9 v7 v3 v2 v8 h =
 (binOp .lss UK (.int .i64 64)).ah fun x1 =>
 aD x1 (
 (aN 1 8 oh (.int .i64 7)).ah fun x2 =>
 (ax 1 false x2 h).ah fun x3 =>
 (aN 1 8 oh (.int .i64 4)).ah fun x4 =>
 (ax 1 false x4 h).ah fun x5 =>
 aH (gv (ai T base) 86 [x5,(.int .i64 6)] h) fun x6 h7=>(fun y=>if h7=h then y else none) <|
 (aN 1 8 oh (.int .i64 4)).ah fun x8 =>
 (ax 1 false x8 h).ah fun x9 =>
 aH (gv (ai T base) 86 [x9,(.int .i64 11)] h) fun jf h11=>(fun y=>if h11=h then y else none) <|
 (binOp .xor x6 jf).ah fun gJ =>
 (aN 1 8 oh (.int .i64 4)).ah fun je =>
 (ax 1 false je h).ah fun lU =>
 aH (gv (ai T base) 86 [lU,(.int .i64 25)] h) fun mu HN=>(fun y=>if HN=h then y else none) <|
 (binOp .xor gJ mu).ah fun pE =>
 (binOp .add x3 pE).ah fun pK =>
 (aN 1 8 oh (.int .i64 4)).ah fun qi =>
 (ax 1 false qi h).ah fun x20 =>
 (aN 1 8 oh (.int .i64 5)).ah fun nP =>
 (ax 1 false nP h).ah fun oz =>
 (binOp .and x20 oz).ah fun ru =>
 (aN 1 8 oh (.int .i64 4)).ah fun sP =>
 (ax 1 false sP h).ah fun yj =>
 (unOp .xor yj).ah fun sL =>
 (aN 1 8 oh (.int .i64 6)).ah fun Ak =>
 (ax 1 false Ak h).ah fun Al =>
 (binOp .and sL Al).ah fun Aa =>
 (binOp .xor ru Aa).ah fun wj =>
 (binOp .add pK wj).ah fun rM =>
 (aN 1 64 (.ep KS 0) UK).ah fun Ao =>
 (ax 1 false Ao h).ah fun vR =>
 (binOp .add rM vR).ah fun qj =>
 (aN 1 64 v9 UK).ah fun rA =>
 (ax 1 false rA h).ah fun BH =>
 (binOp .add qj BH).ah fun sM =>
 (aN 1 8 oh (.int .i64 0)).ah fun Ab =>
 (ax 1 false Ab h).ah fun NF =>
 aH (gv (ai T base) 86 [NF,(.int .i64 2)] h) fun HK h44=>(fun y=>if h44=h then y else none) <|
 (aN 1 8 oh (.int .i64 0)).ah fun rN =>
 (ax 1 false rN h).ah fun NG =>
 aH (gv (ai T base) 86 [NG,(.int .i64 13)] h) fun DN h48=>(fun y=>if h48=h then y else none) <|
 (binOp .xor HK DN).ah fun Cm =>
 (aN 1 8 oh (.int .i64 0)).ah fun J0 =>
 (ax 1 false J0 h).ah fun Bf =>
 aH (gv (ai T base) 86 [Bf,(.int .i64 22)] h) fun Sa h53=>(fun y=>if h53=h then y else none) <|
 (binOp .xor Cm Sa).ah fun wk =>
 (aN 1 8 oh (.int .i64 0)).ah fun vk =>
 (ax 1 false vk h).ah fun Sd =>
 (aN 1 8 oh (.int .i64 1)).ah fun HL =>
 (ax 1 false HL h).ah fun yg =>
 (binOp .and Sd yg).ah fun Cj =>
 (aN 1 8 oh (.int .i64 0)).ah fun OC =>
 (ax 1 false OC h).ah fun J1 =>
 (aN 1 8 oh (.int .i64 2)).ah fun Xi =>
 (ax 1 false Xi h).ah fun Gb =>
 (binOp .and J1 Gb).ah fun OB =>
 (binOp .xor Cj OB).ah fun TD =>
 (aN 1 8 oh (.int .i64 1)).ah fun HM =>
 (ax 1 false HM h).ah fun QW =>
 (aN 1 8 oh (.int .i64 2)).ah fun Gd =>
 (ax 1 false Gd h).ah fun Tv =>
 (binOp .and QW Tv).ah fun Sb =>
 (binOp .xor TD Sb).ah fun TB =>
 (binOp .add wk TB).ah fun Xj =>
 (binOp .add sM Xj).ah fun W5 =>
 (aN 1 8 oh (.int .i64 0)).ah fun QE =>
 (ax 1 false QE h).ah fun Cl =>
 (aN 1 8 oh (.int .i64 1)).ah fun x79 =>
 (ax 1 false x79 h).ah fun WK =>
 (aN 1 8 oh (.int .i64 2)).ah fun Lm =>
 (ax 1 false Lm h).ah fun UI =>
 (aN 1 8 oh (.int .i64 3)).ah fun QF =>
 (ax 1 false QF h).ah fun WL =>
 (binOp .add WL sM).ah fun W7 =>
 (aN 1 8 oh (.int .i64 4)).ah fun QX =>
 (ax 1 false QX h).ah fun Qz =>
 (aN 1 8 oh (.int .i64 5)).ah fun TC =>
 (ax 1 false TC h).ah fun OD =>
 (aN 1 8 oh (.int .i64 6)).ah fun x91 =>
 (ax 1 false x91 h).ah fun Tt =>
 (dz (rep 8 (.int .u32 0)) [(0,1,W5),(1,1,Cl),(2,1,WK),(3,1,UI),(4,1,W7),(5,1,Qz),(6,1,OD),(7,1,Tt)]).ah fun Xn =>
 (aS base 8 oh Xn h).ah fun h94 =>
 (binOp .add UK (.int .i64 1)).ah fun WM =>
 Gm base n0 WM oh v9 v7 v3 v2 v8 h94) (
 Gn base n0 (.int .i64 0) v7 oh v3 v2 v8 h):=(ez T DF [1,1,1,1,1,1,1,1,0,1,0,1,0,0,1,0,0,1,1,1,0,1,0,1] base n0 [(14,UK),(13,oh),(9,v9),(7,v7),(3,v3),(2,v2),(8,v8)] h).trans (by kernel_rfl)
theorem Gv (base n0:Nat) (TF v7 oh v3 v2 v8:PV) (h:Hp):Gn base n0 TF v7 oh v3 v2 v8 h =
 (binOp .lss TF (.int .i64 8)).ah fun x1 =>
 aD x1 (
 (aN 1 8 v7 TF).ah fun x4 =>
 (ax 1 false x4 h).ah fun x5 =>
 (aN 1 8 oh TF).ah fun x7 =>
 (ax 1 false x7 h).ah fun x8 =>
 (binOp .add x5 x8).ah fun x9 =>
 (aN 1 8 v7 TF).ah fun jf =>
 (aS base 1 jf x9 h).ah fun h11 =>
 (binOp .add TF (.int .i64 1)).ah fun je =>
 Gn base n0 je v7 oh v3 v2 v8 h11) (
 (binOp .add v8 (.int .i64 64)).ah fun oy =>
 qM base n0 oy v3 v7 v2 h):=(ez T DF [1,1,1,1,1,1,1,1,0,1,0,1,0,0,1,0,0,1,1,1,1,1,0,1] base n0 [(17,TF),(7,v7),(13,oh),(3,v3),(2,v2),(8,v8)] h).trans (by kernel_rfl)
theorem S51 (base:Nat) (a0:PV) (h:Hp):ai T base 51 [a0] h =
 eo (rep 32 (.int .u8 0)) h fun x0 h1 =>
 (cH 1 false [(.int .u8 0)] 0 []).ah fun x2 =>
 Lr (size h) (size h) (.int .i64 0) a0 x2 x0 h1:=(aZ afa base _ h).trans (by kernel_rfl)
noncomputable def Gw (base n0:Nat) (v4 v0 v3:PV) (h:Hp):Option (PV × Hp):=Pt T VM [1,1,0,1,0,1] base n0 [(4,v4),(0,v0),(3,v3)] h
noncomputable def Lt (base n0:Nat) (v5 v4 v0 v3:PV) (h:Hp):Option (PV × Hp):=Pt T VM [1,1,0,1,0,1,0,0,1,0,0,1,0,1] base n0 [(5,v5),(4,v4),(0,v0),(3,v3)] h
theorem Gy (base n0:Nat) (v4 v0 v3:PV) (h:Hp):Gw base n0 v4 v0 v3 h =
 (cB false v0).ah fun x2 =>
 (binOp .lss v4 x2).ah fun x3 =>
 aD x3 (
 Lt base n0 (.int .i64 0) v4 v0 v3 h) (
 bk false true n0 [v3] h):=(ez T VM [1,1,0,1,0,1] base n0 [(4,v4),(0,v0),(3,v3)] h).trans (by kernel_rfl)
theorem Gz (base n0:Nat) (v5 v4 v0 v3:PV) (h:Hp):Lt base n0 v5 v4 v0 v3 h =
 (cW v0 v4 1).ah fun x3 =>
 (ax 1 false x3 h).ah fun x4 =>
 (cB false x4).ah fun x5 =>
 (binOp .lss v5 x5).ah fun x6 =>
 aD x6 (
 (cW v0 v4 1).ah fun jf =>
 (ax 1 false jf h).ah fun iS =>
 (cW iS v5 1).ah fun je =>
 (ax 1 false je h).ah fun lU =>
 (cH 1 false [(.int .u8 0)] 1 [(0,strip lU)]).ah fun mu =>
 aH (cV base h (.vJ 1) [v3,mu]) fun oy Ap =>
 (binOp .add v5 (.int .i64 1)).ah fun x20 =>
 Lt base n0 x20 v4 v0 oy Ap) (
 (binOp .add v4 (.int .i64 1)).ah fun ru =>
 Gw base n0 ru v0 v3 h):=(ez T VM [1,1,0,1,0,1,0,0,1,0,0,1,0,1] base n0 [(5,v5),(4,v4),(0,v0),(3,v3)] h).trans (by kernel_rfl)
theorem S52 (base:Nat) (a0:PV) (h:Hp):ai T base 52 [a0] h =
 (cH 1 false [(.int .u8 0)] 0 []).ah fun x1 =>
 Gw (size h) (size h) (.int .i64 0) a0 x1 h:=(aZ afb base _ h).trans (by kernel_rfl)
theorem S53 (base:Nat) (a0:PV) (h:Hp):ai T base 53 [a0] h =
 (aF a0).ah fun x2 =>
 (aA x2 0).ah fun x3 =>
 (aN 1 2 x3 (.int .i64 0)).ah fun x4 =>
 (ax 1 false x4 h).ah fun x5 =>
 aH (ai T (size h) 87 [x5] h) fun x6 h7 =>
 aH (ai T (size h) 41 [x6] h7) fun x8 h9 =>
 (aq x8 false).ah fun Tw=>(au Tw (some a0) (some .undef)).ah fun iS =>
 (aq x8 false).ah fun Qd=>(au Qd ((aF iS).ah some) (some .undef)).ah fun mu =>
 (aq x8 false).ah fun Tf=>(au Tf ((aA mu 0).ah some) (some .undef)).ah fun qi =>
 (aq x8 false).ah fun QB=>(au QB ((aN 1 2 qi (.int .i64 1)).ah some) (some .undef)).ah fun ru =>
 (aq x8 false).ah fun QC=>(au QC ((ax 1 false ru h9).ah some) (some .undef)).ah fun Ak =>
 (aq x8 false).ah fun Tu=>aH (au Tu (aH (ai T (size h) 87 [Ak] h9) fun vR JZ=>some (vR,JZ)) (some (.undef,h9))) fun rM JZ =>
 (aq x8 false).ah fun b36=>aH (au b36 (aH (ai T (size h) 41 [rM] JZ) fun BH h37=>some (BH,h37)) (some (.undef,JZ))) fun qj h37 =>
 (aD x8 (some (.bool true)) (some qj)).ah fun sM =>
 bk false false (size h) [sM] h37:=(aZ afc base _ h).trans (by kernel_rfl)
theorem S54 (base:Nat) (a0:PV) (h:Hp):ai T base 54 [a0] h =
 (aF a0).ah fun x2 =>
 (aA x2 2).ah fun x3 =>
 (ax 1 false x3 h).ah fun x4 =>
 (aF a0).ah fun x6 =>
 (aA x6 0).ah fun x7 =>
 (ax 1 false x7 h).ah fun x8 =>
 aH (gv (ai T (size h)) 82 [x8] h) fun x9 h10=>(fun y=>if h10=h then y else none) <|
 (binOp .mul x4 x9).ah fun iS =>
 bk false false (size h) [iS] h:=(aZ afd base _ h).trans (by kernel_rfl)
noncomputable def Lu (base n0:Nat) (v9 v0 v8:PV) (h:Hp):Option (PV × Hp):=Pt T YY [1,0,1,0,1] base n0 [(9,v9),(0,v0),(8,v8)] h
theorem GA (base n0:Nat) (v9 v0 v8:PV) (h:Hp):Lu base n0 v9 v0 v8 h =
 (binOp .lss v9 v8).ah fun x0 =>
 aD x0 (
 (aF v0).ah fun x4 =>
 (aA x4 0).ah fun x5 =>
 (ax 1 false x5 h).ah fun x6 =>
 (aF v0).ah fun x8 =>
 (aA x8 1).ah fun x9 =>
 (ax 1 false x9 h).ah fun jf =>
 (binOp .add jf v9).ah fun gJ =>
 aH (ai T base 88 [x6,gJ] h) fun je Lq =>
 (binOp .neq je (.int .i64 0)).ah fun pE =>
 aD pE (
 bk false false n0 [je] Lq) (
 (binOp .add v9 (.int .i64 1)).ah fun x20 =>
 Lu base n0 x20 v0 v8 Lq)) (
 bk false false n0 [(.int .i64 0)] h):=(ez T YY [1,0,1,0,1] base n0 [(9,v9),(0,v0),(8,v8)] h).trans (by kernel_rfl)
theorem S55 (base:Nat) (a0:PV) (h:Hp):ai T base 55 [a0] h =
 (aF a0).ah fun x2 =>
 (aA x2 2).ah fun x3 =>
 (ax 1 false x3 h).ah fun x4 =>
 Lu (size h) (size h) (.int .i64 0) a0 x4 h:=(aZ afe base _ h).trans (by kernel_rfl)
theorem S56 (base:Nat) (h:Hp):ai T base 56 [] h =
 aH (ai T base 89 [] h) fun x1 h2 =>
 (dz (rep 8 (.int .u32 0)++rep 64 (.int .u8 0)++[(.int .i64 0)]) [(0,8,x1)]).ah fun x3 =>
 aH (tK 73 x3 h2) fun x4 h5 =>
 bk true false (size h) [x4] h5:=(gT aff base _ h).trans (by kernel_rfl)
theorem S57 (base:Nat) (a0:PV) (h:Hp):ai T base 57 [a0] h =
 aH (ai T (size h) 53 [a0] h) fun x2 h3 =>
 aD x2 (
 aH (ai T (size h) 36 [a0] h3) fun x6 h7 =>
 bk false false (size h) [(.int .i64 30)] h7) (
 (aF a0).ah fun jf =>
 (aA jf 4).ah fun iS =>
 (ax 1 false iS h3).ah fun gJ =>
 (gG 0 false gJ).ah fun je =>
 aD je (
 bk false false (size h) [(.int .i64 60)] h3) (
 bk false false (size h) [(.int .i64 0)] h3)):=(aZ afg base _ h).trans (by kernel_rfl)
theorem S58 (base:Nat) (a0 a1:PV) (h:Hp):ai T base 58 [a0,a1] h =
 (cB false a1).ah fun x1 =>
 (aF a0).ah fun x3 =>
 (aA x3 2).ah fun x4 =>
 (ax 1 false x4 h).ah fun x5 =>
 (cB false x5).ah fun x6 =>
 (binOp .sub (.int .i64 64) x6).ah fun x7 =>
 (jI false [x1,x7]).ah fun x8 =>
 (aF a0).ah fun gJ =>
 (aA gJ 2).ah fun je =>
 (ax 1 false je h).ah fun lU =>
 (cO (some 1) none (some x8) none a1).ah fun pE =>
 aH (qH 5 1 lU pE h) fun pK OA =>
 (aF a0).ah fun x20 =>
 (aA x20 2).ah fun nP =>
 (aS base 1 nP pK OA).ah fun OE =>
 (aF a0).ah fun sP =>
 (aA sP 3).ah fun yj =>
 (ax 1 false yj OE).ah fun sL =>
 (cO (some 1) (some x8) none none a1).ah fun Aa =>
 aH (ai T base 90 [sL,Aa] OE) fun wj Qx =>
 (aF a0).ah fun Ao =>
 (aA Ao 1).ah fun vR =>
 (ax 1 false vR Qx).ah fun qj =>
 (cB false a1).ah fun rA =>
 (binOp .add qj rA).ah fun BH =>
 (aF a0).ah fun sM =>
 (aA sM 1).ah fun BG =>
 (aS base 1 BG BH Qx).ah fun h41 =>
 bk true false (size h) [] h41:=(gT afh base _ h).trans (by kernel_rfl)
theorem S59 (base:Nat) (a0:PV) (h:Hp):ai T base 59 [a0] h =
 (aF a0).ah fun x2 =>
 (aA x2 2).ah fun x3 =>
 (ax 1 false x3 h).ah fun x4 =>
 (cB false x4).ah fun x5 =>
 (binOp .lss x5 (.int .i64 64)).ah fun x6 =>
 aD x6 (
 bk false false (size h) [(.int .i64 0)] h) (
 (aF a0).ah fun x9 =>
 (aA x9 2).ah fun jf =>
 (ax 1 false jf h).ah fun iS =>
 aH (ai T (size h) 60 [iS] h) fun gJ h13 =>
 (aE gJ 0).ah fun mu =>
 (aE gJ 1).ah fun oy =>
 eo Ec h13 fun pE h18 =>
 (aS (size h) 35 pE mu h18).ah fun OA =>
 (binOp .eql oy (.int .i64 0)).ah fun oz =>
 (aq oz true).ah fun b25=>(au b25 ((aA pE 1).ah some) (some .undef)).ah fun sP =>
 (aq oz true).ah fun b29=>(au b29 ((ax 1 false sP OA).ah some) (some .undef)).ah fun Al =>
 (aq oz true).ah fun b33=>(au b33 ((binOp .add Al (.int .i64 64)).ah some) (some .undef)).ah fun JY =>
 (aq oz true).ah fun b37=>(au b37 (some a0) (some .undef)).ah fun ND =>
 (aq oz true).ah fun b41=>(au b41 ((aF ND).ah some) (some .undef)).ah fun BG =>
 (aq oz true).ah fun b45=>(au b45 ((aA BG 0).ah some) (some .undef)).ah fun vS =>
 (aq oz true).ah fun b49=>(au b49 ((ax 1 false vS OA).ah some) (some .undef)).ah fun Ed =>
 (aq oz true).ah fun b53=>(au b53 ((binOp .neq JY Ed).ah some) (some .undef)).ah fun Sa =>
 (aD oz (some Sa) (some (.bool false))).ah fun Sd =>
 aD Sd (
 bk false false (size h) [(.int .i64 53)] OA) (
 bk false false (size h) [oy] OA)):=(aZ ar5 base _ h).trans (by kernel_rfl)
theorem S60 (base:Nat) (a0:PV) (h:Hp):ai T base 60 [a0] h =
 eo Ec h fun x0 h1 =>
 (cB false a0).ah fun x4 =>
 (binOp .lss x4 (.int .i64 64)).ah fun x5 =>
 aD x5 (
 (dz Ec []).ah fun x7 =>
 (aS (size h) 35 x0 x7 h1).ah fun h8 =>
 (qS x0 h8 35 true).ah fun r10 =>
 bk false false (size h) [r10,(.int .i64 20)] h8) (
 aH (cV (size h) h1 (.fC [(.int .u8 79),(.int .u8 84),(.int .u8 80),(.int .u8 88)]) []) fun gJ h13 =>
 aH (cV (size h) h13 .mark [gJ]) fun lU Qh =>
 aH (ai T (size h) 91 [a0,lU] Qh) fun oy Ap =>
 (unOp .not oy).ah fun pK =>
 aD pK (
 (dz Ec []).ah fun x20 =>
 (aS (size h) 35 x0 x20 Ap).ah fun Gc =>
 (qS x0 Gc 35 true).ah fun r23 =>
 bk false false (size h) [r23,(.int .i64 50)] Gc) (
 (cO (some 1) none (some (.int .i64 64)) none a0).ah fun yj =>
 aH (ai T (size h) 92 [yj] Ap) fun Al QY =>
 (aE Al 0).ah fun rM =>
 (aE Al 1).ah fun JY =>
 (unOp .not JY).ah fun ND =>
 aD ND (
 (dz Ec []).ah fun rA =>
 (aS (size h) 35 x0 rA QY).ah fun QD =>
 (qS x0 QD 35 true).ah fun r40 =>
 bk false false (size h) [r40,(.int .i64 51)] QD) (
 eo Ec QY fun Ab h42 =>
 (cO (some 1) (some (.int .i64 4)) none none yj).ah fun vS =>
 aH (ai T (size h) 93 [vS] h42) fun rN h46 =>
 (aE rN 0).ah fun Ed =>
 (aE rN 1).ah fun Cm =>
 (aA Ab 0).ah fun J0 =>
 (aS (size h) 1 J0 Ed h46).ah fun h51 =>
 (cO (some 1) (some (.int .i64 8)) none none yj).ah fun JM =>
 aH (ai T (size h) 93 [JM] h51) fun wk h55 =>
 (aE wk 0).ah fun HL =>
 (aE wk 1).ah fun yg =>
 (cO (some 1) (some (.int .i64 12)) (some (.int .i64 28)) none yj).ah fun Xi =>
 aH (ai T (size h) 94 [Xi] h55) fun Gb HO =>
 (aE Gb 0).ah fun HM =>
 (aE Gb 1).ah fun QW =>
 (unOp .not QW).ah fun TB =>
 (aq TB false).ah fun b74=>(au b74 (some HL) (some .undef)).ah fun NH =>
 (aq TB false).ah fun b78=>(au b78 ((binOp .gtr NH (.int .u32 1048576)).ah some) (some .undef)).ah fun QE =>
 (aD TB (some (.bool true)) (some QE)).ah fun Lm =>
 aD Lm (
 (dz Ec []).ah fun UI =>
 (aS (size h) 35 x0 UI HO).ah fun h83 =>
 (qS x0 h83 35 true).ah fun r85 =>
 bk false false (size h) [r85,(.int .i64 20)] h83) (
 (ct HL .i64).ah fun QX =>
 (aA Ab 1).ah fun TC =>
 (aS (size h) 1 TC QX HO).ah fun h90 =>
 (aA Ab 2).ah fun x91 =>
 (aS (size h) 1 x91 HM h90).ah fun h92 =>
 (aA Ab 3).ah fun Xn =>
 aH (cV (size h) h92 (.jt 1 32 false false) [Xn]) fun W9 h95 =>
 (cO (some 1) (some (.int .i64 28)) (some (.int .i64 60)) none yj).ah fun W8 =>
 aH (copyV (size h) W9 W8 h95) fun x98 h99 =>
 (ax 35 true Ab h99).ah fun JN =>
 (aS (size h) 35 x0 JN h99).ah fun aaH =>
 (qS x0 aaH 35 true).ah fun ale =>
 bk false false (size h) [ale,(.int .i64 0)] aaH)))):=(aZ afi base _ h).trans (by kernel_rfl)
noncomputable def ada (base n0:Nat) (v4 Xm TF v2:PV) (h:Hp):Option (PV × Hp):=Pt T F61 [1,1,1,1,0,1,0,1] base n0 [(4,v4),(18,Xm),(17,TF),(2,v2)] h
noncomputable def acp (base n0:Nat) (v22 v4 v6 v5 TF v2 Xm:PV) (h:Hp):Option (PV × Hp):=Pt T F61 [1,1,1,1,0,1,0,1,0,0,1,1,0,0,1,1,0,1] base n0 [(22,v22),(4,v4),(6,v6),(5,v5),(17,TF),(2,v2),(18,Xm)] h
theorem ade (base n0:Nat) (v4 Xm TF v2:PV) (h:Hp):ada base n0 v4 Xm TF v2 h =
 (binOp .lss Xm (.int .i64 8)).ah fun x0 =>
 aD x0 (
 (sE 1 false 8 TF Xm).ah fun x2 =>
 acp base n0 (.int .i64 0) v4 x2 Xm TF v2 Xm h) (
 (ax 32 true v4 h).ah fun x6 =>
 (aS base 32 v2 x6 h).ah fun h7 =>
 (qS v2 h7 32 true).ah fun r8 =>
 bk false false n0 [r8] h7):=(ez T F61 [1,1,1,1,0,1,0,1] base n0 [(4,v4),(18,Xm),(17,TF),(2,v2)] h).trans (by kernel_rfl)
theorem adf (base n0:Nat) (v22 v4 v6 v5 TF v2 Xm:PV) (h:Hp):acp base n0 v22 v4 v6 v5 TF v2 Xm h =
 (binOp .lss v22 (.int .i64 4)).ah fun x0 =>
 aD x0 (
 (binOp .mul (.int .i64 4) v5).ah fun x4 =>
 (binOp .add x4 v22).ah fun x6 =>
 (binOp .mul (.int .i64 8) v22).ah fun x9 =>
 (binOp .sub (.int .i64 24) x9).ah fun jf =>
 (binOp .shr v6 jf).ah fun iS =>
 (ct iS .u8).ah fun gJ =>
 (aN 1 32 v4 x6).ah fun je =>
 (aS base 1 je gJ h).ah fun Lq =>
 (binOp .add v22 (.int .i64 1)).ah fun mu =>
 acp base n0 mu v4 v6 v5 TF v2 Xm Lq) (
 (binOp .add Xm (.int .i64 1)).ah fun pE =>
 ada base n0 v4 pE TF v2 h):=(ez T F61 [1,1,1,1,0,1,0,1,0,0,1,1,0,0,1,1,0,1] base n0 [(22,v22),(4,v4),(6,v6),(5,v5),(17,TF),(2,v2),(18,Xm)] h).trans (by kernel_rfl)
theorem S61 (base:Nat) (a0:PV) (h:Hp):ai T base 61 [a0] h =
 eo (rep 32 (.int .u8 0)) h fun x0 h1 =>
 aH (ai T (size h) 95 [a0] h1) fun x3 h4 =>
 aH (ai T (size h) 96 [a0] h4) fun x8 h9 =>
 aH (ai T (size h) 90 [x3,x8] h9) fun jf h11 =>
 eo (rep 32 (.int .u8 0)) h11 fun gJ h13 =>
 (aF x3).ah fun mu =>
 (aA mu 0).ah fun oy =>
 (ax 8 true oy h13).ah fun pE =>
 ada (size h) (size h) gJ (.int .i64 0) pE x0 h13:=(aZ ar6 base _ h).trans (by kernel_rfl)
theorem S62 (base:Nat) (a0 a1 a2:PV) (h:Hp):ai T base 62 [a0,a1,a2] h =
 aH (ai T base 66 [a0] h) fun x2 h3 =>
 (aE x2 0).ah fun x5 =>
 (aE x2 1).ah fun x6 =>
 (binOp .eql x5 a1).ah fun iS =>
 (aq iS true).ah fun W3=>(au W3 (some x6) (some .undef)).ah fun je =>
 (aq iS true).ah fun W4=>(au W4 (some a2) (some .undef)).ah fun pE =>
 (aq iS true).ah fun b22=>(au b22 ((binOp .eql je pE).ah some) (some .undef)).ah fun nP =>
 (aD iS (some nP) (some (.bool false))).ah fun yj =>
 aD yj (
 bk true false (size h) [(.int .i64 0)] h3) (
 (aF a0).ah fun Al =>
 (aA Al 2).ah fun Aa =>
 (ax 1 false Aa h3).ah fun wj =>
 (ct a1 .u8).ah fun JY =>
 (ct a2 .u8).ah fun vR =>
 (cH 1 false [(.int .u8 0)] 2 [(0,strip JY),(1,strip vR)]).ah fun qj =>
 aH (ai T base 97 [wj,(.int .i64 0),qj] h3) fun ND h37 =>
 bk true false (size h) [ND] h37):=(gT ar7 base _ h).trans (by kernel_rfl)
theorem S63 (base:Nat) (a0 a1:PV) (h:Hp):ai T base 63 [a0,a1] h =
 (dz [.bp,.bp] [(0,1,a0),(1,1,a1)]).ah fun x4 =>
 aH (ai T base 54 [a0] h) fun x6 h7 =>
 aH (ai T base 54 [a1] h7) fun x9 h10 =>
 (jI false [x6,x9]).ah fun iS =>
 (dz [.bp,.bp,(.int .i64 0),(.int .i64 0),(.int .u32 0),(.int .i64 0),.gu] [(0,2,x4),(2,1,iS)]).ah fun gJ =>
 aH (tK 7 gJ h10) fun je Lq =>
 aH (ai T base 87 [a0] Lq) fun pE h18 =>
 aH (ai T base 41 [pE] h18) fun qi Yc =>
 (aq qi false).ah fun b23=>(au b23 (some a1) (some .undef)).ah fun oz =>
 (aq qi false).ah fun b27=>aH (au b27 (aH (ai T base 87 [oz] Yc) fun Aa h28=>some (Aa,h28)) (some (.undef,Yc))) fun sL h28 =>
 (aq qi false).ah fun b31=>aH (au b31 (aH (ai T base 41 [sL] h28) fun Ao Ye=>some (Ao,Ye)) (some (.undef,h28))) fun wj Ye =>
 (aD qi (some (.bool true)) (some wj)).ah fun vR =>
 aD vR (
 bk true false (size h) [.bp,(.int .i64 30)] Ye) (
 (aF je).ah fun BH =>
 (aA BH 2).ah fun sM =>
 (ax 1 false sM Ye).ah fun BG =>
 (binOp .lss BG (.int .i64 32)).ah fun Ab =>
 aD Ab (
 bk true false (size h) [.bp,(.int .i64 53)] Ye) (
 aH (ai T base 98 [je] Ye) fun rN h46 =>
 (aE rN 0).ah fun Ed =>
 (aE rN 1).ah fun Cm =>
 (binOp .neq Cm (.int .i64 0)).ah fun JM =>
 aD JM (
 bk true false (size h) [.bp,Cm] h46) (
 (unOp .not Ed).ah fun yg =>
 aD yg (
 aH (cV base h46 .makeMap []) fun J1 h62 =>
 (aF je).ah fun Gb =>
 (aA Gb 6).ah fun OB =>
 (aS base 1 OB J1 h62).ah fun h65 =>
 (aF je).ah fun HM =>
 (aA HM 3).ah fun QW =>
 (aS base 1 QW (.int .i64 1) h65).ah fun h68 =>
 (aF je).ah fun TB =>
 (aA TB 6).ah fun Xj =>
 (ax 1 false Xj h68).ah fun NH =>
 aH (ai T base 99 [je,NH] h68) fun Qy h75 =>
 (binOp .neq Qy (.int .i64 0)).ah fun Cl =>
 aD Cl (
 bk true false (size h) [.bp,Qy] h75) (
 bk true false (size h) [je,(.int .i64 0)] h75)) (
 aH (ai T base 100 [je] h46) fun W7 h87 =>
 (aE W7 0).ah fun TC =>
 (aE W7 1).ah fun OD =>
 (binOp .eql OD (.int .i64 0)).ah fun W9 =>
 (aq W9 true).ah fun b97=>(au b97 (some TC) (some .undef)).ah fun WM =>
 (aD W9 (some WM) (some (.bool false))).ah fun JN =>
 aD JN (
 (aF je).ah fun agV =>
 (aA agV 6).ah fun tP =>
 (ax 1 false tP h87).ah fun ak6 =>
 aH (ai T base 99 [je,ak6] h87) fun agX aex =>
 (binOp .neq agX (.int .i64 0)).ah fun WO =>
 aD WO (
 bk true false (size h) [.bp,agX] aex) (
 bk true false (size h) [je,(.int .i64 0)] aex)) (
 (binOp .neq OD (.int .i64 0)).ah fun WT =>
 aD WT (
 bk true false (size h) [.bp,OD] h87) (
 bk true false (size h) [je,(.int .i64 0)] h87)))))):=(gT ar8 base _ h).trans (by kernel_rfl)
theorem S64 (base:Nat) (a0 a1 a2:PV) (h:Hp):ai T base 64 [a0,a1,a2] h =
 (dz [.bp,.bp] [(0,1,a0),(1,1,a1)]).ah fun x3 =>
 (dz [.bp,.bp,.bp,(.int .i64 0),.bp] [(0,2,x3),(2,1,a2)]).ah fun x5 =>
 aH (tK 5 x5 h) fun x6 h7 =>
 aH (ai T base 20 [x6] h7) fun iS h12 =>
 (aF x6).ah fun je =>
 (aA je 3).ah fun lU =>
 (aS base 1 lU iS h12).ah fun Qh =>
 bk true false (size h) [x6] Qh:=(gT ar9 base _ h).trans (by kernel_rfl)
theorem S65 (base:Nat) (a0 a1 a2:PV) (h:Hp):ai T base 65 [a0,a1,a2] h =
 aH (ai T base 20 [a0] h) fun x3 h4 =>
 aH (ai T base 43 [a0,a1] h4) fun x8 h9 =>
 (aE x8 0).ah fun iS =>
 (aE x8 1).ah fun gJ =>
 eo Ec h9 fun je Lq =>
 (aS base 35 je iS Lq).ah fun Qh =>
 (unOp .not gJ).ah fun pK =>
 aD pK (
 (binOp .sub (.int .i64 1) a1).ah fun x20 =>
 (binOp .sub (.int .i64 1) a1).ah fun oz =>
 aH (ai T base 43 [a0,x20] Qh) fun Al QY =>
 (aE Al 0).ah fun rM =>
 (aE Al 1).ah fun JY =>
 eo Ec QY fun Ao UJ =>
 (aS base 35 Ao rM UJ).ah fun h35 =>
 (unOp .not JY).ah fun BH =>
 aD BH (
 bk true false (size h) [(.int .i64 0),(.int .i64 4)] h35) (
 aH (ai T base 62 [a0,oz,(.int .i64 0)] h35) fun vS Yb =>
 (binOp .neq vS (.int .i64 0)).ah fun Ed =>
 aD Ed (
 bk true false (size h) [(.int .i64 0),vS] Yb) (
 (aF a0).ah fun wk =>
 (aA wk 3).ah fun vk =>
 (aS base 1 vk x20 Yb).ah fun Sc =>
 bk true false (size h) [x20,(.int .i64 0)] Sc))) (
 aH (ai T base 62 [a0,x3,a2] Qh) fun Gb HO =>
 (binOp .neq Gb (.int .i64 0)).ah fun QW =>
 aD QW (
 bk true false (size h) [(.int .i64 0),Gb] HO) (
 (aF a0).ah fun NH =>
 (aA NH 3).ah fun Qy =>
 (aS base 1 Qy a1 HO).ah fun h75 =>
 bk true false (size h) [a1,(.int .i64 0)] h75)):=(gT afj base _ h).trans (by kernel_rfl)
end Go.Am.Qd
