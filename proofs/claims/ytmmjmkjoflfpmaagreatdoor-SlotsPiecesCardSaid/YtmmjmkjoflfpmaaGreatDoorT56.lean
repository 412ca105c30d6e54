/- A device is made, an image pO; the DT own methods: on the abstract machine. | What a bK has, as a list in the order of its keys. Plain. | What a cX ho
   By the session's AI agent. -/
import Derived.Test.YtmmjmkjoflfpmaaGreatDoorT55
import GoSem.ClaimChange
import Derived.ChangeArms
import Derived.ChangeOld
import Derived.DataReads
import Derived.SizedLaws
set_option linter.unusedSectionVars false
set_option linter.unusedSimpArgs false
set_option linter.unusedVariables false
set_option maxRecDepth 100000
namespace Go.Am.Qd
theorem abG (z:Int) (i:Nat) (hi:i≤62):binOp .and (.int .i64 z) (.int .i64 ((2 ^ i-1:Nat):Int))=some (.int .i64 (((z % (2 ^ i:Nat)).toNat:Nat):Int)):=by
 have hp:(2:Nat) ^ i≤2 ^ 62:=Nat.pow_le_pow_right (by omega) hi;have hpos:0<(2:Nat) ^ i:=Nat.two_pow_pos i;show some (PV.int .i64 (IntKind.i64.wrap ((BitVec.ofInt 64 z &&& BitVec.ofInt 64 ((2 ^ i-1:Nat):Int)).toNat:Int)))=_;have h1:(BitVec.ofInt 64 ((2 ^ i-1:Nat):Int)).toNat=2 ^ i-1:=by
  rw[BitVec.toNat_ofInt];have:(((2 ^ i-1:Nat):Int) % ((2 ^ 64:Nat):Int))=((2 ^ i-1:Nat):Int):=by
   rw[Int.emod_eq_of_lt (by omega)];omega
  rw[this];rfl
 have h2:(BitVec.ofInt 64 z).toNat % 2 ^ i=(z % (2 ^ i:Nat)).toNat:=by
  rw[BitVec.toNat_ofInt];have hd:((2 ^ i:Nat):Int) ∣ ((2 ^ 64:Nat):Int):=by
   refine⟨((2 ^ (64-i):Nat):Int),?_⟩;rw[←Int.natCast_mul,←Nat.pow_add];congr 2;omega
  have hn:0≤z % ((2 ^ 64:Nat):Int):=Int.emod_nonneg _ (by omega);have:(z % ((2 ^ 64:Nat):Int)) % ((2 ^ i:Nat):Int)=z % ((2 ^ i:Nat):Int):=Int.emod_emod_of_dvd z hd;rw[←this,Int.toNat_emod hn (by omega),Int.toNat_natCast]
 rw[BitVec.toNat_and,h1,Nat.and_two_pow_sub_one_eq_mod,h2];have hlt:(z % (2 ^ i:Nat)).toNat<2 ^ i:=by
  have:=Int.emod_lt_of_pos z (show(0:Int)<((2 ^ i:Nat):Int) by omega);omega
 rw[wrap_small (by omega) (by omega)]
/-! ### A device is made -/
def dB (h:Hp) (n:Nat) (x:List PV) (l:List gW):Hp:=ext h (.cells x::(kj (4+2*n) 64 (size h+1)++l))
section
variable {h:Hp} {n:Nat} {x:List PV} {l:List gW}
theorem CG:pI (dB h n x l) (ij (size h+1)):=⟨by simp[dB,ij,aW,kj]<;>omega,by simp[dB,ij,aW,kj]<;>omega,by simp[dB,ij,aW,kj]<;>omega,by simp[ij],by simp[ij],by simp[ij]⟩
theorem Kz:ay (dB h n x l) (size h)=some x:=by rw[dB,aQ];rfl
theorem XM (y:List PV):aC (dB h n x l) (size h) (.cells y)=dB h n y l:=by rw[dB,eu (Nat.le_refl _),Nat.sub_self];rfl
theorem D5:size (dB h n x l)=size h+4+l.length:=by simp[dB,aW,kj];omega
theorem XN (k:List gW):ext (dB h n x l) k=dB h n x (l++k):=by simp[dB,ext,List.append_assoc]
theorem abH (i:Nat) (y:List PV) (hl:l[i]?=some (.cells y)):ay (dB h n x l) (size h+4+i)=some y:=by
 rw[dB,show size h+4+i=size h+(i+4) by omega,eZ];have:(gW.cells x::(kj (4+2*n) 64 (size h+1)++l))[i+4]?=l[i]?:=by simp[kj]
 rw[this,hl];rfl
theorem RP:size h≠(ij (size h+1)).f∧size h≠(ij (size h+1)).bb∧size h≠(ij (size h+1)).wb:=by
 simp[ij];omega
theorem abI {F:Fl} (k:Nat):ax 1 false (.ptr (size h) k) (cv (dB h n x l) (ij (size h+1)) F)=x[k]?:=by
 obtain⟨a,b,c⟩:=RP (h:=h);exact dL (by rw[iU CG a b c];exact Kz)
theorem abJ {F:Fl} {base:Nat} (hb:base≤size h) (k:Nat) (v:PV) (hs:scalar v=true) (hc:v.cells=[v]) (hk:k<x.length) :
  aS base 1 (.ptr (size h) k) v (cv (dB h n x l) (ij (size h+1)) F)=some (cv (dB h n (x.set k v) l) (ij (size h+1)) F):=by
 obtain⟨a,b,c⟩:=RP (h:=h);rw[mL (by rw[iU CG a b c];exact Kz) hb hs hc hk,Ag CG a b c,XM]
theorem T6 {F:Fl} (base:Nat) (first count:Nat) (hc:1≤count) (hf:first+count≤4+2*n) (hn:n≤7) (h4:F.b.length=(4+2*n)*F.aj) (hs:F.aj=64) :
  ai T base 49 [.ptr (ij (size h+1)).f 0,.int .i64 (first:Int),.int .i64 (count:Int)] (cv (dB h n x l) (ij (size h+1)) F)=some (.cF [.ptr (size h+4+l.length) 0,.int .i64 0],cv (dB h n x (l++[.cells [.ptr (ij (size h+1)).f 0,.int .i64 (first:Int),.int .i64 (count:Int)]])) (ij (size h+1)) F):=by
 have:=N8 (h:=dB h n x l) CG base (F:=F) (n:=4+2*n) first count hc hf (by omega) h4 (by omega) (by omega);rw[D5,XN]at this;exact this
end
def KA (k n:Nat):Pl:=⟨ij (k+1),k+4,k+5,k+6,k+7,0,0,n,k⟩
def secs (z:Int):Nat:=4+(z % (4:Nat)).toNat
theorem LZ (z:Int):4≤secs z∧secs z≤7:=by unfold secs;omega
theorem Oj {h:Hp} {base:Nat} (hb:base≤size h) (z:Int) (R:List Nat) (hR:∀ b∈R,b<size h) {s:Ss} (ho:Oi (rH (4+2*secs z) 64)=some s) :
  ∃ H' jb sb,ai T base 9 [.int .i64 z] h=some (.cF [.ptr (size h) 0,.bool true],H')∧Dx H' { KA (size h) (secs z) with jb:=jb,sb:=sb } s R (size h)∧Kp R h H':=by
 obtain⟨n4,n7⟩:=LZ z;have hw:secs z=4+(z % (4:Nat)).toNat:=rfl;have an:=abG z 2 (by omega);simp only[show(2 ^ 2-1:Nat)=3 from rfl,show(2 ^ 2:Nat)=4 from rfl,show((3:Nat):Int)=3 from rfl]at an;have a4:binOp .add (.int .i64 4) (.int .i64 (((z % (4:Nat)).toNat:Nat):Int))=some (.int .i64 (secs z:Int)):=by
  show some (PV.int .i64 (IntKind.i64.wrap (4+(((z % (4:Nat)).toNat:Nat):Int))))=_;rw[wrap_small (by omega) (by omega),hw];congr 2
 generalize secs z=n at n4 n7 a4 ho ⊢;have m2:binOp .mul (.int .i64 2) (.int .i64 (n:Int))=some (.int .i64 ((2*n:Nat):Int)):=by
  show some (PV.int .i64 (IntKind.i64.wrap (2*(n:Int))))=_;rw[wrap_small (by omega) (by omega)];congr 2
 have a42:binOp .add (.int .i64 4) (.int .i64 ((2*n:Nat):Int))=some (.int .i64 ((4+2*n:Nat):Int)):=by
  show some (PV.int .i64 (IntKind.i64.wrap (4+((2*n:Nat):Int))))=_;rw[wrap_small (by omega) (by omega)];congr 2
 have a4n:binOp .add (.int .i64 4) (.int .i64 (n:Int))=some (.int .i64 ((4+n:Nat):Int)):=by
  show some (PV.int .i64 (IntKind.i64.wrap (4+(n:Int))))=_;rw[wrap_small (by omega) (by omega)];congr 2
 have bv:dz [.bp,.bp,.bp,.bp,.bp,.bp,.bp,(.int .i64 0)] [(7,1,.int .i64 (n:Int))]=some (.agg [.bp,.bp,.bp,.bp,.bp,.bp,.bp,.int .i64 (n:Int)]):=rfl;have bx:tK 8 (.agg [.bp,.bp,.bp,.bp,.bp,.bp,.bp,.int .i64 (n:Int)]) h=some (.ptr (size h) 0,ext h [.cells [.bp,.bp,.bp,.bp,.bp,.bp,.bp,.int .i64 (n:Int)]]):=by
  rw[ql,if_pos ⟨rfl,rfl⟩];rfl
 have l7:ax 1 false (.ptr (size h) 7) (ext h [.cells [.bp,.bp,.bp,.bp,.bp,.bp,.bp,.int .i64 (n:Int)]])=some (.int .i64 (n:Int)):=dL (cs:=[.bp,.bp,.bp,.bp,.bp,.bp,.bp,.int .i64 (n:Int)]) (by rw[aQ];rfl);have s1:size (ext h [.cells [.bp,.bp,.bp,.bp,.bp,.bp,.bp,.int .i64 (n:Int)]])=size h+1:=by rw[aW];rfl
 have nf:=N7 (h:=ext h [.cells [.bp,.bp,.bp,.bp,.bp,.bp,.bp,.int .i64 (n:Int)]]) base (4+2*n) (by omega) (by omega) 64 (by omega) (by omega);rw[s1,fA]at nf;have nf':ai T base 48 [.int .i64 ((4+2*n:Nat):Int),.int .i64 64] (ext h [.cells [.bp,.bp,.bp,.bp,.bp,.bp,.bp,.int .i64 (n:Int)]])=some (.ptr (ij (size h+1)).f 0,cv (dB h n [.bp,.bp,.bp,.bp,.bp,.bp,.bp,.int .i64 (n:Int)] []) (ij (size h+1)) (rH (4+2*n) 64)):=by
  rw[dB,List.append_nil];exact nf
 generalize hF:rH (4+2*n) 64=F at nf' ho;have hfs:F.aj=64:=by rw[←hF];rfl
 have hfl:F.b.length=(4+2*n)*64:=by rw[←hF];simp[rH]
 have hfw:F.bN.length=4+2*n:=by rw[←hF];simp[rH]
 have hfq:Fq F 128:=by rw[←hF];exact fq0 (by omega) (by omega) (by omega) (by omega)
 have pn:=fun(x:List PV) (l:List gW) (first count:Nat) hc hf=>T6 (h:=h) (n:=n) (x:=x) (l:=l) (F:=F) base first count hc hf n7 (by rw[hfs];exact hfl) hfs
 have st:=fun(x:List PV) (l:List gW) (k:Nat) (v:PV) hs hc hk=>abJ (h:=h) (n:=n) (x:=x) (l:=l) (F:=F) hb k v hs hc hk
 have ld:=fun(x:List PV) (l:List gW) (k:Nat)=>abI (h:=h) (n:=n) (x:=x) (l:=l) (F:=F) k
 have fP:=(ij (size h+1)).f
 let pt:Nat→Nat→gW:=fun a c=>.cells [.ptr (ij (size h+1)).f 0,.int .i64 (a:Int),.int .i64 (c:Int)]
 let X:List PV→List PV:=fun v=>v++(List.replicate (7-v.length) .bp++[.int .i64 (n:Int)])
 have t0:=st (X []) [] 0 (.ptr (ij (size h+1)).f 0) rfl rfl (by show 0<8;decide);have p1:=pn (X [.ptr (ij (size h+1)).f 0]) [] 0 2 (by omega) (by omega);have t1:=st (X [.ptr (ij (size h+1)).f 0]) [pt 0 2] 1 (.ptr (size h+4) 0) rfl rfl (by show 1<8;decide);have p2:=pn (X [.ptr (ij (size h+1)).f 0,.ptr (size h+4) 0]) [pt 0 2] 2 2 (by omega) (by omega);have t2:=st (X [.ptr (ij (size h+1)).f 0,.ptr (size h+4) 0]) [pt 0 2,pt 2 2] 2 (.ptr (size h+5) 0) rfl rfl (by show 2<8;decide);have p3:=pn (X [.ptr (ij (size h+1)).f 0,.ptr (size h+4) 0,.ptr (size h+5) 0]) [pt 0 2,pt 2 2] 4 n (by omega) (by omega);have t3:=st (X [.ptr (ij (size h+1)).f 0,.ptr (size h+4) 0,.ptr (size h+5) 0]) [pt 0 2,pt 2 2,pt 4 n] 3 (.ptr (size h+6) 0) rfl rfl (by show 3<8;decide);have p4:=pn (X [.ptr (ij (size h+1)).f 0,.ptr (size h+4) 0,.ptr (size h+5) 0,.ptr (size h+6) 0]) [pt 0 2,pt 2 2,pt 4 n] (4+n) n (by omega) (by omega);have t4:=st (X [.ptr (ij (size h+1)).f 0,.ptr (size h+4) 0,.ptr (size h+5) 0,.ptr (size h+6) 0]) [pt 0 2,pt 2 2,pt 4 n,pt (4+n) n] 4 (.ptr (size h+7) 0) rfl rfl (by show 4<8;decide);have hpt:=fun(x:List PV) (i a c:Nat) (hi:[pt 0 2,pt 2 2,pt 4 n,pt (4+n) n][i]?=some (pt a c))=>abH (h:=h) (n:=n) (x:=x) (l:=[pt 0 2,pt 2 2,pt 4 n,pt (4+n) n]) i _ hi
 have po:Po (cv (dB h n (X [.ptr (ij (size h+1)).f 0,.ptr (size h+4) 0,.ptr (size h+5) 0,.ptr (size h+6) 0,.ptr (size h+7) 0]) [pt 0 2,pt 2 2,pt 4 n,pt (4+n) n]) (ij (size h+1)) F) (KA (size h) n) F R (size h)
   (dB h n (X [.ptr (ij (size h+1)).f 0,.ptr (size h+4) 0,.ptr (size h+5) 0,.ptr (size h+6) 0,.ptr (size h+7) 0]) [pt 0 2,pt 2 2,pt 4 n,pt (4+n) n]) :=
  ⟨rfl,⟨CG,⟨hpt _ 0 0 2 rfl,by simp[KA,ij],by simp[KA,ij],by simp[KA,ij]⟩,⟨hpt _ 1 2 2 rfl,by simp[KA,ij],by simp[KA,ij],by simp[KA,ij]⟩⟩,
   ⟨hpt _ 2 4 n rfl,by simp[KA,ij],by simp[KA,ij],by simp[KA,ij]⟩,⟨hpt _ 3 (4+n) n rfl,by simp[KA,ij],by simp[KA,ij],by simp[KA,ij]⟩,hfq,hfs,hfl,hfw,⟨n4,n7⟩,
   fun b hbR=>by have:=hR b hbR;rw[D5];simp[KA,ij];omega,⟨.bp,.bp,Kz⟩,RP,Nat.le_refl _⟩
 have op:=po.open (base:=base) hb;rw[ho]at op;obtain⟨H',jb,sb,o1,o2,o3⟩:=op;refine⟨H',jb,sb,?_,o2,?_⟩
 ·have n0:aF (.ptr (size h) 0)=some (.ptr (size h) 0):=rfl
  have ins:∀ k,gG 0 false (.ptr k 0)=some (.bool false):=fun _=>rfl
  simp only[X,pt,List.length_nil,List.length_cons,List.nil_append,List.cons_append,Nat.sub_zero,show List.replicate 7 PV.bp=[.bp,.bp,.bp,.bp,.bp,.bp,.bp] from rfl,Nat.reduceAdd,Nat.reduceSub,List.replicate_succ,List.replicate_zero,List.set_cons_zero,List.set_cons_succ,Nat.add_zero,show((0:Nat):Int)=0 from rfl,show((2:Nat):Int)=2 from rfl,show((4:Nat):Int)=4 from rfl,show size h+4+1=size h+5 from rfl,show size h+4+2=size h+6 from rfl,show size h+4+3=size h+7 from rfl]at t0 p1 t1 p2 t2 p3 t3 p4 t4 o1;rw[S9];simp only[an,a4,bv,bx,n0,ou,l7,m2,a42,nf',t0,ld,p1,t1,p2,t2,p3,t3,p4,t4,a4n,ins,o1,tY,tZ,List.getElem?_cons_zero,List.getElem?_cons_succ,wT,Ee,Kw,eF,T4,Option.ag,az]
 ·refine⟨?_,fun b hbR=>?_⟩
  ·have:=o3.1;rw[bS,D5]at this;omega
  ·have hlt:=hR b hbR
   rw[o3.2 b hbR,dD CG,if_neg (by simp[ij];omega),if_neg (by simp[ij];omega),if_neg (by simp[ij];omega),dB,dP hlt]
end Go.Am.Qd
namespace Go.Am.Qd
abbrev CL:=List (Nat × List UInt8)
def HU (l:CL):Prop:=l.Pairwise fun a b=>a.1<b.1
def CH:CL→Nat→Option (List UInt8)
 | [],_=>none
 | e::r,k=>if e.1=k then some e.2 else CH r k
theorem tf:∀ {l:CL},HU l→∀ (k:Nat) (v:List UInt8),CH l k=some v↔(k,v)∈l
 | [],_,k,v=>by simp[CH]
 | e::r,h,k,v=>by
  obtain⟨h1,h2⟩:=List.pairwise_cons.1 h;have ih:=tf h2 k v;simp only[CH,List.mem_cons]
  by_cases hk:e.1=k
  ·rw[if_pos hk]
   constructor
   ·intro q;left;rw[←hk,←Option.some.inj q]
   ·rintro(q | q)
    ·rw[←q]
    ·have:=h1 _ q;simp only at this;omega
  ·rw[if_neg hk,ih]
   constructor
   ·exact .inr
   ·rintro(q | q)
    ·rw[←q]at hk;exact absurd rfl hk
    ·exact q
theorem D6 {l m:CL} (hl:HU l) (hm:HU m) (h:∀ k,CH l k=CH m k):l=m:=by
 have hnd:∀ {l:CL},HU l→l.Nodup:=fun {l} h=>by
  unfold HU at h;exact h.imp fun {a b} hab hq=>by rw[hq]at hab;exact Nat.lt_irrefl _ hab
 refine List.Perm.eq_of_pairwise (le:=fun(a b:Nat × List UInt8)=>a.1<b.1) (fun a b _ _ h1 h2=>by omega) hl hm ((List.perm_ext_iff_of_nodup (hnd hl) (hnd hm)).2 fun⟨k,v⟩=>?_);rw[←tf hl,←tf hm,h]
def xB:CL→Nat→List UInt8→CL
 | [],k,v=>[(k,v)]
 | e::r,k,v=>if k<e.1 then(k,v)::e::r else if k=e.1 then(k,v)::r else e::xB r k v
def Ol (l:CL) (k:Nat):CL:=l.filter fun e=>decide (e.1≠k)
theorem Ht (k:Nat) (v:List UInt8):∀ (l:CL) (e:Nat × List UInt8),e∈xB l k v→e=(k,v)∨e∈l
 | [],e,h=>by simpa[xB] using h
 | e0::r,e,h=>by
  simp only[xB]at h;split at h
  ·rcases List.mem_cons.1 h with h | h
   ·exact .inl h
   ·exact .inr h
  ·split at h
   ·rcases List.mem_cons.1 h with h | h
    ·exact .inl h
    ·exact .inr (List.mem_cons_of_mem _ h)
   ·rcases List.mem_cons.1 h with h | h
    ·exact .inr (by rw[h];exact List.mem_cons_self)
    ·rcases Ht k v r e h with h | h
     ·exact .inl h
     ·exact .inr (List.mem_cons_of_mem _ h)
theorem Hu (k:Nat) (v:List UInt8):∀ {l:CL},HU l→HU (xB l k v)
 | [],_=>by simp[xB,HU]
 | e0::r,h=>by
  obtain⟨h1,h2⟩:=List.pairwise_cons.1 h;simp only[xB];split
  ·rename_i q
   exact List.pairwise_cons.2 ⟨fun x hx=>by
    rcases List.mem_cons.1 hx with rfl | hx
    ·exact q
    ·have:=h1 x hx;simp only at this ⊢;omega,h⟩
  ·split
   ·rename_i q q2
    exact List.pairwise_cons.2 ⟨fun x hx=>by have:=h1 x hx;simp only at this ⊢;omega,h2⟩
   ·rename_i q q2
    exact List.pairwise_cons.2 ⟨fun x hx=>by
     rcases Ht k v r x hx with rfl | hx
     ·simp only;omega
     ·exact h1 x hx,Hu k v h2⟩
theorem Hv (k:Nat) (v:List UInt8) (j:Nat):∀ (l:CL),HU l→CH (xB l k v) j=if k=j then some v else CH l j
 | [],_=>by simp[xB,CH]
 | e0::r,h=>by
  obtain⟨h1,h2⟩:=List.pairwise_cons.1 h;have ih:=Hv k v j r h2;simp only[xB];split
  ·simp only[CH]
  ·split
   ·rename_i q q2
    simp only[CH]
    by_cases hj:k=j
    ·rw[if_pos hj,if_pos hj]
    ·rw[if_neg hj,if_neg hj,if_neg (by omega)]
   ·rename_i q q2
    simp only[CH];rw[ih]
    by_cases hj:e0.1=j
    ·rw[if_pos hj,if_pos hj,if_neg (by omega)]
    ·rw[if_neg hj,if_neg hj]
theorem RQ (k:Nat) {l:CL} (h:HU l):HU (Ol l k):=List.Pairwise.sublist List.filter_sublist h
theorem Hw (k j:Nat):∀ (l:CL),CH (Ol l k) j=if k=j then none else CH l j
 | []=>by simp[Ol,CH]
 | e0::r=>by
  have ih:=Hw k j r;unfold Ol at ih ⊢;rw[List.filter_cons]
  by_cases hk:e0.1=k
  ·rw[if_neg (by simpa using hk),ih]
   simp only[CH]
   by_cases hj:k=j
   ·rw[if_pos hj,if_pos hj]
   ·rw[if_neg hj,if_neg hj,if_neg (by omega)]
  ·rw[if_pos (by simpa using hk)]
   simp only[CH];rw[ih]
   by_cases hj:k=j
   ·rw[if_pos hj,if_pos hj,if_neg (by omega)]
   ·rw[if_neg hj,if_neg hj]
def aaB (vs:Vs):CL:=(fz vs).map fun k=>(k,vB ((cP vs k).getD none))
theorem Om {vs:Vs} (hk:Keyed vs):(fz vs).Pairwise (·<·):=by
 have h1:(fz vs).Pairwise fun a b=>decide (a≤b)=true:=List.pairwise_mergeSort (fun a b c h1 h2=>by simp at *;omega) (fun a b=>by simp;omega) _
 have h2:(fz vs).Pairwise (·≠·):=by
  unfold fz;exact(List.mergeSort_perm _ _).nodup_iff.2 hk
 exact(h1.and h2).imp fun {a b} ⟨q1,q2⟩=>by
  have:a≤b:=by simpa using q1
  omega
theorem jj {vs:Vs} (hk:Keyed vs):HU (aaB vs):=by
 unfold HU aaB;rw[List.pairwise_map];exact Om hk
theorem nV {k:Int}:∀ {vs:Vs},(∀ e∈vs,(e.1:Int)≠k)→cP vs k=none
 | [],_=>rfl
 | e::r,h=>by
  simp only[cP];rw[if_neg (h e (by simp)),nV fun x hx=>h x (by simp[hx])]
theorem jU {vs:Vs} (hk:Keyed vs) (k:Nat):CH (aaB vs) k=(cP vs k).map vB:=by
 by_cases hm:∃ e∈vs,e.1=k
 ·obtain⟨e,he,rfl⟩:=hm
  have h1:=sX hk e he;rw[h1];refine(tf (jj hk) _ _).2 (List.mem_map.2 ⟨e.1,(tW vs e.1).2 ⟨e,he,rfl⟩,?_⟩);rw[h1];rfl
 ·have h1:cP vs k=none:=nV fun e he hq=>hm ⟨e,he,by omega⟩
  rw[h1];cases hq:CH (aaB vs) k with
  | none=>rfl
  | some v =>
   obtain⟨k',hk',he⟩:=List.mem_map.1 ((tf (jj hk) _ _).1 hq);simp only[Prod.mk.injEq]at he;rw[he.1]at hk';exact absurd ((tW vs k).1 hk') hm
theorem CI (k:Nat) (v:Option (List UInt8)) (j:Nat):∀ (vs:Vs),cP (gN vs k v) j=if k=j then some v else cP vs j
 | []=>by
  simp only[gN,cP]
  by_cases hj:k=j
  ·rw[if_pos hj,if_pos (by omega)]
  ·rw[if_neg hj,if_neg (by omega)]
 | e::r=>by
  have ih:=CI k v j r;simp only[gN]
  by_cases h:e.1=k
  ·rw[if_pos h]
   simp only[cP]
   by_cases hj:k=j
   ·rw[if_pos (by omega),if_pos hj]
   ·rw[if_neg (by omega),if_neg hj,if_neg (by omega)]
  ·rw[if_neg h]
   simp only[cP];rw[ih]
   by_cases hj:k=j
   ·rw[if_pos hj,if_neg (by omega),if_pos hj]
   ·rw[if_neg hj,if_neg hj]
theorem CJ (k:Nat) (j:Nat):∀ {vs:Vs},Keyed vs→cP (lV vs (k:Int)) j=if k=j then none else cP vs j
 | [],_=>by simp[lV,cP]
 | e::r,hk=>by
  simp only[Keyed,List.map_cons,List.nodup_cons]at hk;have ih:=CJ k j hk.2;simp only[lV]
  by_cases h:(e.1:Int)=k
  ·rw[if_pos h]
   simp only[cP]
   by_cases hj:k=j
   ·rw[if_pos hj]
    exact nV fun x hx hq=>hk.1 (by rw[show e.1=x.1 by omega];exact List.mem_map.2 ⟨x,hx,rfl⟩)
   ·rw[if_neg hj,if_neg (by omega)]
  ·rw[if_neg h]
   simp only[cP];rw[ih]
   by_cases hj:k=j
   ·rw[if_pos hj,if_neg (by omega)]
    rw[if_pos hj]
   ·rw[if_neg hj,if_neg hj]
theorem ue {vs:Vs} (hk:Keyed vs) (k:Nat) (v:Option (List UInt8)):aaB (gN vs k v)=xB (aaB vs) k (vB v) :=
 D6 (jj (hk.gN k v)) (Hu _ _ (jj hk)) fun j=>by
  rw[jU (hk.gN k v),Hv _ _ _ _ (jj hk),jU hk,CI];split<;>rfl
theorem On {vs:Vs} (hk:Keyed vs) (k:Nat):aaB (lV vs (k:Int))=Ol (aaB vs) k :=
 D6 (jj (hk.lV k)) (RQ _ (jj hk)) fun j=>by
  rw[jU (hk.lV k),Hw,jU hk,CJ k j hk];split<;>rfl
def UT (l:CL):Nat:=8+(l.map fun e=>7+e.2.length).sum
theorem AX {vs:Vs} (hk:Keyed vs):UT (aaB vs)=cY vs:=by
 rw[←kY hk];unfold UT aaB kg;rw[List.map_map];rfl
def Hx (l:CL):List Rc:=l.map fun e=>(e.1,some e.2)
theorem Hy (vs:Vs):oo vs (fz vs)=gp (Hx (aaB vs)):=by
 unfold oo gp Hx aaB;rw[List.map_map,List.flatMap_map];rfl
theorem AY:∀ (l:CL) (acc:Vs),HU l→(∀ e∈acc,∀ x∈l,e.1<x.1)→(Hx l).foldl Rc.ap acc=acc++l.map fun e=>(e.1,some e.2)
 | [],acc,_,_=>by simp[Hx]
 | e::r,acc,h,ha=>by
  obtain⟨h1,h2⟩:=List.pairwise_cons.1 h;have h3:Rc.ap acc (e.1,some e.2)=acc++[(e.1,some e.2)]:=by
   show gN acc e.1 (some e.2)=_;clear h h1 h2
   induction acc with
   | nil=>rfl
   | cons a acc ih =>
    have:=ha a (by simp) e (by simp);simp only[gN];rw[if_neg (by omega),ih fun x hx y hy=>ha x (by simp[hx]) y hy];rfl
  show(Hx r).foldl Rc.ap (Rc.ap acc (e.1,some e.2))=_;rw[h3,AY r _ h2 (fun x hx y hy=>by
   rcases List.mem_append.1 hx with hx | hx
   ·exact ha x hx y (by simp[hy])
   ·simp only[List.mem_singleton]at hx;subst hx;exact h1 y hy)]
  simp
theorem T7 {l:CL} (h:HU l):Keyed ((Hx l).foldl Rc.ap [])∧aaB ((Hx l).foldl Rc.ap [])=l:=by
 rw[AY l [] h (fun e he=>by simp at he),List.nil_append];have hk:Keyed (l.map fun e=>((e.1,some e.2):Nat × Option (List UInt8))):=by
  unfold Keyed;rw[List.map_map];unfold HU at h;unfold List.Nodup;rw[List.pairwise_map];exact h.imp fun {a b} q hq=>by simp only[Function.comp]at hq;omega
 refine⟨hk,D6 (jj hk) h fun k=>?_⟩;rw[jU hk];clear hk h
 induction l with
 | nil=>rfl
 | cons e r ih =>
  simp only[List.map_cons,cP,CH]
  by_cases hq:e.1=k
  ·rw[if_pos hq,if_pos (by omega)];rfl
  ·rw[if_neg hq,if_neg (by omega),ih]
theorem AZ:∀ (rs:List Rc) (vs:Vs),(∀ r∈rs,r.ok)→Keyed vs→Small vs→Keyed (rs.foldl Rc.ap vs)∧Small (rs.foldl Rc.ap vs)
 | [],vs,_,h1,h2=>⟨h1,h2⟩
 | r::rs,vs,hr,h1,h2=>by
  obtain⟨q1,q2⟩:=hr r (by simp);have:Keyed (r.ap vs)∧Small (r.ap vs):=by
   unfold Rc.ap;cases hq:r.2 with
   | none=>exact⟨h1.lV _,h2.lV _⟩
   | some v=>exact⟨h1.gN _ _,h2.gN h1 q1 (by rw[hq]at q2;exact q2)⟩
  exact AZ rs _ (fun x hx=>hr x (by simp[hx])) this.1 this.2
end Go.Am.Qd
namespace Go.Am.Qd
variable {F G:Fl} {sz:Nat} {J:Jn} {vs:Vs}
theorem rK {l m:List UInt8} (hl:l.length=m.length) (h:∀ j,j<l.length→l.getD j 0=m.getD j 0):l=m:=by
 apply List.ext_getElem hl;intro i h1 h2;have:=h i h1;simp only[List.getD_eq_getElem?_getD,List.getElem?_eq_getElem h1,List.getElem?_eq_getElem h2,Option.getD_some]at this;exact this
theorem uf (hF:Fq F sz) {i j:Nat} (hj:j<sz):(mN F i).getD j 0=F.b.getD (2*i*F.aj+j) 0:=by
 have:=hF.sz;unfold mN;simp only[List.getD_eq_getElem?_getD];rw[List.getElem?_take,if_pos (by omega),List.getElem?_drop]
theorem ack (hF:Fq F sz) {i:Nat} (hi:i≤1):(mN F i).length=sz:=by rw[TY hF hi,hF.sz]
theorem acm (hF:Fq F sz) (hG:Fq G sz) (hs:G.aj=F.aj) {i:Nat} (hi:i≤1) (h:∀ j,j<sz→G.b.getD (2*i*F.aj+j) 0=F.b.getD (2*i*F.aj+j) 0):mN G i=mN F i :=
 rK (by rw[ack hF hi,ack hG hi]) fun j hj=>by
  rw[ack hG hi]at hj;rw[uf hG hj,uf hF hj,hs,h j hj]
theorem reg (s:Nat) {n:Nat} (hn:n≤1):(n=0∧2*n*s=0∧2*(1-n)*s=2*s)∨(n=1∧2*n*s=2*s∧2*(1-n)*s=0):=by
 rcases Nat.le_one_iff_eq_zero_or_eq_one.1 hn with rfl | rfl<;>simp
structure St (F:Fl) (sz:Nat) (J:Jn) (vs:Vs):Prop where
 fq:Fq F sz
 now:J.now≤1
 keyed:Keyed vs
 need:cY vs≤sz
 row:∃ rs:List Rc,(∀ r∈rs,r.ok)∧aaB (rs.foldl Rc.ap [])=aaB vs∧J.fin=8+(gp rs).length∧J.fin≤sz∧At F (2*J.now*F.aj) (HR J.bM++gp rs)
 tail:∃ k l dr m,k<32∧List.length l≤250∧(dr=true→l=[])∧m<l.length+7∧∀ j,j<sz-J.fin→F.b.getD (2*J.now*F.aj+J.fin+j) 0=if j<m then(yJ k l dr).getD j 0 else 255
 Ym:(mN F (1-J.now)).getD 0 0≠0∨(jl ((mN F (1-J.now)).drop 1)).toNat<J.bM.toNat
theorem Hz (h:fY F (2*J.now*F.aj+J.fin) (sz-J.fin)):∃ k l dr m,k<32∧List.length l≤250∧(dr=true→l=[])∧m<l.length+7∧∀ j,j<sz-J.fin→F.b.getD (2*J.now*F.aj+J.fin+j) 0=if j<m then(yJ k l dr).getD j 0 else 255 :=
 ⟨0,[],false,0,by omega,by simp,by simp,by simp,fun j hj=>by rw[if_neg (by omega)];exact h _ (by omega) (by omega)⟩
theorem St.read (h:St F sz J vs):AQ F 0 0#32=⟨true,J.now,J.bM⟩∧(mN F J.now).getD 0 0=0∧jl ((mN F J.now).drop 1)=J.bM∧∃ vs0,Rx (mN F J.now)=(0,J.fin,vs0)∧aaB vs0=aaB vs∧Keyed vs0∧Small vs0:=by
 obtain⟨rs,r1,r2,r3,r4,r5⟩:=h.row;obtain⟨k,l,dr,m,t1,t2,t3,t4,t5⟩:=h.tail;have hsz:=ack h.fq h.now;have hlen:(HR J.bM++gp rs).length=J.fin:=by rw[List.length_append,lS,r3]
 have hpre:(mN F J.now).take J.fin=HR J.bM++gp rs:=rK (by rw[List.length_take,hlen,hsz];omega) fun j hj=>by
  rw[List.length_take,hsz]at hj;rw[←r5 j (by rw[hlen];omega),←uf h.fq (by omega)];simp only[List.getD_eq_getElem?_getD];rw[List.getElem?_take,if_pos (by omega)]
 have hg:mN F J.now=HR J.bM++(gp rs++(mN F J.now).drop J.fin):=by
  rw[←List.append_assoc,←hpre,List.take_append_drop]
 have hnx:vA (mN F J.now) J.fin=none:=Ob t1 t2 t3 t4 fun j hj=>by
  rw[hsz]at hj;rw[uf h.fq hj,←Nat.add_assoc];exact t5 j (by omega)
 have g0:(mN F J.now).getD 0 0=0:=by rw[hg];rfl
 have g4:jl ((mN F J.now).drop 1)=J.bM:=by
  have e:∀ X:List UInt8,(HR J.bM++X).drop 1=br J.bM++(List.replicate 3 255++X):=fun X=>by
   unfold HR;rw[List.cons_append,List.drop_succ_cons,List.drop_zero,List.append_assoc]
  rw[hg,e];exact mB _ _
 refine⟨?_,g0,g4,?_⟩
 ·have ho:=h.Ym
  unfold AQ;rcases Nat.le_one_iff_eq_zero_or_eq_one.1 h.now with hn | hn
  ·rw[hn]at g0 g4 ho ⊢
   have l0:(Hd.mk false 0 0#32).look F 0=⟨true,0,J.bM⟩:=by
    unfold Hd.look;rw[if_pos ⟨g0,.inl rfl⟩,g4]
   rw[l0];unfold Hd.look;rw[if_neg];rintro⟨q1,q2⟩;rcases ho with ho | ho
   ·exact ho q1
   ·rcases q2 with q2 | q2
    ·cases q2
    ·simp only[Nat.sub_zero]at ho q2;omega
  ·rw[hn]at g0 g4 ho ⊢
   unfold Hd.look;simp only[Nat.sub_self]at ho;split
   ·rename_i q
    have:(jl ((mN F 0).drop 1)).toNat<J.bM.toNat:=ho.resolve_left fun hq=>hq q.1
    rw[if_pos ⟨g0,.inr (by rw[g4];exact this)⟩,g4]
   ·rw[if_pos ⟨g0,.inl rfl⟩,g4]
 ·have hr:=Oc (HR J.bM) rfl rs ((mN F J.now).drop J.fin) r1 (by rw[←hg,←r3];exact hnx)
  rw[←hg,←r3]at hr;obtain⟨q1,q2⟩:=AZ rs [] r1 ni qq;exact⟨_,hr,r2,q1,q2⟩
theorem T8 (hF:Fq F sz) {i a:Nat} (hi:i≤1) (h:fY F (2*i*F.aj+a) (sz-a)):Rw (mN F i) a=false:=by
 unfold Rw;rw[List.any_eq_false];intro x hx;obtain⟨j,hj,rfl⟩:=List.mem_iff_getElem.1 hx;have hsz:=ack hF hi;rw[List.length_drop,hsz]at hj;have hg:=uf (i:=i) (j:=a+j) hF (by omega);rw[h _ (by omega) (by omega),List.getD_eq_getElem?_getD,List.getElem?_eq_getElem (by omega)]at hg;rw[List.getElem_drop];simpa using hg
theorem D7 {e:BitVec 32} (h:e.toNat<4294967295):(e+1#32).toNat=e.toNat+1∧e≠4294967295#32:=by
 refine⟨?_,fun hq=>?_⟩
 ·rw[BitVec.toNat_add]
  have:(1#32).toNat=1:=rfl;omega
 ·rw[hq]at h;have:(4294967295#32).toNat=4294967295:=rfl;omega
theorem CK (hF:Fq F sz) (lW:J.now≤1) (Oo:(mN F J.now).getD 0 0≠0∨(jl ((mN F J.now).drop 1)).toNat<(J.bM+1#32).toNat) {vs':Vs} (HI:Fq G sz) (hs:G.aj=F.aj) (hk:Keyed vs') (hsm:Small vs') (hn:cY vs'≤sz) (ho:Out F G (2*(1-J.now)*F.aj) sz)
  (ha:At G (2*(1-J.now)*F.aj) (HR (J.bM+1#32)++oo vs' (fz vs'))) (hg:fY G (2*(1-J.now)*F.aj+cY vs') (sz-cY vs')):St G sz ⟨1-J.now,cY vs',J.bM+1#32⟩ vs':=by
 have hsz:=hF.sz;obtain⟨f1,f2⟩:=T7 (jj hk);refine⟨HI,by simp only;omega,hk,hn,⟨Hx (aaB vs'),?_,f2,?_,hn,by rw[hs,←Hy];exact ha⟩,Hz (J:=⟨1-J.now,cY vs',J.bM+1#32⟩) (by rw[hs];exact hg),?_⟩
 ·intro r hr
  obtain⟨e,he,rfl⟩:=List.mem_map.1 hr;obtain⟨k,hk',rfl⟩:=List.mem_map.1 he;obtain⟨x,hx,rfl⟩:=(tW vs' k).1 hk';have:=hsm.2 x hx;refine⟨this.1,?_⟩;simp only[Option.getD_some,sX hk x hx];exact this.2
 ·rw[←Hy,kU,kY hk]
 ·have e1:1-(1-J.now)=J.now:=by omega
  have YM:mN G J.now=mN F J.now:=acm hF HI hs lW fun j hj=>ho _ (by
   rcases reg F.aj lW with⟨_,q1,q2⟩ | ⟨_,q1,q2⟩<;>omega)
  simp only[e1,YM];exact Oo
theorem RR (h:St F sz J vs) {vs':Vs} (HI:Fq G sz) (hs:G.aj=F.aj) (hk:Keyed vs') (hsm:Small vs') (hn:cY vs'≤sz) (hep:J.bM.toNat<4294967295) (ho:Out F G (2*(1-J.now)*F.aj) sz)
  (ha:At G (2*(1-J.now)*F.aj) (HR (J.bM+1#32)++oo vs' (fz vs'))) (hg:fY G (2*(1-J.now)*F.aj+cY vs') (sz-cY vs')):St G sz ⟨1-J.now,cY vs',J.bM+1#32⟩ vs':=by
 obtain⟨_,g0,g4,_⟩:=h.read;exact CK h.fq h.now (.inr (by rw[g4,(D7 hep).1];omega)) HI hs hk hsm hn ho ha hg
theorem St.cut (h:St F sz J vs) (HI:Fq G sz) (hs:G.aj=F.aj) (ho:Out F G (2*(1-J.now)*F.aj) sz) (hc:G.b.getD (2*(1-J.now)*F.aj) 0=255∨∀ j,G.b.getD j 0=F.b.getD j 0):St G sz J vs:=by
 have hsz:=h.fq.sz;have hpos:=h.fq.pos;have lW:=h.now;obtain⟨rs,r1,r2,r3,r4,r5⟩:=h.row;obtain⟨k,l,dr,m,t1,t2,t3,t4,t5⟩:=h.tail;have hlen:(HR J.bM++gp rs).length=J.fin:=by rw[List.length_append,lS,r3]
 have hr:=reg F.aj lW;refine⟨HI,lW,h.keyed,h.need,⟨rs,r1,r2,r3,r4,by rw[hs];exact r5.out ho (by rw[hlen];omega)⟩,⟨k,l,dr,m,t1,t2,t3,t4,fun j hj=>by rw[hs,ho _ (by omega)];exact t5 j hj⟩,?_⟩;rcases hc with hc | hc
 ·left
  have:=uf (i:=1-J.now) (j:=0) HI (by omega);rw[this,hs,Nat.add_zero,hc];decide
 ·rw[acm (i:=1-J.now) h.fq HI hs (by omega) fun j hj=>hc _]
  exact h.Ym
def apC (c:CL) (r:Rc):CL:=match r.2 with | none=>Ol c r.1 | some v=>xB c r.1 v
theorem abK {vs:Vs} (hk:Keyed vs) (r:Rc):aaB (r.ap vs)=apC (aaB vs) r:=by
 unfold Rc.ap apC;cases r.2 with
 | none=>exact On hk r.1
 | some v=>exact ue hk r.1 (some v)
theorem RT (h:St F sz J vs) (hg:fY F (2*J.now*F.aj+J.fin) (sz-J.fin)) (hd:F.down=false) (hep:J.bM.toNat<4294967295) {vs':Vs} (hk:Keyed vs') (hsm:Small vs') (r:Rc) (hr:r.ok) (Kf:aaB vs'=apC (aaB vs) r) :
  (sz<cY vs'∧F.gi sz J (dF (UInt8.ofNat r.1) (r.2.getD []) r.2.isNone) vs'=(6,F,none)) ∨
  (∃ F' J',F.gi sz J (dF (UInt8.ofNat r.1) (r.2.getD []) r.2.isNone) vs'=(0,F',some J')∧St F' sz J' vs'∧fY F' (2*J'.now*F'.aj+J'.fin) (sz-J'.fin)∧F'.down=false∧J'.bM.toNat≤J.bM.toNat+1) ∨
  (∃ F',F.gi sz J (dF (UInt8.ofNat r.1) (r.2.getD []) r.2.isNone) vs'=(30,F',none)∧F'.down=true∧St F' sz J vs):=by
 have hsz:=h.fq.sz;have aoa:=h.fq.len;have lW:=h.now;have arx:=reg F.aj lW;obtain⟨p1,p2⟩:=D7 hep;obtain⟨rs,r1,r2,r3,r4,r5⟩:=h.row;have hbl:(dF (UInt8.ofNat r.1) (r.2.getD []) r.2.isNone).length=(r.2.getD []).length+6:=eC _ _ _;have hrb:r.b=dF (UInt8.ofNat r.1) (r.2.getD []) r.2.isNone++[0]:=rfl;have hrl:r.b.length=(r.2.getD []).length+7:=iO _ _ _;have hdv:r.2.isNone=true→r.2.getD []=[]:=fun h=>by cases hq:r.2<;>simp_all
 unfold Fl.gi
 by_cases c1:sz<cY vs'
 ·left;rw[if_pos c1];exact⟨c1,rfl⟩
 right;rw[if_neg c1]
 by_cases c2:sz-J.fin<(dF (UInt8.ofNat r.1) (r.2.getD []) r.2.isNone).length+1
 ·rw[if_pos c2]
  obtain⟨i1,i2,_,_⟩:=s8 h.fq (J:=J) hk;rcases Hl h.fq hd h.now hk (by omega) p2 with⟨F',m1,m2,m3,m4,m5⟩ | ⟨F',m1,m2,m3,m4⟩
  ·left
   rw[m1]at i1 i2;simp only at i1 i2;exact⟨F',_,m1,RR h i1 i2 hk hsm (by omega) hep m3 m4 m5,by rw[i2];exact m5,m2,by simp only;omega⟩
  ·right
   rw[m1]at i1 i2;simp only at i1 i2;exact⟨F',m1,m2,h.cut i1 i2 m3 m4⟩
 ·rw[if_neg c2]
  obtain⟨f1,s1⟩:=h.fq.lay (2*J.now*F.aj+J.fin) (dF (UInt8.ofNat r.1) (r.2.getD []) r.2.isNone);obtain⟨n,w1,w2⟩:=LX (F:=F) (a:=2*J.now*F.aj+J.fin) (l:=dF (UInt8.ofNat r.1) (r.2.getD []) r.2.isNone) h.fq.fin hd (by omega) (hg.sub (Nat.le_refl _) (by omega));rw[←hrb]at w1;have ary:=w2.le;have ho:Out F (F.lay (2*J.now*F.aj+J.fin) (dF (UInt8.ofNat r.1) (r.2.getD []) r.2.isNone)).2 (2*J.now*F.aj+J.fin) (sz-J.fin):=w1.out (by omega);simp only;generalize F.lay (2*J.now*F.aj+J.fin) (dF (UInt8.ofNat r.1) (r.2.getD []) r.2.isNone)=L at *;have hlen:(HR J.bM++gp rs).length=J.fin:=by rw[List.length_append,lS,r3]
  have hAt:=r5.out ho (.inl (by rw[hlen];omega));have Oo:(mN L.2 (1-J.now))=mN F (1-J.now):=acm h.fq f1 s1 (by omega) fun j hj=>ho _ (by omega)
  rcases w2 with⟨a1,rfl,a3⟩ | ⟨a1,a2,a3⟩
  ·left
   rw[if_neg (by omega)];have w1':Wr F L.2 (2*J.now*F.aj+J.fin) r.b r.b.length:=by rw[hrl];rw[hbl]at w1;exact w1
   have hA2:At L.2 (2*J.now*F.aj) (HR J.bM++gp (rs++[r])):=by
    rw[vC,←List.append_assoc];refine At.append hAt ?_;rw[hlen];have:gp [r]=r.b:=by simp[gp]
    rw[this];exact w1'.at
   have Oq:fY L.2 (2*J.now*F.aj+(J.fin+((dF (UInt8.ofNat r.1) (r.2.getD []) r.2.isNone).length+1))) (sz-(J.fin+((dF (UInt8.ofNat r.1) (r.2.getD []) r.2.isNone).length+1))):=fun j q1 q2=>by
    rw[w1 j,if_neg (by omega)];exact hg j (by omega) (by omega)
   have RU:fY L.2 (2*J.now*L.2.aj+(J.fin+((dF (UInt8.ofNat r.1) (r.2.getD []) r.2.isNone).length+1))) (sz-(J.fin+((dF (UInt8.ofNat r.1) (r.2.getD []) r.2.isNone).length+1))):=by rw[s1];exact Oq
   refine⟨L.2,_,rfl,⟨f1,lW,hk,by omega,⟨rs++[r],?_,?_,?_,by simp only;omega,by simp only;rw[s1];exact hA2⟩,Hz (J:=⟨J.now,J.fin+((dF (UInt8.ofNat r.1) (r.2.getD []) r.2.isNone).length+1),J.bM⟩) RU,by simp only[Oo];exact h.Ym⟩,RU,a3,by simp only;omega⟩
   ·intro x hx
    rcases List.mem_append.1 hx with hx | hx
    ·exact r1 x hx
    ·simp only[List.mem_singleton]at hx;rw[hx];exact hr
   ·obtain⟨q1,q2⟩:=AZ rs [] r1 ni qq
    rw[List.foldl_append];show aaB (Rc.ap (rs.foldl Rc.ap []) r)=_;rw[abK q1,r2,Kf]
   ·rw[vC,List.length_append]
    have:gp [r]=r.b:=by simp[gp]
    rw[this,hrl,hbl];simp only;omega
  ·right
   rw[if_pos (by omega),a1];refine⟨L.2,rfl,a3,⟨f1,lW,h.keyed,h.need,⟨rs,r1,r2,r3,r4,by rw[s1];exact hAt⟩,⟨r.1,r.2.getD [],r.2.isNone,n,hr.1,hr.2,hdv,by omega,fun j hj=>?_⟩,by rw[Oo];exact h.Ym⟩⟩;rw[s1,w1 _]
   by_cases q:j<n
   ·rw[if_pos q,if_pos (by omega)]
    show r.b.getD _ 0=r.b.getD j 0;congr 1;omega
   ·rw[if_neg q,if_neg (by omega)]
    exact hg _ (by omega) (by omega)
end Go.Am.Qd
namespace Go.Am.Qd
variable {F G:Fl} {sz:Nat} {J:Jn} {vs:Vs}
theorem T9 (hF:Fq F sz) (hn:NC F) (lW:J.now≤1) (Oo:(mN F J.now).getD 0 0≠0∨(jl ((mN F J.now).drop 1)).toNat<(J.bM+1#32).toNat) (hk:Keyed vs) (hsm:Small vs) (hsz:cY vs≤sz) (hep:J.bM≠4294967295#32) :
  ∃ F' J',F.move sz J vs=(0,F',some J')∧St F' sz J' vs∧fY F' (2*J'.now*F'.aj+J'.fin) (sz-J'.fin)∧F'.down=false:=by
 obtain⟨i1,i2,_,_⟩:=s8 hF (J:=J) hk;obtain⟨F2,w1,_⟩:=D2 hF hn lW hk hsz hep;rcases Hl hF hn.2 lW hk hsz hep with⟨F',m1,m2,m3,m4,m5⟩ | ⟨F',m1,m2,m3,m4⟩
 ·rw[m1]at i1 i2
  simp only at i1 i2;exact⟨F',_,m1,CK hF lW Oo i1 i2 hk hsm hsz m3 m4 m5,by rw[i2];exact m5,m2⟩
 ·rw[m1]at w1
  simp at w1
end Go.Am.Qd
namespace Go.Am.Qd
theorem RW (F:Fl) (i:Nat) (c:UInt8):Out F (F.cD i c).2 i 1:=fun j q=>by
 unfold Fl.cD;split
 ·rfl
 ·simp only[List.getD_eq_getElem?_getD]
  rw[List.getElem?_set_ne (by omega)]
theorem Ba:∀ (l:List UInt8) (F:Fl) (i:Nat),Out F (F.prog i l).2 i l.length
 | [],F,i=>fun _ _=>rfl
 | c::r,F,i=>by
  have h1:=RW F i c;unfold Fl.prog;split
  ·have h2:=Ba r (F.cD i c).2 (i+1)
   exact(h1.sub (Nat.le_refl _) (by simp only[List.length_cons];omega)).trans (h2.sub (by omega) (by simp only[List.length_cons];omega))
  ·exact h1.sub (Nat.le_refl _) (by simp only[List.length_cons];omega)
theorem mC (F:Fl) (i:Nat) (l:List UInt8):Out F (F.program i l).2 i l.length:=by
 unfold Fl.program;split
 ·exact fun _ _=>rfl
 ·split
  ·exact Ba l F i
  ·exact fun _ _=>rfl
theorem Ot (F:Fl) (s:Nat):Out F (F.erase s).2 (s*F.aj) F.aj:=by
 unfold Fl.erase;split
 ·exact fun _ _=>rfl
 ·have:=Ba (List.replicate F.aj 255) { F with bN:=F.bN.set s (min (F.bN.getD s 0+1) 1073741824) } (s*F.aj)
  rw[List.length_replicate]at this;exact this
theorem qv:∀ (n:Nat) (F:Fl) (s:Nat),gO F→s+n≤F.bN.length→Out F (F.clear s n).2 (s*F.aj) (n*F.aj)
 | 0,F,s,_,_=>fun _ _=>rfl
 | n+1,F,s,hF,hs=>by
  have h1:=Ot F s;obtain⟨g1,g2,g3,g4⟩:=hF.erase s (by omega);have e1:(s+1)*F.aj=s*F.aj+F.aj:=Nat.succ_mul _ _;have e2:(n+1)*F.aj=n*F.aj+F.aj:=Nat.succ_mul _ _;unfold Fl.clear;split
  ·have h2:=qv n (F.erase s).2 (s+1) g1 (by omega)
   rw[g4]at h2;exact(h1.sub (Nat.le_refl _) (by omega)).trans (h2.sub (by omega) (by omega))
  ·exact h1.sub (Nat.le_refl _) (by omega)
theorem L0 (F:Fl) (a:Nat) (l:List UInt8):Out F (F.lay a l).2 a (l.length+1):=by
 have h1:=mC F a l;unfold Fl.lay;split
 ·have h2:=mC (F.program a l).2 (a+l.length) [0]
  exact(h1.sub (Nat.le_refl _) (by omega)).trans (h2.sub (by omega) (by simp;omega))
 ·exact h1.sub (Nat.le_refl _) (by omega)
theorem HA (A:Nat) (vs:Vs):∀ (ks:List Nat) (F:Fl) (a:Nat),Out F (F.fill A a vs ks).2.2 (A+a) (kg vs ks)
 | [],F,a=>fun _ _=>rfl
 | k::r,F,a=>by
  have hs:kg vs (k::r)=(7+(vB ((cP vs k).getD none)).length)+kg vs r:=by simp[kg]
  have hbl:(dF (UInt8.ofNat k) (vB ((cP vs k).getD none)) false).length=(vB ((cP vs k).getD none)).length+6:=eC _ _ _;rw[hs];unfold Fl.fill;have h1:=L0 F (A+a) (dF (UInt8.ofNat k) (vB ((cP vs k).getD none)) false);rw[hbl]at h1;split
  ·have h2:=HA A vs r (F.lay (A+a) (dF (UInt8.ofNat k) (vB ((cP vs k).getD none)) false)).2 (a+(7+(vB ((cP vs k).getD none)).length))
   exact(h1.sub (Nat.le_refl _) (by omega)).trans (h2.sub (by omega) (by omega))
  ·exact h1.sub (Nat.le_refl _) (by omega)
def D8 (F G:Fl):Prop:=∀ i,4*F.aj≤i→G.b.getD i 0=F.b.getD i 0
theorem D8.trans {F G K:Fl} (a:D8 F G) (hs:G.aj=F.aj) (b:D8 G K):D8 F K:=fun i hi=>(b i (by rw[hs];exact hi)).trans (a i hi)
theorem Out.j {F G:Fl} {a n:Nat} (h:Out F G a n) (hn:a+n≤4*F.aj):D8 F G:=fun i hi=>h i (.inr (by omega))
theorem CM {F:Fl} {sz:Nat} (hF:Fq F sz) (J:Jn) (hn:J.now≤1) {vs:Vs} (hk:Keyed vs):D8 F (F.move sz J vs).2.1:=by
 have hsz:=hF.sz;have hpos:=hF.pos;have hA:2*(1-J.now)*F.aj+2*F.aj≤4*F.aj:=by
  have:J.now=0∨J.now=1:=by omega
  rcases this with e | e<;>rw[e]<;>simp<;>omega
 unfold Fl.move;split
 ·exact fun _ _=>rfl
 rename_i aod;split
 ·exact fun _ _=>rfl
 simp only;obtain⟨f1,s1⟩:=hF.fin.shC (2*(1-J.now)) 2 (by have:=hF.bN;omega);have o1:D8 F (F.clear (2*(1-J.now)) 2).2:=(qv 2 F (2*(1-J.now)) hF.fin (by have:=hF.bN;omega)).j hA;split
 ·exact o1
 obtain⟨f2,s2⟩:=f1.shF (2*(1-J.now)*F.aj) 8 vs (fz vs);have hsum:=kY hk;have o2:=o1.trans s1.s ((HA (2*(1-J.now)*F.aj) vs (fz vs) (F.clear (2*(1-J.now)) 2).2 8).j (by rw[s1.s];omega));split
 ·exact o2
 obtain⟨f3,s3⟩:=f2.Yk (2*(1-J.now)*F.aj+1) (br (J.bM+1#32));have s12:=s1.trans s2;have o3:=o2.trans s12.s ((mC _ (2*(1-J.now)*F.aj+1) (br (J.bM+1#32))).j (by rw[s12.s];show _+1+4≤_;omega));split
 ·exact o3
 have abL:=s12.trans s3;have o4:=o3.trans abL.s ((mC _ (2*(1-J.now)*F.aj+0) [0]).j (by rw[abL.s];show _+0+1≤_;omega));split
 ·exact o4
 ·exact o4
theorem KB {F:Fl} {sz:Nat} (hF:Fq F sz) (J:Jn) (hn:J.now≤1) (hf:J.fin≤sz) {vs:Vs} (hk:Keyed vs) (b:List UInt8):D8 F (F.gi sz J b vs).2.1:=by
 have hsz:=hF.sz;unfold Fl.gi;split
 ·exact fun _ _=>rfl
 split
 ·exact CM hF J hn hk
 ·rename_i hroom
  have hA:2*J.now*F.aj+2*F.aj≤4*F.aj:=by
   have:J.now=0∨J.now=1:=by omega
   rcases this with e | e<;>rw[e]<;>simp<;>omega
  have o1:=(L0 F (2*J.now*F.aj+J.fin) b).j (by omega);simp only;split
  ·exact o1
  ·exact o1
theorem Bb {F G:Fl} {n i:Nat} (hl:F.b.length=G.b.length) (h:∀ j,(4+i*n)*64≤j→j<(4+i*n)*64+n*64→G.b.getD j 0=F.b.getD j 0):cA G n i=cA F n i:=by
 unfold cA;refine rK (by simp[hl]) fun j hj=>?_
 rw[List.length_take,List.length_drop]at hj;simp only[List.getD_eq_getElem?_getD];rw[List.getElem?_take_of_lt (by omega),List.getElem?_take_of_lt (by omega),List.getElem?_drop,List.getElem?_drop];have:=h ((4+i*n)*64+j) (by omega) (by omega);simpa only[List.getD_eq_getElem?_getD] using this
theorem L1 {F G:Fl} {n i:Nat} (hl:F.b.length=G.b.length) (hs:F.aj=64) (h:D8 F G):cA G n i=cA F n i :=
 Bb hl fun j h1 _=>h j (by rw[hs];omega)
theorem St.same {F G:Fl} {sz:Nat} {J:Jn} {vs:Vs} (h:St F sz J vs) (hG:Fq G sz) (hs:G.aj=F.aj) (hb:∀ i,i<4*F.aj→G.b.getD i 0=F.b.getD i 0):St G sz J vs:=by
 have hsz:=h.fq.sz;have lW:=h.now;have hA:∀ k,k≤1→2*k*F.aj+2*F.aj≤4*F.aj:=fun k hk=>by
  have:k=0∨k=1:=by omega
  rcases this with e | e<;>rw[e]<;>simp<;>omega
 have hg:∀ i,i≤1→mN G i=mN F i:=fun i hi=>by
  unfold mN;rw[hs];have hl1:=h.fq.len;have hl2:=hG.len;rw[hs]at hl2;have:=hA i hi;refine rK (by simp;omega) fun j hj=>?_
  rw[List.length_take,List.length_drop]at hj;simp only[List.getD_eq_getElem?_getD];rw[List.getElem?_take_of_lt (by omega),List.getElem?_take_of_lt (by omega),List.getElem?_drop,List.getElem?_drop];have:=hb (2*i*F.aj+j) (by omega);simpa only[List.getD_eq_getElem?_getD] using this
 obtain⟨rs,r1,r2,r3,r4,r5⟩:=h.row;obtain⟨k,l,dr,m,t1,t2,t3,t4,t5⟩:=h.tail;have hn:=hA J.now lW;have hlen:(HR J.bM++gp rs).length=J.fin:=by rw[List.length_append,lS,r3]
 refine⟨hG,lW,h.keyed,h.need,⟨rs,r1,r2,r3,r4,fun j hj=>by rw[hs,hb _ (by omega)];exact r5 j hj⟩,⟨k,l,dr,m,t1,t2,t3,t4,fun j hj=>by rw[hs,hb _ (by omega)];exact t5 j hj⟩,?_⟩;rw[hg _ (by omega)];exact h.Ym
end Go.Am.Qd
namespace Go.Am.Qd
theorem HB (vs:Vs):vB ((cP vs 0).getD none)=((cP vs 0).map vB).getD []:=by
 cases cP vs 0<;>rfl
theorem Ua {vs ws:Vs} (h1:Keyed vs) (h2:Keyed ws) (hc:aaB vs=aaB ws):bO vs=bO ws:=by
 have e1:=jU h1 0;have e2:=jU h2 0;rw[hc,e2]at e1;have e3:((0:Nat):Int)=0:=rfl;rw[e3]at e1;unfold bO;rw[HB,HB,e1]
theorem Ub {vs:Vs} (h1:Keyed vs) {a p:Nat} (ha:a≤1) (hp:p≤2) (hc:aaB vs=[(0,yK a p)]):bO vs=(a,p):=by
 have e1:=jU h1 0;rw[hc]at e1;have e2:(cP vs 0).map vB=some (yK a p):=e1.symm;cases hg:cP vs 0 with
 | none=>rw[hg]at e2;cases e2
 | some u=>rw[hg]at e2;exact ad1 ha hp hg (by simpa using e2)
def Ck (vs:Vs):Prop:=aaB vs=[]∨∃ a p,a≤1∧p≤2∧aaB vs=[(0,yK a p)]
theorem Ck.set {vs:Vs} (h:Ck vs) (hk:Keyed vs) (a p:Nat):aaB (gN vs 0 (some (yK a p)))=[(0,yK a p)]:=by
 rw[ue hk];rcases h with h | ⟨_,_,_,_,h⟩<;>rw[h]<;>rfl
theorem Ck.need {vs:Vs} (hk:Keyed vs) {a p:Nat} (hc:aaB vs=[(0,yK a p)]):cY vs=17:=by
 rw[←AX hk,hc];rfl
structure Inv (s:Ss) (n k:Nat):Prop where
 nc:NC s.F
 fs:s.F.aj=64
 fl:s.F.b.length=(4+2*n)*64
 fw:s.F.bN.length=4+2*n
 hn:4≤n∧n≤7
 st:St s.F 128 s.J s.vs
 er:fY s.F (2*s.J.now*s.F.aj+s.J.fin) (128-s.J.fin)
 ep:s.J.bM.toNat≤k
 ck:Ck s.vs
 sm:Small s.vs
 rn:s.run≤1
 wr:∀ W,s.W=some W→s.ph=0∧64≤W.size∧W.size≤n*64∧W.data.length≤W.size∧cA s.F n (1-s.act)=W.data++List.replicate (n*64-W.data.length) 255
theorem Inv.fin {s:Ss} {n k:Nat} (v:Inv s n k):gO s.F:=v.st.fq.fin
theorem Inv.mono {s:Ss} {n k k':Nat} (v:Inv s n k) (h:k≤k'):Inv s n k':={ v with ep:=Nat.le_trans v.ep h }
theorem Inv.stop {s:Ss} {n k:Nat} (v:Inv s n k):Inv s.stop n k:={ v with wr:=fun W h=>by cases h }
theorem Inv.keep {s:Ss} {n k:Nat} (v:Inv s n k) (hk:k<4000000000) (hW:s.W=none) {a p:Nat} (ha:a≤1) (hp:p≤2) :
  ∃ s',s.keep a p=(0,s')∧Inv s' n (k+1)∧s'.act=a∧s'.ph=p∧s'.run=s.run∧s'.W=none∧∀ i,cA s'.F n i=cA s.F n i:=by
 unfold Ss.keep Hr
 by_cases hq:bO s.vs=(a,p)
 ·rw[if_pos hq]
  refine⟨s,rfl,v.mono (by omega),?_,?_,rfl,hW,fun _=>rfl⟩
  ·show(bO s.vs).1=a;rw[hq]
  ·show(bO s.vs).2=p;rw[hq]
 rw[if_neg hq,if_neg (by rw[v.nc.2];simp)];have hkk:=v.st.keyed.gN 0 (some (yK a p));have hsm:=v.sm.gN v.st.keyed (k:=0) (v:=some (yK a p)) (by decide) (by show 2≤250;decide);have hc:=v.ck.set v.st.keyed a p;have hnd:=Ck.need hkk hc;obtain⟨rs,_,_,_,hfin,_⟩:=v.st.row;have hep:=v.ep;have he:s.J.bM≠4294967295#32:=(D7 (by omega)).2;obtain⟨F',J',w1,w2,w3,w4,_,_,_⟩:=RB v.st.fq v.st.now hfin ⟨v.nc,v.er⟩ (b:=dF (UInt8.ofNat 0) (yK a p) false) hkk (by omega) he;have ws:=RT v.st v.er v.nc.2 (by omega) hkk hsm (0,some (yK a p)) ⟨by show 0<32;decide,by show 2≤250;decide⟩ (ue v.st.keyed 0 _);obtain⟨i1,i2,_,_⟩:=Oh v.st.fq hkk v.st.now hfin (dF (UInt8.ofNat 0) (yK a p) false);have oj:=KB v.st.fq s.J v.st.now hfin hkk (dF (UInt8.ofNat 0) (yK a p) false);have hbd:s.F.gi 128 s.J (dF (UInt8.ofNat ((0,some (yK a p)):Rc).1) (((0,some (yK a p)):Rc).2.getD []) ((0,some (yK a p)):Rc).2.isNone) (gN s.vs 0 (some (yK a p)))=s.F.gi 128 s.J (dF (UInt8.ofNat 0) (yK a p) false) (gN s.vs 0 (some (yK a p))):=rfl;rw[hbd,w1]at ws;rw[w1]at i1 i2 oj;simp only at i1 i2 oj;have hst:St F' 128 J' (gN s.vs 0 (some (yK a p)))∧J'.bM.toNat≤s.J.bM.toNat+1:=by
  rcases ws with⟨_,h⟩ | ⟨F2,J2,h1,h2,_,_,h5⟩ | ⟨F2,h1,_,_⟩
  ·simp at h
  ·simp only[Prod.mk.injEq,Option.some.injEq,true_and]at h1
   obtain⟨rfl,rfl⟩:=h1;exact⟨h2,h5⟩
  ·simp at h1
 rw[w1];have hkp:=Ub hkk ha hp hc;refine⟨{ s with F:=F',J:=J',vs:=gN s.vs 0 (some (yK a p)) },rfl,⟨w4.1,by rw[i2.s];exact v.fs,by rw[i2.b];exact v.fl,by rw[i2.w];exact v.fw,v.hn,hst.1,w4.2,by simp only;omega,.inr ⟨a,p,ha,hp,hc⟩,hsm,v.rn,fun W h=>?_⟩,?_,?_,rfl,hW,fun i=>L1 i2.b.symm v.fs oj⟩
 ·rw[hW]at h;cases h
 ·show(bO _).1=a;rw[hkp]
 ·show(bO _).2=p;rw[hkp]
theorem KC {F:Fl} {sz:Nat} {J:Jn} {vs:Vs} (h:St F sz J vs) (hg:fY F (2*J.now*F.aj+J.fin) (sz-J.fin)) (hd:F.down=false):∃ vs0,F.CE sz=(0,F,some (J,vs0))∧aaB vs0=aaB vs∧Keyed vs0∧Small vs0:=by
 obtain⟨e1,_,_,vs0,e2,e3,e4,e5⟩:=h.read;refine⟨vs0,?_,e3,e4,e5⟩;unfold Fl.CE;rw[if_neg (by rw[hd];simp),e1];simp only[e2,Bool.true_eq_false,if_false,T8 h.fq h.now hg,Bool.false_eq_true,ne_eq,not_true_eq_false]
theorem St.vals {F:Fl} {sz:Nat} {J:Jn} {vs ws:Vs} (h:St F sz J vs) (hk:Keyed ws) (hc:aaB ws=aaB vs):St F sz J ws :=
 ⟨h.fq,h.now,hk,by rw[←AX hk,hc,AX h.keyed];exact h.need,by obtain⟨rs,r1,r2,r3⟩:=h.row;exact⟨rs,r1,by rw[hc];exact r2,r3⟩,h.tail,h.Ym⟩
theorem Inv.Oi {s:Ss} {n k:Nat} (v:Inv s n k):∃ s',Go.Am.Qd.Oi s.F=some s'∧Inv s' n k∧s'.act=s.act∧s'.ph=s.ph∧s'.run=s.act∧s'.W=none∧s'.F=s.F:=by
 obtain⟨vs0,o1,o2,o3,o4⟩:=KC v.st v.er v.nc.2;have hkp:=Ua o3 v.st.keyed o2;refine⟨⟨s.F,s.J,vs0,(bO vs0).1,none⟩,by unfold Go.Am.Qd.Oi;rw[o1];rfl,⟨v.nc,v.fs,v.fl,v.fw,v.hn,v.st.vals o3 o2,v.er,v.ep,by unfold Ck;simp only;rw[o2];exact v.ck,o4,(lT vs0).1,fun W h=>by cases h⟩,?_,?_,?_,rfl,rfl⟩
 ·show(bO vs0).1=(bO s.vs).1;rw[hkp]
 ·show(bO vs0).2=(bO s.vs).2;rw[hkp]
 ·show(bO vs0).1=(bO s.vs).1;rw[hkp]
/-! ### A slot is LQ,and written -/
theorem HC:∀ (n:Nat) {F:Fl} (s:Nat),gO F→NC F→s+n≤F.bN.length→(s+n)*F.aj≤F.b.length→(F.clear s n).1=0∧NC (F.clear s n).2∧fY (F.clear s n).2 (s*F.aj) (n*F.aj)
 | 0,F,s,hF,hn,hw,hl=>⟨rfl,hn,fun i h1 h2=>by simp at h2;omega⟩
 | n+1,F,s,hF,hn,hw,hl=>by
  have e1:(s+1)*F.aj=s*F.aj+F.aj:=Nat.succ_mul _ _;have e2:(n+1)*F.aj=n*F.aj+F.aj:=Nat.succ_mul _ _;have e3:(s+(n+1))*F.aj=s*F.aj+(n*F.aj+F.aj):=by rw[Nat.add_mul,e2]
  obtain⟨h1,h2,h3,h4⟩:=AR (F:=F) (s:=s) hn (by omega);obtain⟨g1,g2,g3,g4⟩:=hF.erase s (by omega);obtain⟨k1,k2,k3⟩:=HC n (F:=(F.erase s).2) (s+1) g1 h2 (by omega) (by rw[g4,g2,show s+1+n=s+(n+1) by omega];exact hl);have ho:=qv n (F.erase s).2 (s+1) g1 (by omega);rw[g4,e1]at k3 ho;unfold Fl.clear;rw[if_pos h1,e2];refine⟨k1,k2,fun i q1 q2=>?_⟩
  by_cases hi:i<s*F.aj+F.aj
  ·rw[ho i (.inl hi)];exact h3 i q1 hi
  ·exact k3 i (by omega) (by omega)
theorem nu {F:Fl} {n i:Nat} (hl:F.b.length=(4+2*n)*64) (hi:i≤1) {j:Nat} (hj:j<n*64):(cA F n i).getD j 0=F.b.getD (ny n i+j) 0:=by
 have h2:i=0∨i=1:=by omega
 unfold cA ny;simp only[List.getD_eq_getElem?_getD];rw[List.getElem?_take_of_lt hj,List.getElem?_drop]
theorem D9 {n i:Nat} (hi:i≤1):ny n i+n*64≤(4+2*n)*64∧256≤ny n i∧(i=0→ny n 1=ny n i+n*64)∧(i=1→ny n 0+n*64=ny n i):=by
 have h2:i=0∨i=1:=by omega
 unfold ny;rcases h2 with rfl | rfl<;>omega
theorem CN {F:Fl} {n i a:Nat} (hF:gO F) (hn:NC F) (hl:F.b.length=(4+2*n)*64) (hi:i≤1) {p:List UInt8} (hp:p.length=a) (l:List UInt8) (hal:a+l.length≤n*64) (hs:cA F n i=p++List.replicate (n*64-a) 255) :
  (F.program (ny n i+a) l).1=0∧NC (F.program (ny n i+a) l).2∧cA (F.program (ny n i+a) l).2 n i=(p++l)++List.replicate (n*64-(a+l.length)) 255∧cA (F.program (ny n i+a) l).2 n (1-i)=cA F n (1-i) ∧
   ∀ j,j<256→(F.program (ny n i+a) l).2.b.getD j 0=F.b.getD j 0:=by
 obtain⟨e1,e2,e3,e4⟩:=D9 (n:=n) hi;have Oq:fY F (ny n i+a) l.length:=fun j q1 q2=>by
  have:=nu hl hi (j:=j-ny n i) (by omega);rw[hs,mz (by omega)]at this;rw[show ny n i+(j-ny n i)=j by omega]at this;rw[←this];have hlt:j-ny n i-p.length<n*64-a:=by omega
  simp[hlt]
 have hq:F.program (ny n i+a) l=F.prog (ny n i+a) l:=by
  unfold Fl.program;rw[if_neg (by rw[hn.2];simp),if_pos (rI Oq)]
 obtain⟨g1,g2,g3⟩:=s9 l (F:=F) (ny n i+a) hn (by omega);obtain⟨f1,f2⟩:=hF.Yk (ny n i+a) l;rw[hq]at f2 ⊢;have hlen:(cA (F.prog (ny n i+a) l).2 n i).length=n*64:=nj (f2.b.trans hl) hi;refine⟨g1,g2,?_,?_,fun j hj=>?_⟩
 ·refine rK (by rw[hlen];simp;omega) fun j hj=>?_
  rw[hlen]at hj;rw[nu (f2.b.trans hl) hi hj,g3];have hold:=nu hl hi hj;rw[hs]at hold
  by_cases q1:j<a
  ·rw[if_neg (by omega),←hold,jK (by omega),jK (by simp;omega),jK (by omega)]
  ·by_cases q2:j<a+l.length
   ·rw[if_pos (by omega),jK (by simp;omega),mz (by omega)]
    congr 1;omega
   ·rw[if_neg (by omega),←hold,mz (by omega),mz (by simp;omega)]
    have h1:j-p.length<n*64-a:=by omega
    have h2:j-(p++l).length<n*64-(a+l.length):=by simp;omega
    simp only[List.getD_eq_getElem?_getD];rw[List.getElem?_replicate,List.getElem?_replicate,if_pos h1,if_pos h2]
 ·refine Bb f2.b.symm fun j q1 q2=>?_
  rw[g3,if_neg];have h2:i=0∨i=1:=by omega
  unfold ny at *;rcases h2 with rfl | rfl<;>omega
 ·rw[g3,if_neg (by omega)]
theorem KD {F:Fl} {n i:Nat} (hF:gO F) (hn:NC F) (hs:F.aj=64) (hl:F.b.length=(4+2*n)*64) (hw:F.bN.length=4+2*n) (hi:i≤1) :
  (F.clear (4+i*n) n).1=0∧NC (F.clear (4+i*n) n).2∧cA (F.clear (4+i*n) n).2 n i=List.replicate (n*64) 255∧cA (F.clear (4+i*n) n).2 n (1-i)=cA F n (1-i) ∧
   ∀ j,j<256→(F.clear (4+i*n) n).2.b.getD j 0=F.b.getD j 0:=by
 have hwi:4+i*n+n≤F.bN.length:=by
  rw[hw];have h2:i=0∨i=1:=by omega
  rcases h2 with rfl | rfl<;>omega
 have hbi:(4+i*n+n)*F.aj≤F.b.length:=by
  rw[hs,hl];have h2:i=0∨i=1:=by omega
  rcases h2 with rfl | rfl<;>omega
 obtain⟨c1,c2,c3⟩:=HC n (F:=F) (4+i*n) hF hn hwi hbi;have ho:=qv n F (4+i*n) hF hwi;obtain⟨f1,f2⟩:=hF.shC (4+i*n) n hwi;obtain⟨e1,e2,e3,e4⟩:=D9 (n:=n) hi;rw[hs]at c3 ho;refine⟨c1,c2,?_,?_,fun j hj=>?_⟩
 ·have hlen:(cA (F.clear (4+i*n) n).2 n i).length=n*64:=nj (f2.b.trans hl) hi
  refine rK (by rw[hlen];simp) fun j hj=>?_
  rw[hlen]at hj;rw[nu (f2.b.trans hl) hi hj];have:=c3 (ny n i+j) (by unfold ny;omega) (by unfold ny;omega);rw[this];simp[hj]
 ·refine Bb f2.b.symm fun j q1 q2=>?_
  refine ho j ?_;have h2:i=0∨i=1:=by omega
  rcases h2 with rfl | rfl<;>omega
 ·refine ho j (.inl ?_)
  have h2:i=0∨i=1:=by omega
  rcases h2 with rfl | rfl<;>omega
end Go.Am.Qd
namespace Go.Am.Qd
theorem ug {F:Fl} (hn:NC F) {n i:Nat} (hi:i≤1):cQ F n (i:Int)=cC (cA F n i):=by
 unfold cQ;rw[if_neg (by omega),if_neg (by rw[hn.2];simp),Int.toNat_natCast]
theorem KE {s:List UInt8} (hn:cL s=true) (cu:BitVec 32) {body:List UInt8} (hb:body.length≤1048576) (post:List UInt8):cC (bW s cu body++post)=some (bW s cu body):=by
 have hh:=qu hn cu hb post;have hl:=iB hn cu body;have hz:(eR s cu body).size=body.length:=rfl;have ht:(bW s cu body++post).take (64+body.length)=bW s cu body:=List.take_left' hl;unfold cC;rw[hh];simp only[hz];rw[if_neg (by rw[List.length_append,hl];simp;omega),ht,Kv hn cu hb];simp
section
variable {s:Ss} {n k:Nat} (v:Inv s n k)
include v
omit v in
theorem Ss.pP (s:Ss):s.act≤1:=(lT s.vs).1
theorem Inv.ok {i:Nat} (hi:i≤1):s.ok n i=(cC (cA s.F n i)).isSome:=by unfold Ss.ok;rw[ug v.nc hi]
theorem Inv.cX {F':Fl} (hn:NC F') (hf:gO F') (hs:HT s.F F') (hb:∀ j,j<256→F'.b.getD j 0=s.F.b.getD j 0) {W':Option Wt}
  (hW:∀ W,W'=some W→s.ph=0∧64≤W.size∧W.size≤n*64∧W.data.length≤W.size∧cA F' n (1-s.act)=W.data++List.replicate (n*64-W.data.length) 255):Inv { s with F:=F',W:=W' } n k:=by
 have hq:=v.st.fq.shp hf hs;have hst:=v.st.same hq hs.s (fun i hi=>hb i (by have:=v.fs;omega));refine⟨hn,hs.s.trans v.fs,hs.b.trans v.fl,hs.w.trans v.fw,v.hn,hst,fun i q1 q2=>?_,v.ep,v.ck,v.sm,v.rn,hW⟩;obtain⟨rs,_,_,_,hfin,_⟩:=v.st.row;have lW:=v.st.now;simp only at q1 q2;rw[hs.s,v.fs]at q1 q2;have hlt:i<256:=by
  have:s.J.now=0∨s.J.now=1:=by omega
  rcases this with e | e<;>rw[e]at q1 q2<;>omega
 simp only;rw[hb i hlt];exact v.er i (by rw[v.fs];exact q1) (by rw[v.fs];exact q2)
theorem Inv.begin (hp:s.ph=0) {z:Nat} (h1:64≤z) (h2:z≤n*64):∃ s',s.begin n (z:Int)=(0,s')∧Inv s' n k∧s'.act=s.act∧s'.ph=s.ph∧s'.run=s.run∧s'.W=some ⟨z,[]⟩ ∧
  cA s'.F n (1-s.act)=List.replicate (n*64) 255∧cA s'.F n s.act=cA s.F n s.act:=by
 have ha:=s.pP;obtain⟨c1,c2,c3,c4,c5⟩:=KD (i:=1-s.act) v.fin v.nc v.fs v.fl v.fw (by omega);have hwi:4+(1-s.act)*n+n≤s.F.bN.length:=by
  rw[v.fw];have h2:1-s.act=0∨1-s.act=1:=by omega
  rcases h2 with e | e<;>rw[e]<;>omega
 obtain⟨f1,f2⟩:=v.fin.shC (4+(1-s.act)*n) n hwi;rw[show 1-(1-s.act)=s.act by omega]at c4;refine⟨{ s with F:=(s.F.clear (4+(1-s.act)*n) n).2,W:=some ⟨z,[]⟩ },?_,v.cX c2 f1 f2 c5 (fun W hW=>?_),rfl,rfl,rfl,rfl,c3,c4⟩
 ·unfold Ss.begin
  rw[if_neg (by rw[v.nc.2];simp),if_neg (by simp[hp]),if_neg (by omega),if_neg (by simp[c1]),Int.toNat_natCast]
 ·cases hW
  exact⟨hp,h1,h2,Nat.zero_le _,by simp only[List.nil_append,List.length_nil,Nat.sub_zero];exact c3⟩
theorem Inv.write {W:Wt} (hW:s.W=some W) {b:List UInt8} (hb:W.data.length+b.length≤W.size):∃ s1,s.write n b=(if 64≤W.data.length then(0,s1) else if nU { W with data:=W.data++b }≠0 then(nU { W with data:=W.data++b },s1.stop) else(0,s1)) ∧
  Inv s1 n k∧s1.act=s.act∧s1.ph=s.ph∧s1.run=s.run∧s1.W=some { W with data:=W.data++b }∧cA s1.F n s.act=cA s.F n s.act:=by
 obtain⟨w1,w2,w3,w4,w5⟩:=v.wr W hW;have ha:=s.pP;obtain⟨c1,c2,c3,c4,c5⟩:=CN (i:=1-s.act) v.fin v.nc v.fl (by omega) (p:=W.data) rfl b (by omega) w5;obtain⟨f1,f2⟩:=v.fin.Yk (ny n (1-s.act)+W.data.length) b;rw[show 1-(1-s.act)=s.act by omega]at c4;refine⟨{ s with F:=(s.F.program (ny n (1-s.act)+W.data.length) b).2,W:=some { W with data:=W.data++b } },?_,v.cX c2 f1 f2 c5 (fun W' hW'=>?_),rfl,rfl,rfl,rfl,c4⟩
 ·unfold Ss.write
  rw[if_neg (by rw[v.nc.2];simp),hW];simp only;rw[if_neg (by omega),if_neg (by simp[c1])]
 ·cases hW'
  exact⟨w1,w2,w3,by simp only[List.length_append];exact hb,by simp only[List.length_append];exact c3⟩
theorem Inv.cD (hk:k<4000000000) (hW:s.W=none) {slot phase:Nat} (hs:slot≤1) (hp:phase≤2) :
  (s.ok n slot=true→∃ s',s.cD n slot phase=(slot,0,s')∧Inv s' n (k+1)∧s'.act=s.act∧s'.ph=phase∧s'.run=slot∧s'.W=none∧∀ i,cA s'.F n i=cA s.F n i) ∧
  (s.ok n slot=false→s.ok n (1-slot)=true→∃ s',s.cD n slot phase=(1-slot,0,s')∧Inv s' n (k+1)∧s'.act=1-slot∧s'.ph=0∧s'.run=1-slot∧s'.W=none∧∀ i,cA s'.F n i=cA s.F n i) ∧
  (s.ok n slot=false→s.ok n (1-slot)=false→s.cD n slot phase=(0,4,s)):=by
 have ha:=s.pP;refine⟨fun h=>?_,fun h1 h2=>?_,fun h1 h2=>?_⟩
 ·obtain⟨s',e1,e2,e3,e4,e5,e6,e7⟩:=v.keep hk hW (a:=s.act) (p:=phase) ha hp
  refine⟨{ s' with run:=slot },?_,{ e2 with rn:=hs,wr:=fun W h=>by rw[e6]at h;cases h },e3,e4,rfl,e6,e7⟩;unfold Ss.cD;rw[if_pos h,e1];simp
 ·obtain⟨s',e1,e2,e3,e4,e5,e6,e7⟩:=v.keep hk hW (a:=1-slot) (p:=0) (by omega) (by omega)
  refine⟨{ s' with run:=1-slot },?_,{ e2 with rn:=(by show 1-slot≤1;omega),wr:=fun W h=>by rw[e6]at h;cases h },e3,e4,rfl,e6,e7⟩;unfold Ss.cD;rw[if_neg (by rw[h1];simp),if_neg (by rw[h2];simp),e1];simp
 ·unfold Ss.cD
  rw[if_neg (by rw[h1];simp),if_pos h2]
theorem Inv.sel:s.select n=if s.ph=1∧s.ok n (1-s.act)=true then s.stop.cD n (1-s.act) 2 else s.stop.cD n s.act 0:=by
 unfold Ss.select;rw[if_neg (by rw[v.nc.2];simp)]
theorem Inv.RX (hk:k<4000000000) (hp:s.ph=2) (hr:s.run=1-s.act):∃ s',s.dh=(0,s')∧Inv s' n (k+1)∧s'.act=s.run∧s'.ph=0∧s'.run=s.run∧s'.W=none∧∀ i,cA s'.F n i=cA s.F n i:=by
 have hW:s.W=none:=by
  cases hw:s.W with
  | none=>rfl
  | some W=>have:=(v.wr W hw).1;omega
 have ha:=s.pP;obtain⟨s',e1,e2,e3,e4,e5,e6,e7⟩:=v.keep hk hW (a:=s.run) (p:=0) (by omega) (by omega);refine⟨s',?_,e2,e3,e4,e5,e6,e7⟩;unfold Ss.dh;rw[if_neg (by rw[v.nc.2];simp),if_neg (by simp[hp,hr]),e1]
theorem Inv.RY (h:s.ph≠2∨s.run≠1-s.act):s.dh=(60,s):=by
 unfold Ss.dh;rw[if_neg (by rw[v.nc.2];simp),if_pos h]
theorem Inv.amn (hk:k<4000000000) (hp:s.ph=0) (hW:s.W=none) (ho:s.ok n (1-s.act)=true):∃ s',s.arm n=(0,s')∧Inv s' n (k+1)∧s'.act=s.act∧s'.ph=1∧s'.run=s.run∧s'.W=none∧∀ i,cA s'.F n i=cA s.F n i:=by
 have ha:=s.pP;obtain⟨s',e1,e2,e3,e4,e5,e6,e7⟩:=v.keep hk hW (a:=s.act) (p:=1) ha (by omega);refine⟨s',?_,e2,e3,e4,e5,e6,e7⟩;unfold Ss.arm;rw[if_neg (by rw[v.nc.2];simp),if_neg (by simp[hp,hW]),if_neg (by rw[ho];simp),e1]
end
/-! ### A device that was made -/
theorem Ou {n:Nat} (hn:4≤n∧n≤7):∃ s,Oi (rH (4+2*n) 64)=some s∧Inv s n 1∧s.act=0∧s.ph=0∧s.run=0∧s.W=none∧cA s.F n 0=List.replicate (n*64) 255∧cA s.F n 1=List.replicate (n*64) 255:=by
 have hF:=fq0 (n:=4+2*n) (s:=64) (by omega) (by omega) (by omega) (by omega);have hnc:=nc0 (4+2*n) 64;have hh:=XD (n:=4+2*n) (s:=64) (by omega) (by omega);have Oq:∀ i,i<(4+2*n)*64→(rH (4+2*n) 64).b.getD i 0=255:=fun i hi=>by
  show(List.replicate ((4+2*n)*64) (255:UInt8)).getD i 0=255;simp[hi]
 have hfl:(rH (4+2*n) 64).b.length=(4+2*n)*64:=by simp[rH]
 have RG:(rH (4+2*n) 64).bN.length=4+2*n:=by simp[rH]
 have hse:(rH (4+2*n) 64).aj=64:=rfl;generalize rH (4+2*n) 64=F0 at *;have g1:(mN F0 1).getD 0 0≠0:=by
  have:(mN F0 1).getD 0 0=255:=by
   unfold mN;rw[hse];simp only[List.getD_eq_getElem?_getD];rw[List.getElem?_take_of_lt (by omega),List.getElem?_drop];have:=Oq (2*1*64+0) (by omega);simpa only[List.getD_eq_getElem?_getD] using this
  rw[this];decide
 obtain⟨F',J',m1,m2,m3,m4⟩:=T9 (sz:=128) (J:=⟨1,0,0#32⟩) (vs:=[]) hF hnc (Nat.le_refl 1) (.inl g1) ni qq (by simp[cY]) (by decide);obtain⟨F2,w1,w2,_,_⟩:=D2 (sz:=128) hF hnc (J:=⟨1,0,0#32⟩) (Nat.le_refl 1) (vs:=[]) ni (by simp[cY]) (by decide);obtain⟨i1,i2⟩:=hF.fin.shM (by omega) 128 ⟨1,0,0#32⟩ [];have oj:=CM hF ⟨1,0,0#32⟩ (Nat.le_refl 1) (vs:=[]) ni;have hop:F0.CE 128=(0,F',some (J',[])):=by
  unfold Fl.CE;rw[if_neg (by rw[hnc.2];simp),hh];simp only[if_true,m1];rfl
 rw[m1]at w1 i1 i2 oj;simp only[Prod.mk.injEq,Option.some.injEq,true_and]at w1;obtain⟨rfl,hJ⟩:=w1;simp only at i1 i2 oj;have hJe:J'.bM.toNat≤1:=by rw[hJ];decide
 have hsl:∀ i,i≤1→cA F' n i=List.replicate (n*64) 255:=fun i hi=>by
  rw[L1 i2.b.symm hse oj];refine rK (by rw[nj hfl hi];simp) fun j hj=>?_
  rw[nj hfl hi]at hj;obtain⟨e1,_⟩:=D9 (n:=n) hi;rw[nu hfl hi hj,Oq _ (by omega)];simp[hj]
 refine⟨⟨F',J',[],0,none⟩,by unfold Oi;rw[hop];rfl,⟨w2,i2.s.trans hse,i2.b.trans hfl,i2.w.trans RG,hn,m2,m3,hJe,.inl (show aaB []=[] by simp[aaB,fz]),qq,Nat.zero_le _,fun W h=>by cases h⟩,rfl,rfl,rfl,rfl,hsl 0 (by omega),hsl 1 (by omega)⟩
end Go.Am.Qd
namespace Go.Am.Qd
def cG:List UInt8:=[97,112,112]
theorem dc:cL cG=true:=by decide
structure Ar (H:Hp) (v:PV) (l:List UInt8):Prop where
 rd:∀ g,Rd (ext H g) v l
 st:strip v=v
 cl:v.cells=[v]
 sc:scalar v=true
theorem abM {H:Hp} {o:Own} (ho:Nf o) (l:List UInt8):Ar H (.sl o 1 (aP l)) l:=⟨fun g=>jS ho l,by rcases ho with rfl | rfl<;>rfl,rfl,rfl⟩
theorem XO {H:Hp} {f:Bool} {b:Nat} {l:List UInt8} (hb:ay H b=some (aP l)):Ar H (.bX f b 0 l.length 1) l:=⟨fun g=>sY (by rw[aX (cw hb)];exact hb),rfl,rfl,rfl⟩
theorem Uc {H:Hp} (base:Nat) (hb:base≤size H) (l:List UInt8) (r:Hp):cV base (ext H (.cells (aP l)::r)) .fix [.bX false (size H) 0 l.length 1]=some (.sl .no 1 (aP l),ext H (.dead::r)):=by
 rw[Qk,aQ];show(if base≤size H∧1=1∧0+l.length≤(aP l).length∧(aP l).all scalar=true then some (PV.sl .no 1 (((aP l).drop 0).take l.length),aC (ext H (.cells (aP l)::r)) (size H) .dead) else none)=_;rw[if_pos ⟨hb,rfl,by rw[aM];omega,gM l⟩,List.drop_zero,List.take_of_length_le (by rw[aM];omega),eu (Nat.le_refl _),Nat.sub_self];rfl
section
variable {H:Hp} {P:Pl} {s:Ss} {R:List Nat} {xb:Nat} (x:Dx H P s R xb)
include x
theorem Dx.get {H':Hp} (k:Kp (xb::R) H H'):ay H' xb=some (xC P (.ptr P.jb 0) (.ptr P.sb 0)):=by
 have:=x.g;unfold ay at this ⊢;rw[k.2 xb (by simp)];exact this
theorem Dx.of {H':Hp} {s':Ss} (d:DS H' P s' (xb::R)) (k:Kp (xb::R) H H'):Dx H' P s' R xb:=⟨d,x.get k,x.r,x.l⟩
theorem Dx.CO (j:Nat):ax 1 false (.ptr xb j) H=(xC P (.ptr P.jb 0) (.ptr P.sb 0))[j]?:=dL x.g
theorem Dx.ext (l:Hp):Dx (Go.Am.ext H l) P s R xb:=x.of (eT.ext x.d l) (eT.T5 x.d l)
theorem Dx.mY {v:PV} {body:List UInt8} (ha:Ar H v body) (hl:64+body.length≤P.n*64) (base:Nat) :
  ∃ H',ai T base 10 [.ptr xb 0,v] H=some (.bool (decide ((s.F.program (ny P.n 0+0) (bW cG 1#32 body)).1=0)),H')∧Dx H' P { s with F:=(s.F.program (ny P.n 0+0) (bW cG 1#32 body)).2 } R xb∧Kp (xb::R) H H':=by
 have hn:=eT.hn x.d;have hil:=iB dc 1#32 body;obtain⟨h,m,w,dd⟩:=x.d;have mk:=Od (h:=H) (size H) dc 1#32 ha.rd ha.st ha.cl ha.sc (by omega);have fx:=Uc (H:=H) (size H) (Nat.le_refl _) (bW cG 1#32 body) [];generalize hI:bW cG 1#32 body=img at mk fx hil ⊢;have de:=dd.ext [.dead];have l0:ax 1 false (.ptr P.sb 0) (Go.Am.ext H [.dead])=some (.ptr P.qc 0):=de.ld 0;obtain⟨H1,p1,p2,p3⟩:=de.pwrite (size H) (i:=0) (by omega) l0 (a:=0) (pL (.inl rfl) img) (by omega);have e1:H1=Go.Am.ext (dZ h P.p (s.F.program (ny P.n 0+0) img).2 P.jb (jC P.qa P.qb 128 s.J m)) [.dead]:=by
  rw[p2.eq];exact(ng dd.js.ok _ _).symm
 obtain⟨f1,f2⟩:=dd.js.fl.fin.Yk (ny P.n 0+0) img;obtain⟨d',k'⟩:=dd.cX f1 f2;have hsz:size (dZ h P.p (s.F.program (ny P.n 0+0) img).2 P.jb (jC P.qa P.qb 128 s.J m))=size H:=by rw[dH dd.js.ok,dd.td]
 refine⟨_,?_,x.of ⟨h,m,w,d'⟩ k',k'⟩;have xe:=(x.ext [.dead]).CO 3;have l3:ax 1 false (.ptr xb 3) (Go.Am.ext H [.dead])=some (.ptr P.qc 0):=xe;have eq:=eqi (s.F.program (ny P.n 0+0) img).1 0;simp only[show((0:Nat):Int)=0 from rfl]at eq p1;have fin:∀ b:Bool,bk false false (size H) [.bool b] H1=some (.bool b,dZ h P.p (s.F.program (ny P.n 0+0) img).2 P.jb (jC P.qa P.qb 128 s.J m)):=fun b=>by
  rw[cc];show some (PV.bool b,bJ H1 (size H))=_;rw[e1,←hsz,cI]
 have c0:binOp .eql (.int .i64 0) (.int .i64 0)=some (.bool true):=rfl;have u1:uV 1#32=.int .u32 1:=rfl;rw[u1]at mk;have mk':ai T (size H) 11 [.str [97,112,112],.int .u32 1,v] H=_:=mk;rw[S10];simp only[mk',tY,tZ,fx,c0,wT,Ee,Kw,Kx,show ∀ k,aF (.ptr k 0)=some (.ptr k 0) from fun _=>rfl,ou,l3,p1,eq,eU,fin,Option.ag,az]
end
theorem Inv.mY {s:Ss} {n k:Nat} (v:Inv s n k) (hW:s.W=none) {body:List UInt8} (hl:64+body.length≤n*64) (hs:cA s.F n 0=List.replicate (n*64) 255) :
  (s.F.program (ny n 0+0) (bW cG 1#32 body)).1=0∧Inv { s with F:=(s.F.program (ny n 0+0) (bW cG 1#32 body)).2 } n k ∧
   cA (s.F.program (ny n 0+0) (bW cG 1#32 body)).2 n 0=bW cG 1#32 body++List.replicate (n*64-(bW cG 1#32 body).length) 255∧cA (s.F.program (ny n 0+0) (bW cG 1#32 body)).2 n 1=cA s.F n 1:=by
 have hil:=iB dc 1#32 body;obtain⟨c1,c2,c3,c4,c5⟩:=CN (i:=0) (a:=0) v.fin v.nc v.fl (by omega) (p:=[]) rfl (bW cG 1#32 body) (by omega) (by rw[hs];simp);obtain⟨f1,f2⟩:=v.fin.Yk (ny n 0+0) (bW cG 1#32 body);refine⟨c1,?_,by rw[c3];simp,c4⟩;have:=v.cX c2 f1 f2 c5 (W':=s.W) (fun W h=>by rw[hW]at h;cases h);exact this
end Go.Am.Qd
namespace Go.Am.Qd
section
variable {nm:List UInt8} (hn:cL nm=true) (cu:BitVec 32) {body:List UInt8} (hb:body.length≤1048576)
include hn hb
theorem Bc:cz ((bW nm cu body).take 64)=(eR nm cu body,0):=by
 have hl:=iB hn cu body;have:=qu hn cu hb [];rw[List.append_nil]at this;rw[rJ (by omega),this]
theorem nv:cz (bW nm cu body)=(eR nm cu body,0):=by
 have:=qu hn cu hb [];rwa [List.append_nil]at this
omit hb in
theorem HD:(bW nm cu body).drop 64=body:=List.drop_left' (m7 (kZ hn) (kS _))
end
theorem XP {nm nm':List UInt8} (hn:cL nm=true) (hn':cL nm'=true) {v v':BitVec 32} (hv:v≠v') {b b':List UInt8} (h1:b.length≤1048576) (h2:b'.length≤1048576):bW nm v b≠bW nm' v' b':=fun q=>by
 have e1:=nv hn v h1;have e2:=nv hn' v' h2;rw[q,e2]at e1;have:(eR nm' v' b').cu=(eR nm v b).cu:=by
  have:=congrArg (fun z=>z.1.cu) e1;exact this
 exact hv this.symm
theorem Inv.finish {s:Ss} {n k:Nat} (v:Inv s n k) {nm:List UInt8} (hn:cL nm=true) {cu:BitVec 32} {body:List UInt8} (hb:body.length≤1048576) (hW:s.W=some ⟨(bW nm cu body).length,bW nm cu body⟩)
  (hv:s.ok n s.act=true→(vD (cQ s.F n (s.act:Int))).cu.toNat<cu.toNat):s.finish n=(eR nm cu body,0,s.stop):=by
 unfold Ss.finish;rw[if_neg (by rw[v.nc.2];simp),hW];simp only;rw[if_neg (Nat.lt_irrefl _),Bc hn cu hb,HD hn cu];simp only;rw[if_neg (by simp),if_neg (by simp[eR]),if_neg];rintro⟨q1,q2⟩;have:=hv q1;have e:(eR nm cu body).cu=cu:=rfl;rw[e]at q2;omega
/-! ### The cU 'US -/
section
variable {h:Hp} {v w:PV} {l m:List UInt8} (hv:Rd h v l) (hw:Rd h w m) (hl:l.length≤1000000)
include hv hw hl
theorem KF (he:l.length=m.length):∀ (c i:Nat),i+c=l.length→Lo (size h) (size h) (.int .i64 (i:Int)) w v h=some (.bool (l.drop i == m.drop i),h):=by
 intro c
 induction c with
 | zero =>
  intro i hi;obtain rfl:i=l.length:=by omega
  have hk:binOp .lss (.int .i64 (l.length:Int)) (.int .i64 (l.length:Int))=some (.bool false):=by
   show some (PV.bool (decide ((l.length:Int)<(l.length:Int))))=_;rw[decide_eq_false (by omega)]
  rw[Gh,hv.len];simp only[hk,eF,fB,Option.ag];rw[List.drop_of_length_le (Nat.le_refl _),List.drop_of_length_le (by omega)];rfl
 | succ c ih =>
  intro i hi;have hlt:i<l.length:=by omega
  have hlt2:i<m.length:=by omega
  have hk:binOp .lss (.int .i64 (i:Int)) (.int .i64 (l.length:Int))=some (.bool true):=by
   show some (PV.bool (decide ((i:Int)<(l.length:Int))))=_;rw[decide_eq_true (by omega)]
  obtain⟨a,a1,a2⟩:=hv.rd .i64 i l[i] (List.getElem?_eq_getElem hlt);obtain⟨b,b1,b2⟩:=hw.rd .i64 i m[i] (List.getElem?_eq_getElem hlt2);have w1:IntKind.i64.wrap ((i:Int)+1)=((i+1:Nat):Int):=fy i (by omega);have ad:binOp .add (.int .i64 (i:Int)) (.int .i64 1)=some (.int .i64 ((i+1:Nat):Int)):=by rw[←w1];rfl
  have ne:binOp .neq (.int .u8 (l[i].toNat:Int)) (.int .u8 (m[i].toNat:Int))=some (.bool (!(l[i] == m[i]))):=by
   show some (PV.bool (!((l[i].toNat:Int) == (m[i].toNat:Int))))=_;congr 3
   by_cases hq:l[i]=m[i]
   ·rw[hq];simp
   ·have:l[i].toNat≠m[i].toNat:=fun q=>hq (UInt8.toNat_inj.1 q)
    rw[beq_false_of_ne hq,beq_false_of_ne (by omega)]
  have ed:(l.drop i == m.drop i)=((l[i] == m[i])&&(l.drop (i+1) == m.drop (i+1))):=by
   rw[List.drop_eq_getElem_cons hlt,List.drop_eq_getElem_cons hlt2];rfl
  have ih':=ih (i+1) (by omega);rw[Gh,hv.len];simp only[hk,eU,a1,a2,b1,b2,ne,ad,Option.ag,ed];cases hq:(l[i] == m[i]) with
  | true=>simp only[Bool.not_true,eF,Bool.true_and];exact ih'
  | false=>simp only[Bool.not_false,eU,Bool.false_and];exact fB h false
theorem KG (base:Nat):ai T base 47 [v,w] h=some (.bool (l == m),h):=by
 have ne:=nei l.length m.length;rw[S47,hv.len,hw.len]
 by_cases he:l.length≠m.length
 ·simp only[ne,decide_eq_true he,eU,fB,Option.ag]
  rw[beq_false_of_ne (fun q=>he (by rw[q]))]
 ·have he':l.length=m.length:=Classical.not_not.1 he
  simp only[ne,decide_eq_false he,eF,Option.ag];have:=KF hv hw hl he' l.length 0 (by omega);simp only[show((0:Nat):Int)=0 from rfl,List.drop_zero]at this;exact this
end
end Go.Am.Qd
namespace Go.Am.Qd
structure Cf where
 act:Nat
 ph:Nat
 run:Nat
 W:Option Wt
 b:Nat→List UInt8
def up (b:Nat→List UInt8) (j:Nat) (l:List UInt8):Nat→List UInt8:=fun i=>if i=j then l else b i
def pad (n:Nat) (l:List UInt8):List UInt8:=l++List.replicate (n*64-l.length) 255
def Cf.ok (c:Cf) (i:Nat):Bool:=(cC (c.b i)).isSome
def Cf.stop (c:Cf):Cf:={ c with W:=none }
def Cf.cD (c:Cf) (slot phase:Nat):Nat × Nat × Cf :=
 if c.ok slot=true then(slot,0,{ c with ph:=phase,run:=slot,W:=none })
 else if c.ok (1-slot)=true then(1-slot,0,{ c with act:=1-slot,ph:=0,run:=1-slot,W:=none }) else(0,4,c.stop)
def Cf.select (c:Cf):Nat × Nat × Cf:=if c.ph=1∧c.ok (1-c.act)=true then c.cD (1-c.act) 2 else c.cD c.act 0
def Cf.begin (c:Cf) (n:Nat) (z:Int):Nat × Cf :=
 if c.ph≠0 then(60,c) else if z<64∨(n*64:Nat)<z then(53,c) else(0,{ c with W:=some ⟨z.toNat,[]⟩,b:=up c.b (1-c.act) (pad n []) })
def Cf.write (c:Cf) (n:Nat) (l:List UInt8):Nat × Cf :=
 match c.W with
 | none=>(60,c)
 | some W=>if W.size<W.data.length+l.length then(2,c) else
  let c':Cf:={ c with W:=some { W with data:=W.data++l },b:=up c.b (1-c.act) (pad n (W.data++l)) }
  if 64≤W.data.length then(0,c') else if nU { W with data:=W.data++l }≠0 then(nU { W with data:=W.data++l },c'.stop) else(0,c')
def Cf.finish (c:Cf):qx × Nat × Cf:=match c.W with
 | none=>(iV,60,c)
 | some W=>if W.data.length<W.size then(iV,53,c) else
  if(cz (W.data.take 64)).2≠0 then(iV,(cz (W.data.take 64)).2,c.stop) else
  if Rb (W.data.drop 64)≠(cz (W.data.take 64)).1.dg then(iV,51,c.stop) else
  if c.ok c.act=true∧(cz (W.data.take 64)).1.cu.toNat≤(vD (cC (c.b c.act))).cu.toNat then(iV,52,c.stop) else((cz (W.data.take 64)).1,0,c.stop)
def Cf.dh (c:Cf):Nat × Cf:=if c.ph≠2∨c.run≠1-c.act then(60,c) else(0,{ c with act:=c.run,ph:=0,W:=none })
def Cf.arm (c:Cf):Nat × Cf:=if c.ph≠0∨c.W.isSome=true then(60,c) else if c.ok (1-c.act)=false then(4,c) else(0,{ c with ph:=1 })
def Cf.Oi (c:Cf):Cf:={ c with run:=c.act,W:=none }
structure Is (s:Ss) (n:Nat) (c:Cf):Prop where
 act:s.act=c.act
 ph:s.ph=c.ph
 run:s.run=c.run
 W:s.W=c.W
 b:∀ i,i≤1→cA s.F n i=c.b i
/-! ### Plain: what each does -/
section
variable {s:Ss} {n k:Nat} {c:Cf} (v:Inv s n k) (z:Is s n c)
include v z
theorem Is.le:c.act≤1:=by rw[←z.act];exact s.pP
theorem Is.ok {i:Nat} (hi:i≤1):s.ok n i=c.ok i:=by rw[v.ok hi,z.b i hi];rfl
theorem Is.wr {W:Wt} (hW:c.W=some W):c.ph=0∧64≤W.size∧W.size≤n*64∧W.data.length≤W.size∧c.b (1-c.act)=pad n W.data:=by
 have:=v.wr W (z.W.trans hW);rwa [z.ph,z.act,z.b _ (by omega)]at this
theorem Is.stop:Is s.stop n c.stop:=⟨z.act,z.ph,z.run,rfl,z.b⟩
theorem Is.cD (hk:k<4000000000) (hW:s.W=none) {slot phase:Nat} (hs:slot≤1) (hp:phase≤2) :
  (s.cD n slot phase).1=(c.cD slot phase).1∧(s.cD n slot phase).2.1=(c.cD slot phase).2.1∧Inv (s.cD n slot phase).2.2 n (k+1)∧Is (s.cD n slot phase).2.2 n (c.cD slot phase).2.2:=by
 obtain⟨t1,t2,t3⟩:=v.cD hk hW hs hp;have o1:=z.ok v hs;have o2:=z.ok v (i:=1-slot) (by omega);unfold Cf.cD
 by_cases h1:c.ok slot=true
 ·obtain⟨s',e1,e2,e3,e4,e5,e6,e7⟩:=t1 (o1.trans h1)
  rw[if_pos h1,e1];exact⟨rfl,rfl,e2,⟨e3.trans z.act,e4,e5,e6,fun i hi=>(e7 i).trans (z.b i hi)⟩⟩
 rw[if_neg h1];have h1':c.ok slot=false:=by simpa using h1
 by_cases h2:c.ok (1-slot)=true
 ·obtain⟨s',e1,e2,e3,e4,e5,e6,e7⟩:=t2 (o1.trans h1') (o2.trans h2)
  rw[if_pos h2,e1];exact⟨rfl,rfl,e2,⟨e3,e4,e5,e6,fun i hi=>(e7 i).trans (z.b i hi)⟩⟩
 ·have h2':c.ok (1-slot)=false:=by simpa using h2
  rw[if_neg h2,t3 (o1.trans h1') (o2.trans h2')];exact⟨rfl,rfl,v.mono (by omega),⟨z.act,z.ph,z.run,hW,z.b⟩⟩
theorem Is.select (hk:k<4000000000):(s.select n).1=c.select.1∧(s.select n).2.1=c.select.2.1∧Inv (s.select n).2.2 n (k+1)∧Is (s.select n).2.2 n c.select.2.2:=by
 have ha:=z.le v;rw[v.sel,z.ph,z.act,z.ok v (i:=1-c.act) (by omega)];have hst:∀ a p,c.stop.cD a p=c.cD a p:=fun a p=>rfl
 unfold Cf.select
 by_cases h:c.ph=1∧c.ok (1-c.act)=true
 ·rw[if_pos h,if_pos h,←hst]
  exact(z.stop v).cD v.stop hk rfl (by omega) (by omega)
 ·rw[if_neg h,if_neg h,←hst]
  exact(z.stop v).cD v.stop hk rfl (by omega) (by omega)
theorem Is.upd {s':Ss} {a:Nat} (ha:a≤1) {l:List UInt8} (h1:cA s'.F n (1-a)=l) (h2:cA s'.F n a=cA s.F n a):∀ i,i≤1→cA s'.F n i=up c.b (1-a) l i:=fun i hi=>by
 unfold up
 by_cases h:i=1-a
 ·rw[if_pos h,h];exact h1
 ·rw[if_neg h,show i=a by omega,h2];exact z.b a ha
theorem Is.begin (y:Int):(s.begin n y).1=(c.begin n y).1∧Inv (s.begin n y).2 n k∧Is (s.begin n y).2 n (c.begin n y).2:=by
 unfold Cf.begin
 by_cases h1:c.ph≠0
 ·have:s.begin n y=(60,s):=by
   unfold Ss.begin;rw[if_neg (by rw[v.nc.2];simp),if_pos (by rw[z.ph];exact h1)]
  rw[this,if_pos h1];exact⟨rfl,v,z⟩
 rw[if_neg h1]
 by_cases h2:y<64∨(n*64:Nat)<y
 ·have:s.begin n y=(53,s):=by
   unfold Ss.begin;rw[if_neg (by rw[v.nc.2];simp),if_neg (by rw[z.ph];exact h1),if_pos h2]
  rw[this,if_pos h2];exact⟨rfl,v,z⟩
 rw[if_neg h2];have hy:y=(y.toNat:Int):=by omega
 obtain⟨s',e1,e2,e3,e4,e5,e6,e7,e8⟩:=v.begin (z:=y.toNat) (by rw[z.ph];exact Classical.not_not.1 h1) (by omega) (by omega);rw[←hy]at e1;rw[e1];rw[z.act]at e7 e8;exact⟨rfl,e2,⟨e3.trans z.act,e4.trans z.ph,e5.trans z.run,e6,z.upd v (z.le v) (e7.trans (by simp[pad])) e8⟩⟩
theorem Is.write (l:List UInt8):(s.write n l).1=(c.write n l).1∧Inv (s.write n l).2 n k∧Is (s.write n l).2 n (c.write n l).2:=by
 have hd:¬ s.F.down=true:=by rw[v.nc.2];simp
 unfold Cf.write;cases hW:c.W with
 | none =>
  have:s.write n l=(60,s):=by unfold Ss.write;rw[if_neg hd,z.W,hW]
  rw[this];exact⟨rfl,v,z⟩
 | some W =>
  simp only
  by_cases h1:W.size<W.data.length+l.length
  ·have:s.write n l=(2,s):=by unfold Ss.write;rw[if_neg hd,z.W,hW];simp only;rw[if_pos h1]
   rw[this,if_pos h1];exact⟨rfl,v,z⟩
  rw[if_neg h1];obtain⟨s1,e1,e2,e3,e4,e5,e6,e7⟩:=v.write (z.W.trans hW) (b:=l) (by omega);obtain⟨w1,w2,w3,w4,w5⟩:=v.wr W (z.W.trans hW);obtain⟨_,_,_,_,w6⟩:=e2.wr _ e6;rw[z.act]at e7;rw[e3,z.act]at w6;have z1:Is s1 n { c with W:=some { W with data:=W.data++l },b:=up c.b (1-c.act) (pad n (W.data++l)) }:=⟨e3.trans z.act,e4.trans z.ph,e5.trans z.run,e6,z.upd v (z.le v) w6 e7⟩;rw[e1]
  by_cases h2:64≤W.data.length
  ·rw[if_pos h2,if_pos h2];exact⟨rfl,e2,z1⟩
  rw[if_neg h2,if_neg h2]
  by_cases h3:nU { W with data:=W.data++l }≠0
  ·rw[if_pos h3,if_pos h3];exact⟨rfl,e2.stop,z1.stop e2⟩
  ·rw[if_neg h3,if_neg h3];exact⟨rfl,e2,z1⟩
theorem Is.finish:(s.finish n).1=c.finish.1∧(s.finish n).2.1=c.finish.2.1∧Inv (s.finish n).2.2 n k∧Is (s.finish n).2.2 n c.finish.2.2:=by
 have hd:¬ s.F.down=true:=by rw[v.nc.2];simp
 have ha:=z.le v;unfold Ss.finish Cf.finish;rw[if_neg hd,z.W];cases hW:c.W with
 | none=>exact⟨rfl,rfl,v,z⟩
 | some W =>
  simp only;have hb:cQ s.F n (s.act:Int)=cC (c.b c.act):=by rw[ug v.nc s.pP,z.act,z.b _ ha]
  rw[hb,z.act,z.ok v ha]
  by_cases h1:W.data.length<W.size
  ·rw[if_pos h1,if_pos h1];exact⟨rfl,rfl,v,z⟩
  rw[if_neg h1,if_neg h1]
  by_cases h2:(cz (W.data.take 64)).2≠0
  ·rw[if_pos h2,if_pos h2];exact⟨rfl,rfl,v.stop,z.stop v⟩
  rw[if_neg h2,if_neg h2]
  by_cases h3:Rb (W.data.drop 64)≠(cz (W.data.take 64)).1.dg
  ·rw[if_pos h3,if_pos h3];exact⟨rfl,rfl,v.stop,z.stop v⟩
  rw[if_neg h3,if_neg h3]
  by_cases h4:c.ok c.act=true∧(cz (W.data.take 64)).1.cu.toNat≤(vD (cC (c.b c.act))).cu.toNat
  ·rw[if_pos h4,if_pos h4];exact⟨rfl,rfl,v.stop,z.stop v⟩
  ·rw[if_neg h4,if_neg h4];exact⟨rfl,rfl,v.stop,z.stop v⟩
theorem Is.dh (hk:k<4000000000):s.dh.1=c.dh.1∧Inv s.dh.2 n (k+1)∧Is s.dh.2 n c.dh.2:=by
 unfold Cf.dh
 by_cases h:c.ph≠2∨c.run≠1-c.act
 ·rw[if_pos h,v.RY (by rw[z.ph,z.run,z.act];exact h)]
  exact⟨rfl,v.mono (by omega),z⟩
 ·rw[if_neg h]
  have h1:c.ph=2:=Classical.not_not.1 fun q=>h (.inl q)
  have h2:c.run=1-c.act:=Classical.not_not.1 fun q=>h (.inr q)
  obtain⟨s',e1,e2,e3,e4,e5,e6,e7⟩:=v.RX hk (z.ph.trans h1) (by rw[z.run,z.act];exact h2);rw[e1];exact⟨rfl,e2,⟨e3.trans z.run,e4,e5.trans z.run,e6,fun i hi=>(e7 i).trans (z.b i hi)⟩⟩
theorem Is.arm (hk:k<4000000000):(s.arm n).1=c.arm.1∧Inv (s.arm n).2 n (k+1)∧Is (s.arm n).2 n c.arm.2:=by
 have hd:¬ s.F.down=true:=by rw[v.nc.2];simp
 have ha:=z.le v;unfold Cf.arm
 by_cases h1:c.ph≠0∨c.W.isSome=true
 ·have:s.arm n=(60,s):=by unfold Ss.arm;rw[if_neg hd,if_pos (by rw[z.ph,z.W];exact h1)]
  rw[this,if_pos h1];exact⟨rfl,v.mono (by omega),z⟩
 rw[if_neg h1];have p0:c.ph=0:=Classical.not_not.1 fun q=>h1 (.inl q)
 have w0:c.W=none:=by
  cases hq:c.W with
  | none=>rfl
  | some W=>exact absurd (.inr (by rw[hq];rfl)) h1
 have o:=z.ok v (i:=1-c.act) (by omega)
 by_cases h2:c.ok (1-c.act)=false
 ·have:s.arm n=(4,s):=by unfold Ss.arm;rw[if_neg hd,if_neg (by rw[z.ph,z.W];exact h1),z.act,o,if_pos h2]
  rw[this,if_pos h2];exact⟨rfl,v.mono (by omega),z⟩
 ·rw[if_neg h2]
  obtain⟨s',e1,e2,e3,e4,e5,e6,e7⟩:=v.amn hk (z.ph.trans p0) (z.W.trans w0) (by rw[z.act,o];simpa using h2);rw[e1];exact⟨rfl,e2,⟨e3.trans z.act,e4,e5.trans z.run,e6.trans w0.symm,fun i hi=>(e7 i).trans (z.b i hi)⟩⟩
theorem Is.Oi:∃ s',Go.Am.Qd.Oi s.F=some s'∧Inv s' n k∧Is s' n c.Oi:=by
 obtain⟨s',e1,e2,e3,e4,e5,e6,e7⟩:=v.Oi;exact⟨s',e1,e2,⟨e3.trans z.act,e4.trans z.ph,e5.trans z.act,e6,fun i hi=>by rw[e7];exact z.b i hi⟩⟩
end
end Go.Am.Qd
namespace Go.Am.Qd
theorem Kp.to {R R':List Nat} {H H':Hp} (k:Kp R H H') (h:∀ b∈R',b∈R):Kp R' H H':=⟨k.1,fun c hc=>k.2 c (h c hc)⟩
theorem Kp.sub {b:Nat} {R:List Nat} {H H':Hp} (k:Kp (b::R) H H'):Kp R H H':=⟨k.1,fun c hc=>k.2 c (List.mem_cons_of_mem _ hc)⟩
theorem RZ {h H:Hp} (k:Kp (List.range (size h)) h H):bJ H (size h)=h:=by
 have hs:size (bJ H (size h))=size h:=by rw[lD];have:=k.1;omega
 refine pJ hs fun n=>?_
 by_cases hn:n<size h
 ·rw[mQ hn];exact k.2 n (by simpa using hn)
 ·have e1:bY h n=none:=by
   cases hq:bY h n with
   | none=>rfl
   | some x=>exact absurd (bw hq) hn
  rw[e1];cases hq:bY (bJ H (size h)) n with
  | none=>rfl
  | some x=>exact absurd (hs▸bw hq) hn
theorem KH {h H:Hp} (k:Kp (List.range (size h)) h H) (b:Bool):bk false false (size h) [.bool b] H=some (.bool b,h):=by
 rw[cc];show some (PV.bool b,bJ H (size h))=_;rw[RZ k]
theorem Dv.alloc {H:Hp} {P:Pl} {F:Fl} {J:Jn} {vs:Vs} {run:Nat} {W:Option Wt} {R:List Nat} {h:Hp} {m:Nat} {w:PV} (d:Dv H P F J vs run W R h m w) (x:gW) {R':List Nat} (hR:∀ b∈R',b∈R∨b=size H):Dv (Go.Am.ext H [x]) P F J vs run W R' (Go.Am.ext h [x]) m w:=by
 have e:=d.ext [x];have hs:=d.td;have key:∀ {b:Nat},b<size h→b ∉ R→b ∉ R':=fun {b} h1 h2 h3=>by
  rcases hR b h3 with q | q
  ·exact h2 q
  ·omega
 have hW:LY (Go.Am.ext h [x]) P R' w W:=by
  have hw:=e.wo;have hw0:=d.wo;cases W with
  | none=>exact hw
  | some W =>
   obtain⟨wb0,hk0,_,_,_,p1,p2,p3,_⟩:=hw0;obtain⟨wb,hk,hv,ws,r,a1,a2,a3,a4,a5,a6,a7,a8,a9,b1,b2,b3⟩:=hw;have ew:wb0=wb:=by rw[p1]at a1;cases a1;rfl
   subst ew;have RG:=cw p2;have hkl:hk<size h:=by
    rw[aX RG,p2]at a2;have:=congrArg (fun z=>z.bind fun(l:List PV)=>l[3]?) a2;simp at this;rw[←this];exact cw p3
   refine⟨wb0,hk,hv,ws,r,a1,a2,a3,a4,?_,a6,a7,a8,a9,key RG b1,key hkl b2,b3⟩;rcases a5 with a5 | ⟨a5,tb,t1,t2,t3,t4,t5,t6⟩
   ·exact .inl a5
   ·refine .inr ⟨a5,tb,t1,t2,t3,t4,?_,t6⟩
    intro q;rcases hR tb q with q | q
    ·exact t5 q
    ·have hv0:=d.wo
     obtain⟨wb1,hk1,X4,_,_,q1,q2,_,_,q5,_⟩:=hv0;have:wb1=wb0:=by rw[p1]at q1;cases q1;rfl
     subst this;rw[aX RG,q2]at a2;have e2:X4=hv:=by
      have:=congrArg (fun z=>z.bind fun(l:List PV)=>l[2]?) a2;simpa using this
     subst e2;rcases q5 with⟨q5,_⟩ | ⟨_,tb',r1,r2,_⟩
     ·exact a5 q5
     ·rw[t1]at r1
      cases r1;have:=bw r2;omega
 refine { e with wo:=hW,ro:=fun b hb=>?_ };rcases hR b hb with q | q
 ·exact e.ro b q
 ·subst q
  have nf:=d.js.ok.fo;obtain⟨f1,f2,f3,_⟩:=nf;refine⟨by rw[aW,hs];simp,⟨by omega,by omega,by omega,by have:=d.js.ok.lj;omega⟩,?_⟩;have:=cw d.sb;omega
structure G (h H:Hp) (P:Pl) (xb k:Nat) (c:Cf) (R:List Nat) (s:Ss):Prop where
 x:Dx H P s R xb
 v:Inv s P.n k
 z:Is s P.n c
 kp:Kp (List.range (size h)) h H
 sub:∀ b,b<size h→b∈R
 lo:size h≤P.lo
def Gx (h H:Hp) (P:Pl) (xb k:Nat) (c:Cf) (R:List Nat):Prop:=∃ s,G h H P xb k c R s
section
variable {h H:Hp} {P:Pl} {xb k:Nat} {c:Cf} {R:List Nat} (g:Gx h H P xb k c R)
include g
theorem Gx.mono {k':Nat} (hk:k≤k'):Gx h H P xb k' c R:=by
 obtain⟨s,g⟩:=g;exact⟨s,{ g with v:=g.v.mono hk }⟩
theorem Gx.kp:Kp (List.range (size h)) h H:=by obtain⟨s,g⟩:=g;exact g.kp
theorem Gx.ext (l:Hp):Gx h (Go.Am.ext H l) P xb k c R:=by
 obtain⟨s,g⟩:=g;exact⟨s,g.x.ext l,g.v,g.z,g.kp.trans ((eT.T5 g.x.d l).sub.to fun b hb=>g.sub b (by simpa using hb)),g.sub,g.lo⟩
theorem Gx.T5 (l:Hp):Kp R H (Go.Am.ext H l):=by
 obtain⟨s,g⟩:=g;exact(eT.T5 g.x.d l).sub
theorem Gx.alloc (x:gW):Gx h (Go.Am.ext H [x]) P xb k c (size H::R):=by
 obtain⟨s,g⟩:=g;obtain⟨h0,m,w,d⟩:=g.x.d;have hx:=cw g.x.g;refine⟨s,⟨⟨_,_,_,d.alloc x (R':=xb::size H::R) fun b hb=>?_⟩,by rw[aX hx];exact g.x.g,fun hq=>?_,g.x.l⟩,g.v,g.z,g.kp.trans ((eT.T5 g.x.d [x]).sub.to fun b hb=>g.sub b (by simpa using hb)),fun b hb=>List.mem_cons_of_mem _ (g.sub b hb),g.lo⟩
 ·rcases List.mem_cons.1 hb with q | q
  ·exact .inl (by rw[q];simp)
  ·rcases List.mem_cons.1 q with q | q
   ·exact .inr q
   ·exact .inl (List.mem_cons_of_mem _ q)
 ·rcases List.mem_cons.1 hq with q | q
  ·omega
  ·exact g.x.r q
theorem Gx.CO:ax 1 false (.ptr xb 6) H=some (.ptr P.sb 0):=by
 obtain⟨s,g⟩:=g;exact g.x.CO 6
theorem Gx.le:size h≤size H:=g.kp.1
theorem Gx.hn:4≤P.n∧P.n≤7:=by obtain⟨s,g⟩:=g;exact g.v.hn
theorem Gx.wr {W:Wt} (hW:c.W=some W):c.ph=0∧64≤W.size∧W.size≤P.n*64∧W.data.length≤W.size∧c.b (1-c.act)=pad P.n W.data:=by
 obtain⟨s,g⟩:=g;exact g.z.wr g.v hW
theorem Gx.pP:c.act≤1:=by obtain⟨s,g⟩:=g;exact g.z.le g.v
theorem Gx.to {H':Hp} {s s':Ss} {k':Nat} {c':Cf} (q:G h H P xb k c R s) (d:DS H' P s' (xb::R)) (kp:Kp (xb::R) H H') (v:Inv s' P.n k') (z:Is s' P.n c'):Gx h H' P xb k' c' R:=⟨s',q.x.of d kp,v,z,q.kp.trans (kp.sub.to fun b hb=>q.sub b (by simpa using hb)),q.sub,q.lo⟩
theorem Gx.select (hk:k<4000000000):∃ H',ai T (size h) 17 [.ptr P.sb 0] H=some (.cF [.int .i64 (c.select.1:Int),.int .i64 (c.select.2.1:Int)],H')∧Gx h H' P xb (k+1) c.select.2.2 R∧Kp R H H':=by
 have g0:=g;obtain⟨s,g⟩:=g;obtain⟨e1,e2,e3,e4⟩:=g.z.select g.v hk;obtain⟨H',c1,c2,c3⟩:=DS.select g.x.d g.lo;rw[e1,e2]at c1;exact⟨H',c1,Gx.to g0 g c2 c3 e3 e4,c3.sub⟩
theorem Gx.begin (y:Int):∃ H',ai T (size h) 12 [.ptr P.sb 0,.int .i64 y] H=some (.int .i64 ((c.begin P.n y).1:Int),H')∧Gx h H' P xb k (c.begin P.n y).2 R∧Kp R H H':=by
 have g0:=g;obtain⟨s,g⟩:=g;obtain⟨e1,e3,e4⟩:=g.z.begin g.v y;obtain⟨H',c1,c2,c3⟩:=DS.begin g.x.d g.lo y;rw[e1]at c1;exact⟨H',c1,Gx.to g0 g c2 c3 e3 e4,c3.sub⟩
theorem Gx.write {o:Own} (ho:Nf o) (l:List UInt8) (hl:l.length≤100000):∃ H',ai T (size h) 13 [.ptr P.sb 0,.sl o 1 (aP l)] H=some (.int .i64 ((c.write P.n l).1:Int),H')∧Gx h H' P xb k (c.write P.n l).2 R∧Kp R H H':=by
 have g0:=g;obtain⟨s,g⟩:=g;obtain⟨e1,e3,e4⟩:=g.z.write g.v l;obtain⟨H',c1,c2,c3⟩:=DS.write g.x.d g.lo ho l hl;rw[e1]at c1;exact⟨H',c1,Gx.to g0 g c2 c3 e3 e4,c3.sub⟩
theorem Gx.finish:∃ H',ai T (size h) 14 [.ptr P.sb 0] H=some (.cF [.agg (cr c.finish.1),.int .i64 (c.finish.2.1:Int)],H')∧Gx h H' P xb k c.finish.2.2 R∧Kp R H H':=by
 have g0:=g;obtain⟨s,g⟩:=g;obtain⟨e1,e2,e3,e4⟩:=g.z.finish g.v;obtain⟨H',c1,c2,c3⟩:=DS.finish g.x.d (size h);rw[e1,e2]at c1;exact⟨H',c1,Gx.to g0 g c2 c3 e3 e4,c3.sub⟩
theorem Gx.dh (hk:k<4000000000):∃ H',ai T (size h) 18 [.ptr P.sb 0] H=some (.int .i64 (c.dh.1:Int),H')∧Gx h H' P xb (k+1) c.dh.2 R∧Kp R H H':=by
 have g0:=g;obtain⟨s,g⟩:=g;obtain⟨e1,e3,e4⟩:=g.z.dh g.v hk;obtain⟨H',c1,c2,c3⟩:=DS.dh g.x.d g.lo;rw[e1]at c1;exact⟨H',c1,Gx.to g0 g c2 c3 e3 e4,c3.sub⟩
theorem Gx.arm (hk:k<4000000000):∃ H',ai T (size h) 15 [.ptr P.sb 0] H=some (.int .i64 (c.arm.1:Int),H')∧Gx h H' P xb (k+1) c.arm.2 R∧Kp R H H':=by
 have g0:=g;obtain⟨s,g⟩:=g;obtain⟨e1,e3,e4⟩:=g.z.arm g.v hk;obtain⟨H',c1,c2,c3⟩:=DS.arm g.x.d g.lo;rw[e1]at c1;exact⟨H',c1,Gx.to g0 g c2 c3 e3 e4,c3.sub⟩
theorem Gx.stop:∃ H',ai T (size h) 36 [.ptr P.sb 0] H=some (.cF [],H')∧Gx h H' P xb k c.stop R∧Kp R H H':=by
 have g0:=g;obtain⟨s,g⟩:=g;obtain⟨H',c1,c2,c3⟩:=eT.stop g.x.d (size h);exact⟨H',c1,Gx.to g0 (s':=s.stop) g c2 c3 g.v.stop (g.z.stop g.v),c3.sub⟩
theorem Gx.open:∃ H' jb sb,ai T (size h) 16 [.ptr xb 0] H=some (.bool true,H')∧Gx h H' { P with jb:=jb,sb:=sb } xb k c.Oi R∧Kp R H H':=by
 obtain⟨s,g⟩:=g;obtain⟨s',e1,e2,e3⟩:=g.z.Oi g.v;obtain⟨h0,po⟩:=g.x.po;have:=po.open g.lo;rw[e1]at this;obtain⟨H',jb,sb,c1,c2,c3⟩:=this;exact⟨H',jb,sb,c1,⟨s',c2,e2,e3,g.kp.trans (c3.to fun b hb=>g.sub b (by simpa using hb)),g.sub,g.lo⟩,c3⟩
theorem Gx.phase:ai T (size h) 19 [.ptr P.sb 0] H=some (.int .i64 (c.ph:Int),H):=by
 obtain⟨s,g⟩:=g;rw[←g.z.ph];exact eT.phase g.x.d (size h)
theorem Gx.mM:ai T (size h) 20 [.ptr P.sb 0] H=some (.int .i64 (c.act:Int),H):=by
 obtain⟨s,g⟩:=g;rw[←g.z.act];exact eT.mM g.x.d (size h)
theorem Gx.other:ai T (size h) 46 [.ptr P.sb 0] H=some (.int .i64 ((1-c.act:Nat):Int),H):=by
 obtain⟨s,g⟩:=g;rw[←g.z.act];exact eT.other g.x.d (size h)
theorem Gx.running:ai T (size h) 44 [.ptr P.sb 0] H=some (.int .i64 (c.run:Int),H):=by
 obtain⟨s,g⟩:=g;rw[←g.z.run];exact eT.running g.x.d (size h)
theorem Gx.got:ai T (size h) 26 [.ptr P.sb 0] H=some (.int .i64 (Og c.W:Int),H):=by
 obtain⟨s,g⟩:=g;rw[←g.z.W];exact eT.got g.x.d (size h)
theorem Gx.bF {i:Nat} (hi:i≤1) {s:Ss} (q:G h H P xb k c R s):cQ s.F P.n (i:Int)=cC (c.b i):=by rw[ug q.v.nc hi,q.z.b i hi]
theorem Gx.bytes {i:Nat} (hi:i≤1):ai T (size h) 39 [.ptr P.sb 0,.int .i64 (i:Int)] H=some (.cF [bV (cC (c.b i)),.bool (cC (c.b i)).isSome],H):=by
 have g0:=g;obtain⟨s,g⟩:=g;have:=eT.bytes g.x.d (size h) (i:Int);rwa [g0.bF hi g]at this
theorem Gx.valid {i:Nat} (hi:i≤1):ai T (size h) 43 [.ptr P.sb 0,.int .i64 (i:Int)] H=some (.cF [.agg (cr (vD (cC (c.b i)))),.bool (cC (c.b i)).isSome],H):=by
 have g0:=g;obtain⟨s,g⟩:=g;have:=eT.valid g.x.d (size h) (i:Int);rwa [g0.bF hi g]at this
theorem Gx.same {i:Nat} (hi:i≤1) {v:PV} {l:List UInt8} (hv:Rd H v l):ai T (size h) 21 [.ptr P.sb 0,.int .i64 (i:Int),v] H=some (.bool (cC (c.b i) == some l),H):=by
 have g0:=g;obtain⟨s,g⟩:=g;have:=eT.same g.x.d (size h) (i:Int) hv;rwa [g0.bF hi g]at this
theorem Gx.mY {v:PV} {body:List UInt8} (ha:Ar H v body) (hl:64+body.length≤P.n*64) (hW:c.W=none) (hb:c.b 0=List.replicate (P.n*64) 255) :
  ∃ H',ai T (size h) 10 [.ptr xb 0,v] H=some (.bool true,H')∧Gx h H' P xb k { c with b:=up c.b 0 (pad P.n (bW cG 1#32 body)) } R∧Kp R H H':=by
 have g0:=g;obtain⟨s,g⟩:=g;obtain⟨H',c1,c2,c3⟩:=g.x.mY ha hl (size h);obtain⟨p1,p2,p3,p4⟩:=g.v.mY (g.z.W.trans hW) hl ((g.z.b 0 (by omega)).trans hb);rw[decide_eq_true p1]at c1;refine⟨H',c1,⟨_,c2,p2,⟨g.z.act,g.z.ph,g.z.run,g.z.W,fun i hi=>?_⟩,g.kp.trans (c3.sub.to fun b hb=>g.sub b (by simpa using hb)),g.sub,g.lo⟩,c3.sub⟩;show cA (s.F.program (ny P.n 0+0) (bW cG 1#32 body)).2 P.n i=if i=0 then pad P.n (bW cG 1#32 body) else c.b i
 by_cases h0:i=0
 ·rw[if_pos h0,h0];exact p3
 ·rw[if_neg h0,show i=1 by omega];exact p4.trans (g.z.b 1 (by omega))
end
def c0 (n:Nat):Cf:=⟨0,0,0,none,fun _=>List.replicate (n*64) 255⟩
theorem XQ {h:Hp} (z:Int):∃ H' P,ai T (size h) 9 [.int .i64 z] h=some (.cF [.ptr (size h) 0,.bool true],H')∧Gx h H' P (size h) 1 (c0 (secs z)) (List.range (size h))∧P.n=secs z:=by
 obtain⟨s,o,v,q1,q2,q3,q4,q5,q6⟩:=Ou (LZ z);obtain⟨H',jb,sb,e1,e2,e3⟩:=Oj (h:=h) (base:=size h) (Nat.le_refl _) z (List.range (size h)) (fun b hb=>by simpa using hb) o;refine⟨H',_,e1,⟨s,e2,v,⟨q1,q2,q3,q4,fun i hi=>?_⟩,e3,fun b hb=>by simpa using hb,Nat.le_refl _⟩,rfl⟩;have:i=0∨i=1:=by omega
 rcases this with rfl | rfl
 ·exact q5
 ·exact q6
end Go.Am.Qd
namespace Go.Am.Qd
theorem nW {nm:List UInt8} (hn:cL nm=true) (cu:BitVec 32) {body:List UInt8} (hb:body.length≤1048576) (n:Nat):cC (pad n (bW nm cu body))=some (bW nm cu body):=KE hn cu hb _
theorem KI {nm:List UInt8} (hn:cL nm=true) (cu:BitVec 32) {body:List UInt8} (hb:body.length≤1048576) {p r:List UInt8} (h:bW nm cu body=p++r):nU ⟨(bW nm cu body).length,p⟩=0:=by
 unfold nU;simp only
 by_cases hp:p.length<64
 ·rw[if_pos hp]
 rw[if_neg hp];have e:p.take 64=(bW nm cu body).take 64:=by rw[h,List.take_append_of_le_length (by omega)]
 rw[e,Bc hn cu hb,if_neg];rintro⟨_,q⟩;apply q;rw[iB hn];show body.length+64=_;omega
section
variable {c:Cf}
theorem Cf.L2 (h:c.ph≠1) (o:c.ok c.act=true):c.select=(c.act,0,{ c with ph:=0,run:=c.act,W:=none }):=by
 unfold Cf.select Cf.cD;rw[if_neg (fun q=>h q.1),if_pos o]
theorem Cf.R1 (h:c.ph=1) (o:c.ok (1-c.act)=true):c.select=(1-c.act,0,{ c with ph:=2,run:=1-c.act,W:=none }):=by
 unfold Cf.select Cf.cD;rw[if_pos ⟨h,o⟩,if_pos o]
theorem Cf.R2 {n z:Nat} (h:c.ph=0) (h1:64≤z) (h2:z≤n*64):c.begin n (z:Int)=(0,{ c with W:=some ⟨z,[]⟩,b:=up c.b (1-c.act) (pad n []) }):=by
 unfold Cf.begin;rw[if_neg (by simp[h]),if_neg (by omega),Int.toNat_natCast]
theorem Cf.R3 {nm:List UInt8} (hn:cL nm=true) (cu:BitVec 32) {body:List UInt8} (hb:body.length≤1048576) (n:Nat) {p l r:List UInt8} (h:bW nm cu body=p++l++r) (hW:c.W=some ⟨(bW nm cu body).length,p⟩) :
  c.write n l=(0,{ c with W:=some ⟨(bW nm cu body).length,p++l⟩,b:=up c.b (1-c.act) (pad n (p++l)) }):=by
 have hl:=congrArg List.length h;simp only[List.length_append]at hl;unfold Cf.write;rw[hW];simp only;rw[if_neg (by omega)]
 by_cases h2:64≤p.length
 ·rw[if_pos h2]
 ·rw[if_neg h2,if_neg]
  rw[KI hn cu hb h];simp
theorem Cf.Ow {nm:List UInt8} (hn:cL nm=true) (cu:BitVec 32) {body:List UInt8} (hb:body.length≤1048576) (hW:c.W=some ⟨(bW nm cu body).length,bW nm cu body⟩)
  (hv:c.ok c.act=true→(vD (cC (c.b c.act))).cu.toNat<cu.toNat):c.finish=(eR nm cu body,0,c.stop):=by
 unfold Cf.finish;rw[hW];simp only;rw[if_neg (Nat.lt_irrefl _),Bc hn cu hb,HD hn cu];simp only;rw[if_neg (by simp),if_neg (by simp[eR]),if_neg];rintro⟨q1,q2⟩;have:=hv q1;have e:(eR nm cu body).cu=cu:=rfl;rw[e]at q2;omega
theorem Cf.XR (h:c.ph=0) (hW:c.W=none) (o:c.ok (1-c.act)=true):c.arm=(0,{ c with ph:=1 }):=by
 unfold Cf.arm;rw[if_neg (by simp[h,hW]),if_neg (by rw[o];simp)]
theorem Cf.KJ (h:c.ph≠2∨c.run≠1-c.act):c.dh=(60,c):=by
 unfold Cf.dh;rw[if_pos h]
end
theorem Gx.make {h H:Hp} {P:Pl} {xb k:Nat} {c:Cf} {R:List Nat} (g:Gx h H P xb k c R) {v:PV} {body:List UInt8} (ha:Ar H v body) (cu:BitVec 32) (hb:body.length≤700000) :
  ai T (size h) 11 [.str [97,112,112],uV cu,v] H=some (.cF [.bX false (size H) 0 (bW cG cu body).length 1,.int .i64 0],Go.Am.ext H [.cells (aP (bW cG cu body))]) ∧
  cV (size h) (Go.Am.ext H [.cells (aP (bW cG cu body))]) .fix [.bX false (size H) 0 (bW cG cu body).length 1]=some (.sl .no 1 (aP (bW cG cu body)),Go.Am.ext H [.dead]) :=
 ⟨Od (size h) dc cu ha.rd ha.st ha.cl ha.sc hb,Uc (size h) g.le _ []⟩
def KK:List UInt8:=[111,110,101]
def jV:List UInt8:=[116,119,111]
theorem L3 {H:Hp} (base:Nat) (l:List UInt8):cV base H (.fC (aP l)) []=some (.bX true (size H) 0 l.length 1,Go.Am.ext H [.cells (aP l)])∧cV base (Go.Am.ext H [.cells (aP l)]) .mark [.bX true (size H) 0 l.length 1]=some (.bX true (size H) 0 l.length 1,Go.Am.ext H [.cells (aP l)])∧Ar (Go.Am.ext H [.cells (aP l)]) (.bX true (size H) 0 l.length 1) l:=by
 have e:ay (Go.Am.ext H [.cells (aP l)]) (size H)=some (aP l):=by rw[aQ];rfl
 exact⟨by rw[jJ,aM],by rw[qn,e];rfl,XO e⟩
/-! ### Two ud bytes -/
def bb (x y:List UInt8):Nat→List UInt8:=fun i=>if i=0 then x else y
def C2 (act ph run:Nat) (W:Option Wt) (x y:List UInt8):Cf:=⟨act,ph,run,W,bb x y⟩
section
variable {h H:Hp} {P:Pl} {xb k:Nat} {R:List Nat}
theorem Gx.cfg {c c':Cf} (g:Gx h H P xb k c R) (h1:c.act=c'.act) (h2:c.ph=c'.ph) (h3:c.run=c'.run) (h4:c.W=c'.W) (h5:∀ i,i≤1→c.b i=c'.b i):Gx h H P xb k c' R:=by
 obtain⟨s,g⟩:=g;exact⟨s,{ g with z:=⟨g.z.act.trans h1,g.z.ph.trans h2,g.z.run.trans h3,g.z.W.trans h4,fun i hi=>(g.z.b i hi).trans (h5 i hi)⟩ }⟩
theorem UW (x y z:List UInt8):∀ i,i≤1→up (bb x y) 1 z i=bb x z i:=fun i hi=>by
 have:i=0∨i=1:=by omega
 rcases this with rfl | rfl<;>rfl
theorem XS (x y z:List UInt8):∀ i,i≤1→up (bb x y) 0 z i=bb z y i:=fun i hi=>by
 have:i=0∨i=1:=by omega
 rcases this with rfl | rfl<;>rfl
variable {a p r:Nat} {W:Option Wt} {x y:List UInt8}
theorem R4 {h:Hp} (z:Int):∃ H' P,ai T (size h) 9 [.int .i64 z] h=some (.cF [.ptr (size h) 0,.bool true],H')∧Gx h H' P (size h) 1 (C2 0 0 0 none (pad (secs z) []) (pad (secs z) [])) (List.range (size h))∧P.n=secs z:=by
 obtain⟨H',P,e,g,hP⟩:=XQ (h:=h) z;refine⟨H',P,e,g.cfg rfl rfl rfl rfl fun i hi=>?_,hP⟩;have:i=0∨i=1:=by omega
 rcases this with rfl | rfl<;>simp[c0,C2,bb,pad]
theorem Gx.UX (g:Gx h H P xb k (C2 0 p r none (pad P.n []) y) R) {v:PV} {body:List UInt8} (ha:Ar H v body) (hl:64+body.length≤P.n*64) :
  ∃ H',ai T (size h) 10 [.ptr xb 0,v] H=some (.bool true,H')∧Gx h H' P xb k (C2 0 p r none (pad P.n (bW cG 1#32 body)) y) R∧Kp R H H':=by
 obtain⟨H',e,g',kp⟩:=g.mY ha hl rfl (by simp[C2,bb,pad]);exact⟨H',e,g'.cfg rfl rfl rfl rfl (XS _ _ _),kp⟩
theorem Gx.L2 (g:Gx h H P xb k (C2 a p r W x y) R) (hk:k<4000000000) (hp:p≠1) (o:(cC (bb x y a)).isSome=true) :
  ∃ H',ai T (size h) 17 [.ptr P.sb 0] H=some (.cF [.int .i64 (a:Int),.int .i64 0],H')∧Gx h H' P xb (k+1) (C2 a 0 a none x y) R∧Kp R H H':=by
 have:=g.select hk;rw[Cf.L2 (c:=C2 a p r W x y) hp o]at this;exact this
theorem Gx.R1 (g:Gx h H P xb k (C2 a 1 r W x y) R) (hk:k<4000000000) (o:(cC (bb x y (1-a))).isSome=true) :
  ∃ H',ai T (size h) 17 [.ptr P.sb 0] H=some (.cF [.int .i64 ((1-a:Nat):Int),.int .i64 0],H')∧Gx h H' P xb (k+1) (C2 a 2 (1-a) none x y) R∧Kp R H H':=by
 have:=g.select hk;rw[Cf.R1 (c:=C2 a 1 r W x y) rfl o]at this;exact this
theorem Gx.abO (g:Gx h H P xb k (C2 0 0 r W x y) R) {z:Nat} (h1:64≤z) (h2:z≤P.n*64) :
  ∃ H',ai T (size h) 12 [.ptr P.sb 0,.int .i64 (z:Int)] H=some (.int .i64 0,H')∧Gx h H' P xb k (C2 0 0 r (some ⟨z,[]⟩) x (pad P.n [])) R∧Kp R H H':=by
 have:=g.begin (z:Int);rw[Cf.R2 (c:=C2 0 0 r W x y) rfl h1 h2]at this;obtain⟨H',e,g',kp⟩:=this;exact⟨H',e,g'.cfg rfl rfl rfl rfl (UW _ _ _),kp⟩
theorem Gx.wr2 {cu:BitVec 32} {body q l t:List UInt8} (g:Gx h H P xb k (C2 0 p r (some ⟨(bW cG cu body).length,q⟩) x y) R) {o:Own} (ho:Nf o) (hb:body.length≤10000) (hl:bW cG cu body=q++l++t) :
  ∃ H',ai T (size h) 13 [.ptr P.sb 0,.sl o 1 (aP l)] H=some (.int .i64 0,H')∧Gx h H' P xb k (C2 0 p r (some ⟨(bW cG cu body).length,q++l⟩) x (pad P.n (q++l))) R∧Kp R H H':=by
 have hil:=iB dc cu body;have hll:=congrArg List.length hl;simp only[List.length_append]at hll;have:=g.write ho l (by omega);rw[Cf.R3 (c:=C2 0 p r (some ⟨(bW cG cu body).length,q⟩) x y) dc cu (by omega) P.n hl rfl]at this;obtain⟨H',e,g',kp⟩:=this;exact⟨H',e,g'.cfg rfl rfl rfl rfl (UW _ _ _),kp⟩
theorem Gx.abP {cu:BitVec 32} {body:List UInt8} (g:Gx h H P xb k (C2 a p r (some ⟨(bW cG cu body).length,bW cG cu body⟩) x y) R) (hb:body.length≤10000) (hv:(cC (bb x y a)).isSome=true→(vD (cC (bb x y a))).cu.toNat<cu.toNat) :
  ∃ H',ai T (size h) 14 [.ptr P.sb 0] H=some (.cF [.agg (cr (eR cG cu body)),.int .i64 0],H')∧Gx h H' P xb k (C2 a p r none x y) R∧Kp R H H':=by
 have:=g.finish;rw[Cf.Ow (c:=C2 a p r (some ⟨(bW cG cu body).length,bW cG cu body⟩) x y) dc cu (by omega) rfl hv]at this;exact this
theorem Gx.ams (g:Gx h H P xb k (C2 a 0 r none x y) R) (hk:k<4000000000) (o:(cC (bb x y (1-a))).isSome=true) :
  ∃ H',ai T (size h) 15 [.ptr P.sb 0] H=some (.int .i64 0,H')∧Gx h H' P xb (k+1) (C2 a 1 r none x y) R∧Kp R H H':=by
 have:=g.arm hk;rw[Cf.XR (c:=C2 a 0 r none x y) rfl rfl o]at this;exact this
theorem Gx.Ud (g:Gx h H P xb k (C2 a p r W x y) R) (hk:k<4000000000) (hp:p≠2∨r≠1-a) :
  ∃ H',ai T (size h) 18 [.ptr P.sb 0] H=some (.int .i64 60,H')∧Gx h H' P xb (k+1) (C2 a p r W x y) R∧Kp R H H':=by
 have:=g.dh hk;rw[Cf.KJ (c:=C2 a p r W x y) hp]at this;exact this
theorem Gx.abQ (g:Gx h H P xb k (C2 a p r W x y) R):∃ H',ai T (size h) 36 [.ptr P.sb 0] H=some (.cF [],H')∧Gx h H' P xb k (C2 a p r none x y) R∧Kp R H H':=g.stop
end
end Go.Am.Qd
namespace Go.Am.Qd
def OG:List UInt8:=bW cG 1#32 KK
def oA:List UInt8:=bW cG 2#32 jV
theorem Ue:oA.length=67:=iB dc 2#32 jV
theorem KL (n:Nat):cC (pad n OG)=some OG:=nW dc 1#32 (body:=KK) (by decide) n
theorem KM (n:Nat):cC (pad n oA)=some oA:=nW dc 2#32 (body:=jV) (by decide) n
theorem XT:vD (some OG)=eR cG 1#32 KK:=congrArg Prod.fst (nv dc 1#32 (body:=KK) (by decide))
theorem XU:vD (some oA)=eR cG 2#32 jV:=congrArg Prod.fst (nv dc 2#32 (body:=jV) (by decide))
theorem amt:OG≠oA:=XP dc dc (by decide) (by decide) (by decide)
theorem KN (base:Nat) (h:Hp):ai T base 8 [] h=some (.bool true,h):=by
 have hs4:secs 0=4:=rfl;have hB:=Ue;obtain⟨H1,P,e1,g1,hP⟩:=R4 (h:=h) 0;rw[←hP]at g1;rw[hs4]at hP
 -- pO
 obtain⟨s1,m1,a1⟩:=L3 (H:=H1) (size h) KK;obtain⟨H2,e2,g2,_⟩:=(g1.ext _).UX a1 (by rw[hP];decide);rw[show bW cG 1#32 KK=OG from rfl]at g2;generalize Go.Am.ext H1 [.cells (aP KK)]=H1' at s1 m1 e2;have l2:=g2.CO;have okA:∀ y,(cC (bb (pad P.n OG) y 0)).isSome=true:=fun y=>by show(cC (pad P.n OG)).isSome=true;rw[KL];rfl
 have okB:∀ x,(cC (bb x (pad P.n oA) (1-0))).isSome=true:=fun x=>by show(cC (pad P.n oA)).isSome=true;rw[KM];rfl
 -- R5
 obtain⟨H3,e3,g3,_⟩:=g2.L2 (by omega) (by decide) (okA _)
 -- the second image
 obtain⟨s4,m4,a4⟩:=L3 (H:=H3) (size h) jV;obtain⟨e5,f5⟩:=(g3.ext [.cells (aP jV)]).make a4 2#32 (by decide);have g5:=(g3.ext [.cells (aP jV)]).ext [.dead];generalize Go.Am.ext H3 [.cells (aP jV)]=H4 at s4 m4 e5 f5 g5;generalize Go.Am.ext H4 [.cells (aP (bW cG 2#32 jV))]=H4' at e5 f5;generalize Go.Am.ext H4 [.dead]=H5 at f5 g5;rw[show bW cG 2#32 jV=oA from rfl,hB]at e5 f5;have l5:=g5.CO;have n5:cB false (.sl .no 1 (aP oA))=some (.int .i64 ((67:Nat):Int)):=by rw[←hB];exact(pL (.inl rfl) oA).len
 obtain⟨H6,e6,g6,_⟩:=g5.abO (z:=67) (by decide) (by rw[hP];decide);have l6:=g6.CO;obtain⟨o1,ho1,t1⟩:=slc (o:=.no) oA (lo:=none) (hi:=some (.int .i64 10)) (a:=0) (b:=10) rfl (by rw[hB];rfl);obtain⟨o2,ho2,t2⟩:=slc (o:=.no) oA (lo:=some (.int .i64 10)) (hi:=none) (a:=10) (b:=67) (by rfl) (by rw[hB];rfl);rw[show(oA.drop 0).take (10-0)=oA.take 10 from rfl]at t1;rw[show(oA.drop 10).take (67-10)=oA.drop 10 from List.take_of_length_le (by rw[List.length_drop,hB];decide)]at t2;rw[←hB]at g6;obtain⟨H7,e7,g7,_⟩:=Gx.wr2 (cu:=2#32) (body:=jV) (t:=oA.drop 10) g6 ho1 (by decide) (l:=oA.take 10) (by rw[List.nil_append,List.take_append_drop];rfl);have l7:=g7.CO;have r7:=g7.got;rw[List.nil_append]at g7 r7;have r7':ai T (size h) 26 [.ptr P.sb 0] H7=some (.int .i64 10,H7):=by
  have:Og (some (⟨(bW cG 2#32 jV).length,oA.take 10⟩ : Wt))=10:=by show(oA.take 10).length=10;rw[List.length_take,hB];rfl
  rw[r7];show some (PV.int .i64 ((Og (some (⟨(bW cG 2#32 jV).length,oA.take 10⟩ : Wt)):Nat):Int),H7)=_;rw[this];rfl
 obtain⟨H8,e8,g8,_⟩:=Gx.wr2 (cu:=2#32) (body:=jV) (t:=[]) g7 ho2 (by decide) (l:=oA.drop 10) (by rw[List.append_nil,List.take_append_drop];rfl);rw[List.take_append_drop]at g8;have l8:=g8.CO;obtain⟨H9,e9,g9,_⟩:=Gx.abP (cu:=2#32) (body:=jV) g8 (by decide) (fun _=>by show(vD (cC (pad P.n OG))).cu.toNat<2;rw[KL,XT];decide)
 -- the head
 have z32:iV.dg.length=32:=rfl;have i32:(eR cG 2#32 jV).dg.length=32:=kS _;have st9:=XK (H:=H9) (base:=size h) g9.le z32 i32;have v9:ax 1 false (.ptr (size H9) 0) (Go.Am.ext H9 [.cells (cr (eR cG 2#32 jV))])=some (.int .u32 2):=fv0 (h:=H9) (r:=[]) 0;have g9':=g9.ext [.cells (cr (eR cG 2#32 jV))];have l9:=g9'.CO;generalize hH9:Go.Am.ext H9 [.cells (cr (eR cG 2#32 jV))]=H9' at st9 v9 g9' l9;obtain⟨Ha,ea,ga,_⟩:=g9'.ams (by omega) (okB _);have la:=ga.CO;have pa:=ga.phase;have oa:=ga.other
 -- R5 again
 obtain⟨Hb,eb,gb,_⟩:=ga.R1 (by omega) (okB _);have lb:=gb.CO;have rb:=gb.running;have ab:=gb.mM;obtain⟨Hc,ec,gc,_⟩:=gb.L2 (by omega) (by decide) (okA _);have lc:=gc.CO;have pc:=gc.phase;obtain⟨Hd,ed,gd,_⟩:=gc.Ud (by omega) (.inl (by decide));have ld:=gd.CO;have vd:=gd.valid (i:=1) (by omega);have bB:cC ((C2 0 0 0 none (pad P.n OG) (pad P.n oA)).b 1)=some oA:=KM P.n;rw[bB,XU]at vd;have std:=XK (H:=Hd) (base:=size h) gd.le z32 i32;have ge:=gd.alloc (.cells (cr (eR cG 2#32 jV)));have be:ay (Go.Am.ext Hd [.cells (cr (eR cG 2#32 jV))]) (size Hd)=some (cr (eR cG 2#32 jV)):=by rw[aQ];rfl
 generalize hHe:Go.Am.ext Hd [.cells (cr (eR cG 2#32 jV))]=He at std ge be;have le:=ge.CO;have ye:=ge.bytes (i:=1) (by omega);rw[bB,show bV (some oA)=.sl .no 1 (aP oA) from RK (by intro q;rw[q]at hB;cases hB)]at ye;obtain⟨Hf,ef,gf,kf⟩:=ge.abQ;have lf:=gf.CO;have bf:ay Hf (size Hd)=some (cr (eR cG 2#32 jV)):=by
  unfold ay at be ⊢;rw[kf.2 (size Hd) (by simp)];exact be
 have vf:ax 1 false (.ptr (size Hd) 0) Hf=some (.int .u32 2):=dL bf;have rf:=KG (h:=Hf) (jS (.inl rfl) oA) (jS (.inl rfl) oA) (by rw[hB];decide) (size h);rw[beq_self_eq_true]at rf;have y1:=gf.same (i:=1) (by omega) (jS (.inl rfl) oA);have y0:=gf.same (i:=0) (by omega) (jS (.inl rfl) oA);rw[show cC ((C2 0 0 0 none (pad P.n OG) (pad P.n oA)).b 1)=some oA from KM P.n,beq_self_eq_true]at y1;rw[show cC ((C2 0 0 0 none (pad P.n OG) (pad P.n oA)).b 0)=some OG from KL P.n,beq_false_of_ne (fun q=>amt (Option.some.inj q))]at y0;have fin:=KH gf.kp true;have XV:binOp .neq (.int .i64 0) (.int .i64 0)=some (.bool false):=rfl;have c11:binOp .neq (.int .i64 1) (.int .i64 1)=some (.bool false):=rfl;have ca:binOp .neq (.int .i64 10) (.int .i64 10)=some (.bool false):=rfl;have c60:binOp .neq (.int .i64 60) (.int .i64 60)=some (.bool false):=rfl;have c22:binOp .neq (.int .u32 2) (.int .u32 2)=some (.bool false):=rfl;have q22:binOp .eql (.int .u32 2) (.int .u32 2)=some (.bool true):=rfl;have nt:unOp .not (.bool true)=some (.bool false):=rfl;have nf:unOp .not (.bool false)=some (.bool true):=rfl;have n0:∀ k,aF (.ptr k 0)=some (.ptr k 0):=fun _=>rfl
 have e3':ai T (size h) 17 [.ptr P.sb 0] H2=some (.cF [.int .i64 0,.int .i64 0],H3):=e3;have eb':ai T (size h) 17 [.ptr P.sb 0] Ha=some (.cF [.int .i64 1,.int .i64 0],Hb):=eb;have ec':ai T (size h) 17 [.ptr P.sb 0] Hb=some (.cF [.int .i64 0,.int .i64 0],Hc):=ec;have pa':ai T (size h) 19 [.ptr P.sb 0] Ha=some (.int .i64 1,Ha):=pa;have oa':ai T (size h) 46 [.ptr P.sb 0] Ha=some (.int .i64 1,Ha):=oa;have rb':ai T (size h) 44 [.ptr P.sb 0] Hb=some (.int .i64 1,Hb):=rb;have ab':ai T (size h) 20 [.ptr P.sb 0] Hb=some (.int .i64 0,Hb):=ab;have pc':ai T (size h) 19 [.ptr P.sb 0] Hc=some (.int .i64 0,Hc):=pc;have vd':ai T (size h) 43 [.ptr P.sb 0,.int .i64 1] Hd=some (.cF [.agg (cr (eR cG 2#32 jV)),.bool true],Hd):=vd;have ye':ai T (size h) 39 [.ptr P.sb 0,.int .i64 1] He=some (.cF [.sl .no 1 (aP oA),.bool true],He):=ye;have y1':ai T (size h) 21 [.ptr P.sb 0,.int .i64 1,.sl .no 1 (aP oA)] Hf=some (.bool true,Hf):=y1;have y0':ai T (size h) 21 [.ptr P.sb 0,.int .i64 0,.sl .no 1 (aP oA)] Hf=some (.bool false,Hf):=y0;have s1':cV (size h) H1 (.fC [.int .u8 111,.int .u8 110,.int .u8 101]) []=some (.bX true (size H1) 0 3 1,H1'):=s1;have m1':cV (size h) H1' .mark [.bX true (size H1) 0 3 1]=some (.bX true (size H1) 0 3 1,H1'):=m1;have e2':ai T (size h) 10 [.ptr (size h) 0,.bX true (size H1) 0 3 1] H1'=some (.bool true,H2):=e2;have s4':cV (size h) H3 (.fC [.int .u8 116,.int .u8 119,.int .u8 111]) []=some (.bX true (size H3) 0 3 1,H4):=s4;have m4':cV (size h) H4 .mark [.bX true (size H3) 0 3 1]=some (.bX true (size H3) 0 3 1,H4):=m4;have e5':ai T (size h) 11 [.str [97,112,112],.int .u32 2,.bX true (size H3) 0 3 1] H4=some (.cF [.bX false (size H4) 0 67 1,.int .i64 0],H4'):=e5;rw[S8,←jT];simp only[e1,tY,tZ,nt,nf,wT,RJ,wF2,Ee,Oe,Kw,Kx,eU,eF,s1',m1',e2',n0,ou,l2,e3',s4',m4',e5',f5,XV,l5,n5,e6,l6,t1,e7,l7,r7',ca,t2,e8,l8,e9,HS,st9,v9,c22,l9,ea,la,pa',c11,oa',eb',lb,rb',ab',ec',lc,pc',ed,c60,ld,vd',std,le,ye',lf,ef,vf,q22,rf,y1',y0',fin,Option.ag,az]
end Go.Am.Qd
namespace Go.Am.Qd
theorem n0p (k:Nat):aF (.ptr k 0)=some (.ptr k 0):=rfl
theorem XW (a b:Nat):binOp .gtr (.int .i64 (a:Int)) (.int .i64 (b:Int))=some (.bool (decide (b<a))):=by
 show some (PV.bool (decide ((b:Int)<(a:Int))))=_;congr 2;exact decide_eq_decide.2 (by omega)
theorem neT (a:Nat):binOp .neq (.int .i64 (a:Int)) (.int .i64 (a:Int))=some (.bool false):=by rw[nei,decide_eq_false (by simp)]
theorem abR (a:Nat) (ha:a≤1000000):binOp .add (.int .i64 (a:Int)) (.int .i64 1)=some (.int .i64 ((a+1:Nat):Int)):=by
 show some (PV.int .i64 (IntKind.i64.wrap ((a:Int)+1)))=_;rw[fy a (by omega)]
theorem Uf (H:Hp):Ar H .bg []:=⟨fun g=>⟨rfl,fun k i c hc=>by simp at hc,rfl,.inr rfl⟩,rfl,rfl,rfl⟩
section
variable {h:Hp} {xb:Nat} {R:List Nat} {x y B:List UInt8} {a:Nat}
end
end Go.Am.Qd
namespace Go.Am.Qd
theorem abS (a b:Nat):binOp .lss (.int .i64 (a:Int)) (.int .i64 (b:Int))=some (.bool (decide (a<b))):=by
 show some (PV.bool (decide ((a:Int)<(b:Int))))=_;congr 2;exact decide_eq_decide.2 (by omega)
theorem amy (a b:Nat) (hb:0<b) (ha:a≤1000000):binOp .rem (.int .i64 (a:Int)) (.int .i64 (b:Int))=some (.int .i64 ((a % b:Nat):Int)):=by
 show kz .rem .i64 (a:Int) (b:Int)=_;have hne:¬ ((b:Int)=0):=by omega
 have e:Int.tmod (a:Int) (b:Int)=((a % b:Nat):Int):=by rw[Int.tmod_eq_emod_of_nonneg (by omega)];omega
 have h2:((a % b:Nat):Int)≤1000000:=by have:=Nat.mod_le a b;omega
 simp only[kz,hne,if_false,beq_iff_eq,e]
theorem amz (a b:Nat) (h:b≤a) (ha:a≤1000000):binOp .sub (.int .i64 (a:Int)) (.int .i64 (b:Int))=some (.int .i64 ((a-b:Nat):Int)):=by
 show some (PV.int .i64 (IntKind.i64.wrap ((a:Int)-b)))=_;rw[wrap_small (by omega) (by omega)];congr 2;omega
theorem Ug (z:Int):binOp .and (.int .i64 z) (.int .i64 1023)=some (.int .i64 (((z % (1024:Nat)).toNat:Nat):Int)):=abG z 10 (by omega)
theorem abT {o:Own} (es:List PV):cB false (.sl o 1 es)=some (.int .i64 (es.length:Int)):=fe _ _ _
structure Zs (v:PV) (zs:List Int):Prop where
 len:cB false v=some (.int .i64 (zs.length:Int))
 ix:∀ (i:Nat) (z:Int),zs[i]?=some z→cW v (.int .i64 (i:Int)) 1=some (.ep [.int .i64 z] 0)
theorem UY {o:Own} (zs:List Int):Zs (.sl o 1 (zs.map fun z=>.int .i64 z)) zs :=
 ⟨by rw[abT,List.length_map],fun i z hz=>by
  have hi:=(List.getElem?_eq_some_iff.1 hz).1;rw[jM,if_pos rfl,iN .i64 i _ (by rw[List.length_map];exact hi),Option.ag,List.getElem?_map,hz];rfl⟩
theorem Uh:Zs .bg []:=⟨rfl,fun i z hz=>by simp at hz⟩
section
variable {h:Hp} {xb:Nat} {R:List Nat} {x:List UInt8} {body:List UInt8}
theorem HE (hb:body.length≤150) (hx:(cC x).isSome=true→(vD (cC x)).cu.toNat<2) {vz:PV} {zs:List Int} (hz:Zs vz zs):∀ (m i k r:Nat) (H:Hp) (P:Pl) (q l y:List UInt8) (o:Own),i+m=zs.length→zs.length≤1000→Nf o→bW cG 2#32 body=q++l →
  Gx h H P xb k (C2 0 0 r (some ⟨(bW cG 2#32 body).length,q⟩) x y) R →
  Qw (size h) (size h) (.int .i64 (i:Int)) (.sl .no 1 (aP (bW cG 2#32 body))) (.ptr xb 0) (.sl o 1 (aP l)) vz (.int .i64 (zs.length:Int)) H=some (.bool true,h):=by
 have hl0:=iB dc 2#32 body;intro m
 induction m with
 | zero =>
  intro i k r H P q l y o him hzl ho hB g;have c1:=abS i zs.length;rw[decide_eq_false (by omega)]at c1;have l1:=g.CO;obtain⟨H1,e1,g1,_⟩:=Gx.wr2 (t:=[]) g ho (by omega) (by rw[List.append_nil];exact hB);rw[←hB]at g1;have l2:=g1.CO;obtain⟨H2,e2,g2,_⟩:=Gx.abP g1 (by omega) hx;have z32:iV.dg.length=32:=rfl;have i32:(eR cG 2#32 body).dg.length=32:=kS _;have Se:=XK (H:=H2) (base:=size h) g2.le z32 i32;have v2:ax 1 false (.ptr (size H2) 0) (Go.Am.ext H2 [.cells (cr (eR cG 2#32 body))])=some (.int .u32 2):=fv0 (h:=H2) (r:=[]) 0;have g3:=g2.ext [.cells (cr (eR cG 2#32 body))];have l3:=g3.CO;have y3:=g3.same (i:=1) (by omega) (jS (o:=.no) (.inl rfl) (bW cG 2#32 body));rw[show cC ((C2 0 0 r none x (pad P.n (bW cG 2#32 body))).b 1)=some (bW cG 2#32 body) from nW dc 2#32 (by omega) P.n,beq_self_eq_true]at y3;have r3:ai T (size h) 26 [.ptr P.sb 0] (Go.Am.ext H2 [.cells (cr (eR cG 2#32 body))])=some (.int .i64 0,_):=g3.got;have fin:=KH g3.kp true;generalize Go.Am.ext H2 [.cells (cr (eR cG 2#32 body))]=H3 at *;have XV:binOp .neq (.int .i64 0) (.int .i64 0)=some (.bool false):=rfl;have q00:binOp .eql (.int .i64 0) (.int .i64 0)=some (.bool true):=rfl;have q22:binOp .eql (.int .u32 2) (.int .u32 2)=some (.bool true):=rfl;have y3':ai T (size h) 21 [.ptr P.sb 0,.int .i64 1,.sl .no 1 (aP (bW cG 2#32 body))] H3=some (.bool true,H3):=y3;rw[Ll,←jT];simp only[c1,eF,n0p,ou,l1,e1,XV,l2,e2,tY,tZ,HS,Se,q00,wT,Ee,Kw,Kx,v2,q22,eU,l3,y3',r3,fin,Option.ag,az]
 | succ m ih =>
  intro i k r H P q l y o him hzl ho hB g;have c1:=abS i zs.length;rw[decide_eq_true (by omega)]at c1;have hll:=congrArg List.length hB;rw[List.length_append]at hll;obtain⟨z,hzi⟩ : ∃ z,zs[i]?=some z:=⟨zs[i]'(by omega),List.getElem?_eq_getElem (by omega)⟩;have ix1:=hz.ix i z hzi;have X8:ax 1 false (.ep [.int .i64 z] 0) H=some (.int .i64 z):=rfl;have a1:=Ug z;have hm:(z % (1024:Nat)).toNat≤1023:=by omega
  generalize (z % (1024:Nat)).toNat=w at a1 hm;have nl:=(pL ho l).len;have ad:=abR l.length (by omega);have rm:=amy w (l.length+1) (by omega) (by omega);have hn:w % (l.length+1)≤l.length:=by have:=Nat.mod_lt w (show 0<l.length+1 by omega);omega
  generalize w % (l.length+1)=n at rm hn;have l1:=g.CO;obtain⟨o1,ho1,t1⟩:=slc (o:=o) l (lo:=none) (hi:=some (.int .i64 (n:Int))) (a:=0) (b:=n) rfl (by rw[gK];exact fV _ _ _ hn);obtain⟨o2,ho2,t2⟩:=slc (o:=o) l (lo:=some (.int .i64 (n:Int))) (hi:=none) (a:=n) (b:=l.length) (by rw[gK];exact fV _ _ _ hn) rfl;rw[Nat.sub_zero,List.drop_zero]at t1;rw[List.take_of_length_le (by rw[List.length_drop];omega)]at t2;obtain⟨H1,e1,g1,_⟩:=Gx.wr2 (t:=l.drop n) (l:=l.take n) g ho1 (by omega) (by rw[List.append_assoc,List.take_append_drop];exact hB);have l2:=g1.CO;have r1:=g1.got;have r1':ai T (size h) 26 [.ptr P.sb 0] H1=some (.int .i64 (((bW cG 2#32 body).length-(l.length-n):Nat):Int),H1):=by
   have:Og (some (⟨(bW cG 2#32 body).length,q++l.take n⟩ : Wt))=(bW cG 2#32 body).length-(l.length-n):=by
    show(q++l.take n).length=_;rw[List.length_append,List.length_take];omega
   rw[r1];show some (PV.int .i64 ((Og (some (⟨(bW cG 2#32 body).length,q++l.take n⟩ : Wt)):Nat):Int),H1)=_;rw[this]
  have nB:=(pL (o:=.no) (.inl rfl) (bW cG 2#32 body)).len;have n2:=(pL ho2 (l.drop n)).len;rw[List.length_drop]at n2;have sb:=amz (bW cG 2#32 body).length (l.length-n) (by omega) (by omega);have XV:binOp .neq (.int .i64 0) (.int .i64 0)=some (.bool false):=rfl;have ad2:=abR i (by omega);have ih':=ih (i+1) k r H1 P (q++l.take n) (l.drop n) _ o2 (by omega) hzl ho2 (by rw[List.append_assoc,List.take_append_drop];exact hB) g1;rw[Ll];simp only[c1,eU,ix1,X8,a1,nl,ad,rm,n0p,ou,l1,t1,e1,XV,eF,t2,l2,r1',nB,n2,sb,neT,ad2,ih',Option.ag,az]
end
theorem HF (base:Nat) {h:Hp} {va vb vz:PV} {a b:List UInt8} (hva:∀ H,Ar H va a) (hvb:∀ H,Ar H vb b) {zs:List Int} (hz:Zs vz zs):ai T base 5 [va,vb,vz] h=some (.bool true,h):=by
 have al:=KN (size h) h;have nt:unOp .not (.bool true)=some (.bool false):=rfl;have la:=((hva h).rd []).len;have lb:=((hvb h).rd []).len;have lz:=hz.len;have ga:=XW a.length 150;have gb:=XW b.length 150;have gz:=XW zs.length 20;rw[show((150:Nat):Int)=150 from rfl]at ga gb;rw[show((20:Nat):Int)=20 from rfl]at gz;have kr:=KH (Kp.refl (List.range (size h)) h) true
 by_cases qa:150<a.length
 ·rw[decide_eq_true qa]at ga
  rw[S5];simp only[al,nt,eF,la,ga,RJ,Oe,eU,kr,Option.ag,az]
 rw[decide_eq_false qa]at ga
 by_cases qb:150<b.length
 ·rw[decide_eq_true qb]at gb
  rw[S5];simp only[al,nt,eF,la,ga,lb,gb,wT,RJ,Oe,Ee,Kw,eU,kr,Option.ag,az]
 rw[decide_eq_false qb]at gb
 by_cases qz:20<zs.length
 ·rw[decide_eq_true qz]at gz
  rw[S5];simp only[al,nt,eF,la,ga,lb,gb,lz,gz,wT,Ee,Kw,eU,kr,Option.ag,az]
 rw[decide_eq_false qz]at gz;have hs4:secs 0=4:=rfl;obtain⟨H1,P,e1,g1,hP⟩:=R4 (h:=h) 0;rw[←hP]at g1;rw[hs4]at hP;obtain⟨H2,e2,g2,_⟩:=g1.UX (hva _) (by rw[hP];omega);obtain⟨e3,f3⟩:=g2.make (hvb _) 2#32 (by omega);have g3:=g2.ext [.dead];have l3:=g3.CO;have hA:cC (pad P.n (bW cG 1#32 a))=some (bW cG 1#32 a):=nW dc 1#32 (by omega) _;have hAh:vD (some (bW cG 1#32 a))=eR cG 1#32 a:=congrArg Prod.fst (nv dc 1#32 (by omega));have hl:=iB dc 2#32 b;have nB:=(pL (o:=.no) (.inl rfl) (bW cG 2#32 b)).len;obtain⟨H4,e4,g4,_⟩:=g3.abO (z:=(bW cG 2#32 b).length) (by omega) (by rw[hP];omega);have lp:=HE (h:=h) (xb:=size h) (R:=List.range (size h)) (body:=b) (by omega) (fun _=>by rw[hA,hAh];show(1#32:BitVec 32).toNat<2;decide) hz zs.length 0 _ _ H4 P [] (bW cG 2#32 b) _ .no (by omega) (by omega) (.inl rfl) (by simp) g4;have XV:binOp .neq (.int .i64 0) (.int .i64 0)=some (.bool false):=rfl;have e3':ai T (size h) 11 [.str [97,112,112],.int .u32 2,vb] H2=some (.cF [.bX false (size H2) 0 (bW cG 2#32 b).length 1,.int .i64 0],Go.Am.ext H2 [.cells (aP (bW cG 2#32 b))]):=e3;have lp':Qw (size h) (size h) (.int .i64 0) (.sl .no 1 (aP (bW cG 2#32 b))) (.ptr (size h) 0) (.sl .no 1 (aP (bW cG 2#32 b))) vz (.int .i64 (zs.length:Int)) H4=some (.bool true,h):=lp;rw[S5];simp only[al,nt,eF,la,ga,lb,gb,lz,gz,wT,Ee,Kw,Kx,e1,tY,tZ,e2,e3',f3,n0p,ou,l3,nB,e4,XV,lp',Option.ag,az]
end Go.Am.Qd
namespace Go.Am.Qd
end Go.Am.Qd
namespace Go.Am
def fM (P:Program) (e:TypeId) (r:List PV):PV :=
 match P.underlying e with
 | some (.struct _)=>.agg r
 | _=>r.headD .undef
inductive Sh (P:Program):TypeId→List PV→Prop where
 | bool {t} (b:Bool) (ht:P.underlying t=some .bool):Sh P t [.bool b]
 | int {t} (k:IntKind) (n:Int) (ht:P.underlying t=some (.int k)) (hn:(Lit.int k n).wf=true):Sh P t [.int k n]
 | str {t} (l:List UInt8) (ht:P.underlying t=some .string) (hl:l.length≤reachBytes):Sh P t [.str l]
 | bg {t e} (ht:P.underlying t=some (.slice e)):Sh P t [.bg]
 | sl {t e} (rows:List (List PV)) (ht:P.underlying t=some (.slice e)) (hr:∀ r∈rows,Sh P e r) (hl:∀ r∈rows,r.length=P.cellsOf e) (hn:rows.length≤maxLen) (hb:rows.length*P.bytesOf e≤reachBytes):Sh P t [.sl .no (P.cellsOf e) (rows.map (fM P e))]
 | struct {t} (fs:Array Field) (cs:List PV) (ht:P.underlying t=some (.struct fs)) (hn:cs.length=P.cellsOf t)
   (hf:∀ (i:Nat) (f:Field),fs[i]?=some f→Sh P f.type ((cs.drop f.offset).take (P.cellsOf f.type))):Sh P t cs
theorem Sh.row {P:Program} {e:TypeId} {r:List PV} (h:Sh P e r):(fM P e r).cells=r:=by
 cases h with
 | bool b ht=>simp[fM,ht,PV.cells]
 | int k n ht=>simp[fM,ht,PV.cells]
 | str l ht=>simp[fM,ht,PV.cells]
 | bg ht=>simp[fM,ht,PV.cells]
 | sl rows ht=>simp[fM,ht,PV.cells]
 | struct fs cs ht=>simp[fM,ht,PV.cells]
def vE (P:Program):Nat→List Field→Nat→Bool
 | off,[],tot=>off == tot
 | off,f::r,tot=>f.offset == off&&vE P (off+P.cellsOf f.type) r tot
theorem HG {P:Program}:∀ (fl:List Field) (off tot:Nat),vE P off fl tot=true→off≤tot
 | [],off,tot,h=>by simp[vE]at h;omega
 | f::r,off,tot,h=>by
  simp only[vE,Bool.and_eq_true]at h;have:=HG r _ _ h.2;omega
def uh (P:Program):Nat→TypeId→Bool
 | 0,_=>false
 | n+1,t=>match P.underlying t with
  | some .bool | some (.int _) | some .string=>true
  | some (.slice e)=>decide (0<P.cellsOf e)&&uh P n e
  | some (.struct fs)=>vE P 0 fs.toList (P.cellsOf t)&&fs.toList.all fun f=>uh P n f.type
  | _=>false
theorem vF {α:Type} (Q:Nat→α→Prop):∀ n,(∀ i,i<n→∃ r,Q i r)→∃ rows:List α,rows.length=n∧∀ (i:Nat) r,rows[i]?=some r→Q i r
 | 0,_=>⟨[],rfl,fun i r h=>by simp at h⟩
 | n+1,h=>by
  obtain⟨rows,h1,h2⟩:=vF Q n (fun i hi=>h i (by omega));obtain⟨r,hr⟩:=h n (by omega);refine⟨rows++[r],by simp[h1],fun i r' hi=>?_⟩
  by_cases hin:i<n
  ·rw[List.getElem?_append_left (by omega)]at hi;exact h2 i r' hi
  ·have hlt:=(List.getElem?_eq_some_iff.1 hi).1
   simp at hlt;have:i=n:=by omega
   subst this;rw[List.getElem?_append_right (by omega),h1]at hi;simp at hi;subst hi;exact hr
theorem cell_spot {w:World} {b o:Nat} {sp:Option Nat} {u:Value} (h:w.cell? ⟨b,o,sp⟩=some u):sp=none:=by
 unfold World.cell? at h;split at h
 ·rename_i c _ _ hq
  cases sp with
  | none=>rfl
  | some s=>simp at h
 ·cases h
theorem vG {H:Type} {P:Program} {e:TypeId}:∀ {l:List (DataW H)} {d:DataW H},d∈l→∀ n∈d.weights P e,n∈DataW.weightsAll P e l
 | d0::l,d,hd,n,hn=>by
  simp only[DataW.weightsAll,List.mem_append];simp only[List.mem_cons]at hd;rcases hd with rfl | hd
  ·exact .inl hn
  ·exact .inr (vG hd n hn)
theorem vH {P:Program} {cs:List Value} {R:PV→Value→Prop}:∀ (fl:List Field) (off:Nat),vE P off fl cs.length=true →
  (∀ f∈fl,∃ v:List PV,v.length=((cs.drop f.offset).take (P.cellsOf f.type)).length∧(∀ (j:Nat) x,v[j]?=some x→∃ u,((cs.drop f.offset).take (P.cellsOf f.type))[j]?=some u∧R x u)∧Sh P f.type v) →
  ∃ vs:List PV,off+vs.length=cs.length∧(∀ (j:Nat) x,vs[j]?=some x→∃ u,cs[off+j]?=some u∧R x u)∧∀ f∈fl,off≤f.offset∧Sh P f.type ((vs.drop (f.offset-off)).take (P.cellsOf f.type))
 | [],off,ht,h=>by
  simp[vE]at ht;exact⟨[],by simp[ht],fun j x hx=>by simp at hx,fun f hf=>by simp at hf⟩
 | f::fl,off,ht,h=>by
  simp only[vE,Bool.and_eq_true,beq_iff_eq]at ht;obtain⟨rfl,ht⟩:=ht;have hle:=HG _ _ _ ht;obtain⟨v,h1,h2,h3⟩:=h f (by simp);have hv:v.length=P.cellsOf f.type:=by rw[h1];simp;omega
  obtain⟨vs,q1,q2,q3⟩:=vH fl _ ht (fun f' hf'=>h f' (by simp[hf']));refine⟨v++vs,by simp;omega,fun j x hx=>?_,fun f' hf'=>?_⟩
  ·by_cases hj:j<v.length
   ·rw[List.getElem?_append_left hj]at hx
    obtain⟨u,hu,hr⟩:=h2 j x hx;refine⟨u,?_,hr⟩;rw[List.getElem?_take,if_pos (by omega),List.getElem?_drop]at hu;exact hu
   ·rw[List.getElem?_append_right (by omega)]at hx
    obtain⟨u,hu,hr⟩:=q2 _ x hx;refine⟨u,?_,hr⟩;rw[←hu];congr 1;omega
  ·simp only[List.mem_cons]at hf'
   rcases hf' with rfl | hf'
   ·refine⟨Nat.le_refl _,?_⟩
    rw[Nat.sub_self,List.drop_zero,List.take_append_of_le_length (by omega),←hv,List.take_length];exact h3
   ·obtain⟨r1,r2⟩:=q3 f' hf'
    refine⟨by omega,?_⟩;rw[List.drop_append,List.drop_eq_nil_of_le (by omega),List.nil_append,show f'.offset-f.offset-v.length=f'.offset-(f.offset+P.cellsOf f.type) by omega];exact r2
theorem rL {H:Type} {enc:TypeId × Value→H} {P:Program} {w:World} {spare:Nat→Bool} {held:Bool} {g:G}:∀ (n m:Nat) (t:TypeId) (cs:List Value) (x:DataW H × List MemPlace),
  DataW.trod enc P w 0 spare held n t cs=some x→uh P m t=true→(∀ k∈x.1.weights P t,k≤reachBytes) →
  ∃ vs:List PV,vs.length=cs.length∧(∀ (j:Nat) v,vs[j]?=some v→∃ u,cs[j]?=some u∧RV w.heap.size g w v u)∧Sh P t vs
 | 0,m,t,cs,x,h,hp,UZ=>by simp[DataW.trod]at h
 | n+1,0,t,cs,x,h,hp,UZ=>by simp[uh]at hp
 | n+1,m+1,t,cs,x,h,hp,UZ=>by
  rw[uh]at hp;split at hp
  ·rename_i ht
   obtain⟨b,rfl,_⟩:=DataW.trod_bool ht h;refine⟨[.bool b],rfl,fun j v hv=>?_,.bool b ht⟩;cases j with
   | zero=>simp at hv;subst hv;exact⟨_,rfl,.bool b⟩
   | succ j=>simp at hv
  ·rename_i k ht
   obtain⟨z,rfl,_,hwf⟩:=DataW.trod_int ht h;refine⟨[.int k z],rfl,fun j v hv=>?_,.int k z ht hwf⟩;cases j with
   | zero=>simp at hv;subst hv;exact⟨_,rfl,.int k z⟩
   | succ j=>simp at hv
  ·rename_i ht
   obtain⟨s,rfl,rfl,hs⟩:=DataW.trod_string ht h;refine⟨[.str s.data.toList],rfl,fun j v hv=>?_,.str _ ht (UZ _ (by simp[DataW.weights]))⟩;cases j with
   | zero=>simp at hv;subst hv;exact⟨_,rfl,.str _ s rfl⟩
   | succ j=>simp at hv
  ·rename_i e ht
   simp only[Bool.and_eq_true,decide_eq_true_eq]at hp;rcases DataW.trod_slice ht h with⟨rfl,_⟩ | ⟨a,len,cap,elems,rest,n',hn',rfl,rfl,_,hlc,hcm,hel,XX,_,_⟩
   ·refine⟨[.bg],rfl,fun j v hv=>?_,.bg ht⟩
    cases j with
    | zero=>simp at hv;subst hv;exact⟨_,rfl,.bg⟩
    | succ j=>simp at hv
   ·obtain rfl:n'=n:=by omega
    have hq:∀ i,i<len→∃ r:List PV,r.length=P.cellsOf e∧Sh P e r∧∀ (j:Nat) v,r[j]?=some v→∃ u,w.cell? ((a.add (i*P.cellsOf e)).add j)=some u∧RV w.heap.size g w v u:=by
     intro i hi;have hlt:i<elems.length:=by omega
     have hei:=XX i hi;rw[List.getElem?_eq_getElem hlt,Option.bind_eq_some_iff]at hei;obtain⟨ci,hci,hti⟩:=hei;obtain⟨_,hlen,hcell⟩:=World.cells?_some hci;obtain⟨r,h1,h2,h3⟩:=rL n' m e ci _ hti hp.2 (fun k hk=>UZ k (by
      simp only[DataW.weights,ht,List.mem_cons,List.mem_append];exact .inr (.inl (vG (List.mem_map.2 ⟨_,List.getElem_mem hlt,rfl⟩) k hk))))
     refine⟨r,by rw[h1,hlen],h3,fun j v hv=>?_⟩;obtain⟨u,hu,hr⟩:=h2 j v hv;have hj:j<P.cellsOf e:=by rw[←hlen,←h1];exact(List.getElem?_eq_some_iff.1 hv).1
     exact⟨u,by rw[hcell j hj];exact hu,hr⟩
    obtain⟨rows,hrl,U0⟩:=vF _ len hq;have hmem:∀ r∈rows,∃ i,rows[i]?=some r:=fun r hr=>List.mem_iff_getElem?.1 hr
    have Kf:∀ (i j:Nat) (r:List PV) (v:PV),rows[i]?=some r→r[j]?=some v→∃ u,w.cell? ⟨a.block,a.off+(i*P.cellsOf e+j),none⟩=some u∧RV w.heap.size g w v u:=by
     intro i j r v hi hj;obtain⟨u,hu,hr⟩:=(U0 i r hi).2.2 j v hj;refine⟨u,?_,hr⟩;have hsp:(a.add (i*P.cellsOf e)).add j=⟨a.block,a.off+(i*P.cellsOf e+j),((a.add (i*P.cellsOf e)).add j).spot⟩:=by
      unfold Addr.add;split<;>split<;>simp_all<;>omega
     rw[hsp]at hu;have:=cell_spot hu;rw[this]at hu;exact hu
    have abV:rows≠[]→a.spot=none:=by
     intro hne;obtain⟨r,hr0⟩ : ∃ r,rows[0]?=some r:=by
      cases rows with
      | nil=>exact(hne rfl).elim
      | cons r _=>exact⟨r,rfl⟩
     obtain⟨q1,_,q3⟩:=U0 0 r hr0;obtain⟨v,hv⟩ : ∃ v,r[0]?=some v:=⟨_,List.getElem?_eq_getElem (by omega)⟩;obtain⟨u,hu,_⟩:=q3 0 v hv;simp only[Nat.zero_mul,Addr.add,if_true]at hu;exact cell_spot (b:=a.block) (o:=a.off) hu
    refine⟨[.sl .no (P.cellsOf e) (rows.map (fM P e))],rfl,fun j v hv=>?_,.sl rows ht (fun r hr=>?_) (fun r hr=>?_) (by omega) ?_⟩
    ·cases j with
     | succ j=>simp at hv
     | zero =>
      simp at hv;subst hv;refine⟨_,rfl,?_⟩;have hrow:∀ (i:Nat) (z:PV),(rows.map (fM P e))[i]?=some z→∃ r,rows[i]?=some r∧z.cells=r:=by
       intro i z hz;rw[List.getElem?_map,Option.map_eq_some_iff]at hz;obtain⟨r,hr,rfl⟩:=hz;exact⟨r,hr,(U0 i r hr).2.1.row⟩
      have:=RV.sl (N0:=w.heap.size) (g:=g) (w:=w) .no (P.cellsOf e) (rows.map (fM P e)) a.block a.off cap (fun i j=>(w.cell? ⟨a.block,a.off+(i*P.cellsOf e+j),none⟩).getD Go.undef)
       (by simp;omega) (by simp) ?_ ?_ ?_ ?_ a.spot (fun hne=>abV (by simpa using hne)) (by simp)
      ·simpa[hrl] using this
      ·intro i z hz
       obtain⟨r,hr,hc⟩:=hrow i z hz;rw[hc];exact(U0 i r hr).1
      ·intro i j hi hj
       simp at hi;obtain⟨r,hr⟩ : ∃ r,rows[i]?=some r:=⟨_,List.getElem?_eq_getElem hi⟩;obtain⟨v,hv⟩ : ∃ v,r[j]?=some v:=⟨_,List.getElem?_eq_getElem (by rw[(U0 i r hr).1];exact hj)⟩;obtain⟨u,hu,_⟩:=Kf i j r v hr hv;rw[hu];rfl
      ·intro i j z y hz hy
       obtain⟨r,hr,hc⟩:=hrow i z hz;rw[hc]at hy;obtain⟨u,hu,hru⟩:=Kf i j r y hr hy;rw[hu];exact hru
      ·intro hne
       refine .inl ?_;obtain⟨r,hr0⟩ : ∃ r,rows[0]?=some r:=by
        cases rows with
        | nil=>exact(hne rfl).elim
        | cons r _=>exact⟨r,rfl⟩
       obtain⟨v,hv⟩ : ∃ v,r[0]?=some v:=⟨_,List.getElem?_eq_getElem (by rw[(U0 0 r hr0).1];exact hp.1)⟩;obtain⟨u,hu,_⟩:=Kf 0 0 r v hr0 hv;exact World.block_lt_of_cell? w ⟨a.block,_,none⟩ hu
    ·obtain⟨i,hi⟩:=hmem r hr;exact(U0 i r hi).2.1
    ·obtain⟨i,hi⟩:=hmem r hr;exact(U0 i r hi).1
    ·have:=UZ _ (by simp only[DataW.weights,ht];exact List.mem_cons_self)
     simp only[List.length_map]at this;refine Nat.le_trans (Nat.mul_le_mul_right _ ?_) this;omega
  ·rename_i fs ht
   simp only[Bool.and_eq_true,List.all_eq_true]at hp;obtain⟨xs,n',hn',rfl,hlen,hxl,hx⟩:=DataW.trod_struct ht h;obtain rfl:n'=n:=by omega
   obtain⟨vs,q1,q2,q3⟩:=vH (P:=P) (cs:=cs) (R:=fun v u=>RV w.heap.size g w v u) fs.toList 0 (by rw[hlen];exact hp.1) (fun f hf=>by
    obtain⟨i,hi⟩:=List.mem_iff_getElem?.1 hf;have hi':fs[i]?=some f:=by simpa using hi
    have hlt:i<xs.length:=by rw[hxl];exact(Array.getElem?_eq_some_iff.1 hi').1
    have:=hx i f hi';rw[List.getElem?_eq_getElem hlt]at this;exact rL n' m f.type _ _ this (hp.2 f hf) fun k hk=>UZ k (by
     simp only[DataW.weights,ht];exact DataW.weights_mem_each (j:=i) (t:=f.type) (d:=xs[i].1) (by rw[List.getElem?_map,hi];rfl) (by rw[List.getElem?_map,List.getElem?_eq_getElem hlt];rfl) k hk))
   refine⟨vs,by omega,fun j v hv=>by simpa using q2 j v hv,.struct fs vs ht (by omega) fun i f hf=>?_⟩;have:=(q3 f (List.mem_iff_getElem?.2 ⟨i,by simpa using hf⟩)).2;simpa using this
  ·cases hp
theorem Bd {H:Type} {enc:TypeId × Value→H} {P:Program} {w:World} {spare:Nat→Bool} {held:Bool} {g:G} {t:TypeId} {v:Value} {d:DataW H} {ps:List MemPlace}
  (h:DataW.Trod enc P w 0 spare held t v d ps) (hv:v.cells.toList=[v]) (m:Nat) (hp:uh P m t=true) (UZ:∀ k∈d.weights P t,k≤reachBytes):∃ x,RV w.heap.size g w x v∧Sh P t [x]:=by
 obtain⟨fuel,h⟩:=h;obtain⟨vs,h1,h2,h3⟩:=rL (g:=g) fuel m t _ _ h hp UZ;rw[hv]at h1 h2;cases vs with
 | nil=>simp at h1
 | cons x r =>
  cases r with
  | cons y r=>simp at h1
  | nil =>
   obtain⟨u,hu,hr⟩:=h2 0 x rfl;simp at hu;subst hu;exact⟨x,hr,h3⟩
section
variable {P:Program} {t:TypeId} {cs:List PV}
theorem Sh.Ea {k:IntKind} (ht:P.underlying t=some (.int k)) (h:Sh P t cs):∃ n,cs=[.int k n]∧(Lit.int k n).wf=true:=by
 cases h with
 | bool b h=>rw[ht]at h;cases h
 | int k' n h hn=>rw[ht]at h;cases h;exact⟨n,rfl,hn⟩
 | str l h=>rw[ht]at h;cases h
 | bg h=>rw[ht]at h;cases h
 | sl rows h=>rw[ht]at h;cases h
 | struct fs cs h=>rw[ht]at h;cases h
theorem Sh.uj {e:TypeId} (ht:P.underlying t=some (.slice e)) (h:Sh P t cs) :
  cs=[.bg]∨∃ rows:List (List PV),cs=[.sl .no (P.cellsOf e) (rows.map (fM P e))]∧(∀ r∈rows,Sh P e r∧r.length=P.cellsOf e)∧rows.length≤maxLen∧rows.length*P.bytesOf e≤reachBytes:=by
 cases h with
 | bool b h=>rw[ht]at h;cases h
 | int k n h=>rw[ht]at h;cases h
 | str l h=>rw[ht]at h;cases h
 | bg h=>exact .inl rfl
 | sl rows h hr hl hn hb=>rw[ht]at h;cases h;exact .inr ⟨rows,rfl,fun r hm=>⟨hr r hm,hl r hm⟩,hn,hb⟩
 | struct fs cs h=>rw[ht]at h;cases h
theorem Be {k:IntKind} (ht:P.underlying t=some (.int k)) (r:List PV):fM P t r=r.headD .undef:=by simp[fM,ht]
end
end Go.Am
namespace Go.Am
theorem Sh.bytes {P:Program} {t e:TypeId} {x:PV} (ht:P.underlying t=some (.slice e)) (he:P.underlying e=some (.int .u8)) (hc:P.cellsOf e=1) (h:Sh P t [x]):∃ l,Bv x l∧l.length≤maxLen:=by
 rcases h.uj ht with hq | ⟨rows,hq,hr,hn,hb⟩
 ·cases hq;exact⟨[],.bg,by simp⟩
 ·cases hq
  obtain⟨l,hl⟩ : ∃ l:List UInt8,rows.map (fM P e)=aP l∧l.length=rows.length:=by
   clear hn hb h
   induction rows with
   | nil=>exact⟨[],rfl,rfl⟩
   | cons r rows ih =>
    obtain⟨l,hl,hl2⟩:=ih fun q hq=>hr q (List.mem_cons_of_mem _ hq)
    obtain⟨n,rfl,hw⟩:=(hr r (List.mem_cons_self ..)).1.Ea he;have hm:IntKind.u8.min=0:=rfl;have hM:IntKind.u8.max=255:=rfl;simp only[Lit.wf,hm,hM,Bool.and_eq_true,decide_eq_true_eq]at hw;refine⟨UInt8.ofNat n.toNat::l,?_,by simp[hl2]⟩;rw[List.map_cons,hl,Be he];show _::_=PV.int .u8 ((UInt8.ofNat n.toNat).toNat:Int)::aP l;have hv:((UInt8.ofNat n.toNat).toNat:Int)=n:=by rw[UInt8.toNat_ofNat'];omega
    rw[hv];rfl
  rw[hc,hl.1];exact⟨l,.no l,by rw[hl.2];exact hn⟩
end Go.Am
namespace Go.Am
theorem Sh.lst {α:Type} {P:Program} {t e:TypeId} {x:PV} {el:α→PV} {Q:α→Prop} (ht:P.underlying t=some (.slice e)) (hE:∀ r,Sh P e r→∃ a,fM P e r=el a∧Q a) (h:Sh P t [x]) :
  ∃ l,Lv el (P.cellsOf e) x l∧l.length≤maxLen∧∀ a∈l,Q a:=by
 rcases h.uj ht with hq | ⟨rows,hq,hr,hn,hb⟩
 ·cases hq;exact⟨[],.bg,by simp,by simp⟩
 ·cases hq
  obtain⟨l,hl,hl2,hl3⟩ : ∃ l:List α,rows.map (fM P e)=l.map el∧l.length=rows.length∧∀ a∈l,Q a:=by
   clear hn hb h
   induction rows with
   | nil=>exact⟨[],rfl,rfl,by simp⟩
   | cons r rows ih =>
    obtain⟨l,hl,hl2,hl3⟩:=ih fun q hq=>hr q (List.mem_cons_of_mem _ hq)
    obtain⟨a,ha,hQ⟩:=hE r (hr r (List.mem_cons_self ..)).1;refine⟨a::l,?_,by simp[hl2],?_⟩
    ·rw[List.map_cons,hl,ha];rfl
    ·intro b hb
     rcases List.mem_cons.1 hb with rfl | hb
     ·exact hQ
     ·exact hl3 b hb
  rw[hl];exact⟨l,.no l,by rw[hl2];exact hn,hl3⟩
def aB:Option (List UInt8)→PV
 | none=>.bg
 | some l=>.sl .no 1 (aP l)
theorem Sh.XY {P:Program} {t e:TypeId} {x:PV} (ht:P.underlying t=some (.slice e)) (he:P.underlying e=some (.int .u8)) (hc:P.cellsOf e=1) (h:Sh P t [x]):∃ o,x=aB o:=by
 rcases h.uj ht with hq | ⟨rows,hq,hr,hn,hb⟩
 ·cases hq;exact⟨none,rfl⟩
 ·cases hq
  obtain⟨l,hl⟩ : ∃ l:List UInt8,rows.map (fM P e)=aP l:=by
   clear hn hb h
   induction rows with
   | nil=>exact⟨[],rfl⟩
   | cons r rows ih =>
    obtain⟨l,hl⟩:=ih fun q hq=>hr q (List.mem_cons_of_mem _ hq)
    obtain⟨n,rfl,hw⟩:=(hr r (List.mem_cons_self ..)).1.Ea he;have hm:IntKind.u8.min=0:=rfl;have hM:IntKind.u8.max=255:=rfl;simp only[Lit.wf,hm,hM,Bool.and_eq_true,decide_eq_true_eq]at hw;refine⟨UInt8.ofNat n.toNat::l,?_⟩;rw[List.map_cons,hl,Be he];show _::_=PV.int .u8 ((UInt8.ofNat n.toNat).toNat:Int)::aP l;have hv:((UInt8.ofNat n.toNat).toNat:Int)=n:=by rw[UInt8.toNat_ofNat'];omega
    rw[hv];rfl
  rw[hc,hl];exact⟨some l,rfl⟩
end Go.Am
namespace Go.Am.Qd
open Go.RowKit (Below)
open Go.Proofs
theorem CQ {x:PV} (h:Sh Tryz.prog 22 [x]):∃ l,∀ H,Ar H x l:=by
 obtain⟨o,rfl⟩:=h.XY Tryz.underlying22 Tryz.underlying5 (by kernel_rfl);cases o with
 | none=>exact⟨[],fun H=>Uf H⟩
 | some l=>exact⟨l,fun H=>abM (.inl rfl) l⟩
theorem R6 {x:PV} (h:Sh Tryz.prog 59 [x]):∃ zs,Zs x zs:=by
 have hc:Tryz.prog.cellsOf 3=1:=by kernel_rfl
 obtain⟨l,hl,hn,_⟩:=h.lst (el:=fun z=>PV.int .i64 z) (Q:=fun _=>True) Tryz.underlying59 (fun r hr=>by
  obtain⟨n,rfl,hw⟩:=hr.Ea Tryz.underlying3;exact⟨n,Be Tryz.underlying3 _,trivial⟩)
 rw[hc]at hl;rcases hl with⟨rfl,rfl⟩ | rfl | rfl
 ·exact⟨[],Uh⟩
 ·exact⟨l,UY l⟩
 ·exact⟨l,UY l⟩
end Go.Am.Qd
