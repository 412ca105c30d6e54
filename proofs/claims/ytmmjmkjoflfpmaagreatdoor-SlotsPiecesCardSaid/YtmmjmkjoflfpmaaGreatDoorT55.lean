/- The bK UN its values into the other group. | The bK writes a record, or UN. | The bK keeps a value, anI one, Uj one. | The N1 of bytes. | An TU head, 
   By the session's AI agent. -/
import Derived.Test.YtmmjmkjoflfpmaaGreatDoorT54
set_option linter.unnecessarySimpa false
set_option linter.unusedSectionVars false
set_option linter.unusedSimpArgs false
set_option linter.unusedVariables false
set_option maxRecDepth 100000
namespace Go.Am.Qd
variable {h:Hp} {p:FP} {F:Fl}
structure Jn where
 now:Nat
 fin:Nat
 bM:BitVec 32
def jC (qa qb sz:Nat) (J:Jn) (m:Nat):List PV:=[.ptr qa 0,.ptr qb 0,.int .i64 (sz:Int),.int .i64 (J.now:Int),uV J.bM,.int .i64 (J.fin:Int),.eL m]
structure Bh (h:Hp) (p:FP) (jb qa qb:Nat):Prop where
 fo:pI h p
 pa:gL h p qa 0 2
 pb:gL h p qb 2 2
 lj:jb<size h
 j1:jb≠p.f
 j2:jb≠p.bb
 j3:jb≠p.wb
 ja:qa≠jb
 jq:qb≠jb
def dZ (h:Hp) (p:FP) (F:Fl) (jb:Nat) (cs:List PV):Hp:=cv (aC h jb (.cells cs)) p F
section
variable {jb qa qb:Nat} (hj:Bh h p jb qa qb)
include hj
theorem Bh.fs (cs:List PV):pI (aC h jb (.cells cs)) p:=hj.fo.set _ _
theorem dH (cs:List PV):size (dZ h p F jb cs)=size h:=by rw[dZ,bS,aJ]
theorem Bh.qa' (cs:List PV):gL (aC h jb (.cells cs)) p qa 0 2:=⟨by rw[ay,cN (Ne.symm hj.ja)];exact hj.pa.get,hj.pa.n1,hj.pa.n2,hj.pa.n3⟩
theorem Bh.qb' (cs:List PV):gL (aC h jb (.cells cs)) p qb 2 2:=⟨by rw[ay,cN (Ne.symm hj.jq)];exact hj.pb.get,hj.pb.n1,hj.pb.n2,hj.pb.n3⟩
theorem Xz (cs:List PV):ay (dZ h p F jb cs) jb=some cs:=by
 rw[dZ,iU (hj.fs cs) hj.j1 hj.j2 hj.j3,ay,cM hj.lj];rfl
theorem ldj (cs:List PV) (k:Nat):ax 1 false (.ptr jb k) (dZ h p F jb cs)=cs[k]?:=by
 rw[ej,Xz hj,Option.ag,part,if_neg (by simp)]
theorem alQ (cs ds:List PV):cx (dZ h p F jb cs) jb ds=dZ h p F jb ds:=by
 rw[dZ,cx,Ag (hj.fs cs) hj.j1 hj.j2 hj.j3];unfold dZ;congr 1;simp[aC]
theorem stj {base:Nat} (hb:base≤jb) (cs:List PV) (k:Nat) (x:PV) (hx:scalar x=true) (hc:x.cells=[x]) (hk:k<cs.length):aS base 1 (.ptr jb k) x (dZ h p F jb cs)=some (dZ h p F jb (cs.set k x)):=by
 rw[dA,Xz hj,Option.ag,hc,if_pos ⟨rfl,by omega,by simp[hx],fun q=>absurd q (by omega)⟩,if_neg (by omega),alQ hj];rfl
theorem XA (cs:List PV):bJ (dZ h p F jb cs) (size h)=dZ h p F jb cs:=by
 have:=cT (h:=aC h jb (.cells cs)) (p:=p) (F:=F);rwa [aJ]at this
end
theorem aek {jb:Nat} {cs:List PV} (hg:ay h jb=some cs):cv h p F=dZ h p F jb cs:=by
 rw[dZ,jv (bq hg)]
structure Fq (F:Fl) (sz:Nat):Prop where
 fin:gO F
 bN:4≤F.bN.length∧F.bN.length≤64
 len:4*F.aj≤F.b.length
 sz:sz=2*F.aj
 small:F.aj≤4096
 pos:16≤F.aj
theorem Fq.of {F G:Fl} {sz:Nat} (hF:Fq F sz) (hg:gO G) (h1:G.b.length=F.b.length) (h2:G.bN.length=F.bN.length) (h3:G.aj=F.aj):Fq G sz :=
 ⟨hg,by rw[h2];exact hF.bN,by rw[h1,h3];exact hF.len,by rw[h3];exact hF.sz,by rw[h3];exact hF.small,by rw[h3];exact hF.pos⟩
theorem Fq.room {F:Fl} {sz:Nat} (hF:Fq F sz) {n:Nat} (hn:n≤2):n*F.aj+2*F.aj≤F.b.length:=by
 have h1:=Nat.mul_le_mul_right F.aj (show n+2≤4 by omega);rw[Nat.add_mul]at h1;have:=hF.len;omega
theorem gO.clear:∀ (n:Nat) {F:Fl} (s:Nat),gO F→s+n≤F.bN.length→gO (F.clear s n).2∧(F.clear s n).2.b.length=F.b.length∧(F.clear s n).2.bN.length=F.bN.length∧(F.clear s n).2.aj=F.aj
 | 0,F,s,hF,hs=>⟨hF,rfl,rfl,rfl⟩
 | n+1,F,s,hF,hs=>by
  obtain⟨h1,h2,h3,h4⟩:=hF.erase s (by omega);unfold Fl.clear;split
  ·obtain⟨g1,g2,g3,g4⟩:=gO.clear n (s+1) h1 (by rw[h3];omega)
   exact⟨g1,g2.trans h2,g3.trans h3,g4.trans h4⟩
  ·exact⟨h1,h2,h3,h4⟩
theorem gO.fill (A:Nat) (vs:Vs):∀ (ks:List Nat) {F:Fl} (a:Nat),gO F→gO (F.fill A a vs ks).2.2∧(F.fill A a vs ks).2.2.b.length=F.b.length∧(F.fill A a vs ks).2.2.bN=F.bN∧(F.fill A a vs ks).2.2.aj=F.aj
 | [],F,a,hF=>⟨hF,rfl,rfl,rfl⟩
 | k::r,F,a,hF=>by
  obtain⟨h1,h2,h3,h4⟩:=hF.lay (A+a) (dF (UInt8.ofNat k) (vB ((cP vs k).getD none)) false);unfold Fl.fill;split
  ·obtain⟨g1,g2,g3,g4⟩:=gO.fill A vs r (a+(7+(vB ((cP vs k).getD none)).length)) h1
   exact⟨g1,g2.trans h2,g3.trans h3,g4.trans h4⟩
  ·exact⟨h1,h2,h3,h4⟩
theorem Fq.program {F:Fl} {sz:Nat} (hF:Fq F sz) (i:Nat) (l:List UInt8):Fq (F.program i l).2 sz∧(F.program i l).2.aj=F.aj:=by
 obtain⟨h1,h2,h3,h4⟩:=hF.fin.program i l;exact⟨hF.of h1 h2 (by rw[h3]) h4,h4⟩
theorem Fq.lay {F:Fl} {sz:Nat} (hF:Fq F sz) (i:Nat) (l:List UInt8):Fq (F.lay i l).2 sz∧(F.lay i l).2.aj=F.aj:=by
 obtain⟨h1,h2,h3,h4⟩:=hF.fin.lay i l;exact⟨hF.of h1 h2 (by rw[h3]) h4,h4⟩
theorem Fq.clear {F:Fl} {sz:Nat} (hF:Fq F sz) (s n:Nat) (hs:s+n≤4):Fq (F.clear s n).2 sz∧(F.clear s n).2.aj=F.aj:=by
 obtain⟨h1,h2,h3,h4⟩:=hF.fin.clear n s (by have:=hF.bN;omega);exact⟨hF.of h1 h2 h3 h4,h4⟩
theorem Fq.fill {F:Fl} {sz:Nat} (hF:Fq F sz) (A a:Nat) (vs:Vs) (ks:List Nat):Fq (F.fill A a vs ks).2.2 sz∧(F.fill A a vs ks).2.2.aj=F.aj:=by
 obtain⟨h1,h2,h3,h4⟩:=hF.fin.fill A vs ks a;exact⟨hF.of h1 h2 (by rw[h3]) h4,h4⟩
def _root_.Go.Am.Fl.move (F:Fl) (sz:Nat) (J:Jn) (vs:Vs):Nat × Fl × Option Jn :=
 if sz<cY vs then(6,F,none) else if J.bM=4294967295#32 then(3,F,none) else
 let A:=2*(1-J.now)*F.aj
 let c:=F.clear (2*(1-J.now)) 2
 if c.1≠0 then(c.1,c.2,none) else
 let f:=c.2.fill A 8 vs (fz vs)
 if f.2.1≠0 then(f.2.1,f.2.2,none) else
 let w:=f.2.2.program (A+1) (br (J.bM+1#32))
 if w.1≠0 then(w.1,w.2,none) else
 let x:=w.2.program (A+0) [0]
 if x.1≠0 then(x.1,x.2,none) else(0,x.2,some ⟨1-J.now,f.1,J.bM+1#32⟩)
section
variable {jb qa qb:Nat} (hj:Bh h p jb qa qb)
include hj
theorem adz {base:Nat} (hb:base≤jb) {m m' sz to f fst:Nat} {J:Jn} {v6:PV} (n0:Nat) (e:Int) (he:e≠0) :
  adk base n0 (.ptr jb 0) (.eL m') (.int .i64 f) (.int .i64 to) v6 (.int .i64 e) (dZ h p F jb (jC qa qb sz J m))=some (.int .i64 e,dZ h p F jb (jC qa qb sz J m)):=by
 have e1:(e == 0)=false:=by simpa using he
 have e2:(e != 0)=true:=by simpa using he
 rw[adl];simp only[e1,e2,↓jY,jZ,j4,j5,simprocAttr,if_true,if_false,implies_true,forall_const]
theorem abm (cs ds:List PV):aC (dZ h p F jb cs) jb (.cells ds)=dZ h p F jb ds:=alQ hj cs ds
omit hj in
theorem amr (a:BitVec 32):binOp .add (uV a) (.int .u32 1)=some (uV (a+1#32)):=by
 show some (PV.int .u32 (IntKind.u32.wrap ((a.toNat:Int)+1)))=some (PV.int .u32 _);congr 2
theorem aeK {base:Nat} (hb:base≤jb) {m m' sz to f q fst:Nat} {J:Jn} (hq:gL (aC h jb (.cells (jC qa qb sz J m))) p q fst 2) (hF:Fq F sz) (ag1:fst≤2) (n0:Nat) :
  adk base n0 (.ptr jb 0) (.eL m') (.int .i64 f) (.int .i64 to) (.ptr q 0) (.int .i64 0) (dZ h p F jb (jC qa qb sz J m)) =
   some (.int .i64 ((F.program (fst*F.aj+0) [0]).1:Nat),dZ h p (F.program (fst*F.aj+0) [0]).2 jb (if(F.program (fst*F.aj+0) [0]).1=0 then jC qa qb sz ⟨to,f,J.bM+1#32⟩ m' else jC qa qb sz J m)):=by
 have hz:cH 1 false [(.int .u8 0)] 1 [(0,strip (.int .u8 0))]=some (.sl .full 1 [.int .u8 0]):=rfl;have hs2:=hF.small;have hs3:=hF.pos;have hlen:=hF.len;have hw:ai T base 28 [.ptr q 0,.int .i64 (0:Nat),.sl .full 1 [.int .u8 0]] (dZ h p F jb (jC qa qb sz J m))=some (.int .i64 ((F.program (fst*F.aj+0) [0]).1:Nat),dZ h p (F.program (fst*F.aj+0) [0]).2 jb (jC qa qb sz J m)) :=
  aaE (F:=F) (hj.fs _) hq base 0 [0] adX hF.fin (by simp;omega) (by
   have:=Nat.mul_le_mul_right F.aj (show fst+2≤4 by omega);omega)
 simp only[show((0:Nat):Int)=0 from rfl]at hw;have hnb:(jb<base)=False:=by simp;omega
 have gj:=fun(F:Fl) (cs:List PV)=>Xz (F:=F) hj cs
 have sj:=fun(F:Fl) (cs ds:List PV)=>abm (F:=F) hj cs ds
 have uc:∀ a,(uV a).cells=[uV a]:=fun _=>rfl
 have us:∀ a,scalar (uV a)=true:=fun _=>rfl
 rw[adl];simp only[hz,hw,↓jY,jZ,j4,j5,simprocAttr,if_true,if_false,implies_true,forall_const];generalize F.program (fst*F.aj+0) [0]=c
 by_cases hc:c.1=0
 ·have e1:((c.1:Int) != 0)=false:=by rw[hc];rfl
  rw[if_pos hc];simp only[e1,jC,gj,sj,hnb,uc,us,amr,↓jY,jZ,j4,j5,simprocAttr,if_true,if_false,implies_true,forall_const];rw[hc];rfl
 ·have e1:((c.1:Int) != 0)=true:=by simpa using hc
  rw[if_neg hc];simp only[e1,↓jY,jZ,j4,j5,simprocAttr,if_true,if_false,implies_true,forall_const]
omit hj in
theorem alb (base:Nat) {m:Nat} {vs:Vs} {H:Hp} (hm:bR H m=some (pN vs)) (hs:Small vs):gv (ai T base) 121 [.eL m] H=some (.int .i64 (cY vs:Nat),H):=by
 rw[DG,yU ann,adL hm hs];exact iT _ _
theorem TT {m:Nat} {vs:Vs} (cs:List PV) (hm:bR h m=some (pN vs)) (nm:m≠p.f∧m≠p.bb∧m≠p.wb) (hmj:m≠jb):bR (aC h jb (.cells cs)) m=some (pN vs)∧bR (dZ h p F jb cs) m=some (pN vs):=by
 have h1:bR (aC h jb (.cells cs)) m=some (pN vs):=by rw[jE (Ne.symm hmj)];exact hm
 exact⟨h1,by rw[dZ,FV (hj.fs cs) nm.1 nm.2.1 nm.2.2];exact h1⟩
theorem adA {base:Nat} (hb:base≤jb) {m m' sz to q fst:Nat} {J:Jn} {vs:Vs} (hm:bR h m'=some (pN vs)) (nm:m'≠p.f∧m'≠p.bb∧m'≠p.wb) (hmj:m'≠jb) (hs:Small vs) (hk:Keyed vs)
  (hq:gL (aC h jb (.cells (jC qa qb sz J m))) p q fst 2) (hF:Fq F sz) (hto:to=1-J.now) (lW:J.now≤1) (ag1:fst=2*to) (hld:(jC qa qb sz J m)[to]?=some (.ptr q 0)) :
  ai T base 99 [.ptr jb 0,.eL m'] (dZ h p F jb (jC qa qb sz J m)) =
   some (.int .i64 ((F.move sz J vs).1:Nat),dZ h p (F.move sz J vs).2.1 jb (match (F.move sz J vs).2.2 with | none=>jC qa qb sz J m | some J'=>jC qa qb sz J' m')):=by
 have hs2:=hF.small;have hs3:=hF.pos;have hsz:=hF.sz;have hlen:=hF.len;have hnb:(jb<base)=False:=by simp;omega
 have gj:=fun(F:Fl) (cs:List PV)=>Xz (F:=F) hj cs
 have sj:=fun(F:Fl) (cs ds:List PV)=>abm (F:=F) hj cs ds
 have gm:=fun(F:Fl)=>(TT (F:=F) hj (jC qa qb sz J m) hm nm hmj).2
 have hn:=fun(F:Fl)=>alb base (gm F) hs
 have l2:(jC qa qb sz J m)[2]?=some (.int .i64 (sz:Int)):=rfl;have l3:(jC qa qb sz J m)[3]?=some (.int .i64 (J.now:Int)):=rfl;have l4:(jC qa qb sz J m)[4]?=some (uV J.bM):=rfl;have hmax:binOp .eql (uV J.bM) (.int .u32 4294967295)=some (.bool (J.bM == 4294967295#32)):=aaM J.bM 4294967295#32;have hsub:IntKind.i64.wrap (1-(J.now:Int))=(to:Int):=by rw[wrap_small (by omega) (by omega)];omega
 have DY:=iN .i64 to 2 (by omega);have Kf:ai T base 55 [.ptr q 0] (dZ h p F jb (jC qa qb sz J m))=some (.int .i64 ((F.clear fst 2).1:Nat),dZ h p (F.clear fst 2).2 jb (jC qa qb sz J m)) :=
  GJ (hj.fs _) hq base hF.fin (by have:=Nat.mul_le_mul_right F.aj (show fst+2≤4 by omega);omega) (by have:=hF.bN;omega) (by have:=hF.bN;omega)
 unfold Fl.move;rw[S99];rw[show 2*(1-J.now)=fst by omega]
 by_cases c1:sz<cY vs
 ·have d1:decide (cY vs > sz)=true:=by simpa using c1
  rw[if_pos c1];simp only[hn,gj,l2,aaz,d1,↓jY,jZ,j4,j5,simprocAttr,if_true,if_false,implies_true,forall_const]<;>rfl
 rw[if_neg c1];have d1:decide (cY vs > sz)=false:=by simpa using c1
 by_cases c2:J.bM=4294967295#32
 ·have d2:(J.bM == 4294967295#32)=true:=by simpa using c2
  rw[if_pos c2];simp only[hn,gj,l2,l4,aaz,d1,hmax,d2,↓jY,jZ,j4,j5,simprocAttr,if_true,if_false,implies_true,forall_const]<;>rfl
 rw[if_neg c2];have d2:(J.bM == 4294967295#32)=false:=by simpa using c2
 simp only;obtain⟨fc,sc⟩:=hF.clear fst 2 (by omega);generalize hC:F.clear fst 2=C at *
 by_cases c3:C.1≠0
 ·have d3:((C.1:Int) != 0)=true:=by simpa using c3
  rw[if_pos c3];simp only[hn,gj,l2,l3,l4,aaz,d1,hmax,d2,hsub,DY,Nat.mul_one,hld,Kf,d3,↓jY,jZ,j4,j5,simprocAttr,if_true,if_false,implies_true,forall_const]
 rw[if_neg c3];have d3:((C.1:Int) != 0)=false:=by simpa using c3
 have hfl:ai T base 122 [.ptr q 0,.eL m'] (dZ h p C.2 jb (jC qa qb sz J m))=some (.cF [.int .i64 ((C.2.fill (fst*C.2.aj) 8 vs (fz vs)).1:Nat),.int .i64 ((C.2.fill (fst*C.2.aj) 8 vs (fz vs)).2.1:Nat)],dZ h p (C.2.fill (fst*C.2.aj) 8 vs (fz vs)).2.2 jb (jC qa qb sz J m)) :=
  aej (hj.fs _) hq (TT (F:=F) hj _ hm nm hmj).1 nm hs base fc.fin (by have:=Nat.mul_le_mul_right C.2.aj (show fst+2≤4 by omega);have:=fc.len;omega) (by rw[kY hk,sc];omega) (by rw[sc];omega)
 obtain⟨ff,sf⟩:=fc.fill (fst*C.2.aj) 8 vs (fz vs);rw[sc]at hfl ff sf;generalize hf:C.2.fill (fst*F.aj) 8 vs (fz vs)=f at *
 by_cases c4:f.2.1≠0
 ·have d4:((f.2.1:Int) == 0)=false:=by rw[beq_eq_false_iff_ne];omega
  have hend:=fun n0=>adz (F:=f.2.2) hj hb (m:=m) (m':=m') (sz:=sz) (to:=to) (f:=f.1) (fst:=fst) (J:=J) (v6:=.ptr q 0) n0 (f.2.1:Int) (by omega)
  rw[if_pos c4];simp only[hn,gj,l2,l3,l4,aaz,d1,hmax,d2,hsub,DY,Nat.mul_one,hld,Kf,d3,hfl,d4,hend,↓jY,jZ,j4,j5,simprocAttr,if_true,if_false,implies_true,forall_const]
 rw[if_neg c4];have d4:((f.2.1:Int) == 0)=true:=by rw[beq_iff_eq];omega
 have hpt:=aeb (h:=dZ h p f.2.2 jb (jC qa qb sz J m)) base (J.bM+1#32);have hwr:ai T base 28 [.ptr q 0,.int .i64 ((1:Nat):Int),.sl .no 1 (aP (br (J.bM+1#32)))] (dZ h p f.2.2 jb (jC qa qb sz J m))=some (.int .i64 ((f.2.2.program (fst*f.2.2.aj+1) (br (J.bM+1#32))).1:Nat),dZ h p (f.2.2.program (fst*f.2.2.aj+1) (br (J.bM+1#32))).2 jb (jC qa qb sz J m)) :=
  aaE (hj.fs _) hq base 1 (br (J.bM+1#32)) (pL (.inl rfl) _) ff.fin (by rw[sf];simp[br];omega) (by rw[sf];have:=ff.len;rw[sf]at this;have:=Nat.mul_le_mul_right F.aj (show fst+2≤4 by omega);omega)
 obtain⟨fw,sw⟩:=ff.program (fst*F.aj+1) (br (J.bM+1#32));rw[sf]at hwr sw;simp only[show((1:Nat):Int)=1 from rfl]at hwr;generalize hw:f.2.2.program (fst*F.aj+1) (br (J.bM+1#32))=W at *
 by_cases c5:W.1≠0
 ·have hend:=fun n0=>adz (F:=W.2) hj hb (m:=m) (m':=m') (sz:=sz) (to:=to) (f:=f.1) (fst:=fst) (J:=J) (v6:=.ptr q 0) n0 (W.1:Int) (by omega)
  rw[if_pos c5];simp only[hn,gj,l2,l3,l4,aaz,d1,hmax,d2,hsub,DY,Nat.mul_one,hld,Kf,d3,hfl,d4,hpt,amr,hwr,hend,↓jY,jZ,j4,j5,simprocAttr,if_true,if_false,implies_true,forall_const]
 rw[if_neg c5];have hend:=fun n0=>aeK (F:=W.2) hj hb (m:=m) (m':=m') (sz:=sz) (to:=to) (f:=f.1) (q:=q) (fst:=fst) (J:=J) hq fw (by omega) n0
 rw[sw]at hend;have c5':(W.1:Int)=0:=by omega
 simp only[hn,gj,l2,l3,l4,aaz,d1,hmax,d2,hsub,DY,Nat.mul_one,hld,Kf,d3,hfl,d4,hpt,amr,hwr,c5',hend,↓jY,jZ,j4,j5,simprocAttr,if_true,if_false,implies_true,forall_const];generalize W.2.program (fst*F.aj+0) [0]=X
 by_cases c6:X.1≠0
 ·rw[if_neg c6,if_pos c6]
 ·rw[if_pos (by omega),if_neg c6,hto]
  have:X.1=0:=by omega
  rw[this]
end
end Go.Am.Qd
namespace Go.Am.Qd
variable {h:Hp} {p:FP} {F:Fl} {jb qa qb:Nat} (hj:Bh h p jb qa qb)
include hj
theorem aa0 {base:Nat} (hb:base≤jb) {m m' sz:Nat} {J:Jn} {vs:Vs} (hm:bR h m'=some (pN vs)) (nm:m'≠p.f∧m'≠p.bb∧m'≠p.wb) (hmj:m'≠jb) (hs:Small vs) (hk:Keyed vs)
  (hF:Fq F sz) (lW:J.now≤1) :
  ai T base 99 [.ptr jb 0,.eL m'] (dZ h p F jb (jC qa qb sz J m)) =
   some (.int .i64 ((F.move sz J vs).1:Nat),dZ h p (F.move sz J vs).2.1 jb (match (F.move sz J vs).2.2 with | none=>jC qa qb sz J m | some J'=>jC qa qb sz J' m')):=by
 rcases Nat.le_one_iff_eq_zero_or_eq_one.1 lW with h0 | h0
 ·exact adA hj hb hm nm hmj hs hk (hj.qb' _) hF (by omega:1=1-J.now) lW rfl rfl
 ·exact adA hj hb hm nm hmj hs hk (hj.qa' _) hF (by omega:0=1-J.now) lW rfl rfl
theorem ael (base:Nat) {m sz:Nat} {J:Jn} (hf:J.fin≤sz) (hsz:sz≤1000000):ai T base 137 [.ptr jb 0] (dZ h p F jb (jC qa qb sz J m))=some (.int .i64 ((sz-J.fin:Nat):Int),dZ h p F jb (jC qa qb sz J m)):=by
 have gj:=fun(F:Fl) (cs:List PV)=>Xz (F:=F) hj cs
 have l2:(jC qa qb sz J m)[2]?=some (.int .i64 (sz:Int)):=rfl;have l5:(jC qa qb sz J m)[5]?=some (.int .i64 (J.fin:Int)):=rfl;have tr:=fun(F:Fl) (cs:List PV)=>XA (F:=F) hj cs
 rw[as7];simp (disch:=omega) only[dH hj,gj,l2,l5,aaN,tr,↓jY,jZ,j4,j5,simprocAttr,if_true,if_false,implies_true,forall_const]
def _root_.Go.Am.Fl.gi (F:Fl) (sz:Nat) (J:Jn) (b:List UInt8) (vs:Vs):Nat × Fl × Option Jn :=
 if sz<cY vs then(6,F,none) else if sz-J.fin<b.length+1 then F.move sz J vs else
 let c:=F.lay (2*J.now*F.aj+J.fin) b
 if c.1≠0 then(c.1,c.2,none) else(0,c.2,some ⟨J.now,J.fin+(b.length+1),J.bM⟩)
theorem acK {base:Nat} (hb:base≤jb) {m m' sz q fst:Nat} {J:Jn} {vs:Vs} (hm:bR h m'=some (pN vs)) (nm:m'≠p.f∧m'≠p.bb∧m'≠p.wb) (hmj:m'≠jb) (hs:Small vs) (hk:Keyed vs)
  (hF:Fq F sz) (lW:J.now≤1) (hfin:J.fin≤sz) {v:PV} {b:List UInt8} (hv:Bv v b) (hbl:b.length≤10000)
  (hq:gL (aC h jb (.cells (jC qa qb sz J m))) p q fst 2) (ag1:fst=2*J.now) (hld:(jC qa qb sz J m)[J.now]?=some (.ptr q 0)) :
  ai T base 118 [.ptr jb 0,v,.eL m'] (dZ h p F jb (jC qa qb sz J m)) =
   some (.int .i64 ((F.gi sz J b vs).1:Nat),dZ h p (F.gi sz J b vs).2.1 jb (match (F.gi sz J b vs).2.2 with | none=>jC qa qb sz J m | some J'=>jC qa qb sz J' m')):=by
 have hs2:=hF.small;have hs3:=hF.pos;have hsz:=hF.sz;have hlen:=hF.len;have hnb:(jb<base)=False:=by simp;omega
 have gj:=fun(F:Fl) (cs:List PV)=>Xz (F:=F) hj cs
 have sj:=fun(F:Fl) (cs ds:List PV)=>abm (F:=F) hj cs ds
 have gm:=fun(F:Fl)=>(TT (F:=F) hj (jC qa qb sz J m) hm nm hmj).2
 have hn:=fun(F:Fl)=>alb base (gm F) hs
 have l2:(jC qa qb sz J m)[2]?=some (.int .i64 (sz:Int)):=rfl;have l3:(jC qa qb sz J m)[3]?=some (.int .i64 (J.now:Int)):=rfl;have l5:(jC qa qb sz J m)[5]?=some (.int .i64 (J.fin:Int)):=rfl;have DY:=iN .i64 J.now 2 (by omega);have hrm:=ael (F:=F) hj base (m:=m) (J:=J) hfin (by omega);have hmv:=aa0 (F:=F) hj hb (m:=m) hm nm hmj hs hk hF lW;unfold Fl.gi;rw[as1]
 by_cases c1:sz<cY vs
 ·have d1:decide (cY vs > sz)=true:=by simpa using c1
  rw[if_pos c1];simp (disch:=omega) only[hv.len,fy,hn,gj,l2,aaz,d1,↓jY,jZ,j4,j5,simprocAttr,if_true,if_false,implies_true,forall_const]<;>rfl
 rw[if_neg c1];have d1:decide (cY vs > sz)=false:=by simpa using c1
 by_cases c2:sz-J.fin<b.length+1
 ·have d2:decide (b.length+1 > sz-J.fin)=true:=by simpa using c2
  rw[if_pos c2];simp (disch:=omega) only[hv.len,fy,hn,gj,l2,aaz,d1,hrm,d2,hmv,↓jY,jZ,j4,j5,simprocAttr,if_true,if_false,implies_true,forall_const]
 rw[if_neg c2];have d2:decide (b.length+1 > sz-J.fin)=false:=by simpa using c2
 have hly:ai T base 138 [.ptr q 0,.int .i64 (J.fin:Int),v] (dZ h p F jb (jC qa qb sz J m))=some (.int .i64 ((F.lay (fst*F.aj+J.fin) b).1:Nat),dZ h p (F.lay (fst*F.aj+J.fin) b).2 jb (jC qa qb sz J m)) :=
  adw (hj.fs _) hq base J.fin b hv hF.fin (by omega) (by have:=Nat.mul_le_mul_right F.aj (show fst+2≤4 by omega);omega)
 rw[show 2*J.now=fst by omega];simp only;generalize F.lay (fst*F.aj+J.fin) b=C at *
 by_cases c3:C.1≠0
 ·have d3:((C.1:Int) != 0)=true:=by simpa using c3
  rw[if_pos c3];simp (disch:=omega) only[hv.len,fy,hn,gj,l2,l3,l5,aaz,d1,hrm,d2,DY,Nat.mul_one,hld,hly,d3,↓jY,jZ,j4,j5,simprocAttr,if_true,if_false,implies_true,forall_const]
 rw[if_neg c3];have d3:((C.1:Int) != 0)=false:=by simpa using c3
 simp (disch:=omega) only[hv.len,fy,hn,gj,l2,l3,l5,aaz,d1,hrm,d2,DY,Nat.mul_one,hld,hly,d3,mJ,hnb,sj,↓jY,jZ,j4,j5,simprocAttr,if_true,if_false,implies_true,forall_const]<;>rfl
theorem adN {base:Nat} (hb:base≤jb) {m m' sz:Nat} {J:Jn} {vs:Vs} (hm:bR h m'=some (pN vs)) (nm:m'≠p.f∧m'≠p.bb∧m'≠p.wb) (hmj:m'≠jb) (hs:Small vs) (hk:Keyed vs)
  (hF:Fq F sz) (lW:J.now≤1) (hfin:J.fin≤sz) {v:PV} {b:List UInt8} (hv:Bv v b) (hbl:b.length≤10000) :
  ai T base 118 [.ptr jb 0,v,.eL m'] (dZ h p F jb (jC qa qb sz J m)) =
   some (.int .i64 ((F.gi sz J b vs).1:Nat),dZ h p (F.gi sz J b vs).2.1 jb (match (F.gi sz J b vs).2.2 with | none=>jC qa qb sz J m | some J'=>jC qa qb sz J' m')):=by
 rcases Nat.le_one_iff_eq_zero_or_eq_one.1 lW with h0 | h0
 ·exact acK hj hb hm nm hmj hs hk hF lW hfin hv hbl (hj.qa' _) (by omega:0=2*J.now) (by rw[h0];rfl)
 ·exact acK hj hb hm nm hmj hs hk hF lW hfin hv hbl (hj.qb' _) (by omega:2=2*J.now) (by rw[h0];rfl)
end Go.Am.Qd
namespace Go.Am.Qd
variable {h:Hp} {p:FP} {F:Fl} {jb qa qb:Nat} (hj:Bh h p jb qa qb)
include hj
def aaG (F:Fl) (key:Int) (n:Nat):Nat:=if F.down then 30 else if key<0∨32≤key then 1 else if 250<n then 2 else 0
theorem ab4 (base:Nat) {m sz:Nat} {J:Jn} (key:Int) {v:PV} {l:List UInt8} (hv:cB false v=some (.int .i64 (l.length:Int))) :
  ai T base 116 [.ptr jb 0,.int .i64 key,v] (dZ h p F jb (jC qa qb sz J m))=some (.int .i64 (aaG F key l.length:Int),dZ h p F jb (jC qa qb sz J m)):=by
 have gj:=fun(F:Fl) (cs:List PV)=>Xz (F:=F) hj cs
 have tr:=fun(F:Fl) (cs:List PV)=>XA (F:=F) hj cs
 have l0:(jC qa qb sz J m)[0]?=some (.ptr qa 0):=rfl;have l1:(jC qa qb sz J m)[1]?=some (.ptr qb 0):=rfl;have fa:∀ b,ai T b 87 [.ptr qa 0] (dZ h p F jb (jC qa qb sz J m))=some (.ptr p.f 0,dZ h p F jb (jC qa qb sz J m)):=fun b=>GI (hj.fs _) (hj.qa' _) b
 have fb:∀ b,ai T b 87 [.ptr qb 0] (dZ h p F jb (jC qa qb sz J m))=some (.ptr p.f 0,dZ h p F jb (jC qa qb sz J m)):=fun b=>GI (hj.fs _) (hj.qb' _) b
 have fd:∀ b,ai T b 41 [.ptr p.f 0] (dZ h p F jb (jC qa qb sz J m))=some (.bool F.down,dZ h p F jb (jC qa qb sz J m)):=fun b=>NK (hj.fs _) b
 have i0:ix (.int .i64 0) 2=some 0:=rfl;have i1:ix (.int .i64 1) 2=some 1:=rfl;unfold aaG;rw[asZ];cases hd:F.down with
 | true =>
  rw[hd]at fd;simp only[dH hj,gj,i0,i1,Nat.zero_mul,Nat.mul_one,l0,l1,fa,fb,fd,tr,↓jY,jZ,j4,j5,Nat.reduceAdd,Nat.reduceSub,Nat.reduceMul,Nat.reduceLeDiff,Nat.reduceLT,Nat.reduceEqDiff,Nat.reduceBEq,reduceIte,reduceCtorEq,Int.reduceBEq,Int.reduceEq,Int.reduceLT,Int.reduceLE,Int.reduceGT,Int.reduceGE,Int.reduceAdd,Int.reduceSub,Int.reduceNeg,Int.reduceBNe,ite_true,ite_false,if_true,if_false,implies_true,forall_const]<;>rfl
 | false =>
  rw[hd]at fd;simp only[Bool.false_eq_true,if_false]
  by_cases h1:key<0
  ·have d1:decide (key<0)=true:=by simpa using h1
   rw[if_pos (.inl h1)];simp only[dH hj,gj,i0,i1,Nat.zero_mul,Nat.mul_one,l0,l1,fa,fb,fd,d1,tr,↓jY,jZ,j4,j5,Nat.reduceAdd,Nat.reduceSub,Nat.reduceMul,Nat.reduceLeDiff,Nat.reduceLT,Nat.reduceEqDiff,Nat.reduceBEq,reduceIte,reduceCtorEq,Int.reduceBEq,Int.reduceEq,Int.reduceLT,Int.reduceLE,Int.reduceGT,Int.reduceGE,Int.reduceAdd,Int.reduceSub,Int.reduceNeg,Int.reduceBNe,ite_true,ite_false,if_true,if_false,implies_true,forall_const]<;>rfl
  have d1:decide (key<0)=false:=by simpa using h1
  by_cases h2:32≤key
  ·have d2:decide (key≥32)=true:=by simpa using h2
   rw[if_pos (.inr h2)];simp only[dH hj,gj,i0,i1,Nat.zero_mul,Nat.mul_one,l0,l1,fa,fb,fd,d1,d2,tr,↓jY,jZ,j4,j5,Nat.reduceAdd,Nat.reduceSub,Nat.reduceMul,Nat.reduceLeDiff,Nat.reduceLT,Nat.reduceEqDiff,Nat.reduceBEq,reduceIte,reduceCtorEq,Int.reduceBEq,Int.reduceEq,Int.reduceLT,Int.reduceLE,Int.reduceGT,Int.reduceGE,Int.reduceAdd,Int.reduceSub,Int.reduceNeg,Int.reduceBNe,ite_true,ite_false,if_true,if_false,implies_true,forall_const]<;>rfl
  have d2:decide (key≥32)=false:=by simpa using h2
  rw[if_neg (by omega)]
  by_cases h3:250<l.length
  ·have d3:decide ((l.length:Int) > 250)=true:=by simp;omega
   rw[if_pos h3];simp only[dH hj,gj,i0,i1,Nat.zero_mul,Nat.mul_one,l0,l1,fa,fb,fd,d1,d2,hv,d3,tr,↓jY,jZ,j4,j5,Nat.reduceAdd,Nat.reduceSub,Nat.reduceMul,Nat.reduceLeDiff,Nat.reduceLT,Nat.reduceEqDiff,Nat.reduceBEq,reduceIte,reduceCtorEq,Int.reduceBEq,Int.reduceEq,Int.reduceLT,Int.reduceLE,Int.reduceGT,Int.reduceGE,Int.reduceAdd,Int.reduceSub,Int.reduceNeg,Int.reduceBNe,ite_true,ite_false,if_true,if_false,implies_true,forall_const]<;>rfl
  ·have d3:decide ((l.length:Int) > 250)=false:=by simp;omega
   rw[if_neg h3];simp only[dH hj,gj,i0,i1,Nat.zero_mul,Nat.mul_one,l0,l1,fa,fb,fd,d1,d2,hv,d3,tr,↓jY,jZ,j4,j5,Nat.reduceAdd,Nat.reduceSub,Nat.reduceMul,Nat.reduceLeDiff,Nat.reduceLT,Nat.reduceEqDiff,Nat.reduceBEq,reduceIte,reduceCtorEq,Int.reduceBEq,Int.reduceEq,Int.reduceLT,Int.reduceLE,Int.reduceGT,Int.reduceGE,Int.reduceAdd,Int.reduceSub,Int.reduceNeg,Int.reduceBNe,ite_true,ite_false,if_true,if_false,implies_true,forall_const]<;>rfl
omit hj in
theorem G4 (l:List UInt8):bytesOf (aP l)=some l:=by
 induction l with
 | nil=>rfl
 | cons c l ih=>simp only[aP,List.map_cons]at ih ⊢;rw[bytesOf,ih];simp
omit hj in
theorem LR {v:PV} {l:List UInt8} (hv:Rd h v l) (hs:∀ s,v≠.str s):fL h v=some (.str l):=by
 have:fL h v=(elems h v).ah fun es=>(bytesOf es).ah fun s=>some (.str s):=by
  cases v<;>first | rfl | exact(hs _ rfl).elim
 rw[this,hv.el,Option.ag,G4];rfl
omit hj in
theorem Rp {v:PV} {l:List UInt8} (hv:Rd h v l):∀ s,v≠.str s:=by
 rintro s rfl;have:=hv.len;cases this
omit hj in
theorem AL (base:Nat) {v w:PV} {l l':List UInt8} (hv:Rd h v l) (hw:Rd h w l'):ai T base 67 [v,w] h=some (.bool (l == l'),h):=by
 have h1:=LR hv (Rp hv);have h2:=LR hw (Rp hw);rw[S67];simp only[h1,h2,bL,↓jY,jZ,j4,j5,Nat.reduceAdd,Nat.reduceSub,Nat.reduceMul,Nat.reduceLeDiff,Nat.reduceLT,Nat.reduceEqDiff,Nat.reduceBEq,reduceIte,reduceCtorEq,Int.reduceBEq,Int.reduceEq,Int.reduceLT,Int.reduceLE,Int.reduceGT,Int.reduceGE,Int.reduceAdd,Int.reduceSub,Int.reduceNeg,Int.reduceBNe,ite_true,ite_false,if_true,if_false,implies_true,forall_const]
end Go.Am.Qd
namespace Go.Am.Qd
variable {h:Hp}
theorem G5 (base:Nat) (o:Own) (l:List UInt8) {w:PV} {m:List UInt8} (hw:Rd h w m):ai T base 91 [.sl o 1 (aP l),w] h=some (.bool (decide (m.length≤l.length)&&(l.take m.length == m)),h):=by
 have e0:cB false (.sl o 1 (aP l))=some (.int .i64 (l.length:Int)):=by rw[fe,aM]
 have e1:binOp .geq (.int .i64 (l.length:Int)) (.int .i64 (m.length:Int))=some (.bool (decide (m.length≤l.length))):=by
  show some (PV.bool (decide ((l.length:Int)≥(m.length:Int))))=_;rw[DM]
 have ff:∀ b:Bool,bk false false (size h) [.bool b] h=some (.bool b,h):=fun b=>by
  rw[cc];show some (PV.bool b,bJ h (size h))=_;rw[bL]
 by_cases hm:m.length≤l.length
 ·obtain⟨o2,p2,s2⟩:=slc (o:=o) l (lo:=none) (hi:=some (.int .i64 (m.length:Int))) (a:=0) (b:=m.length) rfl (fV l.length .i64 m.length hm)
  have e2:(l.drop 0).take (m.length-0)=l.take m.length:=by simp
  rw[e2]at s2;have hq:=fun b=>AL (h:=h) b (jS p2 (l.take m.length)) hw
  rw[S91,decide_eq_true hm,Bool.true_and];simp only[e0,hw.len,e1,decide_eq_true hm,s2,hq,ff,↓jY,jZ,j4,j5,simprocAttr,if_true,if_false,implies_true,forall_const]
 ·rw[S91,decide_eq_false hm,Bool.false_and]
  simp only[e0,hw.len,e1,decide_eq_false hm,ff,↓jY,jZ,j4,j5,simprocAttr,if_true,if_false,implies_true,forall_const]
end Go.Am.Qd
namespace Go.Am.Qd
variable {h:Hp}
structure qx where
 cu:BitVec 32
 size:Nat
 name:List UInt8
 dg:List UInt8
def iV:qx:=⟨0,0,[],List.replicate 32 0⟩
def cr (x:qx):List PV:=uV x.cu::.int .i64 (x.size:Int)::.str x.name::aP x.dg
def bn:List UInt8:=[79,84,80,88]
def cz (l:List UInt8):qx × Nat :=
 if l.length<64 then(iV,20)
 else if l.take 4≠bn then(iV,50)
 else if lP (l.take 64)=false then(iV,51)
 else if cL (ji ((l.drop 12).take 16))=false∨1048576<(jl (l.drop 8)).toNat then(iV,20)
 else(⟨jl (l.drop 4),(jl (l.drop 8)).toNat,ji ((l.drop 12).take 16),(l.drop 28).take 32⟩,0)
theorem eD {x:qx} (hx:x.dg.length=32):(cr x).length=35:=by simp[cr,aM,hx]
theorem tX (x:qx):(cr x).all scalar=true:=by
 show(scalar (uV x.cu)&&(scalar (.int .i64 (x.size:Int))&&(scalar (.str x.name)&&(aP x.dg).all scalar)))=true;rw[gM];rfl
theorem G6 (l:List UInt8):(cz l).1.dg.length=32:=by
 unfold cz;split
 ·rfl
 ·split
  ·rfl
  ·split
   ·rfl
   ·split
    ·rfl
    ·show((l.drop 28).take 32).length=32
     rw[List.length_take,List.length_drop];omega
def rF (l:List UInt8):Nat→Nat
 | 0=>12
 | n+1=>if l.getD (12+n) 0=0 then rF l n else 13+n
theorem DZ (l:List UInt8):∀ n,12≤rF l n∧rF l n≤12+n
 | 0=>⟨Nat.le_refl _,Nat.le_refl _⟩
 | n+1=>by
  have:=DZ l n;unfold rF;split<;>omega
theorem AM (l:List UInt8):∀ n j,rF l n≤j→j<12+n→l.getD j 0=0
 | 0,j,h1,h2=>by have:rF l 0=12:=rfl;omega
 | n+1,j,h1,h2=>by
  unfold rF at h1;split at h1
  ·rename_i q
   by_cases hj:j=12+n
   ·rw[hj];exact q
   ·exact AM l n j h1 (by omega)
  ·omega
theorem LS (l:List UInt8):∀ n,12<rF l n→l.getD (rF l n-1) 0≠0
 | 0,h1=>by have:rF l 0=12:=rfl;omega
 | n+1,h1=>by
  unfold rF at h1 ⊢;split
  ·rename_i q
   rw[if_pos q]at h1;exact LS l n h1
  ·rename_i q
   rw[show 13+n-1=12+n by omega];exact q
theorem N2 {l:List UInt8} (hl:28≤l.length):(l.drop 12).take (rF l 16-12)=ji ((l.drop 12).take 16):=by
 have hb:=DZ l 16;have hk:=Lib.trimRightB_take ((l.drop 12).take 16) 0 (rF l 16-12) (by rw[List.length_take,List.length_drop];omega) (fun j b hj hb2=>by
  have hlt:=(List.getElem?_eq_some_iff.1 hb2).1;rw[List.length_take,List.length_drop]at hlt;have:=AM l 16 (12+j) (by omega) (by omega);rw[List.getElem?_take_of_lt (by omega),List.getElem?_drop]at hb2;rw[List.getD_eq_getElem?_getD,hb2]at this;exact this) (fun b h0 hb2=>by
  have:=LS l 16 (by omega);rw[List.getElem?_take_of_lt (by omega),List.getElem?_drop,show 12+(rF l 16-12-1)=rF l 16-1 by omega]at hb2;rw[List.getD_eq_getElem?_getD,hb2]at this;exact this)
 unfold ji;rw[hk,List.take_take,Nat.min_eq_left (by omega)]
end Go.Am.Qd
namespace Go.Am.Qd
variable {h:Hp}
theorem Ko (H:Hp) (x:qx) (e:Nat):bk false false (size h) [.agg (cr x),.int .i64 (e:Int)] (ext h H)=some (.cF [.agg (cr x),.int .i64 (e:Int)],h):=by
 have fu:∀ (l:List UInt8) (n:Nat) (H:Hp),fN n H (aP l)=some (aP l):=by
  intro l n H;induction l with
  | nil=>rfl
  | cons a l ih=>show fN n H (.int .u8 a.toNat::aP l)=_;rw[fN,ih];rfl
 have hf:gY (size h) (ext h H) (.agg (cr x))=some (.agg (cr x)):=by
  rw[Da];have:fN (size h) (ext h H) (cr x)=some (cr x):=by
   rw[cr,ee,show gY (size h) (ext h H) (uV x.cu)=some (uV x.cu) from rfl,Option.ag,ee,rW,Option.ag,ee,KX,Option.ag,fu];rfl
  rw[this];rfl
 rw[cc,ee,hf,Option.ag,ee,rW,Option.ag,jN,Option.ag,Option.ag,Option.ag,cI];have hb:belows (size h) [.agg (cr x),.int .i64 (e:Int)]=true:=by
  have:belows (size h) (cr x)=true:=by
   show(below (size h) (uV x.cu)&&(below (size h) (.int .i64 (x.size:Int))&&(below (size h) (.str x.name)&&belows (size h) (aP x.dg))))=true;rw[mw];rfl
  show(belows (size h) (cr x)&&_)=true;rw[this];rfl
 rw[if_pos hb];rfl
section
variable {v0:PV} {l:List UInt8} (DY:∀ (i:Nat) (c:UInt8),l[i]?=some c→∀ g,∃ a,cW v0 (.int .i64 (i:Int)) 1=some a∧ax 1 false a (ext h g)=some (.int .u8 (c.toNat:Int))) (hl:64≤l.length)
include DY hl
end
end Go.Am.Qd
namespace Go.Am.Qd
variable {h:Hp}
theorem abp (a:BitVec 32):ct (uV a) .i64=some (.int .i64 (a.toNat:Int)):=by
 show some (PV.int .i64 (IntKind.i64.wrap (a.toNat:Int)))=_;have:=a.isLt;rw[wrap_small (by omega) (by omega)]
theorem UO (a:BitVec 32):binOp .gtr (uV a) (.int .u32 1048576)=some (.bool (decide (1048576<a.toNat))):=by
 show some (PV.bool (decide ((a.toNat:Int) > 1048576)))=_;congr 2;exact decide_eq_decide.2 (by omega)
theorem Rq (x:qx) (n:Nat):(cr x).set 1 (.int .i64 (n:Int))=cr { x with size:=n }:=rfl
theorem Rr (x:qx) (s:List UInt8):(cr x).set 2 (.str s)=cr { x with name:=s }:=rfl
theorem TW (x:qx) (a:BitVec 32):(cr x).set 0 (uV a)=cr { x with cu:=a }:=rfl
theorem jT:cr iV=Ec:=rfl
end Go.Am.Qd
namespace Go.Am.Qd
variable {h:Hp}
end Go.Am.Qd
namespace Go.Am.Qd
variable {h:Hp}
end Go.Am.Qd
namespace Go.Am.Qd
variable {h:Hp}
theorem sY {H:Hp} {f:Bool} {b:Nat} {l:List UInt8} (hb:ay H b=some (aP l)):Rd H (.bX f b 0 l.length 1) l:=by
 refine⟨rfl,fun k i c hc=>?_,?_,.inl rfl⟩
 ·have hi:=(List.getElem?_eq_some_iff.1 hc).1
  refine⟨.ptr b (0+i*1),?_,?_⟩
  ·rw[tA,if_pos rfl,iN k i _ hi,Option.ag]
  ·rw[ej,hb,Option.ag,part,if_neg (by simp),Nat.mul_one,Nat.zero_add,qg,hc];rfl
 ·rw[mV,hb,Option.ag,if_pos ⟨by rw[aM];omega,by rw[sV];exact lN _⟩,sV]
  simp
theorem Rs {l m:List UInt8} (hlm:∀ k,k<4→l.getD k 0=m.getD k 0):jl l=jl m:=by
 simp only[jl,NQ,hlm 0 (by omega),hlm (0+1) (by omega),hlm (0+1+1) (by omega),hlm (0+1+1+1) (by omega)]
theorem AN {l:List UInt8} {n a:Nat} (ha:a+4≤n):jl ((l.take n).drop a)=jl (l.drop a):=by
 refine Rs fun k hk=>?_
 rw[List.getD_eq_getElem?_getD,List.getD_eq_getElem?_getD,List.getElem?_drop,List.getElem?_drop,List.getElem?_take_of_lt (by omega)]
theorem yI {l:List UInt8} {n a k:Nat} (ha:a+k≤n):((l.take n).drop a).take k=(l.drop a).take k:=by
 rw[List.drop_take,List.take_take];congr 1;omega
theorem LU {x:qx} (hx:x.dg.length=32) {d:List UInt8} (hd:d.length=32):bE (cr x) 3 (aP d)=cr { x with dg:=d }:=by
 show bE ([uV x.cu,.int .i64 (x.size:Int),.str x.name]++aP x.dg) ([uV x.cu,.int .i64 (x.size:Int),.str x.name].length+0) (aP d)=_;rw[nR,pM _ _ _ (by omega)];simp[cr,List.drop_of_length_le,hx,hd]
theorem Kq (base:Nat) (o:Own) (l:List UInt8) (hl:l.length≤800000):ai T base 60 [.sl o 1 (aP l)] h=some (.cF [.agg (cr (cz l).1),.int .i64 ((cz l).2:Int)],h):=by
 have e0:cB false (.sl o 1 (aP l))=some (.int .i64 (l.length:Int)):=by rw[fe,aM]
 have fin:∀ (H:Hp) (x:qx) (e:Nat),bk false false (size h) [.agg (cr x),.int .i64 (e:Int)] (ext h H)=some (.cF [.agg (cr x),.int .i64 (e:Int)],h):=fun H x e=>Ko H x e
 have f20:=fun H x=>fin H x 20;have f50:=fun H x=>fin H x 50;have f51:=fun H x=>fin H x 51;have f0:=fun H x=>fin H x 0
 simp only[show((20:Nat):Int)=20 from rfl,show((50:Nat):Int)=50 from rfl,show((51:Nat):Int)=51 from rfl,show((0:Nat):Int)=0 from rfl]at f20 f50 f51 f0;have gk:∀ (X:List PV) (r:Hp),ay (ext h (.cells X::r)) (size h)=some X:=fun X r=>by rw[aQ];rfl
 have sk:∀ (X:gW) (Y:gW) (r:Hp),aC (ext h (X::r)) (size h) Y=ext h (Y::r):=fun X Y r=>by rw[eu (Nat.le_refl _)];simp
 have st0:∀ (x y:qx) (r:Hp),x.dg.length=32→y.dg.length=32→aS (size h) 35 (.ptr (size h) 0) (.agg (cr y)) (ext h (.cells (cr x)::r))=some (ext h (.cells (cr y)::r)):=fun x y r hx hy=>by
  rw[jh (gk _ _) (Nat.le_refl _) (eD hx) (eD hy) (tX _),sk]
 have Bg:=fun r=>st0 iV iV r rfl rfl
 have rs0:∀ (x:qx) (r:Hp),x.dg.length=32→qS (.ptr (size h) 0) (ext h (.cells (cr x)::r)) 35 true=some (.agg (cr x)):=fun x r hx=>AH (gk _ _) (eD hx)
 have rs1:=fun r=>rs0 iV r rfl
 unfold cz;rw[S60,←jT,ek,e0,Option.ag];have hb:dz (cr iV) []=some (.agg (cr iV)):=rfl
 by_cases HO:l.length<64
 ·have c1:binOp .lss (.int .i64 (l.length:Int)) (.int .i64 64)=some (.bool true):=by
   show some (PV.bool (decide ((l.length:Int)<64)))=_;rw[decide_eq_true (by omega)]
  rw[if_pos HO,c1,Option.ag,aR];simp only[hb,Bg,rs1,f20,Option.ag];rfl
 ·have c1:binOp .lss (.int .i64 (l.length:Int)) (.int .i64 64)=some (.bool false):=by
   show some (PV.bool (decide ((l.length:Int)<64)))=_;rw[decide_eq_false (by omega)]
  have mg:aP bn=[(.int .u8 79),(.int .u8 84),(.int .u8 80),(.int .u8 88)]:=rfl;have sb1:cV (size h) (ext h [.cells (cr iV)]) (.fC [(.int .u8 79),(.int .u8 84),(.int .u8 80),(.int .u8 88)]) []=some (.bX true (size h+1) 0 4 1,ext h [.cells (cr iV),.cells (aP bn)]):=by
   rw[jJ,fA,aW];rfl
  have gm:ay (ext h [.cells (cr iV),.cells (aP bn)]) (size h+1)=some (aP bn):=J9 _ _;have mk:cV (size h) (ext h [.cells (cr iV),.cells (aP bn)]) .mark [.bX true (size h+1) 0 4 1]=some (.bX true (size h+1) 0 4 1,ext h [.cells (cr iV),.cells (aP bn)]):=by
   rw[qn,gm];rfl
  have hp:=G5 (h:=ext h [.cells (cr iV),.cells (aP bn)]) (size h) o l (w:=.bX true (size h+1) 0 4 1) (m:=bn) (sY gm);have hpe:(decide (bn.length≤l.length)&&(l.take bn.length == bn))=(l.take 4 == bn):=by
   rw[decide_eq_true (show bn.length≤l.length from by show 4≤_;omega)];rfl
  rw[hpe]at hp;rw[if_neg HO,c1,Option.ag,aL,sb1,az,mk,az,hp,az]
  by_cases hm:l.take 4≠bn
  ·rw[if_pos hm,show(l.take 4 == bn)=false from beq_false_of_ne hm,show unOp .not (.bool false)=some (.bool true) from rfl,Option.ag,aR]
   simp only[hb,Bg,rs1,f50,Option.ag];rfl
  ·have hme:l.take 4=bn:=Classical.not_not.1 hm
   rw[if_neg hm,show(l.take 4 == bn)=true from by rw[hme];rfl,show unOp .not (.bool true)=some (.bool false) from rfl,Option.ag,aL];have bz:∀ k:Nat,oZ k 0 none=some 0:=fun _=>rfl
   have be:∀ k:Nat,oZ k k none=some k:=fun _=>rfl
   have bh:oZ l.length l.length (some (.int .i64 ((64:Nat):Int)))=some 64:=(gK _ _ _).trans (fV _ .i64 _ (by omega));obtain⟨o1,p1,s1⟩:=slc (o:=o) l (bz 64) bh;rw[show(l.drop 0).take (64-0)=l.take 64 by simp]at s1;have l64:(l.take 64).length=64:=by rw[List.length_take];omega
   obtain⟨x,q1,q2⟩:=NR (h:=ext h [.cells (cr iV),.cells (aP bn)]) (size h) p1 (l.take 64) (by omega);simp only[show((64:Nat):Int)=64 from rfl]at s1;have x1:aE (.cF [x,.bool (lP (l.take 64))]) 1=some (.bool (lP (l.take 64))):=rfl;have x0:aE (.cF [x,.bool (lP (l.take 64))]) 0=some x:=rfl;rw[s1,Option.ag,q1,az,x0,Option.ag,x1,Option.ag];cases ho2:lP (l.take 64) with
   | false =>
    rw[if_pos rfl,show unOp .not (.bool false)=some (.bool true) from rfl,Option.ag,aR];simp only[hb,Bg,rs1,f51,Option.ag];rfl
   | true =>
    rw[if_neg (by simp),show unOp .not (.bool true)=some (.bool false) from rfl,Option.ag,aL];have bl:∀ k b:Nat,k≤b→oZ b 0 (some (.int .i64 (k:Int)))=some k:=fun k b hk=>(gK _ _ _).trans (fV _ .i64 _ hk)
    have bu:∀ k:Nat,k≤64→oZ (l.take 64).length (l.take 64).length (some (.int .i64 (k:Int)))=some k:=fun k hk=>(gK _ _ _).trans (fV _ .i64 _ (by omega))
    obtain⟨o2,p2,s2⟩:=slc (o:=o1) (l.take 64) (bl 4 _ (by omega)) (be _);obtain⟨o3,p3,s3⟩:=slc (o:=o1) (l.take 64) (bl 8 _ (by omega)) (be _);obtain⟨o4,p4,s4⟩:=slc (o:=o1) (l.take 64) (bl 12 28 (by omega)) (bu 28 (by omega));obtain⟨o5,p5,s5⟩:=slc (o:=o1) (l.take 64) (bl 28 60 (by omega)) (bu 60 (by omega));have ed:∀ k,((l.take 64).drop k).take (64-k)=(l.take 64).drop k:=fun k=>List.take_of_length_le (by rw[List.length_drop,l64];exact Nat.le_refl _)
    rw[l64,ed]at s2 s3;rw[show 28-12=16 from rfl,yI (by omega)]at s4;rw[show 60-28=32 from rfl,yI (by omega)]at s5;simp only[show((4:Nat):Int)=4 from rfl,show((8:Nat):Int)=8 from rfl,show((12:Nat):Int)=12 from rfl,show((28:Nat):Int)=28 from rfl,show((60:Nat):Int)=60 from rfl]at s2 s3 s4 s5;have g3:∀ X Y Z:List PV,ay (ext h [.cells X,.cells Y,.cells Z]) (size h+2)=some Z:=fun X Y Z=>by rw[eZ];rfl
    have u3:∀ X Y Z W:gW,aC (ext h [X,Y,Z]) (size h+2) W=ext h [X,Y,W]:=fun X Y Z W=>by rw[eu (by omega)];simp
    have str:∀ (x:qx) (off:Nat) (v:PV),x.dg.length=32→scalar v=true→v.cells=[v]→off<35→aS (size h) 1 (.ptr (size h+2) off) v (ext h [.cells (cr iV),.cells (aP bn),.cells (cr x)])=some (ext h [.cells (cr iV),.cells (aP bn),.cells ((cr x).set off v)]):=fun x off v hx hs hc ho=>by
     rw[mL (g3 _ _ _) (by omega) hs hc (by rw[eD hx];exact ho),u3]
    have fa:∀ k,aA (.ptr (size h+2) 0) k=some (.ptr (size h+2) (0+k)):=fun _=>rfl
    simp only[Nat.zero_add]at fa;have r4:=fun H:Hp=>aaJ (h:=H) (size h) (jS p2 ((l.take 64).drop 4)) (by rw[List.length_drop];omega)
    have r8:=fun H:Hp=>aaJ (h:=H) (size h) (jS p3 ((l.take 64).drop 8)) (by rw[List.length_drop];omega)
    rw[AN (by omega)]at r4 r8;have aq1:((l.drop 12).take 16).length=16:=by rw[List.length_take,List.length_drop];omega
    have hnt:(ji ((l.drop 12).take 16)).length≤16:=by
     rw[←N2 (by omega),List.length_take,List.length_drop];have:=DZ l 16;omega
    have rn:=fun H:Hp=>NZ (h:=H) (size h) o4 ((l.drop 12).take 16) (by omega) (by omega)
    have y0:∀ a:BitVec 32,aE (.cF [uV a,.bool true]) 0=some (uV a):=fun _=>rfl
    have y1:∀ a:BitVec 32,aE (.cF [uV a,.bool true]) 1=some (.bool true):=fun _=>rfl
    have z0:∀ (s:List UInt8) (b:Bool),aE (.cF [.str s,.bool b]) 0=some (.str s):=fun _ _=>rfl
    have z1:∀ (s:List UInt8) (b:Bool),aE (.cF [.str s,.bool b]) 1=some (.bool b):=fun _ _=>rfl
    have t1:=str iV 0 (uV (jl (l.drop 4))) rfl rfl rfl (by omega);rw[TW]at t1;have sz2:size (ext h [.cells (cr iV),.cells (aP bn)])=size h+2:=by rw[aW];rfl
    rw[ek,sz2,fA];simp only[List.cons_append,List.nil_append,s2,r4,y0,y1,fa,t1,s3,r8,s4,rn,z0,z1,Option.ag,az];generalize hnm:ji ((l.drop 12).take 16)=nm at hnt ⊢;generalize hv4:jl (l.drop 4)=v4;generalize hv8:jl (l.drop 8)=v8;have w1:aq (.bool true) false=some false:=rfl;have w1':aq (.bool false) false=some true:=rfl;have w2:∀ x:Option PV,au false x (some .undef)=some .undef:=fun _=>rfl
    have w2':∀ x:Option PV,au true x (some .undef)=x:=fun _=>rfl
    have n1:unOp .not (.bool false)=some (.bool true):=rfl;have n2:unOp .not (.bool true)=some (.bool false):=rfl;have bs:∀ x:Option PV,x.ah some=x:=fun x=>by cases x<;>rfl
    cases hn:cL nm with
    | false =>
     rw[if_pos (.inl rfl)];simp only[n1,w1,w2,aR,hb,Bg,rs1,f20,Option.ag,az];rfl
    | true =>
     by_cases hz:1048576<v8.toNat
     ·rw[if_pos (.inr hz)]
      simp only[n2,w1',w2',UO,bs,decide_eq_true hz,aR,aL,hb,Bg,rs1,f20,Option.ag,az];rfl
     ·rw[if_neg (by simp[hz])]
      have t2:=str { iV with cu:=v4 } 1 (.int .i64 ((v8.toNat:Nat):Int)) rfl rfl rfl (by omega);rw[Rq]at t2;have t3:=str { iV with cu:=v4,size:=v8.toNat } 2 (.str nm) rfl rfl rfl (by omega);rw[Rr]at t3;have d32:((l.drop 28).take 32).length=32:=by rw[List.length_take,List.length_drop];omega
      generalize (l.drop 28).take 32=dg at s5 d32 ⊢;have sp:cV (size h) (ext h [.cells (cr iV),.cells (aP bn),.cells (cr { iV with cu:=v4,size:=v8.toNat,name:=nm })]) (.jt 1 32 false false) [.ptr (size h+2) 3]=some (.bX true (size h+2) 3 32 1,ext h [.cells (cr iV),.cells (aP bn),.cells (cr { iV with cu:=v4,size:=v8.toNat,name:=nm })]):=by
       rw[Cc,xZ,g3,Option.ag,if_pos (by rw[eD rfl];omega),sN,Option.ag,sN,Option.ag,if_neg (by omega)];rfl
      have cp:copyV (size h) (.bX true (size h+2) 3 32 1) (.sl o5 1 (aP (dg))) (ext h [.cells (cr iV),.cells (aP bn),.cells (cr { iV with cu:=v4,size:=v8.toNat,name:=nm })])=some (.int .i64 32,ext h [.cells (cr iV),.cells (aP bn),.cells (cr { cu:=v4,size:=v8.toNat,name:=nm,dg:=dg })]):=by
       rw[kX,jR,Option.ag,g3,Option.ag,if_pos ⟨rfl,by rw[eD rfl];omega,gM _,fun _=>by rw[sW,mw]⟩,sW,List.take_of_length_le (by omega),LU rfl d32,aM,d32];show some (_,aC _ _ (.cells _))=_;rw[u3];rfl
      have ldx:ax 35 true (.ptr (size h+2) 0) (ext h [.cells (cr iV),.cells (aP bn),.cells (cr { cu:=v4,size:=v8.toNat,name:=nm,dg:=dg })])=some (.agg (cr { cu:=v4,size:=v8.toNat,name:=nm,dg:=dg })):=rC (g3 _ _ _) (eD d32);have st9:=fun r=>st0 iV { cu:=v4,size:=v8.toNat,name:=nm,dg:=dg } r rfl d32
      have rs9:=fun r=>rs0 { cu:=v4,size:=v8.toNat,name:=nm,dg:=dg } r d32
      simp only[n2,w1',w2',UO,bs,decide_eq_false hz,aL,abp,fa,t2,t3,sp,s5,cp,ldx,st9,rs9,f0,Option.ag,az];rfl
end Go.Am.Qd
namespace Go.Am.Qd
variable {h:Hp}
def D1 (l:List UInt8):qx × Nat :=
 if(cz l).2≠0 then(iV,(cz l).2)
 else if l.length≠64+(cz l).1.size then(iV,53)
 else if Rb (l.drop 64)≠(cz l).1.dg then(iV,51)
 else((cz l).1,0)
theorem Rt {l:List UInt8} (hl:(cz l).2=0):64≤l.length:=by
 unfold cz at hl;split at hl
 ·cases hl
 ·omega
theorem adB (l:List UInt8):(cz l).1.size≤1048576:=by
 unfold cz;split
 ·exact Nat.zero_le _
 ·split
  ·exact Nat.zero_le _
  ·split
   ·exact Nat.zero_le _
   ·split
    ·exact Nat.zero_le _
    ·rename_i q
     show(jl (l.drop 8)).toNat≤_;omega
theorem aem (l:List UInt8):(D1 l).1.dg.length=32:=by
 unfold D1
 repeat' split
 all_goals first | rfl | exact G6 l
/-! ### anN in a KQ boxes -/
section
variable {X:gW} {r:Hp} {x y:qx}
theorem ft0 (hx:x.dg.length=32) (hy:y.dg.length=32):aS (size h) 35 (.ptr (size h) 0) (.agg (cr y)) (ext h (.cells (cr x)::r))=some (ext h (.cells (cr y)::r)):=by
 rw[jh (by rw[aQ];rfl) (Nat.le_refl _) (eD hx) (eD hy) (tX _),eu (Nat.le_refl _)];simp
theorem fr0 (hx:x.dg.length=32):qS (.ptr (size h) 0) (ext h (.cells (cr x)::r)) 35 true=some (.agg (cr x)):=AH (by rw[aQ];rfl) (eD hx)
theorem fg1:ay (ext h (X::.cells (cr x)::r)) (size h+1)=some (cr x):=by rw[eZ];rfl
theorem ft1 (hx:x.dg.length=32) (hy:y.dg.length=32):aS (size h) 35 (.ptr (size h+1) 0) (.agg (cr y)) (ext h (X::.cells (cr x)::r))=some (ext h (X::.cells (cr y)::r)):=by
 rw[jh fg1 (by omega) (eD hx) (eD hy) (tX _),eu (by omega)];simp
theorem fl1 (k:Nat):ax 1 false (.ptr (size h+1) k) (ext h (X::.cells (cr x)::r))=(cr x)[k]?:=dL fg1
theorem fa1 (hx:x.dg.length=32):ax 35 true (.ptr (size h+1) 0) (ext h (X::.cells (cr x)::r))=some (.agg (cr x)):=rC fg1 (eD hx)
theorem alc {H:Hp} {b:Nat} (hg:ay H b=some (cr x)) (hx:x.dg.length=32):ax 32 true (.ptr b 3) H=some (.agg (aP x.dg)):=by
 rw[ej,hg,Option.ag];have:part (cr x) 3 32 true=some (.agg (((cr x).drop 3).take 32)):=by rw[EZ,if_pos (by rw[eD hx];omega)]
 rw[this];show some (PV.agg ((aP x.dg).take 32))=_;rw[List.take_of_length_le (by rw[aM];omega)]
theorem fd1 (hx:x.dg.length=32):ax 32 true (.ptr (size h+1) 3) (ext h (X::.cells (cr x)::r))=some (.agg (aP x.dg)):=alc fg1 hx
theorem ou (b k:Nat):aA (.ptr b 0) k=some (.ptr b k):=by
 show some (PV.ptr b (0+k))=_;rw[Nat.zero_add]
theorem fk1 {α:Type} (K:PV→Hp→Option α) (z:List PV):eo z (ext h [X]) K=K (.ptr (size h+1) 0) (ext h [X,.cells z]):=by
 rw[ek,aW,fA];rfl
theorem ff (H:Hp) (e:Nat):bk false false (size h) [.agg (cr x),.int .i64 (e:Int)] (ext h H)=some (.cF [.agg (cr x),.int .i64 (e:Int)],h):=Ko _ _ _
end
theorem tY (x:PV) (y:PV):aE (.cF [x,y]) 0=some x:=rfl
theorem tZ (x:PV) (y:PV):aE (.cF [x,y]) 1=some y:=rfl
theorem UP (e:Nat):binOp .neq (.int .i64 (e:Int)) (.int .i64 0)=some (.bool (decide (e≠0))):=by
 show some (PV.bool (!((e:Int) == 0)))=_
 by_cases he:e=0
 ·subst he;rfl
 ·rw[show((e:Int) == 0)=false by simp[he],decide_eq_true he];rfl
theorem adC:∀ (n:Nat) (a b:List UInt8),a.length=n→b.length=n→cy (List.replicate n 1) (aP a) (aP b)=some (a == b)
 | 0,[],[],_,_=>rfl
 | n+1,x::a,y::b,ha,hb=>by
  have ih:=adC n a b (by simpa using ha) (by simpa using hb);have e:fF 1 (.int .u8 (x.toNat:Int)) (.int .u8 (y.toNat:Int))=some (x == y):=by
   show(if IntKind.u8=IntKind.u8 then some ((x.toNat:Int) == (y.toNat:Int)) else none)=_;rw[if_pos rfl];congr 1
   by_cases hq:x=y
   ·subst hq;simp
   ·have:x.toNat≠y.toNat:=fun q=>hq (UInt8.toNat_inj.1 q)
    rw[beq_false_of_ne hq,beq_false_of_ne (by omega)]
  show(fF 1 (.int .u8 (x.toNat:Int)) (.int .u8 (y.toNat:Int))).ah (fun b'=>(cy (List.replicate n 1) (aP a) (aP b)).ah fun c=>some (b'&&c))=_;rw[e,Option.ag,ih,Option.ag];rfl
theorem ald {a b:List UInt8} (ha:a.length=32) (hb:b.length=32):VJ true [1,1,1,1,1,1,1,1,1,1,1,1,1,1,1,1,1,1,1,1,1,1,1,1,1,1,1,1,1,1,1,1] (.agg (aP a)) (.agg (aP b))=some (.bool (a != b)):=by
 have:=adC 32 a b ha hb;rw[show List.replicate 32 1=[1,1,1,1,1,1,1,1,1,1,1,1,1,1,1,1,1,1,1,1,1,1,1,1,1,1,1,1,1,1,1,1] from rfl]at this;rw[PW,this];rfl
theorem N3 {T:Table} {base f:Nat} {vs:List PV} {H:Hp} {v:PV} (hc:ai T base f vs H=some (v,H)):gv (ai T base) f vs H=some (v,H):=by
 rw[DG,hc,Option.ag,iT]
theorem ag3 {o:Own} (ho:Nf o) (l:List UInt8) (hl:l.length≤1000000) (base:Nat):ai T base 69 [.sl .full 1 [.sl o 1 (aP l)]] h=some (.agg (aP (Rb l)),h):=by
 have:=aee (h:=h) (v0:=.sl .full 1 [.sl o 1 (aP l)]) (ps:=[(o,l)]) rfl (fun i p hp=>by
  have hi:i=0:=by
   cases i with
   | zero=>rfl
   | succ i=>simp at hp
  subst hi;have hpe:(o,l)=p:=by simpa using hp
  subst hpe;rfl) (fun p hp=>by simp at hp;subst hp;exact ho) (by simp) (by simp;omega) base
 simpa using this
theorem adO (base:Nat) {o:Own} (ho:Nf o) (l:List UInt8) (hl:l.length≤800000):ai T base 24 [.sl o 1 (aP l)] h=some (.cF [.agg (cr (D1 l).1),.int .i64 ((D1 l).2:Int)],h):=by
 have e0:cB false (.sl o 1 (aP l))=some (.int .i64 (l.length:Int)):=by rw[fe,aM]
 have hb:dz (cr iV) []=some (.agg (cr iV)):=rfl;have z32:iV.dg.length=32:=rfl;have d32:=G6 l;have r1:=fun(H:Hp)=>Kq (h:=H) (size h) o l hl
 have f53:=fun H=>ff (h:=h) (x:=iV) H 53;have f51:=fun H=>ff (h:=h) (x:=iV) H 51
 have f0:=fun x H=>ff (h:=h) (x:=x) H 0
 simp only[show((53:Nat):Int)=53 from rfl,show((51:Nat):Int)=51 from rfl,show((0:Nat):Int)=0 from rfl]at f53 f51 f0;unfold D1;rw[S24,←jT,ek];simp only[r1,tY,tZ,fk1,ft1 z32 d32,UP,Option.ag,az]
 by_cases he:(cz l).2≠0
 ·rw[if_pos he,decide_eq_true he,aR]
  simp only[hb,ft0 z32 z32,fr0 z32,ff,Option.ag]
 ·rw[if_neg he,decide_eq_false he,aL]
  have HO:=Rt (Classical.not_not.1 he);have sb:binOp .sub (.int .i64 (l.length:Int)) (.int .i64 64)=some (.int .i64 ((l.length-64:Nat):Int)):=by
   show some (PV.int .i64 (IntKind.i64.wrap ((l.length:Int)-64)))=_;rw[wrap_small (by omega) (by omega)];congr 2;omega
  have ldz:(cr (cz l).1)[1]?=some (.int .i64 ((cz l).1.size:Int)):=rfl;have nz:binOp .neq (.int .i64 ((l.length-64:Nat):Int)) (.int .i64 ((cz l).1.size:Int))=some (.bool (decide (l.length≠64+(cz l).1.size))):=by
   show some (PV.bool (!(((l.length-64:Nat):Int) == ((cz l).1.size:Int))))=_
   by_cases hq:l.length=64+(cz l).1.size
   ·rw[show(((l.length-64:Nat):Int) == ((cz l).1.size:Int))=true by rw[beq_iff_eq];omega,decide_eq_false (by omega)];rfl
   ·rw[show(((l.length-64:Nat):Int) == ((cz l).1.size:Int))=false from beq_false_of_ne (by omega),decide_eq_true hq];rfl
  simp only[e0,sb,ou,fl1,ldz,nz,Option.ag]
  by_cases hs:l.length≠64+(cz l).1.size
  ·rw[if_pos hs,decide_eq_true hs,aR]
   simp only[hb,ft0 z32 z32,fr0 z32,f53,Option.ag];rfl
  ·rw[if_neg hs,decide_eq_false hs,aL]
   have be:oZ l.length l.length none=some l.length:=rfl;have bl:oZ l.length 0 (some (.int .i64 ((64:Nat):Int)))=some 64:=(gK _ _ _).trans (fV _ .i64 _ HO);obtain⟨o1,p1,s1⟩:=slc (o:=o) l bl be;rw[List.take_of_length_le (by rw[List.length_drop];exact Nat.le_refl _)]at s1;simp only[show((64:Nat):Int)=64 from rfl]at s1;have bs:cH 1 false [.bg] 1 [(0,strip (.sl o1 1 (aP (l.drop 64))))]=some (.sl .full 1 [.sl o1 1 (aP (l.drop 64))]):=by
    have hst:strip (.sl o1 1 (aP (l.drop 64)))=.sl o1 1 (aP (l.drop 64)):=by
     rcases p1 with rfl | rfl<;>rfl
    rw[hst];rfl
   have sm:=fun H=>N3 (ag3 (h:=H) p1 (l.drop 64) (by rw[List.length_drop];omega) (size h))
   simp only[s1,bs,sm,fd1 d32,ald (kS _) d32,if_true,Option.ag,az]
   by_cases hd:Rb (l.drop 64)≠(cz l).1.dg
   ·rw[if_pos hd,show(Rb (l.drop 64) != (cz l).1.dg)=true from by rw[bne,beq_false_of_ne hd];rfl,aR]
    simp only[hb,ft0 z32 z32,fr0 z32,f51,Option.ag];rfl
   ·rw[if_neg hd,show(Rb (l.drop 64) != (cz l).1.dg)=false from by rw[Classical.not_not.1 hd,bne,beq_self_eq_true];rfl,aL]
    simp only[fa1 d32,ft0 z32 d32,fr0 d32,f0,Option.ag];rfl
end Go.Am.Qd
namespace Go.Am.Qd
variable {h:Hp}
def kT (s:List UInt8):List UInt8:=s++List.replicate (16-s.length) 0
def sZ (x:qx):List UInt8:=bn++br x.cu++br (BitVec.ofNat 32 x.size)
def lQ (x:qx):List UInt8:=sZ x++kT x.name++x.dg
def eA (x:qx):List UInt8:=lQ x++br (mK (lQ x))
theorem lR {s:List UInt8} (hs:s.length≤16):(kT s).length=16:=by simp[kT];omega
theorem ua (x:qx):(sZ x).length=12:=rfl
theorem CA {x:qx} (hs:x.name.length≤16) (hd:x.dg.length=32):(lQ x).length=60:=by
 simp only[lQ,List.length_append,ua,lR hs,hd]
theorem m7 {x:qx} (hs:x.name.length≤16) (hd:x.dg.length=32):(eA x).length=64:=by
 rw[eA,List.length_append,CA hs hd];rfl
theorem kZ {s:List UInt8} (hs:cL s=true):s.length≤16:=by
 simp only[cL,Bool.and_eq_true,decide_eq_true_eq]at hs;exact hs.1.2
theorem G7 (a:List UInt8) (c:UInt8):aP a++[.int .u8 ((c.toNat:Nat):Int)]=aP (a++[c]):=by simp[aP]
theorem abr {H:Hp} {v:PV} {l:List UInt8} (hk:GK h H v (aP l)) (g:Hp):Rd (ext H g) v l:=by
 obtain⟨g',rfl,h1,h2,h3⟩:=hk;rcases h3 with⟨h3,rfl | rfl⟩ | ⟨b,hb1,rfl,hb2⟩
 ·have hl:=qo.1 h3;subst hl
  exact⟨rfl,fun k i c hc=>by simp at hc,rfl,.inr rfl⟩
 ·have hl:=qo.1 h3;subst hl
  exact jS (.inr rfl) []
 ·rw[aM]
  exact sY (by rw[aX (bw (bq hb2))];exact hb2)
theorem G8 {n:Nat} {H g:Hp} (hn:n≤size H):vK n H (ext H g):=⟨hn,by simp only[bJ,ext,size]at *;rw[List.take_append_of_le_length hn]⟩
theorem LV {n:Nat} {H:Hp} {l:List UInt8} (hn:n≤size H):vK n H (BK H l):=by
 unfold BK;split
 ·exact⟨hn,rfl⟩
 ·exact G8 hn
section
variable {x:qx} (hs:x.name.length≤16) (hd:x.dg.length=32)
include hs hd
theorem CB:∀ (m i:Nat) {H:Hp} {v:PV},i+m=32→GK (ext h [.cells (cr x)]) H v (aP (sZ x++kT x.name++x.dg.take i)) →
  Lp (size h) (size h) (.int .i64 (i:Int)) (.ptr (size h) 0) v H=some (.cF [BI (eA x),.int .i64 0],h)
 | 0,i,H,v,hi,hk=>by
  obtain rfl:i=32:=by omega
  rw[List.take_of_length_le (by omega)]at hk;have hsl:=Kk (h:=H) (v:=v) (l:=lQ x) (abr hk) (by rw[CA hs hd];omega) (size h);obtain⟨g,rfl,_⟩:=hk;rw[Gk,show binOp .lss (.int .i64 ((32:Nat):Int)) (.int .i64 32)=some (.bool false) from rfl,Option.ag,aL,hsl,az];have hne:¬ (lQ x++br (mK (lQ x))=[]):=fun q=>by
   have:=congrArg List.length q;rw[List.length_append]at this;simp[br]at this
  have he:BI (lQ x++br (mK (lQ x)))=.sl .no 1 (aP (eA x)):=if_neg hne;have he2:BI (eA x)=.sl .no 1 (aP (eA x)):=if_neg hne;rw[he,he2,cc,ee,IU,Option.ag,ee,rW,Option.ag,jN,Option.ag,Option.ag,Option.ag,fA,cI];have hb:belows (size h) [.sl .no 1 (aP (eA x)),.int .i64 0]=true:=by
   show(belows (size h) (aP (eA x))&&_)=true;rw[mw];rfl
  exact if_pos hb
 | m+1,i,H,v,hi,hk=>by
  have h1:binOp .lss (.int .i64 (i:Int)) (.int .i64 32)=some (.bool true):=by
   show some (PV.bool (decide ((i:Int)<32)))=_;rw[decide_eq_true (by omega)]
  have w1:IntKind.i64.wrap ((i:Int)+1)=((i+1:Nat):Int):=fy i (by omega);have ad:binOp .add (.int .i64 (i:Int)) (.int .i64 1)=some (.int .i64 ((i+1:Nat):Int)):=by rw[←w1];rfl
  have hlt:i<x.dg.length:=by omega
  have ip:=HQ 1 (size h) 3 i 32 (by omega);rw[Nat.mul_one]at ip;obtain⟨g,hH,_⟩:=id hk;have hg:ay H (size h)=some (cr x):=by rw[hH,aX (by rw[aW];simp),aQ];rfl
  have ld:ax 1 false (.ptr (size h) (3+i)) H=some (.int .u8 ((x.dg[i].toNat:Nat):Int)):=by
   rw[dL hg,Nat.add_comm 3 i];show(aP x.dg)[i]?=_;rw[qg,List.getElem?_eq_getElem hlt];rfl
  obtain⟨v',H',e1,e2⟩:=hk.app (size h) (o:=.full) (xs:=[.int .u8 ((x.dg[i].toNat:Nat):Int)]) rfl rfl (by rw[aM,List.length_append,List.length_append,ua,lR hs,List.length_take];simp;omega) (by simp);have e3:aP (sZ x++kT x.name++x.dg.take i)++[.int .u8 ((x.dg[i].toNat:Nat):Int)]=aP (sZ x++kT x.name++x.dg.take (i+1)):=by
   rw[←List.take_append_getElem hlt,←List.append_assoc,G7]
  rw[e3]at e2;rw[Gk];simp only[h1,aR,ou,ip,ld,DX,e1,ad,Option.ag,az];exact CB m (i+1) (by omega) e2
theorem rG:∀ (m i:Nat) {H:Hp} {v:PV},i+m=16→GK (ext h [.cells (cr x)]) H v (aP (sZ x++(kT x.name).take i)) →
  Gi (size h) (size h) (.int .i64 (i:Int)) (.ptr (size h) 0) v H=some (.cF [BI (eA x),.int .i64 0],h)
 | 0,i,H,v,hi,hk=>by
  obtain rfl:i=16:=by omega
  rw[List.take_of_length_le (by rw[lR hs];omega)]at hk;rw[Gj,show binOp .lss (.int .i64 ((16:Nat):Int)) (.int .i64 16)=some (.bool false) from rfl,Option.ag,aL];exact CB hs hd 32 0 (by omega) (by rw[List.take_zero,List.append_nil];exact hk)
 | m+1,i,H,v,hi,hk=>by
  have h1:binOp .lss (.int .i64 (i:Int)) (.int .i64 16)=some (.bool true):=by
   show some (PV.bool (decide ((i:Int)<16)))=_;rw[decide_eq_true (by omega)]
  have w1:IntKind.i64.wrap ((i:Int)+1)=((i+1:Nat):Int):=fy i (by omega);have ad:binOp .add (.int .i64 (i:Int)) (.int .i64 1)=some (.int .i64 ((i+1:Nat):Int)):=by rw[←w1];rfl
  have hlt:i<(kT x.name).length:=by rw[lR hs];omega
  obtain⟨g,hH,_⟩:=id hk;have hg:ay H (size h)=some (cr x):=by rw[hH,aX (by rw[aW];simp),aQ];rfl
  have ld:ax 1 false (.ptr (size h) 2) H=some (.str x.name):=by rw[dL hg];rfl
  have ll:cB true (.str x.name)=some (.int .i64 (x.name.length:Int)):=rfl;have lc:binOp .lss (.int .i64 (i:Int)) (.int .i64 (x.name.length:Int))=some (.bool (decide (i<x.name.length))):=by
   show some (PV.bool (decide ((i:Int)<(x.name.length:Int))))=_;congr 2;exact decide_eq_decide.2 (by omega)
  obtain⟨v',H',e1,e2⟩:=hk.app (size h) (o:=.full) (xs:=[.int .u8 (((kT x.name)[i].toNat:Nat):Int)]) rfl rfl (by rw[aM,List.length_append,ua,List.length_take];simp;omega) (by simp);have e3:aP (sZ x++(kT x.name).take i)++[.int .u8 (((kT x.name)[i].toNat:Nat):Int)]=aP (sZ x++(kT x.name).take (i+1)):=by
   rw[←List.take_append_getElem hlt,←List.append_assoc,G7]
  rw[e3]at e2;rw[Gj]
  by_cases hin:i<x.name.length
  ·have hp:(kT x.name)[i]=x.name[i]:=List.getElem_append_left hin
   have ix:lY (.str x.name) (.int .i64 (i:Int))=some (.int .u8 (((kT x.name)[i].toNat:Nat):Int)):=by
    rw[oJ,iN .i64 i _ hin,Option.ag,List.getElem?_eq_getElem hin,hp];rfl
   simp only[h1,aR,ou,ld,ll,lc,decide_eq_true hin,ix,DX,e1,ad,Option.ag,az];exact rG m (i+1) (by omega) e2
  ·have hp:(kT x.name)[i]=0:=by
    have hlt2:i<(x.name++List.replicate (16-x.name.length) (0:UInt8)).length:=hlt;have:(x.name++List.replicate (16-x.name.length) (0:UInt8))[i]=0:=by
     rw[List.getElem_append_right (by omega),List.getElem_replicate]
    exact this
   have o8:=DX 0;rw[hp]at e1;simp only[show(((0:UInt8).toNat:Nat):Int)=0 from rfl]at o8 e1;simp only[h1,aR,aL,ou,ld,ll,lc,decide_eq_false hin,o8,e1,ad,Option.ag,az];exact rG m (i+1) (by omega) e2
end
theorem G9 (base:Nat) {x:qx} (hn:cL x.name=true) (hz:x.size≤1048576) (hd:x.dg.length=32):ai T base 83 [.agg (cr x)] h=some (.bool true,h):=by
 have bx:tK 35 (.agg (cr x)) h=some (.ptr (size h) 0,ext h [.cells (cr x)]):=by
  rw[ql];exact if_pos ⟨eD hd,tX x⟩
 have hg:ay (ext h [.cells (cr x)]) (size h)=some (cr x):=by rw[aQ];rfl
 have l2:ax 1 false (.ptr (size h) 2) (ext h [.cells (cr x)])=some (.str x.name):=by rw[dL hg];rfl
 have l1:ax 1 false (.ptr (size h) 1) (ext h [.cells (cr x)])=some (.int .i64 (x.size:Int)):=by rw[dL hg];rfl
 have hnm:=vw (h:=ext h [.cells (cr x)]) (size h) x.name;rw[hn]at hnm;have g1:binOp .geq (.int .i64 (x.size:Int)) (.int .i64 0)=some (.bool true):=by
  show some (PV.bool (decide ((x.size:Int)≥0)))=_;rw[decide_eq_true (by omega)]
 have g2:binOp .leq (.int .i64 (x.size:Int)) (.int .i64 1048576)=some (.bool true):=by
  show some (PV.bool (decide ((x.size:Int)≤1048576)))=_;rw[decide_eq_true (by omega)]
 rw[S83];simp only[bx,ou,l2,hnm,l1,g1,g2,cI,↓jY,jZ,j4,j5,simprocAttr,if_true,if_false,implies_true,forall_const]
theorem Hg (base:Nat) {x:qx} (hn:cL x.name=true) (hz:x.size≤1048576) (hd:x.dg.length=32):ai T base 50 [.agg (cr x)] h=some (.cF [BI (eA x),.int .i64 0],h):=by
 have hs:=kZ hn;have bx:tK 35 (.agg (cr x)) h=some (.ptr (size h) 0,ext h [.cells (cr x)]):=by
  rw[ql];exact if_pos ⟨eD hd,tX x⟩
 have OF:∀ X:gW,size (ext h [X])=size h+1:=fun X=>by rw[aW];rfl
 have sz2:∀ X Y:gW,size (ext h [X,Y])=size h+2:=fun X Y=>by rw[aW];rfl
 have hg:∀ g,ay (ext (ext h [.cells (cr x)]) g) (size h)=some (cr x):=fun g=>by rw[aX (by rw[aW];simp),aQ];rfl
 have la:ax 35 true (.ptr (size h) 0) (ext h [.cells (cr x)])=some (.agg (cr x)):=rC (by have:=hg [];rwa [ext_nil]at this) (eD hd);have hr:=G9 (h:=ext h [.cells (cr x)]) (size h) hn hz hd;have sb1:rQ (size h) 1 (ext h [.cells (cr x)]) (.fC [(.int .u8 79),(.int .u8 84),(.int .u8 80),(.int .u8 88)]) []=some (.bX true (size h+1) 0 4 1,ext (ext h [.cells (cr x)]) [.cells (aP bn)]):=by
  rw[Qj,jJ,OF,Option.ag,if_pos (G8 (by rw[OF];exact Nat.le_refl _))];rfl
 have gm:∀ g,ay (ext (ext (ext h [.cells (cr x)]) [.cells (aP bn)]) g) (size h+1)=some (aP bn):=fun g=>by
  rw[aX (by rw[aW,OF];simp),←OF (.cells (cr x)),aQ];rfl
 have mk:cV (size h) (ext (ext h [.cells (cr x)]) [.cells (aP bn)]) .mark [.bX true (size h+1) 0 4 1]=some (.bX true (size h+1) 0 4 1,ext (ext h [.cells (cr x)]) [.cells (aP bn)]):=by
  have:=gm [];rw[ext_nil]at this;rw[qn,this];rfl
 -- the two numbers
 have q1:∀ (n:BitVec 32),oH (ai T (size h)) (size h+1) 84 [.bX true (size h+1) 0 4 1,uV n] (ext (ext h [.cells (cr x)]) [.cells (aP bn)])=some (.bX false (size h+2) 0 8 1,ext (ext h [.cells (cr x)]) [.cells (aP bn),.cells (aP (bn++br n))]):=fun n=>by
  have hp:=tV (h:=ext (ext h [.cells (cr x)]) [.cells (aP bn)]) (v:=.bX true (size h+1) 0 4 1) (l:=bn) (fun g=>sY (l:=bn) (gm g)) (by decide) (size h) n;have hne:¬ (bn++br n=[]):=by simp[bn]
  have e1:GV (ext (ext h [.cells (cr x)]) [.cells (aP bn)]) (bn++br n)=.bX false (size h+2) 0 8 1:=by
   rw[GV,if_neg hne,aW,OF];rfl
  have e2:BK (ext (ext h [.cells (cr x)]) [.cells (aP bn)]) (bn++br n)=ext (ext h [.cells (cr x)]) [.cells (aP bn),.cells (aP (bn++br n))]:=by
   rw[BK,if_neg hne,fA];rfl
  have hlo:=LV (n:=size h+1) (H:=ext (ext h [.cells (cr x)]) [.cells (aP bn)]) (l:=bn++br n) (by rw[aW,OF];simp);rw[e1,e2]at hp;rw[e2]at hlo;exact Lg hp hlo
 have g2:∀ (n:BitVec 32) g,ay (ext (ext (ext h [.cells (cr x)]) [.cells (aP bn),.cells (aP (bn++br n))]) g) (size h+2)=some (aP (bn++br n)):=fun n g=>by
  rw[aX (by rw[aW,OF];simp),show size h+2=size (ext h [.cells (cr x)])+1 by rw[OF],eZ];rfl
 have q2:∀ (n k:BitVec 32),oH (ai T (size h)) (size h+1) 84 [.bX false (size h+2) 0 8 1,uV k] (ext (ext h [.cells (cr x)]) [.cells (aP bn),.cells (aP (bn++br n))]) =
   some (.bX false (size h+3) 0 12 1,ext (ext h [.cells (cr x)]) [.cells (aP bn),.cells (aP (bn++br n)),.cells (aP (bn++br n++br k))]):=fun n k=>by
  have hp:=tV (h:=ext (ext h [.cells (cr x)]) [.cells (aP bn),.cells (aP (bn++br n))]) (v:=.bX false (size h+2) 0 8 1) (l:=bn++br n) (fun g=>sY (l:=bn++br n) (g2 n g)) (by show 8≤800000;decide) (size h) k;have hne:¬ (bn++br n++br k=[]):=by simp[bn]
  have e1:GV (ext (ext h [.cells (cr x)]) [.cells (aP bn),.cells (aP (bn++br n))]) (bn++br n++br k)=.bX false (size h+3) 0 12 1:=by
   rw[GV,if_neg hne,aW,OF];rfl
  have e2:BK (ext (ext h [.cells (cr x)]) [.cells (aP bn),.cells (aP (bn++br n))]) (bn++br n++br k)=ext (ext h [.cells (cr x)]) [.cells (aP bn),.cells (aP (bn++br n)),.cells (aP (bn++br n++br k))]:=by
   rw[BK,if_neg hne,fA];rfl
  have hlo:=LV (n:=size h+1) (H:=ext (ext h [.cells (cr x)]) [.cells (aP bn),.cells (aP (bn++br n))]) (l:=bn++br n++br k) (by rw[aW,OF];simp);rw[e1,e2]at hp;rw[e2]at hlo;exact Lg hp hlo
 have l0:∀ g,nL (size h+1) 1 false (.ptr (size h) 0) (ext (ext h [.cells (cr x)]) g)=some (uV x.cu):=fun g=>by
  rw[rz,if_pos (by omega),dL (hg g)];rfl
 have l1:∀ g,nL (size h+1) 1 false (.ptr (size h) 1) (ext (ext h [.cells (cr x)]) g)=some (.int .i64 (x.size:Int)):=fun g=>by
  rw[rz,if_pos (by omega),dL (hg g)];rfl
 have t32:ct (.int .i64 (x.size:Int)) .u32=some (uV (BitVec.ofNat 32 x.size)):=by
  show some (PV.int .u32 (IntKind.u32.wrap (x.size:Int)))=_;have hw:IntKind.u32.wrap (x.size:Int)=(x.size:Int):=by
   simp only[IntKind.wrap,IntKind.signed,IntKind.bits,Bool.false_and,Bool.false_eq_true,if_false];omega
  rw[hw];show _=some (PV.int .u32 (((BitVec.ofNat 32 x.size).toNat:Nat):Int));rw[BitVec.toNat_ofNat,Nat.mod_eq_of_lt (by omega)]
 rw[S50];simp only[bx,la,hr,show unOp .not (.bool true)=some (.bool false) from rfl,sb1,mk,ou,l0,l1,q1,t32,q2,aL,Option.ag,az];refine rG hs hd 16 0 (by omega) ?_;rw[List.take_zero,List.append_nil];refine⟨_,rfl,gM _,mw _ _,.inr ⟨size h+3,by rw[OF];omega,rfl,?_⟩⟩;rw[show size h+3=size (ext h [.cells (cr x)])+2 by rw[OF],eZ];rfl
end Go.Am.Qd
namespace Go.Am.Qd
variable {h:Hp} {p:FP} {F:Fl} {jb qa qb:Nat}
theorem Hh (k:Nat) (v:Option (List UInt8)):∀ (vs:Vs) (e:Nat × Option (List UInt8)),e∈gN vs k v→e=(k,v)∨e∈vs
 | [],e,he=>.inl (by simpa[gN] using he)
 | e0::r,e,he=>by
  simp only[gN]at he;split at he
  ·rcases List.mem_cons.1 he with rfl | he
   ·exact .inl rfl
   ·exact .inr (by simp[he])
  ·rcases List.mem_cons.1 he with rfl | he
   ·exact .inr (by simp)
   ·rcases Hh k v r e he with h1 | h1
    ·exact .inl h1
    ·exact .inr (by simp[h1])
theorem CC (k:Nat) (v:Option (List UInt8)):∀ (vs:Vs),(gN vs k v).map (·.1)=if k∈vs.map (·.1) then vs.map (·.1) else vs.map (·.1)++[k]
 | []=>by simp[gN]
 | e0::r=>by
  have ih:=CC k v r;simp only[gN]
  by_cases h0:e0.1=k
  ·rw[if_pos h0,if_pos (by simp[h0])]
   simp[h0]
  ·rw[if_neg h0,List.map_cons,ih]
   by_cases h1:k∈r.map (·.1)
   ·rw[if_pos h1,if_pos (by simp only[List.map_cons,List.mem_cons];exact .inr h1)];rfl
   ·have h2:¬ k∈(e0::r).map (·.1):=by
     simp only[List.map_cons,List.mem_cons];rintro(q | q)
     ·exact h0 q.symm
     ·exact h1 q
    rw[if_neg h1,if_neg h2];rfl
theorem Keyed.gN {vs:Vs} (hk:Keyed vs) (k:Nat) (v:Option (List UInt8)):Keyed (gN vs k v):=by
 unfold Keyed at *;rw[CC];split
 ·exact hk
 ·rename_i hn
  rw[List.nodup_append];exact⟨hk,by simp,by rintro a ha b hb;simp only[List.mem_singleton]at hb;subst hb;rintro rfl;exact hn ha⟩
theorem CD:∀ (n:Nat) (l:List Nat),l.Nodup→(∀ x∈l,x<n)→l.length≤n
 | 0,l,hn,hl=>by
  cases l with
  | nil=>simp
  | cons x r=>have:=hl x (by simp);omega
 | n+1,l,hn,hl=>by
  have h1:=CD n (l.erase n) (hn.erase n) fun x hx=>by
   have:=(hn.mem_erase_iff).1 hx;have:=hl x this.2;omega
  rw[List.length_erase]at h1;split at h1<;>omega
theorem N4 {vs:Vs} (hk:Keyed vs) (hs:∀ e∈vs,e.1<32):vs.length≤32:=by
 have h1:=CD 32 (vs.map Prod.fst) hk (by
  intro x hx;obtain⟨e,he,rfl⟩:=List.mem_map.1 hx;exact hs e he)
 simpa using h1
theorem Small.gN {vs:Vs} (hs:Small vs) (hk:Keyed vs) {k:Nat} {v:Option (List UInt8)} (h1:k<32) (h2:(vB v).length≤250):Small (gN vs k v):=by
 have hm:∀ e∈Go.Am.Qd.gN vs k v,e.1<32∧(vB e.2).length≤250:=by
  intro e he;rcases Hh k v vs e he with rfl | he
  ·exact⟨h1,h2⟩
  ·exact hs.2 e he
 exact⟨N4 (hk.gN k v) fun e he=>(hm e he).1,hm⟩
theorem Hi (k:Int):∀ (vs:Vs) (e:Nat × Option (List UInt8)),e∈lV vs k→e∈vs
 | [],e,he=>by simp[lV]at he
 | e0::r,e,he=>by
  simp only[lV]at he;split at he
  ·simp[he]
  ·rcases List.mem_cons.1 he with rfl | he
   ·simp
   ·simp[Hi k r e he]
theorem AP (k:Int):∀ (vs:Vs),((lV vs k).map (·.1)).Sublist (vs.map (·.1))
 | []=>by simp[lV]
 | e0::r=>by
  simp only[lV];split
  ·simp
  ·simp only[List.map_cons];exact(AP k r).cons_cons _
theorem Keyed.lV {vs:Vs} (hk:Keyed vs) (k:Int):Keyed (lV vs k):=List.Nodup.sublist (AP k vs) hk
theorem Small.lV {vs:Vs} (hs:Small vs) (k:Int):Small (lV vs k) :=
 ⟨by have:=(AP k vs).length_le;simp only[List.length_map]at this;have:=hs.1;omega,fun e he=>hs.2 e (Hi k vs e he)⟩
structure JS (h:Hp) (p:FP) (F:Fl) (jb qa qb sz m:Nat) (J:Jn) (vs:Vs):Prop where
 ok:Bh h p jb qa qb
 map:bR h m=some (pN vs)
 nm:m≠p.f∧m≠p.bb∧m≠p.wb
 mj:m≠jb
 small:Small vs
 keyed:Keyed vs
 fl:Fq F sz
 now:J.now≤1
 fin:J.fin≤sz
theorem Bh.ext (hj:Bh h p jb qa qb) (l:Hp):Bh (Go.Am.ext h l) p jb qa qb :=
 ⟨hj.fo.ext l,hj.pa.ext l,hj.pb.ext l,by rw[aW];have:=hj.lj;omega,hj.j1,hj.j2,hj.j3,hj.ja,hj.jq⟩
theorem ng (hj:Bh h p jb qa qb) (cs:List PV) (l:Hp):ext (dZ h p F jb cs) l=dZ (ext h l) p F jb cs:=by
 unfold dZ;rw[Af (hj.fs cs),aak hj.lj]
theorem Bh.new (hj:Bh h p jb qa qb):size h≠p.f∧size h≠p.bb∧size h≠p.wb∧size h≠jb :=
 ⟨by have:=hj.fo.lf;omega,by have:=hj.fo.lb;omega,by have:=hj.fo.lw;omega,by have:=hj.lj;omega⟩
theorem adY (hj:Bh h p jb qa qb) (cs:List PV) (x y:gW):aC (dZ (ext h [x]) p F jb cs) (size h) y=dZ (ext h [y]) p F jb cs:=by
 obtain⟨n1,n2,n3,n4⟩:=hj.new;unfold dZ;rw[Ag ((hj.ext _).fs cs) n1 n2 n3];congr 1;refine pJ (by simp[aJ,aW]) fun n=>?_
 simp only[nN,aJ,aW,List.length_singleton]
 by_cases h1:size h=n
 ·subst h1
  rw[if_pos rfl,if_pos (by omega),if_neg (Ne.symm n4),cK rfl]
 ·rw[if_neg h1]
  by_cases h2:jb=n
  ·rw[if_pos h2,if_pos h2]
  ·rw[if_neg h2,if_neg h2]
   by_cases h3:n<size h
   ·rw[dP h3,dP h3]
   ·simp only[bY,ext,size]at *
    rw[List.getElem?_eq_none (by simp;omega),List.getElem?_eq_none (by simp;omega)]
theorem adZ (hj:Bh h p jb qa qb) (cs:List PV) (es:List (PV × PV)):bR (ext h [.map es]) (size h)=some es∧bR (dZ (ext h [.map es]) p F jb cs) (size h)=some es:=by
 obtain⟨n1,n2,n3,n4⟩:=hj.new;have h1:bR (ext h [.map es]) (size h)=some es:=by rw[bR,cK rfl];rfl
 refine⟨h1,?_⟩;rw[dZ,FV ((hj.ext _).fs cs) n1 n2 n3,jE (Ne.symm n4),h1]
/-! ### 'alT -/
def cl (v:PV) (l:List UInt8):Option (List UInt8):=if v=.bg then none else some l
theorem atp {v:PV} {l:List UInt8} (hv:Bv v l):vB (cl v l)=l:=by
 unfold cl;split
 ·rename_i hq
  subst hq;have:=hv.len;simp only[Mn,Option.some.injEq,PV.int.injEq,true_and]at this;have:l.length=0:=by omega
  rw[List.eq_nil_of_length_eq_zero this];rfl
 ·rfl
theorem clQ {H:Hp} (base:Nat) {v:PV} {l:List UInt8} (hv:Bv v l) (hn:jk 1 v=some false∨v=.bg) (hl:l.length≤1000000):gv (ai T base) 73 [v] H=some (vV (cl v l),H):=by
 unfold cl;split
 ·rename_i hq
  subst hq;rw[DG,J5,Option.ag,iT];rfl
 ·rename_i hq
  exact adn base (hn.resolve_right hq) (hv.el H) hl
theorem aoK {H:Hp} (base:Nat) (k:Nat) {v:PV} {l:List UInt8} (hv:Rd H v l) (hl:l.length≤700000) (dr:Bool) :
  gv (ai T base) 119 [.int .i64 (k:Int),v,.bool dr] H=some (.sl .no 1 (aP (dF (UInt8.ofNat k) l dr)),H):=by
 rw[DG,acD base k hv hl dr,Option.ag,iT]
section
variable {sz m:Nat} {J:Jn} {vs:Vs} (hs:JS h p F jb qa qb sz m J vs)
include hs
theorem JS.gm (cs:List PV):bR (dZ h p F jb cs) m=some (pN vs):=(TT (F:=F) hs.ok cs hs.map hs.nm hs.mj).2
theorem aen (base:Nat) (key:Int) {v:PV} {l:List UInt8} (hv:cB false v=some (.int .i64 (l.length:Int))) (hf:aaG F key l.length≠0) :
  ai T base 97 [.ptr jb 0,.int .i64 key,v] (dZ h p F jb (jC qa qb sz J m))=some (.int .i64 (aaG F key l.length:Int),dZ h p F jb (jC qa qb sz J m)):=by
 have h1:=ab4 (F:=F) hs.ok base (m:=m) (sz:=sz) (J:=J) key hv;have d1:((aaG F key l.length:Int) != 0)=true:=by simpa using hf
 rw[S97];simp only[h1,d1,↓jY,jZ,j4,j5,Nat.reduceAdd,Nat.reduceSub,Nat.reduceMul,Nat.reduceLeDiff,Nat.reduceLT,Nat.reduceEqDiff,Nat.reduceBEq,reduceIte,reduceCtorEq,Int.reduceBEq,Int.reduceEq,Int.reduceLT,Int.reduceLE,Int.reduceGT,Int.reduceGE,Int.reduceAdd,Int.reduceSub,Int.reduceNeg,Int.reduceBNe,ite_true,ite_false,if_true,if_false,implies_true,forall_const]
theorem akV {base:Nat} (hb:base≤jb) {k:Nat} {v:PV} {l:List UInt8} (hv:Bv v l) (hn:jk 1 v=some false∨v=.bg) (hf:aaG F k l.length=0) (hg:∀ u,cP vs k=some u→vB u≠l) :
  ai T base 97 [.ptr jb 0,.int .i64 (k:Int),v] (dZ h p F jb (jC qa qb sz J m)) =
   some (.int .i64 ((F.gi sz J (dF (UInt8.ofNat k) l false) (gN vs k (cl v l))).1:Nat),dZ (ext h [.map (pN (gN vs k (cl v l)))]) p (F.gi sz J (dF (UInt8.ofNat k) l false) (gN vs k (cl v l))).2.1 jb
    (match (F.gi sz J (dF (UInt8.ofNat k) l false) (gN vs k (cl v l))).2.2 with | none=>jC qa qb sz J m | some J'=>jC qa qb sz J' (size h))):=by
 have h1:=ab4 (F:=F) hs.ok base (m:=m) (sz:=sz) (J:=J) (k:Int) hv.len;have d1:((aaG F k l.length:Int) != 0)=false:=by simpa using hf
 have aeJ:k<32∧l.length≤250:=by
  unfold aaG at hf;split at hf
  ·omega
  ·split at hf
   ·omega
   ·split at hf<;>omega
 have gj:=fun(F:Fl) (cs:List PV)=>Xz (F:=F) hs.ok cs
 have l6:(jC qa qb sz J m)[6]?=some (.eL m):=rfl;have hlk:=G3 (h:=dZ h p F jb (jC qa qb sz J m)) base (hs.gm _) true (k:Int);have Kf:ai T base 117 [.eL m] (dZ h p F jb (jC qa qb sz J m))=some (.eL (size h),dZ (ext h [.map (pN vs)]) p F jb (jC qa qb sz J m)):=by
  rw[oI ani,Dp,hs.gm,Option.ag,Option.ag,dH hs.ok,ng hs.ok]
 have hq:=clQ (H:=dZ (ext h [.map (pN vs)]) p F jb (jC qa qb sz J m)) base hv hn (by omega);have hup:=adv (h:=dZ (ext h [.map (pN vs)]) p F jb (jC qa qb sz J m)) base (m:=size h) (vs:=vs) (adZ hs.ok _ _).2 k (cl v l);rw[adY hs.ok]at hup;have hbd:=aoK (H:=dZ (ext h [.map (pN (gN vs k (cl v l)))]) p F jb (jC qa qb sz J m)) base k (hv.rd hn) (by omega) false;obtain⟨n1,n2,n3,n4⟩:=hs.ok.new;have hw:=adN (F:=F) (hs.ok.ext [.map (pN (gN vs k (cl v l)))]) hb (m:=m) (m':=size h) (J:=J) (adZ (F:=F) hs.ok (jC qa qb sz J m) _).1 ⟨n1,n2,n3⟩ n4
  (hs.small.gN hs.keyed aeJ.1 (by rw[atp hv];exact aeJ.2)) (hs.keyed.gN k _) hs.fl hs.now hs.fin (pL (.inl rfl) (dF (UInt8.ofNat k) l false)) (by rw[eC];omega)
 rw[S97];cases hgv:cP vs k with
 | none =>
  have hlr:lkR true (cP vs k)=.cF [.bg,.bool false]:=by rw[hgv];rfl
  rw[hlr]at hlk;simp only[h1,d1,gj,l6,hlk,Kf,hq,hup,hbd,hw,↓jY,jZ,j4,j5,Nat.reduceAdd,Nat.reduceSub,Nat.reduceMul,Nat.reduceLeDiff,Nat.reduceLT,Nat.reduceEqDiff,Nat.reduceBEq,reduceIte,reduceCtorEq,Int.reduceBEq,Int.reduceEq,Int.reduceLT,Int.reduceLE,Int.reduceGT,Int.reduceGE,Int.reduceAdd,Int.reduceSub,Int.reduceNeg,Int.reduceBNe,ite_true,ite_false,if_true,if_false,implies_true,forall_const]<;>rfl
 | some u =>
  have hlr:lkR true (cP vs k)=.cF [vV u,.bool true]:=by rw[hgv];rfl
  rw[hlr]at hlk;have heq:=AL (h:=dZ h p F jb (jC qa qb sz J m)) base (ala u) (hv.rd hn);have hbq:(vB u == l)=false:=by rw[beq_eq_false_iff_ne];exact hg u hgv
  rw[hbq]at heq;simp only[h1,d1,gj,l6,hlk,heq,Kf,hq,hup,hbd,hw,↓jY,jZ,j4,j5,Nat.reduceAdd,Nat.reduceSub,Nat.reduceMul,Nat.reduceLeDiff,Nat.reduceLT,Nat.reduceEqDiff,Nat.reduceBEq,reduceIte,reduceCtorEq,Int.reduceBEq,Int.reduceEq,Int.reduceLT,Int.reduceLE,Int.reduceGT,Int.reduceGE,Int.reduceAdd,Int.reduceSub,Int.reduceNeg,Int.reduceBNe,ite_true,ite_false,if_true,if_false,implies_true,forall_const]<;>rfl
end
end Go.Am.Qd
namespace Go.Am.Qd
variable {h:Hp} {p:FP} {F:Fl} {jb qa qb:Nat}
def RS (h:Hp) (p:FP) (jb:Nat) (v:PV) (l:List UInt8):Prop :=
 (Bv v l∧(jk 1 v=some false∨v=.bg))∨∃ b,v=.bX false b 0 l.length 1∧ay h b=some (aP l)∧b≠p.f∧b≠p.bb∧b≠p.wb∧b≠jb
theorem RS.ext {v:PV} {l:List UInt8} (hr:RS h p jb v l) (g:Hp):RS (Go.Am.ext h g) p jb v l:=by
 rcases hr with hr | ⟨b,h1,h2,h3⟩
 ·exact .inl hr
 ·exact .inr ⟨b,h1,by rw[aX (bw (bq h2))];exact h2,h3⟩
theorem XC {H:Hp} {b:Nat} {l:List UInt8} (hb:ay H b=some (aP l)):Rd H (.bX false b 0 l.length 1) l:=by
 refine⟨rfl,fun k i c hc=>?_,?_,.inl rfl⟩
 ·have hi:=(List.getElem?_eq_some_iff.1 hc).1
  refine⟨.ptr b (0+i*1),?_,?_⟩
  ·rw[tA,if_pos rfl,iN k i _ hi,Option.ag]
  ·rw[ej,hb,Option.ag,part,if_neg (by simp),Nat.mul_one,Nat.zero_add,qg,hc];rfl
 ·rw[mV,hb,Option.ag,if_pos ⟨by rw[aM];omega,by rw[sV];exact lN _⟩,sV]
  simp
theorem RS.rd (hj:Bh h p jb qa qb) {v:PV} {l:List UInt8} (hr:RS h p jb v l) (cs:List PV):Rd (dZ h p F jb cs) v l:=by
 rcases hr with⟨h1,h2⟩ | ⟨b,h1,h2,n1,n2,n3,n4⟩
 ·exact h1.rd h2
 ·subst h1
  apply XC;rw[dZ,iU (hj.fs cs) n1 n2 n3,bD (Ne.symm n4)];exact h2
section
variable {sz m:Nat} {J:Jn} {vs:Vs} (hs:JS h p F jb qa qb sz m J vs)
include hs
theorem Ru (base:Nat) (key:Int):∃ v g,ai T base 101 [.ptr jb 0,.int .i64 key] (dZ h p F jb (jC qa qb sz J m))=some (.cF [v,.bool (cP vs key).isSome],dZ (ext h g) p F jb (jC qa qb sz J m)) ∧
  RS (ext h g) p jb v (vB ((cP vs key).getD none))∧(forget (dZ h p F jb (jC qa qb sz J m)) (.cF [v,.bool (cP vs key).isSome],dZ (ext h g) p F jb (jC qa qb sz J m))=some (.cF [vV ((cP vs key).getD none),.bool (cP vs key).isSome],dZ h p F jb (jC qa qb sz J m))) ∧
  ((vB ((cP vs key).getD none)=[]∧Bv v []∧(jk 1 v=some false∨v=.bg)∧g=[])∨(v=.bX false (size h) 0 (vB ((cP vs key).getD none)).length 1∧g=[.cells (aP (vB ((cP vs key).getD none)))])):=by
 have gj:=fun(F:Fl) (cs:List PV)=>Xz (F:=F) hs.ok cs
 have l6:(jC qa qb sz J m)[6]?=some (.eL m):=rfl;have hlk:=fun b=>G3 (h:=dZ h p F jb (jC qa qb sz J m)) b (hs.gm _) true key
 have tr:=fun(F:Fl) (cs:List PV)=>XA (F:=F) hs.ok cs
 have hnil:∀ b,ai T b 73 [.bg] (dZ h p F jb (jC qa qb sz J m))=some (.bg,dZ h p F jb (jC qa qb sz J m)):=fun b=>J5 b
 have e0:ext h []=h:=by simp[ext]
 cases hgv:cP vs key with
 | none =>
  have hlr:lkR true (cP vs key)=.cF [.bg,.bool false]:=by rw[hgv];rfl
  rw[hlr]at hlk;refine⟨.bg,[],?_,.inl ⟨yp,.inr rfl⟩,by rw[e0,iT];rfl,.inl ⟨rfl,yp,.inr rfl,rfl⟩⟩;rw[TG,e0];simp only[dH hs.ok,gj,l6,hlk,hnil,tr,↓jY,jZ,j4,j5,Nat.reduceAdd,Nat.reduceSub,Nat.reduceMul,Nat.reduceLeDiff,Nat.reduceLT,Nat.reduceEqDiff,Nat.reduceBEq,reduceIte,reduceCtorEq,Int.reduceBEq,Int.reduceEq,Int.reduceLT,Int.reduceLE,Int.reduceGT,Int.reduceGE,Int.reduceAdd,Int.reduceSub,Int.reduceNeg,Int.reduceBNe,ite_true,ite_false,if_true,if_false,implies_true,forall_const]<;>rfl
 | some u =>
  have hlr:lkR true (cP vs key)=.cF [vV u,.bool true]:=by rw[hgv];rfl
  rw[hlr]at hlk;cases u with
  | none =>
   refine⟨.bg,[],?_,.inl ⟨yp,.inr rfl⟩,by rw[e0,iT];rfl,.inl ⟨rfl,yp,.inr rfl,rfl⟩⟩;rw[TG,e0];have e1:vV none=.bg:=rfl;rw[e1]at hlk;simp only[dH hs.ok,gj,l6,hlk,hnil,tr,↓jY,jZ,j4,j5,Nat.reduceAdd,Nat.reduceSub,Nat.reduceMul,Nat.reduceLeDiff,Nat.reduceLT,Nat.reduceEqDiff,Nat.reduceBEq,reduceIte,reduceCtorEq,Int.reduceBEq,Int.reduceEq,Int.reduceLT,Int.reduceLE,Int.reduceGT,Int.reduceGE,Int.reduceAdd,Int.reduceSub,Int.reduceNeg,Int.reduceBNe,ite_true,ite_false,if_true,if_false,implies_true,forall_const]<;>rfl
  | some l =>
   have Kf:=fun b=>AB (h:=dZ h p F jb (jC qa qb sz J m)) b (v:=vV (some l)) (TH l) ((J4 l).el _) (by
    have:∀ e∈vs,(vB e.2).length≤250:=fun e he=>(hs.small.2 e he).2
    have hm:∃ e∈vs,e.2=some l:=by
     clear hlk hlr gj tr;have:=hgv;clear hgv;generalize vs=ws at this
     induction ws with
     | nil=>simp[cP]at this
     | cons e r ih =>
      simp only[cP]at this;split at this
      ·exact⟨e,by simp,Option.some.inj this⟩
      ·obtain⟨e',h1,h2⟩:=ih this
       exact⟨e',by simp[h1],h2⟩
    obtain⟨e,he,he2⟩:=hm;have:=this e he;rw[he2]at this;simp only[vB]at this;omega)
   by_cases h0:l=[]
   ·subst h0
    simp only[if_true]at Kf;refine⟨.sl .full 1 [],[],?_,.inl ⟨J4 [],.inl rfl⟩,by rw[e0,iT];rfl,.inl ⟨rfl,J4 [],.inl rfl,rfl⟩⟩;rw[TG,e0];simp only[dH hs.ok,gj,l6,hlk,Kf,tr,↓jY,jZ,j4,j5,Nat.reduceAdd,Nat.reduceSub,Nat.reduceMul,Nat.reduceLeDiff,Nat.reduceLT,Nat.reduceEqDiff,Nat.reduceBEq,reduceIte,reduceCtorEq,Int.reduceBEq,Int.reduceEq,Int.reduceLT,Int.reduceLE,Int.reduceGT,Int.reduceGE,Int.reduceAdd,Int.reduceSub,Int.reduceNeg,Int.reduceBNe,ite_true,ite_false,if_true,if_false,implies_true,forall_const]<;>rfl
   ·simp only[if_neg h0,dH hs.ok,ng hs.ok]at Kf
    obtain⟨n1,n2,n3,n4⟩:=hs.ok.new;have YP:ay (ext h [.cells (aP l)]) (size h)=some (aP l):=by rw[aQ];rfl
    have abu:ay (dZ (ext h [.cells (aP l)]) p F jb (jC qa qb sz J m)) (size h)=some (aP l):=by
     rw[dZ,iU ((hs.ok.ext _).fs _) n1 n2 n3,bD (Ne.symm n4)];exact YP
    have htr:bJ (dZ (ext h [.cells (aP l)]) p F jb (jC qa qb sz J m)) (size h)=dZ h p F jb (jC qa qb sz J m):=by
     rw[←ng hs.ok];have:=cI (h:=dZ h p F jb (jC qa qb sz J m)) (l:=[.cells (aP l)]);rwa [dH hs.ok]at this
    refine⟨.bX false (size h) 0 l.length 1,[.cells (aP l)],?_,.inr ⟨size h,rfl,YP,n1,n2,n3,n4⟩,?_,.inr ⟨rfl,rfl⟩⟩
    ·rw[TG]
     have hlt:¬ (size h<size h):=by omega
     simp only[dH hs.ok,gj,l6,hlk,Kf,abu,hlt,tT,htr,ng hs.ok,Option.isSome_some,↓jY,jZ,j4,j5,Nat.reduceAdd,Nat.reduceSub,Nat.reduceMul,Nat.reduceLeDiff,Nat.reduceLT,Nat.reduceEqDiff,Nat.reduceBEq,reduceIte,reduceCtorEq,Int.reduceBEq,Int.reduceEq,Int.reduceLT,Int.reduceLE,Int.reduceGT,Int.reduceGE,Int.reduceAdd,Int.reduceSub,Int.reduceNeg,Int.reduceBNe,ite_true,ite_false,if_true,if_false,implies_true,forall_const]
    ·unfold forget
     have hne:¬ (dZ (ext h [.cells (aP l)]) p F jb (jC qa qb sz J m)=dZ h p F jb (jC qa qb sz J m)):=by
      intro hq;have:=congrArg size hq;rw[dH (hs.ok.ext _),dH hs.ok,aW]at this;simp at this
     rw[if_neg hne];have hfz:=LB (h:=dZ h p F jb (jC qa qb sz J m)) (g:=dZ (ext h [.cells (aP l)]) p F jb (jC qa qb sz J m)) (size h) l (by rw[dH hs.ok];omega) abu;simp only[KW,fN,hfz,za,Option.ag];rw[if_pos ⟨by simp[below,belows,Own.below,tT],by rw[dH hs.ok,dH (hs.ok.ext _),aW];omega,by rw[dH hs.ok];exact htr⟩];simp only[Option.getD_some,vV,BI,if_neg h0,Option.isSome_some]
end
end Go.Am.Qd
namespace Go.Am.Qd
variable {h:Hp} {p:FP}
def rH (n s:Nat):Fl:=⟨List.replicate (n*s) 255,s,List.replicate n 0,0,-1,false⟩
def ij (k:Nat):FP:=⟨k+2,k,k+1⟩
theorem N5 {p:FP} {F:Fl} {H:Hp} (hp:pI H p) (h1:bY H p.f=some (.cells (DI p F))) (h2:bY H p.wb=some (.cells (lM F.bN))) (h3:bY H p.bb=some (.cells (aP F.b))):H=cv H p F:=by
 refine pJ bS.symm fun n=>?_
 rw[dD hp];split
 ·rename_i hq;rw[hq,h1]
 ·split
  ·rename_i hq;rw[hq,h2]
  ·split
   ·rename_i hq;rw[hq,h3]
   ·rfl
theorem pI.alV (h:Hp) (l:List gW) (hl:3≤l.length):pI (Go.Am.ext h l) (ij (size h)):=⟨by simp[ij,aW];omega,by simp[ij,aW];omega,by simp[ij,aW];omega,by simp[ij],by simp[ij],by simp[ij]⟩
def kj (n s k:Nat):List gW:=[.cells (aP (List.replicate (n*s) 255)),.cells (lM (List.replicate n 0)),.cells (DI (ij k) (rH n s))]
theorem Ks (h:Hp) (n s:Nat) (l:List gW):ext h (kj n s (size h)++l)=cv (ext h (kj n s (size h)++l)) (ij (size h)) (rH n s):=by
 refine N5 (pI.alV h _ (by simp[kj])) ?_ ?_ ?_
 ·rw[show(ij (size h)).f=size h+2 from rfl,fG rfl];rfl
 ·rw[show(ij (size h)).wb=size h+1 from rfl,fG rfl];rfl
 ·rw[show(ij (size h)).bb=size h+0 from rfl,fG rfl];rfl
theorem N6 (n:Nat) (h1:1≤n) (h2:n≤64) (s:Nat) (h3:16≤s) (h4:s≤4096):Na [.int .i64 (n:Int),.int .i64 (s:Int)] h=some (.ptr (size h+2) 0,kj n s (size h)):=by
 have hk:(ig 1 64 (n:Int)).toNat=n:=by unfold ig;split<;>split at*<;> omega
 have hz:(ig 16 4096 (s:Int)).toNat=s:=by unfold ig;split<;>split at*<;> omega
 simp only[Na,hk,hz];have e1:(List.replicate (n*s) (PV.int .u8 255))=aP (List.replicate (n*s) 255):=by simp[aP]
 have e2:(List.replicate n (PV.int .i64 0))=lM (List.replicate n 0):=by simp[lM]
 have e3:rq (size h+1) (size h) (n*s) s n=DI (ij (size h)) (rH n s):=by simp[rq,DI,rH,ij]
 rw[e1,e2,e3];rfl
theorem N7 (base:Nat) (n:Nat) (h1:1≤n) (h2:n≤64) (s:Nat) (h3:16≤s) (h4:s≤4096):ai T base 48 [.int .i64 (n:Int),.int .i64 (s:Int)] h=some (.ptr (size h+2) 0,cv (ext h (kj n s (size h))) (ij (size h)) (rH n s)):=by
 have:=Ks h n s [];rw[List.append_nil]at this;rw[oI ae7,N6 n h1 h2 s h3 h4,←this];rfl
theorem N8 (hp:pI h p) (base:Nat) {F:Fl} {n:Nat} (first count:Nat) (hc:1≤count) (hf:first+count≤n) (hn:n≤64) (h4:F.b.length=n*F.aj) (hs:16≤F.aj) (hs2:F.aj≤4096) :
  ai T base 49 [.ptr p.f 0,.int .i64 (first:Int),.int .i64 (count:Int)] (cv h p F)=some (.cF [.ptr (size h) 0,.int .i64 0],cv (ext h [.cells [.ptr p.f 0,.int .i64 (first:Int),.int .i64 (count:Int)]]) p F):=by
 have h1:=fun b=>NL (h:=h) (F:=F) hp b
 have h2:=fun b=>vn (h:=h) (F:=F) hp b
 have hq:(((F.b.length:Nat):Int)).tdiv (F.aj:Int)=n:=by
  rw[h4];rw[show((n*F.aj:Nat):Int)=(n:Int)*(F.aj:Int) by simp,Int.mul_tdiv_cancel _ (by omega)]
 have hq2:binOp .quo (.int .i64 (F.b.length:Int)) (.int .i64 (F.aj:Int))=some (.int .i64 (n:Int)):=by
  show(if(F.aj:Int)=0 then none else some (PV.int .i64 (IntKind.i64.wrap ((((F.b.length:Nat):Int)).tdiv (F.aj:Int)))))=_;rw[if_neg (by omega),hq,wrap_small (by omega) (by omega)]
 have d0:decide ((count:Int)<1)=false:=by simp;omega
 have d1:decide ((first:Int)<0)=false:=by simp
 have d2:decide ((first:Int)≥(n:Int))=false:=by simp;omega
 have hw:IntKind.i64.wrap ((n:Int)-(first:Int))=((n-first:Nat):Int):=by rw[wrap_small (by omega) (by omega)];omega
 have d3:decide ((count:Int) > ((n-first:Nat):Int))=false:=by simp;omega
 rw[S49];simp only[h1,h2,az,hq2,Option.ag,hw,d0,d1,d2,d3,↓jY,jZ,j4,j5,Nat.reduceAdd,Nat.reduceSub,Nat.reduceMul,Nat.reduceLeDiff,Nat.reduceLT,Nat.reduceEqDiff,Nat.reduceBEq,reduceIte,reduceCtorEq,Int.reduceBEq,Int.reduceEq,Int.reduceLT,Int.reduceLE,Int.reduceGT,Int.reduceGE,Int.reduceAdd,Int.reduceSub,Int.reduceNeg,Int.reduceBNe,ite_true,ite_false,if_true,if_false,implies_true,forall_const];rw[bS,Af hp]
end Go.Am.Qd
namespace Go.Am.Qd
variable {h:Hp} {p:FP} {F:Fl} {jb qa qb:Nat}
def jW (qa qb sz now:Nat) (ep:BitVec 32) (fin:Nat) (mv:PV):List PV:=[.ptr qa 0,.ptr qb 0,.int .i64 (sz:Int),.int .i64 (now:Int),uV ep,.int .i64 (fin:Int),mv]
def mN (F:Fl) (i:Nat):List UInt8:=(F.b.drop (2*i*F.aj)).take (2*F.aj)
theorem TY {sz:Nat} (hF:Fq F sz) {i:Nat} (hi:i≤1):(mN F i).length=2*F.aj:=by
 have:=hF.len;have h2:2*i*F.aj≤2*F.aj:=Nat.mul_le_mul_right _ (by omega);unfold mN;simp;omega
theorem ab5 (hj:Bh h p jb qa qb) {sz:Nat} (hF:Fq F sz) (hd:F.down=false) (base:Nat) {i:Nat} (hi:i≤1) {now fin:Nat} {ep:BitVec 32} {mv:PV} :
  ai T base 120 [.ptr jb 0,.int .i64 (i:Int)] (dZ h p F jb (jW qa qb sz now ep fin mv))=some (.cF [BI (mN F i),.int .i64 0],dZ h p F jb (jW qa qb sz now ep fin mv)):=by
 have hs2:=hF.small;have hs3:=hF.pos;have hsz:=hF.sz;have hlen:=hF.len;have gj:=fun(F:Fl) (cs:List PV)=>Xz (F:=F) hj cs
 have tr:=fun(F:Fl) (cs:List PV)=>XA (F:=F) hj cs
 have l2:(jW qa qb sz now ep fin mv)[2]?=some (.int .i64 (sz:Int)):=rfl;have DY:=iN .i64 i 2 (by omega);have run:∀ {q fst:Nat},gL (aC h jb (.cells (jW qa qb sz now ep fin mv))) p q fst 2→fst=2*i→(jW qa qb sz now ep fin mv)[i]?=some (.ptr q 0) →
   ai T base 120 [.ptr jb 0,.int .i64 (i:Int)] (dZ h p F jb (jW qa qb sz now ep fin mv))=some (.cF [BI (mN F i),.int .i64 0],dZ h p F jb (jW qa qb sz now ep fin mv)):=by
  intro q fst hq ag1 hld;have hr:∀ b,ai T b 79 [.ptr q 0,.int .i64 ((0:Nat):Int),.int .i64 (sz:Int)] (dZ h p F jb (jW qa qb sz now ep fin mv))=some (if F.down then .cF [.bg,.int .i64 30] else .cF [BI ((F.b.drop (fst*F.aj+0)).take sz),.int .i64 0],dZ h p F jb (jW qa qb sz now ep fin mv)) :=
   fun b=>abW (hj.fs _) hq b 0 sz hF.fin (by omega) (by have:=Nat.mul_le_mul_right F.aj (show fst+2≤4 by omega);omega)
  have hg:(F.b.drop (fst*F.aj+0)).take sz=mN F i:=by rw[hsz,ag1];rfl
  rw[hd,hg]at hr;simp only[Bool.false_eq_true,if_false,show((0:Nat):Int)=0 from rfl]at hr;have hcb:=(J4 (mN F i)).below;have M8:=(J4 (mN F i)).gY;rw[as3];simp only[dH hj,gj,l2,DY,Nat.mul_one,hld,hr,M8,hcb,tr,↓jY,jZ,j4,j5,Nat.reduceAdd,Nat.reduceSub,Nat.reduceMul,Nat.reduceLeDiff,Nat.reduceLT,Nat.reduceEqDiff,Nat.reduceBEq,reduceIte,reduceCtorEq,Int.reduceBEq,Int.reduceEq,Int.reduceLT,Int.reduceLE,Int.reduceGT,Int.reduceGE,Int.reduceAdd,Int.reduceSub,Int.reduceNeg,Int.reduceBNe,ite_true,ite_false,if_true,if_false,implies_true,forall_const]
 rcases Nat.le_one_iff_eq_zero_or_eq_one.1 hi with rfl | rfl
 ·exact run (hj.qa' _) rfl rfl
 ·exact run (hj.qb' _) rfl rfl
theorem atq (a b:BitVec 32):binOp .gtr (uV a) (uV b)=some (.bool (decide (b.toNat<a.toNat))):=by
 show some (PV.bool (decide ((a.toNat:Int) > (b.toNat:Int))))=_;congr 2;simp
structure Hd where
 found:Bool
 now:Nat
 bM:BitVec 32
def Hd.look (s:Hd) (F:Fl) (i:Nat):Hd:=if(mN F i).getD 0 0=0∧(s.found=false∨s.bM.toNat<(jl ((mN F i).drop 1)).toNat) then⟨true,i,jl ((mN F i).drop 1)⟩ else s
def AQ (F:Fl) (now:Nat) (ep:BitVec 32):Hd:=((Hd.mk false now ep).look F 0).look F 1
theorem ab9 (hj:Bh h p jb qa qb) {sz:Nat} (hF:Fq F sz) (hd:F.down=false) (base n0:Nat) {i:Nat} (hi:i≤1) (s:Hd) {fin:Nat} {mv:PV} :
  acq base n0 (.int .i64 (i:Int)) (.ptr jb 0) (.bool s.found) (dZ h p F jb (jW qa qb sz s.now s.bM fin mv)) =
   acq base n0 (.int .i64 ((i+1:Nat):Int)) (.ptr jb 0) (.bool (s.look F i).found) (dZ h p F jb (jW qa qb sz (s.look F i).now (s.look F i).bM fin mv)):=by
 have hs2:=hF.small;have hs3:=hF.pos;have hgl:=TY hF hi;have gj:=fun(F:Fl) (cs:List PV)=>Xz (F:=F) hj cs
 have sj:=fun(F:Fl) (cs ds:List PV)=>abm (F:=F) hj cs ds
 have hb:=ab5 hj hF hd base hi (now:=s.now) (ep:=s.bM) (fin:=fin) (mv:=mv);have hne:mN F i≠[]:=by intro hq;rw[hq]at hgl;simp at hgl;omega
 have Kf:BI (mN F i)=.sl .no 1 (aP (mN F i)):=by unfold BI;rw[if_neg hne]
 rw[Kf]at hb;have b0:oZ (mN F i).length (mN F i).length none=some (mN F i).length:=rfl;have b1:oZ (mN F i).length 0 (some (.int .i64 1))=some 1:=(gK _ _ _).trans (fV _ .i64 1 (by omega));obtain⟨o1,p1,s1⟩:=slc (o:=.no) (mN F i) b1 b0;have e1:((mN F i).drop 1).take ((mN F i).length-1)=(mN F i).drop 1:=by rw[List.take_of_length_le (by simp)]
 rw[e1]at s1;have h49:=fun H b=>aaJ (h:=H) b (jS p1 ((mN F i).drop 1)) (by simp;omega)
 have hx:=(pL (.inl rfl) (mN F i)).ix .i64 0 (mN F i)[0] (List.getElem?_eq_getElem (by omega));simp only[show((0:Nat):Int)=0 from rfl]at hx;have g0:(mN F i).getD 0 0=(mN F i)[0]:=by simp;rw[List.getElem?_eq_getElem (by omega)];rfl
 have d0:decide ((i:Int)<2)=true:=by simp;omega
 generalize PV.sl .no 1 (aP (mN F i))=V at hb s1 hx;have hz:(((mN F i)[0].toNat:Int) == 0)=decide ((mN F i)[0]=0):=by
  have:=geZ (mN F i)[0];rw[Bool.eq_iff_iff,beq_iff_eq,decide_eq_true_eq];constructor
  ·intro hq;exact UInt8.toNat_inj.1 (by have:((0:UInt8).toNat)=0:=rfl;omega)
  ·intro hq;rw[hq];rfl
 have l4:(jW qa qb sz s.now s.bM fin mv)[4]?=some (uV s.bM):=rfl;have l4':∀ n e f v,(jW qa qb sz n e f v)[4]?=some (uV e):=fun _ _ _ _=>rfl
 have wr3:∀ n e f v,bE (jW qa qb sz n e f v) 3 [.int .i64 (i:Int)]=jW qa qb sz i e f v:=fun _ _ _ _=>rfl
 have wr4:∀ n e f v a,bE (jW qa qb sz n e f v) 4 [uV a]=jW qa qb sz n a f v:=fun _ _ _ _ _=>rfl
 have wl:∀ n e f v,(jW qa qb sz n e f v).length=7:=fun _ _ _ _=>rfl
 have uc:∀ a,(uV a).cells=[uV a]:=fun _=>rfl
 have us:∀ a,scalar (uV a)=true:=fun _=>rfl
 have ust:∀ a,strip (uV a)=uV a:=fun _=>rfl
 have ubl:∀ n a,below n (uV a)=true:=fun _ _=>rfl
 rw[adj];unfold Hd.look;rw[g0]
 by_cases c1:(mN F i)[0]=0
 ·have d1:decide ((mN F i)[0]=0)=true:=by simpa using c1
  cases hfd:s.found with
  | false =>
   rw[if_pos ⟨c1,.inl rfl⟩];simp (disch:=omega) only[d0,hb,s1,h49,hx,hz,d1,fy,l4,l4',wr3,wr4,wl,ite_self,gj,sj,uc,us,ust,ubl,↓jY,jZ,j4,j5,Nat.reduceAdd,Nat.reduceSub,Nat.reduceMul,Nat.reduceLeDiff,Nat.reduceLT,Nat.reduceEqDiff,Nat.reduceBEq,reduceIte,reduceCtorEq,Int.reduceBEq,Int.reduceEq,Int.reduceLT,Int.reduceLE,Int.reduceGT,Int.reduceGE,Int.reduceAdd,Int.reduceSub,Int.reduceNeg,Int.reduceBNe,ite_true,ite_false,if_true,if_false,implies_true,forall_const]
  | true =>
   have hgt:=atq (jl ((mN F i).drop 1)) s.bM
   by_cases c2:s.bM.toNat<(jl ((mN F i).drop 1)).toNat
   ·have d2:decide (s.bM.toNat<(jl ((mN F i).drop 1)).toNat)=true:=by simpa using c2
    rw[if_pos ⟨c1,.inr c2⟩];simp (disch:=omega) only[d0,hb,s1,h49,hx,hz,d1,fy,l4,l4',wr3,wr4,wl,ite_self,gj,sj,uc,us,ust,ubl,hgt,d2,↓jY,jZ,j4,j5,Nat.reduceAdd,Nat.reduceSub,Nat.reduceMul,Nat.reduceLeDiff,Nat.reduceLT,Nat.reduceEqDiff,Nat.reduceBEq,reduceIte,reduceCtorEq,Int.reduceBEq,Int.reduceEq,Int.reduceLT,Int.reduceLE,Int.reduceGT,Int.reduceGE,Int.reduceAdd,Int.reduceSub,Int.reduceNeg,Int.reduceBNe,ite_true,ite_false,if_true,if_false,implies_true,forall_const]
   ·have d2:decide (s.bM.toNat<(jl ((mN F i).drop 1)).toNat)=false:=by simpa using c2
    rw[if_neg (by rintro⟨_,q | q⟩;cases q;exact c2 q)];simp (disch:=omega) only[d0,hb,s1,h49,hx,hz,d1,fy,l4,l4',wr3,wr4,wl,ite_self,gj,sj,uc,us,ust,ubl,hgt,d2,hfd,↓jY,jZ,j4,j5,Nat.reduceAdd,Nat.reduceSub,Nat.reduceMul,Nat.reduceLeDiff,Nat.reduceLT,Nat.reduceEqDiff,Nat.reduceBEq,reduceIte,reduceCtorEq,Int.reduceBEq,Int.reduceEq,Int.reduceLT,Int.reduceLE,Int.reduceGT,Int.reduceGE,Int.reduceAdd,Int.reduceSub,Int.reduceNeg,Int.reduceBNe,ite_true,ite_false,if_true,if_false,implies_true,forall_const]
 ·have d1:decide ((mN F i)[0]=0)=false:=by simpa using c1
  rw[if_neg (fun q=>c1 q.1)];simp (disch:=omega) only[d0,hb,s1,h49,hx,hz,d1,fy,↓jY,jZ,j4,j5,Nat.reduceAdd,Nat.reduceSub,Nat.reduceMul,Nat.reduceLeDiff,Nat.reduceLT,Nat.reduceEqDiff,Nat.reduceBEq,reduceIte,reduceCtorEq,Int.reduceBEq,Int.reduceEq,Int.reduceLT,Int.reduceLE,Int.reduceGT,Int.reduceGE,Int.reduceAdd,Int.reduceSub,Int.reduceNeg,Int.reduceBNe,ite_true,ite_false,if_true,if_false,implies_true,forall_const]
theorem adP (hj:Bh h p jb qa qb) {sz:Nat} (hF:Fq F sz) (hd:F.down=false) (base:Nat) (now:Nat) (ep:BitVec 32) {fin:Nat} {mv:PV} :
  ai T base 98 [.ptr jb 0] (dZ h p F jb (jW qa qb sz now ep fin mv)) =
   some (.cF [.bool (AQ F now ep).found,.int .i64 0],dZ h p F jb (jW qa qb sz (AQ F now ep).now (AQ F now ep).bM fin mv)):=by
 have h0:=ab9 hj hF hd (size h) (size h) (i:=0) (by omega) (Hd.mk false now ep) (fin:=fin) (mv:=mv);have h1:=ab9 hj hF hd (size h) (size h) (i:=1) (by omega) ((Hd.mk false now ep).look F 0) (fin:=fin) (mv:=mv);simp only[show((0:Nat):Int)=0 from rfl,Nat.zero_add,show((1:Nat):Int)=1 from rfl,show((1+1:Nat):Int)=2 from rfl]at h0 h1;have tr:=fun(F:Fl) (cs:List PV)=>XA (F:=F) hj cs
 rw[S98,dH hj,h0,h1,adj];simp only[tr,↓jY,jZ,j4,j5,Nat.reduceAdd,Nat.reduceSub,Nat.reduceMul,Nat.reduceLeDiff,Nat.reduceLT,Nat.reduceEqDiff,Nat.reduceBEq,reduceIte,reduceCtorEq,Int.reduceBEq,Int.reduceEq,Int.reduceLT,Int.reduceLE,Int.reduceGT,Int.reduceGE,Int.reduceAdd,Int.reduceSub,Int.reduceNeg,Int.reduceBNe,ite_true,ite_false,if_true,if_false,implies_true,forall_const]<;>rfl
end Go.Am.Qd
namespace Go.Am.Qd
variable {h:Hp} {p:FP} {F:Fl} {jb qa qb:Nat}
theorem alg (c:UInt8):((c.toNat:Int) != 255)=decide (c≠255):=by
 rw[Bool.eq_iff_iff,bne_iff_ne,decide_eq_true_eq];constructor
 ·intro hq hc;subst hc;exact hq rfl
 ·intro hq hc;exact hq (UInt8.toNat_inj.1 (by have:((255:UInt8).toNat)=255:=rfl;omega))
theorem acM (base n0:Nat) {o:Own} (ho:Nf o) (l:List UInt8) (hl:l.length≤1000000):∀ (n k:Nat),k+n=l.length →
  acN base n0 (.int .i64 (k:Int)) (.sl o 1 (aP l)) (.int .i64 (l.length:Int)) h=some (.cF [.bool ((l.drop k).any fun c=>decide (c≠255)),.int .i64 0],h)
 | 0,k,hk=>by
  have e0:¬ (k<l.length):=by omega
  rw[acr,List.drop_of_length_le (by omega)];simp only[dec_lt,e0,decide_false,List.any_nil,↓jY,jZ,j4,j5,Nat.reduceAdd,Nat.reduceSub,Nat.reduceMul,Nat.reduceLeDiff,Nat.reduceLT,Nat.reduceEqDiff,Nat.reduceBEq,reduceIte,reduceCtorEq,Int.reduceBEq,Int.reduceEq,Int.reduceLT,Int.reduceLE,Int.reduceGT,Int.reduceGE,Int.reduceAdd,Int.reduceSub,Int.reduceNeg,Int.reduceBNe,ite_true,ite_false,if_true,if_false,implies_true,forall_const]
 | n+1,k,hk=>by
  have e0:k<l.length:=by omega
  have hx:=(pL ho l).ix .i64 k l[k] (List.getElem?_eq_getElem e0);have ih:=acM base n0 ho l hl n (k+1) (by omega);rw[acr,List.drop_eq_getElem_cons e0,List.any_cons];generalize PV.sl o 1 (aP l)=V at hx ih ⊢
  by_cases hc:l[k]≠255
  ·have d1:decide (l[k]≠255)=true:=by simpa using hc
   simp only[dec_lt,e0,decide_true,hx,alg,d1,Bool.true_or,↓jY,jZ,j4,j5,Nat.reduceAdd,Nat.reduceSub,Nat.reduceMul,Nat.reduceLeDiff,Nat.reduceLT,Nat.reduceEqDiff,Nat.reduceBEq,reduceIte,reduceCtorEq,Int.reduceBEq,Int.reduceEq,Int.reduceLT,Int.reduceLE,Int.reduceGT,Int.reduceGE,Int.reduceAdd,Int.reduceSub,Int.reduceNeg,Int.reduceBNe,ite_true,ite_false,if_true,if_false,implies_true,forall_const]
  ·have d1:decide (l[k]≠255)=false:=by simpa using hc
   simp (disch:=omega) only[dec_lt,e0,decide_true,hx,alg,d1,Bool.false_or,fy,ih,↓jY,jZ,j4,j5,Nat.reduceAdd,Nat.reduceSub,Nat.reduceMul,Nat.reduceLeDiff,Nat.reduceLT,Nat.reduceEqDiff,Nat.reduceBEq,reduceIte,reduceCtorEq,Int.reduceBEq,Int.reduceEq,Int.reduceLT,Int.reduceLE,Int.reduceGT,Int.reduceGE,Int.reduceAdd,Int.reduceSub,Int.reduceNeg,Int.reduceBNe,ite_true,ite_false,if_true,if_false,implies_true,forall_const]
def Rv (b:List UInt8):Nat→Nat→Vs→Nat × Nat × Vs
 | 0,a,vs=>(0,a,vs)
 | n+1,a,vs=>match vA b a with
  | none=>(0,a,vs)
  | some r=>if lP ((b.drop a).take (r.fin-1-a))=true then Rv b n r.fin (if r.drop=true then lV vs (r.key.toNat:Int) else gN vs r.key.toNat (some r.val)) else(40,a,vs)
def Rw (b:List UInt8) (a:Nat):Bool:=(b.drop a).any fun c=>decide (c≠255)
theorem Bh.aeM (hj:Bh h p jb qa qb) {m:Nat} {es:List (PV × PV)} (hm:bR h m=some es) (hmj:m≠jb) (x:gW):Bh (aC h m x) p jb qa qb:=by
 have hmq:∀ q cs,ay h q=some cs→m≠q:=by
  rintro q cs hq rfl;have h1:=lg hm;have h2:=bq hq;rw[h1]at h2;cases h2
 have hpt:∀ {q f c},gL h p q f c→gL (aC h m x) p q f c:=fun {q f c} hq=>⟨by rw[bD (hmq _ _ hq.get)];exact hq.get,hq.n1,hq.n2,hq.n3⟩
 exact⟨hj.fo.set _ _,hpt hj.pa,hpt hj.pb,by rw[aJ];exact hj.lj,hj.j1,hj.j2,hj.j3,hj.ja,hj.jq⟩
theorem aeN (hj:Bh h p jb qa qb) {m:Nat} (nm:m≠p.f∧m≠p.bb∧m≠p.wb) (hmj:m≠jb) (cs:List PV) (x:gW):aC (dZ h p F jb cs) m x=dZ (aC h m x) p F jb cs:=by
 unfold dZ;rw[Ag (hj.fs cs) nm.1 nm.2.1 nm.2.2];congr 1;refine pJ (by simp[aJ]) fun n=>?_
 simp only[nN,aJ]
 by_cases h1:m=n
 ·subst h1
  rw[if_pos rfl,if_pos rfl,if_neg (Ne.symm hmj)]
 ·rw[if_neg h1,if_neg h1]
theorem ad0 (hj:Bh h p jb qa qb) (cs B:List PV):ay (dZ (ext h [.cells B]) p F jb cs) (size h)=some B:=by
 obtain⟨n1,n2,n3,n4⟩:=hj.new;rw[dZ,iU ((hj.ext _).fs cs) n1 n2 n3,bD (Ne.symm n4),aQ];rfl
def aaI (r:Rec):List PV:=[.int .i64 (r.key.toNat:Int),.sl .full 1 (aP r.val),.bool r.drop,.int .i64 (r.fin:Int)]
def zB:List PV:=[.int .i64 0,.bg,.bool false,.int .i64 0]
theorem aaL (base n0:Nat) {o:Own} (ho:Nf o) {b:List UInt8} (hb:b.length≤100000) (hbj:base≤jb) {m sz now:Nat} {ep:BitVec 32} (nm:m≠p.f∧m≠p.bb∧m≠p.wb) (hmj:m≠jb) (hbm:base≤m) :
  ∀ (n:Nat) {hh:Hp} {a:Nat} {vs:Vs},Bh hh p jb qa qb→bR hh m=some (pN vs)→a≤b.length→b.length-a<n→∃ g,
   abB base n0 (.ptr jb 0) (.sl o 1 (aP b)) (dZ hh p F jb (jW qa qb sz now ep a (.eL m))) =
    some (if(Rv b n a vs).1=0 then .cF [.bool (Rw b (Rv b n a vs).2.1),.int .i64 0] else .cF [.bool false,.int .i64 40],
     dZ (ext (aC hh m (.map (pN (Rv b n a vs).2.2))) g) p F jb (jW qa qb sz now ep (Rv b n a vs).2.1 (.eL m)))
 | 0,hh,a,vs,hj,hm,ha,hn=>by omega
 | n+1,hh,a,vs,hj,hm,ha,hn=>by
  have hlt:m<size hh:=bw (lg hm);have l5:(jW qa qb sz now ep a (.eL m))[5]?=some (.int .i64 (a:Int)):=rfl;have l6:∀ a,(jW qa qb sz now ep a (.eL m))[6]?=some (.eL m):=fun _=>rfl
  have wr5:∀ (x:Nat),bE (jW qa qb sz now ep a (.eL m)) 5 [.int .i64 (x:Int)]=jW qa qb sz now ep x (.eL m):=fun _=>rfl
  have wl:∀ n e f v,(jW qa qb sz n e f v).length=7:=fun _ _ _ _=>rfl
  have gj:=fun(hh:Hp) (hj:Bh hh p jb qa qb) (cs:List PV)=>Xz (F:=F) hj cs
  have sj:=fun(hh:Hp) (hj:Bh hh p jb qa qb) (cs ds:List PV)=>abm (F:=F) hj cs ds
  have gj0:=gj hh hj;have gj1:=fun B=>gj _ (hj.ext [.cells B])
  have sj1:=fun B=>sj _ (hj.ext [.cells B])
  have ex:=fun cs l=>ng (F:=F) hj cs l
  have gn:=fun cs B=>ad0 (F:=F) hj cs B
  have sn:=fun cs x y=>adY (F:=F) hj cs x y
  have sz0:=fun cs=>dH (F:=F) hj cs
  have hnx:=aef (h:=dZ hh p F jb (jW qa qb sz now ep a (.eL m))) base ho b a (by omega) ha;have hsh:¬ (size hh<base):=by omega
  have aa3:aC hh m (.map (pN vs))=hh:=jv (lg hm);rw[ad8];cases hnl:vA b a with
  | none =>
   rw[hnl]at hnx;have b0:oZ b.length b.length none=some b.length:=rfl;have b1:oZ b.length 0 (some (.int .i64 (a:Int)))=some a:=(gK _ _ _).trans (fV _ .i64 a (by omega));obtain⟨o1,p1,s1⟩:=slc (o:=o) b b1 b0;have e1:(b.drop a).take (b.length-a)=b.drop a:=by rw[List.take_of_length_le (by simp)]
   rw[e1]at s1;have htl:=fun H=>acM (h:=H) base n0 p1 (b.drop a) (by simp;omega) (b.drop a).length 0 (by omega)
   simp only[show((0:Nat):Int)=0 from rfl,List.drop_zero]at htl;have hlen:cB false (.sl o1 1 (aP (b.drop a)))=some (.int .i64 ((b.drop a).length:Int)):=by rw[fe,aM]
   generalize PV.sl o1 1 (aP (b.drop a))=W at s1 htl hlen;generalize PV.sl o 1 (aP b)=V at hnx s1 ⊢;refine⟨[.cells zB],?_⟩;simp only[Rv,hnl,if_true,aa3];simp only[gj0,gj1,l5,hnx,abe,ak3,sz0,ex,gn,sn,hsh,s1,hlen,htl,↓jY,jZ,j4,j5,Nat.reduceAdd,Nat.reduceSub,Nat.reduceMul,Nat.reduceLeDiff,Nat.reduceLT,Nat.reduceEqDiff,Nat.reduceBEq,reduceIte,reduceCtorEq,Int.reduceBEq,Int.reduceEq,Int.reduceLT,Int.reduceLE,Int.reduceGT,Int.reduceGE,Int.reduceAdd,Int.reduceSub,Int.reduceNeg,Int.reduceBNe,ite_true,ite_false,if_true,if_false,implies_true,forall_const]<;>rfl
  | some r =>
   rw[hnl]at hnx;obtain⟨f1,f2,f3,f4,f5,f6⟩:=acC hnl;have hrt:=fun H=>adK (h:=H) base ho b a r (by omega) (by omega) f2
   have hrV:ag0 r=.agg (aaI r):=rfl;rw[hrV]at hrt;generalize hV:PV.sl o 1 (aP b)=V at hnx hrt ⊢;have r0:(aaI r)[0]?=some (.int .i64 (r.key.toNat:Int)):=rfl;have r1:(aaI r)[1]?=some (.sl .full 1 (aP r.val)):=rfl;have r2:(aaI r)[2]?=some (.bool r.drop):=rfl;have r3:(aaI r)[3]?=some (.int .i64 (r.fin:Int)):=rfl;have rl:(aaI r).length=4:=rfl;have rsc:(aaI r).all scalar=true:=rfl;have rc:(PV.agg (aaI r)).cells=aaI r:=rfl;have rt:part (aaI r) 0 4 true=some (.agg (aaI r)):=rfl;have amw:bE [PV.int .i64 0,.bg,.bool false,.int .i64 0] 0 (aaI r)=aaI r:=rfl;simp only[Rv,hnl];cases hop:lP ((b.drop a).take (r.fin-1-a)) with
   | false =>
    rw[hop]at hrt;refine⟨[.cells (aaI r)],?_⟩;simp only[Bool.false_eq_true,if_false,aa3,show ¬ (40=0) from by decide];simp only[gj0,gj1,l5,hnx,abe,hrV,sz0,ex,gn,sn,hsh,rl,rsc,rc,rt,amw,hrt,↓jY,jZ,j4,j5,Nat.reduceAdd,Nat.reduceSub,Nat.reduceMul,Nat.reduceLeDiff,Nat.reduceLT,Nat.reduceEqDiff,Nat.reduceBEq,reduceIte,reduceCtorEq,Int.reduceBEq,Int.reduceEq,Int.reduceLT,Int.reduceLE,Int.reduceGT,Int.reduceGE,Int.reduceAdd,Int.reduceSub,Int.reduceNeg,Int.reduceBNe,ite_true,ite_false,if_true,if_false,implies_true,forall_const]
   | true =>
    rw[hop]at hrt;simp only[if_true];have hmx:∀ B,bR (dZ (ext hh [.cells B]) p F jb (jW qa qb sz now ep a (.eL m))) m=some (pN vs):=fun B =>
     (TT (F:=F) (hj.ext [.cells B]) _ (by rw[bR,dP hlt];exact hm) nm hmj).2
    have mv:∀ (B cs:List PV) (X:gW),aC (dZ (ext hh [.cells B]) p F jb cs) m X=dZ (ext (aC hh m X) [.cells B]) p F jb cs:=fun B cs X=>by
     rw[aeN (hj.ext [.cells B]) nm hmj,aak hlt]
    have gn2:∀ (X:gW) (cs B:List PV),ay (dZ (ext (aC hh m X) [.cells B]) p F jb cs) (size hh)=some B:=fun X cs B=>by
     have:=ad0 (F:=F) (hj.aeM hm hmj X) cs B;rwa [aJ]at this
    have gj2:=fun X B=>gj _ ((hj.aeM hm hmj X).ext [.cells B])
    have sj2:=fun X B=>sj _ ((hj.aeM hm hmj X).ext [.cells B])
    cases hdr:r.drop with
    | true =>
     rw[hdr]at r2;have hdl:=fun B=>aeI (h:=dZ (ext hh [.cells B]) p F jb (jW qa qb sz now ep a (.eL m))) base (m:=m) (vs:=vs) (hmx B) (r.key.toNat:Int)
     obtain⟨g,hg⟩:=aaL base n0 ho hb hbj nm hmj hbm n (hh:=ext (aC hh m (.map (pN (lV vs (r.key.toNat:Int))))) [.cells (aaI r)]) (a:=r.fin) (vs:=lV vs (r.key.toNat:Int)) ((hj.aeM hm hmj _).ext _)
      (by rw[bR,dP (by rw[aJ];exact hlt),cM hlt];rfl) f2 (by omega)
     refine⟨.cells (aaI r)::g,?_⟩;have e3:∀ x,ext (aC (ext (aC hh m (.map (pN (lV vs (r.key.toNat:Int))))) [.cells (aaI r)]) m x) g=ext (aC hh m x) (.cells (aaI r)::g):=fun x=>by
      rw[aak (by rw[aJ];exact hlt),fO];simp[ext]
     rw[e3]at hg;simp only[if_true];rw[hV]at hg;rw[←hg];simp only[gj0,gj1,gj2,sj2,l5,l6,hnx,abe,hrV,sz0,ex,gn,gn2,sn,hsh,rl,rsc,rc,rt,amw,hrt,r0,r2,r3,hdl,mv,wr5,wl,ite_self,↓jY,jZ,j4,j5,Nat.reduceAdd,Nat.reduceSub,Nat.reduceMul,Nat.reduceLeDiff,Nat.reduceLT,Nat.reduceEqDiff,Nat.reduceBEq,reduceIte,reduceCtorEq,Int.reduceBEq,Int.reduceEq,Int.reduceLT,Int.reduceLE,Int.reduceGT,Int.reduceGE,Int.reduceAdd,Int.reduceSub,Int.reduceNeg,Int.reduceBNe,ite_true,ite_false,if_true,if_false,implies_true,forall_const]
    | false =>
     rw[hdr]at r2;have hup:=fun B=>adv (h:=dZ (ext hh [.cells B]) p F jb (jW qa qb sz now ep a (.eL m))) base (m:=m) (vs:=vs) (hmx B) r.key.toNat (some r.val)
     have hcq:=fun H=>clQ (H:=H) base (v:=.sl .full 1 (aP r.val)) (pL (.inr rfl) r.val) (.inl rfl) (by omega)
     have Kf:cl (.sl .full 1 (aP r.val)) r.val=some r.val:=by unfold cl;rw[if_neg (by simp)]
     rw[Kf]at hcq;obtain⟨g,hg⟩:=aaL base n0 ho hb hbj nm hmj hbm n (hh:=ext (aC hh m (.map (pN (gN vs r.key.toNat (some r.val))))) [.cells (aaI r)]) (a:=r.fin) (vs:=gN vs r.key.toNat (some r.val)) ((hj.aeM hm hmj _).ext _)
      (by rw[bR,dP (by rw[aJ];exact hlt),cM hlt];rfl) f2 (by omega)
     refine⟨.cells (aaI r)::g,?_⟩;have e3:∀ x,ext (aC (ext (aC hh m (.map (pN (gN vs r.key.toNat (some r.val))))) [.cells (aaI r)]) m x) g=ext (aC hh m x) (.cells (aaI r)::g):=fun x=>by
      rw[aak (by rw[aJ];exact hlt),fO];simp[ext]
     rw[e3]at hg;simp only[Bool.false_eq_true,if_false];rw[hV]at hg;rw[←hg];simp only[gj0,gj1,gj2,sj2,l5,l6,hnx,abe,hrV,sz0,ex,gn,gn2,sn,hsh,rl,rsc,rc,rt,amw,hrt,r0,r1,r2,r3,hup,hcq,mv,wr5,wl,ite_self,↓jY,jZ,j4,j5,Nat.reduceAdd,Nat.reduceSub,Nat.reduceMul,Nat.reduceLeDiff,Nat.reduceLT,Nat.reduceEqDiff,Nat.reduceBEq,reduceIte,reduceCtorEq,Int.reduceBEq,Int.reduceEq,Int.reduceLT,Int.reduceLE,Int.reduceGT,Int.reduceGE,Int.reduceAdd,Int.reduceSub,Int.reduceNeg,Int.reduceBNe,ite_true,ite_false,if_true,if_false,implies_true,forall_const]
end Go.Am.Qd
namespace Go.Am.Qd
variable {h:Hp} {p:FP} {F:Fl} {jb qa qb:Nat}
def Rx (b:List UInt8):Nat × Nat × Vs:=Rv b (b.length+1) 8 []
theorem acj (b:List UInt8):∀ (n a:Nat) (vs:Vs),a≤b.length→Small vs→Keyed vs→(Rv b n a vs).2.1≤b.length∧Small (Rv b n a vs).2.2∧Keyed (Rv b n a vs).2.2∧a≤(Rv b n a vs).2.1∧((Rv b n a vs).1=0∨(Rv b n a vs).1=40)
 | 0,a,vs,ha,h1,h2=>⟨ha,h1,h2,Nat.le_refl _,.inl rfl⟩
 | n+1,a,vs,ha,h1,h2=>by
  simp only[Rv];cases hn:vA b a with
  | none=>exact⟨ha,h1,h2,Nat.le_refl _,.inl rfl⟩
  | some r =>
   obtain⟨f1,f2,f3,f4,f5,f6⟩:=acC hn;simp only;split
   ·by_cases hd:r.drop=true
    ·simp only[hd,if_true]
     obtain⟨g1,g2,g3,g4,g5⟩:=acj b n r.fin _ f2 (h1.lV (r.key.toNat:Int)) (h2.lV _);exact⟨g1,g2,g3,by omega,g5⟩
    ·simp only[hd,if_false,Bool.false_eq_true]
     obtain⟨g1,g2,g3,g4,g5⟩:=acj b n r.fin _ f2 (h1.gN h2 f5 (v:=some r.val) f4) (h2.gN _ _);exact⟨g1,g2,g3,by omega,g5⟩
   ·exact⟨ha,h1,h2,Nat.le_refl _,.inr rfl⟩
theorem qq:Small []:=⟨by simp,by simp⟩
theorem ni:Keyed []:=by simp[Keyed]
theorem adD (hj:Bh h p jb qa qb) {sz:Nat} (hF:Fq F sz) (hd:F.down=false) {base:Nat} (hb:base≤jb) {now fin:Nat} (lW:now≤1) {ep:BitVec 32} {mv:PV}:∃ g,
  ai T base 100 [.ptr jb 0] (dZ h p F jb (jW qa qb sz now ep fin mv)) =
   some (if(Rx (mN F now)).1=0 then .cF [.bool (Rw (mN F now) (Rx (mN F now)).2.1),.int .i64 0] else .cF [.bool false,.int .i64 40],
    dZ (ext h (.map (pN (Rx (mN F now)).2.2)::g)) p F jb (jW qa qb sz now ep (Rx (mN F now)).2.1 (.eL (size h)))):=by
 have hs2:=hF.small;have hs3:=hF.pos;have hgl:=TY hF lW;have hby:=ab5 hj hF hd base lW (now:=now) (ep:=ep) (fin:=fin) (mv:=mv);have hne:mN F now≠[]:=by intro hq;rw[hq]at hgl;simp at hgl;omega
 have Kf:BI (mN F now)=.sl .no 1 (aP (mN F now)):=by unfold BI;rw[if_neg hne]
 rw[Kf]at hby;obtain⟨n1,n2,n3,n4⟩:=hj.new;obtain⟨g,hg⟩:=aaL (F:=F) base (size h) (o:=.no) (.inl rfl) (b:=mN F now) (by omega) hb (m:=size h) (sz:=sz) (now:=now) (ep:=ep) ⟨n1,n2,n3⟩ n4 (by have:=hj.lj;omega) ((mN F now).length+1)
  (hh:=ext h [.map []]) (a:=8) (vs:=[]) (hj.ext _) (by rw[bR,cK rfl];rfl) (by omega) (by omega)
 refine⟨g,?_⟩;have e1:∀ X,ext (aC (ext h [.map []]) (size h) X) g=ext h (X::g):=fun X=>by
  have:aC (ext h [.map []]) (size h) X=ext h [X]:=by
   rw[eu (Nat.le_refl _)];simp
  rw[this];simp[ext]
 rw[e1]at hg;have gj0:=fun cs=>Xz (F:=F) hj cs
 have sj0:=fun cs ds=>abm (F:=F) hj cs ds
 have gj1:=fun B cs=>Xz (F:=F) (hj.ext [.map B]) cs
 have sj1:=fun B cs ds=>abm (F:=F) (hj.ext [.map B]) cs ds
 have ex:=fun cs l=>ng (F:=F) hj cs l
 have sz0:=fun cs=>dH (F:=F) hj cs
 have l3:(jW qa qb sz now ep fin mv)[3]?=some (.int .i64 (now:Int)):=rfl;have wr6:∀ v w,bE (jW qa qb sz now ep fin v) 6 [w]=jW qa qb sz now ep fin w:=fun _ _=>rfl
 have wr5:∀ v,bE (jW qa qb sz now ep fin v) 5 [.int .i64 8]=jW qa qb sz now ep 8 v:=fun _=>rfl
 have wl:∀ n e f v,(jW qa qb sz n e f v).length=7:=fun _ _ _ _=>rfl
 have hnb:(jb<base)=False:=by simp;omega
 rw[asU];simp only[dH hj,gj0,l3,hby,DH,ex,sz0,gj1,sj1,wr6,wr5,wl,hnb,ite_self,↓jY,jZ,j4,j5,Nat.reduceAdd,Nat.reduceSub,Nat.reduceMul,Nat.reduceLeDiff,Nat.reduceLT,Nat.reduceEqDiff,Nat.reduceBEq,reduceIte,reduceCtorEq,Int.reduceBEq,Int.reduceEq,Int.reduceLT,Int.reduceLE,Int.reduceGT,Int.reduceGE,Int.reduceAdd,Int.reduceSub,Int.reduceNeg,Int.reduceBNe,ite_true,ite_false,if_true,if_false,implies_true,forall_const];exact hg
end Go.Am.Qd
namespace Go.Am.Qd
variable {h:Hp} {p:FP} {F:Fl} {qa qb:Nat}
theorem aaW (A:Nat) (vs:Vs):∀ (ks:List Nat) {F:Fl} (a:Nat),(F.fill A a vs ks).2.1=0→(F.fill A a vs ks).1=a+kg vs ks
 | [],F,a,_=>by simp[Fl.fill,kg]
 | k::r,F,a,he=>by
  unfold Fl.fill at he ⊢;split at he
  ·rename_i hc
   rw[if_pos hc];rw[aaW A vs r _ he];simp[kg];omega
  ·rename_i hc
   exact absurd he hc
theorem s8 {sz:Nat} (hF:Fq F sz) {J:Jn} {vs:Vs} (hk:Keyed vs):Fq (F.move sz J vs).2.1 sz∧(F.move sz J vs).2.1.aj=F.aj ∧
  (∀ J',(F.move sz J vs).2.2=some J'→(F.move sz J vs).1=0∧J'.now=1-J.now∧J'.fin=cY vs∧cY vs≤sz∧J'.bM=J.bM+1#32)∧((F.move sz J vs).2.2=none→(F.move sz J vs).1≠0):=by
 unfold Fl.move;split
 ·exact⟨hF,rfl,fun J' h=>by simp at h,fun _=>by simp⟩
 rename_i c0;split
 ·exact⟨hF,rfl,fun J' h=>by simp at h,fun _=>by simp⟩
 simp only;obtain⟨f1,s1⟩:=hF.clear (2*(1-J.now)) 2 (by omega);split
 ·rename_i hc;exact⟨f1,s1,fun J' h=>by simp at h,fun _=>hc⟩
 obtain⟨f2,s2⟩:=f1.fill (2*(1-J.now)*F.aj) 8 vs (fz vs);split
 ·rename_i hc;exact⟨f2,s2.trans s1,fun J' h=>by simp at h,fun _=>hc⟩
 rename_i c2;obtain⟨f3,s3⟩:=f2.program (2*(1-J.now)*F.aj+1) (br (J.bM+1#32));split
 ·rename_i hc;exact⟨f3,s3.trans (s2.trans s1),fun J' h=>by simp at h,fun _=>hc⟩
 obtain⟨f4,s4⟩:=f3.program (2*(1-J.now)*F.aj+0) [0];split
 ·rename_i hc;exact⟨f4,s4.trans (s3.trans (s2.trans s1)),fun J' h=>by simp at h,fun _=>hc⟩
 ·refine⟨f4,s4.trans (s3.trans (s2.trans s1)),fun J' hJ=>?_,fun h=>by simp at h⟩
  simp only[Option.some.injEq]at hJ;subst hJ;refine⟨rfl,rfl,?_,by omega,rfl⟩;simp only;rw[aaW _ _ _ _ (by omega),kY hk]
def _root_.Go.Am.Fl.CE (F:Fl) (sz:Nat):Nat × Fl × Option (Jn × Vs) :=
 if F.down=true then(30,F,none) else
 let H:=AQ F 0 0#32
 if H.found=false then(let M:=F.move sz ⟨1,0,H.bM⟩ [];(M.1,M.2.1,M.2.2.map fun J=>(J,[]))) else
 let R:=Rx (mN F H.now)
 if R.1≠0 then(40,F,none) else
 if Rw (mN F H.now) R.2.1=true then(let M:=F.move sz ⟨H.now,R.2.1,H.bM⟩ R.2.2;(M.1,M.2.1,M.2.2.map fun J=>(J,R.2.2))) else(0,F,some (⟨H.now,R.2.1,H.bM⟩,R.2.2))
structure PO (h:Hp) (p:FP) (qa qb:Nat):Prop where
 fo:pI h p
 pa:gL h p qa 0 2
 pb:gL h p qb 2 2
theorem PO.j (ho:PO h p qa qb) (B:List PV):Bh (ext h [.cells B]) p (size h) qa qb :=
 ⟨ho.fo.ext _,ho.pa.ext _,ho.pb.ext _,by rw[aW];simp,by have:=ho.fo.lf;omega,by have:=ho.fo.lb;omega,by have:=ho.fo.lw;omega,
  by have:=bw (bq ho.pa.get);omega,by have:=bw (bq ho.pb.get);omega⟩
theorem adE (s:Hd) (F:Fl) {i:Nat} (hi:i≤1) (hs:s.now≤1):(s.look F i).now≤1:=by
 unfold Hd.look;split
 ·exact hi
 ·exact hs
theorem aeq (F:Fl) (now:Nat) (ep:BitVec 32) (hn:now≤1):(AQ F now ep).now≤1:=adE _ F (by omega) (adE _ F (by omega) hn)
theorem acn (ho:PO h p qa qb) {sz:Nat} (hF:Fq F sz) {base:Nat} (hb:base≤size h):∃ g cs,
  ai T base 63 [.ptr qa 0,.ptr qb 0] (cv h p F)=some (match (F.CE sz).2.2 with | some _=>.cF [.ptr (size h) 0,.int .i64 0] | none=>.cF [.bp,.int .i64 ((F.CE sz).1:Nat)],dZ (ext h g) p (F.CE sz).2.1 (size h) cs) ∧
  ∀ J vs,(F.CE sz).2.2=some (J,vs)→∃ m,JS (ext h g) p (F.CE sz).2.1 (size h) qa qb sz m J vs∧cs=jC qa qb sz J m:=by
 have hs2:=hF.small;have hs3:=hF.pos;have hsz:=hF.sz;obtain⟨B,hB⟩ : ∃ B:List PV,B=jW qa qb sz 0 0#32 0 .gu:=⟨_,rfl⟩;have hj:=ho.j B;have pa:=fun b=>J6 (F:=F) ho.fo ho.pa b (by omega)
 have pb:=fun b=>J6 (F:=F) ho.fo ho.pb b (by omega)
 rw[←hsz]at pa pb;have aa3:ext (cv h p F) [.cells B]=dZ (ext h [.cells B]) p F (size h) B:=by
  rw[Af ho.fo];exact aek (by rw[aQ];rfl)
 have fa:∀ b,ai T b 87 [.ptr qa 0] (dZ (ext h [.cells B]) p F (size h) B)=some (.ptr p.f 0,dZ (ext h [.cells B]) p F (size h) B):=fun b=>GI (F:=F) (hj.fs B) (hj.qa' B) b
 have fb:∀ b,ai T b 87 [.ptr qb 0] (dZ (ext h [.cells B]) p F (size h) B)=some (.ptr p.f 0,dZ (ext h [.cells B]) p F (size h) B):=fun b=>GI (F:=F) (hj.fs B) (hj.qb' B) b
 have fd:∀ b,ai T b 41 [.ptr p.f 0] (dZ (ext h [.cells B]) p F (size h) B)=some (.bool F.down,dZ (ext h [.cells B]) p F (size h) B):=fun b=>NK (F:=F) (hj.fs B) b
 have Yv:tK 7 (.agg B) (cv h p F)=some (.ptr (size h) 0,dZ (ext h [.cells B]) p F (size h) B):=by
  rw[←aa3,←bS (h:=h) (p:=p) (F:=F),hB];rfl
 have aaO:(dz [.bp,.bp] [(0,1,.ptr qa 0),(1,1,.ptr qb 0)])=some (.agg [.ptr qa 0,.ptr qb 0]):=rfl;have hmin:jI false [.int .i64 (sz:Int),.int .i64 (sz:Int)]=some (.int .i64 (sz:Int)):=by
  show some (PV.int .i64 (if(sz:Int)<sz then(sz:Int) else sz))=_;simp
 have aaK:dz [.bp,.bp,(.int .i64 0),(.int .i64 0),(.int .u32 0),(.int .i64 0),.gu] [(0,2,.agg [.ptr qa 0,.ptr qb 0]),(2,1,.int .i64 (sz:Int))]=some (.agg B):=by rw[hB];rfl
 have l2:B[2]?=some (.int .i64 (sz:Int)):=by rw[hB];rfl
 have gj0:=fun F cs=>Xz (F:=F) hj cs
 have d32:decide ((sz:Int)<32)=false:=by simp;omega
 unfold Fl.CE;rw[S63]
 by_cases c1:F.down=true
 ·rw[if_pos c1]
  rw[c1]at fd;refine⟨[.cells B],B,?_,fun J vs hq=>by simp at hq⟩;simp only[aaO,pa,pb,hmin,aaK,Yv,fa,fb,fd,↓jY,jZ,j4,j5,Nat.reduceAdd,Nat.reduceSub,Nat.reduceMul,Nat.reduceLeDiff,Nat.reduceLT,Nat.reduceEqDiff,Nat.reduceBEq,reduceIte,reduceCtorEq,Int.reduceBEq,Int.reduceEq,Int.reduceLT,Int.reduceLE,Int.reduceGT,Int.reduceGE,Int.reduceAdd,Int.reduceSub,Int.reduceNeg,Int.reduceBNe,ite_true,ite_false,if_true,if_false,implies_true,forall_const]<;>rfl
 rw[if_neg c1];have c1':F.down=false:=by simpa using c1
 rw[c1']at fd;have hhd:=adP hj hF c1' base 0 0#32 (fin:=0) (mv:=.gu);have lW:=aeq F 0 0#32 (by omega);simp only;generalize hH:AQ F 0 0#32=H at *;have adF:ai T base 98 [.ptr (size h) 0] (dZ (ext h [.cells B]) p F (size h) B)=some (.cF [.bool H.found,.int .i64 0],dZ (ext h [.cells B]) p F (size h) (jW qa qb sz H.now H.bM 0 .gu)):=by rw[hB];rw[hB]at hhd;exact hhd
 have e2:∀ l,ext (ext h [.cells B]) l=ext h (.cells B::l):=fun l=>by simp[ext]
 have axJ:size h<size (ext h [.cells B]):=by rw[aW];simp
 clear hhd aa3;generalize ext h [.cells B]=h1 at *;have hnb:(size h<base)=False:=by simp;omega
 by_cases c2:H.found=false
 ·rw[if_pos c2]
  rw[c2]at adF;obtain⟨n1,n2,n3,n4⟩:=hj.new;have hm1:bR (ext h1 [.map (pN [])]) (size h1)=some (pN []):=by rw[bR,cK rfl];rfl
  have hmv:=aa0 (F:=F) (hj.ext [.map (pN [])]) hb (m:=size h1) (m':=size h1) (J:=⟨1,0,H.bM⟩) hm1 ⟨n1,n2,n3⟩ n4 qq ni hF (Nat.le_refl 1);obtain⟨v1,v2,v3,v4⟩:=s8 hF (J:=⟨1,0,H.bM⟩) ni;simp only;generalize F.move sz ⟨1,0,H.bM⟩ []=M at *;have ex:=fun cs l=>ng (F:=F) hj cs l
  have sz0:=fun cs=>dH (F:=F) hj cs
  have gj1:=fun B' F cs=>Xz (F:=F) (hj.ext [.map B']) cs
  have sj1:=fun B' F cs ds=>abm (F:=F) (hj.ext [.map B']) cs ds
  have wr6:∀ n v w,bE (jW qa qb sz n H.bM 0 v) 6 [w]=jW qa qb sz n H.bM 0 w:=fun _ _ _=>rfl
  have wr3:∀ n v,bE (jW qa qb sz n H.bM 0 v) 3 [.int .i64 1]=jW qa qb sz 1 H.bM 0 v:=fun _ _=>rfl
  have wl:∀ n e f v,(jW qa qb sz n e f v).length=7:=fun _ _ _ _=>rfl
  have l6:∀ n e f v,(jW qa qb sz n e f v)[6]?=some v:=fun _ _ _ _=>rfl
  have ac6:ai T base 99 [.ptr (size h) 0,.eL (size h1)] (dZ (ext h1 [.map []]) p F (size h) (jW qa qb sz 1 H.bM 0 (.eL (size h1))))=_:=hmv;cases hM:M.2.2 with
  | none =>
   have d5:((M.1:Int) != 0)=true:=by have:=v4 hM;simpa using this
   rw[hM]at ac6;refine⟨[.cells B,.map (pN [])],jC qa qb sz ⟨1,0,H.bM⟩ (size h1),?_,fun J vs hq=>by simp at hq⟩;rw[←e2];simp only[aaO,pa,pb,hmin,aaK,Yv,fa,fb,fd,gj0,l2,d32,adF,DH,ex,sz0,gj1,sj1,wr6,wr3,wl,l6,hnb,ite_self,ac6,d5,↓jY,jZ,j4,j5,Nat.reduceAdd,Nat.reduceSub,Nat.reduceMul,Nat.reduceLeDiff,Nat.reduceLT,Nat.reduceEqDiff,Nat.reduceBEq,reduceIte,reduceCtorEq,Int.reduceBEq,Int.reduceEq,Int.reduceLT,Int.reduceLE,Int.reduceGT,Int.reduceGE,Int.reduceAdd,Int.reduceSub,Int.reduceNeg,Int.reduceBNe,ite_true,ite_false,if_true,if_false,implies_true,forall_const]<;>rfl
  | some J' =>
   obtain⟨w1,w2,w3,w4,w5⟩:=v3 J' hM;have d5:((M.1:Int) != 0)=false:=by rw[w1];rfl
   rw[hM]at ac6;refine⟨[.cells B,.map (pN [])],jC qa qb sz J' (size h1),?_,fun J vs hq=>?_⟩
   ·rw[←e2]
    simp only[aaO,pa,pb,hmin,aaK,Yv,fa,fb,fd,gj0,l2,d32,adF,DH,ex,sz0,gj1,sj1,wr6,wr3,wl,l6,hnb,ite_self,ac6,d5,↓jY,jZ,j4,j5,Nat.reduceAdd,Nat.reduceSub,Nat.reduceMul,Nat.reduceLeDiff,Nat.reduceLT,Nat.reduceEqDiff,Nat.reduceBEq,reduceIte,reduceCtorEq,Int.reduceBEq,Int.reduceEq,Int.reduceLT,Int.reduceLE,Int.reduceGT,Int.reduceGE,Int.reduceAdd,Int.reduceSub,Int.reduceNeg,Int.reduceBNe,ite_true,ite_false,if_true,if_false,implies_true,forall_const]
   ·simp only[Option.map_some,Option.some.injEq,Prod.mk.injEq]at hq
    obtain⟨rfl,rfl⟩:=hq;rw[←e2];exact⟨_,⟨hj.ext _,hm1,⟨n1,n2,n3⟩,n4,qq,ni,v1,by rw[w2];simp,by omega⟩,rfl⟩
 ·rw[if_neg c2]
  have c2':H.found=true:=by simpa using c2
  rw[c2']at adF;obtain⟨n1,n2,n3,n4⟩:=hj.new;obtain⟨g,hg⟩:=adD hj hF c1' hb lW (ep:=H.bM) (fin:=0) (mv:=.gu);have hgl:=TY hF lW;obtain⟨q1,q2,q3,q4,q5⟩:=acj (mN F H.now) ((mN F H.now).length+1) 8 [] (by omega) qq ni;change (Rx (mN F H.now)).2.1≤_ at q1;change Small (Rx (mN F H.now)).2.2 at q2;change Keyed (Rx (mN F H.now)).2.2 at q3;change (Rx (mN F H.now)).1=0∨_ at q5;generalize Rx (mN F H.now)=R at *
  by_cases c3:R.1≠0
  ·rw[if_pos c3]
   rw[if_neg c3]at hg;refine⟨.cells B::.map (pN R.2.2)::g,jW qa qb sz H.now H.bM R.2.1 (.eL (size h1)),?_,fun J vs hq=>by simp at hq⟩;rw[←e2];simp only[aaO,pa,pb,hmin,aaK,Yv,fa,fb,fd,gj0,l2,d32,adF,hg,↓jY,jZ,j4,j5,Nat.reduceAdd,Nat.reduceSub,Nat.reduceMul,Nat.reduceLeDiff,Nat.reduceLT,Nat.reduceEqDiff,Nat.reduceBEq,reduceIte,reduceCtorEq,Int.reduceBEq,Int.reduceEq,Int.reduceLT,Int.reduceLE,Int.reduceGT,Int.reduceGE,Int.reduceAdd,Int.reduceSub,Int.reduceNeg,Int.reduceBNe,ite_true,ite_false,if_true,if_false,implies_true,forall_const]<;>rfl
  rw[if_neg c3];rw[if_pos (by omega)]at hg;have hjr:=hj.ext (.map (pN R.2.2)::g);have hmr:bR (ext h1 (.map (pN R.2.2)::g)) (size h1)=some (pN R.2.2):=by rw[bR,cK rfl];rfl
  by_cases c4:Rw (mN F H.now) R.2.1=true
  ·rw[if_pos c4]
   rw[c4]at hg;have hmv:=aa0 (F:=F) hjr hb (m:=size h1) (m':=size h1) (J:=⟨H.now,R.2.1,H.bM⟩) hmr ⟨n1,n2,n3⟩ n4 q2 q3 hF lW;obtain⟨v1,v2,v3,v4⟩:=s8 hF (J:=⟨H.now,R.2.1,H.bM⟩) q3;generalize F.move sz ⟨H.now,R.2.1,H.bM⟩ R.2.2=M at *;have gj1:=fun F cs=>Xz (F:=F) hjr cs
   have l6:∀ n e f v,(jW qa qb sz n e f v)[6]?=some v:=fun _ _ _ _=>rfl
   have ac6:ai T base 99 [.ptr (size h) 0,.eL (size h1)] (dZ (ext h1 (.map (pN R.2.2)::g)) p F (size h) (jW qa qb sz H.now H.bM R.2.1 (.eL (size h1))))=_:=hmv;cases hM:M.2.2 with
   | none =>
    have d5:((M.1:Int) != 0)=true:=by have:=v4 hM;simpa using this
    rw[hM]at ac6;refine⟨.cells B::.map (pN R.2.2)::g,jC qa qb sz ⟨H.now,R.2.1,H.bM⟩ (size h1),?_,fun J vs hq=>by simp at hq⟩;rw[←e2];simp only[aaO,pa,pb,hmin,aaK,Yv,fa,fb,fd,gj0,l2,d32,adF,hg,gj1,l6,ac6,d5,↓jY,jZ,j4,j5,Nat.reduceAdd,Nat.reduceSub,Nat.reduceMul,Nat.reduceLeDiff,Nat.reduceLT,Nat.reduceEqDiff,Nat.reduceBEq,reduceIte,reduceCtorEq,Int.reduceBEq,Int.reduceEq,Int.reduceLT,Int.reduceLE,Int.reduceGT,Int.reduceGE,Int.reduceAdd,Int.reduceSub,Int.reduceNeg,Int.reduceBNe,ite_true,ite_false,if_true,if_false,implies_true,forall_const]<;>rfl
   | some J' =>
    obtain⟨w1,w2,w3,w4,w5⟩:=v3 J' hM;have d5:((M.1:Int) != 0)=false:=by rw[w1];rfl
    rw[hM]at ac6;refine⟨.cells B::.map (pN R.2.2)::g,jC qa qb sz J' (size h1),?_,fun J vs hq=>?_⟩
    ·rw[←e2]
     simp only[aaO,pa,pb,hmin,aaK,Yv,fa,fb,fd,gj0,l2,d32,adF,hg,gj1,l6,ac6,d5,↓jY,jZ,j4,j5,Nat.reduceAdd,Nat.reduceSub,Nat.reduceMul,Nat.reduceLeDiff,Nat.reduceLT,Nat.reduceEqDiff,Nat.reduceBEq,reduceIte,reduceCtorEq,Int.reduceBEq,Int.reduceEq,Int.reduceLT,Int.reduceLE,Int.reduceGT,Int.reduceGE,Int.reduceAdd,Int.reduceSub,Int.reduceNeg,Int.reduceBNe,ite_true,ite_false,if_true,if_false,implies_true,forall_const]
    ·simp only[Option.map_some,Option.some.injEq,Prod.mk.injEq]at hq
     obtain⟨rfl,rfl⟩:=hq;rw[←e2];exact⟨_,⟨hjr,hmr,⟨n1,n2,n3⟩,n4,q2,q3,v1,by rw[w2];simp only;omega,by omega⟩,rfl⟩
  ·rw[if_neg c4]
   have c4':Rw (mN F H.now) R.2.1=false:=by simpa using c4
   rw[c4']at hg;refine⟨.cells B::.map (pN R.2.2)::g,jC qa qb sz ⟨H.now,R.2.1,H.bM⟩ (size h1),?_,fun J vs hq=>?_⟩
   ·rw[←e2]
    simp only[aaO,pa,pb,hmin,aaK,Yv,fa,fb,fd,gj0,l2,d32,adF,hg,↓jY,jZ,j4,j5,Nat.reduceAdd,Nat.reduceSub,Nat.reduceMul,Nat.reduceLeDiff,Nat.reduceLT,Nat.reduceEqDiff,Nat.reduceBEq,reduceIte,reduceCtorEq,Int.reduceBEq,Int.reduceEq,Int.reduceLT,Int.reduceLE,Int.reduceGT,Int.reduceGE,Int.reduceAdd,Int.reduceSub,Int.reduceNeg,Int.reduceBNe,ite_true,ite_false,if_true,if_false,implies_true,forall_const]<;>rfl
   ·simp only[Option.some.injEq,Prod.mk.injEq]at hq
    obtain⟨rfl,rfl⟩:=hq;rw[←e2];exact⟨_,⟨hjr,hmr,⟨n1,n2,n3⟩,n4,q2,q3,hF,lW,by simp only;omega⟩,rfl⟩
end Go.Am.Qd
namespace Go.Am.Qd
def NC (F:Fl):Prop:=F.left=-1∧F.down=false
def fY (F:Fl) (a n:Nat):Prop:=∀ i,a≤i→i<a+n→F.b.getD i 0=255
def Out (F G:Fl) (a n:Nat):Prop:=∀ i,(i<a∨a+n≤i)→G.b.getD i 0=F.b.getD i 0
theorem fY.sub {F:Fl} {a n a' n':Nat} (h:fY F a n) (h1:a≤a') (h2:a'+n'≤a+n):fY F a' n':=fun i q1 q2=>h i (by omega) (by omega)
theorem Out.sub {F G:Fl} {a n a' n':Nat} (h:Out F G a n) (h1:a'≤a) (h2:a+n≤a'+n'):Out F G a' n':=fun i q=>h i (by omega)
theorem Out.trans {F G H:Fl} {a n:Nat} (h:Out F G a n) (h':Out G H a n):Out F H a n:=fun i q=>(h' i q).trans (h i q)
theorem fY.out {F G:Fl} {a n a' n':Nat} (h:fY F a n) (ho:Out F G a' n') (hd:a+n≤a'∨a'+n'≤a):fY G a n:=fun i q1 q2=>by
 rw[ho i (by omega)];exact h i q1 q2
theorem s9:∀ (l:List UInt8) {F:Fl} (i:Nat),NC F→i+l.length≤F.b.length→(F.prog i l).1=0∧NC (F.prog i l).2 ∧
  ∀ j,(F.prog i l).2.b.getD j 0=if i≤j∧j<i+l.length then l.getD (j-i) 0 else F.b.getD j 0
 | [],F,i,hn,hl=>⟨rfl,hn,fun j=>by rw[if_neg (by simp)];rfl⟩
 | c::r,F,i,hn,hl=>by
  simp only[List.length_cons]at hl;have ht:F.cD i c=(true,{ F with left:=F.left,b:=F.b.set i c,di:=min (F.di+1) 1073741824 }):=by
   unfold Fl.cD;rw[if_neg (by rw[hn.1];omega),if_neg (by rw[hn.1];omega)]
  have hn':NC (F.cD i c).2:=by rw[ht];exact hn
  obtain⟨h1,h2,h3⟩:=s9 r (i+1) hn' (by rw[ht];simp;omega);have hq:F.prog i (c::r)=(F.cD i c).2.prog (i+1) r:=by rw[Fl.prog,if_pos (by rw[ht])]
  rw[hq];refine⟨h1,h2,fun j=>?_⟩;rw[h3 j,ht];simp only[List.length_cons]
  by_cases hj:j=i
  ·subst hj
   rw[if_neg (by omega),if_pos (by omega)];have:j<F.b.length:=by omega
   simp[this]
  ·by_cases h4:i+1≤j∧j<i+1+r.length
   ·rw[if_pos h4,if_pos (by omega),show j-i=(j-(i+1))+1 by omega]
    simp
   ·rw[if_neg h4,if_neg (by omega)]
    simp[List.getElem?_set_ne (show i≠j by omega)]
theorem Ry {F:Fl} {i:Nat} {l:List UInt8} (hn:NC F) (hl:i+l.length≤F.b.length):Out F (F.prog i l).2 i l.length:=fun j q=>by
 rw[(s9 l i hn hl).2.2 j,if_neg (by omega)]
theorem rI {F:Fl} {a:Nat} {l:List UInt8} (h:fY F a l.length):F.clears a l=true:=by
 unfold Fl.clears;rw[List.all_eq_true];rintro⟨c,i⟩ hm;have hi:=List.mem_zipIdx hm;simp only[Nat.zero_add]at hi;have:=h (a+i) (by omega) (by omega);simp only[this];have:c &&& ~~~ (255:UInt8)=0:=by
  have : ~~~ (255:UInt8)=0:=by decide
  rw[this];simp
 rw[this];rfl
theorem nS {F:Fl} {a:Nat} {l:List UInt8} (hn:NC F) (hl:a+l.length≤F.b.length) (h:fY F a l.length):(F.program a l).1=0∧NC (F.program a l).2∧Out F (F.program a l).2 a l.length:=by
 have hq:F.program a l=F.prog a l:=by
  unfold Fl.program;rw[if_neg (by rw[hn.2];simp),if_pos (rI h)]
 rw[hq];obtain⟨h1,h2,h3⟩:=s9 l a hn hl;exact⟨h1,h2,Ry hn hl⟩
theorem Rz {F:Fl} {a:Nat} {l:List UInt8} (hF:gO F) (hn:NC F) (hl:a+(l.length+1)≤F.b.length) (h:fY F a (l.length+1)):(F.lay a l).1=0∧NC (F.lay a l).2∧Out F (F.lay a l).2 a (l.length+1):=by
 obtain⟨h1,h2,h3⟩:=nS (l:=l) hn (by omega) (h.sub (Nat.le_refl _) (by omega));obtain⟨g1,g2,g3,g4⟩:=hF.program a l;unfold Fl.lay;rw[if_pos h1];obtain⟨k1,k2,k3⟩:=nS (F:=(F.program a l).2) (a:=a+l.length) (l:=[0]) h2 (by rw[g2];simp;omega) ((h.sub (a':=a+l.length) (n':=1) (by omega) (by omega)).out h3 (.inr (Nat.le_refl _)));exact⟨k1,k2,(h3.sub (Nat.le_refl _) (by omega)).trans (k3.sub (by omega) (by simp;omega))⟩
theorem LW (A:Nat) (vs:Vs):∀ (ks:List Nat) {F:Fl} (a:Nat),gO F→NC F→A+a+kg vs ks≤F.b.length→fY F (A+a) (kg vs ks) →
  (F.fill A a vs ks).2.1=0∧NC (F.fill A a vs ks).2.2∧Out F (F.fill A a vs ks).2.2 (A+a) (kg vs ks)
 | [],F,a,hF,hn,hl,h=>⟨rfl,hn,fun _ _=>rfl⟩
 | k::r,F,a,hF,hn,hl,h=>by
  have hs:kg vs (k::r)=(7+(vB ((cP vs k).getD none)).length)+kg vs r:=by simp[kg]
  rw[hs]at hl h;have hbl:(dF (UInt8.ofNat k) (vB ((cP vs k).getD none)) false).length=(vB ((cP vs k).getD none)).length+6:=eC _ _ _;unfold Fl.fill;generalize (vB ((cP vs k).getD none))=v at *;generalize dF (UInt8.ofNat k) v false=bd at *;obtain⟨h1,h2,h3⟩:=Rz (F:=F) (a:=A+a) (l:=bd) hF hn (by omega) (h.sub (Nat.le_refl _) (by omega));obtain⟨g1,g2,g3,g4⟩:=hF.lay (A+a) bd;rw[if_pos h1];obtain⟨k1,k2,k3⟩:=LW A vs r (a+(7+v.length)) g1 h2 (by rw[g2];omega) ((h.sub (a':=A+(a+(7+v.length))) (n':=kg vs r) (by omega) (by omega)).out h3 (.inr (by omega)));rw[hs];exact⟨k1,k2,(h3.sub (Nat.le_refl _) (by omega)).trans (k3.sub (by omega) (by omega))⟩
theorem AR {F:Fl} {s:Nat} (hn:NC F) (hl:s*F.aj+F.aj≤F.b.length):(F.erase s).1=0∧NC (F.erase s).2∧fY (F.erase s).2 (s*F.aj) F.aj∧Out F (F.erase s).2 (s*F.aj) F.aj:=by
 unfold Fl.erase;rw[if_neg (by rw[hn.2];simp)];obtain⟨h1,h2,h3⟩:=s9 (List.replicate F.aj 255) (F:={ F with bN:=F.bN.set s (min (F.bN.getD s 0+1) 1073741824) }) (s*F.aj) hn (by simpa using hl);refine⟨h1,h2,fun i q1 q2=>?_,fun i q=>?_⟩
 ·rw[h3 i,List.length_replicate,if_pos ⟨q1,q2⟩]
  have:i-s*F.aj<F.aj:=by omega
  simp[this]
 ·rw[h3 i,List.length_replicate,if_neg (by omega)]
theorem N9 {F:Fl} {s:Nat} (hF:gO F) (hn:NC F) (hw:s+2≤F.bN.length) (hl:(s+2)*F.aj≤F.b.length):(F.clear s 2).1=0∧NC (F.clear s 2).2∧fY (F.clear s 2).2 (s*F.aj) (2*F.aj)∧Out F (F.clear s 2).2 (s*F.aj) (2*F.aj):=by
 have e1:(s+1)*F.aj=s*F.aj+F.aj:=Nat.succ_mul _ _;have e2:(s+2)*F.aj=s*F.aj+2*F.aj:=Nat.add_mul _ _ _;obtain⟨h1,h2,h3,h4⟩:=AR (F:=F) (s:=s) hn (by omega);obtain⟨g1,g2,g3,g4⟩:=hF.erase s (by omega);obtain⟨k1,k2,k3,k4⟩:=AR (F:=(F.erase s).2) (s:=s+1) h2 (by rw[g4,g2];omega);rw[g4,e1]at k3 k4;have hq:F.clear s 2=(0,((F.erase s).2.erase (s+1)).2):=by
  rw[Fl.clear,if_pos h1,Fl.clear,if_pos k1];rfl
 rw[hq];refine⟨rfl,k2,fun i q1 q2=>?_,fun i q=>?_⟩
 ·by_cases hi:i<s*F.aj+F.aj
  ·rw[k4 i (by omega)];exact h3 i q1 hi
  ·exact k3 i (by omega) (by omega)
 ·rw[k4 i (by omega),h4 i (by omega)]
end Go.Am.Qd
namespace Go.Am.Qd
theorem RA (vs:Vs):8≤cY vs:=by unfold cY;omega
theorem D2 {F:Fl} {sz:Nat} (hF:Fq F sz) (hn:NC F) {J:Jn} (lW:J.now≤1) {vs:Vs} (hk:Keyed vs) (hsz:cY vs≤sz) (hep:J.bM≠4294967295#32) :
  ∃ F',F.move sz J vs=(0,F',some ⟨1-J.now,cY vs,J.bM+1#32⟩)∧NC F'∧fY F' (2*(1-J.now)*F.aj+cY vs) (sz-cY vs)∧Out F F' (2*(1-J.now)*F.aj) sz:=by
 have hs:=hF.sz;have hlen:=hF.len;have hpos:=hF.pos;have hge:=RA vs;have hA:2*(1-J.now)*F.aj+2*F.aj≤F.b.length:=by
  have:=Nat.mul_le_mul_right F.aj (show 2*(1-J.now)+2≤4 by omega);rw[Nat.add_mul]at this;omega
 obtain⟨c1,c2,c3,c4⟩:=N9 (F:=F) (s:=2*(1-J.now)) hF.fin hn (by have:=hF.bN;omega) (by rw[Nat.add_mul];exact hA);obtain⟨f1,s1⟩:=hF.clear (2*(1-J.now)) 2 (by omega);have l1:=f1.len;have r1:=f1.room (n:=2*(1-J.now)) (by omega);rw[s1]at r1;have hsum:=kY hk;obtain⟨d1,d2,d3⟩:=LW (2*(1-J.now)*F.aj) vs (fz vs) (F:=(F.clear (2*(1-J.now)) 2).2) 8 f1.fin c2 (by omega) (c3.sub (by omega) (by omega));obtain⟨f2,s2⟩:=f1.fill (2*(1-J.now)*F.aj) 8 vs (fz vs);have l2:=f2.len;have r2:=f2.room (n:=2*(1-J.now)) (by omega);rw[s2,s1]at r2;have hb4:(br (J.bM+1#32)).length=4:=rfl;have c3':=c3.sub (a':=2*(1-J.now)*F.aj) (n':=8) (Nat.le_refl _) (by omega);have z1:=c3'.out d3 (.inl (by omega));unfold Fl.move;rw[if_neg (by omega),if_neg hep];simp only;rw[if_neg (by omega)];generalize hG:(F.clear (2*(1-J.now)) 2).2.fill (2*(1-J.now)*F.aj) 8 vs (fz vs)=G at *;have hend:G.1=cY vs:=by rw[←hsum,←hG];exact aaW _ _ _ _ (by rw[hG];exact d1)
 rw[if_neg (by omega)];obtain⟨e1,e2,e3⟩:=nS (F:=G.2.2) (a:=2*(1-J.now)*F.aj+1) (l:=br (J.bM+1#32)) d2 (by rw[hb4];omega) (z1.sub (by omega) (by rw[hb4];omega));obtain⟨f3,s3⟩:=f2.program (2*(1-J.now)*F.aj+1) (br (J.bM+1#32));have l3:=f3.len;have r3:=f3.room (n:=2*(1-J.now)) (by omega);rw[s3,s2,s1]at r3;rw[if_neg (by omega)];generalize hW:G.2.2.program (2*(1-J.now)*F.aj+1) (br (J.bM+1#32))=W at *;rw[hb4]at e3;have z2:=(z1.sub (a':=2*(1-J.now)*F.aj+0) (n':=1) (by omega) (by omega)).out e3 (.inl (by omega));obtain⟨g1,g2,g3⟩:=nS (F:=W.2) (a:=2*(1-J.now)*F.aj+0) (l:=[0]) e2 (by simp;omega) z2;rw[if_neg (by omega),hend];refine⟨_,rfl,g2,?_,?_⟩
 ·have y1:=(c3.sub (a':=2*(1-J.now)*F.aj+cY vs) (n':=sz-cY vs) (by omega) (by omega)).out d3 (.inr (by omega))
  have y2:=y1.out e3 (.inr (by omega));exact y2.out g3 (.inr (by simp;omega))
 ·have o1:=c4.sub (a':=2*(1-J.now)*F.aj) (n':=sz) (Nat.le_refl _) (by omega)
  have o2:=d3.sub (a':=2*(1-J.now)*F.aj) (n':=sz) (by omega) (by omega);have o3:=e3.sub (a':=2*(1-J.now)*F.aj) (n':=sz) (by omega) (by omega);have o4:=g3.sub (a':=2*(1-J.now)*F.aj) (n':=sz) (by omega) (by simp;omega);exact((o1.trans o2).trans o3).trans o4
def JI (F:Fl) (J:Jn) (sz:Nat):Prop:=NC F∧fY F (2*J.now*F.aj+J.fin) (sz-J.fin)
theorem RB {F:Fl} {sz:Nat} (hF:Fq F sz) {J:Jn} (lW:J.now≤1) (hfin:J.fin≤sz) (hj:JI F J sz) {b:List UInt8} {vs:Vs} (hk:Keyed vs) (hsz:cY vs≤sz) (hep:J.bM≠4294967295#32) :
  ∃ F' J',F.gi sz J b vs=(0,F',some J')∧Fq F' sz∧F'.aj=F.aj∧JI F' J' sz∧J'.now≤1∧J'.fin≤sz ∧
   (if sz-J.fin<b.length+1 then J'.fin=cY vs∧J'.bM=J.bM+1#32 else J'.fin=J.fin+(b.length+1)∧J'.bM=J.bM):=by
 have hs:=hF.sz;have hlen:=hF.len;unfold Fl.gi;rw[if_neg (by omega)]
 by_cases h1:sz-J.fin<b.length+1
 ·rw[if_pos h1]
  simp only[if_pos h1];obtain⟨v1,v2,v3,v4⟩:=s8 hF (J:=J) hk;obtain⟨F',e1,e2,e3,e4⟩:=D2 hF hj.1 lW hk hsz hep;rw[e1]at v1 v2;simp only at v1 v2;exact⟨F',_,e1,v1,v2,⟨e2,by rw[v2];exact e3⟩,by simp only;omega,hsz,rfl,rfl⟩
 ·rw[if_neg h1]
  simp only[if_neg h1];have hA:2*J.now*F.aj+2*F.aj≤F.b.length:=by
   have:=Nat.mul_le_mul_right F.aj (show 2*J.now+2≤4 by omega);rw[Nat.add_mul]at this;omega
  obtain⟨l1,l2,l3⟩:=Rz (F:=F) (a:=2*J.now*F.aj+J.fin) (l:=b) hF.fin hj.1 (by omega) (hj.2.sub (Nat.le_refl _) (by omega));obtain⟨f1,s1⟩:=hF.lay (2*J.now*F.aj+J.fin) b;rw[if_neg (by omega)];refine⟨_,_,rfl,f1,s1,⟨l2,?_⟩,lW,by simp only;omega,rfl,rfl⟩;simp only;rw[s1];exact(hj.2.sub (a':=2*J.now*F.aj+(J.fin+(b.length+1))) (n':=sz-(J.fin+(b.length+1))) (by omega) (by omega)).out l3 (.inr (by omega))
/-! ### An erased cX -/
theorem abx {n s:Nat} (h4:4≤n):4*s≤(rH n s).b.length:=by
 show 4*s≤(List.replicate (n*s) (255:UInt8)).length;rw[List.length_replicate];exact Nat.mul_le_mul_right s h4
theorem fq0 {n s:Nat} (h4:4≤n) (HO:n≤64) (h1:16≤s) (h2:s≤4096):Fq (rH n s) (2*s):=by
 have hm:n*s≤64*4096:=Nat.mul_le_mul HO h2;exact⟨⟨by simp[rH],by simp[rH],by simp[rH];omega,by simp[rH]⟩,by simp[rH];omega,abx h4,rfl,h2,h1⟩
theorem nc0 (n s:Nat):NC (rH n s):=⟨rfl,rfl⟩
theorem XD {n s:Nat} (h4:4≤n) (h1:16≤s):AQ (rH n s) 0 0#32=⟨false,0,0#32⟩:=by
 have hg:∀ i,i≤1→(mN (rH n s) i).getD 0 0=255:=by
  intro i hi;have hb:(rH n s).b=List.replicate (n*s) 255:=rfl;have h2:2*i*s≤2*s:=Nat.mul_le_mul_right _ (by omega);have h3:4*s≤n*s:=Nat.mul_le_mul_right s h4;unfold mN;rw[hb,List.drop_replicate,List.take_replicate];have e:(rH n s).aj=s:=rfl;rw[e];have:0<min (2*s) (n*s-2*i*s):=by omega
  simp[this]
 have hl:∀ (st:Hd) i,i≤1→st.look (rH n s) i=st:=by
  intro st i hi;unfold Hd.look;rw[if_neg];rw[hg i hi];rintro⟨q,_⟩;exact absurd q (by decide)
 unfold AQ;rw[hl _ 0 (by omega),hl _ 1 (by omega)]
end Go.Am.Qd
namespace Go.Am.Qd
theorem jK {l l':List UInt8} {j:Nat} (h:j<l.length):(l++l').getD j 0=l.getD j 0:=by simp[List.getElem?_append_left h]
theorem mz {l l':List UInt8} {j:Nat} (h:l.length≤j):(l++l').getD j 0=l'.getD (j-l.length) 0:=by simp[List.getElem?_append_right h]
def Wr (F G:Fl) (a:Nat) (l:List UInt8) (k:Nat):Prop:=∀ j,G.b.getD j 0=if a≤j∧j<a+k then l.getD (j-a) 0 else F.b.getD j 0
def En (e:Nat) (G:Fl) (k n:Nat):Prop:=(e=0∧k=n∧G.down=false)∨(e=30∧k<n∧G.down=true)
theorem Wr.out {F G:Fl} {a k n:Nat} {l:List UInt8} (h:Wr F G a l k) (hk:k≤n):Out F G a n:=fun i q=>by rw[h i,if_neg (by omega)]
theorem En.le {e k n:Nat} {G:Fl} (h:En e G k n):k≤n:=by rcases h with h | h<;>omega
theorem Wr.zero (F:Fl) (a:Nat) (l:List UInt8):Wr F F a l 0:=fun j=>by rw[if_neg (by omega)]
theorem AS:∀ (l:List UInt8) {F:Fl} (i:Nat),gO F→F.down=false→i+l.length≤F.b.length→∃ k,Wr F (F.prog i l).2 i l k∧En (F.prog i l).1 (F.prog i l).2 k l.length
 | [],F,i,hF,hd,hl=>⟨0,Wr.zero F i [],.inl ⟨rfl,rfl,hd⟩⟩
 | c::r,F,i,hF,hd,hl=>by
  simp only[List.length_cons]at hl
  by_cases h0:F.left=0
  ·have ht:F.cD i c=(false,{ F with down:=true }):=by unfold Fl.cD;rw[if_pos h0]
   have hq:F.prog i (c::r)=(30,{ F with down:=true }):=by rw[Fl.prog,if_neg (by rw[ht];simp),ht]
   rw[hq];exact⟨0,fun j=>by rw[if_neg (by omega)],.inr ⟨rfl,by simp,rfl⟩⟩
  ·obtain⟨t1,t2,t3,t4⟩:=hF.cD i c
   have ht1:(F.cD i c).1=true:=by unfold Fl.cD;rw[if_neg h0]
   have htb:(F.cD i c).2.b=F.b.set i c:=by unfold Fl.cD;rw[if_neg h0]
   have htd:(F.cD i c).2.down=false:=by unfold Fl.cD;rw[if_neg h0];exact hd
   obtain⟨k,k1,k2⟩:=AS r (i+1) t1 htd (by rw[t2];omega);have hq:F.prog i (c::r)=(F.cD i c).2.prog (i+1) r:=by rw[Fl.prog,if_pos ht1]
   rw[hq];have hkl:=k2.le;refine⟨k+1,fun j=>?_,?_⟩
   ·rw[k1 j,htb]
    by_cases hj:j=i
    ·subst hj
     rw[if_neg (by omega),if_pos (by omega)];have:j<F.b.length:=by omega
     simp[this]
    ·by_cases h4:i+1≤j∧j<i+1+k
     ·rw[if_pos h4,if_pos (by omega),show j-i=(j-(i+1))+1 by omega]
      simp
     ·rw[if_neg h4,if_neg (by omega)]
      simp[List.getElem?_set_ne (show i≠j by omega)]
   ·rcases k2 with⟨e1,e2,e3⟩ | ⟨e1,e2,e3⟩
    ·exact .inl ⟨e1,by simp[e2],e3⟩
    ·exact .inr ⟨e1,by simp;omega,e3⟩
theorem mA {F:Fl} {a:Nat} {l:List UInt8} (hF:gO F) (hd:F.down=false) (hl:a+l.length≤F.b.length) (h:fY F a l.length):∃ k,Wr F (F.program a l).2 a l k∧En (F.program a l).1 (F.program a l).2 k l.length:=by
 have hq:F.program a l=F.prog a l:=by
  unfold Fl.program;rw[if_neg (by rw[hd];simp),if_pos (rI h)]
 rw[hq];exact AS l a hF hd hl
theorem Wr.seq {F G H:Fl} {a k:Nat} {l l':List UInt8} (h1:Wr F G a l l.length) (h2:Wr G H (a+l.length) l' k):Wr F H a (l++l') (l.length+k):=fun j=>by
 rw[h2 j]
 by_cases q1:a+l.length≤j∧j<a+l.length+k
 ·rw[if_pos q1,if_pos (by omega),mz (by omega),Nat.sub_sub]
 ·rw[if_neg q1,h1 j]
  by_cases q2:a≤j∧j<a+l.length
  ·rw[if_pos q2,if_pos (by omega),jK (by omega)]
  ·rw[if_neg q2,if_neg (by omega)]
theorem Wr.pre {F G:Fl} {a k:Nat} {l:List UInt8} (l':List UInt8) (h:Wr F G a l k) (hk:k≤l.length):Wr F G a (l++l') k:=fun j=>by
 rw[h j]
 by_cases q:a≤j∧j<a+k
 ·rw[if_pos q,if_pos q,jK (by omega)]
 ·rw[if_neg q,if_neg q]
theorem D3 {F:Fl} {a:Nat} {l l':List UInt8} {p1:Nat × Fl} {p2:Nat × Fl} {r:Nat × Fl} (h1:∃ k,Wr F p1.2 a l k∧En p1.1 p1.2 k l.length) (h2:p1.1=0→p1.2.down=false→Wr F p1.2 a l l.length→∃ k,Wr p1.2 p2.2 (a+l.length) l' k∧En p2.1 p2.2 k l'.length)
  (h3:p1.1=0→r=p2) (h4:p1.1≠0→r=p1):∃ k,Wr F r.2 a (l++l') k∧En r.1 r.2 k (l++l').length:=by
 obtain⟨k,k1,k2⟩:=h1;rcases k2 with⟨e1,rfl,e3⟩ | ⟨e1,e2,e3⟩
 ·obtain⟨k',m1,m2⟩:=h2 e1 e3 k1
  rw[h3 e1];refine⟨l.length+k',k1.seq m1,?_⟩;rw[List.length_append];rcases m2 with⟨f1,f2,f3⟩ | ⟨f1,f2,f3⟩
  ·exact .inl ⟨f1,by omega,f3⟩
  ·exact .inr ⟨f1,by omega,f3⟩
 ·rw[h4 (by omega)]
  refine⟨k,k1.pre l' (by omega),.inr ⟨e1,by rw[List.length_append];omega,e3⟩⟩
theorem LX {F:Fl} {a:Nat} {l:List UInt8} (hF:gO F) (hd:F.down=false) (hl:a+(l.length+1)≤F.b.length) (h:fY F a (l.length+1)):∃ k,Wr F (F.lay a l).2 a (l++[0]) k∧En (F.lay a l).1 (F.lay a l).2 k (l.length+1):=by
 obtain⟨g1,g2,g3,g4⟩:=hF.program a l;have h1:=mA (l:=l) hF hd (by omega) (h.sub (Nat.le_refl _) (by omega));have:=D3 (l':=[0]) (p2:=(F.program a l).2.program (a+l.length) [0]) (r:=F.lay a l) h1 (fun e1 e2 e3=>mA (l:=[0]) g1 e2 (by rw[g2];simp;omega) ((h.sub (a':=a+l.length) (n':=1) (by omega) (by omega)).out (e3.out (Nat.le_refl _)) (.inr (Nat.le_refl _))))
  (fun e=>by unfold Fl.lay;rw[if_pos e]) (fun e=>by unfold Fl.lay;rw[if_neg e])
 simpa using this
def oo (vs:Vs) (ks:List Nat):List UInt8:=ks.flatMap fun k=>dF (UInt8.ofNat k) (vB ((cP vs k).getD none)) false++[0]
theorem AT (vs:Vs) (k:Nat) (ks:List Nat):oo vs (k::ks)=(dF (UInt8.ofNat k) (vB ((cP vs k).getD none)) false++[0])++oo vs ks:=rfl
theorem kU (vs:Vs):∀ ks:List Nat,(oo vs ks).length=kg vs ks
 | []=>rfl
 | k::ks=>by
  rw[AT,List.length_append,kU vs ks,List.length_append,eC];simp[kg];omega
theorem Hj (A:Nat) (vs:Vs):∀ (ks:List Nat) {F:Fl} (a:Nat),gO F→F.down=false→A+a+kg vs ks≤F.b.length→fY F (A+a) (kg vs ks) →
  ∃ k,Wr F (F.fill A a vs ks).2.2 (A+a) (oo vs ks) k∧En (F.fill A a vs ks).2.1 (F.fill A a vs ks).2.2 k (oo vs ks).length
 | [],F,a,hF,hd,hl,h=>⟨0,Wr.zero _ _ _,.inl ⟨rfl,rfl,hd⟩⟩
 | k::r,F,a,hF,hd,hl,h=>by
  have hs:kg vs (k::r)=(7+(vB ((cP vs k).getD none)).length)+kg vs r:=by simp[kg]
  rw[hs]at hl h;have hbl:(dF (UInt8.ofNat k) (vB ((cP vs k).getD none)) false).length=(vB ((cP vs k).getD none)).length+6:=eC _ _ _;rw[AT];unfold Fl.fill;generalize (vB ((cP vs k).getD none))=v at *;generalize dF (UInt8.ofNat k) v false=bd at *;have h1:=LX (F:=F) (a:=A+a) (l:=bd) hF hd (by omega) (h.sub (Nat.le_refl _) (by omega));have hl1:(bd++[(0:UInt8)]).length=bd.length+1:=by simp
  rw[←hl1]at h1;obtain⟨g1,g2,g3,g4⟩:=hF.lay (A+a) bd;refine D3 (p1:=F.lay (A+a) bd) (p2:=((F.lay (A+a) bd).2.fill A (a+(7+v.length)) vs r).2) h1 (fun e1 e2 e3=>?_) (fun e=>by rw[if_pos e]) (fun e=>by rw[if_neg e]);have:=Hj A vs r (a+(7+v.length)) g1 e2 (by rw[g2];omega) ((h.sub (a':=A+(a+(7+v.length))) (n':=kg vs r) (by omega) (by omega)).out (e3.out (Nat.le_refl _)) (.inr (by rw[hl1];omega)));rw[show A+a+(bd++[(0:UInt8)]).length=A+(a+(7+v.length)) by rw[hl1];omega];exact this
theorem CF {F:Fl} {s:Nat} (hF:gO F) (hs:s<F.bN.length) (hd:F.down=false) (hl:s*F.aj+F.aj≤F.b.length):∃ k,Wr F (F.erase s).2 (s*F.aj) (List.replicate F.aj 255) k∧En (F.erase s).1 (F.erase s).2 k (List.replicate F.aj (255:UInt8)).length:=by
 have HI:gO { F with bN:=F.bN.set s (min (F.bN.getD s 0+1) 1073741824) }:=⟨hF.di,hF.left,hF.len,fun n hn=>by
  rcases List.mem_or_eq_of_mem_set hn with h1 | rfl
  ·exact hF.bN n h1
  ·exact Nat.min_le_right _ _⟩
 obtain⟨k,h1,h2⟩:=AS (List.replicate F.aj 255) (s*F.aj) HI hd (by simpa using hl);unfold Fl.erase;rw[if_neg (by rw[hd];simp)];exact⟨k,h1,h2⟩
theorem Kt {F:Fl} {s:Nat} (hF:gO F) (hd:F.down=false) (hw:s+2≤F.bN.length) (hl:(s+2)*F.aj≤F.b.length) :
  ∃ k,Wr F (F.clear s 2).2 (s*F.aj) (List.replicate (2*F.aj) 255) k∧En (F.clear s 2).1 (F.clear s 2).2 k (2*F.aj):=by
 have e1:(s+1)*F.aj=s*F.aj+F.aj:=Nat.succ_mul _ _;have e2:(s+2)*F.aj=s*F.aj+2*F.aj:=Nat.add_mul _ _ _;have h1:=CF (F:=F) (s:=s) hF (by omega) hd (by omega);obtain⟨g1,g2,g3,g4⟩:=hF.erase s (by omega);have hr:List.replicate F.aj (255:UInt8)++List.replicate F.aj 255=List.replicate (2*F.aj) 255:=by rw[List.replicate_append_replicate];congr 1;omega
 have hlen:(List.replicate F.aj (255:UInt8)).length=F.aj:=by simp
 have:=D3 (p2:=(F.erase s).2.erase (s+1)) (r:=F.clear s 2) (l':=List.replicate F.aj 255) h1 (fun a1 a2 a3=>by
   have:=CF (F:=(F.erase s).2) (s:=s+1) g1 (by rw[g3];omega) a2 (by rw[g4,g2];omega);rw[g4,e1]at this;rw[hlen]at this ⊢;exact this)
  (fun e=>by
   rw[Fl.clear,if_pos e,Fl.clear];split
   ·rename_i q;rw[show(F.erase s).2.erase (s+1)=(((F.erase s).2.erase (s+1)).1,((F.erase s).2.erase (s+1)).2) from rfl,q];rfl
   ·rfl) (fun e=>by rw[Fl.clear,if_neg e])
 rw[hr]at this;simpa using this
def At (F:Fl) (a:Nat) (l:List UInt8):Prop:=∀ j,j<l.length→F.b.getD (a+j) 0=l.getD j 0
theorem Wr.at {F G:Fl} {a:Nat} {l:List UInt8} (h:Wr F G a l l.length):At G a l:=fun j hj=>by
 rw[h (a+j),if_pos (by omega)];congr 1;omega
theorem At.out {F G:Fl} {a a' n:Nat} {l:List UInt8} (h:At F a l) (ho:Out F G a' n) (hd:a+l.length≤a'∨a'+n≤a):At G a l:=fun j hj=>by
 rw[ho (a+j) (by omega)];exact h j hj
theorem At.append {F:Fl} {a:Nat} {l l':List UInt8} (h1:At F a l) (h2:At F (a+l.length) l'):At F a (l++l'):=fun j hj=>by
 rw[List.length_append]at hj
 by_cases q:j<l.length
 ·rw[jK q];exact h1 j q
 ·rw[mz (by omega),←h2 (j-l.length) (by omega)];congr 1;omega
theorem At.cons {F:Fl} {a:Nat} {c:UInt8} {l:List UInt8} (h1:F.b.getD a 0=c) (h2:At F (a+1) l):At F a (c::l):=fun j hj=>by
 cases j with
 | zero=>simpa using h1
 | succ j =>
  have:=h2 j (by simpa using hj);rw[show a+(j+1)=a+1+j by omega,this];simp
theorem fY.at {F:Fl} {a n:Nat} (h:fY F a n):At F a (List.replicate n 255):=fun j hj=>by
 rw[List.length_replicate]at hj;rw[h (a+j) (by omega) (by omega)];simp[hj]
def HR (ep:BitVec 32):List UInt8:=0::(br ep++List.replicate 3 255)
theorem lS (ep:BitVec 32):(HR ep).length=8:=rfl
theorem Hl {F:Fl} {sz:Nat} (hF:Fq F sz) (hd:F.down=false) {J:Jn} (lW:J.now≤1) {vs:Vs} (hk:Keyed vs) (hsz:cY vs≤sz) (hep:J.bM≠4294967295#32) :
  (∃ F',F.move sz J vs=(0,F',some ⟨1-J.now,cY vs,J.bM+1#32⟩)∧F'.down=false∧Out F F' (2*(1-J.now)*F.aj) sz∧At F' (2*(1-J.now)*F.aj) (HR (J.bM+1#32)++oo vs (fz vs))∧fY F' (2*(1-J.now)*F.aj+cY vs) (sz-cY vs)) ∨
  (∃ F',F.move sz J vs=(30,F',none)∧F'.down=true∧Out F F' (2*(1-J.now)*F.aj) sz∧(F'.b.getD (2*(1-J.now)*F.aj) 0=255∨∀ j,F'.b.getD j 0=F.b.getD j 0)):=by
 have hs:=hF.sz;have hlen:=hF.len;have hpos:=hF.pos;have hge:=RA vs;have hA:2*(1-J.now)*F.aj+2*F.aj≤F.b.length:=by
  have:=Nat.mul_le_mul_right F.aj (show 2*(1-J.now)+2≤4 by omega);rw[Nat.add_mul]at this;omega
 obtain⟨k1,c1,c2⟩:=Kt (F:=F) (s:=2*(1-J.now)) hF.fin hd (by have:=hF.bN;omega) (by rw[Nat.add_mul];exact hA);obtain⟨f1,s1⟩:=hF.clear (2*(1-J.now)) 2 (by omega);have l1:=f1.len;have r1:=f1.room (n:=2*(1-J.now)) (by omega);rw[s1]at r1;have hsum:=kY hk;have hb4:(br (J.bM+1#32)).length=4:=rfl;unfold Fl.move;rw[if_neg (by omega),if_neg hep];simp only;generalize hA0:2*(1-J.now)*F.aj=A at *;rcases c2 with⟨e1,rfl,e3⟩ | ⟨e1,e2,e3⟩
 rotate_left
 ·right
  rw[if_pos (by omega),e1];refine⟨_,rfl,e3,c1.out (by omega),?_⟩;cases k1 with
  | zero=>right;intro j;rw[c1 j,if_neg (by omega)]
  | succ k1=>left;rw[c1 A,if_pos (by omega),Nat.sub_self,List.getD_eq_getElem?_getD,List.getElem?_replicate,if_pos (by omega)];rfl
 rw[if_neg (by omega)];have o1:=c1.out (n:=sz) (by omega);have z0:fY (F.clear (2*(1-J.now)) 2).2 A sz:=fun j q1 q2=>by
  rw[c1 j,if_pos (by omega)];have:j-A<2*F.aj:=by omega
  simp[this]
 generalize hC:(F.clear (2*(1-J.now)) 2).2=C at *;obtain⟨k2,d1,d2⟩:=Hj A vs (fz vs) (F:=C) 8 f1.fin e3 (by omega) (z0.sub (by omega) (by omega));obtain⟨f2,s2⟩:=f1.fill A 8 vs (fz vs);have l2:=f2.len;have r2:=f2.room (n:=2*(1-J.now)) (by omega);rw[s2,s1,hA0]at r2;have alY:=d2.le;rw[kU]at d2 alY;have o2:Out C (C.fill A 8 vs (fz vs)).2.2 (A+8) (cY vs-8):=d1.out (by omega);generalize hG:C.fill A 8 vs (fz vs)=G at *;have o2':Out F G.2.2 A sz:=o1.trans (o2.sub (by omega) (by omega));have z1:fY G.2.2 A 8:=(z0.sub (Nat.le_refl _) (by omega)).out o2 (.inl (by omega));rcases d2 with⟨e4,rfl,e6⟩ | ⟨e4,e5,e6⟩
 rotate_left
 ·right
  rw[if_pos (by omega),e4];exact⟨_,rfl,e6,o2',.inl (z1 A (Nat.le_refl _) (by omega))⟩
 rw[if_neg (by omega)];have hend:G.1=cY vs:=by rw[←hsum,←hG];exact aaW _ _ _ _ (by rw[hG];exact e4)
 have alZ:At G.2.2 (A+8) (oo vs (fz vs)):=by rw[←kU]at d1;exact d1.at
 have z2:fY G.2.2 (A+cY vs) (sz-cY vs):=(z0.sub (by omega) (by omega)).out o2 (.inr (by omega));obtain⟨k3,p1,p2⟩:=mA (F:=G.2.2) (a:=A+1) (l:=br (J.bM+1#32)) f2.fin e6 (by rw[hb4];omega) (z1.sub (by omega) (by rw[hb4];omega));obtain⟨f3,s3⟩:=f2.program (A+1) (br (J.bM+1#32));have l3:=f3.len;have r3:=f3.room (n:=2*(1-J.now)) (by omega);rw[s3,s2,s1,hA0]at r3;have arb:=p2.le;have o3:Out G.2.2 (G.2.2.program (A+1) (br (J.bM+1#32))).2 (A+1) 4:=p1.out (by omega);generalize hW:G.2.2.program (A+1) (br (J.bM+1#32))=W at *;have o3':Out F W.2 A sz:=o2'.trans (o3.sub (by omega) (by omega));have z3:fY W.2 A 1:=(z1.sub (Nat.le_refl _) (by omega)).out o3 (.inl (by omega));rcases p2 with⟨e7,rfl,e9⟩ | ⟨e7,e8,e9⟩
 rotate_left
 ·right
  rw[if_pos (by omega),e7];exact⟨_,rfl,e9,o3',.inl (z3 A (Nat.le_refl _) (by omega))⟩
 rw[if_neg (by omega)];obtain⟨k4,q1,q2⟩:=mA (F:=W.2) (a:=A+0) (l:=[0]) f3.fin e9 (by simp;omega) z3;have al0:=q2.le;simp only[List.length_singleton]at q2 al0;have o4:Out W.2 (W.2.program (A+0) [0]).2 A 1:=q1.out (by omega);generalize hX:W.2.program (A+0) [0]=X at *;have o4':Out F X.2 A sz:=o3'.trans (o4.sub (by omega) (by omega));rcases q2 with⟨e10,rfl,e12⟩ | ⟨e10,e11,e12⟩
 rotate_left
 ·right
  rw[if_pos (by omega),e10];refine⟨_,rfl,e12,o4',.inl ?_⟩;rw[q1 A,if_neg (by omega)];exact z3 A (Nat.le_refl _) (by omega)
 ·left
  rw[if_neg (by omega),hend];refine⟨_,rfl,e12,o4',?_,(z2.out o3 (.inr (by omega))).out o4 (.inr (by omega))⟩;have m1:At X.2 (A+1) (br (J.bM+1#32)):=(p1.at).out o4 (.inr (Nat.le_refl _));have m2:At X.2 (A+5) (List.replicate 3 255):=fY.at (((z1.sub (a':=A+5) (n':=3) (by omega) (by omega)).out o3 (.inr (by omega))).out o4 (.inr (by omega)));have m3:At X.2 (A+8) (oo vs (fz vs)):=(alZ.out o3 (.inr (by omega))).out o4 (.inr (by omega));have m0:X.2.b.getD A 0=0:=by rw[q1 A,if_pos (by omega),show A-(A+0)=0 by omega];rfl
  have hh:At X.2 A (HR (J.bM+1#32)):=At.cons m0 (At.append m1 (by rw[hb4];exact m2));exact At.append hh (by rw[lS];exact m3)
end Go.Am.Qd
namespace Go.Am.Qd
theorem Oa (n:BitVec 32) (k:Nat):(dK n k).toBitVec=(n >>> (8*k)).setWidth 8:=by
 apply BitVec.eq_of_toNat_eq;simp[dK]
theorem mB (n:BitVec 32) (post:List UInt8):jl (br n++post)=n:=by
 have h:jl (br n++post)=((((0#32 ||| ((dK n 0).toBitVec.setWidth 32) <<< (8*0)) ||| ((dK n 1).toBitVec.setWidth 32) <<< (8*1)) ||| ((dK n 2).toBitVec.setWidth 32) <<< (8*2)) ||| ((dK n 3).toBitVec.setWidth 32) <<< (8*3)):=rfl;rw[h];simp only[Oa];apply BitVec.eq_of_getLsbD_eq;intro i hi;simp only[BitVec.getLsbD_or,BitVec.getLsbD_shiftLeft,BitVec.getLsbD_setWidth,BitVec.getLsbD_ushiftRight,BitVec.getLsbD_zero,Bool.false_or]
 by_cases h1:i<8
 ·have a1:i<16:=by omega
  have a2:i<24:=by omega
  simp[h1,a1,a2,hi]
 by_cases h2:i<16
 ·have a2:i<24:=by omega
  have a3:i-8<8:=by omega
  have a4:8+(i-8)=i:=by omega
  simp[h1,h2,a2,a3,a4,hi];omega
 by_cases h3:i<24
 ·have a3:i-16<8:=by omega
  have a4:16+(i-16)=i:=by omega
  have a5:¬ (i-8<8):=by omega
  simp[h1,h2,h3,a3,a4,a5,hi];omega
 ·have a3:i-24<8:=by omega
  have a4:24+(i-24)=i:=by omega
  have a5:¬ (i-8<8):=by omega
  have a6:¬ (i-16<8):=by omega
  simp[h1,h2,h3,a3,a4,a5,a6,hi];omega
theorem AV (l:List UInt8):lP (l++br (mK l))=true:=by
 have h4:(br (mK l)).length=4:=rfl;unfold lP;have e1:(l++br (mK l)).length-4=l.length:=by rw[List.length_append,h4];omega
 rw[e1,List.drop_left' rfl,List.take_left' rfl];have:=mB (mK l) [];rw[List.append_nil]at this;rw[this];simp[h4]
def yJ (k:Nat) (l:List UInt8) (dr:Bool):List UInt8:=dF (UInt8.ofNat k) l dr++[0]
theorem iO (k:Nat) (l:List UInt8) (dr:Bool):(yJ k l dr).length=l.length+7:=by simp[yJ,eC]
theorem XE (k:Nat) (l:List UInt8) (dr:Bool):(yJ k l dr).getD 0 0=UInt8.ofNat k∧(yJ k l dr).getD 1 0=(if dr then 254 else UInt8.ofNat l.length):=⟨rfl,rfl⟩
theorem RC (k:Nat) (l:List UInt8) (dr:Bool):(yJ k l dr).getD (l.length+6) 0=0:=by
 unfold yJ;rw[mz (by rw[eC];exact Nat.le_refl _),eC,Nat.sub_self];rfl
theorem Ku {p q:List UInt8} {j:Nat}:(p++q).getD (p.length+j) 0=q.getD j 0:=by rw[mz (by omega)];congr 1;omega
theorem RD {n:Nat} (hn:n≤250):(UInt8.ofNat n == 254)=false∧(UInt8.ofNat n).toNat=n:=by
 have h:(UInt8.ofNat n).toNat=n:=by rw[UInt8.toNat_ofNat'];omega
 refine⟨?_,h⟩;rw[beq_eq_false_iff_ne];intro hq;rw[hq]at h;have:(254:UInt8).toNat=254:=rfl;omega
theorem UQ {k:Nat} (hk:k<32):¬ (32≤UInt8.ofNat k)∧(UInt8.ofNat k).toNat=k:=by
 have h:(UInt8.ofNat k).toNat=k:=by rw[UInt8.toNat_ofNat'];omega
 refine⟨fun hq=>?_,h⟩;have:=UInt8.le_iff_toNat_le.1 hq;have Ye:(32:UInt8).toNat=32:=rfl;omega
theorem RE (pre post:List UInt8) {k:Nat} (hk:k<32) {l:List UInt8} (hl:l.length≤250) {dr:Bool} (hd:dr=true→l=[]) :
  vA (pre++(yJ k l dr++post)) pre.length=some ⟨UInt8.ofNat k,l,dr,pre.length+(l.length+7)⟩∧lP (((pre++(yJ k l dr++post)).drop pre.length).take (pre.length+(l.length+7)-1-pre.length))=true:=by
 obtain⟨k1,k2⟩:=UQ hk;obtain⟨n1,n2⟩:=RD hl;have hlen:(pre++(yJ k l dr++post)).length=pre.length+((l.length+7)+post.length):=by rw[List.length_append,List.length_append,iO]
 have g0:(pre++(yJ k l dr++post)).getD pre.length 0=UInt8.ofNat k:=by
  have:=Ku (p:=pre) (q:=yJ k l dr++post) (j:=0);rw[Nat.add_zero]at this;rw[this,jK (by rw[iO];omega)];rfl
 have g1:(pre++(yJ k l dr++post)).getD (pre.length+1) 0=(if dr then 254 else UInt8.ofNat l.length):=by
  rw[Ku,jK (by rw[iO];omega)];rfl
 have gm:(pre++(yJ k l dr++post)).getD (pre.length+(l.length+6)) 0=0:=by
  rw[Ku,jK (by rw[iO];omega),RC]
 have hb:(if((if dr then(254:UInt8) else UInt8.ofNat l.length) == 254)=true then 0 else(if dr then(254:UInt8) else UInt8.ofNat l.length).toNat)=l.length:=by
  cases dr with
  | true=>rw[hd rfl];rfl
  | false=>simp only[Bool.false_eq_true,if_false,n1,n2]
 have hdr:((if dr then(254:UInt8) else UInt8.ofNat l.length) == 254)=dr:=by
  cases dr with
  | true=>rfl
  | false=>simp only[Bool.false_eq_true,if_false,n1]
 have e1:(pre++(yJ k l dr++post)).drop pre.length=yJ k l dr++post:=List.drop_left' rfl;have hval:((pre++(yJ k l dr++post)).drop (pre.length+2)).take l.length=l:=by
  rw[←List.drop_drop,e1];unfold yJ dF;simp
 constructor
 ·unfold vA
  rw[if_neg (by omega),g0,if_neg k1,g1,hb,hdr];unfold LO;rw[if_neg (by omega),if_neg (by omega),show pre.length+7+l.length-1=pre.length+(l.length+6) by omega,if_neg (by rw[gm];simp),hval,show pre.length+7+l.length=pre.length+(l.length+7) by omega]
 ·rw[e1,show pre.length+(l.length+7)-1-pre.length=(dF (UInt8.ofNat k) l dr).length by rw[eC];omega]
  unfold yJ;rw[List.append_assoc,List.take_left' rfl];exact AV _
theorem Ob {b:List UInt8} {a m:Nat} {k:Nat} {l:List UInt8} {dr:Bool} (hk:k<32) (hl:l.length≤250) (hd:dr=true→l=[]) (hm:m<l.length+7)
  (hb:∀ j,a+j<b.length→b.getD (a+j) 0=if j<m then(yJ k l dr).getD j 0 else 255):vA b a=none:=by
 unfold vA
 by_cases h1:b.length<a+2
 ·rw[if_pos h1]
 rw[if_neg h1];have b0:=hb 0 (by omega);have b1:=hb 1 (by omega);rw[Nat.add_zero]at b0
 by_cases m0:0<m
 ·rw[if_pos m0]at b0
  by_cases m1:1<m
  ·rw[if_pos m1]at b1
   obtain⟨n1,n2⟩:=RD hl;have hn:(if(b.getD (a+1) 0 == 254)=true then 0 else(b.getD (a+1) 0).toNat)=l.length:=by
    rw[b1,(XE k l dr).2];cases dr with
    | true=>rw[hd rfl];rfl
    | false=>simp only[Bool.false_eq_true,if_false,n1,n2]
   rw[hn];split
   ·rfl
   unfold LO;split
   ·rfl
   split
   ·rfl
   rename_i h2;have:=hb (l.length+6) (by omega);rw[if_neg (by omega)]at this;rw[if_pos];rw[show a+7+l.length-1=a+(l.length+6) by omega,this];decide
  ·rw[if_neg m1]at b1
   have hn:(if(b.getD (a+1) 0 == 254)=true then 0 else(b.getD (a+1) 0).toNat)=255:=by rw[b1];rfl
   rw[hn];split
   ·rfl
   ·unfold LO;rw[if_pos (by omega)]
 ·rw[if_neg m0]at b0
  rw[b0,if_pos (by decide)]
/-! ### Rows of records -/
abbrev Rc:=Nat × Option (List UInt8)
def Rc.ok (r:Rc):Prop:=r.1<32∧(r.2.getD []).length≤250
def Rc.b (r:Rc):List UInt8:=yJ r.1 (r.2.getD []) r.2.isNone
def Rc.ap (vs:Vs) (r:Rc):Vs:=match r.2 with | none=>lV vs (r.1:Int) | some v=>gN vs r.1 (some v)
def gp (rs:List Rc):List UInt8:=rs.flatMap Rc.b
theorem qt (r:Rc) (rs:List Rc):gp (r::rs)=r.b++gp rs:=rfl
theorem vC (rs ts:List Rc):gp (rs++ts)=gp rs++gp ts:=by simp[gp]
theorem Ho:∀ (rs:List Rc) (pre post:List UInt8) (vs:Vs) (n:Nat),(∀ r∈rs,r.ok)→vA (pre++(gp rs++post)) (pre.length+(gp rs).length)=none→rs.length<n →
  Rv (pre++(gp rs++post)) n pre.length vs=(0,pre.length+(gp rs).length,rs.foldl Rc.ap vs)
 | [],pre,post,vs,n,hr,hn,hlt=>by
  obtain⟨n,rfl⟩ : ∃ m,n=m+1:=⟨n-1,by simp at hlt;omega⟩;simp only[Rv];have:(gp ([] : List Rc)).length=0:=rfl;rw[this,Nat.add_zero]at hn ⊢;rw[hn];rfl
 | r::rs,pre,post,vs,n,hr,hn,hlt=>by
  obtain⟨n,rfl⟩ : ∃ m,n=m+1:=⟨n-1,by simp at hlt;omega⟩;obtain⟨r1,r2⟩:=hr r (by simp);have hdv:r.2.isNone=true→r.2.getD []=[]:=fun h=>by cases hq:r.2<;>simp_all
  obtain⟨p1,p2⟩:=RE pre (gp rs++post) r1 r2 hdv;have e1:pre++(gp (r::rs)++post)=pre++(yJ r.1 (r.2.getD []) r.2.isNone++(gp rs++post)):=by rw[qt,List.append_assoc];rfl
  have e2:pre++(yJ r.1 (r.2.getD []) r.2.isNone++(gp rs++post))=(pre++r.b)++(gp rs++post):=by rw[List.append_assoc];rfl
  have hbl:r.b.length=(r.2.getD []).length+7:=iO _ _ _;have Oy:(pre++r.b).length=pre.length+((r.2.getD []).length+7):=by rw[List.length_append,hbl]
  have hlt2:rs.length<n:=by simp at hlt;omega
  have ih:=Ho rs (pre++r.b) post (r.ap vs) n (fun x hx=>hr x (by simp[hx])) (by
   rw[←e2,←e1,Oy];rw[qt,List.length_append,hbl]at hn;rw[←hn];congr 1;omega) hlt2
  rw[e1];simp only[Rv,p1];rw[if_pos p2];rw[e2,←Oy];have hap:(if r.2.isNone=true then lV vs ((UInt8.ofNat r.1).toNat:Int) else gN vs (UInt8.ofNat r.1).toNat (some (r.2.getD [])))=r.ap vs:=by
   rw[(UQ r1).2];unfold Rc.ap;cases hq:r.2<;>simp
  rw[hap,ih,List.foldl_cons,Oy,qt,List.length_append,hbl];simp only[Prod.mk.injEq,true_and,and_true];omega
theorem Oc (hd:List UInt8) (h8:hd.length=8) (rs:List Rc) (post:List UInt8) (hr:∀ r∈rs,r.ok) (hn:vA (hd++(gp rs++post)) (8+(gp rs).length)=none) :
  Rx (hd++(gp rs++post))=(0,8+(gp rs).length,rs.foldl Rc.ap []):=by
 have hlen:∀ rs:List Rc,rs.length≤(gp rs).length:=by
  intro rs
  induction rs with
  | nil=>simp
  | cons r rs ih =>
   have hbl:r.b.length=(r.2.getD []).length+7:=iO _ _ _;rw[qt,List.length_append,List.length_cons,hbl];omega
 have:=Ho rs hd post [] ((hd++(gp rs++post)).length+1) hr (by rw[h8];exact hn) (by have:=hlen rs;rw[List.length_append,List.length_append];omega);rw[h8]at this;exact this
end Go.Am.Qd
namespace Go.Am.Qd
variable {h:Hp}
theorem TZ {x:qx} (hn:cL x.name=true) (hz:x.size≤1048576) (hd:x.dg.length=32) (post:List UInt8):cz (eA x++post)=(x,0):=by
 have hs:=kZ hn;have hw:=m7 hs hd;have hA:eA x++post=bn++(br x.cu++(br (BitVec.ofNat 32 x.size)++(kT x.name++(x.dg++(br (mK (lQ x))++post))))):=by
  simp only[eA,lQ,sZ,List.append_assoc]
 have d4:(eA x++post).drop 4=br x.cu++(br (BitVec.ofNat 32 x.size)++(kT x.name++(x.dg++(br (mK (lQ x))++post)))):=by rw[hA];exact List.drop_left' rfl
 have d8:(eA x++post).drop 8=br (BitVec.ofNat 32 x.size)++(kT x.name++(x.dg++(br (mK (lQ x))++post))):=by
  rw[show 8=4+4 from rfl,←List.drop_drop,d4];exact List.drop_left' rfl
 have d12:(eA x++post).drop 12=kT x.name++(x.dg++(br (mK (lQ x))++post)):=by
  rw[show 12=8+4 from rfl,←List.drop_drop,d8];exact List.drop_left' rfl
 have d28:(eA x++post).drop 28=x.dg++(br (mK (lQ x))++post):=by
  rw[show 28=12+16 from rfl,←List.drop_drop,d12];exact List.drop_left' (lR hs)
 have t4:(eA x++post).take 4=bn:=by rw[hA];exact List.take_left' rfl
 have t64:(eA x++post).take 64=eA x:=List.take_left' hw;have hname:ji (kT x.name)=x.name:=by
  have hk:=Lib.trimRightB_take (kT x.name) 0 x.name.length (by rw[lR hs];exact hs) (fun j b hj hb=>by
   rw[kT,List.getElem?_append_right hj,List.getElem?_replicate]at hb;split at hb
   ·exact(Option.some.inj hb).symm
   ·cases hb) (fun b h0 hb=>by
   rw[kT,List.getElem?_append_left (by omega)]at hb;have hmem:=List.mem_of_getElem? hb;have hok:Kl b=true:=by
    simp only[cL,Bool.and_eq_true,List.all_eq_true]at hn;exact hn.2 b hmem
   intro q;subst q;exact absurd hok (by decide))
  rw[ji,hk,kT,List.take_left' rfl]
 have hsz:(BitVec.ofNat 32 x.size).toNat=x.size:=by rw[BitVec.toNat_ofNat,Nat.mod_eq_of_lt (by omega)]
 unfold cz;rw[d4,d8,d12,d28,t4,t64,List.take_left' (lR hs),List.take_left' hd,hname,mB,mB,hsz,eA,AV];rw[if_neg (by rw[List.length_append,←eA,hw];omega),if_neg (by simp),if_neg (by simp),if_neg (by simp[hn];omega)]
def eR (s:List UInt8) (cu:BitVec 32) (body:List UInt8):qx:=⟨cu,body.length,s,Rb body⟩
def bW (s:List UInt8) (cu:BitVec 32) (body:List UInt8):List UInt8:=eA (eR s cu body)++body
theorem iB {s:List UInt8} (hn:cL s=true) (cu:BitVec 32) (body:List UInt8):(bW s cu body).length=64+body.length:=by
 rw[bW,List.length_append,m7 (kZ hn) (kS _)]
theorem qu {s:List UInt8} (hn:cL s=true) (cu:BitVec 32) {body:List UInt8} (hb:body.length≤1048576) (post:List UInt8):cz (bW s cu body++post)=(eR s cu body,0):=by
 rw[bW,List.append_assoc];exact TZ (x:=eR s cu body) hn hb (kS _) _
theorem Kv {s:List UInt8} (hn:cL s=true) (cu:BitVec 32) {body:List UInt8} (hb:body.length≤1048576):D1 (bW s cu body)=(eR s cu body,0):=by
 have hh:=qu hn cu hb [];rw[List.append_nil]at hh;have hd:(bW s cu body).drop 64=body:=List.drop_left' (m7 (kZ hn) (kS _));unfold D1;rw[hh,if_neg (by simp),iB hn,if_neg (by show ¬ (64+body.length≠64+body.length);simp),hd];exact if_neg (by show ¬ (Rb body≠Rb body);simp)
theorem RF (v:BitVec 32) (n:Nat) (s:List UInt8) {d:List UInt8} (hd:d.length=32):dz (cr iV) [(0,1,uV v),(1,1,.int .i64 (n:Int)),(2,1,.str s),(3,32,.agg (aP d))]=some (.agg (cr ⟨v,n,s,d⟩)):=by
 have h4:=LU (x:=⟨v,n,s,List.replicate 32 0⟩) rfl hd;have z:∀ x:qx,x.dg.length=32→(cr x).length=35:=fun x hx=>eD hx
 rw[Ca,iA,if_pos ⟨rfl,by rw[z _ rfl];decide,rfl⟩,iA,if_pos ⟨rfl,by show 1+1≤(cr ⟨v,0,[],List.replicate 32 0⟩).length;rw[z _ rfl];decide,rfl⟩,
  iA,if_pos ⟨rfl,by show 2+1≤(cr ⟨v,n,[],List.replicate 32 0⟩).length;rw[z _ rfl];decide,rfl⟩,
  iA,if_pos ⟨by show(aP d).length=32;rw[aM,hd],by show 3+32≤(cr ⟨v,n,s,List.replicate 32 0⟩).length;rw[z _ rfl];decide,gM d⟩,sB,Option.ag]
 exact congrArg (fun q=>some (PV.agg q)) h4
theorem Od (base:Nat) {s:List UInt8} (hn:cL s=true) (cu:BitVec 32) {v:PV} {body:List UInt8} (hv:∀ g,Rd (ext h g) v body) (hst:strip v=v) (XF:v.cells=[v]) (hsv:scalar v=true) (hb:body.length≤700000):ai T base 11 [.str s,uV cu,v] h =
  some (.cF [.bX false (size h) 0 (bW s cu body).length 1,.int .i64 0],ext h [.cells (aP (bW s cu body))]):=by
 have hnm:=vw (h:=h) (size h) s;rw[hn]at hnm;have e0:cB false v=some (.int .i64 (body.length:Int)):=(hv []).len;have c1:binOp .gtr (.int .i64 (body.length:Int)) (.int .i64 1048576)=some (.bool false):=by
  show some (PV.bool (decide ((body.length:Int) > 1048576)))=_;rw[decide_eq_false (by omega)]
 have sm:=NT (h:=h) (size h) (v:=v) hv (by omega);have bh:=RF cu body.length s (kS body);rw[jT]at bh;have wr:=Hg (h:=h) (size h) (x:=eR s cu body) hn (by show body.length≤_;omega) (kS body);have RG:=m7 (x:=eR s cu body) (kZ hn) (kS body);have hne:¬ (eA (eR s cu body)=[]):=fun q=>by rw[q]at RG;cases RG
 have Kf:BI (eA (eR s cu body))=.sl .no 1 (aP (eA (eR s cu body))):=if_neg hne;rw[Kf]at wr;have bs:cH 1 false [.bg] 2 [(0,strip (.sl .no 1 (aP (eA (eR s cu body))))),(1,strip v)]=some (.sl .full 1 [.sl .no 1 (aP (eA (eR s cu body))),v]):=by
  rw[hst,vc,lJ,if_pos ⟨rfl,by decide,rfl⟩,lJ,if_pos ⟨by rw[XF];rfl,by show 1<2;decide,by rw[XF];simp[hsv]⟩,qG];rfl
 have jn:=NW (h:=h) (v0:=.sl .full 1 [.sl .no 1 (aP (eA (eR s cu body))),v]) (ps:=[(.sl .no 1 (aP (eA (eR s cu body))),eA (eR s cu body)),(v,body)]) rfl (fun i p hp=>by
  match i,hp with
  | 0,hp=>cases hp;rfl
  | 1,hp =>
   cases hp;show some (PV.ep v.cells 0)=some (PV.ep [v] 0);rw[XF]
  | i+2,hp=>simp at hp) (fun p hp g=>by
  simp at hp;rcases hp with rfl | rfl
  ·exact jS (.inl rfl) _
  ·exact hv g) (by show 2≤1000;decide) (size h) (by simp[RG];omega)
 have hfl:([(PV.sl .no 1 (aP (eA (eR s cu body))),eA (eR s cu body)),(v,body)].map (·.2)).flatten=bW s cu body:=by simp[bW]
 rw[hfl]at jn;have aby:¬ (bW s cu body=[]):=fun q=>by have:=iB hn cu body;rw[q]at this;simp at this;omega
 have e1:GV h (bW s cu body)=.bX false (size h) 0 (bW s cu body).length 1:=if_neg aby;have e2:BK h (bW s cu body)=ext h [.cells (aP (bW s cu body))]:=if_neg aby;rw[e1,e2]at jn;have fn:bk false true (size h) [.bX false (size h) 0 (bW s cu body).length 1,.int .i64 0] (ext h [.cells (aP (bW s cu body))])=some (.cF [.bX false (size h) 0 (bW s cu body).length 1,.int .i64 0],ext h [.cells (aP (bW s cu body))]):=by
  rw[pG,ju,if_neg (by omega),aQ];show((if belows (size h) [.int .i64 0]=true∧belows (size h) (aP (bW s cu body))=true then some (PV.bX false (size h) 0 (bW s cu body).length 1::[.int .i64 0],ext (bJ (ext h [.cells (aP (bW s cu body))]) (size h)) [.cells (aP (bW s cu body))]) else none)).ah _=_;rw[if_pos ⟨rfl,mw _ _⟩,Option.ag,cI];rfl
 rw[S11,hnm,az];simp only[show unOp .not (.bool true)=some (.bool false) from rfl,e0,c1,sm,bh,aL,Option.ag,az];rw[show PV.agg (cr ⟨cu,body.length,s,Rb body⟩)=.agg (cr (eR s cu body)) from rfl,wr];simp only[az,tY,tZ,Option.ag,bs,jn,fn]
end Go.Am.Qd
namespace Go.Am.Qd
structure Pl where
 p:FP
 qa:Nat
 qb:Nat
 qc:Nat
 qd:Nat
 jb:Nat
 sb:Nat
 n:Nat
 lo:Nat
structure Wt where
 size:Nat
 data:List UInt8
def NJ (P:Pl) (b:Nat):Prop:=b≠P.p.f∧b≠P.p.bb∧b≠P.p.wb∧b≠P.jb
def sC (P:Pl) (run:Nat) (w:PV):List PV:=[.ptr P.qc 0,.ptr P.qd 0,.ptr P.jb 0,.int .i64 (run:Int),w]
def XG (h:Hp) (P:Pl) (R:List Nat) (wb hk:Nat) (v:PV) (l:List UInt8):Prop :=
 (l=[]∧v=.bg)∨(l≠[]∧∃ tb,v=.sl (.tok tb) 1 (aP l)∧bY h tb=some (.tok l.length 5)∧NJ P tb∧P.lo≤tb∧tb ∉ R∧tb≠P.sb∧tb≠wb∧tb≠hk)
def LY (h:Hp) (P:Pl) (R:List Nat) (w:PV):Option Wt→Prop
 | none=>w=.bp
 | some W=>∃ wb hk hv ws r,w=.ptr wb 0∧ay h wb=some [.int .i64 (W.size:Int),.int .i64 (W.data.length:Int),hv,.ptr hk 0]∧ay h hk=some (hC ws r (W.data.drop 64).length)∧Hs ws r (W.data.drop 64) ∧
   XG h P R wb hk hv (W.data.take 64)∧NJ P wb∧NJ P hk∧P.lo≤wb∧P.lo≤hk∧wb ∉ R∧hk ∉ R∧wb≠P.sb∧hk≠P.sb∧wb≠hk∧W.size≤P.n*64∧W.data.length≤W.size
structure Dv (H:Hp) (P:Pl) (F:Fl) (J:Jn) (vs:Vs) (run:Nat) (W:Option Wt) (R:List Nat) (h:Hp) (m:Nat) (w:PV):Prop where
 eq:H=dZ h P.p F P.jb (jC P.qa P.qb 128 J m)
 js:JS h P.p F P.jb P.qa P.qb 128 m J vs
 pc:gL h P.p P.qc 4 P.n
 pd:gL h P.p P.qd (4+P.n) P.n
 cj:P.qc≠P.jb
 dj:P.qd≠P.jb
 fs:F.aj=64
 fl:F.b.length=(4+2*P.n)*64
 fw:F.bN.length=4+2*P.n
 hn:4≤P.n∧P.n≤7
 sb:ay h P.sb=some (sC P run w)
 ns:NJ P P.sb
 rn:run≤1
 wo:LY h P R w W
 ro:∀ b∈R,b<size h∧NJ P b∧b≠P.sb
 lj:P.lo≤P.jb
 ls:P.lo≤P.sb
def eT (H:Hp) (P:Pl) (F:Fl) (J:Jn) (vs:Vs) (run:Nat) (W:Option Wt) (R:List Nat):Prop:=∃ h m w,Dv H P F J vs run W R h m w
theorem JS.XH {h:Hp} {p:FP} {F:Fl} {jb qa qb sz m:Nat} {J:Jn} {vs:Vs} (hs:JS h p F jb qa qb sz m J vs) (l:Hp):JS (Go.Am.ext h l) p F jb qa qb sz m J vs:=by
 have hb:m<size h:=by
  have:=hs.map;unfold bR at this;cases hq:bY h m with
  | none=>rw[hq]at this;cases this
  | some x=>exact bw hq
 have hm:bR (Go.Am.ext h l) m=some (pN vs):=by rw[Bt hb];exact hs.map
 exact { hs with ok:=hs.ok.ext l,map:=hm }
theorem NJ.set {P:Pl} {h:Hp} {F:Fl} {cs:List PV} {b:Nat} (hn:NJ P b) (hj:Bh h P.p P.jb P.qa P.qb) (x:gW):aC (dZ h P.p F P.jb cs) b x=dZ (aC h b x) P.p F P.jb cs:=by
 unfold dZ;rw[Ag (hj.fs cs) hn.1 hn.2.1 hn.2.2.1];congr 1;refine pJ (by simp only[aJ]) fun n=>?_
 simp only[nN,aJ]
 by_cases h1:b=n
 ·subst h1;rw[if_pos rfl,if_neg (Ne.symm hn.2.2.2),if_pos rfl]
 ·rw[if_neg h1,if_neg h1]
theorem NJ.box {P:Pl} {h:Hp} {F:Fl} {cs:List PV} {b:Nat} (hn:NJ P b) (hj:Bh h P.p P.jb P.qa P.qb):bY (dZ h P.p F P.jb cs) b=bY h b:=by
 unfold dZ;rw[dD (hj.fs cs),if_neg hn.1,if_neg hn.2.2.1,if_neg hn.2.1,cN (Ne.symm hn.2.2.2)]
theorem NJ.get {P:Pl} {h:Hp} {F:Fl} {cs:List PV} {b:Nat} (hn:NJ P b) (hj:Bh h P.p P.jb P.qa P.qb):ay (dZ h P.p F P.jb cs) b=ay h b:=by
 unfold ay;rw[hn.box hj]
theorem cw {h:Hp} {b:Nat} {cs:List PV} (hb:ay h b=some cs):b<size h:=bw (bq hb)
section
variable {H:Hp} {P:Pl} {F:Fl} {J:Jn} {vs:Vs} {run:Nat} {W:Option Wt} {R:List Nat} {h:Hp} {m:Nat} {w:PV} (d:Dv H P F J vs run W R h m w)
include d
theorem Dv.td:size H=size h:=by rw[d.eq];exact dH d.js.ok _
theorem Dv.box {b:Nat} (hn:NJ P b):bY H b=bY h b:=by rw[d.eq];exact hn.box d.js.ok
theorem Dv.get {b:Nat} (hn:NJ P b):ay H b=ay h b:=by rw[d.eq];exact hn.get d.js.ok
theorem Dv.RH:ay H P.sb=some (sC P run w):=by rw[d.get d.ns];exact d.sb
theorem Dv.ld (k:Nat):ax 1 false (.ptr P.sb k) H=(sC P run w)[k]?:=dL d.RH
theorem LY.ext (hw:LY h P R w W) (l:Hp):LY (Go.Am.ext h l) P R w W:=by
 cases W with
 | none=>exact hw
 | some W =>
  obtain⟨wb,hk,hv,ws,r,a1,a2,a3,a4,a5,a6⟩:=hw;refine⟨wb,hk,hv,ws,r,a1,by rw[aX (cw a2)];exact a2,by rw[aX (cw a3)];exact a3,a4,?_,a6⟩;rcases a5 with a5 | ⟨a5,tb,b1,b2,b3⟩
  ·exact .inl a5
  ·exact .inr ⟨a5,tb,b1,by rw[dP (bw b2)];exact b2,b3⟩
theorem Dv.ext (l:Hp):Dv (Go.Am.ext H l) P F J vs run W R (Go.Am.ext h l) m w :=
 { d with
  eq:=by rw[d.eq];exact ng d.js.ok _ l
  js:=d.js.XH l
  pc:=d.pc.ext l
  pd:=d.pd.ext l
  sb:=by rw[aX (cw d.sb)];exact d.sb
  wo:=LY.ext d d.wo l
  ro:=fun b hb=>⟨by have:=(d.ro b hb).1;rw[aW];omega,(d.ro b hb).2⟩ }
theorem Dv.part {i:Nat} (hi:i≤1):∃ q,(sC P run w)[i]?=some (.ptr q 0)∧gL (aC h P.jb (.cells (jC P.qa P.qb 128 J m))) P.p q (4+i*P.n) P.n:=by
 have key:∀ {q f:Nat},gL h P.p q f P.n→q≠P.jb→gL (aC h P.jb (.cells (jC P.qa P.qb 128 J m))) P.p q f P.n:=fun hq hj=>⟨by rw[bD (Ne.symm hj)];exact hq.get,hq.n1,hq.n2,hq.n3⟩
 by_cases h0:i=0
 ·subst h0;exact⟨P.qc,rfl,by rw[Nat.zero_mul];exact key d.pc d.cj⟩
 ·have h1:i=1:=by omega
  subst h1;exact⟨P.qd,rfl,by rw[Nat.one_mul];exact key d.pd d.dj⟩
end
theorem eT.ext {H:Hp} {P:Pl} {F:Fl} {J:Jn} {vs:Vs} {run:Nat} {W:Option Wt} {R:List Nat} (d:eT H P F J vs run W R) (l:Hp):eT (Go.Am.ext H l) P F J vs run W R:=by
 obtain⟨h,m,w,d⟩:=d;exact⟨_,_,_,d.ext l⟩
/-! ### abk -/
theorem eT.slot {H:Hp} {P:Pl} {F:Fl} {J:Jn} {vs:Vs} {run:Nat} {W:Option Wt} {R:List Nat} (d:eT H P F J vs run W R) {i:Nat} (hi:i≤1) :
  ∃ q,aN 1 2 (.ptr P.sb 0) (.int .i64 (i:Int))=some (.ptr P.sb i)∧ax 1 false (.ptr P.sb i) H=some (.ptr q 0)∧∀ l,∃ g:Hp,Go.Am.ext H l=cv g P.p F∧pI g P.p∧gL g P.p q (4+i*P.n) P.n:=by
 obtain⟨h,m,w,d⟩:=d;obtain⟨q,q1,q2⟩:=d.part hi;refine⟨q,?_,by rw[d.ld];exact q1,fun l=>?_⟩
 ·have:=HQ 1 P.sb 0 i 2 (by omega)
  rw[Nat.mul_one,Nat.zero_add]at this;exact this
 ·refine⟨Go.Am.ext (aC h P.jb (.cells (jC P.qa P.qb 128 J m))) l,?_,(d.js.ok.fs _).ext l,q2.ext l⟩
  rw[d.eq,dZ,Af (d.js.ok.fs _)]
def cA (F:Fl) (n i:Nat):List UInt8:=(F.b.drop ((4+i*n)*64)).take (n*64)
theorem nj {F:Fl} {n i:Nat} (hl:F.b.length=(4+2*n)*64) (hi:i≤1):(cA F n i).length=n*64:=by
 have:i=0∨i=1:=by omega
 rcases this with rfl | rfl
 ·rw[cA,List.length_take,List.length_drop];omega
 ·rw[cA,List.length_take,List.length_drop];omega
section
variable {H:Hp} {P:Pl} {F:Fl} {J:Jn} {vs:Vs} {run:Nat} {W:Option Wt} {R:List Nat} (d:eT H P F J vs run W R) (base:Nat)
include d
theorem eT.fin:gO F:=by obtain⟨h,m,w,d⟩:=d;exact d.js.fl.fin
theorem eT.fs:F.aj=64:=by obtain⟨h,m,w,d⟩:=d;exact d.fs
theorem eT.fl:F.b.length=(4+2*P.n)*64:=by obtain⟨h,m,w,d⟩:=d;exact d.fl
theorem eT.hn:4≤P.n∧P.n≤7:=by obtain⟨h,m,w,d⟩:=d;exact d.hn
theorem eT.room {i:Nat} (hi:i≤1):(4+i*P.n+P.n)*F.aj≤F.b.length:=by
 have hn:=d.hn;rw[d.fs,d.fl];have:i=0∨i=1:=by omega
 rcases this with rfl | rfl<;>omega
theorem eT.abz {i:Nat} (hi:i≤1) {q:Nat} (hq:ax 1 false (.ptr P.sb i) H=some (.ptr q 0)) (l:Hp):ai T base 54 [.ptr q 0] (Go.Am.ext H l)=some (.int .i64 ((P.n*64:Nat):Int),Go.Am.ext H l):=by
 obtain⟨q',_,q2,q3⟩:=d.slot hi;rw[q2]at hq;cases hq;obtain⟨g,g1,g2,g3⟩:=q3 l;have hn:=d.hn;rw[g1];have:=J6 (F:=F) g2 g3 base (by rw[d.fs];omega);rw[d.fs]at this;exact this
theorem eT.pread {i:Nat} (hi:i≤1) {q:Nat} (hq:ax 1 false (.ptr P.sb i) H=some (.ptr q 0)) (l:Hp) {k:Nat} (hk:k≤P.n*64) :
  ai T base 79 [.ptr q 0,.int .i64 0,.int .i64 (k:Int)] (Go.Am.ext H l)=some (if F.down then .cF [.bg,.int .i64 30] else .cF [BI ((cA F P.n i).take k),.int .i64 0],Go.Am.ext H l):=by
 obtain⟨q',_,q2,q3⟩:=d.slot hi;rw[q2]at hq;cases hq;obtain⟨g,g1,g2,g3⟩:=q3 l;have hn:=d.hn;rw[g1];have:=abW (F:=F) g2 g3 base 0 k d.fin (by rw[d.fs];omega) (d.room hi);rw[d.fs,Nat.add_zero]at this;have e:(F.b.drop ((4+i*P.n)*64)).take k=(cA F P.n i).take k:=by
  rw[cA,List.take_take,Nat.min_eq_left hk]
 rw[e]at this;exact this
theorem eT.UR {i:Nat} (hi:i≤1) {q:Nat} (hq:ax 1 false (.ptr P.sb i) H=some (.ptr q 0)):ai T base 87 [.ptr q 0] H=some (.ptr P.p.f 0,H)∧ai T base 41 [.ptr P.p.f 0] H=some (.bool F.down,H):=by
 obtain⟨q',_,q2,q3⟩:=d.slot hi;rw[q2]at hq;cases hq;obtain⟨g,g1,g2,g3⟩:=q3 [];rw[ext_nil]at g1;rw[g1];exact⟨GI (F:=F) g2 g3 base,NK (F:=F) g2 base⟩
end
end Go.Am.Qd
namespace Go.Am.Qd
def Kp (R:List Nat) (H H':Hp):Prop:=size H≤size H'∧∀ b∈R,bY H' b=bY H b
theorem Kp.refl (R:List Nat) (H:Hp):Kp R H H:=⟨Nat.le_refl _,fun _ _=>rfl⟩
theorem Kp.trans {R:List Nat} {H H' H'':Hp} (a:Kp R H H') (b:Kp R H' H''):Kp R H H'':=⟨Nat.le_trans a.1 b.1,fun x hx=>(b.2 x hx).trans (a.2 x hx)⟩
theorem fI (h:Hp) (k:IntKind) (n:Int):bk false false (size h) [.int k n] h=some (.int k n,h):=by
 rw[cc];show some (PV.int k n,bJ h (size h))=_;rw[bL]
theorem fB (h:Hp) (b:Bool):bk false false (size h) [.bool b] h=some (.bool b,h):=by
 rw[cc];show some (PV.bool b,bJ h (size h))=_;rw[bL]
theorem fII (h g:Hp) (k j:IntKind) (n m:Int):bk false false (size h) [.int k n,.int j m] (ext h g)=some (.cF [.int k n,.int j m],h):=by
 rw[cc];show some (PV.cF [.int k n,.int j m],bJ (ext h g) (size h))=_;rw[cI]
theorem al4 (c:UInt8):ct (.int .u8 (c.toNat:Int)) .i64=some (.int .i64 (c.toNat:Int)):=by
 show some (PV.int .i64 (IntKind.i64.wrap (c.toNat:Int)))=_;have:=c.toNat_lt;rw[wrap_small (by omega) (by omega)]
theorem abA (c:UInt8) (n:Nat):binOp .gtr (.int .u8 (c.toNat:Int)) (.int .u8 (n:Int))=some (.bool (decide (n<c.toNat))):=by
 show some (PV.bool (decide ((c.toNat:Int) > (n:Int))))=_;congr 2;exact decide_eq_decide.2 (by omega)
theorem wT (b:Bool):aq (.bool b) b=some true:=by cases b<;>rfl
theorem RJ:aq (.bool true) false=some false:=rfl
theorem wF2:aq (.bool false) true=some false:=rfl
theorem Oe {α:Type} (x y:Option α):au false x y=y:=rfl
theorem Ee {α:Type} (x y:Option α):au true x y=x:=rfl
theorem Kw (x:Option PV):x.ah some=x:=by cases x<;>rfl
theorem Kx (x:Option (PV × Hp)):aH x (fun a b=>some (a,b))=x:=by cases x<;>rfl
def bO (vs:Vs):Nat × Nat :=
 let b:=vB ((cP vs 0).getD none)
 if b.length≠2∨1<(b.getD 0 0).toNat∨2<(b.getD 1 0).toNat then(0,0) else((b.getD 0 0).toNat,(b.getD 1 0).toNat)
theorem lT (vs:Vs):(bO vs).1≤1∧(bO vs).2≤2:=by
 unfold bO;simp only;split
 ·exact⟨Nat.zero_le _,Nat.zero_le _⟩
 ·rename_i hq
  constructor
  ·simp only;omega
  ·simp only;omega
section
variable {H:Hp} {P:Pl} {F:Fl} {J:Jn} {vs:Vs} {run:Nat} {W:Option Wt} {R:List Nat} (d:eT H P F J vs run W R) (base:Nat)
include d
theorem eT.kept:ai T base 66 [.ptr P.sb 0] H=some (.cF [.int .i64 ((bO vs).1:Int),.int .i64 ((bO vs).2:Int)],H):=by
 obtain⟨h,m,w,d⟩:=d;obtain⟨v,g,e1,e2,_,_⟩:=Ru (F:=F) d.js (size H) 0;have hge:dZ (Go.Am.ext h g) P.p F P.jb (jC P.qa P.qb 128 J m)=Go.Am.ext H g:=by rw[d.eq];exact(ng d.js.ok _ g).symm
 have hrd:=e2.rd (F:=F) (d.js.ok.ext g) (jC P.qa P.qb 128 J m);rw[hge]at e1 hrd;rw[←d.eq]at e1;have n0:aF (.ptr P.sb 0)=some (.ptr P.sb 0):=rfl;have l2:ax 1 false (.ptr P.sb 2) H=some (.ptr P.jb 0):=d.ld 2;unfold bO;generalize vB ((cP vs 0).getD none)=l at hrd ⊢;have f00:=fII H g .i64 .i64 0 0
 by_cases h2:l.length=2
 ·match l,h2 with
  | [a,b],_ =>
   have hl:cB false v=some (.int .i64 2):=hrd.len;obtain⟨x0,p0,r0⟩:=hrd.rd .i64 0 a rfl;obtain⟨x1,p1,r1⟩:=hrd.rd .i64 1 b rfl;simp only[show((0:Nat):Int)=0 from rfl]at p0;simp only[show((1:Nat):Int)=1 from rfl]at p1;have g1:=abA a 1;have g2:=abA b 2;simp only[show((1:Nat):Int)=1 from rfl]at g1;simp only[show((2:Nat):Int)=2 from rfl]at g2;have ne2:binOp .neq (.int .i64 2) (.int .i64 2)=some (.bool false):=rfl;have fab:=fII H g .i64 .i64 (a.toNat:Int) (b.toNat:Int);rw[S66]
   by_cases ha:1<a.toNat
   ·rw[if_pos (.inr (.inl ha))]
    simp only[n0,ou,l2,e1,tY,tZ,hl,ne2,wT,RJ,Oe,Ee,p0,r0,g1,Kw,decide_eq_true ha,f00,aR,aL,Option.ag,az];rfl
   ·by_cases hb:2<b.toNat
    ·rw[if_pos (.inr (.inr hb))]
     simp only[n0,ou,l2,e1,tY,tZ,hl,ne2,wT,RJ,Oe,Ee,p0,r0,p1,r1,g1,g2,Kw,decide_eq_false ha,decide_eq_true hb,f00,aR,aL,Option.ag,az];rfl
    ·rw[if_neg (by simp[ha,hb])]
     simp only[n0,ou,l2,e1,tY,tZ,hl,ne2,wT,RJ,Oe,Ee,p0,r0,p1,r1,g1,g2,Kw,decide_eq_false ha,decide_eq_false hb,al4,fab,aR,aL,Option.ag,az];rfl
 ·have hl:cB false v=some (.int .i64 (l.length:Int)):=hrd.len
  have ne2:binOp .neq (.int .i64 (l.length:Int)) (.int .i64 2)=some (.bool true):=by
   show some (PV.bool (!((l.length:Int) == 2)))=_;rw[show((l.length:Int) == 2)=false from beq_false_of_ne (by omega)];rfl
  rw[S66,if_pos (.inl h2)];simp only[n0,ou,l2,e1,tY,tZ,hl,ne2,wT,RJ,Oe,Ee,f00,aR,aL,Option.ag,az];rfl
theorem eT.mM:ai T base 20 [.ptr P.sb 0] H=some (.int .i64 ((bO vs).1:Int),H):=by
 rw[S20,d.kept];simp only[tY,tZ,fI,Option.ag,az]
theorem eT.phase:ai T base 19 [.ptr P.sb 0] H=some (.int .i64 ((bO vs).2:Int),H):=by
 rw[S19,d.kept];simp only[tY,tZ,fI,Option.ag,az]
theorem eT.other:ai T base 46 [.ptr P.sb 0] H=some (.int .i64 ((1-(bO vs).1:Nat):Int),H):=by
 have hk:=(lT vs).1;have sb:binOp .sub (.int .i64 1) (.int .i64 ((bO vs).1:Int))=some (.int .i64 ((1-(bO vs).1:Nat):Int)):=by
  show some (PV.int .i64 (IntKind.i64.wrap (1-((bO vs).1:Int))))=_;rw[wrap_small (by omega) (by omega)];congr 2;omega
 rw[S46,d.mM];simp only[sb,fI,Option.ag,az]
theorem eT.running:ai T base 44 [.ptr P.sb 0] H=some (.int .i64 (run:Int),H):=by
 obtain⟨h,m,w,d⟩:=d;have l3:ax 1 false (.ptr P.sb 3) H=some (.int .i64 (run:Int)):=d.ld 3;rw[S44];simp only[show aF (.ptr P.sb 0)=some (.ptr P.sb 0) from rfl,ou,l3,fI,Option.ag]
def Og:Option Wt→Nat
 | none=>0
 | some W=>W.data.length
theorem eT.got:ai T base 26 [.ptr P.sb 0] H=some (.int .i64 (Og W:Int),H):=by
 obtain⟨h,m,w,d⟩:=d;have l4:ax 1 false (.ptr P.sb 4) H=some w:=d.ld 4;rw[S26];cases W with
 | none =>
  have hw:w=.bp:=d.wo;subst hw;have f0:=fI H .i64 0;simp only[show aF (.ptr P.sb 0)=some (.ptr P.sb 0) from rfl,ou,l4,show gG 0 false .bp=some (.bool true) from rfl,aR,f0,Option.ag];rfl
 | some W =>
  obtain⟨wb,hk,hv,ws,r,rfl,a2,a3,a4,a5,a6,a7⟩:=d.wo;have gw:ay H wb=some [.int .i64 (W.size:Int),.int .i64 (W.data.length:Int),hv,.ptr hk 0]:=by rw[d.get a6];exact a2
  have l1:ax 1 false (.ptr wb 1) H=some (.int .i64 (W.data.length:Int)):=dL gw;simp only[show ∀ b,aF (.ptr b 0)=some (.ptr b 0) from fun _=>rfl,ou,l4,show gG 0 false (.ptr wb 0)=some (.bool false) from rfl,aL,l1,fI,Option.ag];rfl
theorem eT.down:ai T base 53 [.ptr P.sb 0] H=some (.bool F.down,H):=by
 obtain⟨q0,i0,l0,_⟩:=d.slot (i:=0) (by omega);obtain⟨q1,i1,l1,_⟩:=d.slot (i:=1) (by omega);have d0:=fun b=>d.UR b (i:=0) (by omega) l0
 have d1:=fun b=>d.UR b (i:=1) (by omega) l1
 simp only[show((0:Nat):Int)=0 from rfl]at i0;simp only[show((1:Nat):Int)=1 from rfl]at i1;rw[S53];have n0:aF (.ptr P.sb 0)=some (.ptr P.sb 0):=rfl;cases hd:F.down with
 | true =>
  rw[hd]at d0;simp only[n0,ou,i0,l0,(d0 _).1,(d0 _).2,wT,RJ,Oe,aR,fB,Option.ag,az]
 | false =>
  rw[hd]at d0 d1;simp only[n0,ou,i0,l0,(d0 _).1,(d0 _).2,wT,RJ,Oe,Ee,Kw,i1,l1,(d1 _).1,(d1 _).2,aL,fB,Option.ag,az]
end
def aaY (F:Fl):Option Wt→Nat:=fun W=>if F.down=true then 30 else match W with | none=>60 | some _=>0
/-! ### A box of the ud is written -/
section
variable {H:Hp} {P:Pl} {F:Fl} {J:Jn} {vs:Vs} {run:Nat} {W:Option Wt} {R:List Nat} {h:Hp} {m:Nat} {w:PV} (d:Dv H P F J vs run W R h m w)
include d
theorem Dv.XI {b:Nat} (h3:∀ cs,ay h b=some cs→cs.length≠3) (hm:bR h b=none) (x:gW):JS (aC h b x) P.p F P.jb P.qa P.qb 128 m J vs∧gL (aC h b x) P.p P.qc 4 P.n∧gL (aC h b x) P.p P.qd (4+P.n) P.n:=by
 have key:∀ {q f c:Nat},gL h P.p q f c→gL (aC h b x) P.p q f c:=fun {q f c} hq=>by
  have hne:b≠q:=fun he=>by subst he;exact h3 _ hq.get rfl
  exact⟨by rw[bD hne];exact hq.get,hq.n1,hq.n2,hq.n3⟩
 have hmb:b≠m:=fun he=>by rw[he,d.js.map]at hm;cases hm
 have hmm:bR (aC h b x) m=some (pN vs):=by rw[jE hmb];exact d.js.map
 have hok:Bh (aC h b x) P.p P.jb P.qa P.qb:={ d.js.ok with fo:=d.js.ok.fo.set _ _,pa:=key d.js.ok.pa,pb:=key d.js.ok.pb,lj:=by rw[aJ];exact d.js.ok.lj };exact⟨{ d.js with ok:=hok,map:=hmm },key d.pc,key d.pd⟩
omit d in
theorem nT {h:Hp} {b:Nat} {cs:List PV} (hb:ay h b=some cs):bR h b=none:=by
 rw[bR,bq hb];rfl
theorem LY.set (hw:LY h P R w W) {b:Nat} (hb:∀ W',W=some W'→∀ wb,w=.ptr wb 0→b≠wb∧(∀ hv hk a c,ay h wb=some [a,c,hv,.ptr hk 0]→b≠hk∧∀ tb es,hv=.sl (.tok tb) 1 es→b≠tb)) (x:gW):LY (aC h b x) P R w W:=by
 cases W with
 | none=>exact hw
 | some W =>
  obtain⟨wb,hk,hv,ws,r,a1,a2,a3,a4,a5,a6⟩:=hw;obtain⟨b1,b2⟩:=hb W rfl wb a1;obtain⟨b2,b3⟩:=b2 _ _ _ _ a2;refine⟨wb,hk,hv,ws,r,a1,by rw[bD b1];exact a2,by rw[bD b2];exact a3,a4,?_,a6⟩;rcases a5 with a5 | ⟨a5,tb,c1,c2,c3⟩
  ·exact .inl a5
  ·exact .inr ⟨a5,tb,c1,by rw[cN (b3 _ _ c1)];exact c2,c3⟩
theorem Dv.XJ {run':Nat} {w':PV} {W':Option Wt} (hr:run'≤1) (hw:LY (aC h P.sb (.cells (sC P run' w'))) P R w' W') :
  Dv (aC H P.sb (.cells (sC P run' w'))) P F J vs run' W' R (aC h P.sb (.cells (sC P run' w'))) m w'∧Kp R H (aC H P.sb (.cells (sC P run' w'))):=by
 obtain⟨j1,j2,j3⟩:=d.XI (b:=P.sb) (fun cs hc=>by rw[d.sb]at hc;cases hc;show 5≠3;decide) (nT d.sb) (.cells (sC P run' w'));refine⟨{ d with eq:=?_,js:=j1,pc:=j2,pd:=j3,sb:=?_,rn:=hr,wo:=hw,ro:=fun b hb=>?_ },by rw[aJ];exact Nat.le_refl _,fun b hb=>?_⟩
 ·rw[d.eq];exact d.ns.set d.js.ok _
 ·rw[ay,cM (cw d.sb)];rfl
 ·rw[aJ];exact d.ro b hb
 ·exact cN (Ne.symm (d.ro b hb).2.2)
end
section
variable {H:Hp} {P:Pl} {F:Fl} {J:Jn} {vs:Vs} {run:Nat} {W:Option Wt} {R:List Nat} (d:eT H P F J vs run W R) (base:Nat)
include d
theorem eT.stop:∃ H',ai T base 36 [.ptr P.sb 0] H=some (.cF [],H')∧eT H' P F J vs run none R∧Kp R H H':=by
 obtain⟨h,m,w,d⟩:=d;obtain⟨d',k⟩:=d.XJ (run':=run) (w':=.bp) (W':=none) d.rn rfl;refine⟨_,?_,⟨_,_,_,d'⟩,k⟩;have st:aS (size H) 1 (.ptr P.sb 4) .bp H=some (aC H P.sb (.cells (sC P run .bp))):=by
  rw[dA,d.RH,Option.ag,if_pos ⟨rfl,by show 4+1≤5;decide,rfl,fun _=>rfl⟩];have:(if P.sb<size H then aO (PV.bp).cells else(PV.bp).cells)=[.bp]:=by split<;>rfl
  rw[this];rfl
 rw[S36];simp only[show aF (.ptr P.sb 0)=some (.ptr P.sb 0) from rfl,ou,st,Option.ag];rw[cc];have hs:size (aC H P.sb (.cells (sC P run .bp)))=size H:=aJ;show some (PV.cF [],bJ (aC H P.sb (.cells (sC P run .bp))) (size H))=_;rw[←hs,bL]
theorem eT.ready:∃ H',ai T base 57 [.ptr P.sb 0] H=some (.int .i64 (aaY F W:Int),H')∧eT H' P F J vs run (if F.down then none else W) R∧Kp R H H'∧(F.down=false→H'=H):=by
 have hd:=d.down;cases hq:F.down with
 | true =>
  obtain⟨H',e1,e2,e3⟩:=d.stop (size H);refine⟨H',?_,e2,e3,fun q=>by cases q⟩;have hs:bk false false (size H) [.int .i64 30] H'=some (.int .i64 30,H'):=by
   have hsz:size H'=size H:=by
    have e4:=e1;rw[S36]at e4;obtain⟨h,m,w,dd⟩:=d;have st:aS (size H) 1 (.ptr P.sb 4) .bp H=some (aC H P.sb (.cells (sC P run .bp))):=by
     rw[dA,dd.RH,Option.ag,if_pos ⟨rfl,by show 4+1≤5;decide,rfl,fun _=>rfl⟩];have:(if P.sb<size H then aO (PV.bp).cells else(PV.bp).cells)=[.bp]:=by split<;>rfl
     rw[this];rfl
    simp only[show aF (.ptr P.sb 0)=some (.ptr P.sb 0) from rfl,ou,st,Option.ag]at e4;rw[cc]at e4;have e5:some (PV.cF [],bJ (aC H P.sb (.cells (sC P run .bp))) (size H))=some (PV.cF [],H'):=e4;have hs:size (aC H P.sb (.cells (sC P run .bp)))=size H:=aJ;rw[←hs,bL]at e5;cases e5;exact hs
   rw[←hsz];exact fI H' .i64 30
  rw[S57,hd,hq];simp only[aR,e1,hs,az];unfold aaY;rw[if_pos hq];rfl
 | false =>
  refine⟨H,?_,d,Kp.refl _ _,fun _=>rfl⟩;obtain⟨h,m,w,d⟩:=d;have l4:ax 1 false (.ptr P.sb 4) H=some w:=d.ld 4;rw[S57,hd,hq];cases W with
  | none =>
   have hw:w=.bp:=d.wo;subst hw;have f60:=fI H .i64 60;simp only[aL,aR,show aF (.ptr P.sb 0)=some (.ptr P.sb 0) from rfl,ou,l4,show gG 0 false .bp=some (.bool true) from rfl,f60,Option.ag,az];unfold aaY;rw[if_neg (by rw[hq];simp)];rfl
  | some W =>
   obtain⟨wb,hk,hv,ws,r,rfl,_⟩:=d.wo;have f0:=fI H .i64 0;simp only[aL,aR,show aF (.ptr P.sb 0)=some (.ptr P.sb 0) from rfl,ou,l4,show gG 0 false (.ptr wb 0)=some (.bool false) from rfl,f0,Option.ag,az];unfold aaY;rw[if_neg (by rw[hq];simp)];rfl
end
end Go.Am.Qd
namespace Go.Am.Qd
theorem rJ {l:List UInt8} (hl:64≤l.length):cz (l.take 64)=cz l:=by
 have e1:(l.take 64).take 4=l.take 4:=by rw[List.take_take];rfl
 have e2:(l.take 64).take 64=l.take 64:=by rw[List.take_take];rfl
 have e3:(l.take 64).length=64:=by rw[List.length_take];omega
 unfold cz;rw[e1,e2,e3,yI (by omega),yI (by omega),AN (by omega),AN (by omega),if_neg (by omega),if_neg (show ¬ l.length<64 by omega)]
def cC (l:List UInt8):Option (List UInt8) :=
 if(cz l).2≠0∨l.length-64<(cz l).1.size then none
 else if(D1 (l.take (64+(cz l).1.size))).2≠0 then none else some (l.take (64+(cz l).1.size))
def cQ (F:Fl) (n:Nat) (i:Int):Option (List UInt8):=if i<0∨1<i then none else if F.down then none else cC (cA F n i.toNat)
def bV:Option (List UInt8)→PV
 | none=>.bg
 | some l=>BI l
def vD (b:Option (List UInt8)):qx:=match b with
 | none=>iV
 | some l=>(cz l).1
theorem Ky {l b:List UInt8} (h:cC l=some b):64≤b.length∧b.length≤l.length∧b=l.take b.length∧(cz b)=cz l∧(cz b).2=0∧b.length=64+(cz b).1.size∧(D1 b).2=0:=by
 unfold cC at h;split at h
 ·cases h
 ·rename_i hq
  split at h
  ·cases h
  ·rename_i hc
   cases h;have he:(cz l).2=0:=Classical.byContradiction fun q=>hq (.inl q)
   have hz:¬ (l.length-64<(cz l).1.size):=fun q=>hq (.inr q)
   have HO:=Rt he;have hlen:(l.take (64+(cz l).1.size)).length=64+(cz l).1.size:=by rw[List.length_take];omega
   have hh:cz (l.take (64+(cz l).1.size))=cz l:=by
    rw[←rJ (by rw[hlen];omega),List.take_take,Nat.min_eq_left (by omega),rJ HO]
   exact⟨by rw[hlen];omega,by rw[hlen];omega,by rw[hlen],hh,by rw[hh];exact he,by rw[hh,hlen],Classical.not_not.1 hc⟩
section
variable {h:Hp} {r:Hp} {x:qx}
theorem fg0:ay (ext h (.cells (cr x)::r)) (size h)=some (cr x):=by rw[aQ];rfl
theorem fv0 (k:Nat):ax 1 false (.ptr (size h) k) (ext h (.cells (cr x)::r))=(cr x)[k]?:=dL fg0
theorem HS {α:Type} (K:PV→Hp→Option α) (z:List PV):eo z h K=K (.ptr (size h) 0) (ext h [.cells z]):=ek _ _ _
theorem fNB (b:Bool):bk false false (size h) [.bg,.bool b] (ext h r)=some (.cF [.bg,.bool b],h):=by
 rw[cc];show some (PV.cF [.bg,.bool b],bJ (ext h r) (size h))=_;rw[cI]
theorem fSB {o:Own} (ho:Nf o) (l:List UInt8) (b:Bool):bk false false (size h) [.sl o 1 (aP l),.bool b] (ext h r)=some (.cF [.sl o 1 (aP l),.bool b],h):=by
 have hb:belows (size h) [.sl o 1 (aP l),.bool b]=true:=by
  have:=(pL ho l).below (size h);show(below (size h) (.sl o 1 (aP l))&&_)=true;rw[this];rfl
 have hf:=(pL ho l).gY;rw[cc,ee,hf,Option.ag,ee,za,Option.ag,jN,Option.ag,Option.ag,Option.ag,if_pos hb,cI];rfl
theorem fHB (hx:x.dg.length=32) (b:Bool):bk false false (size h) [.agg (cr x),.bool b] (ext h r)=some (.cF [.agg (cr x),.bool b],h):=by
 have hi:=Ko (h:=h) r x 0;rw[cc,ee]at hi ⊢;cases hf:gY (size h) (ext h r) (.agg (cr x)) with
 | none=>rw[hf]at hi;cases hi
 | some v =>
  rw[hf,Option.ag,ee,rW,Option.ag,jN,Option.ag,Option.ag,Option.ag]at hi;split at hi
  ·rename_i hb
   rw[cI]at hi;have e:some (PV.cF [v,.int .i64 0],h)=some (PV.cF [.agg (cr x),.int .i64 0],h):=hi;simp only[Option.some.injEq,Prod.mk.injEq,PV.cF.injEq,List.cons.injEq,and_true]at e;subst e;have hb2:below (size h) (.agg (cr x))=true:=by
    have hb3:(below (size h) (.agg (cr x))&&belows (size h) [.int .i64 0])=true:=hb;rw[Bool.and_eq_true]at hb3;exact hb3.1
   rw[Option.ag,ee,za,Option.ag,jN,Option.ag,Option.ag,Option.ag,if_pos (by show(below (size h) (.agg (cr x))&&_)=true;rw[hb2];rfl),cI];rfl
  ·cases hi
end
theorem RK {l:List UInt8} (hl:l≠[]):BI l=.sl .no 1 (aP l):=if_neg hl
theorem eU {α:Type} (x y:Option α):aD (.bool true) x y=x:=rfl
theorem eF {α:Type} (x y:Option α):aD (.bool false) x y=y:=rfl
section
variable {H:Hp} {P:Pl} {F:Fl} {J:Jn} {vs:Vs} {run:Nat} {W:Option Wt} {R:List Nat} (d:eT H P F J vs run W R) (base:Nat)
include d
theorem eT.bytes (i:Int):ai T base 39 [.ptr P.sb 0,.int .i64 i] H=some (.cF [bV (cQ F P.n i),.bool (cQ F P.n i).isSome],H):=by
 have n0:aF (.ptr P.sb 0)=some (.ptr P.sb 0):=rfl;have fn:=fun b=>fNB (h:=H) (r:=[]) b
 simp only[ext_nil]at fn;unfold cQ
 by_cases h0:i<0
 ·have c1:binOp .lss (.int .i64 i) (.int .i64 0)=some (.bool true):=by
   show some (PV.bool (decide (i<0)))=_;rw[decide_eq_true h0]
  rw[S39,if_pos (.inl h0)];simp only[c1,RJ,Oe,aR,fn,Option.ag,az];rfl
 have c1:binOp .lss (.int .i64 i) (.int .i64 0)=some (.bool false):=by
  show some (PV.bool (decide (i<0)))=_;rw[decide_eq_false h0]
 by_cases h1:1<i
 ·have c2:binOp .gtr (.int .i64 i) (.int .i64 1)=some (.bool true):=by
   show some (PV.bool (decide (i > 1)))=_;rw[decide_eq_true h1]
  rw[S39,if_pos (.inr h1)];simp only[c1,wT,Ee,c2,Kw,aR,aL,fn,Option.ag,az];rfl
 have c2:binOp .gtr (.int .i64 i) (.int .i64 1)=some (.bool false):=by
  show some (PV.bool (decide (i > 1)))=_;rw[decide_eq_false h1]
 obtain⟨k,rfl⟩ : ∃ k:Nat,i=(k:Int):=⟨i.toNat,by omega⟩;have hk:k≤1:=by omega
 rw[if_neg (by omega),Int.toNat_natCast];obtain⟨q,ix,lq,_⟩:=d.slot hk;have hn:=d.hn;have hsl:=nj (i:=k) d.fl hk;have ps:=fun b l=>d.abz b hk lq l
 have ps0:=fun b=>ps b []
 simp only[ext_nil]at ps0;have mm:jI false [.int .i64 ((P.n*64:Nat):Int),.int .i64 64]=some (.int .i64 64):=by
  show some (PV.int .i64 (if(64:Int)<((P.n*64:Nat):Int) then 64 else((P.n*64:Nat):Int)))=_;split
  ·rfl
  ·congr 2;omega
 have pr:=fun b l k2 hk2=>d.pread b hk lq l (k:=k2) hk2
 have pr0:=fun b=>pr b [] 64 (by omega)
 simp only[ext_nil,show((64:Nat):Int)=64 from rfl]at pr0;cases hdn:F.down with
 | true =>
  rw[hdn]at pr0;simp only[if_true]at pr0;have c3:binOp .neq (.int .i64 30) (.int .i64 0)=some (.bool true):=rfl;rw[S39];simp only[c1,wT,Ee,c2,Kw,aR,aL,n0,ou,ix,lq,ps0,mm,pr0,tY,tZ,c3,fn,Option.ag,az,if_true];rfl
 | false =>
  rw[hdn]at pr0 pr;simp only[Bool.false_eq_true,if_false]at pr0 pr;generalize hsb:cA F P.n k=l at hsl pr0 pr;have HO:64≤l.length:=by omega
  have ht:(l.take 64).length=64:=by rw[List.length_take];omega
  have hne:l.take 64≠[]:=fun q=>by rw[q]at ht;cases ht
  rw[RK hne]at pr0;have c3:binOp .neq (.int .i64 0) (.int .i64 0)=some (.bool false):=rfl;have rd:=Kq (h:=H) (size H) .no (l.take 64) (by omega);rw[rJ HO]at rd;have z32:iV.dg.length=32:=rfl;have d32:=G6 l;have hz:=adB l;have ldz:(cr (cz l).1)[1]?=some (.int .i64 ((cz l).1.size:Int)):=rfl;unfold cC;simp only[Bool.false_eq_true,if_false];rw[S39,←jT];simp only[c1,wT,Ee,c2,Kw,eF,n0,ou,ix,lq,ps0,mm,pr0,tY,tZ,c3,rd,HS (h:=H),ft0 z32 d32,UP,Option.ag,az]
  by_cases he:(cz l).2≠0
  ·rw[if_pos (.inl he)]
   simp only[decide_eq_true he,RJ,Oe,eU,fNB,Option.ag,az];rfl
  have sb:binOp .sub (.int .i64 ((P.n*64:Nat):Int)) (.int .i64 64)=some (.int .i64 ((P.n*64-64:Nat):Int)):=by
   show some (PV.int .i64 (IntKind.i64.wrap (((P.n*64:Nat):Int)-64)))=_;rw[wrap_small (by omega) (by omega)];congr 2;omega
  have gt:binOp .gtr (.int .i64 ((cz l).1.size:Int)) (.int .i64 ((P.n*64-64:Nat):Int))=some (.bool (decide (l.length-64<(cz l).1.size))):=by
   show some (PV.bool (decide (((cz l).1.size:Int) > ((P.n*64-64:Nat):Int))))=_;congr 2;exact decide_eq_decide.2 (by omega)
  have psq:=fun l=>N3 (ps (size H) l)
  simp only[decide_eq_false he,wT,Ee,Kw,fv0,ldz,psq,if_true,sb,gt,Option.ag,az,eF]
  by_cases hs:l.length-64<(cz l).1.size
  ·rw[if_pos (.inr hs)]
   simp only[decide_eq_true hs,eU,fNB,Option.ag,az];rfl
  rw[if_neg (by simp[he];omega)];have ad:binOp .add (.int .i64 64) (.int .i64 ((cz l).1.size:Int))=some (.int .i64 ((64+(cz l).1.size:Nat):Int)):=by
   show some (PV.int .i64 (IntKind.i64.wrap (64+((cz l).1.size:Int))))=_;rw[wrap_small (by omega) (by omega)];congr 2
  have p2:=fun b g=>pr b g (64+(cz l).1.size) (by omega)
  have ht2:(l.take (64+(cz l).1.size)).length=64+(cz l).1.size:=by rw[List.length_take];omega
  have aby:l.take (64+(cz l).1.size)≠[]:=fun q=>by rw[q]at ht2;simp at ht2;omega
  rw[RK aby]at p2;have ck:=fun H'=>adO (h:=H') (size H) (.inl rfl) (l.take (64+(cz l).1.size)) (by omega)
  have d33:=aem (l.take (64+(cz l).1.size));simp only[decide_eq_false hs,eF,fv0,ldz,ad,p2,tY,tZ,ck,fk1,ft1 z32 d33,UP,Option.ag,az]
  by_cases hc:(D1 (l.take (64+(cz l).1.size))).2≠0
  ·rw[if_pos hc]
   simp only[decide_eq_true hc,eU,fNB];rfl
  ·rw[if_neg hc]
   simp only[decide_eq_false hc,eF,fSB (.inl rfl)];show _=some (PV.cF [BI (l.take (64+(cz l).1.size)),PV.bool true],H);rw[RK aby]
theorem eT.valid (i:Int):ai T base 43 [.ptr P.sb 0,.int .i64 i] H=some (.cF [.agg (cr (vD (cQ F P.n i))),.bool (cQ F P.n i).isSome],H):=by
 have z32:iV.dg.length=32:=rfl;have hb:dz (cr iV) []=some (.agg (cr iV)):=rfl;have bt:=(d.ext [.cells (cr iV)]).bytes (size H) i;have n1:unOp .not (.bool false)=some (.bool true):=rfl;have n2:unOp .not (.bool true)=some (.bool false):=rfl;rw[S43,←jT];cases hq:cQ F P.n i with
 | none =>
  rw[hq]at bt;have bt':ai T (size H) 39 [.ptr P.sb 0,.int .i64 i] (Go.Am.ext H [.cells (cr iV)])=some (.cF [.bg,.bool false],Go.Am.ext H [.cells (cr iV)]):=bt;simp only[HS (h:=H),bt',tY,tZ,n1,eU,hb,ft0 z32 z32,fr0 z32,fHB z32,Option.ag,az];rfl
 | some l =>
  rw[hq]at bt;have hl:64≤l.length∧l.length≤P.n*64:=by
   unfold cQ at hq;split at hq
   ·cases hq
   ·split at hq
    ·cases hq
    ·rename_i hi _
     have:=Ky hq;have hsl:=nj (i:=i.toNat) d.fl (by omega);omega
  have hn:=d.hn;have hne:l≠[]:=fun q=>by rw[q]at hl;simp at hl
  have bt':ai T (size H) 39 [.ptr P.sb 0,.int .i64 i] (Go.Am.ext H [.cells (cr iV)])=some (.cF [.sl .no 1 (aP l),.bool true],Go.Am.ext H [.cells (cr iV)]):=by rw[←RK hne];exact bt
  have d32:=G6 l;have rd:=fun H'=>Kq (h:=H') (size H) .no l (by omega)
  simp only[HS (h:=H),bt',tY,tZ,n2,eF,rd,fk1,ft1 z32 d32,fa1 d32,ft0 z32 d32,fr0 d32,fHB d32,Option.ag,az];rfl
theorem eT.same (i:Int) {v:PV} {l:List UInt8} (hv:Rd H v l):ai T base 21 [.ptr P.sb 0,.int .i64 i,v] H=some (.bool (cQ F P.n i == some l),H):=by
 have bt:=d.bytes (size H) i;rw[S21,bt];cases hq:cQ F P.n i with
 | none =>
  simp only[bV,Option.isSome,tY,tZ,wF2,Oe,eF,fB,Option.ag,az];rfl
 | some b =>
  have eq:=AL (h:=H) (size H) (abj b) hv;simp only[bV,Option.isSome,tY,tZ,wT,Ee,Kx,eq,eU,fB,Option.ag,az];rfl
end
end Go.Am.Qd
namespace Go.Am.Qd
structure HT (F G:Fl):Prop where
 b:G.b.length=F.b.length
 w:G.bN.length=F.bN.length
 s:G.aj=F.aj
theorem HT.refl (F:Fl):HT F F:=⟨rfl,rfl,rfl⟩
theorem HT.trans {F G K:Fl} (a:HT F G) (b:HT G K):HT F K:=⟨b.b.trans a.b,b.w.trans a.w,b.s.trans a.s⟩
theorem gO.Yk {F:Fl} (hF:gO F) (i:Nat) (l:List UInt8):gO (F.program i l).2∧HT F (F.program i l).2:=by
 obtain⟨h1,h2,h3,h4⟩:=hF.program i l;exact⟨h1,h2,by rw[h3],h4⟩
theorem gO.shL {F:Fl} (hF:gO F) (i:Nat) (l:List UInt8):gO (F.lay i l).2∧HT F (F.lay i l).2:=by
 obtain⟨h1,h2,h3,h4⟩:=hF.lay i l;exact⟨h1,h2,by rw[h3],h4⟩
theorem gO.shC {F:Fl} (hF:gO F) (s n:Nat) (hs:s+n≤F.bN.length):gO (F.clear s n).2∧HT F (F.clear s n).2:=by
 obtain⟨h1,h2,h3,h4⟩:=hF.clear n s hs;exact⟨h1,h2,h3,h4⟩
theorem gO.shF {F:Fl} (hF:gO F) (A a:Nat) (vs:Vs) (ks:List Nat):gO (F.fill A a vs ks).2.2∧HT F (F.fill A a vs ks).2.2:=by
 obtain⟨h1,h2,h3,h4⟩:=hF.fill A vs ks a;exact⟨h1,h2,by rw[h3],h4⟩
theorem gO.shM {F:Fl} (hF:gO F) (hw:4≤F.bN.length) (sz:Nat) (J:Jn) (vs:Vs):gO (F.move sz J vs).2.1∧HT F (F.move sz J vs).2.1:=by
 unfold Fl.move;split
 ·exact⟨hF,.refl _⟩
 split
 ·exact⟨hF,.refl _⟩
 simp only;obtain⟨f1,s1⟩:=hF.shC (2*(1-J.now)) 2 (by omega);split
 ·exact⟨f1,s1⟩
 obtain⟨f2,s2⟩:=f1.shF (2*(1-J.now)*F.aj) 8 vs (fz vs);split
 ·exact⟨f2,s1.trans s2⟩
 obtain⟨f3,s3⟩:=f2.Yk (2*(1-J.now)*F.aj+1) (br (J.bM+1#32));split
 ·exact⟨f3,s1.trans (s2.trans s3)⟩
 obtain⟨f4,s4⟩:=f3.Yk (2*(1-J.now)*F.aj+0) [0];split
 ·exact⟨f4,s1.trans (s2.trans (s3.trans s4))⟩
 ·exact⟨f4,s1.trans (s2.trans (s3.trans s4))⟩
theorem Fq.shp {F G:Fl} {sz:Nat} (hF:Fq F sz) (hg:gO G) (s:HT F G):Fq G sz:=hF.of hg s.b s.w s.s
theorem Oh {F:Fl} {sz:Nat} (hF:Fq F sz) {J:Jn} {vs:Vs} (hk:Keyed vs) (hn:J.now≤1) (hf:J.fin≤sz) (b:List UInt8):gO (F.gi sz J b vs).2.1∧HT F (F.gi sz J b vs).2.1 ∧
  (∀ J',(F.gi sz J b vs).2.2=some J'→(F.gi sz J b vs).1=0∧J'.now≤1∧J'.fin≤sz)∧((F.gi sz J b vs).2.2=none→(F.gi sz J b vs).1≠0):=by
 unfold Fl.gi;split
 ·exact⟨hF.fin,.refl _,fun J' h=>by simp at h,fun _=>by simp⟩
 split
 ·obtain⟨a1,a2⟩:=hF.fin.shM hF.bN.1 sz J vs
  obtain⟨_,_,b3,b4⟩:=s8 (J:=J) hF hk;exact⟨a1,a2,fun J' h=>by obtain⟨c1,c2,c3,c4,_⟩:=b3 J' h;exact⟨c1,by omega,by omega⟩,b4⟩
 ·simp only
  obtain⟨f1,s1⟩:=hF.fin.shL (2*J.now*F.aj+J.fin) b;split
  ·rename_i hc;exact⟨f1,s1,fun J' h=>by simp at h,fun _=>hc⟩
  ·refine⟨f1,s1,fun J' h=>?_,fun h=>by simp at h⟩
   simp only[Option.some.injEq]at h;subst h;exact⟨rfl,hn,by simp only;omega⟩
def yK (a p:Nat):List UInt8:=[UInt8.ofNat a,UInt8.ofNat p]
def Hr (F:Fl) (J:Jn) (vs:Vs) (a p:Nat):Nat × Fl × Jn × Vs :=
 if bO vs=(a,p) then(0,F,J,vs) else if F.down then(30,F,J,vs) else
 let r:=F.gi 128 J (dF (UInt8.ofNat 0) (yK a p) false) (gN vs 0 (some (yK a p)))
 match r.2.2 with
 | none=>(r.1,r.2.1,J,vs)
 | some J'=>(r.1,r.2.1,J',gN vs 0 (some (yK a p)))
theorem ad1 {vs:Vs} {a p:Nat} (ha:a≤1) (hp:p≤2) {u:Option (List UInt8)} (hg:cP vs 0=some u) (hu:vB u=yK a p):bO vs=(a,p):=by
 have ea:(UInt8.ofNat a).toNat=a:=by simp;omega
 have ep:(UInt8.ofNat p).toNat=p:=by simp;omega
 unfold bO;rw[hg,Option.getD_some,hu];show(if [UInt8.ofNat a,UInt8.ofNat p].length≠2∨1<(UInt8.ofNat a).toNat∨2<(UInt8.ofNat p).toNat then(0,0) else((UInt8.ofNat a).toNat,(UInt8.ofNat p).toNat))=_;rw[ea,ep,if_neg (by simp;omega)]
section
variable {H:Hp} {P:Pl} {F:Fl} {J:Jn} {vs:Vs} {run:Nat} {W:Option Wt} {R:List Nat} (d:eT H P F J vs run W R)
include d
theorem Dv.bK {h:Hp} {m:Nat} {w:PV} (d:Dv H P F J vs run W R h m w) {F':Fl} {J':Jn} {vs':Vs} (hf:gO F') (hs:HT F F') {m':Nat} {x:List (PV × PV)} (hm:(m'=m∧vs'=vs)∨(m'=size h∧x=pN vs'))
  (h1:Small vs') (h2:Keyed vs') (h3:J'.now≤1) (h4:J'.fin≤128) :
  eT (dZ (Go.Am.ext h [.map x]) P.p F' P.jb (jC P.qa P.qb 128 J' m')) P F' J' vs' run W R∧Kp R H (dZ (Go.Am.ext h [.map x]) P.p F' P.jb (jC P.qa P.qb 128 J' m')):=by
 have hse:size (Go.Am.ext h [gW.map x])=size h+1:=by rw[aW];rfl
 have hj:=d.js.ok.ext [.map x];have js0:=d.js.XH [.map x];have hmap:bR (Go.Am.ext h [.map x]) m'=some (pN vs'):=by
  rcases hm with⟨rfl,rfl⟩ | ⟨rfl,rfl⟩
  ·exact js0.map
  ·rw[rU];rfl
 have hnm:(m'≠P.p.f∧m'≠P.p.bb∧m'≠P.p.wb)∧m'≠P.jb:=by
  rcases hm with⟨rfl,rfl⟩ | ⟨rfl,rfl⟩
  ·exact⟨d.js.nm,d.js.mj⟩
  ·obtain⟨n1,n2,n3,n4⟩:=d.js.ok.new
   exact⟨⟨n1,n2,n3⟩,n4⟩
 refine⟨⟨Go.Am.ext h [.map x],m',w,?_⟩,?_,fun b hb=>?_⟩
 ·have dx:=d.ext [.map x]
  exact { dx with eq:=rfl,js:=⟨hj,hmap,hnm.1,hnm.2,h1,h2,d.js.fl.shp hf hs,h3,h4⟩,fs:=by rw[hs.s];exact d.fs,fl:=by rw[hs.b];exact d.fl,fw:=by rw[hs.w];exact d.fw }
 ·rw[dH hj,d.td,hse];omega
 ·obtain⟨b1,b2,b3⟩:=d.ro b hb
  rw[b2.box hj,d.box b2,dP b1]
theorem eT.keep {base:Nat} (hb:base≤P.lo) {a p:Nat} (ha:a≤1) (hp:p≤2):∃ H',ai T base 62 [.ptr P.sb 0,.int .i64 (a:Int),.int .i64 (p:Int)] H=some (.int .i64 ((Hr F J vs a p).1:Int),H') ∧
  eT H' P (Hr F J vs a p).2.1 (Hr F J vs a p).2.2.1 (Hr F J vs a p).2.2.2 run W R∧Kp R H H':=by
 have kp:=d.kept base;have hkl:=lT vs;have n0:aF (.ptr P.sb 0)=some (.ptr P.sb 0):=rfl;have e1:binOp .eql (.int .i64 ((bO vs).1:Int)) (.int .i64 (a:Int))=some (.bool (decide ((bO vs).1=a))):=by
  show some (PV.bool (((bO vs).1:Int) == (a:Int)))=_
  by_cases hq:(bO vs).1=a
  ·rw[hq,decide_eq_true rfl];simp
  ·rw[decide_eq_false hq,beq_false_of_ne (by omega)]
 have e2:binOp .eql (.int .i64 ((bO vs).2:Int)) (.int .i64 (p:Int))=some (.bool (decide ((bO vs).2=p))):=by
  show some (PV.bool (((bO vs).2:Int) == (p:Int)))=_
  by_cases hq:(bO vs).2=p
  ·rw[hq,decide_eq_true rfl];simp
  ·rw[decide_eq_false hq,beq_false_of_ne (by omega)]
 have fk:∀ (v:PV) (H':Hp),bk true false (size H) [v] H'=some (v,H'):=fun v H'=>m6 _ _ _ _
 by_cases hq:bO vs=(a,p)
 ·refine⟨H,?_,?_,Kp.refl _ _⟩
  ·unfold Hr
   rw[if_pos hq];have q1:(bO vs).1=a:=by rw[hq]
   have q2:(bO vs).2=p:=by rw[hq]
   rw[S62];simp only[kp,tY,tZ,e1,decide_eq_true q1,wT,Ee,e2,decide_eq_true q2,Kw,eU,fk,Option.ag,az];rfl
  ·unfold Hr
   rw[if_pos hq];exact d
 ·have hgo:∀ K:PV→Option (PV × Hp),((aq (.bool (decide ((bO vs).1=a))) true).ah fun W3=>(au W3 (some (.int .i64 ((bO vs).2:Int))) (some .undef)).ah fun je =>
    (aq (.bool (decide ((bO vs).1=a))) true).ah fun W4=>(au W4 (some (.int .i64 (p:Int))) (some .undef)).ah fun pE =>
    (aq (.bool (decide ((bO vs).1=a))) true).ah fun b22=>(au b22 ((binOp .eql je pE).ah some) (some .undef)).ah fun nP =>
    (aD (.bool (decide ((bO vs).1=a))) (some nP) (some (.bool false))).ah K)=K (.bool false):=fun K=>by
   by_cases q1:(bO vs).1=a
   ·have q2:(bO vs).2≠p:=fun q2=>hq (Prod.ext q1 q2)
    simp only[decide_eq_true q1,wT,Ee,e2,decide_eq_false q2,Kw,eU,Option.ag]
   ·simp only[decide_eq_false q1,wF2,Oe,eF,Option.ag]
  have a8:ct (.int .i64 (a:Int)) .u8=some (.int .u8 (((UInt8.ofNat a).toNat:Nat):Int)):=by
   have:a=0∨a=1:=by omega
   rcases this with rfl | rfl<;>rfl
  have p8:ct (.int .i64 (p:Int)) .u8=some (.int .u8 (((UInt8.ofNat p).toNat:Nat):Int)):=by
   have:p=0∨p=1∨p=2:=by omega
   rcases this with rfl | rfl | rfl<;>rfl
  have bs:cH 1 false [(.int .u8 0)] 2 [(0,strip (.int .u8 (((UInt8.ofNat a).toNat:Nat):Int))),(1,strip (.int .u8 (((UInt8.ofNat p).toNat:Nat):Int)))]=some (.sl .full 1 (aP (yK a p))):=rfl;obtain⟨h,m,w,dd⟩:=d;have l2:ax 1 false (.ptr P.sb 2) H=some (.ptr P.jb 0):=dd.ld 2;have hbv:Bv (.sl .full 1 (aP (yK a p))) (yK a p):=pL (.inr rfl) _;have Kf:cl (.sl .full 1 (aP (yK a p))) (yK a p)=some (yK a p):=if_neg (by simp);have aeO:∀ (e:Nat) (H':Hp),ai T base 97 [.ptr P.jb 0,.int .i64 0,.sl .full 1 (aP (yK a p))] H=some (.int .i64 (e:Int),H') →
    ai T base 62 [.ptr P.sb 0,.int .i64 (a:Int),.int .i64 (p:Int)] H=some (.int .i64 (e:Int),H'):=fun e H' hc=>by
   rw[S62];simp only[kp,tY,tZ,e1,hgo,eF,n0,ou,l2,a8,p8,bs,hc,fk,Option.ag,az]
  unfold Hr;rw[if_neg hq]
  by_cases hd:F.down=true
  ·rw[if_pos hd]
   have hf:aaG F 0 (yK a p).length=30:=by unfold aaG;rw[if_pos hd]
   have:=aen (F:=F) dd.js base 0 (hbv.len) (by rw[hf];decide);rw[hf,←dd.eq]at this;exact⟨H,aeO 30 H this,⟨h,m,w,dd⟩,Kp.refl _ _⟩
  ·rw[if_neg hd]
   have hf:aaG F ((0:Nat):Int) (yK a p).length=0:=by
    unfold aaG;rw[if_neg hd,if_neg (by omega)];rfl
   have:=akV (F:=F) dd.js (base:=base) (Nat.le_trans hb dd.lj) (k:=0) hbv (.inl rfl) hf (fun u hg hu=>hq (ad1 ha hp hg hu));rw[Kf,←dd.eq]at this;have hkk:=dd.js.keyed.gN 0 (some (yK a p));have hsm:=dd.js.small.gN dd.js.keyed (k:=0) (v:=some (yK a p)) (by decide) (by show 2≤250;decide);obtain⟨w1,w2,w3,w4⟩:=Oh dd.js.fl hkk dd.js.now dd.js.fin (dF (UInt8.ofNat 0) (yK a p) false);simp only;generalize F.gi 128 J (dF (UInt8.ofNat 0) (yK a p) false) (gN vs 0 (some (yK a p)))=r at this w1 w2 w3 w4 ⊢;obtain⟨r1,r2,r3⟩:=r;cases r3 with
   | none =>
    obtain⟨q1,q2⟩:=Dv.bK ⟨h,m,w,dd⟩ dd (F':=r2) (J':=J) (vs':=vs) w1 w2 (m':=m) (x:=pN (gN vs 0 (some (yK a p)))) (.inl ⟨rfl,rfl⟩) dd.js.small dd.js.keyed dd.js.now dd.js.fin;exact⟨_,aeO _ _ this,q1,q2⟩
   | some J' =>
    obtain⟨c1,c2,c3⟩:=w3 J' rfl;obtain⟨q1,q2⟩:=Dv.bK ⟨h,m,w,dd⟩ dd (F':=r2) (J':=J') (vs':=gN vs 0 (some (yK a p))) w1 w2 (m':=size h) (x:=pN (gN vs 0 (some (yK a p)))) (.inr ⟨rfl,rfl⟩) hsm hkk c2 c3;exact⟨_,aeO _ _ this,q1,q2⟩
end
end Go.Am.Qd
namespace Go.Am.Qd
structure Ss where
 F:Fl
 J:Jn
 vs:Vs
 run:Nat
 W:Option Wt
abbrev DS (H:Hp) (P:Pl) (s:Ss) (R:List Nat):Prop:=eT H P s.F s.J s.vs s.run s.W R
def Ss.act (s:Ss):Nat:=(bO s.vs).1
def Ss.ph (s:Ss):Nat:=(bO s.vs).2
def Ss.keep (s:Ss) (a p:Nat):Nat × Ss:=((Hr s.F s.J s.vs a p).1,{ s with F:=(Hr s.F s.J s.vs a p).2.1,J:=(Hr s.F s.J s.vs a p).2.2.1,vs:=(Hr s.F s.J s.vs a p).2.2.2 })
def Ss.ok (s:Ss) (n i:Nat):Bool:=(cQ s.F n (i:Int)).isSome
def Ss.cD (s:Ss) (n slot phase:Nat):Nat × Nat × Ss :=
 if s.ok n slot=true then(if(s.keep s.act phase).1≠0 then(0,(s.keep s.act phase).1,(s.keep s.act phase).2) else(slot,0,{ (s.keep s.act phase).2 with run:=slot }))
 else if s.ok n (1-slot)=false then(0,4,s)
 else if(s.keep (1-slot) 0).1≠0 then(0,(s.keep (1-slot) 0).1,(s.keep (1-slot) 0).2) else(1-slot,0,{ (s.keep (1-slot) 0).2 with run:=1-slot })
def Ss.stop (s:Ss):Ss:={ s with W:=none }
def Ss.select (s:Ss) (n:Nat):Nat × Nat × Ss :=
 if s.F.down then(0,30,s.stop) else if s.ph=1∧s.ok n (1-s.act)=true then s.stop.cD n (1-s.act) 2 else s.stop.cD n s.act 0
def Ss.dh (s:Ss):Nat × Ss :=
 if s.F.down then(30,s) else if s.ph≠2∨s.run≠1-s.act then(60,s) else s.keep s.run 0
def Ss.arm (s:Ss) (n:Nat):Nat × Ss :=
 if s.F.down then(30,s) else if s.ph≠0∨s.W.isSome=true then(60,s) else if s.ok n (1-s.act)=false then(4,s) else s.keep s.act 1
theorem XK {H:Hp} {base:Nat} (hb:base≤size H) {x y:qx} (hx:x.dg.length=32) (hy:y.dg.length=32):aS base 35 (.ptr (size H) 0) (.agg (cr y)) (ext H [.cells (cr x)])=some (ext H [.cells (cr y)]):=by
 rw[jh (by rw[aQ];rfl) hb (eD hx) (eD hy) (tX _),eu (Nat.le_refl _)];simp
theorem D4 (b:Option (List UInt8)):(vD b).dg.length=32:=by
 cases b with
 | none=>rfl
 | some l=>exact G6 l
theorem fK (n0:Nat) (v:PV) (H:Hp):bk true false n0 [v] H=some (v,H):=m6 _ _ _ _
theorem T4 (n0:Nat) (v u:PV) (H:Hp):bk true false n0 [v,u] H=some (.cF [v,u],H):=m6 _ _ _ _
section
variable {H:Hp} {P:Pl} {F:Fl} {J:Jn} {vs:Vs} {run:Nat} {W:Option Wt} {R:List Nat} (d:eT H P F J vs run W R)
include d
theorem eT.T5 (l:Hp):Kp R H (Go.Am.ext H l):=by
 obtain⟨h,m,w,d⟩:=d;refine⟨by rw[aW];omega,fun b hb=>?_⟩;rw[dP (by rw[d.td];exact(d.ro b hb).1)]
theorem eT.lo_le:P.lo≤size H:=by
 obtain⟨h,m,w,d⟩:=d;have:=cw d.sb;rw[d.td];have:=d.ls;omega
theorem eT.RM (base:Nat) {r:Nat} (hr:r≤1):∃ H',aS base 1 (.ptr P.sb 3) (.int .i64 (r:Int)) H=some H'∧eT H' P F J vs r W R∧Kp R H H':=by
 obtain⟨h,m,w,d⟩:=d;have hw:LY (aC h P.sb (.cells (sC P r w))) P R w W:=by
  refine LY.set d d.wo (fun W' hW wb hwb=>?_) _;subst hW;obtain⟨wb',hk,hv,ws,rr,a1,a2,a3,a4,a5,a6,a7,a8,a9,b1,b2,b3,b4,b5,b6⟩:=d.wo;rw[a1]at hwb;cases hwb;refine⟨Ne.symm b3,fun hv' hk' a c hg=>?_⟩;rw[a2]at hg;cases hg;refine⟨Ne.symm b4,fun tb es he=>?_⟩;rcases a5 with⟨_,a5⟩ | ⟨_,tb',c1,c2,c3,c4,c5,c6,c7⟩
  ·rw[a5]at he;cases he
  ·rw[c1]at he;cases he;exact Ne.symm c6
 obtain⟨d',k⟩:=d.XJ (run':=r) (w':=w) (W':=W) hr hw;refine⟨_,?_,⟨_,_,_,d'⟩,k⟩;rw[dA,d.RH,Option.ag,if_pos ⟨rfl,by show 3+1≤5;decide,rfl,fun _=>rfl⟩];have:(if P.sb<base then aO (PV.int .i64 (r:Int)).cells else(PV.int .i64 (r:Int)).cells)=[.int .i64 (r:Int)]:=by split<;>rfl
 rw[this];rfl
end
theorem nei (a b:Nat):binOp .neq (.int .i64 (a:Int)) (.int .i64 (b:Int))=some (.bool (decide (a≠b))):=by
 show some (PV.bool (!((a:Int) == (b:Int))))=_
 by_cases he:a=b
 ·subst he;simp
 ·rw[show((a:Int) == (b:Int))=false from beq_false_of_ne (by omega),decide_eq_true he];rfl
theorem eqi (a b:Nat):binOp .eql (.int .i64 (a:Int)) (.int .i64 (b:Int))=some (.bool (decide (a=b))):=by
 show some (PV.bool ((a:Int) == (b:Int)))=_
 by_cases he:a=b
 ·subst he;simp
 ·rw[show((a:Int) == (b:Int))=false from beq_false_of_ne (by omega),decide_eq_false he]
theorem amb {a:Nat} (ha:a≤1):binOp .sub (.int .i64 1) (.int .i64 (a:Int))=some (.int .i64 ((1-a:Nat):Int)):=by
 show some (PV.int .i64 (IntKind.i64.wrap (1-(a:Int))))=_;rw[wrap_small (by omega) (by omega)];congr 2;omega
section
variable {H:Hp} {P:Pl} {s:Ss} {R:List Nat} (d:DS H P s R) {base:Nat} (hb:base≤P.lo)
include d hb
theorem DS.keep {a p:Nat} (ha:a≤1) (hp:p≤2):∃ H',ai T base 62 [.ptr P.sb 0,.int .i64 (a:Int),.int .i64 (p:Int)] H=some (.int .i64 ((s.keep a p).1:Int),H')∧DS H' P (s.keep a p).2 R∧Kp R H H' :=
 eT.keep d hb ha hp
theorem DS.cD {slot phase:Nat} (hs:slot≤1) (hp:phase≤2):∃ H',ai T base 65 [.ptr P.sb 0,.int .i64 (slot:Int),.int .i64 (phase:Int)] H=some (.cF [.int .i64 ((s.cD P.n slot phase).1:Int),.int .i64 ((s.cD P.n slot phase).2.1:Int)],H') ∧
  DS H' P (s.cD P.n slot phase).2.2 R∧Kp R H H':=by
 have hlo:=eT.lo_le d;have ac:=eT.mM d base;have vl:=eT.valid d base (slot:Int);have z32:iV.dg.length=32:=rfl;have n0:aF (.ptr P.sb 0)=some (.ptr P.sb 0):=rfl;have Bg:=XK (H:=H) (base:=base) (by omega) z32 (D4 (cQ s.F P.n (slot:Int)));have d1:DS (Go.Am.ext H [.cells (cr (vD (cQ s.F P.n (slot:Int))))]) P s R:=eT.ext d _;have k1:=eT.T5 d [.cells (cr (vD (cQ s.F P.n (slot:Int))))];have hal:=(lT s.vs).1;unfold Ss.cD
 by_cases hv:s.ok P.n slot=true
 ·rw[if_pos hv]
  have hv':(cQ s.F P.n (slot:Int)).isSome=true:=hv;obtain⟨H',e1,e2,e3⟩:=DS.keep d1 hb (a:=s.act) (p:=phase) hal hp;have e1':ai T base 62 [.ptr P.sb 0,.int .i64 ((bO s.vs).1:Int),.int .i64 (phase:Int)] _=_:=e1
  by_cases he:(s.keep s.act phase).1≠0
  ·rw[if_pos he]
   refine⟨H',?_,e2,k1.trans e3⟩;rw[S65,←jT];simp only[ac,vl,tY,tZ,HS (h:=H),Bg,hv',show unOp .not (.bool true)=some (.bool false) from rfl,eF,e1',UP,decide_eq_true he,eU,T4,Option.ag,az];rfl
  ·rw[if_neg he]
   obtain⟨H2,r1,r2,r3⟩:=eT.RM e2 base hs;refine⟨H2,?_,r2,(k1.trans e3).trans r3⟩;rw[S65,←jT];simp only[ac,vl,tY,tZ,HS (h:=H),Bg,hv',show unOp .not (.bool true)=some (.bool false) from rfl,eF,e1',UP,decide_eq_false he,n0,ou,r1,T4,Option.ag,az];rfl
 ·have X4:s.ok P.n slot=false:=by simpa using hv
  have hv':(cQ s.F P.n (slot:Int)).isSome=false:=X4;rw[if_neg hv];have vl2:=eT.valid d1 base (((1-slot:Nat)):Int);have ark:=eT.lo_le d1;have Se:=XK (H:=Go.Am.ext H [.cells (cr (vD (cQ s.F P.n (slot:Int))))]) (base:=base) (by omega) z32 (D4 (cQ s.F P.n ((1-slot:Nat):Int)));have d2:DS (Go.Am.ext (Go.Am.ext H [.cells (cr (vD (cQ s.F P.n (slot:Int))))]) [.cells (cr (vD (cQ s.F P.n ((1-slot:Nat):Int))))]) P s R:=eT.ext d1 _;have k2:=k1.trans (eT.T5 d1 [.cells (cr (vD (cQ s.F P.n ((1-slot:Nat):Int))))]);have sb:=amb hs
  by_cases ho:s.ok P.n (1-slot)=false
  ·rw[if_pos ho]
   have ho':(cQ s.F P.n ((1-slot:Nat):Int)).isSome=false:=ho;refine⟨_,?_,d2,k2⟩;rw[S65,←jT];simp only[ac,vl,tY,tZ,HS,Bg,hv',show unOp .not (.bool false)=some (.bool true) from rfl,eU,sb,vl2,Se,ho',T4,Option.ag,az];rfl
  ·rw[if_neg ho]
   have ho1:s.ok P.n (1-slot)=true:=by simpa using ho
   have ho':(cQ s.F P.n ((1-slot:Nat):Int)).isSome=true:=ho1;obtain⟨H',e1,e2,e3⟩:=DS.keep d2 hb (a:=1-slot) (p:=0) (by omega) (by omega);simp only[show((0:Nat):Int)=0 from rfl]at e1
   by_cases he:(s.keep (1-slot) 0).1≠0
   ·rw[if_pos he]
    refine⟨H',?_,e2,k2.trans e3⟩;rw[S65,←jT];simp only[ac,vl,tY,tZ,HS,Bg,hv',show unOp .not (.bool false)=some (.bool true) from rfl,show unOp .not (.bool true)=some (.bool false) from rfl,eU,eF,sb,vl2,Se,ho',e1,UP,decide_eq_true he,T4,Option.ag,az];rfl
   ·rw[if_neg he]
    obtain⟨H2,r1,r2,r3⟩:=eT.RM e2 base (r:=1-slot) (by omega);refine⟨H2,?_,r2,(k2.trans e3).trans r3⟩;rw[S65,←jT];simp only[ac,vl,tY,tZ,HS,Bg,hv',show unOp .not (.bool false)=some (.bool true) from rfl,show unOp .not (.bool true)=some (.bool false) from rfl,eU,eF,sb,vl2,Se,ho',e1,UP,decide_eq_false he,n0,ou,r1,T4,Option.ag,az];rfl
end
end Go.Am.Qd
namespace Go.Am.Qd
section
variable {H:Hp} {P:Pl} {s:Ss} {R:List Nat} (d:DS H P s R) {base:Nat} (hb:base≤P.lo)
include d
theorem DS.abD:∃ w,ax 1 false (.ptr P.sb 4) H=some w∧gG 0 true w=some (.bool s.W.isSome):=by
 obtain⟨h,m,w,d⟩:=d;refine⟨w,d.ld 4,?_⟩;have hw:=d.wo;cases hW:s.W with
 | none=>rw[hW]at hw;have:w=.bp:=hw;subst this;rfl
 | some W=>rw[hW]at hw;obtain⟨wb,hk,hv,ws,r,rfl,_⟩:=hw;rfl
theorem DS.rn:s.run≤1:=by obtain⟨h,m,w,d⟩:=d;exact d.rn
include hb
theorem DS.select:∃ H',ai T base 17 [.ptr P.sb 0] H=some (.cF [.int .i64 ((s.select P.n).1:Int),.int .i64 ((s.select P.n).2.1:Int)],H')∧DS H' P (s.select P.n).2.2 R∧Kp R H H':=by
 obtain⟨H1,e1,e2,e3⟩:=eT.stop d base;have d1:DS H1 P s.stop R:=e2;have dn:=eT.down d1 base;have dn':ai T base 53 [.ptr P.sb 0] H1=some (.bool s.F.down,H1):=dn;unfold Ss.select
 by_cases hd:s.F.down=true
 ·rw[if_pos hd]
  rw[hd]at dn';refine⟨H1,?_,d1,e3⟩;rw[S17];simp only[e1,dn',eU,T4,az];rfl
 rw[if_neg hd];have hd':s.F.down=false:=by simpa using hd
 rw[hd']at dn';have hal:=(lT s.vs).1;have ot:=eT.other d1 base;have vl:=eT.valid d1 base ((1-(bO s.vs).1:Nat):Int);have z32:iV.dg.length=32:=rfl;have hlo:=eT.lo_le d1;have Bg:=XK (H:=H1) (base:=base) (by omega) z32 (D4 (cQ s.F P.n ((1-(bO s.vs).1:Nat):Int)));have d2:DS (Go.Am.ext H1 [.cells (cr (vD (cQ s.F P.n ((1-(bO s.vs).1:Nat):Int))))]) P s.stop R:=eT.ext d1 _;have k2:=e3.trans (eT.T5 d1 [.cells (cr (vD (cQ s.F P.n ((1-(bO s.vs).1:Nat):Int))))]);have ph:=eT.phase d2 base;have ac:=eT.mM d2 base;have ot2:=eT.other d2 base;simp only[show s.stop.vs=s.vs from rfl]at ot ph ac ot2;have eq:=eqi (bO s.vs).2 1;simp only[show((1:Nat):Int)=1 from rfl]at eq;have Sf:ai T base 43 [.ptr P.sb 0,.int .i64 ((1-(bO s.vs).1:Nat):Int)] H1=some (.cF [.agg (cr (vD (cQ s.F P.n ((1-(bO s.vs).1:Nat):Int)))),.bool (s.ok P.n (1-s.act))],H1):=vl;have go:∀ K:PV→Option (PV × Hp),((aq (.bool (decide ((bO s.vs).2=1))) true).ah fun b29=>(au b29 (some (.bool (s.ok P.n (1-s.act)))) (some .undef)).ah fun Al =>
   (aD (.bool (decide ((bO s.vs).2=1))) (some Al) (some (.bool false))).ah K)=K (.bool (decide (s.ph=1∧s.ok P.n (1-s.act)=true))):=fun K=>by
  have hp:s.ph=(bO s.vs).2:=rfl
  by_cases q:(bO s.vs).2=1
  ·simp only[decide_eq_true q,wT,Ee,eU,Option.ag,hp,q,true_and]
   cases s.ok P.n (1-s.act)<;>rfl
  ·simp only[decide_eq_false q,wF2,Oe,eF,Option.ag,hp,q,false_and]
   rfl
 by_cases hc:s.ph=1∧s.ok P.n (1-s.act)=true
 ·rw[if_pos hc]
  obtain⟨H3,q1,q2,q3⟩:=DS.cD d2 hb (slot:=1-s.act) (phase:=2) (by omega) (by omega);have q1':ai T base 65 [.ptr P.sb 0,.int .i64 ((1-(bO s.vs).1:Nat):Int),.int .i64 2] _=_:=q1;refine⟨H3,?_,q2,k2.trans q3⟩;rw[S17,←jT];simp only[e1,dn',eF,ot,Sf,tY,tZ,HS,Bg,ph,eq,go,decide_eq_true hc,eU,ot2,q1',T4,Option.ag,az]
 ·rw[if_neg hc]
  obtain⟨H3,q1,q2,q3⟩:=DS.cD d2 hb (slot:=s.act) (phase:=0) hal (by omega);have q1':ai T base 65 [.ptr P.sb 0,.int .i64 ((bO s.vs).1:Int),.int .i64 0] _=_:=q1;refine⟨H3,?_,q2,k2.trans q3⟩;rw[S17,←jT];simp only[e1,dn',eF,ot,Sf,tY,tZ,HS,Bg,ph,eq,go,decide_eq_false hc,ac,q1',T4,Option.ag,az]
theorem DS.dh:∃ H',ai T base 18 [.ptr P.sb 0] H=some (.int .i64 (s.dh.1:Int),H')∧DS H' P s.dh.2 R∧Kp R H H':=by
 have dn:=eT.down d base;have ph:=eT.phase d base;have ot:=N3 (eT.other d base);have n0:aF (.ptr P.sb 0)=some (.ptr P.sb 0):=rfl;have hrn:=DS.rn d;have l3:ax 1 false (.ptr P.sb 3) H=some (.int .i64 (s.run:Int)):=by obtain⟨h,m,w,dd⟩:=d;exact dd.ld 3
 have nq:=nei (bO s.vs).2 2;simp only[show((2:Nat):Int)=2 from rfl]at nq;unfold Ss.dh
 by_cases hd:s.F.down=true
 ·rw[if_pos hd]
  rw[hd]at dn;refine⟨H,?_,d,Kp.refl _ _⟩;rw[S18];simp only[dn,eU,fK,az];rfl
 rw[if_neg hd];have hd':s.F.down=false:=by simpa using hd
 rw[hd']at dn
 by_cases hp:s.ph≠2
 ·have hp':(bO s.vs).2≠2:=hp
  rw[if_pos (.inl hp)];refine⟨H,?_,d,Kp.refl _ _⟩;rw[S18];simp only[dn,eF,ph,nq,decide_eq_true hp',RJ,Oe,eU,fK,Option.ag,az];rfl
 have hp':¬ (bO s.vs).2≠2:=hp;have nr:=nei s.run (1-(bO s.vs).1)
 by_cases hr:s.run≠1-s.act
 ·have hr':s.run≠1-(bO s.vs).1:=hr
  rw[if_pos (.inr hr)];refine⟨H,?_,d,Kp.refl _ _⟩;rw[S18];simp only[dn,eF,ph,nq,decide_eq_false hp',wT,Ee,Kw,n0,ou,l3,ot,if_true,nr,decide_eq_true hr',eU,fK,Option.ag,az];rfl
 ·have hr':¬ s.run≠1-(bO s.vs).1:=hr
  rw[if_neg (by simp only[not_or];exact⟨hp,hr⟩)];obtain⟨H',e1,e2,e3⟩:=DS.keep d hb (a:=s.run) (p:=0) hrn (by omega);simp only[show((0:Nat):Int)=0 from rfl]at e1;refine⟨H',?_,e2,e3⟩;rw[S18];simp only[dn,eF,ph,nq,decide_eq_false hp',wT,Ee,Kw,n0,ou,l3,ot,if_true,nr,decide_eq_false hr',e1,fK,Option.ag,az]
theorem DS.arm:∃ H',ai T base 15 [.ptr P.sb 0] H=some (.int .i64 ((s.arm P.n).1:Int),H')∧DS H' P (s.arm P.n).2 R∧Kp R H H':=by
 have hal:=(lT s.vs).1;have ot:=eT.other d base;have vl:=eT.valid d base ((1-(bO s.vs).1:Nat):Int);have Sf:ai T base 43 [.ptr P.sb 0,.int .i64 ((1-(bO s.vs).1:Nat):Int)] H=some (.cF [.agg (cr (vD (cQ s.F P.n ((1-(bO s.vs).1:Nat):Int)))),.bool (s.ok P.n (1-s.act))],H):=vl;have z32:iV.dg.length=32:=rfl;have hlo:=eT.lo_le d;have n0:aF (.ptr P.sb 0)=some (.ptr P.sb 0):=rfl;have Bg:=XK (H:=H) (base:=base) (by omega) z32 (D4 (cQ s.F P.n ((1-(bO s.vs).1:Nat):Int)));have d2:DS (Go.Am.ext H [.cells (cr (vD (cQ s.F P.n ((1-(bO s.vs).1:Nat):Int))))]) P s R:=eT.ext d _;have k2:=eT.T5 d [.cells (cr (vD (cQ s.F P.n ((1-(bO s.vs).1:Nat):Int))))];have dn:=eT.down d2 base;have ph:=eT.phase d2 base;have ac:=eT.mM d2 base;obtain⟨w,lw,iw⟩:=DS.abD d2;have nq:=UP (bO s.vs).2;unfold Ss.arm
 by_cases hd:s.F.down=true
 ·rw[if_pos hd]
  rw[hd]at dn;refine⟨_,?_,d2,k2⟩;rw[S15,←jT];simp only[ot,Sf,tY,tZ,HS (h:=H),Bg,dn,eU,fK,Option.ag,az];rfl
 rw[if_neg hd];have hd':s.F.down=false:=by simpa using hd
 rw[hd']at dn
 by_cases hp:s.ph≠0
 ·have hp':(bO s.vs).2≠0:=hp
  rw[if_pos (.inl hp)];refine⟨_,?_,d2,k2⟩;rw[S15,←jT];simp only[ot,Sf,tY,tZ,HS (h:=H),Bg,dn,eF,ph,nq,decide_eq_true hp',eU,fK,Option.ag,az];rfl
 have hp':¬ (bO s.vs).2≠0:=hp
 by_cases hw:s.W.isSome=true
 ·rw[if_pos (.inr hw)]
  rw[hw]at iw;refine⟨_,?_,d2,k2⟩;rw[S15,←jT];simp only[ot,Sf,tY,tZ,HS (h:=H),Bg,dn,eF,ph,nq,decide_eq_false hp',n0,ou,lw,iw,eU,fK,Option.ag,az];rfl
 rw[if_neg (by simp only[not_or];exact⟨hp,hw⟩)];have hw':s.W.isSome=false:=by simpa using hw
 rw[hw']at iw;cases ho:s.ok P.n (1-s.act) with
 | false =>
  rw[if_pos rfl];rw[ho]at Sf;refine⟨_,?_,d2,k2⟩;rw[S15,←jT];simp only[ot,Sf,tY,tZ,HS (h:=H),Bg,dn,eF,ph,nq,decide_eq_false hp',n0,ou,lw,iw,show unOp .not (.bool false)=some (.bool true) from rfl,eU,fK,Option.ag,az];rfl
 | true =>
  rw[if_neg (by simp)];rw[ho]at Sf;obtain⟨H',e1,e2,e3⟩:=DS.keep d2 hb (a:=s.act) (p:=1) hal (by omega);have e1':ai T base 62 [.ptr P.sb 0,.int .i64 ((bO s.vs).1:Int),.int .i64 1] _=_:=e1;refine⟨H',?_,e2,k2.trans e3⟩;rw[S15,←jT];simp only[ot,Sf,tY,tZ,HS (h:=H),Bg,dn,eF,ph,nq,decide_eq_false hp',n0,ou,lw,iw,show unOp .not (.bool true)=some (.bool false) from rfl,ac,e1',fK,Option.ag,az]
end
end Go.Am.Qd
namespace Go.Am.Qd
structure Dq (H:Hp) (P:Pl) (F:Fl) (J:Jn) (vs:Vs) (run:Nat) (R:List Nat) (h:Hp) (m:Nat) (w:PV):Prop where
 eq:H=dZ h P.p F P.jb (jC P.qa P.qb 128 J m)
 js:JS h P.p F P.jb P.qa P.qb 128 m J vs
 pc:gL h P.p P.qc 4 P.n
 pd:gL h P.p P.qd (4+P.n) P.n
 cj:P.qc≠P.jb
 dj:P.qd≠P.jb
 fs:F.aj=64
 fl:F.b.length=(4+2*P.n)*64
 fw:F.bN.length=4+2*P.n
 hn:4≤P.n∧P.n≤7
 sb:ay h P.sb=some (sC P run w)
 ns:NJ P P.sb
 rn:run≤1
 ro:∀ b∈R,b<size h∧NJ P b∧b≠P.sb
 lj:P.lo≤P.jb
 ls:P.lo≤P.sb
theorem Dv.q {H:Hp} {P:Pl} {F:Fl} {J:Jn} {vs:Vs} {run:Nat} {W:Option Wt} {R:List Nat} {h:Hp} {m:Nat} {w:PV} (d:Dv H P F J vs run W R h m w):Dq H P F J vs run R h m w :=
 ⟨d.eq,d.js,d.pc,d.pd,d.cj,d.dj,d.fs,d.fl,d.fw,d.hn,d.sb,d.ns,d.rn,d.ro,d.lj,d.ls⟩
section
variable {H:Hp} {P:Pl} {F:Fl} {J:Jn} {vs:Vs} {run:Nat} {R:List Nat} {h:Hp} {m:Nat} {w:PV} (d:Dq H P F J vs run R h m w)
include d
theorem Dq.v {W:Option Wt} (hw:LY h P R w W):Dv H P F J vs run W R h m w:={ d with wo:=hw }
theorem Dq.td:size H=size h:=by rw[d.eq];exact dH d.js.ok _
theorem Dq.box {b:Nat} (hn:NJ P b):bY H b=bY h b:=by rw[d.eq];exact hn.box d.js.ok
theorem Dq.get {b:Nat} (hn:NJ P b):ay H b=ay h b:=by rw[d.eq];exact hn.get d.js.ok
theorem Dq.nb {b:Nat} (hb:size h≤b):NJ P b:=by
 have h1:=d.js.ok.fo.lf;have h2:=d.js.ok.fo.lb;have h3:=d.js.ok.fo.lw;have h4:=d.js.ok.lj;exact⟨by omega,by omega,by omega,by omega⟩
theorem Dq.ext (l:Hp):Dq (Go.Am.ext H l) P F J vs run R (Go.Am.ext h l) m w∧Kp R H (Go.Am.ext H l):=by
 refine⟨{ d with eq:=?_,js:=d.js.XH l,pc:=d.pc.ext l,pd:=d.pd.ext l,sb:=?_,ro:=fun b hb=>⟨?_,(d.ro b hb).2⟩ },?_,fun b hb=>?_⟩
 ·rw[d.eq];exact ng d.js.ok _ l
 ·rw[aX (cw d.sb)];exact d.sb
 ·have:=(d.ro b hb).1;rw[aW];omega
 ·rw[aW];omega
 ·rw[dP (by rw[d.td];exact(d.ro b hb).1)]
theorem Dq.set {b:Nat} (hn:NJ P b) (hs:b≠P.sb) (hR:b ∉ R) (h3:∀ cs,ay h b=some cs→cs.length≠3) (hm:bR h b=none) (x:gW) :
  Dq (aC H b x) P F J vs run R (aC h b x) m w∧Kp R H (aC H b x):=by
 have key:∀ {q f c:Nat},gL h P.p q f c→gL (aC h b x) P.p q f c:=fun {q f c} hq=>by
  have hne:b≠q:=fun he=>by subst he;exact h3 _ hq.get rfl
  exact⟨by rw[bD hne];exact hq.get,hq.n1,hq.n2,hq.n3⟩
 have hmb:b≠m:=fun he=>by rw[he,d.js.map]at hm;cases hm
 have hmm:bR (aC h b x) m=some (pN vs):=by rw[jE hmb];exact d.js.map
 have hok:Bh (aC h b x) P.p P.jb P.qa P.qb:={ d.js.ok with fo:=d.js.ok.fo.set _ _,pa:=key d.js.ok.pa,pb:=key d.js.ok.pb,lj:=by rw[aJ];exact d.js.ok.lj };have j1:JS (aC h b x) P.p F P.jb P.qa P.qb 128 m J vs:={ d.js with ok:=hok,map:=hmm };have j2:=key d.pc;have j3:=key d.pd;refine⟨{ d with eq:=?_,js:=j1,pc:=j2,pd:=j3,sb:=?_,ro:=fun c hc=>?_ },?_,fun c hc=>?_⟩
 ·rw[d.eq];exact hn.set d.js.ok _
 ·rw[bD hs];exact d.sb
 ·rw[aJ];exact d.ro c hc
 ·rw[aJ];exact Nat.le_refl _
 ·exact cN (fun he=>hR (he▸hc))
end
theorem RN (l b:List UInt8):(l++b).take 64=l.take 64++b.take (min b.length (64-(l.take 64).length))∧(l++b).drop 64=l.drop 64++b.drop (min b.length (64-(l.take 64).length)):=by
 have e:64-(l.take 64).length=64-l.length:=by rw[List.length_take];omega
 rw[e];constructor
 ·rw[List.take_append]
  congr 1
  by_cases hq:b.length≤64-l.length
  ·rw[Nat.min_eq_left hq,List.take_of_length_le hq,List.take_of_length_le (Nat.le_refl _)]
  ·rw[Nat.min_eq_right (by omega)]
 ·rw[List.drop_append]
  congr 1
  by_cases hq:b.length≤64-l.length
  ·rw[Nat.min_eq_left hq,List.drop_of_length_le hq,List.drop_of_length_le (Nat.le_refl _)]
  ·rw[Nat.min_eq_right (by omega)]
theorem RO {H:Hp} {P:Pl} {F:Fl} {J:Jn} {vs:Vs} {run:Nat} {R:List Nat} {h:Hp} {m:Nat} {w:PV} (d:Dq H P F J vs run R h m w) {wb hk:Nat} {hv:PV} {l:List UInt8} (hh:XG h P R wb hk hv l)
  (RG:wb<size h) (hkl:hk<size h) (b:List UInt8) {o:Own} (hlim:l.length+b.length≤1000000) (hlo:P.lo≤size h) (hgw:ay h wb≠none) (hgk:ay h hk≠none) :
  ∃ hv' H' h',qH 5 1 hv (.sl o 1 (aP b)) H=some (hv',H')∧Dq H' P F J vs run R h' m w∧Kp R H H'∧XG h' P R wb hk hv' (l++b)∧ay h' wb=ay h wb∧ay h' hk=ay h hk∧scalar hv'=true∧hv'.cells=[hv']:=by
 have el:∀ H':Hp,elems H' (.sl o 1 (aP b))=some (aP b):=fun _=>rfl
 have hf:=Rn b;have hlb:(aP b).length=b.length:=aM b;rcases hh with⟨rfl,rfl⟩ | ⟨hne,tb,rfl,h2,h3,h4,h5,h6,h7,h8⟩
 ·by_cases hb:b=[]
  ·subst hb
   refine⟨.bg,H,h,?_,d,Kp.refl _ _,.inl ⟨rfl,rfl⟩,rfl,rfl,rfl,rfl⟩;rw[pF,el,Option.ag];rfl
  ·obtain⟨q1,q2⟩:=d.ext [.tok b.length 5]
   have hem:(aP b).isEmpty=false:=by
    cases hq:aP b with
    | nil=>exact absurd (qo.1 hq) hb
    | cons _ _=>rfl
   have hst:aO (aP b)=aP b:=nQ b;refine⟨.sl (.tok (size H)) 1 (aP b),_,_,?_,q1,q2,?_,?_,?_,rfl,rfl⟩
   ·rw[pF,el,Option.ag]
    unfold gr;rw[if_pos hf];simp only[hem,hlb,gA,Bool.false_eq_true,if_false,hst];rw[if_pos (by omega)]
   ·rw[List.nil_append]
    refine .inr ⟨hb,size h,by rw[d.td],by rw[cK rfl],d.nb (Nat.le_refl _),hlo,fun hr=>?_,fun he=>?_,by omega,by omega⟩
    ·have:=(d.ro _ hr).1;omega
    ·have:=cw d.sb;omega
   ·exact aX RG
   ·exact aX hkl
 ·have hgt:ay h tb=none:=by unfold ay;rw[h2];rfl
  have hmt:bR h tb=none:=by unfold bR;rw[h2];rfl
  have ame:dw H tb=some (l.length,5):=by unfold dw;rw[d.box h3,h2];rfl
  obtain⟨q1,q2⟩:=d.set h3 h6 h5 (fun cs hc=>by rw[hgt]at hc;cases hc) hmt (.tok (l.length+b.length) 5);have hst:aO (aP b)=aP b:=nQ b;have hll:(aP l).length=l.length:=aM l;refine⟨.sl (.tok tb) 1 (aP (l++b)),_,_,?_,q1,q2,?_,?_,?_,rfl,rfl⟩
  ·rw[pF,el,Option.ag]
   unfold gr;rw[if_pos hf];simp only[ame,Option.ag,hlb,hll,gA,hst];rw[if_pos ⟨trivial,trivial,by omega⟩];simp[aP]
  ·refine .inr ⟨by simp[hne],tb,rfl,?_,h3,h4,h5,h6,h7,h8⟩
   rw[cM (bw h2),List.length_append]
  ·exact bD h7
  ·exact bD h8
theorem Dv.take {H:Hp} {P:Pl} {F:Fl} {J:Jn} {vs:Vs} {run:Nat} {W:Wt} {R:List Nat} {h:Hp} {m:Nat} {w:PV} (d:Dv H P F J vs run (some W) R h m w) {base:Nat} (hb:base≤P.lo) {o:Own} (ho:Nf o) (b:List UInt8)
  (hl:W.data.length+b.length≤W.size):∃ H' h',ai T base 58 [w,.sl o 1 (aP b)] H=some (.cF [],H')∧Dv H' P F J vs run (some { W with data:=W.data++b }) R h' m w∧Kp R H H':=by
 obtain⟨wb,hk,hv,ws,r,rfl,a2,a3,a4,a5,a6,a7,a8,a9,b1,b2,b3,b4,b5,b6,b7⟩:=d.wo;have hlh:=a5;have hnn:=d.hn;have gw:ay H wb=some [.int .i64 (W.size:Int),.int .i64 (W.data.length:Int),hv,.ptr hk 0]:=by rw[d.get a6];exact a2
 have hlo:P.lo≤size h:=by have:=cw a2;omega
 obtain⟨t1,t2⟩:=RN W.data b;have htl:(W.data.take 64).length≤64:=by rw[List.length_take];omega
 generalize hn:min b.length (64-(W.data.take 64).length)=n at t1 t2;have hnb:n≤b.length:=by omega
 -- the head aaA
 have hvl:cB false hv=some (.int .i64 ((W.data.take 64).length:Int)):=by
  rcases a5 with⟨e,rfl⟩ | ⟨_,tb,rfl,_⟩
  ·rw[e];rfl
  ·rw[fe,aM]
 obtain⟨o1,p1,s1⟩:=slc (o:=o) b (lo:=none) (hi:=some (.int .i64 (n:Int))) (a:=0) (b:=n) rfl (fV b.length .i64 n hnb);obtain⟨o2,p2,s2⟩:=slc (o:=o) b (lo:=some (.int .i64 (n:Int))) (hi:=none) (a:=n) (b:=b.length) (fV b.length .i64 n hnb) rfl;rw[show(b.drop 0).take (n-0)=b.take n by simp]at s1;rw[List.take_of_length_le (by rw[List.length_drop];exact Nat.le_refl _)]at s2;obtain⟨hv',H1,h1,c1,c2,c3,c4,c5,c6,c7,c8⟩:=RO d.q a5 (cw a2) (cw a3) (b.take n) (o:=o1) (by rw[List.length_take,List.length_take];omega) hlo (by rw[a2];simp) (by rw[a3];simp);rw[←t1]at c4;have g1:ay h1 wb=some [.int .i64 (W.size:Int),.int .i64 (W.data.length:Int),hv,.ptr hk 0]:=by rw[c5];exact a2
 have k1:ay h1 hk=some (hC ws r (W.data.drop 64).length):=by rw[c6];exact a3
 have lw1:=cw g1;have lk1:=cw k1
 -- it is stored
 obtain⟨d2,e2⟩:=c2.set a6 b3 b1 (fun cs hc=>by rw[g1]at hc;cases hc;show 4≠3;decide) (nT g1) (.cells [.int .i64 (W.size:Int),.int .i64 (W.data.length:Int),hv',.ptr hk 0]);have gw1:ay H1 wb=some [.int .i64 (W.size:Int),.int .i64 (W.data.length:Int),hv,.ptr hk 0]:=by rw[c2.get a6];exact g1
 have Se:aS base 1 (.ptr wb 2) hv' H1=some (aC H1 wb (.cells [.int .i64 (W.size:Int),.int .i64 (W.data.length:Int),hv',.ptr hk 0])):=by
  rw[mL gw1 (by omega) c7 c8 (by show 2<4;decide)];rfl
 -- the sum
 have k2:ay (aC h1 wb (.cells [.int .i64 (W.size:Int),.int .i64 (W.data.length:Int),hv',.ptr hk 0])) hk=some (hC ws r (W.data.drop 64).length):=by rw[bD b5];exact k1
 have kH:ay (aC H1 wb (.cells [.int .i64 (W.size:Int),.int .i64 (W.data.length:Int),hv',.ptr hk 0])) hk=some (hC ws r (W.data.drop 64).length):=by rw[d2.get a7];exact k2
 generalize hH2:aC H1 wb (.cells [.int .i64 (W.size:Int),.int .i64 (W.data.length:Int),hv',.ptr hk 0])=H2 at d2 e2 Se kH;have gw2:ay H2 wb=some [.int .i64 (W.size:Int),.int .i64 (W.data.length:Int),hv',.ptr hk 0]:=by
  rw[←hH2,ay,cM (cw gw1)];rfl
 obtain⟨ws',r',x',q'⟩:=GQ (h:=H2) base (cw kH) (w:=ws) (r:=r) (l:=W.data.drop 64) (b:=b.drop n) p2 a4 (by rw[List.length_drop,List.length_drop];omega);rw[jv (bq kH),←t2]at q';rw[←t2]at x';obtain⟨d3,e3⟩:=d2.set a7 b4 b2 (fun cs hc=>by rw[k2]at hc;cases hc;rw[DW a4.wl a4.hr];decide) (nT k2) (.cells (hC ws' r' ((W.data++b).drop 64).length));have gw3:ay (aC H2 hk (.cells (hC ws' r' ((W.data++b).drop 64).length))) wb=some [.int .i64 (W.size:Int),.int .i64 (W.data.length:Int),hv',.ptr hk 0]:=by rw[bD (Ne.symm b5)];exact gw2
 generalize hH3:aC H2 hk (.cells (hC ws' r' ((W.data++b).drop 64).length))=H3 at d3 e3 gw3 q';have gh3:=gw3;rw[d3.get a6]at gh3;obtain⟨d4,e4⟩:=d3.set a6 b3 b1 (fun cs hc=>by rw[gh3]at hc;cases hc;show 4≠3;decide) (nT gh3) (.cells [.int .i64 (W.size:Int),.int .i64 (((W.data++b).length:Nat):Int),hv',.ptr hk 0]);have X9:aS base 1 (.ptr wb 1) (.int .i64 (((W.data++b).length:Nat):Int)) H3=some (aC H3 wb (.cells [.int .i64 (W.size:Int),.int .i64 (((W.data++b).length:Nat):Int),hv',.ptr hk 0])):=by
  rw[mL gw3 (by omega) rfl rfl (by show 1<4;decide)];rfl
 refine⟨_,_,?_,d4.v ⟨wb,hk,hv',ws',r',rfl,?_,?_,x',?_,a6,a7,a8,a9,b1,b2,b3,b4,b5,b6,by rw[List.length_append];exact hl⟩,((c3.trans e2).trans e3).trans e4⟩
 ·have n0:aF (.ptr wb 0)=some (.ptr wb 0):=rfl
  have e0:cB false (.sl o 1 (aP b))=some (.int .i64 (b.length:Int)):=by rw[fe,aM]
  have l2:ax 1 false (.ptr wb 2) H=some hv:=dL gw;have sb:binOp .sub (.int .i64 64) (.int .i64 ((W.data.take 64).length:Int))=some (.int .i64 ((64-(W.data.take 64).length:Nat):Int)):=by
   show some (PV.int .i64 (IntKind.i64.wrap (64-((W.data.take 64).length:Int))))=_;rw[wrap_small (by omega) (by omega)];congr 2;omega
  have mm:jI false [.int .i64 (b.length:Int),.int .i64 ((64-(W.data.take 64).length:Nat):Int)]=some (.int .i64 (n:Int)):=by
   show some (PV.int .i64 (if((64-(W.data.take 64).length:Nat):Int)<(b.length:Int) then((64-(W.data.take 64).length:Nat):Int) else(b.length:Int)))=_;congr 2;split<;>omega
  have l3:ax 1 false (.ptr wb 3) H2=some (.ptr hk 0):=dL gw2;have l1:ax 1 false (.ptr wb 1) H3=some (.int .i64 (W.data.length:Int)):=dL gw3;have ad:binOp .add (.int .i64 (W.data.length:Int)) (.int .i64 (b.length:Int))=some (.int .i64 (((W.data++b).length:Nat):Int)):=by
   show some (PV.int .i64 (IntKind.i64.wrap ((W.data.length:Int)+(b.length:Int))))=_;rw[mJ _ _ (by omega),List.length_append]
  rw[S58];simp only[e0,n0,ou,l2,hvl,sb,mm,s1,c1,Se,l3,s2,q',l1,ad,X9,m6,Option.ag,az];rfl
 ·rw[ay,cM (cw gh3)];rfl
 ·rw[bD b5,ay,cM (cw k2)];rfl
 ·rcases c4 with c4 | ⟨c4,tb,f1,f2,f3,f4,f5,f6,f7,f8⟩
  ·exact .inl c4
  ·refine .inr ⟨c4,tb,f1,?_,f3,f4,f5,f6,f7,f8⟩
   rw[cN (Ne.symm f7),cN (Ne.symm f8),cN (Ne.symm f7)];exact f2
end Go.Am.Qd
namespace Go.Am.Qd
theorem fIx (H r:Hp) (k:IntKind) (n:Int):bk false false (size H) [.int k n] (ext H r)=some (.int k n,H):=by
 rw[cc];show some (PV.int k n,bJ (ext H r) (size H))=_;rw[cI]
def nU (W:Wt):Nat:=if W.data.length<64 then 0 else if(cz (W.data.take 64)).2=0∧(cz (W.data.take 64)).1.size+64≠W.size then 53 else(cz (W.data.take 64)).2
def ny (n i:Nat):Nat:=(4+i*n)*64
def Ss.write (s:Ss) (n:Nat) (b:List UInt8):Nat × Ss :=
 if s.F.down then(30,s.stop) else match s.W with
 | none=>(60,s)
 | some W=>if W.size<W.data.length+b.length then(2,s) else
  if(s.F.program (ny n (1-s.act)+W.data.length) b).1≠0 then((s.F.program (ny n (1-s.act)+W.data.length) b).1,{ s with F:=(s.F.program (ny n (1-s.act)+W.data.length) b).2,W:=none }) else
  let s':Ss:={ s with F:=(s.F.program (ny n (1-s.act)+W.data.length) b).2,W:=some { W with data:=W.data++b } }
  if 64≤W.data.length then(0,s') else
  if nU { W with data:=W.data++b }≠0 then(nU { W with data:=W.data++b },s'.stop) else(0,s')
def Ss.begin (s:Ss) (n:Nat) (size:Int):Nat × Ss :=
 if s.F.down then(30,s) else if s.ph≠0 then(60,s) else if size<64∨(n*64:Nat)<size then(53,s) else
 if(s.F.clear (4+(1-s.act)*n) n).1≠0 then((s.F.clear (4+(1-s.act)*n) n).1,{ s with F:=(s.F.clear (4+(1-s.act)*n) n).2,W:=none })
 else(0,{ s with F:=(s.F.clear (4+(1-s.act)*n) n).2,W:=some ⟨size.toNat,[]⟩ })
section
variable {H:Hp} {P:Pl} {F:Fl} {J:Jn} {vs:Vs} {run:Nat} {W:Option Wt} {R:List Nat} {h:Hp} {m:Nat} {w:PV} (d:Dv H P F J vs run W R h m w)
include d
theorem Dv.cX {F':Fl} (hf:gO F') (hs:HT F F'):Dv (dZ h P.p F' P.jb (jC P.qa P.qb 128 J m)) P F' J vs run W R h m w∧Kp R H (dZ h P.p F' P.jb (jC P.qa P.qb 128 J m)):=by
 refine⟨{ d with eq:=rfl,js:={ d.js with fl:=d.js.fl.shp hf hs },fs:=by rw[hs.s];exact d.fs,fl:=by rw[hs.b];exact d.fl,fw:=by rw[hs.w];exact d.fw },?_,fun b hb=>?_⟩
 ·rw[dH d.js.ok,d.td];exact Nat.le_refl _
 ·obtain⟨b1,b2,b3⟩:=d.ro b hb
  rw[b2.box d.js.ok,d.box b2]
theorem Dv.pwrite (base:Nat) {i:Nat} (hi:i≤1) {q:Nat} (hq:ax 1 false (.ptr P.sb i) H=some (.ptr q 0)) {a:Nat} {v:PV} {l:List UInt8} (hv:Bv v l) (hin:a+l.length≤P.n*64) :
  ∃ H',ai T base 28 [.ptr q 0,.int .i64 (a:Int),v] H=some (.int .i64 ((F.program (ny P.n i+a) l).1:Int),H')∧Dv H' P (F.program (ny P.n i+a) l).2 J vs run W R h m w∧Kp R H H':=by
 obtain⟨q',q1,q2⟩:=d.part hi;rw[d.ld,q1]at hq;cases hq;have hF:=d.js.fl.fin;have hn:=d.hn;have hroom:=eT.room ⟨h,m,w,d⟩ hi;have:=aaE (F:=F) (d.js.ok.fs _) q2 base a l hv hF (by rw[d.fs];exact hin) hroom;rw[d.fs]at this;obtain⟨f1,f2⟩:=hF.Yk (ny P.n i+a) l;obtain⟨d',k'⟩:=d.cX f1 f2;exact⟨_,by rw[d.eq];exact this,d',k'⟩
theorem Dv.XL (base:Nat) {i:Nat} (hi:i≤1) {q:Nat} (hq:ax 1 false (.ptr P.sb i) H=some (.ptr q 0)) :
  ∃ H',ai T base 55 [.ptr q 0] H=some (.int .i64 ((F.clear (4+i*P.n) P.n).1:Int),H')∧Dv H' P (F.clear (4+i*P.n) P.n).2 J vs run W R h m w∧Kp R H H':=by
 obtain⟨q',q1,q2⟩:=d.part hi;rw[d.ld,q1]at hq;cases hq;have hF:=d.js.fl.fin;have hn:=d.hn;have hfw:=d.fw;have hroom:=eT.room ⟨h,m,w,d⟩ hi;have hw:4+i*P.n+P.n≤F.bN.length:=by
  rw[hfw];have:i=0∨i=1:=by omega
  rcases this with rfl | rfl<;>omega
 have:=GJ (F:=F) (d.js.ok.fs _) q2 base hF hroom hw (by omega);obtain⟨f1,f2⟩:=hF.shC (4+i*P.n) P.n hw;obtain⟨d',k'⟩:=d.cX f1 f2;exact⟨_,by rw[d.eq];exact this,d',k'⟩
end
theorem Dv.fault {H:Hp} {P:Pl} {F:Fl} {J:Jn} {vs:Vs} {run:Nat} {W:Wt} {R:List Nat} {h:Hp} {m:Nat} {w:PV} (d:Dv H P F J vs run (some W) R h m w) (base:Nat) :
  ai T base 59 [w] H=some (.int .i64 (nU W:Int),H):=by
 obtain⟨wb,hk,hv,ws,r,rfl,a2,a3,a4,a5,a6,a7,a8,a9,b1,b2,b3,b4,b5,b6,b7⟩:=d.wo;have gw:ay H wb=some [.int .i64 (W.size:Int),.int .i64 (W.data.length:Int),hv,.ptr hk 0]:=by rw[d.get a6];exact a2
 have l2:ax 1 false (.ptr wb 2) H=some hv:=dL gw;have n0:aF (.ptr wb 0)=some (.ptr wb 0):=rfl;have hvl:cB false hv=some (.int .i64 ((W.data.take 64).length:Int)):=by
  rcases a5 with⟨e,rfl⟩ | ⟨_,tb,rfl,_⟩
  ·rw[e];rfl
  ·rw[fe,aM]
 have lt:binOp .lss (.int .i64 ((W.data.take 64).length:Int)) (.int .i64 64)=some (.bool (decide (W.data.length<64))):=by
  show some (PV.bool (decide (((W.data.take 64).length:Int)<64)))=_;congr 2;exact decide_eq_decide.2 (by rw[List.length_take];omega)
 unfold nU
 by_cases HO:W.data.length<64
 ·have f0:=fI H .i64 0
  rw[if_pos HO,S59];simp only[n0,ou,l2,hvl,lt,decide_eq_true HO,eU,f0,Option.ag];rfl
 rw[if_neg HO];have ht:(W.data.take 64).length=64:=by rw[List.length_take];omega
 obtain⟨o,rfl⟩ : ∃ o,hv=.sl o 1 (aP (W.data.take 64)):=by
  rcases a5 with⟨e,rfl⟩ | ⟨_,tb,rfl,_⟩
  ·rw[e]at ht;cases ht
  ·exact⟨_,rfl⟩
 have rd:=Kq (h:=H) (size H) o (W.data.take 64) (by omega);generalize hE:cz (W.data.take 64)=E at rd;have d32:E.1.dg.length=32:=by rw[←hE];exact G6 _
 have hz:E.1.size≤1048576:=by rw[←hE];exact adB _
 have z32:iV.dg.length=32:=rfl;have ldz:(cr E.1)[1]?=some (.int .i64 (E.1.size:Int)):=rfl;have gw2:ay (Go.Am.ext H [.cells (cr E.1)]) wb=some [.int .i64 (W.size:Int),.int .i64 (W.data.length:Int),.sl o 1 (aP (W.data.take 64)),.ptr hk 0]:=by rw[aX (cw gw)];exact gw
 have l0:ax 1 false (.ptr wb 0) (Go.Am.ext H [.cells (cr E.1)])=some (.int .i64 (W.size:Int)):=dL gw2;have eq:=eqi E.2 0;simp only[show((0:Nat):Int)=0 from rfl]at eq;have ad:binOp .add (.int .i64 (E.1.size:Int)) (.int .i64 64)=some (.int .i64 ((E.1.size+64:Nat):Int)):=by
  show some (PV.int .i64 (IntKind.i64.wrap ((E.1.size:Int)+64)))=_;rw[wrap_small (by omega) (by omega)];congr 2
 have nq:=nei (E.1.size+64) W.size;have f53:=fun r=>fIx H r .i64 53
 rw[S59,←jT];simp only[n0,ou,l2,hvl,lt,decide_eq_false HO,eF,rd,tY,tZ,HS (h:=H),ft0 z32 d32,eq,Option.ag,az]
 by_cases he:E.2=0
 ·by_cases hs:E.1.size+64≠W.size
  ·rw[if_pos ⟨he,hs⟩]
   simp only[decide_eq_true he,wT,Ee,Kw,fv0,ldz,ad,n0,ou,l0,nq,decide_eq_true hs,eU,f53,Option.ag];rfl
  ·rw[if_neg (fun q=>hs q.2)]
   simp only[decide_eq_true he,wT,Ee,Kw,fv0,ldz,ad,n0,ou,l0,nq,decide_eq_false hs,eU,eF,fIx,Option.ag]
 ·rw[if_neg (fun q=>he q.1)]
  simp only[decide_eq_false he,wF2,Oe,eF,fIx,Option.ag]
section
variable {H:Hp} {P:Pl} {s:Ss} {R:List Nat} (d:DS H P s R) {base:Nat} (hb:base≤P.lo)
include d hb
theorem DS.write {o:Own} (ho:Nf o) (b:List UInt8) (hbl:b.length≤100000):∃ H',ai T base 13 [.ptr P.sb 0,.sl o 1 (aP b)] H=some (.int .i64 ((s.write P.n b).1:Int),H')∧DS H' P (s.write P.n b).2 R∧Kp R H H':=by
 obtain⟨H0,r1,r2,r3,r4⟩:=eT.ready d base;have e0:cB false (.sl o 1 (aP b))=some (.int .i64 (b.length:Int)):=by rw[fe,aM]
 have n0:∀ k,aF (.ptr k 0)=some (.ptr k 0):=fun _=>rfl
 unfold Ss.write
 by_cases hd:s.F.down=true
 ·have hr:aaY s.F s.W=30:=by unfold aaY;rw[if_pos hd]
  rw[hr]at r1;rw[if_pos hd];simp only[hd,if_true]at r2;refine⟨H0,?_,r2,r3⟩;have c1:binOp .neq (.int .i64 30) (.int .i64 0)=some (.bool true):=rfl;rw[S13];simp only[r1,show((30:Nat):Int)=30 from rfl,c1,eU,fK,Option.ag,az]
 rw[if_neg hd];have hd':s.F.down=false:=by simpa using hd
 obtain rfl:=r4 hd';simp only[hd',Bool.false_eq_true,if_false]at r2;cases hW:s.W with
 | none =>
  have hr:aaY s.F s.W=60:=by unfold aaY;rw[if_neg hd,hW]
  rw[hr]at r1;have c1:binOp .neq (.int .i64 60) (.int .i64 0)=some (.bool true):=rfl;refine⟨H0,?_,d,Kp.refl _ _⟩;rw[S13];simp only[r1,show((60:Nat):Int)=60 from rfl,c1,eU,fK,Option.ag,az]
 | some W =>
  have hr:aaY s.F s.W=0:=by unfold aaY;rw[if_neg hd,hW]
  rw[hr]at r1;rw[hW]at r2;have c1:binOp .neq (.int .i64 ((0:Nat):Int)) (.int .i64 0)=some (.bool false):=rfl;obtain⟨h,m,w,dd⟩:=r2;have l4:ax 1 false (.ptr P.sb 4) H0=some w:=dd.ld 4;obtain⟨wb,hk,hv,ws,r,hwe,a2,a3,a4,a5,a6,a7,a8,a9,b1,b2,b3,b4,b5,b6,b7⟩:=dd.wo;have gw:ay H0 wb=some [.int .i64 (W.size:Int),.int .i64 (W.data.length:Int),hv,.ptr hk 0]:=by rw[dd.get a6];exact a2
  have w0:ax 1 false (.ptr wb 0) H0=some (.int .i64 (W.size:Int)):=dL gw;have w1:ax 1 false (.ptr wb 1) H0=some (.int .i64 (W.data.length:Int)):=dL gw;have hn:=dd.hn;have sb:binOp .sub (.int .i64 (W.size:Int)) (.int .i64 (W.data.length:Int))=some (.int .i64 ((W.size-W.data.length:Nat):Int)):=by
   show some (PV.int .i64 (IntKind.i64.wrap ((W.size:Int)-(W.data.length:Int))))=_;rw[wrap_small (by omega) (by omega)];congr 2;omega
  have gt:binOp .gtr (.int .i64 (b.length:Int)) (.int .i64 ((W.size-W.data.length:Nat):Int))=some (.bool (decide (W.size<W.data.length+b.length))):=by
   show some (PV.bool (decide ((b.length:Int) > ((W.size-W.data.length:Nat):Int))))=_;congr 2;exact decide_eq_decide.2 (by omega)
  by_cases hl:W.size<W.data.length+b.length
  ·simp only[if_pos hl]
   refine⟨H0,?_,d,Kp.refl _ _⟩;subst hwe;rw[S13];simp only[r1,c1,eF,n0,ou,l4,e0,w0,w1,sb,gt,decide_eq_true hl,eU,fK,Option.ag,az];rfl
  ·simp only[if_neg hl]
   have hal:=(lT s.vs).1;have hi:1-s.act≤1:=by omega
   obtain⟨q,ix,lq,_⟩:=eT.slot ⟨h,m,w,dd⟩ hi;have ot:=N3 (eT.other d base);have Yl:aN 1 2 (.ptr P.sb 0) (.int .i64 ((1-(bO s.vs).1:Nat):Int))=some (.ptr P.sb (1-s.act)):=ix;obtain⟨H1,p1,p2,p3⟩:=dd.pwrite base hi lq (a:=W.data.length) (v:=.sl o 1 (aP b)) (l:=b) (pL ho b) (by omega);generalize s.F.program (ny P.n (1-s.act)+W.data.length) b=r at p1 p2 ⊢
   by_cases he:r.1≠0
   ·simp only[if_pos he]
    obtain⟨H2,t1,t2,t3⟩:=eT.stop ⟨h,m,w,p2⟩ base;refine⟨H2,?_,t2,p3.trans t3⟩;subst hwe;rw[S13];simp only[r1,c1,eF,n0,ou,l4,e0,w0,w1,sb,gt,decide_eq_false hl,ot,if_true,Yl,lq,p1,UP,decide_eq_true he,eU,t1,fK,Option.ag,az]
   ·simp only[if_neg he]
    have gw1:ay H1 wb=some [.int .i64 (W.size:Int),.int .i64 (W.data.length:Int),hv,.ptr hk 0]:=by rw[p2.get a6];exact a2
    have l2:ax 1 false (.ptr wb 2) H1=some hv:=dL gw1;have hvl:cB false hv=some (.int .i64 ((W.data.take 64).length:Int)):=by
     rcases a5 with⟨e,rfl⟩ | ⟨_,tb,rfl,_⟩
     ·rw[e];rfl
     ·rw[fe,aM]
    obtain⟨H2,h2,t1,t2,t3⟩:=p2.take hb ho b (by omega);have eq:=eqi (W.data.take 64).length 64;simp only[show((64:Nat):Int)=64 from rfl]at eq;have d64:decide ((W.data.take 64).length=64)=decide (64≤W.data.length):=decide_eq_decide.2 (by rw[List.length_take];omega);rw[d64]at eq;subst hwe
    by_cases HO:64≤W.data.length
    ·simp only[if_pos HO]
     refine⟨H2,?_,⟨h2,m,_,t2⟩,p3.trans t3⟩;rw[S13];simp only[r1,c1,eF,n0,ou,l4,e0,w0,w1,sb,gt,decide_eq_false hl,ot,if_true,Yl,lq,p1,UP,decide_eq_false he,l2,hvl,t1,eq,decide_eq_true HO,eU,fK,Option.ag,az];rfl
    ·simp only[if_neg HO]
     have ft:=t2.fault base;generalize nU { W with data:=W.data++b }=e at ft ⊢
     by_cases hz:e≠0
     ·simp only[if_pos hz]
      obtain⟨H3,u1,u2,u3⟩:=eT.stop ⟨h2,m,_,t2⟩ base;refine⟨H3,?_,u2,(p3.trans t3).trans u3⟩;rw[S13];simp only[r1,c1,eF,n0,ou,l4,e0,w0,w1,sb,gt,decide_eq_false hl,ot,if_true,Yl,lq,p1,UP,decide_eq_false he,l2,hvl,t1,eq,decide_eq_false HO,ft,decide_eq_true hz,eU,u1,fK,Option.ag,az]
     ·simp only[if_neg hz]
      have hz0:e=0:=Classical.not_not.1 hz;subst hz0;refine⟨H2,?_,⟨h2,m,_,t2⟩,p3.trans t3⟩;rw[S13];simp only[r1,c1,eF,n0,ou,l4,e0,w0,w1,sb,gt,decide_eq_false hl,ot,if_true,Yl,lq,p1,UP,decide_eq_false he,l2,hvl,t1,eq,decide_eq_false HO,ft,fK,Option.ag,az]
theorem DS.begin (size:Int):∃ H',ai T base 12 [.ptr P.sb 0,.int .i64 size] H=some (.int .i64 ((s.begin P.n size).1:Int),H')∧DS H' P (s.begin P.n size).2 R∧Kp R H H':=by
 have hal:=(lT s.vs).1;have hi:1-s.act≤1:=by omega
 obtain⟨q,ix,lq,_⟩:=eT.slot d hi;have Yl:aN 1 2 (.ptr P.sb 0) (.int .i64 ((1-(bO s.vs).1:Nat):Int))=some (.ptr P.sb (1-s.act)):=ix;have ot:=eT.other d base;have dn:=eT.down d base;have ph:=eT.phase d base;have n0:aF (.ptr P.sb 0)=some (.ptr P.sb 0):=rfl;have hn:=eT.hn d;unfold Ss.begin
 by_cases hd:s.F.down=true
 ·rw[if_pos hd]
  rw[hd]at dn;refine⟨H,?_,d,Kp.refl _ _⟩;rw[S12];simp only[ot,n0,ou,Yl,lq,dn,eU,fK,Option.ag,az];rfl
 rw[if_neg hd];have hd':s.F.down=false:=by simpa using hd
 rw[hd']at dn;have nq:=UP (bO s.vs).2
 by_cases hp:s.ph≠0
 ·have hp':(bO s.vs).2≠0:=hp
  rw[if_pos hp];refine⟨H,?_,d,Kp.refl _ _⟩;rw[S12];simp only[ot,n0,ou,Yl,lq,dn,eF,ph,nq,decide_eq_true hp',eU,fK,Option.ag,az];rfl
 rw[if_neg hp];have hp':¬ (bO s.vs).2≠0:=hp;have lt:binOp .lss (.int .i64 size) (.int .i64 64)=some (.bool (decide (size<64))):=rfl;have ps:=eT.abz d base hi lq [];rw[ext_nil]at ps;have gt:binOp .gtr (.int .i64 size) (.int .i64 ((P.n*64:Nat):Int))=some (.bool (decide (((P.n*64:Nat):Int)<size))):=rfl
 by_cases hs:size<64∨((P.n*64:Nat):Int)<size
 ·rw[if_pos hs]
  refine⟨H,?_,d,Kp.refl _ _⟩;rw[S12]
  by_cases h1:size<64
  ·simp only[ot,n0,ou,Yl,lq,dn,eF,ph,nq,decide_eq_false hp',lt,decide_eq_true h1,RJ,Oe,eU,fK,Option.ag,az]
   rfl
  ·have h2:((P.n*64:Nat):Int)<size:=hs.resolve_left h1
   simp only[ot,n0,ou,Yl,lq,dn,eF,ph,nq,decide_eq_false hp',lt,decide_eq_false h1,wT,Ee,Kw,Kx,ps,gt,decide_eq_true h2,eU,fK,Option.ag,az];rfl
 rw[if_neg hs];have h1:¬ size<64:=fun q=>hs (.inl q)
 have h2:¬ ((P.n*64:Nat):Int)<size:=fun q=>hs (.inr q)
 obtain⟨H1,s1,s2,s3⟩:=eT.stop d base;obtain⟨h,m,w,dd⟩:=s2;obtain⟨q2,_,lq2,_⟩:=eT.slot ⟨h,m,w,dd⟩ hi;have hqq:q2=q:=by
  have e:=d;obtain⟨h9,m9,w9,d9⟩:=e;have a:=d9.ld (1-s.act);have b:=dd.ld (1-s.act);rw[lq]at a;rw[lq2]at b;have hi2:1-s.act=0∨1-s.act=1:=by omega
  rcases hi2 with e | e<;>(rw[e]at a b;have a':=a;have b':=b;simp only[sC,List.getElem?_cons_zero,List.getElem?_cons_succ,Option.some.injEq,PV.ptr.injEq,and_true]at a' b';omega)
 subst hqq;obtain⟨H2,p1,p2,p3⟩:=dd.XL base hi lq2;generalize s.F.clear (4+(1-s.act)*P.n) P.n=r at p1 p2 ⊢
 by_cases he:r.1≠0
 ·rw[if_pos he]
  refine⟨H2,?_,⟨h,m,w,p2⟩,s3.trans p3⟩;rw[S12];simp only[ot,n0,ou,Yl,lq,dn,eF,ph,nq,decide_eq_false hp',lt,decide_eq_false h1,wT,Ee,Kw,Kx,ps,gt,decide_eq_false h2,s1,p1,UP,decide_eq_true he,eU,fK,Option.ag,az]
 rw[if_neg he];have nh:=NS (h:=H2) base;have ars:=eT.lo_le ⟨h,m,w,p2⟩;have hsz2:=p2.td;obtain⟨k,rfl⟩ : ∃ k:Nat,size=(k:Int):=⟨size.toNat,by omega⟩
 -- two new boxes,then the ud own
 obtain⟨x1,k1⟩:=p2.q.ext [.cells (hC eP zero64 0),.cells [.int .i64 (k:Int),.int .i64 0,.bg,.ptr (Go.Am.size H2) 0]];have hwn:w=.bp:=dd.wo;have x2:=x1.v (W:=none) hwn;have hls:=dd.ls;have hlt:=cw dd.sb;have e1:ay (Go.Am.ext h [.cells (hC eP zero64 0),.cells [.int .i64 (k:Int),.int .i64 0,.bg,.ptr (Go.Am.size H2) 0]]) (Go.Am.size H2+1)=some [.int .i64 (k:Int),.int .i64 0,.bg,.ptr (Go.Am.size H2) 0]:=by
  rw[hsz2];exact J9 _ _
 have e2:ay (Go.Am.ext h [.cells (hC eP zero64 0),.cells [.int .i64 (k:Int),.int .i64 0,.bg,.ptr (Go.Am.size H2) 0]]) (Go.Am.size H2)=some (hC eP zero64 0):=by
  rw[hsz2];exact g2a _ _
 have hw:LY (aC (Go.Am.ext h [.cells (hC eP zero64 0),.cells [.int .i64 (k:Int),.int .i64 0,.bg,.ptr (Go.Am.size H2) 0]]) P.sb (.cells (sC P s.run (.ptr (Go.Am.size H2+1) 0)))) P R (.ptr (Go.Am.size H2+1) 0) (some ⟨k,[]⟩):=by
  refine⟨Go.Am.size H2+1,Go.Am.size H2,.bg,eP,zero64,rfl,?_,?_,Xv,.inl ⟨rfl,rfl⟩,p2.q.nb (by omega),p2.q.nb (by omega),by omega,by omega,fun hr=>?_,fun hr=>?_,by omega,by omega,by omega,?_,Nat.zero_le _⟩
  ·rw[bD (by omega),e1];rfl
  ·rw[bD (by omega),e2];rfl
  ·have:=(dd.ro _ hr).1;omega
  ·have:=(dd.ro _ hr).1;omega
  ·show k≤P.n*64;omega
 obtain⟨y1,y2⟩:=x2.XJ (run':=s.run) (w':=.ptr (Go.Am.size H2+1) 0) (W':=some ⟨k,[]⟩) dd.rn hw;refine⟨_,?_,⟨_,_,_,y1⟩,((s3.trans p3).trans k1).trans y2⟩;have bv:dz [(.int .i64 0),(.int .i64 0),.bg,.bp] [(0,1,.int .i64 (k:Int)),(3,1,.ptr (Go.Am.size H2) 0)]=some (.agg [.int .i64 (k:Int),.int .i64 0,.bg,.ptr (Go.Am.size H2) 0]):=rfl;have bx:tK 4 (.agg [.int .i64 (k:Int),.int .i64 0,.bg,.ptr (Go.Am.size H2) 0]) (Go.Am.ext H2 [.cells (hC eP zero64 0)])=some (.ptr (Go.Am.size H2+1) 0,Go.Am.ext H2 [.cells (hC eP zero64 0),.cells [.int .i64 (k:Int),.int .i64 0,.bg,.ptr (Go.Am.size H2) 0]]):=by
  rw[ql,if_pos ⟨rfl,rfl⟩,aW,fA];rfl
 have st:aS base 1 (.ptr P.sb 4) (.ptr (Go.Am.size H2+1) 0) (Go.Am.ext H2 [.cells (hC eP zero64 0),.cells [.int .i64 (k:Int),.int .i64 0,.bg,.ptr (Go.Am.size H2) 0]])=some (aC (Go.Am.ext H2 [.cells (hC eP zero64 0),.cells [.int .i64 (k:Int),.int .i64 0,.bg,.ptr (Go.Am.size H2) 0]]) P.sb (.cells (sC P s.run (.ptr (Go.Am.size H2+1) 0)))):=by
  rw[mL x2.RH (by omega) rfl rfl (by show 4<5;decide)];rfl
 rw[S12];simp only[ot,n0,ou,Yl,lq,dn,eF,ph,nq,decide_eq_false hp',lt,decide_eq_false h1,wT,Ee,Kw,Kx,ps,gt,decide_eq_false h2,s1,p1,UP,decide_eq_false he,nh,bv,bx,st,fK,Option.ag,az];rfl
end
end Go.Am.Qd
namespace Go.Am.Qd
def Ss.finish (s:Ss) (n:Nat):qx × Nat × Ss :=
 if s.F.down then(iV,30,s.stop) else match s.W with
 | none=>(iV,60,s)
 | some W=>if W.data.length<W.size then(iV,53,s) else
  if(cz (W.data.take 64)).2≠0 then(iV,(cz (W.data.take 64)).2,s.stop) else
  if Rb (W.data.drop 64)≠(cz (W.data.take 64)).1.dg then(iV,51,s.stop) else
  if s.ok n s.act=true∧(cz (W.data.take 64)).1.cu.toNat≤(vD (cQ s.F n (s.act:Int))).cu.toNat then(iV,52,s.stop) else((cz (W.data.take 64)).1,0,s.stop)
theorem aoS (a b:BitVec 32):binOp .leq (uV a) (uV b)=some (.bool (decide (a.toNat≤b.toNat))):=by
 show some (PV.bool (decide ((a.toNat:Int)≤(b.toNat:Int))))=_;congr 2;exact decide_eq_decide.2 (by omega)
section
variable {H:Hp} {P:Pl} {F:Fl} {J:Jn} {vs:Vs} {run:Nat} {W:Option Wt} {R:List Nat} {h:Hp} {m:Nat} {w:PV} (d:Dv H P F J vs run W R h m w) (base:Nat)
include d
theorem Dv.alh:ai T base 36 [.ptr P.sb 0] H=some (.cF [],aC H P.sb (.cells (sC P run .bp))):=by
 have st:aS (size H) 1 (.ptr P.sb 4) .bp H=some (aC H P.sb (.cells (sC P run .bp))):=by
  rw[dA,d.RH,Option.ag,if_pos ⟨rfl,by show 4+1≤5;decide,rfl,fun _=>rfl⟩];have:(if P.sb<size H then aO (PV.bp).cells else(PV.bp).cells)=[.bp]:=by split<;>rfl
  rw[this];rfl
 rw[S36];simp only[show aF (.ptr P.sb 0)=some (.ptr P.sb 0) from rfl,ou,st,Option.ag];rw[cc];have hs:size (aC H P.sb (.cells (sC P run .bp)))=size H:=aJ;show some (PV.cF [],bJ (aC H P.sb (.cells (sC P run .bp))) (size H))=_;rw[←hs,bL]
theorem Dv.amx (hd:F.down=true):ai T base 57 [.ptr P.sb 0] H=some (.int .i64 30,aC H P.sb (.cells (sC P run .bp))):=by
 have dn:=eT.down ⟨h,m,w,d⟩ (size H);have f:=fI (aC H P.sb (.cells (sC P run .bp))) .i64 30;rw[aJ]at f;rw[S57,dn,hd];simp only[eU,d.alh,f,az]
end
theorem DS.finish {H:Hp} {P:Pl} {s:Ss} {R:List Nat} (d:DS H P s R) (base:Nat):∃ H',ai T base 14 [.ptr P.sb 0] H=some (.cF [.agg (cr (s.finish P.n).1),.int .i64 ((s.finish P.n).2.1:Int)],H')∧DS H' P (s.finish P.n).2.2 R∧Kp R H H':=by
 have n0:∀ k,aF (.ptr k 0)=some (.ptr k 0):=fun _=>rfl
 have z32:iV.dg.length=32:=rfl;have hb:dz (cr iV) []=some (.agg (cr iV)):=rfl;obtain⟨h,m,w,dd⟩:=d;have hlt:=cw dd.sb;rw[←dd.td]at hlt
 -- what is left when nothing is written any more
 obtain⟨ds,ks⟩:=dd.XJ (run':=s.run) (w':=.bp) (W':=none) dd.rn rfl;have YR:size (aC H P.sb (.cells (sC P s.run .bp)))=size H:=aJ;have hse:∀ l,aC (Go.Am.ext H l) P.sb (.cells (sC P s.run .bp))=Go.Am.ext (aC H P.sb (.cells (sC P s.run .bp))) l:=fun l=>aak hlt
 have stp:=fun b l=>(dd.ext l).alh b
 simp only[hse]at stp;generalize hHs:aC H P.sb (.cells (sC P s.run .bp))=Hs at ds ks YR hse stp;have dS:DS Hs P s.stop R:=⟨_,_,_,ds⟩;have T0:∀ (x y:qx) (r:Hp),x.dg.length=32→y.dg.length=32→aS (size H) 35 (.ptr (size H) 0) (.agg (cr y)) (Go.Am.ext Hs (.cells (cr x)::r))=some (Go.Am.ext Hs (.cells (cr y)::r)):=fun x y r hx hy=>by rw[←YR];exact ft0 hx hy
 have R0:∀ (x:qx) (r:Hp),x.dg.length=32→qS (.ptr (size H) 0) (Go.Am.ext Hs (.cells (cr x)::r)) 35 true=some (.agg (cr x)):=fun x r hx=>by rw[←YR];exact fr0 hx
 have FF:∀ (x:qx) (r:Hp) (e:Nat),bk false false (size H) [.agg (cr x),.int .i64 (e:Int)] (Go.Am.ext Hs r)=some (.cF [.agg (cr x),.int .i64 (e:Int)],Hs):=fun x r e=>by rw[←YR];exact ff r e
 have DF:=fun x r=>FF x r 51;have VM:=fun x r=>FF x r 52;have F00:=fun x r=>FF x r 0
 simp only[show((51:Nat):Int)=51 from rfl,show((52:Nat):Int)=52 from rfl,show((0:Nat):Int)=0 from rfl]at DF VM F00;unfold Ss.finish
 by_cases hd:s.F.down=true
 ·have F30:=fun x r=>FF x r 30
  simp only[show((30:Nat):Int)=30 from rfl]at F30;rw[if_pos hd];refine⟨Hs,?_,dS,ks⟩;have rD:=(dd.ext [.cells (cr iV)]).amx (size H) hd;rw[hse]at rD;have c1:binOp .neq (.int .i64 30) (.int .i64 0)=some (.bool true):=rfl;rw[S14,←jT];simp only[HS (h:=H),rD,c1,eU,hb,T0 iV iV _ z32 z32,R0 iV _ z32,F30,Option.ag,az];rfl
 rw[if_neg hd];have hd':s.F.down=false:=by simpa using hd
 obtain⟨H0,r1,r2,r3,r4⟩:=eT.ready ⟨_,m,w,dd.ext [.cells (cr iV)]⟩ (size H);obtain rfl:=r4 hd';have f60:=fun r=>ff (h:=H) (x:=iV) r 60;have f53:=fun r=>ff (h:=H) (x:=iV) r 53
 simp only[show((60:Nat):Int)=60 from rfl,show((53:Nat):Int)=53 from rfl]at f60 f53;cases hW:s.W with
 | none =>
  have hr:aaY s.F s.W=60:=by unfold aaY;rw[if_neg hd,hW]
  rw[hr]at r1;have c1:binOp .neq (.int .i64 ((60:Nat):Int)) (.int .i64 0)=some (.bool true):=rfl;refine⟨H,?_,⟨h,m,w,dd⟩,Kp.refl _ _⟩;rw[S14,←jT];simp only[HS (h:=H),r1,c1,eU,hb,ft0 z32 z32,fr0 z32,f60,Option.ag,az];exact f60 _
 | some W =>
  have hr:aaY s.F s.W=0:=by unfold aaY;rw[if_neg hd,hW]
  rw[hr]at r1;have hwo:=dd.wo;rw[hW]at hwo;have c1:binOp .neq (.int .i64 ((0:Nat):Int)) (.int .i64 0)=some (.bool false):=rfl;obtain⟨wb,hk,hv,ws,r,hwe,a2,a3,a4,a5,a6,a7,a8,a9,b1,b2,b3,b4,b5,b6,b7⟩:=hwo;have hn:=dd.hn;have gw:ay H wb=some [.int .i64 (W.size:Int),.int .i64 (W.data.length:Int),hv,.ptr hk 0]:=by rw[dd.get a6];exact a2
  have gk:ay H hk=some (hC ws r (W.data.drop 64).length):=by rw[dd.get a7];exact a3
  have l4:∀ l,ax 1 false (.ptr P.sb 4) (Go.Am.ext H l)=some w:=fun l=>(dd.ext l).ld 4
  have w0:∀ l,ax 1 false (.ptr wb 0) (Go.Am.ext H l)=some (.int .i64 (W.size:Int)):=fun l=>dL ((aX (cw gw)).trans gw)
  have w1:∀ l,ax 1 false (.ptr wb 1) (Go.Am.ext H l)=some (.int .i64 (W.data.length:Int)):=fun l=>dL ((aX (cw gw)).trans gw)
  have gws:ay Hs wb=some [.int .i64 (W.size:Int),.int .i64 (W.data.length:Int),hv,.ptr hk 0]:=by rw[←hHs,bD (Ne.symm b3)];exact gw
  have gks:ay Hs hk=some (hC ws r (W.data.drop 64).length):=by rw[←hHs,bD (Ne.symm b4)];exact gk
  have w2:∀ l,ax 1 false (.ptr wb 2) (Go.Am.ext Hs l)=some hv:=fun l=>dL ((aX (cw gws)).trans gws)
  have w3:∀ l,ax 1 false (.ptr wb 3) (Go.Am.ext Hs l)=some (.ptr hk 0):=fun l=>dL ((aX (cw gws)).trans gws)
  have lt:binOp .lss (.int .i64 (W.data.length:Int)) (.int .i64 (W.size:Int))=some (.bool (decide (W.data.length<W.size))):=by
   show some (PV.bool (decide ((W.data.length:Int)<(W.size:Int))))=_;congr 2;exact decide_eq_decide.2 (by omega)
  subst hwe
  by_cases hl:W.data.length<W.size
  ·simp only[if_pos hl]
   refine⟨H,?_,⟨h,m,_,dd⟩,Kp.refl _ _⟩;rw[S14,←jT];simp only[HS (h:=H),r1,c1,eF,n0,ou,l4,w0,w1,lt,decide_eq_true hl,eU,hb,ft0 z32 z32,fr0 z32,f53,Option.ag,az];rfl
  ·simp only[if_neg hl]
   have au6:64≤W.data.length∨W.data.length<64:=by omega
   have rd:∀ l,ai T (size H) 60 [hv] (Go.Am.ext Hs l)=some (.cF [.agg (cr (cz (W.data.take 64)).1),.int .i64 ((cz (W.data.take 64)).2:Int)],Go.Am.ext Hs l):=fun l=>by
    rcases a5 with⟨e,rfl⟩ | ⟨_,tb,rfl,_⟩
    ·rw[e]
     have hq:ai T (size H) 60 [.bg] (Go.Am.ext Hs l)=ai T (size H) 60 [.sl .full 1 (aP [])] (Go.Am.ext Hs l):=by
      have el:cB false .bg=cB false (.sl .full 1 (aP [])):=rfl;have e2:binOp .lss (.int .i64 0) (.int .i64 64)=some (.bool true):=rfl;rw[S60,S60,el,show cB false (.sl .full 1 (aP []))=some (.int .i64 0) from rfl];simp only[ek,Option.ag,e2,eU]
     rw[hq];exact Kq _ _ _ (by simp)
    ·exact Kq _ _ _ (by rw[List.length_take];omega)
   generalize hE:cz (W.data.take 64)=E at rd ⊢;have d32:E.1.dg.length=32:=by rw[←hE];exact G6 _
   have A1:∀ (K:PV→Hp→Option (PV × Hp)) (z:List PV) (X:gW),eo z (Go.Am.ext Hs [X]) K=K (.ptr (size H+1) 0) (Go.Am.ext Hs [X,.cells z]):=fun K z X=>by rw[fk1,YR]
   have T1:∀ (X:gW) (x y:qx) (r:Hp),x.dg.length=32→y.dg.length=32→aS (size H) 35 (.ptr (size H+1) 0) (.agg (cr y)) (Go.Am.ext Hs (X::.cells (cr x)::r))=some (Go.Am.ext Hs (X::.cells (cr y)::r)):=fun X x y r hx hy=>by rw[←YR];exact ft1 hx hy
   by_cases he:E.2≠0
   ·simp only[if_pos he]
    refine⟨Hs,?_,dS,ks⟩;rw[S14,←jT];simp only[HS (h:=H),r1,c1,eF,n0,ou,l4,w0,w1,lt,decide_eq_false hl,stp,w2,rd,tY,tZ,A1,T1 _ iV E.1 _ z32 d32,UP,decide_eq_true he,eU,hb,T0 iV iV _ z32 z32,R0 iV _ z32,FF,Option.ag,az]
   ·simp only[if_neg he]
    have dx:DS (Go.Am.ext Hs [.cells (cr iV),.cells (cr E.1)]) P s.stop R:=eT.ext dS _;have ac:=eT.mM dx (size H);have vl:=eT.valid dx (size H) ((bO s.vs).1:Int);simp only[show s.stop.vs=s.vs from rfl,show s.stop.F=s.F from rfl]at ac vl;generalize hO:cQ s.F P.n ((bO s.vs).1:Int)=O at vl;have hok:s.ok P.n s.act=O.isSome:=by rw[←hO];rfl
    have hO':cQ s.F P.n ((s.act:Nat):Int)=O:=hO;have dO:=D4 O;have A2:∀ (K:PV→Hp→Option (PV × Hp)) (z:List PV) (X Y:gW),eo z (Go.Am.ext Hs [X,Y]) K=K (.ptr (size H+2) 0) (Go.Am.ext Hs [X,Y,.cells z]):=fun K z X Y=>by
     rw[ek,aW,fA,YR];rfl
    have g3:∀ (X Y:gW) (Z:List PV),ay (Go.Am.ext Hs [X,Y,.cells Z]) (size H+2)=some Z:=fun X Y Z=>by rw[←YR,eZ];rfl
    have T2:∀ (X Y:gW) (x y:qx),x.dg.length=32→y.dg.length=32→aS (size H) 35 (.ptr (size H+2) 0) (.agg (cr y)) (Go.Am.ext Hs [X,Y,.cells (cr x)])=some (Go.Am.ext Hs [X,Y,.cells (cr y)]):=fun X Y x y hx hy=>by
     rw[jh (g3 _ _ _) (by omega) (eD hx) (eD hy) (tX _),eu (by omega),YR];simp
    have sm:∀ l,gv (ai T (size H)) 61 [.ptr hk 0] (Go.Am.ext Hs l)=some (.agg (aP (Rb (W.data.drop 64))),Go.Am.ext Hs l):=fun l =>
     N3 (acB (size H) a4 (by rw[List.length_drop];omega) ((aX (cw gks)).trans gks))
    have g1:∀ (X:gW) (r:Hp),ay (Go.Am.ext Hs (X::.cells (cr E.1)::r)) (size H+1)=some (cr E.1):=fun X r=>by rw[←YR];exact fg1
    have ldd:∀ (X:gW) (r:Hp),ax 32 true (.ptr (size H+1) 3) (Go.Am.ext Hs (X::.cells (cr E.1)::r))=some (.agg (aP E.1.dg)):=fun X r=>alc (g1 X r) d32
    have X8:∀ (X:gW) (r:Hp),ax 1 false (.ptr (size H+1) 0) (Go.Am.ext Hs (X::.cells (cr E.1)::r))=some (uV E.1.cu):=fun X r=>dL (g1 X r)
    have lda:∀ (X:gW) (r:Hp),ax 35 true (.ptr (size H+1) 0) (Go.Am.ext Hs (X::.cells (cr E.1)::r))=some (.agg (cr E.1)):=fun X r=>rC (g1 X r) (eD d32)
    have ld2:∀ (X Y:gW) (x:qx),ax 1 false (.ptr (size H+2) 0) (Go.Am.ext Hs [X,Y,.cells (cr x)])=some (uV x.cu):=fun X Y x=>dL (g3 X Y _)
    have ev:=ald (kS (W.data.drop 64)) d32;rw[hok,hO']
    by_cases hdg:Rb (W.data.drop 64)≠E.1.dg
    ·simp only[if_pos hdg]
     have hbn:(Rb (W.data.drop 64) != E.1.dg)=true:=by rw[bne,beq_false_of_ne hdg];rfl
     rw[hbn]at ev;refine⟨Hs,?_,dS,ks⟩;rw[S14,←jT];simp only[HS (h:=H),r1,c1,eF,n0,ou,l4,w0,w1,lt,decide_eq_false hl,stp,w2,rd,tY,tZ,A1,T1 _ iV E.1 _ z32 d32,UP,decide_eq_false he,ac,vl,A2,T2 _ _ iV (vD O) z32 dO,w3,sm,if_true,ldd,ev,eU,hb,T0 iV iV _ z32 z32,R0 iV _ z32,DF,Option.ag,az];rfl
    ·simp only[if_neg hdg]
     have hbn:(Rb (W.data.drop 64) != E.1.dg)=false:=by rw[Classical.not_not.1 hdg,bne,beq_self_eq_true];rfl
     rw[hbn]at ev;have lq:=aoS E.1.cu (vD O).cu;cases hos:O.isSome with
     | false =>
      rw[hos]at vl;rw[if_neg (by simp)];refine⟨Hs,?_,dS,ks⟩;rw[S14,←jT];simp only[HS (h:=H),r1,c1,eF,n0,ou,l4,w0,w1,lt,decide_eq_false hl,stp,w2,rd,tY,tZ,A1,T1 _ iV E.1 _ z32 d32,UP,decide_eq_false he,ac,vl,A2,T2 _ _ iV (vD O) z32 dO,w3,sm,if_true,ldd,ev,wF2,Oe,lda,T0 iV E.1 _ z32 d32,R0 E.1 _ d32,F00,Option.ag,az];rfl
     | true =>
      rw[hos]at vl
      by_cases hv:E.1.cu.toNat≤(vD O).cu.toNat
      ·rw[if_pos ⟨rfl,hv⟩]
       refine⟨Hs,?_,dS,ks⟩;rw[S14,←jT];simp only[HS (h:=H),r1,c1,eF,n0,ou,l4,w0,w1,lt,decide_eq_false hl,stp,w2,rd,tY,tZ,A1,T1 _ iV E.1 _ z32 d32,UP,decide_eq_false he,ac,vl,A2,T2 _ _ iV (vD O) z32 dO,w3,sm,if_true,ldd,ev,wT,Ee,Kw,X8,ld2,lq,decide_eq_true hv,eU,hb,T0 iV iV _ z32 z32,R0 iV _ z32,VM,Option.ag,az];rfl
      ·rw[if_neg (fun q=>hv q.2)]
       refine⟨Hs,?_,dS,ks⟩;rw[S14,←jT];simp only[HS (h:=H),r1,c1,eF,n0,ou,l4,w0,w1,lt,decide_eq_false hl,stp,w2,rd,tY,tZ,A1,T1 _ iV E.1 _ z32 d32,UP,decide_eq_false he,ac,vl,A2,T2 _ _ iV (vD O) z32 dO,w3,sm,if_true,ldd,ev,wT,Ee,Kw,X8,ld2,lq,decide_eq_false hv,eU,lda,T0 iV E.1 _ z32 d32,R0 E.1 _ d32,F00,Option.ag,az];rfl
end Go.Am.Qd
namespace Go.Am.Qd
def xC (P:Pl) (j s:PV):List PV:=[.ptr P.p.f 0,.ptr P.qa 0,.ptr P.qb 0,.ptr P.qc 0,.ptr P.qd 0,j,s,.int .i64 (P.n:Int)]
structure Po (H:Hp) (P:Pl) (F:Fl) (R:List Nat) (xb:Nat) (h:Hp):Prop where
 eq:H=cv h P.p F
 po:PO h P.p P.qa P.qb
 pc:gL h P.p P.qc 4 P.n
 pd:gL h P.p P.qd (4+P.n) P.n
 fq:Fq F 128
 fs:F.aj=64
 fl:F.b.length=(4+2*P.n)*64
 fw:F.bN.length=4+2*P.n
 hn:4≤P.n∧P.n≤7
 ro:∀ b∈R,b<size h∧b≠P.p.f∧b≠P.p.bb∧b≠P.p.wb∧b≠xb
 xg:∃ j s,ay h xb=some (xC P j s)
 xn:xb≠P.p.f∧xb≠P.p.bb∧xb≠P.p.wb
 lx:P.lo≤xb
structure Dx (H:Hp) (P:Pl) (s:Ss) (R:List Nat) (xb:Nat):Prop where
 d:DS H P s (xb::R)
 g:ay H xb=some (xC P (.ptr P.jb 0) (.ptr P.sb 0))
 r:xb ∉ R
 l:P.lo≤xb
def Oi (F:Fl):Option Ss:=(F.CE 128).2.2.map fun r=>⟨(F.CE 128).2.1,r.1,r.2,(bO r.2).1,none⟩
theorem Dx.po {H:Hp} {P:Pl} {s:Ss} {R:List Nat} {xb:Nat} (x:Dx H P s R xb):∃ h,Po H P s.F R xb h:=by
 obtain⟨h,m,w,d⟩:=x.d;obtain⟨x1,x2,x3⟩:=d.ro xb (by simp);have hj:=d.js.ok;have key:∀ {q f c:Nat},gL h P.p q f c→q≠P.jb→gL (aC h P.jb (.cells (jC P.qa P.qb 128 s.J m))) P.p q f c:=fun hq hn=>⟨by rw[bD (Ne.symm hn)];exact hq.get,hq.n1,hq.n2,hq.n3⟩
 refine⟨aC h P.jb (.cells (jC P.qa P.qb 128 s.J m)),d.eq,⟨hj.fs _,hj.qa' _,hj.qb' _⟩,key d.pc d.cj,key d.pd d.dj,d.js.fl,d.fs,d.fl,d.fw,d.hn,fun b hb=>?_,⟨.ptr P.jb 0,.ptr P.sb 0,?_⟩,⟨x2.1,x2.2.1,x2.2.2.1⟩,x.l⟩
 ·obtain⟨b1,b2,b3⟩:=d.ro b (by simp[hb])
  exact⟨by rw[aJ];exact b1,b2.1,b2.2.1,b2.2.2.1,fun he=>x.r (he▸hb)⟩
 ·rw[bD (Ne.symm x2.2.2.2),←d.get x2];exact x.g
theorem JS.put {h:Hp} {p:FP} {F:Fl} {jb qa qb sz m:Nat} {J:Jn} {vs:Vs} (hs:JS h p F jb qa qb sz m J vs) {b:Nat} (h3:∀ cs,ay h b=some cs→cs.length≠3) (hm:bR h b=none) (x:gW):JS (aC h b x) p F jb qa qb sz m J vs:=by
 have key:∀ {q f c:Nat},gL h p q f c→gL (aC h b x) p q f c:=fun {q f c} hq=>by
  have hne:b≠q:=fun he=>by subst he;exact h3 _ hq.get rfl
  exact⟨by rw[bD hne];exact hq.get,hq.n1,hq.n2,hq.n3⟩
 have hmb:b≠m:=fun he=>by rw[he,hs.map]at hm;cases hm
 have hmm:bR (aC h b x) m=some (pN vs):=by rw[jE hmb];exact hs.map
 have hok:Bh (aC h b x) p jb qa qb:={ hs.ok with fo:=hs.ok.fo.set _ _,pa:=key hs.ok.pa,pb:=key hs.ok.pb,lj:=by rw[aJ];exact hs.ok.lj };exact { hs with ok:=hok,map:=hmm }
theorem gL.put {h:Hp} {p:FP} {q f c b:Nat} (hq:gL h p q f c) (hne:b≠q) (x:gW):gL (aC h b x) p q f c:=⟨by rw[bD hne];exact hq.get,hq.n1,hq.n2,hq.n3⟩
theorem aoT {h:Hp} {p:FP} {q f c:Nat} (hq:gL h p q f c):q<size h:=cw hq.get
theorem Dq.more {H:Hp} {P:Pl} {F:Fl} {J:Jn} {vs:Vs} {run:Nat} {R:List Nat} {h:Hp} {m:Nat} {w:PV} (d:Dq H P F J vs run R h m w) {b:Nat} (h1:b<size h) (h2:NJ P b) (h3:b≠P.sb):Dq H P F J vs run (b::R) h m w:=by
 have hro:∀ c∈b::R,c<size h∧NJ P c∧c≠P.sb:=fun c hc=>by
  rcases List.mem_cons.1 hc with rfl | hc
  ·exact⟨h1,h2,h3⟩
  ·exact d.ro c hc
 exact { d with ro:=hro }
theorem aer {F:Fl} {sz:Nat} (hF:Fq F sz):gO (F.CE sz).2.1∧HT F (F.CE sz).2.1∧((F.CE sz).2.2=none→(F.CE sz).1≠0)∧(∀ r,(F.CE sz).2.2=some r→(F.CE sz).1=0):=by
 have mv:∀ (J:Jn) (vs:Vs),Keyed vs→gO (F.move sz J vs).2.1∧HT F (F.move sz J vs).2.1∧((F.move sz J vs).2.2=none→(F.move sz J vs).1≠0)∧(∀ r,(F.move sz J vs).2.2=some r→(F.move sz J vs).1=0):=fun J vs hk=>by
  obtain⟨a1,a2⟩:=hF.fin.shM hF.bN.1 sz J vs;obtain⟨_,_,a3,a4⟩:=s8 (J:=J) hF hk;exact⟨a1,a2,a4,fun r hr=>(a3 r hr).1⟩
 have mvn:∀ (J:Jn) (vs:Vs),gO (F.move sz J vs).2.1∧HT F (F.move sz J vs).2.1∧((F.move sz J vs).2.2=none→(F.move sz J vs).1≠0)∧(∀ r,(F.move sz J vs).2.2=some r→(F.move sz J vs).1=0):=fun J vs=>by
  obtain⟨a1,a2⟩:=hF.fin.shM hF.bN.1 sz J vs;refine⟨a1,a2,?_,?_⟩
  ·unfold Fl.move
   repeat' (first | split | (simp only;split))
   all_goals (first | (intro h;simp at h;done) | (intro h;simpa using ‹_›) | simp_all)
  ·unfold Fl.move
   repeat' (first | split | (simp only;split))
   all_goals (first | (intro r h;simp at h;done) | (intro r h;rfl))
 unfold Fl.CE;split
 ·exact⟨hF.fin,.refl _,fun _=>by simp,fun r h=>by simp at h⟩
 simp only;split
 ·obtain⟨a1,a2,a3,a4⟩:=mvn ⟨1,0,(AQ F 0 0#32).bM⟩ []
  exact⟨a1,a2,fun h=>a3 (by simpa using h),fun r h=>by
   cases hq:(F.move sz ⟨1,0,(AQ F 0 0#32).bM⟩ []).2.2 with
   | none=>rw[hq]at h;simp at h
   | some J=>exact a4 J hq⟩
 split
 ·exact⟨hF.fin,.refl _,fun _=>by simp,fun r h=>by simp at h⟩
 split
 ·obtain⟨a1,a2,a3,a4⟩:=mvn ⟨(AQ F 0 0#32).now,(Rx (mN F (AQ F 0 0#32).now)).2.1,(AQ F 0 0#32).bM⟩ (Rx (mN F (AQ F 0 0#32).now)).2.2
  exact⟨a1,a2,fun h=>a3 (by simpa using h),fun r h=>by
   cases hq:(F.move sz ⟨(AQ F 0 0#32).now,(Rx (mN F (AQ F 0 0#32).now)).2.1,(AQ F 0 0#32).bM⟩ (Rx (mN F (AQ F 0 0#32).now)).2.2).2.2 with
   | none=>rw[hq]at h;simp at h
   | some J=>exact a4 J hq⟩
 ·exact⟨hF.fin,.refl _,fun h=>by simp at h,fun _ _=>rfl⟩
section
variable {H:Hp} {P:Pl} {F:Fl} {R:List Nat} {xb:Nat} {h:Hp} (x:Po H P F R xb h) {base:Nat} (hb:base≤P.lo)
include x hb
theorem Po.open:match Oi F with
  | none=>∃ H' h',ai T base 16 [.ptr xb 0] H=some (.bool false,H')∧Po H' P (F.CE 128).2.1 R xb h'∧Kp R H H'
  | some s=>∃ H' jb sb,ai T base 16 [.ptr xb 0] H=some (.bool true,H')∧Dx H' { P with jb:=jb,sb:=sb } s R xb∧Kp R H H':=by
 obtain⟨j0,s0,xg⟩:=x.xg;have hfo:=x.po.fo;have hxl:=cw xg;have hlx:=x.lx;obtain⟨g,cs,c1,c2⟩:=acn (base:=base) x.po x.fq (by omega);obtain⟨i1,i2,i3,i4⟩:=aer x.fq;have gx:ay H xb=some (xC P j0 s0):=by rw[x.eq,iU hfo x.xn.1 x.xn.2.1 x.xn.2.2];exact xg
 have l1:ax 1 false (.ptr xb 1) H=some (.ptr P.qa 0):=dL gx;have l2:ax 1 false (.ptr xb 2) H=some (.ptr P.qb 0):=dL gx;have n0:∀ k,aF (.ptr k 0)=some (.ptr k 0):=fun _=>rfl
 rw[←x.eq]at c1;have hne:∀ {q f c:Nat},gL h P.p q f c→q≠size h:=fun hq=>by have:=aoT hq;omega
 unfold Oi;cases hq:(F.CE 128).2.2 with
 | none =>
  rw[hq]at c1;have he:=i3 hq;refine⟨dZ (Go.Am.ext h g) P.p (F.CE 128).2.1 (size h) cs,aC (Go.Am.ext h g) (size h) (.cells cs),?_,⟨rfl,⟨(hfo.ext g).set _ _,(x.po.pa.ext g).put (Ne.symm (hne x.po.pa)) _,(x.po.pb.ext g).put (Ne.symm (hne x.po.pb)) _⟩,
   (x.pc.ext g).put (Ne.symm (hne x.pc)) _,(x.pd.ext g).put (Ne.symm (hne x.pd)) _,x.fq.shp i1 i2,by rw[i2.s];exact x.fs,by rw[i2.b];exact x.fl,by rw[i2.w];exact x.fw,x.hn,fun b hb=>?_,⟨j0,s0,?_⟩,x.xn,x.lx⟩,?_,fun b hb=>?_⟩
  ·rw[S16]
   simp only[n0,ou,l1,l2,c1,tY,tZ,UP,decide_eq_true he,eU,fK,Option.ag,az]
  ·obtain⟨r1,r2⟩:=x.ro b hb
   exact⟨by rw[aJ,aW];omega,r2⟩
  ·rw[bD (by omega),aX hxl];exact xg
  ·rw[dZ,bS,aJ,aW,x.eq,bS];omega
  ·obtain⟨r1,r2,r3,r4,r5⟩:=x.ro b hb
   rw[dZ,dD ((hfo.ext g).set _ _),if_neg r2,if_neg r4,if_neg r3,cN (by omega),dP r1,x.eq,dD hfo,if_neg r2,if_neg r4,if_neg r3]
 | some r =>
  obtain⟨J,vs⟩:=r;obtain⟨m,js,rfl⟩:=c2 J vs hq;rw[hq]at c1;simp only at c1;generalize HI:(F.CE 128).2.1=F' at c1 js i1 i2;simp only[Option.map_some];have c0:binOp .neq (.int .i64 0) (.int .i64 0)=some (.bool false):=rfl;have hj:=js.ok;have hsz:size (dZ (Go.Am.ext h g) P.p F' (size h) (jC P.qa P.qb 128 J m))=size (Go.Am.ext h g):=dH hj _;have hgt:size h≤size (Go.Am.ext h g):=by rw[aW];omega
  have ax1:size h<size (Go.Am.ext h g):=hj.lj
  let P1:Pl:={ P with jb:=size h,sb:=size (Go.Am.ext h g) }
  have nx:NJ P1 xb:=⟨x.xn.1,x.xn.2.1,x.xn.2.2,by show xb≠size h;omega⟩;have gx0:ay (Go.Am.ext h g) xb=some (xC P j0 s0):=by rw[aX hxl];exact xg
  have gx1:ay (dZ (Go.Am.ext h g) P.p F' (size h) (jC P.qa P.qb 128 J m)) xb=some (xC P j0 s0):=(nx.get (P:=P1) hj).trans gx0;have st5:aS base 1 (.ptr xb 5) (.ptr (size h) 0) (dZ (Go.Am.ext h g) P.p F' (size h) (jC P.qa P.qb 128 J m))=some (aC (dZ (Go.Am.ext h g) P.p F' (size h) (jC P.qa P.qb 128 J m)) xb (.cells (xC P (.ptr (size h) 0) s0))):=by
   rw[mL gx1 (by omega) rfl rfl (by show 5<8;decide)];rfl
  have e2:aC (dZ (Go.Am.ext h g) P.p F' (size h) (jC P.qa P.qb 128 J m)) xb (.cells (xC P (.ptr (size h) 0) s0))=dZ (aC (Go.Am.ext h g) xb (.cells (xC P (.ptr (size h) 0) s0))) P.p F' (size h) (jC P.qa P.qb 128 J m):=nx.set (P:=P1) hj _;have js2:JS (aC (Go.Am.ext h g) xb (.cells (xC P (.ptr (size h) 0) s0))) P.p F' (size h) P.qa P.qb 128 m J vs:=js.put (fun cs hc=>by rw[gx0]at hc;cases hc;show 8≠3;decide) (nT gx0) _;have hxp:∀ {q f c:Nat},gL h P.p q f c→xb≠q:=fun hp he=>by
   have:=hp.get;rw[←he,xg]at this;cases this
  rw[e2]at st5;have hs2:size (dZ (aC (Go.Am.ext h g) xb (.cells (xC P (.ptr (size h) 0) s0))) P.p F' (size h) (jC P.qa P.qb 128 J m))=size (Go.Am.ext h g):=by rw[dH js2.ok,aJ]
  have gx2:ay (dZ (aC (Go.Am.ext h g) xb (.cells (xC P (.ptr (size h) 0) s0))) P.p F' (size h) (jC P.qa P.qb 128 J m)) xb=some (xC P (.ptr (size h) 0) s0):=by
   rw[←e2,ay,cM (cw gx1)];rfl
  have l3:ax 1 false (.ptr xb 3) _=some (.ptr P.qc 0):=dL gx2;have l4:ax 1 false (.ptr xb 4) _=some (.ptr P.qd 0):=dL gx2;generalize hH2:dZ (aC (Go.Am.ext h g) xb (.cells (xC P (.ptr (size h) 0) s0))) P.p F' (size h) (jC P.qa P.qb 128 J m)=H2 at st5 hs2 gx2 l3 l4;have hP1:P1.sb=size H2:=hs2.symm;have bx:tK 5 (.agg (sC P1 0 .bp)) H2=some (.ptr P1.sb 0,Go.Am.ext H2 [.cells (sC P1 0 .bp)]):=by
   rw[ql,if_pos ⟨rfl,rfl⟩,hP1];rfl
  have nsb:NJ P1 P1.sb:=by
   have h1:=hfo.lf;have h2:=hfo.lb;have h3:=hfo.lw;exact⟨by show size (Go.Am.ext h g)≠P.p.f;omega,by show size (Go.Am.ext h g)≠P.p.bb;omega,by show size (Go.Am.ext h g)≠P.p.wb;omega,by show size (Go.Am.ext h g)≠size h;omega⟩
  have d3:Dq (Go.Am.ext H2 [.cells (sC P1 0 .bp)]) P1 F' J vs 0 R (Go.Am.ext (aC (Go.Am.ext h g) xb (.cells (xC P (.ptr (size h) 0) s0))) [.cells (sC P1 0 .bp)]) m .bp:=by
   refine⟨?_,js2.XH _,((x.pc.ext g).put (hxp x.pc) _).ext _,((x.pd.ext g).put (hxp x.pd) _).ext _,hne x.pc,hne x.pd,by rw[i2.s];exact x.fs,by rw[i2.b];exact x.fl,by rw[i2.w];exact x.fw,x.hn,?_,nsb,Nat.zero_le _,fun b hb=>?_,by show P.lo≤size h;omega,by show P.lo≤size (Go.Am.ext h g);omega⟩
   ·rw[←hH2];exact ng js2.ok _ _
   ·show ay _ (size (Go.Am.ext h g))=_
    rw[←aJ (h:=Go.Am.ext h g) (b:=xb) (x:=.cells (xC P (.ptr (size h) 0) s0)),aQ];rfl
   ·obtain⟨r1,r2,r3,r4,r5⟩:=x.ro b hb
    exact⟨by rw[aW,aJ];omega,⟨r2,r3,r4,by show b≠size h;omega⟩,by show b≠size (Go.Am.ext h g);omega⟩
  have v3:=d3.v (W:=none) rfl;have ac:=eT.mM ⟨_,_,_,v3⟩ base;obtain⟨v4,k4⟩:=v3.XJ (run':=(bO vs).1) (w':=.bp) (W':=none) (lT vs).1 rfl;have st3:aS base 1 (.ptr P1.sb 3) (.int .i64 ((bO vs).1:Int)) (Go.Am.ext H2 [.cells (sC P1 0 .bp)])=some (aC (Go.Am.ext H2 [.cells (sC P1 0 .bp)]) P1.sb (.cells (sC P1 (bO vs).1 .bp))):=by
   rw[mL v3.RH (by show base≤size (Go.Am.ext h g);omega) rfl rfl (by show 3<5;decide)];rfl
  have hxs:xb≠P1.sb:=by show xb≠size (Go.Am.ext h g);omega
  have hxR:xb ∉ R:=fun hr=>(x.ro xb hr).2.2.2.2 rfl
  have gx4:ay (aC (Go.Am.ext H2 [.cells (sC P1 0 .bp)]) P1.sb (.cells (sC P1 (bO vs).1 .bp))) xb=some (xC P (.ptr (size h) 0) s0):=by
   rw[bD (Ne.symm hxs),aX (cw gx2)];exact gx2
  generalize hH4:aC (Go.Am.ext H2 [.cells (sC P1 0 .bp)]) P1.sb (.cells (sC P1 (bO vs).1 .bp))=H4 at v4 k4 st3 gx4;have st6:aS base 1 (.ptr xb 6) (.ptr P1.sb 0) H4=some (aC H4 xb (.cells (xC P (.ptr (size h) 0) (.ptr P1.sb 0)))):=by
   rw[mL gx4 (by omega) rfl rfl (by show 6<8;decide)];rfl
  have gh4:∀ cs,ay H4 xb=some cs→cs.length≠3:=fun cs hc=>by rw[gx4]at hc;cases hc;show 8≠3;decide
  have gq:=gx4;rw[v4.get nx]at gq;obtain⟨d5,k5⟩:=v4.q.set nx hxs hxR (fun cs hc=>by rw[gq]at hc;cases hc;show 8≠3;decide) (nT gq) (.cells (xC P (.ptr (size h) 0) (.ptr P1.sb 0)));have d6:=(d5.more (b:=xb) (by rw[aJ];exact cw gq) nx hxs).v (W:=none) rfl;refine⟨_,size h,P1.sb,?_,⟨⟨_,_,_,d6⟩,?_,hxR,x.lx⟩,⟨?_,fun b hb=>?_⟩⟩
  ·have bv1:dz [.bp,.bp] [(0,1,.ptr P.qc 0),(1,1,.ptr P.qd 0)]=some (.agg [.ptr P.qc 0,.ptr P.qd 0]):=rfl
   have bv2:dz [.bp,.bp,.bp,(.int .i64 0),.bp] [(0,2,.agg [.ptr P.qc 0,.ptr P.qd 0]),(2,1,.ptr (size h) 0)]=some (.agg (sC P1 0 .bp)):=rfl;have nw:ai T base 64 [.ptr P.qc 0,.ptr P.qd 0,.ptr (size h) 0] H2=some (.ptr P1.sb 0,H4):=by
    rw[S64];simp only[bv1,bv2,bx,ac,n0,ou,st3,fK,Option.ag,az]
   rw[S16];simp only[n0,ou,l1,l2,c1,tY,tZ,c0,eF,st5,l3,l4,nw,st6,fK,Option.ag,az]
  ·rw[ay,cM (cw gx4)];rfl
  ·have:size H≤size H2:=by rw[x.eq,bS,hs2];exact hgt
   have:=k4.1;rw[aW]at this;rw[aJ];omega
  ·obtain⟨r1,r2,r3,r4,r5⟩:=x.ro b hb
   have nb:NJ P1 b:=⟨r2,r3,r4,by show b≠size h;omega⟩;have e3:bY H2 b=bY h b:=by
    rw[←hH2,nb.box (P:=P1) js2.ok,cN (Ne.symm r5),dP r1]
   rw[k5.2 b hb,k4.2 b hb,dP (by rw[hs2];omega),e3,x.eq,dD hfo,if_neg r2,if_neg r4,if_neg r3]
end
end Go.Am.Qd
