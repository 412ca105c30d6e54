/- The bK UY its values into the other group. | The bK writes a record, or UY. | The bK keeps a value, aoF one, Uq one. | The N7 of bytes. | An T3 head, 
   By the session's AI agent. -/
import Derived.Test.YtmmjmkjoflfpmaaGreatDoorT34
set_option linter.unnecessarySimpa false
set_option linter.unusedSectionVars false
set_option linter.unusedSimpArgs false
set_option linter.unusedVariables false
set_option maxRecDepth 100000
namespace Go.Am.Qd
variable {h:Hp} {p:FP} {F:Fl}
structure Jn where
 now:Nat
 fin:Nat
 bM:BitVec 32
def jC (qa qb sz:Nat) (J:Jn) (m:Nat):List PV:=[.ptr qa 0,.ptr qb 0,.int .i64 (sz:Int),.int .i64 (J.now:Int),uV J.bM,.int .i64 (J.fin:Int),.eL m]
structure Bb (h:Hp) (p:FP) (jb qa qb:Nat):Prop where
 fo:pH h p
 pa:gI h p qa 0 2
 pb:gI h p qb 2 2
 lj:jb<size h
 j1:jb≠p.f
 j2:jb≠p.bb
 j3:jb≠p.wb
 ja:qa≠jb
 jq:qb≠jb
def dZ (h:Hp) (p:FP) (F:Fl) (jb:Nat) (cs:List PV):Hp:=cw (aC h jb (.cells cs)) p F
section
variable {jb qa qb:Nat} (hj:Bb h p jb qa qb)
include hj
theorem Bb.fs (cs:List PV):pH (aC h jb (.cells cs)) p:=hj.fo.set _ _
theorem dG (cs:List PV):size (dZ h p F jb cs)=size h:=by rw[dZ,bS,aJ]
theorem Bb.qa' (cs:List PV):gI (aC h jb (.cells cs)) p qa 0 2:=⟨by rw[ay,cN (Ne.symm hj.ja)];exact hj.pa.get,hj.pa.n1,hj.pa.n2,hj.pa.n3⟩
theorem Bb.qb' (cs:List PV):gI (aC h jb (.cells cs)) p qb 2 2:=⟨by rw[ay,cN (Ne.symm hj.jq)];exact hj.pb.get,hj.pb.n1,hj.pb.n2,hj.pb.n3⟩
theorem XS (cs:List PV):ay (dZ h p F jb cs) jb=some cs:=by
 rw[dZ,iQ (hj.fs cs) hj.j1 hj.j2 hj.j3,ay,cM hj.lj];rfl
theorem ldj (cs:List PV) (k:Nat):ax 1 false (.ptr jb k) (dZ h p F jb cs)=cs[k]?:=by
 rw[ek,XS hj,Option.ag,part,if_neg (by simp)]
theorem amO (cs ds:List PV):cy (dZ h p F jb cs) jb ds=dZ h p F jb ds:=by
 rw[dZ,cy,Ab (hj.fs cs) hj.j1 hj.j2 hj.j3];unfold dZ;congr 1;simp[aC]
theorem stj {base:Nat} (hb:base≤jb) (cs:List PV) (k:Nat) (x:PV) (hx:scalar x=true) (hc:x.cells=[x]) (hk:k<cs.length):aS base 1 (.ptr jb k) x (dZ h p F jb cs)=some (dZ h p F jb (cs.set k x)):=by
 rw[dz,XS hj,Option.ag,hc,if_pos ⟨rfl,by omega,by simp[hx],fun q=>absurd q (by omega)⟩,if_neg (by omega),amO hj];rfl
theorem XT (cs:List PV):bJ (dZ h p F jb cs) (size h)=dZ h p F jb cs:=by
 have:=cR (h:=aC h jb (.cells cs)) (p:=p) (F:=F);rwa [aJ]at this
end
theorem aeH {jb:Nat} {cs:List PV} (hg:ay h jb=some cs):cw h p F=dZ h p F jb cs:=by
 rw[dZ,ju (bq hg)]
structure Fq (F:Fl) (sz:Nat):Prop where
 fin:gL F
 bN:4≤F.bN.length∧F.bN.length≤64
 len:4*F.aj≤F.b.length
 sz:sz=2*F.aj
 small:F.aj≤4096
 pos:16≤F.aj
theorem Fq.of {F G:Fl} {sz:Nat} (hF:Fq F sz) (hg:gL G) (h1:G.b.length=F.b.length) (h2:G.bN.length=F.bN.length) (h3:G.aj=F.aj):Fq G sz :=
 ⟨hg,by rw[h2];exact hF.bN,by rw[h1,h3];exact hF.len,by rw[h3];exact hF.sz,by rw[h3];exact hF.small,by rw[h3];exact hF.pos⟩
theorem Fq.room {F:Fl} {sz:Nat} (hF:Fq F sz) {n:Nat} (hn:n≤2):n*F.aj+2*F.aj≤F.b.length:=by
 have h1:=Nat.mul_le_mul_right F.aj (show n+2≤4 by omega);rw[Nat.add_mul]at h1;have:=hF.len;omega
theorem gL.clear:∀ (n:Nat) {F:Fl} (s:Nat),gL F→s+n≤F.bN.length→gL (F.clear s n).2∧(F.clear s n).2.b.length=F.b.length∧(F.clear s n).2.bN.length=F.bN.length∧(F.clear s n).2.aj=F.aj
 | 0,F,s,hF,hs=>⟨hF,rfl,rfl,rfl⟩
 | n+1,F,s,hF,hs=>by
  obtain⟨h1,h2,h3,h4⟩:=hF.erase s (by omega);unfold Fl.clear;split
  ·obtain⟨g1,g2,g3,g4⟩:=gL.clear n (s+1) h1 (by rw[h3];omega)
   exact⟨g1,g2.trans h2,g3.trans h3,g4.trans h4⟩
  ·exact⟨h1,h2,h3,h4⟩
theorem gL.fill (A:Nat) (vs:Vs):∀ (ks:List Nat) {F:Fl} (a:Nat),gL F→gL (F.fill A a vs ks).2.2∧(F.fill A a vs ks).2.2.b.length=F.b.length∧(F.fill A a vs ks).2.2.bN=F.bN∧(F.fill A a vs ks).2.2.aj=F.aj
 | [],F,a,hF=>⟨hF,rfl,rfl,rfl⟩
 | k::r,F,a,hF=>by
  obtain⟨h1,h2,h3,h4⟩:=hF.lay (A+a) (dD (UInt8.ofNat k) (vB ((cO vs k).getD none)) false);unfold Fl.fill;split
  ·obtain⟨g1,g2,g3,g4⟩:=gL.fill A vs r (a+(7+(vB ((cO vs k).getD none)).length)) h1
   exact⟨g1,g2.trans h2,g3.trans h3,g4.trans h4⟩
  ·exact⟨h1,h2,h3,h4⟩
theorem Fq.program {F:Fl} {sz:Nat} (hF:Fq F sz) (i:Nat) (l:List UInt8):Fq (F.program i l).2 sz∧(F.program i l).2.aj=F.aj:=by
 obtain⟨h1,h2,h3,h4⟩:=hF.fin.program i l;exact⟨hF.of h1 h2 (by rw[h3]) h4,h4⟩
theorem Fq.lay {F:Fl} {sz:Nat} (hF:Fq F sz) (i:Nat) (l:List UInt8):Fq (F.lay i l).2 sz∧(F.lay i l).2.aj=F.aj:=by
 obtain⟨h1,h2,h3,h4⟩:=hF.fin.lay i l;exact⟨hF.of h1 h2 (by rw[h3]) h4,h4⟩
theorem Fq.clear {F:Fl} {sz:Nat} (hF:Fq F sz) (s n:Nat) (hs:s+n≤4):Fq (F.clear s n).2 sz∧(F.clear s n).2.aj=F.aj:=by
 obtain⟨h1,h2,h3,h4⟩:=hF.fin.clear n s (by have:=hF.bN;omega);exact⟨hF.of h1 h2 h3 h4,h4⟩
theorem Fq.fill {F:Fl} {sz:Nat} (hF:Fq F sz) (A a:Nat) (vs:Vs) (ks:List Nat):Fq (F.fill A a vs ks).2.2 sz∧(F.fill A a vs ks).2.2.aj=F.aj:=by
 obtain⟨h1,h2,h3,h4⟩:=hF.fin.fill A vs ks a;exact⟨hF.of h1 h2 (by rw[h3]) h4,h4⟩
def _root_.Go.Am.Fl.move (F:Fl) (sz:Nat) (J:Jn) (vs:Vs):Nat × Fl × Option Jn :=
 if sz<cY vs then(6,F,none) else if J.bM=4294967295#32 then(3,F,none) else
 let A:=2*(1-J.now)*F.aj
 let c:=F.clear (2*(1-J.now)) 2
 if c.1≠0 then(c.1,c.2,none) else
 let f:=c.2.fill A 8 vs (fy vs)
 if f.2.1≠0 then(f.2.1,f.2.2,none) else
 let w:=f.2.2.program (A+1) (br (J.bM+1#32))
 if w.1≠0 then(w.1,w.2,none) else
 let x:=w.2.program (A+0) [0]
 if x.1≠0 then(x.1,x.2,none) else(0,x.2,some ⟨1-J.now,f.1,J.bM+1#32⟩)
section
variable {jb qa qb:Nat} (hj:Bb h p jb qa qb)
include hj
theorem adW {base:Nat} (hb:base≤jb) {m m' sz to f fst:Nat} {J:Jn} {v6:PV} (n0:Nat) (e:Int) (he:e≠0) :
  adH base n0 (.ptr jb 0) (.eL m') (.int .i64 f) (.int .i64 to) v6 (.int .i64 e) (dZ h p F jb (jC qa qb sz J m))=some (.int .i64 e,dZ h p F jb (jC qa qb sz J m)):=by
 have e1:(e == 0)=false:=by simpa using he
 have e2:(e != 0)=true:=by simpa using he
 rw[adI];simp only[e1,e2,↓jV,jX,jY,jZ,simprocAttr,if_true,if_false,implies_true,forall_const]
theorem abM (cs ds:List PV):aC (dZ h p F jb cs) jb (.cells ds)=dZ h p F jb ds:=amO hj cs ds
omit hj in
theorem anh (a:BitVec 32):binOp .add (uV a) (.int .u32 1)=some (uV (a+1#32)):=by
 show some (PV.int .u32 (IntKind.u32.wrap ((a.toNat:Int)+1)))=some (PV.int .u32 _);congr 2
theorem ae8 {base:Nat} (hb:base≤jb) {m m' sz to f q fst:Nat} {J:Jn} (hq:gI (aC h jb (.cells (jC qa qb sz J m))) p q fst 2) (hF:Fq F sz) (ahr:fst≤2) (n0:Nat) :
  adH base n0 (.ptr jb 0) (.eL m') (.int .i64 f) (.int .i64 to) (.ptr q 0) (.int .i64 0) (dZ h p F jb (jC qa qb sz J m)) =
   some (.int .i64 ((F.program (fst*F.aj+0) [0]).1:Nat),dZ h p (F.program (fst*F.aj+0) [0]).2 jb (if(F.program (fst*F.aj+0) [0]).1=0 then jC qa qb sz ⟨to,f,J.bM+1#32⟩ m' else jC qa qb sz J m)):=by
 have hz:cF 1 false [(.int .u8 0)] 1 [(0,strip (.int .u8 0))]=some (.sl .full 1 [.int .u8 0]):=rfl;have hs2:=hF.small;have hs3:=hF.pos;have hlen:=hF.len;have hw:ai T base 28 [.ptr q 0,.int .i64 (0:Nat),.sl .full 1 [.int .u8 0]] (dZ h p F jb (jC qa qb sz J m))=some (.int .i64 ((F.program (fst*F.aj+0) [0]).1:Nat),dZ h p (F.program (fst*F.aj+0) [0]).2 jb (jC qa qb sz J m)) :=
  aaY (F:=F) (hj.fs _) hq base 0 [0] aek hF.fin (by simp;omega) (by
   have:=Nat.mul_le_mul_right F.aj (show fst+2≤4 by omega);omega)
 simp only[show((0:Nat):Int)=0 from rfl]at hw;have hnb:(jb<base)=False:=by simp;omega
 have gj:=fun(F:Fl) (cs:List PV)=>XS (F:=F) hj cs
 have sj:=fun(F:Fl) (cs ds:List PV)=>abM (F:=F) hj cs ds
 have uc:∀ a,(uV a).cells=[uV a]:=fun _=>rfl
 have us:∀ a,scalar (uV a)=true:=fun _=>rfl
 rw[adI];simp only[hz,hw,↓jV,jX,jY,jZ,simprocAttr,if_true,if_false,implies_true,forall_const];generalize F.program (fst*F.aj+0) [0]=c
 by_cases hc:c.1=0
 ·have e1:((c.1:Int) != 0)=false:=by rw[hc];rfl
  rw[if_pos hc];simp only[e1,jC,gj,sj,hnb,uc,us,anh,↓jV,jX,jY,jZ,simprocAttr,if_true,if_false,implies_true,forall_const];rw[hc];rfl
 ·have e1:((c.1:Int) != 0)=true:=by simpa using hc
  rw[if_neg hc];simp only[e1,↓jV,jX,jY,jZ,simprocAttr,if_true,if_false,implies_true,forall_const]
omit hj in
theorem al7 (base:Nat) {m:Nat} {vs:Vs} {H:Hp} (hm:bR H m=some (pK vs)) (hs:Small vs):gu (ai T base) 121 [.eL m] H=some (.int .i64 (cY vs:Nat),H):=by
 rw[Dz,yQ aod,ad9 hm hs];exact iP _ _
theorem abj {m:Nat} {vs:Vs} (cs:List PV) (hm:bR h m=some (pK vs)) (nm:m≠p.f∧m≠p.bb∧m≠p.wb) (hmj:m≠jb):bR (aC h jb (.cells cs)) m=some (pK vs)∧bR (dZ h p F jb cs) m=some (pK vs):=by
 have h1:bR (aC h jb (.cells cs)) m=some (pK vs):=by rw[jD (Ne.symm hmj)];exact hm
 exact⟨h1,by rw[dZ,FM (hj.fs cs) nm.1 nm.2.1 nm.2.2];exact h1⟩
theorem adX {base:Nat} (hb:base≤jb) {m m' sz to q fst:Nat} {J:Jn} {vs:Vs} (hm:bR h m'=some (pK vs)) (nm:m'≠p.f∧m'≠p.bb∧m'≠p.wb) (hmj:m'≠jb) (hs:Small vs) (hk:Keyed vs)
  (hq:gI (aC h jb (.cells (jC qa qb sz J m))) p q fst 2) (hF:Fq F sz) (hto:to=1-J.now) (lT:J.now≤1) (ahr:fst=2*to) (hld:(jC qa qb sz J m)[to]?=some (.ptr q 0)) :
  ai T base 99 [.ptr jb 0,.eL m'] (dZ h p F jb (jC qa qb sz J m)) =
   some (.int .i64 ((F.move sz J vs).1:Nat),dZ h p (F.move sz J vs).2.1 jb (match (F.move sz J vs).2.2 with | none=>jC qa qb sz J m | some J'=>jC qa qb sz J' m')):=by
 have hs2:=hF.small;have hs3:=hF.pos;have hsz:=hF.sz;have hlen:=hF.len;have hnb:(jb<base)=False:=by simp;omega
 have gj:=fun(F:Fl) (cs:List PV)=>XS (F:=F) hj cs
 have sj:=fun(F:Fl) (cs ds:List PV)=>abM (F:=F) hj cs ds
 have gm:=fun(F:Fl)=>(abj (F:=F) hj (jC qa qb sz J m) hm nm hmj).2
 have hn:=fun(F:Fl)=>al7 base (gm F) hs
 have l2:(jC qa qb sz J m)[2]?=some (.int .i64 (sz:Int)):=rfl;have l3:(jC qa qb sz J m)[3]?=some (.int .i64 (J.now:Int)):=rfl;have l4:(jC qa qb sz J m)[4]?=some (uV J.bM):=rfl;have hmax:binOp .eql (uV J.bM) (.int .u32 4294967295)=some (.bool (J.bM == 4294967295#32)):=aa7 J.bM 4294967295#32;have hsub:IntKind.i64.wrap (1-(J.now:Int))=(to:Int):=by rw[wrap_small (by omega) (by omega)];omega
 have DQ:=iZ .i64 to 2 (by omega);have Kb:ai T base 55 [.ptr q 0] (dZ h p F jb (jC qa qb sz J m))=some (.int .i64 ((F.clear fst 2).1:Nat),dZ h p (F.clear fst 2).2 jb (jC qa qb sz J m)) :=
  GF (hj.fs _) hq base hF.fin (by have:=Nat.mul_le_mul_right F.aj (show fst+2≤4 by omega);omega) (by have:=hF.bN;omega) (by have:=hF.bN;omega)
 unfold Fl.move;rw[S99];rw[show 2*(1-J.now)=fst by omega]
 by_cases c1:sz<cY vs
 ·have d1:decide (cY vs > sz)=true:=by simpa using c1
  rw[if_pos c1];simp only[hn,gj,l2,aaL,d1,↓jV,jX,jY,jZ,simprocAttr,if_true,if_false,implies_true,forall_const]<;>rfl
 rw[if_neg c1];have d1:decide (cY vs > sz)=false:=by simpa using c1
 by_cases c2:J.bM=4294967295#32
 ·have d2:(J.bM == 4294967295#32)=true:=by simpa using c2
  rw[if_pos c2];simp only[hn,gj,l2,l4,aaL,d1,hmax,d2,↓jV,jX,jY,jZ,simprocAttr,if_true,if_false,implies_true,forall_const]<;>rfl
 rw[if_neg c2];have d2:(J.bM == 4294967295#32)=false:=by simpa using c2
 simp only;obtain⟨fc,sc⟩:=hF.clear fst 2 (by omega);generalize hC:F.clear fst 2=C at *
 by_cases c3:C.1≠0
 ·have d3:((C.1:Int) != 0)=true:=by simpa using c3
  rw[if_pos c3];simp only[hn,gj,l2,l3,l4,aaL,d1,hmax,d2,hsub,DQ,Nat.mul_one,hld,Kb,d3,↓jV,jX,jY,jZ,simprocAttr,if_true,if_false,implies_true,forall_const]
 rw[if_neg c3];have d3:((C.1:Int) != 0)=false:=by simpa using c3
 have hfl:ai T base 122 [.ptr q 0,.eL m'] (dZ h p C.2 jb (jC qa qb sz J m))=some (.cC [.int .i64 ((C.2.fill (fst*C.2.aj) 8 vs (fy vs)).1:Nat),.int .i64 ((C.2.fill (fst*C.2.aj) 8 vs (fy vs)).2.1:Nat)],dZ h p (C.2.fill (fst*C.2.aj) 8 vs (fy vs)).2.2 jb (jC qa qb sz J m)) :=
  aeG (hj.fs _) hq (abj (F:=F) hj _ hm nm hmj).1 nm hs base fc.fin (by have:=Nat.mul_le_mul_right C.2.aj (show fst+2≤4 by omega);have:=fc.len;omega) (by rw[kV hk,sc];omega) (by rw[sc];omega)
 obtain⟨ff,sf⟩:=fc.fill (fst*C.2.aj) 8 vs (fy vs);rw[sc]at hfl ff sf;generalize hf:C.2.fill (fst*F.aj) 8 vs (fy vs)=f at *
 by_cases c4:f.2.1≠0
 ·have d4:((f.2.1:Int) == 0)=false:=by rw[beq_eq_false_iff_ne];omega
  have hend:=fun n0=>adW (F:=f.2.2) hj hb (m:=m) (m':=m') (sz:=sz) (to:=to) (f:=f.1) (fst:=fst) (J:=J) (v6:=.ptr q 0) n0 (f.2.1:Int) (by omega)
  rw[if_pos c4];simp only[hn,gj,l2,l3,l4,aaL,d1,hmax,d2,hsub,DQ,Nat.mul_one,hld,Kb,d3,hfl,d4,hend,↓jV,jX,jY,jZ,simprocAttr,if_true,if_false,implies_true,forall_const]
 rw[if_neg c4];have d4:((f.2.1:Int) == 0)=true:=by rw[beq_iff_eq];omega
 have hpt:=aey (h:=dZ h p f.2.2 jb (jC qa qb sz J m)) base (J.bM+1#32);have hwr:ai T base 28 [.ptr q 0,.int .i64 ((1:Nat):Int),.sl .no 1 (aP (br (J.bM+1#32)))] (dZ h p f.2.2 jb (jC qa qb sz J m))=some (.int .i64 ((f.2.2.program (fst*f.2.2.aj+1) (br (J.bM+1#32))).1:Nat),dZ h p (f.2.2.program (fst*f.2.2.aj+1) (br (J.bM+1#32))).2 jb (jC qa qb sz J m)) :=
  aaY (hj.fs _) hq base 1 (br (J.bM+1#32)) (vm (.inl rfl) _) ff.fin (by rw[sf];simp[br];omega) (by rw[sf];have:=ff.len;rw[sf]at this;have:=Nat.mul_le_mul_right F.aj (show fst+2≤4 by omega);omega)
 obtain⟨fw,sw⟩:=ff.program (fst*F.aj+1) (br (J.bM+1#32));rw[sf]at hwr sw;simp only[show((1:Nat):Int)=1 from rfl]at hwr;generalize hw:f.2.2.program (fst*F.aj+1) (br (J.bM+1#32))=W at *
 by_cases c5:W.1≠0
 ·have hend:=fun n0=>adW (F:=W.2) hj hb (m:=m) (m':=m') (sz:=sz) (to:=to) (f:=f.1) (fst:=fst) (J:=J) (v6:=.ptr q 0) n0 (W.1:Int) (by omega)
  rw[if_pos c5];simp only[hn,gj,l2,l3,l4,aaL,d1,hmax,d2,hsub,DQ,Nat.mul_one,hld,Kb,d3,hfl,d4,hpt,anh,hwr,hend,↓jV,jX,jY,jZ,simprocAttr,if_true,if_false,implies_true,forall_const]
 rw[if_neg c5];have hend:=fun n0=>ae8 (F:=W.2) hj hb (m:=m) (m':=m') (sz:=sz) (to:=to) (f:=f.1) (q:=q) (fst:=fst) (J:=J) hq fw (by omega) n0
 rw[sw]at hend;have c5':(W.1:Int)=0:=by omega
 simp only[hn,gj,l2,l3,l4,aaL,d1,hmax,d2,hsub,DQ,Nat.mul_one,hld,Kb,d3,hfl,d4,hpt,anh,hwr,c5',hend,↓jV,jX,jY,jZ,simprocAttr,if_true,if_false,implies_true,forall_const];generalize W.2.program (fst*F.aj+0) [0]=X
 by_cases c6:X.1≠0
 ·rw[if_neg c6,if_pos c6]
 ·rw[if_pos (by omega),if_neg c6,hto]
  have:X.1=0:=by omega
  rw[this]
end
end Go.Am.Qd
namespace Go.Am.Qd
variable {h:Hp} {p:FP} {F:Fl} {jb qa qb:Nat} (hj:Bb h p jb qa qb)
include hj
theorem abm {base:Nat} (hb:base≤jb) {m m' sz:Nat} {J:Jn} {vs:Vs} (hm:bR h m'=some (pK vs)) (nm:m'≠p.f∧m'≠p.bb∧m'≠p.wb) (hmj:m'≠jb) (hs:Small vs) (hk:Keyed vs)
  (hF:Fq F sz) (lT:J.now≤1) :
  ai T base 99 [.ptr jb 0,.eL m'] (dZ h p F jb (jC qa qb sz J m)) =
   some (.int .i64 ((F.move sz J vs).1:Nat),dZ h p (F.move sz J vs).2.1 jb (match (F.move sz J vs).2.2 with | none=>jC qa qb sz J m | some J'=>jC qa qb sz J' m')):=by
 rcases Nat.le_one_iff_eq_zero_or_eq_one.1 lT with h0 | h0
 ·exact adX hj hb hm nm hmj hs hk (hj.qb' _) hF (by omega:1=1-J.now) lT rfl rfl
 ·exact adX hj hb hm nm hmj hs hk (hj.qa' _) hF (by omega:0=1-J.now) lT rfl rfl
theorem aeI (base:Nat) {m sz:Nat} {J:Jn} (hf:J.fin≤sz) (hsz:sz≤1000000):ai T base 137 [.ptr jb 0] (dZ h p F jb (jC qa qb sz J m))=some (.int .i64 ((sz-J.fin:Nat):Int),dZ h p F jb (jC qa qb sz J m)):=by
 have gj:=fun(F:Fl) (cs:List PV)=>XS (F:=F) hj cs
 have l2:(jC qa qb sz J m)[2]?=some (.int .i64 (sz:Int)):=rfl;have l5:(jC qa qb sz J m)[5]?=some (.int .i64 (J.fin:Int)):=rfl;have tr:=fun(F:Fl) (cs:List PV)=>XT (F:=F) hj cs
 rw[at6];simp (disch:=omega) only[dG hj,gj,l2,l5,aa8,tr,↓jV,jX,jY,jZ,simprocAttr,if_true,if_false,implies_true,forall_const]
def _root_.Go.Am.Fl.gh (F:Fl) (sz:Nat) (J:Jn) (b:List UInt8) (vs:Vs):Nat × Fl × Option Jn :=
 if sz<cY vs then(6,F,none) else if sz-J.fin<b.length+1 then F.move sz J vs else
 let c:=F.lay (2*J.now*F.aj+J.fin) b
 if c.1≠0 then(c.1,c.2,none) else(0,c.2,some ⟨J.now,J.fin+(b.length+1),J.bM⟩)
theorem ac4 {base:Nat} (hb:base≤jb) {m m' sz q fst:Nat} {J:Jn} {vs:Vs} (hm:bR h m'=some (pK vs)) (nm:m'≠p.f∧m'≠p.bb∧m'≠p.wb) (hmj:m'≠jb) (hs:Small vs) (hk:Keyed vs)
  (hF:Fq F sz) (lT:J.now≤1) (hfin:J.fin≤sz) {v:PV} {b:List UInt8} (hv:Bv v b) (hbl:b.length≤10000)
  (hq:gI (aC h jb (.cells (jC qa qb sz J m))) p q fst 2) (ahr:fst=2*J.now) (hld:(jC qa qb sz J m)[J.now]?=some (.ptr q 0)) :
  ai T base 118 [.ptr jb 0,v,.eL m'] (dZ h p F jb (jC qa qb sz J m)) =
   some (.int .i64 ((F.gh sz J b vs).1:Nat),dZ h p (F.gh sz J b vs).2.1 jb (match (F.gh sz J b vs).2.2 with | none=>jC qa qb sz J m | some J'=>jC qa qb sz J' m')):=by
 have hs2:=hF.small;have hs3:=hF.pos;have hsz:=hF.sz;have hlen:=hF.len;have hnb:(jb<base)=False:=by simp;omega
 have gj:=fun(F:Fl) (cs:List PV)=>XS (F:=F) hj cs
 have sj:=fun(F:Fl) (cs ds:List PV)=>abM (F:=F) hj cs ds
 have gm:=fun(F:Fl)=>(abj (F:=F) hj (jC qa qb sz J m) hm nm hmj).2
 have hn:=fun(F:Fl)=>al7 base (gm F) hs
 have l2:(jC qa qb sz J m)[2]?=some (.int .i64 (sz:Int)):=rfl;have l3:(jC qa qb sz J m)[3]?=some (.int .i64 (J.now:Int)):=rfl;have l5:(jC qa qb sz J m)[5]?=some (.int .i64 (J.fin:Int)):=rfl;have DQ:=iZ .i64 J.now 2 (by omega);have hrm:=aeI (F:=F) hj base (m:=m) (J:=J) hfin (by omega);have hmv:=abm (F:=F) hj hb (m:=m) hm nm hmj hs hk hF lT;unfold Fl.gh;rw[atX]
 by_cases c1:sz<cY vs
 ·have d1:decide (cY vs > sz)=true:=by simpa using c1
  rw[if_pos c1];simp (disch:=omega) only[hv.len,fm,hn,gj,l2,aaL,d1,↓jV,jX,jY,jZ,simprocAttr,if_true,if_false,implies_true,forall_const]<;>rfl
 rw[if_neg c1];have d1:decide (cY vs > sz)=false:=by simpa using c1
 by_cases c2:sz-J.fin<b.length+1
 ·have d2:decide (b.length+1 > sz-J.fin)=true:=by simpa using c2
  rw[if_pos c2];simp (disch:=omega) only[hv.len,fm,hn,gj,l2,aaL,d1,hrm,d2,hmv,↓jV,jX,jY,jZ,simprocAttr,if_true,if_false,implies_true,forall_const]
 rw[if_neg c2];have d2:decide (b.length+1 > sz-J.fin)=false:=by simpa using c2
 have hly:ai T base 138 [.ptr q 0,.int .i64 (J.fin:Int),v] (dZ h p F jb (jC qa qb sz J m))=some (.int .i64 ((F.lay (fst*F.aj+J.fin) b).1:Nat),dZ h p (F.lay (fst*F.aj+J.fin) b).2 jb (jC qa qb sz J m)) :=
  adT (hj.fs _) hq base J.fin b hv hF.fin (by omega) (by have:=Nat.mul_le_mul_right F.aj (show fst+2≤4 by omega);omega)
 rw[show 2*J.now=fst by omega];simp only;generalize F.lay (fst*F.aj+J.fin) b=C at *
 by_cases c3:C.1≠0
 ·have d3:((C.1:Int) != 0)=true:=by simpa using c3
  rw[if_pos c3];simp (disch:=omega) only[hv.len,fm,hn,gj,l2,l3,l5,aaL,d1,hrm,d2,DQ,Nat.mul_one,hld,hly,d3,↓jV,jX,jY,jZ,simprocAttr,if_true,if_false,implies_true,forall_const]
 rw[if_neg c3];have d3:((C.1:Int) != 0)=false:=by simpa using c3
 simp (disch:=omega) only[hv.len,fm,hn,gj,l2,l3,l5,aaL,d1,hrm,d2,DQ,Nat.mul_one,hld,hly,d3,mI,hnb,sj,↓jV,jX,jY,jZ,simprocAttr,if_true,if_false,implies_true,forall_const]<;>rfl
theorem aeb {base:Nat} (hb:base≤jb) {m m' sz:Nat} {J:Jn} {vs:Vs} (hm:bR h m'=some (pK vs)) (nm:m'≠p.f∧m'≠p.bb∧m'≠p.wb) (hmj:m'≠jb) (hs:Small vs) (hk:Keyed vs)
  (hF:Fq F sz) (lT:J.now≤1) (hfin:J.fin≤sz) {v:PV} {b:List UInt8} (hv:Bv v b) (hbl:b.length≤10000) :
  ai T base 118 [.ptr jb 0,v,.eL m'] (dZ h p F jb (jC qa qb sz J m)) =
   some (.int .i64 ((F.gh sz J b vs).1:Nat),dZ h p (F.gh sz J b vs).2.1 jb (match (F.gh sz J b vs).2.2 with | none=>jC qa qb sz J m | some J'=>jC qa qb sz J' m')):=by
 rcases Nat.le_one_iff_eq_zero_or_eq_one.1 lT with h0 | h0
 ·exact ac4 hj hb hm nm hmj hs hk hF lT hfin hv hbl (hj.qa' _) (by omega:0=2*J.now) (by rw[h0];rfl)
 ·exact ac4 hj hb hm nm hmj hs hk hF lT hfin hv hbl (hj.qb' _) (by omega:2=2*J.now) (by rw[h0];rfl)
end Go.Am.Qd
namespace Go.Am.Qd
variable {h:Hp} {p:FP} {F:Fl} {jb qa qb:Nat} (hj:Bb h p jb qa qb)
include hj
def aaZ (F:Fl) (key:Int) (n:Nat):Nat:=if F.down then 30 else if key<0∨32≤key then 1 else if 250<n then 2 else 0
theorem acw (base:Nat) {m sz:Nat} {J:Jn} (key:Int) {v:PV} {l:List UInt8} (hv:cG false v=some (.int .i64 (l.length:Int))) :
  ai T base 116 [.ptr jb 0,.int .i64 key,v] (dZ h p F jb (jC qa qb sz J m))=some (.int .i64 (aaZ F key l.length:Int),dZ h p F jb (jC qa qb sz J m)):=by
 have gj:=fun(F:Fl) (cs:List PV)=>XS (F:=F) hj cs
 have tr:=fun(F:Fl) (cs:List PV)=>XT (F:=F) hj cs
 have l0:(jC qa qb sz J m)[0]?=some (.ptr qa 0):=rfl;have l1:(jC qa qb sz J m)[1]?=some (.ptr qb 0):=rfl;have fa:∀ b,ai T b 87 [.ptr qa 0] (dZ h p F jb (jC qa qb sz J m))=some (.ptr p.f 0,dZ h p F jb (jC qa qb sz J m)):=fun b=>GD (hj.fs _) (hj.qa' _) b
 have fb:∀ b,ai T b 87 [.ptr qb 0] (dZ h p F jb (jC qa qb sz J m))=some (.ptr p.f 0,dZ h p F jb (jC qa qb sz J m)):=fun b=>GD (hj.fs _) (hj.qb' _) b
 have fd:∀ b,ai T b 41 [.ptr p.f 0] (dZ h p F jb (jC qa qb sz J m))=some (.bool F.down,dZ h p F jb (jC qa qb sz J m)):=fun b=>NQ (hj.fs _) b
 have i0:ix (.int .i64 0) 2=some 0:=rfl;have i1:ix (.int .i64 1) 2=some 1:=rfl;unfold aaZ;rw[atW];cases hd:F.down with
 | true =>
  rw[hd]at fd;simp only[dG hj,gj,i0,i1,Nat.zero_mul,Nat.mul_one,l0,l1,fa,fb,fd,tr,↓jV,jX,jY,jZ,Nat.reduceAdd,Nat.reduceSub,Nat.reduceMul,Nat.reduceLeDiff,Nat.reduceLT,Nat.reduceEqDiff,Nat.reduceBEq,reduceIte,reduceCtorEq,Int.reduceBEq,Int.reduceEq,Int.reduceLT,Int.reduceLE,Int.reduceGT,Int.reduceGE,Int.reduceAdd,Int.reduceSub,Int.reduceNeg,Int.reduceBNe,ite_true,ite_false,if_true,if_false,implies_true,forall_const]<;>rfl
 | false =>
  rw[hd]at fd;simp only[Bool.false_eq_true,if_false]
  by_cases h1:key<0
  ·have d1:decide (key<0)=true:=by simpa using h1
   rw[if_pos (.inl h1)];simp only[dG hj,gj,i0,i1,Nat.zero_mul,Nat.mul_one,l0,l1,fa,fb,fd,d1,tr,↓jV,jX,jY,jZ,Nat.reduceAdd,Nat.reduceSub,Nat.reduceMul,Nat.reduceLeDiff,Nat.reduceLT,Nat.reduceEqDiff,Nat.reduceBEq,reduceIte,reduceCtorEq,Int.reduceBEq,Int.reduceEq,Int.reduceLT,Int.reduceLE,Int.reduceGT,Int.reduceGE,Int.reduceAdd,Int.reduceSub,Int.reduceNeg,Int.reduceBNe,ite_true,ite_false,if_true,if_false,implies_true,forall_const]<;>rfl
  have d1:decide (key<0)=false:=by simpa using h1
  by_cases h2:32≤key
  ·have d2:decide (key≥32)=true:=by simpa using h2
   rw[if_pos (.inr h2)];simp only[dG hj,gj,i0,i1,Nat.zero_mul,Nat.mul_one,l0,l1,fa,fb,fd,d1,d2,tr,↓jV,jX,jY,jZ,Nat.reduceAdd,Nat.reduceSub,Nat.reduceMul,Nat.reduceLeDiff,Nat.reduceLT,Nat.reduceEqDiff,Nat.reduceBEq,reduceIte,reduceCtorEq,Int.reduceBEq,Int.reduceEq,Int.reduceLT,Int.reduceLE,Int.reduceGT,Int.reduceGE,Int.reduceAdd,Int.reduceSub,Int.reduceNeg,Int.reduceBNe,ite_true,ite_false,if_true,if_false,implies_true,forall_const]<;>rfl
  have d2:decide (key≥32)=false:=by simpa using h2
  rw[if_neg (by omega)]
  by_cases h3:250<l.length
  ·have d3:decide ((l.length:Int) > 250)=true:=by simp;omega
   rw[if_pos h3];simp only[dG hj,gj,i0,i1,Nat.zero_mul,Nat.mul_one,l0,l1,fa,fb,fd,d1,d2,hv,d3,tr,↓jV,jX,jY,jZ,Nat.reduceAdd,Nat.reduceSub,Nat.reduceMul,Nat.reduceLeDiff,Nat.reduceLT,Nat.reduceEqDiff,Nat.reduceBEq,reduceIte,reduceCtorEq,Int.reduceBEq,Int.reduceEq,Int.reduceLT,Int.reduceLE,Int.reduceGT,Int.reduceGE,Int.reduceAdd,Int.reduceSub,Int.reduceNeg,Int.reduceBNe,ite_true,ite_false,if_true,if_false,implies_true,forall_const]<;>rfl
  ·have d3:decide ((l.length:Int) > 250)=false:=by simp;omega
   rw[if_neg h3];simp only[dG hj,gj,i0,i1,Nat.zero_mul,Nat.mul_one,l0,l1,fa,fb,fd,d1,d2,hv,d3,tr,↓jV,jX,jY,jZ,Nat.reduceAdd,Nat.reduceSub,Nat.reduceMul,Nat.reduceLeDiff,Nat.reduceLT,Nat.reduceEqDiff,Nat.reduceBEq,reduceIte,reduceCtorEq,Int.reduceBEq,Int.reduceEq,Int.reduceLT,Int.reduceLE,Int.reduceGT,Int.reduceGE,Int.reduceAdd,Int.reduceSub,Int.reduceNeg,Int.reduceBNe,ite_true,ite_false,if_true,if_false,implies_true,forall_const]<;>rfl
omit hj in
theorem GY (l:List UInt8):bytesOf (aP l)=some l:=by
 induction l with
 | nil=>rfl
 | cons c l ih=>simp only[aP,List.map_cons]at ih ⊢;rw[bytesOf,ih];simp
omit hj in
theorem LR {v:PV} {l:List UInt8} (hv:Rd h v l) (hs:∀ s,v≠.str s):fL h v=some (.str l):=by
 have:fL h v=(elems h v).ah fun es=>(bytesOf es).ah fun s=>some (.str s):=by
  cases v<;>first | rfl | exact(hs _ rfl).elim
 rw[this,hv.el,Option.ag,GY];rfl
omit hj in
theorem Rs {v:PV} {l:List UInt8} (hv:Rd h v l):∀ s,v≠.str s:=by
 rintro s rfl;have:=hv.len;cases this
omit hj in
theorem AG (base:Nat) {v w:PV} {l l':List UInt8} (hv:Rd h v l) (hw:Rd h w l'):ai T base 67 [v,w] h=some (.bool (l == l'),h):=by
 have h1:=LR hv (Rs hv);have h2:=LR hw (Rs hw);rw[S67];simp only[h1,h2,bL,↓jV,jX,jY,jZ,Nat.reduceAdd,Nat.reduceSub,Nat.reduceMul,Nat.reduceLeDiff,Nat.reduceLT,Nat.reduceEqDiff,Nat.reduceBEq,reduceIte,reduceCtorEq,Int.reduceBEq,Int.reduceEq,Int.reduceLT,Int.reduceLE,Int.reduceGT,Int.reduceGE,Int.reduceAdd,Int.reduceSub,Int.reduceNeg,Int.reduceBNe,ite_true,ite_false,if_true,if_false,implies_true,forall_const]
end Go.Am.Qd
namespace Go.Am.Qd
variable {h:Hp}
theorem GZ (base:Nat) (o:Own) (l:List UInt8) {w:PV} {m:List UInt8} (hw:Rd h w m):ai T base 91 [.sl o 1 (aP l),w] h=some (.bool (decide (m.length≤l.length)&&(l.take m.length == m)),h):=by
 have e0:cG false (.sl o 1 (aP l))=some (.int .i64 (l.length:Int)):=by rw[fA,aM]
 have e1:binOp .geq (.int .i64 (l.length:Int)) (.int .i64 (m.length:Int))=some (.bool (decide (m.length≤l.length))):=by
  show some (PV.bool (decide ((l.length:Int)≥(m.length:Int))))=_;rw[DF]
 have ff:∀ b:Bool,bg false false (size h) [.bool b] h=some (.bool b,h):=fun b=>by
  rw[bZ];show some (PV.bool b,bJ h (size h))=_;rw[bL]
 by_cases hm:m.length≤l.length
 ·obtain⟨o2,p2,s2⟩:=slc (o:=o) l (lo:=none) (hi:=some (.int .i64 (m.length:Int))) (a:=0) (b:=m.length) rfl (gQ l.length .i64 m.length hm)
  have e2:(l.drop 0).take (m.length-0)=l.take m.length:=by simp
  rw[e2]at s2;have hq:=fun b=>AG (h:=h) b (jQ p2 (l.take m.length)) hw
  rw[S91,decide_eq_true hm,Bool.true_and];simp only[e0,hw.len,e1,decide_eq_true hm,s2,hq,ff,↓jV,jX,jY,jZ,simprocAttr,if_true,if_false,implies_true,forall_const]
 ·rw[S91,decide_eq_false hm,Bool.false_and]
  simp only[e0,hw.len,e1,decide_eq_false hm,ff,↓jV,jX,jY,jZ,simprocAttr,if_true,if_false,implies_true,forall_const]
end Go.Am.Qd
namespace Go.Am.Qd
variable {h:Hp}
structure qv where
 cv:BitVec 32
 size:Nat
 name:List UInt8
 dg:List UInt8
def iS:qv:=⟨0,0,[],List.replicate 32 0⟩
def ct (x:qv):List PV:=uV x.cv::.int .i64 (x.size:Int)::.str x.name::aP x.dg
def bk:List UInt8:=[79,84,80,88]
def cA (l:List UInt8):qv × Nat :=
 if l.length<64 then(iS,20)
 else if l.take 4≠bk then(iS,50)
 else if lK (l.take 64)=false then(iS,51)
 else if cK (jg ((l.drop 12).take 16))=false∨1048576<(jk (l.drop 8)).toNat then(iS,20)
 else(⟨jk (l.drop 4),(jk (l.drop 8)).toNat,jg ((l.drop 12).take 16),(l.drop 28).take 32⟩,0)
theorem eE {x:qv} (hx:x.dg.length=32):(ct x).length=35:=by simp[ct,aM,hx]
theorem tV (x:qv):(ct x).all scalar=true:=by
 show(scalar (uV x.cv)&&(scalar (.int .i64 (x.size:Int))&&(scalar (.str x.name)&&(aP x.dg).all scalar)))=true;rw[gJ];rfl
theorem G0 (l:List UInt8):(cA l).1.dg.length=32:=by
 unfold cA;split
 ·rfl
 ·split
  ·rfl
  ·split
   ·rfl
   ·split
    ·rfl
    ·show((l.drop 28).take 32).length=32
     rw[List.length_take,List.length_drop];omega
def rB (l:List UInt8):Nat→Nat
 | 0=>12
 | n+1=>if l.getD (12+n) 0=0 then rB l n else 13+n
theorem DR (l:List UInt8):∀ n,12≤rB l n∧rB l n≤12+n
 | 0=>⟨Nat.le_refl _,Nat.le_refl _⟩
 | n+1=>by
  have:=DR l n;unfold rB;split<;>omega
theorem AH (l:List UInt8):∀ n j,rB l n≤j→j<12+n→l.getD j 0=0
 | 0,j,h1,h2=>by have:rB l 0=12:=rfl;omega
 | n+1,j,h1,h2=>by
  unfold rB at h1;split at h1
  ·rename_i q
   by_cases hj:j=12+n
   ·rw[hj];exact q
   ·exact AH l n j h1 (by omega)
  ·omega
theorem LS (l:List UInt8):∀ n,12<rB l n→l.getD (rB l n-1) 0≠0
 | 0,h1=>by have:rB l 0=12:=rfl;omega
 | n+1,h1=>by
  unfold rB at h1 ⊢;split
  ·rename_i q
   rw[if_pos q]at h1;exact LS l n h1
  ·rename_i q
   rw[show 13+n-1=12+n by omega];exact q
theorem N8 {l:List UInt8} (hl:28≤l.length):(l.drop 12).take (rB l 16-12)=jg ((l.drop 12).take 16):=by
 have hb:=DR l 16;have hk:=Lib.trimRightB_take ((l.drop 12).take 16) 0 (rB l 16-12) (by rw[List.length_take,List.length_drop];omega) (fun j b hj hb2=>by
  have hlt:=(List.getElem?_eq_some_iff.1 hb2).1;rw[List.length_take,List.length_drop]at hlt;have:=AH l 16 (12+j) (by omega) (by omega);rw[List.getElem?_take_of_lt (by omega),List.getElem?_drop]at hb2;rw[List.getD_eq_getElem?_getD,hb2]at this;exact this) (fun b h0 hb2=>by
  have:=LS l 16 (by omega);rw[List.getElem?_take_of_lt (by omega),List.getElem?_drop,show 12+(rB l 16-12-1)=rB l 16-1 by omega]at hb2;rw[List.getD_eq_getElem?_getD,hb2]at this;exact this)
 unfold jg;rw[hk,List.take_take,Nat.min_eq_left (by omega)]
end Go.Am.Qd
namespace Go.Am.Qd
variable {h:Hp}
theorem Kl (H:Hp) (x:qv) (e:Nat):bg false false (size h) [.agg (ct x),.int .i64 (e:Int)] (ext h H)=some (.cC [.agg (ct x),.int .i64 (e:Int)],h):=by
 have fu:∀ (l:List UInt8) (n:Nat) (H:Hp),fM n H (aP l)=some (aP l):=by
  intro l n H;induction l with
  | nil=>rfl
  | cons a l ih=>show fM n H (.int .u8 a.toNat::aP l)=_;rw[fM,ih];rfl
 have hf:gW (size h) (ext h H) (.agg (ct x))=some (.agg (ct x)):=by
  rw[C3];have:fM (size h) (ext h H) (ct x)=some (ct x):=by
   rw[ct,ee,show gW (size h) (ext h H) (uV x.cv)=some (uV x.cv) from rfl,Option.ag,ee,rR,Option.ag,ee,KU,Option.ag,fu];rfl
  rw[this];rfl
 rw[bZ,ee,hf,Option.ag,ee,rR,Option.ag,jL,Option.ag,Option.ag,Option.ag,cH];have hb:belows (size h) [.agg (ct x),.int .i64 (e:Int)]=true:=by
  have:belows (size h) (ct x)=true:=by
   show(below (size h) (uV x.cv)&&(below (size h) (.int .i64 (x.size:Int))&&(below (size h) (.str x.name)&&belows (size h) (aP x.dg))))=true;rw[mu];rfl
  show(belows (size h) (ct x)&&_)=true;rw[this];rfl
 rw[if_pos hb];rfl
section
variable {v0:PV} {l:List UInt8} (DQ:∀ (i:Nat) (c:UInt8),l[i]?=some c→∀ g,∃ a,cX v0 (.int .i64 (i:Int)) 1=some a∧ax 1 false a (ext h g)=some (.int .u8 (c.toNat:Int))) (hl:64≤l.length)
include DQ hl
end
end Go.Am.Qd
namespace Go.Am.Qd
variable {h:Hp}
theorem abL (a:BitVec 32):cu (uV a) .i64=some (.int .i64 (a.toNat:Int)):=by
 show some (PV.int .i64 (IntKind.i64.wrap (a.toNat:Int)))=_;have:=a.isLt;rw[wrap_small (by omega) (by omega)]
theorem UZ (a:BitVec 32):binOp .gtr (uV a) (.int .u32 1048576)=some (.bool (decide (1048576<a.toNat))):=by
 show some (PV.bool (decide ((a.toNat:Int) > 1048576)))=_;congr 2;exact decide_eq_decide.2 (by omega)
theorem Rt (x:qv) (n:Nat):(ct x).set 1 (.int .i64 (n:Int))=ct { x with size:=n }:=rfl
theorem Ru (x:qv) (s:List UInt8):(ct x).set 2 (.str s)=ct { x with name:=s }:=rfl
theorem T5 (x:qv) (a:BitVec 32):(ct x).set 0 (uV a)=ct { x with cv:=a }:=rfl
theorem jR:ct iS=D4:=rfl
end Go.Am.Qd
namespace Go.Am.Qd
variable {h:Hp}
end Go.Am.Qd
namespace Go.Am.Qd
variable {h:Hp}
end Go.Am.Qd
namespace Go.Am.Qd
variable {h:Hp}
theorem sP {H:Hp} {f:Bool} {b:Nat} {l:List UInt8} (hb:ay H b=some (aP l)):Rd H (.bW f b 0 l.length 1) l:=by
 refine⟨rfl,fun k i c hc=>?_,?_,.inl rfl⟩
 ·have hi:=(List.getElem?_eq_some_iff.1 hc).1
  refine⟨.ptr b (0+i*1),?_,?_⟩
  ·rw[tn,if_pos rfl,iZ k i _ hi,Option.ag]
  ·rw[ek,hb,Option.ag,part,if_neg (by simp),Nat.mul_one,Nat.zero_add,pZ,hc];rfl
 ·rw[mT,hb,Option.ag,if_pos ⟨by rw[aM];omega,by rw[sM];exact lJ _⟩,sM]
  simp
theorem Rv {l m:List UInt8} (hlm:∀ k,k<4→l.getD k 0=m.getD k 0):jk l=jk m:=by
 simp only[jk,NW,hlm 0 (by omega),hlm (0+1) (by omega),hlm (0+1+1) (by omega),hlm (0+1+1+1) (by omega)]
theorem AJ {l:List UInt8} {n a:Nat} (ha:a+4≤n):jk ((l.take n).drop a)=jk (l.drop a):=by
 refine Rv fun k hk=>?_
 rw[List.getD_eq_getElem?_getD,List.getD_eq_getElem?_getD,List.getElem?_drop,List.getElem?_drop,List.getElem?_take_of_lt (by omega)]
theorem yD {l:List UInt8} {n a k:Nat} (ha:a+k≤n):((l.take n).drop a).take k=(l.drop a).take k:=by
 rw[List.drop_take,List.take_take];congr 1;omega
theorem LU {x:qv} (hx:x.dg.length=32) {d:List UInt8} (hd:d.length=32):bE (ct x) 3 (aP d)=ct { x with dg:=d }:=by
 show bE ([uV x.cv,.int .i64 (x.size:Int),.str x.name]++aP x.dg) ([uV x.cv,.int .i64 (x.size:Int),.str x.name].length+0) (aP d)=_;rw[nP,pJ _ _ _ (by omega)];simp[ct,List.drop_of_length_le,hx,hd]
theorem Km (base:Nat) (o:Own) (l:List UInt8) (hl:l.length≤800000):ai T base 60 [.sl o 1 (aP l)] h=some (.cC [.agg (ct (cA l).1),.int .i64 ((cA l).2:Int)],h):=by
 have e0:cG false (.sl o 1 (aP l))=some (.int .i64 (l.length:Int)):=by rw[fA,aM]
 have fin:∀ (H:Hp) (x:qv) (e:Nat),bg false false (size h) [.agg (ct x),.int .i64 (e:Int)] (ext h H)=some (.cC [.agg (ct x),.int .i64 (e:Int)],h):=fun H x e=>Kl H x e
 have f20:=fun H x=>fin H x 20;have f50:=fun H x=>fin H x 50;have f51:=fun H x=>fin H x 51;have f0:=fun H x=>fin H x 0
 simp only[show((20:Nat):Int)=20 from rfl,show((50:Nat):Int)=50 from rfl,show((51:Nat):Int)=51 from rfl,show((0:Nat):Int)=0 from rfl]at f20 f50 f51 f0;have gk:∀ (X:List PV) (r:Hp),ay (ext h (.cells X::r)) (size h)=some X:=fun X r=>by rw[aQ];rfl
 have sk:∀ (X:gT) (Y:gT) (r:Hp),aC (ext h (X::r)) (size h) Y=ext h (Y::r):=fun X Y r=>by rw[ez (Nat.le_refl _)];simp
 have st0:∀ (x y:qv) (r:Hp),x.dg.length=32→y.dg.length=32→aS (size h) 35 (.ptr (size h) 0) (.agg (ct y)) (ext h (.cells (ct x)::r))=some (ext h (.cells (ct y)::r)):=fun x y r hx hy=>by
  rw[jf (gk _ _) (Nat.le_refl _) (eE hx) (eE hy) (tV _),sk]
 have Ba:=fun r=>st0 iS iS r rfl rfl
 have rs0:∀ (x:qv) (r:Hp),x.dg.length=32→qQ (.ptr (size h) 0) (ext h (.cells (ct x)::r)) 35 true=some (.agg (ct x)):=fun x r hx=>AD (gk _ _) (eE hx)
 have rs1:=fun r=>rs0 iS r rfl
 unfold cA;rw[S60,←jR,eo,e0,Option.ag];have hb:dw (ct iS) []=some (.agg (ct iS)):=rfl
 by_cases HL:l.length<64
 ·have c1:binOp .lss (.int .i64 (l.length:Int)) (.int .i64 64)=some (.bool true):=by
   show some (PV.bool (decide ((l.length:Int)<64)))=_;rw[decide_eq_true (by omega)]
  rw[if_pos HL,c1,Option.ag,aR];simp only[hb,Ba,rs1,f20,Option.ag];rfl
 ·have c1:binOp .lss (.int .i64 (l.length:Int)) (.int .i64 64)=some (.bool false):=by
   show some (PV.bool (decide ((l.length:Int)<64)))=_;rw[decide_eq_false (by omega)]
  have mg:aP bk=[(.int .u8 79),(.int .u8 84),(.int .u8 80),(.int .u8 88)]:=rfl;have sb1:cU (size h) (ext h [.cells (ct iS)]) (.fC [(.int .u8 79),(.int .u8 84),(.int .u8 80),(.int .u8 88)]) []=some (.bW true (size h+1) 0 4 1,ext h [.cells (ct iS),.cells (aP bk)]):=by
   rw[jI,fz,aW];rfl
  have gm:ay (ext h [.cells (ct iS),.cells (aP bk)]) (size h+1)=some (aP bk):=J6 _ _;have mk:cU (size h) (ext h [.cells (ct iS),.cells (aP bk)]) .mark [.bW true (size h+1) 0 4 1]=some (.bW true (size h+1) 0 4 1,ext h [.cells (ct iS),.cells (aP bk)]):=by
   rw[qi,gm];rfl
  have hp:=GZ (h:=ext h [.cells (ct iS),.cells (aP bk)]) (size h) o l (w:=.bW true (size h+1) 0 4 1) (m:=bk) (sP gm);have hpe:(decide (bk.length≤l.length)&&(l.take bk.length == bk))=(l.take 4 == bk):=by
   rw[decide_eq_true (show bk.length≤l.length from by show 4≤_;omega)];rfl
  rw[hpe]at hp;rw[if_neg HL,c1,Option.ag,aL,sb1,az,mk,az,hp,az]
  by_cases hm:l.take 4≠bk
  ·rw[if_pos hm,show(l.take 4 == bk)=false from beq_false_of_ne hm,show unOp .not (.bool false)=some (.bool true) from rfl,Option.ag,aR]
   simp only[hb,Ba,rs1,f50,Option.ag];rfl
  ·have hme:l.take 4=bk:=Classical.not_not.1 hm
   rw[if_neg hm,show(l.take 4 == bk)=true from by rw[hme];rfl,show unOp .not (.bool true)=some (.bool false) from rfl,Option.ag,aL];have bz:∀ k:Nat,oY k 0 none=some 0:=fun _=>rfl
   have be:∀ k:Nat,oY k k none=some k:=fun _=>rfl
   have bh:oY l.length l.length (some (.int .i64 ((64:Nat):Int)))=some 64:=(jd _ _ _).trans (gQ _ .i64 _ (by omega));obtain⟨o1,p1,s1⟩:=slc (o:=o) l (bz 64) bh;rw[show(l.drop 0).take (64-0)=l.take 64 by simp]at s1;have l64:(l.take 64).length=64:=by rw[List.length_take];omega
   obtain⟨x,q1,q2⟩:=NX (h:=ext h [.cells (ct iS),.cells (aP bk)]) (size h) p1 (l.take 64) (by omega);simp only[show((64:Nat):Int)=64 from rfl]at s1;have x1:aE (.cC [x,.bool (lK (l.take 64))]) 1=some (.bool (lK (l.take 64))):=rfl;have x0:aE (.cC [x,.bool (lK (l.take 64))]) 0=some x:=rfl;rw[s1,Option.ag,q1,az,x0,Option.ag,x1,Option.ag];cases ho2:lK (l.take 64) with
   | false =>
    rw[if_pos rfl,show unOp .not (.bool false)=some (.bool true) from rfl,Option.ag,aR];simp only[hb,Ba,rs1,f51,Option.ag];rfl
   | true =>
    rw[if_neg (by simp),show unOp .not (.bool true)=some (.bool false) from rfl,Option.ag,aL];have bl:∀ k b:Nat,k≤b→oY b 0 (some (.int .i64 (k:Int)))=some k:=fun k b hk=>(jd _ _ _).trans (gQ _ .i64 _ hk)
    have bu:∀ k:Nat,k≤64→oY (l.take 64).length (l.take 64).length (some (.int .i64 (k:Int)))=some k:=fun k hk=>(jd _ _ _).trans (gQ _ .i64 _ (by omega))
    obtain⟨o2,p2,s2⟩:=slc (o:=o1) (l.take 64) (bl 4 _ (by omega)) (be _);obtain⟨o3,p3,s3⟩:=slc (o:=o1) (l.take 64) (bl 8 _ (by omega)) (be _);obtain⟨o4,p4,s4⟩:=slc (o:=o1) (l.take 64) (bl 12 28 (by omega)) (bu 28 (by omega));obtain⟨o5,p5,s5⟩:=slc (o:=o1) (l.take 64) (bl 28 60 (by omega)) (bu 60 (by omega));have ed:∀ k,((l.take 64).drop k).take (64-k)=(l.take 64).drop k:=fun k=>List.take_of_length_le (by rw[List.length_drop,l64];exact Nat.le_refl _)
    rw[l64,ed]at s2 s3;rw[show 28-12=16 from rfl,yD (by omega)]at s4;rw[show 60-28=32 from rfl,yD (by omega)]at s5;simp only[show((4:Nat):Int)=4 from rfl,show((8:Nat):Int)=8 from rfl,show((12:Nat):Int)=12 from rfl,show((28:Nat):Int)=28 from rfl,show((60:Nat):Int)=60 from rfl]at s2 s3 s4 s5;have g3:∀ X Y Z:List PV,ay (ext h [.cells X,.cells Y,.cells Z]) (size h+2)=some Z:=fun X Y Z=>by rw[eZ];rfl
    have u3:∀ X Y Z W:gT,aC (ext h [X,Y,Z]) (size h+2) W=ext h [X,Y,W]:=fun X Y Z W=>by rw[ez (by omega)];simp
    have str:∀ (x:qv) (off:Nat) (v:PV),x.dg.length=32→scalar v=true→v.cells=[v]→off<35→aS (size h) 1 (.ptr (size h+2) off) v (ext h [.cells (ct iS),.cells (aP bk),.cells (ct x)])=some (ext h [.cells (ct iS),.cells (aP bk),.cells ((ct x).set off v)]):=fun x off v hx hs hc ho=>by
     rw[mK (g3 _ _ _) (by omega) hs hc (by rw[eE hx];exact ho),u3]
    have fa:∀ k,aA (.ptr (size h+2) 0) k=some (.ptr (size h+2) (0+k)):=fun _=>rfl
    simp only[Nat.zero_add]at fa;have r4:=fun H:Hp=>rz (h:=H) (size h) (jQ p2 ((l.take 64).drop 4)) (by rw[List.length_drop];omega)
    have r8:=fun H:Hp=>rz (h:=H) (size h) (jQ p3 ((l.take 64).drop 8)) (by rw[List.length_drop];omega)
    rw[AJ (by omega)]at r4 r8;have ar3:((l.drop 12).take 16).length=16:=by rw[List.length_take,List.length_drop];omega
    have hnt:(jg ((l.drop 12).take 16)).length≤16:=by
     rw[←N8 (by omega),List.length_take,List.length_drop];have:=DR l 16;omega
    have rn:=fun H:Hp=>N6 (h:=H) (size h) o4 ((l.drop 12).take 16) (by omega) (by omega)
    have y0:∀ a:BitVec 32,aE (.cC [uV a,.bool true]) 0=some (uV a):=fun _=>rfl
    have y1:∀ a:BitVec 32,aE (.cC [uV a,.bool true]) 1=some (.bool true):=fun _=>rfl
    have z0:∀ (s:List UInt8) (b:Bool),aE (.cC [.str s,.bool b]) 0=some (.str s):=fun _ _=>rfl
    have z1:∀ (s:List UInt8) (b:Bool),aE (.cC [.str s,.bool b]) 1=some (.bool b):=fun _ _=>rfl
    have t1:=str iS 0 (uV (jk (l.drop 4))) rfl rfl rfl (by omega);rw[T5]at t1;have sz2:size (ext h [.cells (ct iS),.cells (aP bk)])=size h+2:=by rw[aW];rfl
    rw[eo,sz2,fz];simp only[List.cons_append,List.nil_append,s2,r4,y0,y1,fa,t1,s3,r8,s4,rn,z0,z1,Option.ag,az];generalize hnm:jg ((l.drop 12).take 16)=nm at hnt ⊢;generalize hv4:jk (l.drop 4)=v4;generalize hv8:jk (l.drop 8)=v8;have w1:aq (.bool true) false=some false:=rfl;have w1':aq (.bool false) false=some true:=rfl;have w2:∀ x:Option PV,au false x (some .undef)=some .undef:=fun _=>rfl
    have w2':∀ x:Option PV,au true x (some .undef)=x:=fun _=>rfl
    have n1:unOp .not (.bool false)=some (.bool true):=rfl;have n2:unOp .not (.bool true)=some (.bool false):=rfl;have bs:∀ x:Option PV,x.ah some=x:=fun x=>by cases x<;>rfl
    cases hn:cK nm with
    | false =>
     rw[if_pos (.inl rfl)];simp only[n1,w1,w2,aR,hb,Ba,rs1,f20,Option.ag,az];rfl
    | true =>
     by_cases hz:1048576<v8.toNat
     ·rw[if_pos (.inr hz)]
      simp only[n2,w1',w2',UZ,bs,decide_eq_true hz,aR,aL,hb,Ba,rs1,f20,Option.ag,az];rfl
     ·rw[if_neg (by simp[hz])]
      have t2:=str { iS with cv:=v4 } 1 (.int .i64 ((v8.toNat:Nat):Int)) rfl rfl rfl (by omega);rw[Rt]at t2;have t3:=str { iS with cv:=v4,size:=v8.toNat } 2 (.str nm) rfl rfl rfl (by omega);rw[Ru]at t3;have d32:((l.drop 28).take 32).length=32:=by rw[List.length_take,List.length_drop];omega
      generalize (l.drop 28).take 32=dg at s5 d32 ⊢;have sp:cU (size h) (ext h [.cells (ct iS),.cells (aP bk),.cells (ct { iS with cv:=v4,size:=v8.toNat,name:=nm })]) (.jr 1 32 false false) [.ptr (size h+2) 3]=some (.bW true (size h+2) 3 32 1,ext h [.cells (ct iS),.cells (aP bk),.cells (ct { iS with cv:=v4,size:=v8.toNat,name:=nm })]):=by
       rw[B6,xU,g3,Option.ag,if_pos (by rw[eE rfl];omega),sG,Option.ag,sG,Option.ag,if_neg (by omega)];rfl
      have cp:copyV (size h) (.bW true (size h+2) 3 32 1) (.sl o5 1 (aP (dg))) (ext h [.cells (ct iS),.cells (aP bk),.cells (ct { iS with cv:=v4,size:=v8.toNat,name:=nm })])=some (.int .i64 32,ext h [.cells (ct iS),.cells (aP bk),.cells (ct { cv:=v4,size:=v8.toNat,name:=nm,dg:=dg })]):=by
       rw[kU,jP,Option.ag,g3,Option.ag,if_pos ⟨rfl,by rw[eE rfl];omega,gJ _,fun _=>by rw[sN,mu]⟩,sN,List.take_of_length_le (by omega),LU rfl d32,aM,d32];show some (_,aC _ _ (.cells _))=_;rw[u3];rfl
      have ldx:ax 35 true (.ptr (size h+2) 0) (ext h [.cells (ct iS),.cells (aP bk),.cells (ct { cv:=v4,size:=v8.toNat,name:=nm,dg:=dg })])=some (.agg (ct { cv:=v4,size:=v8.toNat,name:=nm,dg:=dg })):=ry (g3 _ _ _) (eE d32);have st9:=fun r=>st0 iS { cv:=v4,size:=v8.toNat,name:=nm,dg:=dg } r rfl d32
      have rs9:=fun r=>rs0 { cv:=v4,size:=v8.toNat,name:=nm,dg:=dg } r d32
      simp only[n2,w1',w2',UZ,bs,decide_eq_false hz,aL,abL,fa,t2,t3,sp,s5,cp,ldx,st9,rs9,f0,Option.ag,az];rfl
end Go.Am.Qd
namespace Go.Am.Qd
variable {h:Hp}
def DT (l:List UInt8):qv × Nat :=
 if(cA l).2≠0 then(iS,(cA l).2)
 else if l.length≠64+(cA l).1.size then(iS,53)
 else if Rg (l.drop 64)≠(cA l).1.dg then(iS,51)
 else((cA l).1,0)
theorem Rw {l:List UInt8} (hl:(cA l).2=0):64≤l.length:=by
 unfold cA at hl;split at hl
 ·cases hl
 ·omega
theorem adY (l:List UInt8):(cA l).1.size≤1048576:=by
 unfold cA;split
 ·exact Nat.zero_le _
 ·split
  ·exact Nat.zero_le _
  ·split
   ·exact Nat.zero_le _
   ·split
    ·exact Nat.zero_le _
    ·rename_i q
     show(jk (l.drop 8)).toNat≤_;omega
theorem aeJ (l:List UInt8):(DT l).1.dg.length=32:=by
 unfold DT
 repeat' split
 all_goals first | rfl | exact G0 l
/-! ### aoK in a KN boxes -/
section
variable {X:gT} {r:Hp} {x y:qv}
theorem ft0 (hx:x.dg.length=32) (hy:y.dg.length=32):aS (size h) 35 (.ptr (size h) 0) (.agg (ct y)) (ext h (.cells (ct x)::r))=some (ext h (.cells (ct y)::r)):=by
 rw[jf (by rw[aQ];rfl) (Nat.le_refl _) (eE hx) (eE hy) (tV _),ez (Nat.le_refl _)];simp
theorem fr0 (hx:x.dg.length=32):qQ (.ptr (size h) 0) (ext h (.cells (ct x)::r)) 35 true=some (.agg (ct x)):=AD (by rw[aQ];rfl) (eE hx)
theorem fg1:ay (ext h (X::.cells (ct x)::r)) (size h+1)=some (ct x):=by rw[eZ];rfl
theorem ft1 (hx:x.dg.length=32) (hy:y.dg.length=32):aS (size h) 35 (.ptr (size h+1) 0) (.agg (ct y)) (ext h (X::.cells (ct x)::r))=some (ext h (X::.cells (ct y)::r)):=by
 rw[jf fg1 (by omega) (eE hx) (eE hy) (tV _),ez (by omega)];simp
theorem fl1 (k:Nat):ax 1 false (.ptr (size h+1) k) (ext h (X::.cells (ct x)::r))=(ct x)[k]?:=dL fg1
theorem fa1 (hx:x.dg.length=32):ax 35 true (.ptr (size h+1) 0) (ext h (X::.cells (ct x)::r))=some (.agg (ct x)):=ry fg1 (eE hx)
theorem al8 {H:Hp} {b:Nat} (hg:ay H b=some (ct x)) (hx:x.dg.length=32):ax 32 true (.ptr b 3) H=some (.agg (aP x.dg)):=by
 rw[ek,hg,Option.ag];have:part (ct x) 3 32 true=some (.agg (((ct x).drop 3).take 32)):=by rw[ES,if_pos (by rw[eE hx];omega)]
 rw[this];show some (PV.agg ((aP x.dg).take 32))=_;rw[List.take_of_length_le (by rw[aM];omega)]
theorem fd1 (hx:x.dg.length=32):ax 32 true (.ptr (size h+1) 3) (ext h (X::.cells (ct x)::r))=some (.agg (aP x.dg)):=al8 fg1 hx
theorem nQ (b k:Nat):aA (.ptr b 0) k=some (.ptr b k):=by
 show some (PV.ptr b (0+k))=_;rw[Nat.zero_add]
theorem fk1 {α:Type} (K:PV→Hp→Option α) (z:List PV):eu z (ext h [X]) K=K (.ptr (size h+1) 0) (ext h [X,.cells z]):=by
 rw[eo,aW,fz];rfl
theorem ff (H:Hp) (e:Nat):bg false false (size h) [.agg (ct x),.int .i64 (e:Int)] (ext h H)=some (.cC [.agg (ct x),.int .i64 (e:Int)],h):=Kl _ _ _
end
theorem tW (x:PV) (y:PV):aE (.cC [x,y]) 0=some x:=rfl
theorem tX (x:PV) (y:PV):aE (.cC [x,y]) 1=some y:=rfl
theorem U0 (e:Nat):binOp .neq (.int .i64 (e:Int)) (.int .i64 0)=some (.bool (decide (e≠0))):=by
 show some (PV.bool (!((e:Int) == 0)))=_
 by_cases he:e=0
 ·subst he;rfl
 ·rw[show((e:Int) == 0)=false by simp[he],decide_eq_true he];rfl
theorem adZ:∀ (n:Nat) (a b:List UInt8),a.length=n→b.length=n→cz (List.replicate n 1) (aP a) (aP b)=some (a == b)
 | 0,[],[],_,_=>rfl
 | n+1,x::a,y::b,ha,hb=>by
  have ih:=adZ n a b (by simpa using ha) (by simpa using hb);have e:fF 1 (.int .u8 (x.toNat:Int)) (.int .u8 (y.toNat:Int))=some (x == y):=by
   show(if IntKind.u8=IntKind.u8 then some ((x.toNat:Int) == (y.toNat:Int)) else none)=_;rw[if_pos rfl];congr 1
   by_cases hq:x=y
   ·subst hq;simp
   ·have:x.toNat≠y.toNat:=fun q=>hq (UInt8.toNat_inj.1 q)
    rw[beq_false_of_ne hq,beq_false_of_ne (by omega)]
  show(fF 1 (.int .u8 (x.toNat:Int)) (.int .u8 (y.toNat:Int))).ah (fun b'=>(cz (List.replicate n 1) (aP a) (aP b)).ah fun c=>some (b'&&c))=_;rw[e,Option.ag,ih,Option.ag];rfl
theorem ama {a b:List UInt8} (ha:a.length=32) (hb:b.length=32):VT true [1,1,1,1,1,1,1,1,1,1,1,1,1,1,1,1,1,1,1,1,1,1,1,1,1,1,1,1,1,1,1,1] (.agg (aP a)) (.agg (aP b))=some (.bool (a != b)):=by
 have:=adZ 32 a b ha hb;rw[show List.replicate 32 1=[1,1,1,1,1,1,1,1,1,1,1,1,1,1,1,1,1,1,1,1,1,1,1,1,1,1,1,1,1,1,1,1] from rfl]at this;rw[P0,this];rfl
theorem N9 {T:Table} {base f:Nat} {vs:List PV} {H:Hp} {v:PV} (hc:ai T base f vs H=some (v,H)):gu (ai T base) f vs H=some (v,H):=by
 rw[Dz,hc,Option.ag,iP]
theorem aht {o:Own} (ho:Nf o) (l:List UInt8) (hl:l.length≤1000000) (base:Nat):ai T base 69 [.sl .full 1 [.sl o 1 (aP l)]] h=some (.agg (aP (Rg l)),h):=by
 have:=aeB (h:=h) (v0:=.sl .full 1 [.sl o 1 (aP l)]) (ps:=[(o,l)]) rfl (fun i p hp=>by
  have hi:i=0:=by
   cases i with
   | zero=>rfl
   | succ i=>simp at hp
  subst hi;have hpe:(o,l)=p:=by simpa using hp
  subst hpe;rfl) (fun p hp=>by simp at hp;subst hp;exact ho) (by simp) (by simp;omega) base
 simpa using this
theorem aec (base:Nat) {o:Own} (ho:Nf o) (l:List UInt8) (hl:l.length≤800000):ai T base 24 [.sl o 1 (aP l)] h=some (.cC [.agg (ct (DT l).1),.int .i64 ((DT l).2:Int)],h):=by
 have e0:cG false (.sl o 1 (aP l))=some (.int .i64 (l.length:Int)):=by rw[fA,aM]
 have hb:dw (ct iS) []=some (.agg (ct iS)):=rfl;have z32:iS.dg.length=32:=rfl;have d32:=G0 l;have r1:=fun(H:Hp)=>Km (h:=H) (size h) o l hl
 have f53:=fun H=>ff (h:=h) (x:=iS) H 53;have f51:=fun H=>ff (h:=h) (x:=iS) H 51
 have f0:=fun x H=>ff (h:=h) (x:=x) H 0
 simp only[show((53:Nat):Int)=53 from rfl,show((51:Nat):Int)=51 from rfl,show((0:Nat):Int)=0 from rfl]at f53 f51 f0;unfold DT;rw[S24,←jR,eo];simp only[r1,tW,tX,fk1,ft1 z32 d32,U0,Option.ag,az]
 by_cases he:(cA l).2≠0
 ·rw[if_pos he,decide_eq_true he,aR]
  simp only[hb,ft0 z32 z32,fr0 z32,ff,Option.ag]
 ·rw[if_neg he,decide_eq_false he,aL]
  have HL:=Rw (Classical.not_not.1 he);have sb:binOp .sub (.int .i64 (l.length:Int)) (.int .i64 64)=some (.int .i64 ((l.length-64:Nat):Int)):=by
   show some (PV.int .i64 (IntKind.i64.wrap ((l.length:Int)-64)))=_;rw[wrap_small (by omega) (by omega)];congr 2;omega
  have ldz:(ct (cA l).1)[1]?=some (.int .i64 ((cA l).1.size:Int)):=rfl;have nz:binOp .neq (.int .i64 ((l.length-64:Nat):Int)) (.int .i64 ((cA l).1.size:Int))=some (.bool (decide (l.length≠64+(cA l).1.size))):=by
   show some (PV.bool (!(((l.length-64:Nat):Int) == ((cA l).1.size:Int))))=_
   by_cases hq:l.length=64+(cA l).1.size
   ·rw[show(((l.length-64:Nat):Int) == ((cA l).1.size:Int))=true by rw[beq_iff_eq];omega,decide_eq_false (by omega)];rfl
   ·rw[show(((l.length-64:Nat):Int) == ((cA l).1.size:Int))=false from beq_false_of_ne (by omega),decide_eq_true hq];rfl
  simp only[e0,sb,nQ,fl1,ldz,nz,Option.ag]
  by_cases hs:l.length≠64+(cA l).1.size
  ·rw[if_pos hs,decide_eq_true hs,aR]
   simp only[hb,ft0 z32 z32,fr0 z32,f53,Option.ag];rfl
  ·rw[if_neg hs,decide_eq_false hs,aL]
   have be:oY l.length l.length none=some l.length:=rfl;have bl:oY l.length 0 (some (.int .i64 ((64:Nat):Int)))=some 64:=(jd _ _ _).trans (gQ _ .i64 _ HL);obtain⟨o1,p1,s1⟩:=slc (o:=o) l bl be;rw[List.take_of_length_le (by rw[List.length_drop];exact Nat.le_refl _)]at s1;simp only[show((64:Nat):Int)=64 from rfl]at s1;have bs:cF 1 false [.bn] 1 [(0,strip (.sl o1 1 (aP (l.drop 64))))]=some (.sl .full 1 [.sl o1 1 (aP (l.drop 64))]):=by
    have hst:strip (.sl o1 1 (aP (l.drop 64)))=.sl o1 1 (aP (l.drop 64)):=by
     rcases p1 with rfl | rfl<;>rfl
    rw[hst];rfl
   have sm:=fun H=>N9 (aht (h:=H) p1 (l.drop 64) (by rw[List.length_drop];omega) (size h))
   simp only[s1,bs,sm,fd1 d32,ama (kP _) d32,if_true,Option.ag,az]
   by_cases hd:Rg (l.drop 64)≠(cA l).1.dg
   ·rw[if_pos hd,show(Rg (l.drop 64) != (cA l).1.dg)=true from by rw[bne,beq_false_of_ne hd];rfl,aR]
    simp only[hb,ft0 z32 z32,fr0 z32,f51,Option.ag];rfl
   ·rw[if_neg hd,show(Rg (l.drop 64) != (cA l).1.dg)=false from by rw[Classical.not_not.1 hd,bne,beq_self_eq_true];rfl,aL]
    simp only[fa1 d32,ft0 z32 d32,fr0 d32,f0,Option.ag];rfl
end Go.Am.Qd
namespace Go.Am.Qd
variable {h:Hp}
def kQ (s:List UInt8):List UInt8:=s++List.replicate (16-s.length) 0
def sQ (x:qv):List UInt8:=bk++br x.cv++br (BitVec.ofNat 32 x.size)
def lM (x:qv):List UInt8:=sQ x++kQ x.name++x.dg
def eA (x:qv):List UInt8:=lM x++br (mJ (lM x))
theorem lN {s:List UInt8} (hs:s.length≤16):(kQ s).length=16:=by simp[kQ];omega
theorem tY (x:qv):(sQ x).length=12:=rfl
theorem Cs {x:qv} (hs:x.name.length≤16) (hd:x.dg.length=32):(lM x).length=60:=by
 simp only[lM,List.length_append,tY,lN hs,hd]
theorem m6 {x:qv} (hs:x.name.length≤16) (hd:x.dg.length=32):(eA x).length=64:=by
 rw[eA,List.length_append,Cs hs hd];rfl
theorem kW {s:List UInt8} (hs:cK s=true):s.length≤16:=by
 simp only[cK,Bool.and_eq_true,decide_eq_true_eq]at hs;exact hs.1.2
theorem G3 (a:List UInt8) (c:UInt8):aP a++[.int .u8 ((c.toNat:Nat):Int)]=aP (a++[c]):=by simp[aP]
theorem abN {H:Hp} {v:PV} {l:List UInt8} (hk:GK h H v (aP l)) (g:Hp):Rd (ext H g) v l:=by
 obtain⟨g',rfl,h1,h2,h3⟩:=hk;rcases h3 with⟨h3,rfl | rfl⟩ | ⟨b,hb1,rfl,hb2⟩
 ·have hl:=ql.1 h3;subst hl
  exact⟨rfl,fun k i c hc=>by simp at hc,rfl,.inr rfl⟩
 ·have hl:=ql.1 h3;subst hl
  exact jQ (.inr rfl) []
 ·rw[aM]
  exact sP (by rw[aX (bw (bq hb2))];exact hb2)
theorem G4 {n:Nat} {H g:Hp} (hn:n≤size H):vI n H (ext H g):=⟨hn,by simp only[bJ,ext,size]at *;rw[List.take_append_of_le_length hn]⟩
theorem LV {n:Nat} {H:Hp} {l:List UInt8} (hn:n≤size H):vI n H (BE H l):=by
 unfold BE;split
 ·exact⟨hn,rfl⟩
 ·exact G4 hn
section
variable {x:qv} (hs:x.name.length≤16) (hd:x.dg.length=32)
include hs hd
theorem Ct:∀ (m i:Nat) {H:Hp} {v:PV},i+m=32→GK (ext h [.cells (ct x)]) H v (aP (sQ x++kQ x.name++x.dg.take i)) →
  Lq (size h) (size h) (.int .i64 (i:Int)) (.ptr (size h) 0) v H=some (.cC [BC (eA x),.int .i64 0],h)
 | 0,i,H,v,hi,hk=>by
  obtain rfl:i=32:=by omega
  rw[List.take_of_length_le (by omega)]at hk;have hsl:=Kh (h:=H) (v:=v) (l:=lM x) (abN hk) (by rw[Cs hs hd];omega) (size h);obtain⟨g,rfl,_⟩:=hk;rw[Gg,show binOp .lss (.int .i64 ((32:Nat):Int)) (.int .i64 32)=some (.bool false) from rfl,Option.ag,aL,hsl,az];have hne:¬ (lM x++br (mJ (lM x))=[]):=fun q=>by
   have:=congrArg List.length q;rw[List.length_append]at this;simp[br]at this
  have he:BC (lM x++br (mJ (lM x)))=.sl .no 1 (aP (eA x)):=if_neg hne;have he2:BC (eA x)=.sl .no 1 (aP (eA x)):=if_neg hne;rw[he,he2,bZ,ee,IQ,Option.ag,ee,rR,Option.ag,jL,Option.ag,Option.ag,Option.ag,fz,cH];have hb:belows (size h) [.sl .no 1 (aP (eA x)),.int .i64 0]=true:=by
   show(belows (size h) (aP (eA x))&&_)=true;rw[mu];rfl
  exact if_pos hb
 | m+1,i,H,v,hi,hk=>by
  have h1:binOp .lss (.int .i64 (i:Int)) (.int .i64 32)=some (.bool true):=by
   show some (PV.bool (decide ((i:Int)<32)))=_;rw[decide_eq_true (by omega)]
  have w1:IntKind.i64.wrap ((i:Int)+1)=((i+1:Nat):Int):=fm i (by omega);have ad:binOp .add (.int .i64 (i:Int)) (.int .i64 1)=some (.int .i64 ((i+1:Nat):Int)):=by rw[←w1];rfl
  have hlt:i<x.dg.length:=by omega
  have ip:=HM 1 (size h) 3 i 32 (by omega);rw[Nat.mul_one]at ip;obtain⟨g,hH,_⟩:=id hk;have hg:ay H (size h)=some (ct x):=by rw[hH,aX (by rw[aW];simp),aQ];rfl
  have ld:ax 1 false (.ptr (size h) (3+i)) H=some (.int .u8 ((x.dg[i].toNat:Nat):Int)):=by
   rw[dL hg,Nat.add_comm 3 i];show(aP x.dg)[i]?=_;rw[pZ,List.getElem?_eq_getElem hlt];rfl
  obtain⟨v',H',e1,e2⟩:=hk.app (size h) (o:=.full) (xs:=[.int .u8 ((x.dg[i].toNat:Nat):Int)]) rfl rfl (by rw[aM,List.length_append,List.length_append,tY,lN hs,List.length_take];simp;omega) (by simp);have e3:aP (sQ x++kQ x.name++x.dg.take i)++[.int .u8 ((x.dg[i].toNat:Nat):Int)]=aP (sQ x++kQ x.name++x.dg.take (i+1)):=by
   rw[←List.take_append_getElem hlt,←List.append_assoc,G3]
  rw[e3]at e2;rw[Gg];simp only[h1,aR,nQ,ip,ld,DP,e1,ad,Option.ag,az];exact Ct m (i+1) (by omega) e2
theorem rC:∀ (m i:Nat) {H:Hp} {v:PV},i+m=16→GK (ext h [.cells (ct x)]) H v (aP (sQ x++(kQ x.name).take i)) →
  Ge (size h) (size h) (.int .i64 (i:Int)) (.ptr (size h) 0) v H=some (.cC [BC (eA x),.int .i64 0],h)
 | 0,i,H,v,hi,hk=>by
  obtain rfl:i=16:=by omega
  rw[List.take_of_length_le (by rw[lN hs];omega)]at hk;rw[Gf,show binOp .lss (.int .i64 ((16:Nat):Int)) (.int .i64 16)=some (.bool false) from rfl,Option.ag,aL];exact Ct hs hd 32 0 (by omega) (by rw[List.take_zero,List.append_nil];exact hk)
 | m+1,i,H,v,hi,hk=>by
  have h1:binOp .lss (.int .i64 (i:Int)) (.int .i64 16)=some (.bool true):=by
   show some (PV.bool (decide ((i:Int)<16)))=_;rw[decide_eq_true (by omega)]
  have w1:IntKind.i64.wrap ((i:Int)+1)=((i+1:Nat):Int):=fm i (by omega);have ad:binOp .add (.int .i64 (i:Int)) (.int .i64 1)=some (.int .i64 ((i+1:Nat):Int)):=by rw[←w1];rfl
  have hlt:i<(kQ x.name).length:=by rw[lN hs];omega
  obtain⟨g,hH,_⟩:=id hk;have hg:ay H (size h)=some (ct x):=by rw[hH,aX (by rw[aW];simp),aQ];rfl
  have ld:ax 1 false (.ptr (size h) 2) H=some (.str x.name):=by rw[dL hg];rfl
  have ll:cG true (.str x.name)=some (.int .i64 (x.name.length:Int)):=rfl;have lc:binOp .lss (.int .i64 (i:Int)) (.int .i64 (x.name.length:Int))=some (.bool (decide (i<x.name.length))):=by
   show some (PV.bool (decide ((i:Int)<(x.name.length:Int))))=_;congr 2;exact decide_eq_decide.2 (by omega)
  obtain⟨v',H',e1,e2⟩:=hk.app (size h) (o:=.full) (xs:=[.int .u8 (((kQ x.name)[i].toNat:Nat):Int)]) rfl rfl (by rw[aM,List.length_append,tY,List.length_take];simp;omega) (by simp);have e3:aP (sQ x++(kQ x.name).take i)++[.int .u8 (((kQ x.name)[i].toNat:Nat):Int)]=aP (sQ x++(kQ x.name).take (i+1)):=by
   rw[←List.take_append_getElem hlt,←List.append_assoc,G3]
  rw[e3]at e2;rw[Gf]
  by_cases hin:i<x.name.length
  ·have hp:(kQ x.name)[i]=x.name[i]:=List.getElem_append_left hin
   have ix:lW (.str x.name) (.int .i64 (i:Int))=some (.int .u8 (((kQ x.name)[i].toNat:Nat):Int)):=by
    rw[oI,iZ .i64 i _ hin,Option.ag,List.getElem?_eq_getElem hin,hp];rfl
   simp only[h1,aR,nQ,ld,ll,lc,decide_eq_true hin,ix,DP,e1,ad,Option.ag,az];exact rC m (i+1) (by omega) e2
  ·have hp:(kQ x.name)[i]=0:=by
    have hlt2:i<(x.name++List.replicate (16-x.name.length) (0:UInt8)).length:=hlt;have:(x.name++List.replicate (16-x.name.length) (0:UInt8))[i]=0:=by
     rw[List.getElem_append_right (by omega),List.getElem_replicate]
    exact this
   have o8:=DP 0;rw[hp]at e1;simp only[show(((0:UInt8).toNat:Nat):Int)=0 from rfl]at o8 e1;simp only[h1,aR,aL,nQ,ld,ll,lc,decide_eq_false hin,o8,e1,ad,Option.ag,az];exact rC m (i+1) (by omega) e2
end
theorem G5 (base:Nat) {x:qv} (hn:cK x.name=true) (hz:x.size≤1048576) (hd:x.dg.length=32):ai T base 83 [.agg (ct x)] h=some (.bool true,h):=by
 have bx:tF 35 (.agg (ct x)) h=some (.ptr (size h) 0,ext h [.cells (ct x)]):=by
  rw[qg];exact if_pos ⟨eE hd,tV x⟩
 have hg:ay (ext h [.cells (ct x)]) (size h)=some (ct x):=by rw[aQ];rfl
 have l2:ax 1 false (.ptr (size h) 2) (ext h [.cells (ct x)])=some (.str x.name):=by rw[dL hg];rfl
 have l1:ax 1 false (.ptr (size h) 1) (ext h [.cells (ct x)])=some (.int .i64 (x.size:Int)):=by rw[dL hg];rfl
 have hnm:=vv (h:=ext h [.cells (ct x)]) (size h) x.name;rw[hn]at hnm;have g1:binOp .geq (.int .i64 (x.size:Int)) (.int .i64 0)=some (.bool true):=by
  show some (PV.bool (decide ((x.size:Int)≥0)))=_;rw[decide_eq_true (by omega)]
 have g2:binOp .leq (.int .i64 (x.size:Int)) (.int .i64 1048576)=some (.bool true):=by
  show some (PV.bool (decide ((x.size:Int)≤1048576)))=_;rw[decide_eq_true (by omega)]
 rw[S83];simp only[bx,nQ,l2,hnm,l1,g1,g2,cH,↓jV,jX,jY,jZ,simprocAttr,if_true,if_false,implies_true,forall_const]
theorem G6 (base:Nat) {x:qv} (hn:cK x.name=true) (hz:x.size≤1048576) (hd:x.dg.length=32):ai T base 50 [.agg (ct x)] h=some (.cC [BC (eA x),.int .i64 0],h):=by
 have hs:=kW hn;have bx:tF 35 (.agg (ct x)) h=some (.ptr (size h) 0,ext h [.cells (ct x)]):=by
  rw[qg];exact if_pos ⟨eE hd,tV x⟩
 have OI:∀ X:gT,size (ext h [X])=size h+1:=fun X=>by rw[aW];rfl
 have sz2:∀ X Y:gT,size (ext h [X,Y])=size h+2:=fun X Y=>by rw[aW];rfl
 have hg:∀ g,ay (ext (ext h [.cells (ct x)]) g) (size h)=some (ct x):=fun g=>by rw[aX (by rw[aW];simp),aQ];rfl
 have la:ax 35 true (.ptr (size h) 0) (ext h [.cells (ct x)])=some (.agg (ct x)):=ry (by have:=hg [];rwa [ext_nil]at this) (eE hd);have hr:=G5 (h:=ext h [.cells (ct x)]) (size h) hn hz hd;have sb1:rL (size h) 1 (ext h [.cells (ct x)]) (.fC [(.int .u8 79),(.int .u8 84),(.int .u8 80),(.int .u8 88)]) []=some (.bW true (size h+1) 0 4 1,ext (ext h [.cells (ct x)]) [.cells (aP bk)]):=by
  rw[Qn,jI,OI,Option.ag,if_pos (G4 (by rw[OI];exact Nat.le_refl _))];rfl
 have gm:∀ g,ay (ext (ext (ext h [.cells (ct x)]) [.cells (aP bk)]) g) (size h+1)=some (aP bk):=fun g=>by
  rw[aX (by rw[aW,OI];simp),←OI (.cells (ct x)),aQ];rfl
 have mk:cU (size h) (ext (ext h [.cells (ct x)]) [.cells (aP bk)]) .mark [.bW true (size h+1) 0 4 1]=some (.bW true (size h+1) 0 4 1,ext (ext h [.cells (ct x)]) [.cells (aP bk)]):=by
  have:=gm [];rw[ext_nil]at this;rw[qi,this];rfl
 -- the two numbers
 have q1:∀ (n:BitVec 32),oG (ai T (size h)) (size h+1) 84 [.bW true (size h+1) 0 4 1,uV n] (ext (ext h [.cells (ct x)]) [.cells (aP bk)])=some (.bW false (size h+2) 0 8 1,ext (ext h [.cells (ct x)]) [.cells (aP bk),.cells (aP (bk++br n))]):=fun n=>by
  have hp:=tT (h:=ext (ext h [.cells (ct x)]) [.cells (aP bk)]) (v:=.bW true (size h+1) 0 4 1) (l:=bk) (fun g=>sP (l:=bk) (gm g)) (by decide) (size h) n;have hne:¬ (bk++br n=[]):=by simp[bk]
  have e1:GP (ext (ext h [.cells (ct x)]) [.cells (aP bk)]) (bk++br n)=.bW false (size h+2) 0 8 1:=by
   rw[GP,if_neg hne,aW,OI];rfl
  have e2:BE (ext (ext h [.cells (ct x)]) [.cells (aP bk)]) (bk++br n)=ext (ext h [.cells (ct x)]) [.cells (aP bk),.cells (aP (bk++br n))]:=by
   rw[BE,if_neg hne,fz];rfl
  have hlo:=LV (n:=size h+1) (H:=ext (ext h [.cells (ct x)]) [.cells (aP bk)]) (l:=bk++br n) (by rw[aW,OI];simp);rw[e1,e2]at hp;rw[e2]at hlo;exact Ld hp hlo
 have g2:∀ (n:BitVec 32) g,ay (ext (ext (ext h [.cells (ct x)]) [.cells (aP bk),.cells (aP (bk++br n))]) g) (size h+2)=some (aP (bk++br n)):=fun n g=>by
  rw[aX (by rw[aW,OI];simp),show size h+2=size (ext h [.cells (ct x)])+1 by rw[OI],eZ];rfl
 have q2:∀ (n k:BitVec 32),oG (ai T (size h)) (size h+1) 84 [.bW false (size h+2) 0 8 1,uV k] (ext (ext h [.cells (ct x)]) [.cells (aP bk),.cells (aP (bk++br n))]) =
   some (.bW false (size h+3) 0 12 1,ext (ext h [.cells (ct x)]) [.cells (aP bk),.cells (aP (bk++br n)),.cells (aP (bk++br n++br k))]):=fun n k=>by
  have hp:=tT (h:=ext (ext h [.cells (ct x)]) [.cells (aP bk),.cells (aP (bk++br n))]) (v:=.bW false (size h+2) 0 8 1) (l:=bk++br n) (fun g=>sP (l:=bk++br n) (g2 n g)) (by show 8≤800000;decide) (size h) k;have hne:¬ (bk++br n++br k=[]):=by simp[bk]
  have e1:GP (ext (ext h [.cells (ct x)]) [.cells (aP bk),.cells (aP (bk++br n))]) (bk++br n++br k)=.bW false (size h+3) 0 12 1:=by
   rw[GP,if_neg hne,aW,OI];rfl
  have e2:BE (ext (ext h [.cells (ct x)]) [.cells (aP bk),.cells (aP (bk++br n))]) (bk++br n++br k)=ext (ext h [.cells (ct x)]) [.cells (aP bk),.cells (aP (bk++br n)),.cells (aP (bk++br n++br k))]:=by
   rw[BE,if_neg hne,fz];rfl
  have hlo:=LV (n:=size h+1) (H:=ext (ext h [.cells (ct x)]) [.cells (aP bk),.cells (aP (bk++br n))]) (l:=bk++br n++br k) (by rw[aW,OI];simp);rw[e1,e2]at hp;rw[e2]at hlo;exact Ld hp hlo
 have l0:∀ g,nK (size h+1) 1 false (.ptr (size h) 0) (ext (ext h [.cells (ct x)]) g)=some (uV x.cv):=fun g=>by
  rw[rq,if_pos (by omega),dL (hg g)];rfl
 have l1:∀ g,nK (size h+1) 1 false (.ptr (size h) 1) (ext (ext h [.cells (ct x)]) g)=some (.int .i64 (x.size:Int)):=fun g=>by
  rw[rq,if_pos (by omega),dL (hg g)];rfl
 have t32:cu (.int .i64 (x.size:Int)) .u32=some (uV (BitVec.ofNat 32 x.size)):=by
  show some (PV.int .u32 (IntKind.u32.wrap (x.size:Int)))=_;have hw:IntKind.u32.wrap (x.size:Int)=(x.size:Int):=by
   simp only[IntKind.wrap,IntKind.signed,IntKind.bits,Bool.false_and,Bool.false_eq_true,if_false];omega
  rw[hw];show _=some (PV.int .u32 (((BitVec.ofNat 32 x.size).toNat:Nat):Int));rw[BitVec.toNat_ofNat,Nat.mod_eq_of_lt (by omega)]
 rw[S50];simp only[bx,la,hr,show unOp .not (.bool true)=some (.bool false) from rfl,sb1,mk,nQ,l0,l1,q1,t32,q2,aL,Option.ag,az];refine rC hs hd 16 0 (by omega) ?_;rw[List.take_zero,List.append_nil];refine⟨_,rfl,gJ _,mu _ _,.inr ⟨size h+3,by rw[OI];omega,rfl,?_⟩⟩;rw[show size h+3=size (ext h [.cells (ct x)])+2 by rw[OI],eZ];rfl
end Go.Am.Qd
namespace Go.Am.Qd
variable {h:Hp} {p:FP} {F:Fl} {jb qa qb:Nat}
theorem G7 (k:Nat) (v:Option (List UInt8)):∀ (vs:Vs) (e:Nat × Option (List UInt8)),e∈gK vs k v→e=(k,v)∨e∈vs
 | [],e,he=>.inl (by simpa[gK] using he)
 | e0::r,e,he=>by
  simp only[gK]at he;split at he
  ·rcases List.mem_cons.1 he with rfl | he
   ·exact .inl rfl
   ·exact .inr (by simp[he])
  ·rcases List.mem_cons.1 he with rfl | he
   ·exact .inr (by simp)
   ·rcases G7 k v r e he with h1 | h1
    ·exact .inl h1
    ·exact .inr (by simp[h1])
theorem Cu (k:Nat) (v:Option (List UInt8)):∀ (vs:Vs),(gK vs k v).map (·.1)=if k∈vs.map (·.1) then vs.map (·.1) else vs.map (·.1)++[k]
 | []=>by simp[gK]
 | e0::r=>by
  have ih:=Cu k v r;simp only[gK]
  by_cases h0:e0.1=k
  ·rw[if_pos h0,if_pos (by simp[h0])]
   simp[h0]
  ·rw[if_neg h0,List.map_cons,ih]
   by_cases h1:k∈r.map (·.1)
   ·rw[if_pos h1,if_pos (by simp only[List.map_cons,List.mem_cons];exact .inr h1)];rfl
   ·have h2:¬ k∈(e0::r).map (·.1):=by
     simp only[List.map_cons,List.mem_cons];rintro(q | q)
     ·exact h0 q.symm
     ·exact h1 q
    rw[if_neg h1,if_neg h2];rfl
theorem Keyed.gK {vs:Vs} (hk:Keyed vs) (k:Nat) (v:Option (List UInt8)):Keyed (gK vs k v):=by
 unfold Keyed at *;rw[Cu];split
 ·exact hk
 ·rename_i hn
  rw[List.nodup_append];exact⟨hk,by simp,by rintro a ha b hb;simp only[List.mem_singleton]at hb;subst hb;rintro rfl;exact hn ha⟩
theorem Cv:∀ (n:Nat) (l:List Nat),l.Nodup→(∀ x∈l,x<n)→l.length≤n
 | 0,l,hn,hl=>by
  cases l with
  | nil=>simp
  | cons x r=>have:=hl x (by simp);omega
 | n+1,l,hn,hl=>by
  have h1:=Cv n (l.erase n) (hn.erase n) fun x hx=>by
   have:=(hn.mem_erase_iff).1 hx;have:=hl x this.2;omega
  rw[List.length_erase]at h1;split at h1<;>omega
theorem Oa {vs:Vs} (hk:Keyed vs) (hs:∀ e∈vs,e.1<32):vs.length≤32:=by
 have h1:=Cv 32 (vs.map Prod.fst) hk (by
  intro x hx;obtain⟨e,he,rfl⟩:=List.mem_map.1 hx;exact hs e he)
 simpa using h1
theorem Small.gK {vs:Vs} (hs:Small vs) (hk:Keyed vs) {k:Nat} {v:Option (List UInt8)} (h1:k<32) (h2:(vB v).length≤250):Small (gK vs k v):=by
 have hm:∀ e∈Go.Am.Qd.gK vs k v,e.1<32∧(vB e.2).length≤250:=by
  intro e he;rcases G7 k v vs e he with rfl | he
  ·exact⟨h1,h2⟩
  ·exact hs.2 e he
 exact⟨Oa (hk.gK k v) fun e he=>(hm e he).1,hm⟩
theorem G8 (k:Int):∀ (vs:Vs) (e:Nat × Option (List UInt8)),e∈lS vs k→e∈vs
 | [],e,he=>by simp[lS]at he
 | e0::r,e,he=>by
  simp only[lS]at he;split at he
  ·simp[he]
  ·rcases List.mem_cons.1 he with rfl | he
   ·simp
   ·simp[G8 k r e he]
theorem AL (k:Int):∀ (vs:Vs),((lS vs k).map (·.1)).Sublist (vs.map (·.1))
 | []=>by simp[lS]
 | e0::r=>by
  simp only[lS];split
  ·simp
  ·simp only[List.map_cons];exact(AL k r).cons_cons _
theorem Keyed.lS {vs:Vs} (hk:Keyed vs) (k:Int):Keyed (lS vs k):=List.Nodup.sublist (AL k vs) hk
theorem Small.lS {vs:Vs} (hs:Small vs) (k:Int):Small (lS vs k) :=
 ⟨by have:=(AL k vs).length_le;simp only[List.length_map]at this;have:=hs.1;omega,fun e he=>hs.2 e (G8 k vs e he)⟩
structure JS (h:Hp) (p:FP) (F:Fl) (jb qa qb sz m:Nat) (J:Jn) (vs:Vs):Prop where
 ok:Bb h p jb qa qb
 map:bR h m=some (pK vs)
 nm:m≠p.f∧m≠p.bb∧m≠p.wb
 mj:m≠jb
 small:Small vs
 keyed:Keyed vs
 fl:Fq F sz
 now:J.now≤1
 fin:J.fin≤sz
theorem Bb.ext (hj:Bb h p jb qa qb) (l:Hp):Bb (Go.Am.ext h l) p jb qa qb :=
 ⟨hj.fo.ext l,hj.pa.ext l,hj.pb.ext l,by rw[aW];have:=hj.lj;omega,hj.j1,hj.j2,hj.j3,hj.ja,hj.jq⟩
theorem m7 (hj:Bb h p jb qa qb) (cs:List PV) (l:Hp):ext (dZ h p F jb cs) l=dZ (ext h l) p F jb cs:=by
 unfold dZ;rw[Aa (hj.fs cs),aaD hj.lj]
theorem Bb.new (hj:Bb h p jb qa qb):size h≠p.f∧size h≠p.bb∧size h≠p.wb∧size h≠jb :=
 ⟨by have:=hj.fo.lf;omega,by have:=hj.fo.lb;omega,by have:=hj.fo.lw;omega,by have:=hj.lj;omega⟩
theorem aem (hj:Bb h p jb qa qb) (cs:List PV) (x y:gT):aC (dZ (ext h [x]) p F jb cs) (size h) y=dZ (ext h [y]) p F jb cs:=by
 obtain⟨n1,n2,n3,n4⟩:=hj.new;unfold dZ;rw[Ab ((hj.ext _).fs cs) n1 n2 n3];congr 1;refine pI (by simp[aJ,aW]) fun n=>?_
 simp only[nM,aJ,aW,List.length_singleton]
 by_cases h1:size h=n
 ·subst h1
  rw[if_pos rfl,if_pos (by omega),if_neg (Ne.symm n4),cJ rfl]
 ·rw[if_neg h1]
  by_cases h2:jb=n
  ·rw[if_pos h2,if_pos h2]
  ·rw[if_neg h2,if_neg h2]
   by_cases h3:n<size h
   ·rw[dP h3,dP h3]
   ·simp only[bX,ext,size]at *
    rw[List.getElem?_eq_none (by simp;omega),List.getElem?_eq_none (by simp;omega)]
theorem aen (hj:Bb h p jb qa qb) (cs:List PV) (es:List (PV × PV)):bR (ext h [.map es]) (size h)=some es∧bR (dZ (ext h [.map es]) p F jb cs) (size h)=some es:=by
 obtain⟨n1,n2,n3,n4⟩:=hj.new;have h1:bR (ext h [.map es]) (size h)=some es:=by rw[bR,cJ rfl];rfl
 refine⟨h1,?_⟩;rw[dZ,FM ((hj.ext _).fs cs) n1 n2 n3,jD (Ne.symm n4),h1]
/-! ### 'amR -/
def cl (v:PV) (l:List UInt8):Option (List UInt8):=if v=.bn then none else some l
theorem aup {v:PV} {l:List UInt8} (hv:Bv v l):vB (cl v l)=l:=by
 unfold cl;split
 ·rename_i hq
  subst hq;have:=hv.len;simp only[Mp,Option.some.injEq,PV.int.injEq,true_and]at this;have:l.length=0:=by omega
  rw[List.eq_nil_of_length_eq_zero this];rfl
 ·rfl
theorem clQ {H:Hp} (base:Nat) {v:PV} {l:List UInt8} (hv:Bv v l) (hn:jj 1 v=some false∨v=.bn) (hl:l.length≤1000000):gu (ai T base) 73 [v] H=some (vV (cl v l),H):=by
 unfold cl;split
 ·rename_i hq
  subst hq;rw[Dz,J1,Option.ag,iP];rfl
 ·rename_i hq
  exact adK base (hn.resolve_right hq) (hv.el H) hl
theorem apE {H:Hp} (base:Nat) (k:Nat) {v:PV} {l:List UInt8} (hv:Rd H v l) (hl:l.length≤700000) (dr:Bool) :
  gu (ai T base) 119 [.int .i64 (k:Int),v,.bool dr] H=some (.sl .no 1 (aP (dD (UInt8.ofNat k) l dr)),H):=by
 rw[Dz,acZ base k hv hl dr,Option.ag,iP]
section
variable {sz m:Nat} {J:Jn} {vs:Vs} (hs:JS h p F jb qa qb sz m J vs)
include hs
theorem JS.gm (cs:List PV):bR (dZ h p F jb cs) m=some (pK vs):=(abj (F:=F) hs.ok cs hs.map hs.nm hs.mj).2
theorem aeK (base:Nat) (key:Int) {v:PV} {l:List UInt8} (hv:cG false v=some (.int .i64 (l.length:Int))) (hf:aaZ F key l.length≠0) :
  ai T base 97 [.ptr jb 0,.int .i64 key,v] (dZ h p F jb (jC qa qb sz J m))=some (.int .i64 (aaZ F key l.length:Int),dZ h p F jb (jC qa qb sz J m)):=by
 have h1:=acw (F:=F) hs.ok base (m:=m) (sz:=sz) (J:=J) key hv;have d1:((aaZ F key l.length:Int) != 0)=true:=by simpa using hf
 rw[S97];simp only[h1,d1,↓jV,jX,jY,jZ,Nat.reduceAdd,Nat.reduceSub,Nat.reduceMul,Nat.reduceLeDiff,Nat.reduceLT,Nat.reduceEqDiff,Nat.reduceBEq,reduceIte,reduceCtorEq,Int.reduceBEq,Int.reduceEq,Int.reduceLT,Int.reduceLE,Int.reduceGT,Int.reduceGE,Int.reduceAdd,Int.reduceSub,Int.reduceNeg,Int.reduceBNe,ite_true,ite_false,if_true,if_false,implies_true,forall_const]
theorem ahu {base:Nat} (hb:base≤jb) {k:Nat} {v:PV} {l:List UInt8} (hv:Bv v l) (hn:jj 1 v=some false∨v=.bn) (hf:aaZ F k l.length=0) (hg:∀ u,cO vs k=some u→vB u≠l) :
  ai T base 97 [.ptr jb 0,.int .i64 (k:Int),v] (dZ h p F jb (jC qa qb sz J m)) =
   some (.int .i64 ((F.gh sz J (dD (UInt8.ofNat k) l false) (gK vs k (cl v l))).1:Nat),dZ (ext h [.map (pK (gK vs k (cl v l)))]) p (F.gh sz J (dD (UInt8.ofNat k) l false) (gK vs k (cl v l))).2.1 jb
    (match (F.gh sz J (dD (UInt8.ofNat k) l false) (gK vs k (cl v l))).2.2 with | none=>jC qa qb sz J m | some J'=>jC qa qb sz J' (size h))):=by
 have h1:=acw (F:=F) hs.ok base (m:=m) (sz:=sz) (J:=J) (k:Int) hv.len;have d1:((aaZ F k l.length:Int) != 0)=false:=by simpa using hf
 have ae7:k<32∧l.length≤250:=by
  unfold aaZ at hf;split at hf
  ·omega
  ·split at hf
   ·omega
   ·split at hf<;>omega
 have gj:=fun(F:Fl) (cs:List PV)=>XS (F:=F) hs.ok cs
 have l6:(jC qa qb sz J m)[6]?=some (.eL m):=rfl;have hlk:=GX (h:=dZ h p F jb (jC qa qb sz J m)) base (hs.gm _) true (k:Int);have Kb:ai T base 117 [.eL m] (dZ h p F jb (jC qa qb sz J m))=some (.eL (size h),dZ (ext h [.map (pK vs)]) p F jb (jC qa qb sz J m)):=by
  rw[oH an6,Dh,hs.gm,Option.ag,Option.ag,dG hs.ok,m7 hs.ok]
 have hq:=clQ (H:=dZ (ext h [.map (pK vs)]) p F jb (jC qa qb sz J m)) base hv hn (by omega);have hup:=adR (h:=dZ (ext h [.map (pK vs)]) p F jb (jC qa qb sz J m)) base (m:=size h) (vs:=vs) (aen hs.ok _ _).2 k (cl v l);rw[aem hs.ok]at hup;have hbd:=apE (H:=dZ (ext h [.map (pK (gK vs k (cl v l)))]) p F jb (jC qa qb sz J m)) base k (hv.rd hn) (by omega) false;obtain⟨n1,n2,n3,n4⟩:=hs.ok.new;have hw:=aeb (F:=F) (hs.ok.ext [.map (pK (gK vs k (cl v l)))]) hb (m:=m) (m':=size h) (J:=J) (aen (F:=F) hs.ok (jC qa qb sz J m) _).1 ⟨n1,n2,n3⟩ n4
  (hs.small.gK hs.keyed ae7.1 (by rw[aup hv];exact ae7.2)) (hs.keyed.gK k _) hs.fl hs.now hs.fin (vm (.inl rfl) (dD (UInt8.ofNat k) l false)) (by rw[eD];omega)
 rw[S97];cases hgv:cO vs k with
 | none =>
  have hlr:lkR true (cO vs k)=.cC [.bn,.bool false]:=by rw[hgv];rfl
  rw[hlr]at hlk;simp only[h1,d1,gj,l6,hlk,Kb,hq,hup,hbd,hw,↓jV,jX,jY,jZ,Nat.reduceAdd,Nat.reduceSub,Nat.reduceMul,Nat.reduceLeDiff,Nat.reduceLT,Nat.reduceEqDiff,Nat.reduceBEq,reduceIte,reduceCtorEq,Int.reduceBEq,Int.reduceEq,Int.reduceLT,Int.reduceLE,Int.reduceGT,Int.reduceGE,Int.reduceAdd,Int.reduceSub,Int.reduceNeg,Int.reduceBNe,ite_true,ite_false,if_true,if_false,implies_true,forall_const]<;>rfl
 | some u =>
  have hlr:lkR true (cO vs k)=.cC [vV u,.bool true]:=by rw[hgv];rfl
  rw[hlr]at hlk;have heq:=AG (h:=dZ h p F jb (jC qa qb sz J m)) base (al6 u) (hv.rd hn);have hbq:(vB u == l)=false:=by rw[beq_eq_false_iff_ne];exact hg u hgv
  rw[hbq]at heq;simp only[h1,d1,gj,l6,hlk,heq,Kb,hq,hup,hbd,hw,↓jV,jX,jY,jZ,Nat.reduceAdd,Nat.reduceSub,Nat.reduceMul,Nat.reduceLeDiff,Nat.reduceLT,Nat.reduceEqDiff,Nat.reduceBEq,reduceIte,reduceCtorEq,Int.reduceBEq,Int.reduceEq,Int.reduceLT,Int.reduceLE,Int.reduceGT,Int.reduceGE,Int.reduceAdd,Int.reduceSub,Int.reduceNeg,Int.reduceBNe,ite_true,ite_false,if_true,if_false,implies_true,forall_const]<;>rfl
end
end Go.Am.Qd
namespace Go.Am.Qd
variable {h:Hp} {p:FP} {F:Fl} {jb qa qb:Nat}
def RS (h:Hp) (p:FP) (jb:Nat) (v:PV) (l:List UInt8):Prop :=
 (Bv v l∧(jj 1 v=some false∨v=.bn))∨∃ b,v=.bW false b 0 l.length 1∧ay h b=some (aP l)∧b≠p.f∧b≠p.bb∧b≠p.wb∧b≠jb
theorem RS.ext {v:PV} {l:List UInt8} (hr:RS h p jb v l) (g:Hp):RS (Go.Am.ext h g) p jb v l:=by
 rcases hr with hr | ⟨b,h1,h2,h3⟩
 ·exact .inl hr
 ·exact .inr ⟨b,h1,by rw[aX (bw (bq h2))];exact h2,h3⟩
theorem XV {H:Hp} {b:Nat} {l:List UInt8} (hb:ay H b=some (aP l)):Rd H (.bW false b 0 l.length 1) l:=by
 refine⟨rfl,fun k i c hc=>?_,?_,.inl rfl⟩
 ·have hi:=(List.getElem?_eq_some_iff.1 hc).1
  refine⟨.ptr b (0+i*1),?_,?_⟩
  ·rw[tn,if_pos rfl,iZ k i _ hi,Option.ag]
  ·rw[ek,hb,Option.ag,part,if_neg (by simp),Nat.mul_one,Nat.zero_add,pZ,hc];rfl
 ·rw[mT,hb,Option.ag,if_pos ⟨by rw[aM];omega,by rw[sM];exact lJ _⟩,sM]
  simp
theorem RS.rd (hj:Bb h p jb qa qb) {v:PV} {l:List UInt8} (hr:RS h p jb v l) (cs:List PV):Rd (dZ h p F jb cs) v l:=by
 rcases hr with⟨h1,h2⟩ | ⟨b,h1,h2,n1,n2,n3,n4⟩
 ·exact h1.rd h2
 ·subst h1
  apply XV;rw[dZ,iQ (hj.fs cs) n1 n2 n3,bD (Ne.symm n4)];exact h2
section
variable {sz m:Nat} {J:Jn} {vs:Vs} (hs:JS h p F jb qa qb sz m J vs)
include hs
theorem Rx (base:Nat) (key:Int):∃ v g,ai T base 101 [.ptr jb 0,.int .i64 key] (dZ h p F jb (jC qa qb sz J m))=some (.cC [v,.bool (cO vs key).isSome],dZ (ext h g) p F jb (jC qa qb sz J m)) ∧
  RS (ext h g) p jb v (vB ((cO vs key).getD none))∧(forget (dZ h p F jb (jC qa qb sz J m)) (.cC [v,.bool (cO vs key).isSome],dZ (ext h g) p F jb (jC qa qb sz J m))=some (.cC [vV ((cO vs key).getD none),.bool (cO vs key).isSome],dZ h p F jb (jC qa qb sz J m))) ∧
  ((vB ((cO vs key).getD none)=[]∧Bv v []∧(jj 1 v=some false∨v=.bn)∧g=[])∨(v=.bW false (size h) 0 (vB ((cO vs key).getD none)).length 1∧g=[.cells (aP (vB ((cO vs key).getD none)))])):=by
 have gj:=fun(F:Fl) (cs:List PV)=>XS (F:=F) hs.ok cs
 have l6:(jC qa qb sz J m)[6]?=some (.eL m):=rfl;have hlk:=fun b=>GX (h:=dZ h p F jb (jC qa qb sz J m)) b (hs.gm _) true key
 have tr:=fun(F:Fl) (cs:List PV)=>XT (F:=F) hs.ok cs
 have hnil:∀ b,ai T b 73 [.bn] (dZ h p F jb (jC qa qb sz J m))=some (.bn,dZ h p F jb (jC qa qb sz J m)):=fun b=>J1 b
 have e0:ext h []=h:=by simp[ext]
 cases hgv:cO vs key with
 | none =>
  have hlr:lkR true (cO vs key)=.cC [.bn,.bool false]:=by rw[hgv];rfl
  rw[hlr]at hlk;refine⟨.bn,[],?_,.inl ⟨yf,.inr rfl⟩,by rw[e0,iP];rfl,.inl ⟨rfl,yf,.inr rfl,rfl⟩⟩;rw[TO,e0];simp only[dG hs.ok,gj,l6,hlk,hnil,tr,↓jV,jX,jY,jZ,Nat.reduceAdd,Nat.reduceSub,Nat.reduceMul,Nat.reduceLeDiff,Nat.reduceLT,Nat.reduceEqDiff,Nat.reduceBEq,reduceIte,reduceCtorEq,Int.reduceBEq,Int.reduceEq,Int.reduceLT,Int.reduceLE,Int.reduceGT,Int.reduceGE,Int.reduceAdd,Int.reduceSub,Int.reduceNeg,Int.reduceBNe,ite_true,ite_false,if_true,if_false,implies_true,forall_const]<;>rfl
 | some u =>
  have hlr:lkR true (cO vs key)=.cC [vV u,.bool true]:=by rw[hgv];rfl
  rw[hlr]at hlk;cases u with
  | none =>
   refine⟨.bn,[],?_,.inl ⟨yf,.inr rfl⟩,by rw[e0,iP];rfl,.inl ⟨rfl,yf,.inr rfl,rfl⟩⟩;rw[TO,e0];have e1:vV none=.bn:=rfl;rw[e1]at hlk;simp only[dG hs.ok,gj,l6,hlk,hnil,tr,↓jV,jX,jY,jZ,Nat.reduceAdd,Nat.reduceSub,Nat.reduceMul,Nat.reduceLeDiff,Nat.reduceLT,Nat.reduceEqDiff,Nat.reduceBEq,reduceIte,reduceCtorEq,Int.reduceBEq,Int.reduceEq,Int.reduceLT,Int.reduceLE,Int.reduceGT,Int.reduceGE,Int.reduceAdd,Int.reduceSub,Int.reduceNeg,Int.reduceBNe,ite_true,ite_false,if_true,if_false,implies_true,forall_const]<;>rfl
  | some l =>
   have Kb:=fun b=>Ax (h:=dZ h p F jb (jC qa qb sz J m)) b (v:=vV (some l)) (TP l) ((J0 l).el _) (by
    have:∀ e∈vs,(vB e.2).length≤250:=fun e he=>(hs.small.2 e he).2
    have hm:∃ e∈vs,e.2=some l:=by
     clear hlk hlr gj tr;have:=hgv;clear hgv;generalize vs=ws at this
     induction ws with
     | nil=>simp[cO]at this
     | cons e r ih =>
      simp only[cO]at this;split at this
      ·exact⟨e,by simp,Option.some.inj this⟩
      ·obtain⟨e',h1,h2⟩:=ih this
       exact⟨e',by simp[h1],h2⟩
    obtain⟨e,he,he2⟩:=hm;have:=this e he;rw[he2]at this;simp only[vB]at this;omega)
   by_cases h0:l=[]
   ·subst h0
    simp only[if_true]at Kb;refine⟨.sl .full 1 [],[],?_,.inl ⟨J0 [],.inl rfl⟩,by rw[e0,iP];rfl,.inl ⟨rfl,J0 [],.inl rfl,rfl⟩⟩;rw[TO,e0];simp only[dG hs.ok,gj,l6,hlk,Kb,tr,↓jV,jX,jY,jZ,Nat.reduceAdd,Nat.reduceSub,Nat.reduceMul,Nat.reduceLeDiff,Nat.reduceLT,Nat.reduceEqDiff,Nat.reduceBEq,reduceIte,reduceCtorEq,Int.reduceBEq,Int.reduceEq,Int.reduceLT,Int.reduceLE,Int.reduceGT,Int.reduceGE,Int.reduceAdd,Int.reduceSub,Int.reduceNeg,Int.reduceBNe,ite_true,ite_false,if_true,if_false,implies_true,forall_const]<;>rfl
   ·simp only[if_neg h0,dG hs.ok,m7 hs.ok]at Kb
    obtain⟨n1,n2,n3,n4⟩:=hs.ok.new;have Y8:ay (ext h [.cells (aP l)]) (size h)=some (aP l):=by rw[aQ];rfl
    have abP:ay (dZ (ext h [.cells (aP l)]) p F jb (jC qa qb sz J m)) (size h)=some (aP l):=by
     rw[dZ,iQ ((hs.ok.ext _).fs _) n1 n2 n3,bD (Ne.symm n4)];exact Y8
    have htr:bJ (dZ (ext h [.cells (aP l)]) p F jb (jC qa qb sz J m)) (size h)=dZ h p F jb (jC qa qb sz J m):=by
     rw[←m7 hs.ok];have:=cH (h:=dZ h p F jb (jC qa qb sz J m)) (l:=[.cells (aP l)]);rwa [dG hs.ok]at this
    refine⟨.bW false (size h) 0 l.length 1,[.cells (aP l)],?_,.inr ⟨size h,rfl,Y8,n1,n2,n3,n4⟩,?_,.inr ⟨rfl,rfl⟩⟩
    ·rw[TO]
     have hlt:¬ (size h<size h):=by omega
     simp only[dG hs.ok,gj,l6,hlk,Kb,abP,hlt,tR,htr,m7 hs.ok,Option.isSome_some,↓jV,jX,jY,jZ,Nat.reduceAdd,Nat.reduceSub,Nat.reduceMul,Nat.reduceLeDiff,Nat.reduceLT,Nat.reduceEqDiff,Nat.reduceBEq,reduceIte,reduceCtorEq,Int.reduceBEq,Int.reduceEq,Int.reduceLT,Int.reduceLE,Int.reduceGT,Int.reduceGE,Int.reduceAdd,Int.reduceSub,Int.reduceNeg,Int.reduceBNe,ite_true,ite_false,if_true,if_false,implies_true,forall_const]
    ·unfold forget
     have hne:¬ (dZ (ext h [.cells (aP l)]) p F jb (jC qa qb sz J m)=dZ h p F jb (jC qa qb sz J m)):=by
      intro hq;have:=congrArg size hq;rw[dG (hs.ok.ext _),dG hs.ok,aW]at this;simp at this
     rw[if_neg hne];have hfz:=LB (h:=dZ h p F jb (jC qa qb sz J m)) (g:=dZ (ext h [.cells (aP l)]) p F jb (jC qa qb sz J m)) (size h) l (by rw[dG hs.ok];omega) abP;simp only[KT,fM,hfz,yY,Option.ag];rw[if_pos ⟨by simp[below,belows,Own.below,tR],by rw[dG hs.ok,dG (hs.ok.ext _),aW];omega,by rw[dG hs.ok];exact htr⟩];simp only[Option.getD_some,vV,BC,if_neg h0,Option.isSome_some]
end
end Go.Am.Qd
namespace Go.Am.Qd
variable {h:Hp} {p:FP}
def fl0 (n s:Nat):Fl:=⟨List.replicate (n*s) 255,s,List.replicate n 0,0,-1,false⟩
def gY (k:Nat):FP:=⟨k+2,k,k+1⟩
theorem Ob {p:FP} {F:Fl} {H:Hp} (hp:pH H p) (h1:bX H p.f=some (.cells (DB p F))) (h2:bX H p.wb=some (.cells (lI F.bN))) (h3:bX H p.bb=some (.cells (aP F.b))):H=cw H p F:=by
 refine pI bS.symm fun n=>?_
 rw[dA hp];split
 ·rename_i hq;rw[hq,h1]
 ·split
  ·rename_i hq;rw[hq,h2]
  ·split
   ·rename_i hq;rw[hq,h3]
   ·rfl
theorem pH.amT (h:Hp) (l:List gT) (hl:3≤l.length):pH (Go.Am.ext h l) (gY (size h)):=⟨by simp[gY,aW];omega,by simp[gY,aW];omega,by simp[gY,aW];omega,by simp[gY],by simp[gY],by simp[gY]⟩
def kg (n s k:Nat):List gT:=[.cells (aP (List.replicate (n*s) 255)),.cells (lI (List.replicate n 0)),.cells (DB (gY k) (fl0 n s))]
theorem Ko (h:Hp) (n s:Nat) (l:List gT):ext h (kg n s (size h)++l)=cw (ext h (kg n s (size h)++l)) (gY (size h)) (fl0 n s):=by
 refine Ob (pH.amT h _ (by simp[kg])) ?_ ?_ ?_
 ·rw[show(gY (size h)).f=size h+2 from rfl,fG rfl];rfl
 ·rw[show(gY (size h)).wb=size h+1 from rfl,fG rfl];rfl
 ·rw[show(gY (size h)).bb=size h+0 from rfl,fG rfl];rfl
theorem Oc (n:Nat) (h1:1≤n) (h2:n≤64) (s:Nat) (h3:16≤s) (h4:s≤4096):Nc [.int .i64 (n:Int),.int .i64 (s:Int)] h=some (.ptr (size h+2) 0,kg n s (size h)):=by
 have hk:(gX 1 64 (n:Int)).toNat=n:=by unfold gX;split<;>split at*<;> omega
 have hz:(gX 16 4096 (s:Int)).toNat=s:=by unfold gX;split<;>split at*<;> omega
 simp only[Nc,hk,hz];have e1:(List.replicate (n*s) (PV.int .u8 255))=aP (List.replicate (n*s) 255):=by simp[aP]
 have e2:(List.replicate n (PV.int .i64 0))=lI (List.replicate n 0):=by simp[lI]
 have e3:ri (size h+1) (size h) (n*s) s n=DB (gY (size h)) (fl0 n s):=by simp[ri,DB,fl0,gY]
 rw[e1,e2,e3];rfl
theorem Od (base:Nat) (n:Nat) (h1:1≤n) (h2:n≤64) (s:Nat) (h3:16≤s) (h4:s≤4096):ai T base 48 [.int .i64 (n:Int),.int .i64 (s:Int)] h=some (.ptr (size h+2) 0,cw (ext h (kg n s (size h))) (gY (size h)) (fl0 n s)):=by
 have:=Ko h n s [];rw[List.append_nil]at this;rw[oH afy,Oc n h1 h2 s h3 h4,←this];rfl
theorem Oe (hp:pH h p) (base:Nat) {F:Fl} {n:Nat} (first count:Nat) (hc:1≤count) (hf:first+count≤n) (hn:n≤64) (h4:F.b.length=n*F.aj) (hs:16≤F.aj) (hs2:F.aj≤4096) :
  ai T base 49 [.ptr p.f 0,.int .i64 (first:Int),.int .i64 (count:Int)] (cw h p F)=some (.cC [.ptr (size h) 0,.int .i64 0],cw (ext h [.cells [.ptr p.f 0,.int .i64 (first:Int),.int .i64 (count:Int)]]) p F):=by
 have h1:=fun b=>NR (h:=h) (F:=F) hp b
 have h2:=fun b=>vk (h:=h) (F:=F) hp b
 have hq:(((F.b.length:Nat):Int)).tdiv (F.aj:Int)=n:=by
  rw[h4];rw[show((n*F.aj:Nat):Int)=(n:Int)*(F.aj:Int) by simp,Int.mul_tdiv_cancel _ (by omega)]
 have hq2:binOp .quo (.int .i64 (F.b.length:Int)) (.int .i64 (F.aj:Int))=some (.int .i64 (n:Int)):=by
  show(if(F.aj:Int)=0 then none else some (PV.int .i64 (IntKind.i64.wrap ((((F.b.length:Nat):Int)).tdiv (F.aj:Int)))))=_;rw[if_neg (by omega),hq,wrap_small (by omega) (by omega)]
 have d0:decide ((count:Int)<1)=false:=by simp;omega
 have d1:decide ((first:Int)<0)=false:=by simp
 have d2:decide ((first:Int)≥(n:Int))=false:=by simp;omega
 have hw:IntKind.i64.wrap ((n:Int)-(first:Int))=((n-first:Nat):Int):=by rw[wrap_small (by omega) (by omega)];omega
 have d3:decide ((count:Int) > ((n-first:Nat):Int))=false:=by simp;omega
 rw[S49];simp only[h1,h2,az,hq2,Option.ag,hw,d0,d1,d2,d3,↓jV,jX,jY,jZ,Nat.reduceAdd,Nat.reduceSub,Nat.reduceMul,Nat.reduceLeDiff,Nat.reduceLT,Nat.reduceEqDiff,Nat.reduceBEq,reduceIte,reduceCtorEq,Int.reduceBEq,Int.reduceEq,Int.reduceLT,Int.reduceLE,Int.reduceGT,Int.reduceGE,Int.reduceAdd,Int.reduceSub,Int.reduceNeg,Int.reduceBNe,ite_true,ite_false,if_true,if_false,implies_true,forall_const];rw[bS,Aa hp]
end Go.Am.Qd
namespace Go.Am.Qd
variable {h:Hp} {p:FP} {F:Fl} {jb qa qb:Nat}
def jW (qa qb sz now:Nat) (ep:BitVec 32) (fin:Nat) (mv:PV):List PV:=[.ptr qa 0,.ptr qb 0,.int .i64 (sz:Int),.int .i64 (now:Int),uV ep,.int .i64 (fin:Int),mv]
def mL (F:Fl) (i:Nat):List UInt8:=(F.b.drop (2*i*F.aj)).take (2*F.aj)
theorem T7 {sz:Nat} (hF:Fq F sz) {i:Nat} (hi:i≤1):(mL F i).length=2*F.aj:=by
 have:=hF.len;have h2:2*i*F.aj≤2*F.aj:=Nat.mul_le_mul_right _ (by omega);unfold mL;simp;omega
theorem acy (hj:Bb h p jb qa qb) {sz:Nat} (hF:Fq F sz) (hd:F.down=false) (base:Nat) {i:Nat} (hi:i≤1) {now fin:Nat} {ep:BitVec 32} {mv:PV} :
  ai T base 120 [.ptr jb 0,.int .i64 (i:Int)] (dZ h p F jb (jW qa qb sz now ep fin mv))=some (.cC [BC (mL F i),.int .i64 0],dZ h p F jb (jW qa qb sz now ep fin mv)):=by
 have hs2:=hF.small;have hs3:=hF.pos;have hsz:=hF.sz;have hlen:=hF.len;have gj:=fun(F:Fl) (cs:List PV)=>XS (F:=F) hj cs
 have tr:=fun(F:Fl) (cs:List PV)=>XT (F:=F) hj cs
 have l2:(jW qa qb sz now ep fin mv)[2]?=some (.int .i64 (sz:Int)):=rfl;have DQ:=iZ .i64 i 2 (by omega);have run:∀ {q fst:Nat},gI (aC h jb (.cells (jW qa qb sz now ep fin mv))) p q fst 2→fst=2*i→(jW qa qb sz now ep fin mv)[i]?=some (.ptr q 0) →
   ai T base 120 [.ptr jb 0,.int .i64 (i:Int)] (dZ h p F jb (jW qa qb sz now ep fin mv))=some (.cC [BC (mL F i),.int .i64 0],dZ h p F jb (jW qa qb sz now ep fin mv)):=by
  intro q fst hq ahr hld;have hr:∀ b,ai T b 79 [.ptr q 0,.int .i64 ((0:Nat):Int),.int .i64 (sz:Int)] (dZ h p F jb (jW qa qb sz now ep fin mv))=some (if F.down then .cC [.bn,.int .i64 30] else .cC [BC ((F.b.drop (fst*F.aj+0)).take sz),.int .i64 0],dZ h p F jb (jW qa qb sz now ep fin mv)) :=
   fun b=>aci (hj.fs _) hq b 0 sz hF.fin (by omega) (by have:=Nat.mul_le_mul_right F.aj (show fst+2≤4 by omega);omega)
  have hg:(F.b.drop (fst*F.aj+0)).take sz=mL F i:=by rw[hsz,ahr];rfl
  rw[hd,hg]at hr;simp only[Bool.false_eq_true,if_false,show((0:Nat):Int)=0 from rfl]at hr;have hcb:=(J0 (mL F i)).below;have Na:=(J0 (mL F i)).gW;rw[atZ];simp only[dG hj,gj,l2,DQ,Nat.mul_one,hld,hr,Na,hcb,tr,↓jV,jX,jY,jZ,Nat.reduceAdd,Nat.reduceSub,Nat.reduceMul,Nat.reduceLeDiff,Nat.reduceLT,Nat.reduceEqDiff,Nat.reduceBEq,reduceIte,reduceCtorEq,Int.reduceBEq,Int.reduceEq,Int.reduceLT,Int.reduceLE,Int.reduceGT,Int.reduceGE,Int.reduceAdd,Int.reduceSub,Int.reduceNeg,Int.reduceBNe,ite_true,ite_false,if_true,if_false,implies_true,forall_const]
 rcases Nat.le_one_iff_eq_zero_or_eq_one.1 hi with rfl | rfl
 ·exact run (hj.qa' _) rfl rfl
 ·exact run (hj.qb' _) rfl rfl
theorem auq (a b:BitVec 32):binOp .gtr (uV a) (uV b)=some (.bool (decide (b.toNat<a.toNat))):=by
 show some (PV.bool (decide ((a.toNat:Int) > (b.toNat:Int))))=_;congr 2;simp
structure Hd where
 found:Bool
 now:Nat
 bM:BitVec 32
def Hd.look (s:Hd) (F:Fl) (i:Nat):Hd:=if(mL F i).getD 0 0=0∧(s.found=false∨s.bM.toNat<(jk ((mL F i).drop 1)).toNat) then⟨true,i,jk ((mL F i).drop 1)⟩ else s
def AM (F:Fl) (now:Nat) (ep:BitVec 32):Hd:=((Hd.mk false now ep).look F 0).look F 1
theorem acz (hj:Bb h p jb qa qb) {sz:Nat} (hF:Fq F sz) (hd:F.down=false) (base n0:Nat) {i:Nat} (hi:i≤1) (s:Hd) {fin:Nat} {mv:PV} :
  acO base n0 (.int .i64 (i:Int)) (.ptr jb 0) (.bool s.found) (dZ h p F jb (jW qa qb sz s.now s.bM fin mv)) =
   acO base n0 (.int .i64 ((i+1:Nat):Int)) (.ptr jb 0) (.bool (s.look F i).found) (dZ h p F jb (jW qa qb sz (s.look F i).now (s.look F i).bM fin mv)):=by
 have hs2:=hF.small;have hs3:=hF.pos;have hgl:=T7 hF hi;have gj:=fun(F:Fl) (cs:List PV)=>XS (F:=F) hj cs
 have sj:=fun(F:Fl) (cs ds:List PV)=>abM (F:=F) hj cs ds
 have hb:=acy hj hF hd base hi (now:=s.now) (ep:=s.bM) (fin:=fin) (mv:=mv);have hne:mL F i≠[]:=by intro hq;rw[hq]at hgl;simp at hgl;omega
 have Kb:BC (mL F i)=.sl .no 1 (aP (mL F i)):=by unfold BC;rw[if_neg hne]
 rw[Kb]at hb;have b0:oY (mL F i).length (mL F i).length none=some (mL F i).length:=rfl;have b1:oY (mL F i).length 0 (some (.int .i64 1))=some 1:=(jd _ _ _).trans (gQ _ .i64 1 (by omega));obtain⟨o1,p1,s1⟩:=slc (o:=.no) (mL F i) b1 b0;have e1:((mL F i).drop 1).take ((mL F i).length-1)=(mL F i).drop 1:=by rw[List.take_of_length_le (by simp)]
 rw[e1]at s1;have h49:=fun H b=>rz (h:=H) b (jQ p1 ((mL F i).drop 1)) (by simp;omega)
 have hx:=(vm (.inl rfl) (mL F i)).ix .i64 0 (mL F i)[0] (List.getElem?_eq_getElem (by omega));simp only[show((0:Nat):Int)=0 from rfl]at hx;have g0:(mL F i).getD 0 0=(mL F i)[0]:=by simp;rw[List.getElem?_eq_getElem (by omega)];rfl
 have d0:decide ((i:Int)<2)=true:=by simp;omega
 generalize PV.sl .no 1 (aP (mL F i))=V at hb s1 hx;have hz:(((mL F i)[0].toNat:Int) == 0)=decide ((mL F i)[0]=0):=by
  have:=geZ (mL F i)[0];rw[Bool.eq_iff_iff,beq_iff_eq,decide_eq_true_eq];constructor
  ·intro hq;exact UInt8.toNat_inj.1 (by have:((0:UInt8).toNat)=0:=rfl;omega)
  ·intro hq;rw[hq];rfl
 have l4:(jW qa qb sz s.now s.bM fin mv)[4]?=some (uV s.bM):=rfl;have l4':∀ n e f v,(jW qa qb sz n e f v)[4]?=some (uV e):=fun _ _ _ _=>rfl
 have wr3:∀ n e f v,bE (jW qa qb sz n e f v) 3 [.int .i64 (i:Int)]=jW qa qb sz i e f v:=fun _ _ _ _=>rfl
 have wr4:∀ n e f v a,bE (jW qa qb sz n e f v) 4 [uV a]=jW qa qb sz n a f v:=fun _ _ _ _ _=>rfl
 have wl:∀ n e f v,(jW qa qb sz n e f v).length=7:=fun _ _ _ _=>rfl
 have uc:∀ a,(uV a).cells=[uV a]:=fun _=>rfl
 have us:∀ a,scalar (uV a)=true:=fun _=>rfl
 have ust:∀ a,strip (uV a)=uV a:=fun _=>rfl
 have ubl:∀ n a,below n (uV a)=true:=fun _ _=>rfl
 rw[adG];unfold Hd.look;rw[g0]
 by_cases c1:(mL F i)[0]=0
 ·have d1:decide ((mL F i)[0]=0)=true:=by simpa using c1
  cases hfd:s.found with
  | false =>
   rw[if_pos ⟨c1,.inl rfl⟩];simp (disch:=omega) only[d0,hb,s1,h49,hx,hz,d1,fm,l4,l4',wr3,wr4,wl,ite_self,gj,sj,uc,us,ust,ubl,↓jV,jX,jY,jZ,Nat.reduceAdd,Nat.reduceSub,Nat.reduceMul,Nat.reduceLeDiff,Nat.reduceLT,Nat.reduceEqDiff,Nat.reduceBEq,reduceIte,reduceCtorEq,Int.reduceBEq,Int.reduceEq,Int.reduceLT,Int.reduceLE,Int.reduceGT,Int.reduceGE,Int.reduceAdd,Int.reduceSub,Int.reduceNeg,Int.reduceBNe,ite_true,ite_false,if_true,if_false,implies_true,forall_const]
  | true =>
   have hgt:=auq (jk ((mL F i).drop 1)) s.bM
   by_cases c2:s.bM.toNat<(jk ((mL F i).drop 1)).toNat
   ·have d2:decide (s.bM.toNat<(jk ((mL F i).drop 1)).toNat)=true:=by simpa using c2
    rw[if_pos ⟨c1,.inr c2⟩];simp (disch:=omega) only[d0,hb,s1,h49,hx,hz,d1,fm,l4,l4',wr3,wr4,wl,ite_self,gj,sj,uc,us,ust,ubl,hgt,d2,↓jV,jX,jY,jZ,Nat.reduceAdd,Nat.reduceSub,Nat.reduceMul,Nat.reduceLeDiff,Nat.reduceLT,Nat.reduceEqDiff,Nat.reduceBEq,reduceIte,reduceCtorEq,Int.reduceBEq,Int.reduceEq,Int.reduceLT,Int.reduceLE,Int.reduceGT,Int.reduceGE,Int.reduceAdd,Int.reduceSub,Int.reduceNeg,Int.reduceBNe,ite_true,ite_false,if_true,if_false,implies_true,forall_const]
   ·have d2:decide (s.bM.toNat<(jk ((mL F i).drop 1)).toNat)=false:=by simpa using c2
    rw[if_neg (by rintro⟨_,q | q⟩;cases q;exact c2 q)];simp (disch:=omega) only[d0,hb,s1,h49,hx,hz,d1,fm,l4,l4',wr3,wr4,wl,ite_self,gj,sj,uc,us,ust,ubl,hgt,d2,hfd,↓jV,jX,jY,jZ,Nat.reduceAdd,Nat.reduceSub,Nat.reduceMul,Nat.reduceLeDiff,Nat.reduceLT,Nat.reduceEqDiff,Nat.reduceBEq,reduceIte,reduceCtorEq,Int.reduceBEq,Int.reduceEq,Int.reduceLT,Int.reduceLE,Int.reduceGT,Int.reduceGE,Int.reduceAdd,Int.reduceSub,Int.reduceNeg,Int.reduceBNe,ite_true,ite_false,if_true,if_false,implies_true,forall_const]
 ·have d1:decide ((mL F i)[0]=0)=false:=by simpa using c1
  rw[if_neg (fun q=>c1 q.1)];simp (disch:=omega) only[d0,hb,s1,h49,hx,hz,d1,fm,↓jV,jX,jY,jZ,Nat.reduceAdd,Nat.reduceSub,Nat.reduceMul,Nat.reduceLeDiff,Nat.reduceLT,Nat.reduceEqDiff,Nat.reduceBEq,reduceIte,reduceCtorEq,Int.reduceBEq,Int.reduceEq,Int.reduceLT,Int.reduceLE,Int.reduceGT,Int.reduceGE,Int.reduceAdd,Int.reduceSub,Int.reduceNeg,Int.reduceBNe,ite_true,ite_false,if_true,if_false,implies_true,forall_const]
theorem aed (hj:Bb h p jb qa qb) {sz:Nat} (hF:Fq F sz) (hd:F.down=false) (base:Nat) (now:Nat) (ep:BitVec 32) {fin:Nat} {mv:PV} :
  ai T base 98 [.ptr jb 0] (dZ h p F jb (jW qa qb sz now ep fin mv)) =
   some (.cC [.bool (AM F now ep).found,.int .i64 0],dZ h p F jb (jW qa qb sz (AM F now ep).now (AM F now ep).bM fin mv)):=by
 have h0:=acz hj hF hd (size h) (size h) (i:=0) (by omega) (Hd.mk false now ep) (fin:=fin) (mv:=mv);have h1:=acz hj hF hd (size h) (size h) (i:=1) (by omega) ((Hd.mk false now ep).look F 0) (fin:=fin) (mv:=mv);simp only[show((0:Nat):Int)=0 from rfl,Nat.zero_add,show((1:Nat):Int)=1 from rfl,show((1+1:Nat):Int)=2 from rfl]at h0 h1;have tr:=fun(F:Fl) (cs:List PV)=>XT (F:=F) hj cs
 rw[S98,dG hj,h0,h1,adG];simp only[tr,↓jV,jX,jY,jZ,Nat.reduceAdd,Nat.reduceSub,Nat.reduceMul,Nat.reduceLeDiff,Nat.reduceLT,Nat.reduceEqDiff,Nat.reduceBEq,reduceIte,reduceCtorEq,Int.reduceBEq,Int.reduceEq,Int.reduceLT,Int.reduceLE,Int.reduceGT,Int.reduceGE,Int.reduceAdd,Int.reduceSub,Int.reduceNeg,Int.reduceBNe,ite_true,ite_false,if_true,if_false,implies_true,forall_const]<;>rfl
end Go.Am.Qd
namespace Go.Am.Qd
variable {h:Hp} {p:FP} {F:Fl} {jb qa qb:Nat}
theorem amc (c:UInt8):((c.toNat:Int) != 255)=decide (c≠255):=by
 rw[Bool.eq_iff_iff,bne_iff_ne,decide_eq_true_eq];constructor
 ·intro hq hc;subst hc;exact hq rfl
 ·intro hq hc;exact hq (UInt8.toNat_inj.1 (by have:((255:UInt8).toNat)=255:=rfl;omega))
theorem ac6 (base n0:Nat) {o:Own} (ho:Nf o) (l:List UInt8) (hl:l.length≤1000000):∀ (n k:Nat),k+n=l.length →
  ac8 base n0 (.int .i64 (k:Int)) (.sl o 1 (aP l)) (.int .i64 (l.length:Int)) h=some (.cC [.bool ((l.drop k).any fun c=>decide (c≠255)),.int .i64 0],h)
 | 0,k,hk=>by
  have e0:¬ (k<l.length):=by omega
  rw[acP,List.drop_of_length_le (by omega)];simp only[dec_lt,e0,decide_false,List.any_nil,↓jV,jX,jY,jZ,Nat.reduceAdd,Nat.reduceSub,Nat.reduceMul,Nat.reduceLeDiff,Nat.reduceLT,Nat.reduceEqDiff,Nat.reduceBEq,reduceIte,reduceCtorEq,Int.reduceBEq,Int.reduceEq,Int.reduceLT,Int.reduceLE,Int.reduceGT,Int.reduceGE,Int.reduceAdd,Int.reduceSub,Int.reduceNeg,Int.reduceBNe,ite_true,ite_false,if_true,if_false,implies_true,forall_const]
 | n+1,k,hk=>by
  have e0:k<l.length:=by omega
  have hx:=(vm ho l).ix .i64 k l[k] (List.getElem?_eq_getElem e0);have ih:=ac6 base n0 ho l hl n (k+1) (by omega);rw[acP,List.drop_eq_getElem_cons e0,List.any_cons];generalize PV.sl o 1 (aP l)=V at hx ih ⊢
  by_cases hc:l[k]≠255
  ·have d1:decide (l[k]≠255)=true:=by simpa using hc
   simp only[dec_lt,e0,decide_true,hx,amc,d1,Bool.true_or,↓jV,jX,jY,jZ,Nat.reduceAdd,Nat.reduceSub,Nat.reduceMul,Nat.reduceLeDiff,Nat.reduceLT,Nat.reduceEqDiff,Nat.reduceBEq,reduceIte,reduceCtorEq,Int.reduceBEq,Int.reduceEq,Int.reduceLT,Int.reduceLE,Int.reduceGT,Int.reduceGE,Int.reduceAdd,Int.reduceSub,Int.reduceNeg,Int.reduceBNe,ite_true,ite_false,if_true,if_false,implies_true,forall_const]
  ·have d1:decide (l[k]≠255)=false:=by simpa using hc
   simp (disch:=omega) only[dec_lt,e0,decide_true,hx,amc,d1,Bool.false_or,fm,ih,↓jV,jX,jY,jZ,Nat.reduceAdd,Nat.reduceSub,Nat.reduceMul,Nat.reduceLeDiff,Nat.reduceLT,Nat.reduceEqDiff,Nat.reduceBEq,reduceIte,reduceCtorEq,Int.reduceBEq,Int.reduceEq,Int.reduceLT,Int.reduceLE,Int.reduceGT,Int.reduceGE,Int.reduceAdd,Int.reduceSub,Int.reduceNeg,Int.reduceBNe,ite_true,ite_false,if_true,if_false,implies_true,forall_const]
def Ry (b:List UInt8):Nat→Nat→Vs→Nat × Nat × Vs
 | 0,a,vs=>(0,a,vs)
 | n+1,a,vs=>match vw b a with
  | none=>(0,a,vs)
  | some r=>if lK ((b.drop a).take (r.fin-1-a))=true then Ry b n r.fin (if r.drop=true then lS vs (r.key.toNat:Int) else gK vs r.key.toNat (some r.val)) else(40,a,vs)
def Rz (b:List UInt8) (a:Nat):Bool:=(b.drop a).any fun c=>decide (c≠255)
theorem Bb.afa (hj:Bb h p jb qa qb) {m:Nat} {es:List (PV × PV)} (hm:bR h m=some es) (hmj:m≠jb) (x:gT):Bb (aC h m x) p jb qa qb:=by
 have hmq:∀ q cs,ay h q=some cs→m≠q:=by
  rintro q cs hq rfl;have h1:=kY hm;have h2:=bq hq;rw[h1]at h2;cases h2
 have hpt:∀ {q f c},gI h p q f c→gI (aC h m x) p q f c:=fun {q f c} hq=>⟨by rw[bD (hmq _ _ hq.get)];exact hq.get,hq.n1,hq.n2,hq.n3⟩
 exact⟨hj.fo.set _ _,hpt hj.pa,hpt hj.pb,by rw[aJ];exact hj.lj,hj.j1,hj.j2,hj.j3,hj.ja,hj.jq⟩
theorem afb (hj:Bb h p jb qa qb) {m:Nat} (nm:m≠p.f∧m≠p.bb∧m≠p.wb) (hmj:m≠jb) (cs:List PV) (x:gT):aC (dZ h p F jb cs) m x=dZ (aC h m x) p F jb cs:=by
 unfold dZ;rw[Ab (hj.fs cs) nm.1 nm.2.1 nm.2.2];congr 1;refine pI (by simp[aJ]) fun n=>?_
 simp only[nM,aJ]
 by_cases h1:m=n
 ·subst h1
  rw[if_pos rfl,if_pos rfl,if_neg (Ne.symm hmj)]
 ·rw[if_neg h1,if_neg h1]
theorem aeo (hj:Bb h p jb qa qb) (cs B:List PV):ay (dZ (ext h [.cells B]) p F jb cs) (size h)=some B:=by
 obtain⟨n1,n2,n3,n4⟩:=hj.new;rw[dZ,iQ ((hj.ext _).fs cs) n1 n2 n3,bD (Ne.symm n4),aQ];rfl
def aa3 (r:Rec):List PV:=[.int .i64 (r.key.toNat:Int),.sl .full 1 (aP r.val),.bool r.drop,.int .i64 (r.fin:Int)]
def zB:List PV:=[.int .i64 0,.bn,.bool false,.int .i64 0]
theorem aa6 (base n0:Nat) {o:Own} (ho:Nf o) {b:List UInt8} (hb:b.length≤100000) (hbj:base≤jb) {m sz now:Nat} {ep:BitVec 32} (nm:m≠p.f∧m≠p.bb∧m≠p.wb) (hmj:m≠jb) (hbm:base≤m) :
  ∀ (n:Nat) {hh:Hp} {a:Nat} {vs:Vs},Bb hh p jb qa qb→bR hh m=some (pK vs)→a≤b.length→b.length-a<n→∃ g,
   abX base n0 (.ptr jb 0) (.sl o 1 (aP b)) (dZ hh p F jb (jW qa qb sz now ep a (.eL m))) =
    some (if(Ry b n a vs).1=0 then .cC [.bool (Rz b (Ry b n a vs).2.1),.int .i64 0] else .cC [.bool false,.int .i64 40],
     dZ (ext (aC hh m (.map (pK (Ry b n a vs).2.2))) g) p F jb (jW qa qb sz now ep (Ry b n a vs).2.1 (.eL m)))
 | 0,hh,a,vs,hj,hm,ha,hn=>by omega
 | n+1,hh,a,vs,hj,hm,ha,hn=>by
  have hlt:m<size hh:=bw (kY hm);have l5:(jW qa qb sz now ep a (.eL m))[5]?=some (.int .i64 (a:Int)):=rfl;have l6:∀ a,(jW qa qb sz now ep a (.eL m))[6]?=some (.eL m):=fun _=>rfl
  have wr5:∀ (x:Nat),bE (jW qa qb sz now ep a (.eL m)) 5 [.int .i64 (x:Int)]=jW qa qb sz now ep x (.eL m):=fun _=>rfl
  have wl:∀ n e f v,(jW qa qb sz n e f v).length=7:=fun _ _ _ _=>rfl
  have gj:=fun(hh:Hp) (hj:Bb hh p jb qa qb) (cs:List PV)=>XS (F:=F) hj cs
  have sj:=fun(hh:Hp) (hj:Bb hh p jb qa qb) (cs ds:List PV)=>abM (F:=F) hj cs ds
  have gj0:=gj hh hj;have gj1:=fun B=>gj _ (hj.ext [.cells B])
  have sj1:=fun B=>sj _ (hj.ext [.cells B])
  have ex:=fun cs l=>m7 (F:=F) hj cs l
  have gn:=fun cs B=>aeo (F:=F) hj cs B
  have sn:=fun cs x y=>aem (F:=F) hj cs x y
  have sz0:=fun cs=>dG (F:=F) hj cs
  have hnx:=aeC (h:=dZ hh p F jb (jW qa qb sz now ep a (.eL m))) base ho b a (by omega) ha;have hsh:¬ (size hh<base):=by omega
  have abo:aC hh m (.map (pK vs))=hh:=ju (kY hm);rw[aev];cases hnl:vw b a with
  | none =>
   rw[hnl]at hnx;have b0:oY b.length b.length none=some b.length:=rfl;have b1:oY b.length 0 (some (.int .i64 (a:Int)))=some a:=(jd _ _ _).trans (gQ _ .i64 a (by omega));obtain⟨o1,p1,s1⟩:=slc (o:=o) b b1 b0;have e1:(b.drop a).take (b.length-a)=b.drop a:=by rw[List.take_of_length_le (by simp)]
   rw[e1]at s1;have htl:=fun H=>ac6 (h:=H) base n0 p1 (b.drop a) (by simp;omega) (b.drop a).length 0 (by omega)
   simp only[show((0:Nat):Int)=0 from rfl,List.drop_zero]at htl;have hlen:cG false (.sl o1 1 (aP (b.drop a)))=some (.int .i64 ((b.drop a).length:Int)):=by rw[fA,aM]
   generalize PV.sl o1 1 (aP (b.drop a))=W at s1 htl hlen;generalize PV.sl o 1 (aP b)=V at hnx s1 ⊢;refine⟨[.cells zB],?_⟩;simp only[Ry,hnl,if_true,abo];simp only[gj0,gj1,l5,hnx,abI,al4,sz0,ex,gn,sn,hsh,s1,hlen,htl,↓jV,jX,jY,jZ,Nat.reduceAdd,Nat.reduceSub,Nat.reduceMul,Nat.reduceLeDiff,Nat.reduceLT,Nat.reduceEqDiff,Nat.reduceBEq,reduceIte,reduceCtorEq,Int.reduceBEq,Int.reduceEq,Int.reduceLT,Int.reduceLE,Int.reduceGT,Int.reduceGE,Int.reduceAdd,Int.reduceSub,Int.reduceNeg,Int.reduceBNe,ite_true,ite_false,if_true,if_false,implies_true,forall_const]<;>rfl
  | some r =>
   rw[hnl]at hnx;obtain⟨f1,f2,f3,f4,f5,f6⟩:=acY hnl;have hrt:=fun H=>ad8 (h:=H) base ho b a r (by omega) (by omega) f2
   have hrV:ahq r=.agg (aa3 r):=rfl;rw[hrV]at hrt;generalize hV:PV.sl o 1 (aP b)=V at hnx hrt ⊢;have r0:(aa3 r)[0]?=some (.int .i64 (r.key.toNat:Int)):=rfl;have r1:(aa3 r)[1]?=some (.sl .full 1 (aP r.val)):=rfl;have r2:(aa3 r)[2]?=some (.bool r.drop):=rfl;have r3:(aa3 r)[3]?=some (.int .i64 (r.fin:Int)):=rfl;have rl:(aa3 r).length=4:=rfl;have rsc:(aa3 r).all scalar=true:=rfl;have rc:(PV.agg (aa3 r)).cells=aa3 r:=rfl;have rt:part (aa3 r) 0 4 true=some (.agg (aa3 r)):=rfl;have anl:bE [PV.int .i64 0,.bn,.bool false,.int .i64 0] 0 (aa3 r)=aa3 r:=rfl;simp only[Ry,hnl];cases hop:lK ((b.drop a).take (r.fin-1-a)) with
   | false =>
    rw[hop]at hrt;refine⟨[.cells (aa3 r)],?_⟩;simp only[Bool.false_eq_true,if_false,abo,show ¬ (40=0) from by decide];simp only[gj0,gj1,l5,hnx,abI,hrV,sz0,ex,gn,sn,hsh,rl,rsc,rc,rt,anl,hrt,↓jV,jX,jY,jZ,Nat.reduceAdd,Nat.reduceSub,Nat.reduceMul,Nat.reduceLeDiff,Nat.reduceLT,Nat.reduceEqDiff,Nat.reduceBEq,reduceIte,reduceCtorEq,Int.reduceBEq,Int.reduceEq,Int.reduceLT,Int.reduceLE,Int.reduceGT,Int.reduceGE,Int.reduceAdd,Int.reduceSub,Int.reduceNeg,Int.reduceBNe,ite_true,ite_false,if_true,if_false,implies_true,forall_const]
   | true =>
    rw[hop]at hrt;simp only[if_true];have hmx:∀ B,bR (dZ (ext hh [.cells B]) p F jb (jW qa qb sz now ep a (.eL m))) m=some (pK vs):=fun B =>
     (abj (F:=F) (hj.ext [.cells B]) _ (by rw[bR,dP hlt];exact hm) nm hmj).2
    have mv:∀ (B cs:List PV) (X:gT),aC (dZ (ext hh [.cells B]) p F jb cs) m X=dZ (ext (aC hh m X) [.cells B]) p F jb cs:=fun B cs X=>by
     rw[afb (hj.ext [.cells B]) nm hmj,aaD hlt]
    have gn2:∀ (X:gT) (cs B:List PV),ay (dZ (ext (aC hh m X) [.cells B]) p F jb cs) (size hh)=some B:=fun X cs B=>by
     have:=aeo (F:=F) (hj.afa hm hmj X) cs B;rwa [aJ]at this
    have gj2:=fun X B=>gj _ ((hj.afa hm hmj X).ext [.cells B])
    have sj2:=fun X B=>sj _ ((hj.afa hm hmj X).ext [.cells B])
    cases hdr:r.drop with
    | true =>
     rw[hdr]at r2;have hdl:=fun B=>ae6 (h:=dZ (ext hh [.cells B]) p F jb (jW qa qb sz now ep a (.eL m))) base (m:=m) (vs:=vs) (hmx B) (r.key.toNat:Int)
     obtain⟨g,hg⟩:=aa6 base n0 ho hb hbj nm hmj hbm n (hh:=ext (aC hh m (.map (pK (lS vs (r.key.toNat:Int))))) [.cells (aa3 r)]) (a:=r.fin) (vs:=lS vs (r.key.toNat:Int)) ((hj.afa hm hmj _).ext _)
      (by rw[bR,dP (by rw[aJ];exact hlt),cM hlt];rfl) f2 (by omega)
     refine⟨.cells (aa3 r)::g,?_⟩;have e3:∀ x,ext (aC (ext (aC hh m (.map (pK (lS vs (r.key.toNat:Int))))) [.cells (aa3 r)]) m x) g=ext (aC hh m x) (.cells (aa3 r)::g):=fun x=>by
      rw[aaD (by rw[aJ];exact hlt),fN];simp[ext]
     rw[e3]at hg;simp only[if_true];rw[hV]at hg;rw[←hg];simp only[gj0,gj1,gj2,sj2,l5,l6,hnx,abI,hrV,sz0,ex,gn,gn2,sn,hsh,rl,rsc,rc,rt,anl,hrt,r0,r2,r3,hdl,mv,wr5,wl,ite_self,↓jV,jX,jY,jZ,Nat.reduceAdd,Nat.reduceSub,Nat.reduceMul,Nat.reduceLeDiff,Nat.reduceLT,Nat.reduceEqDiff,Nat.reduceBEq,reduceIte,reduceCtorEq,Int.reduceBEq,Int.reduceEq,Int.reduceLT,Int.reduceLE,Int.reduceGT,Int.reduceGE,Int.reduceAdd,Int.reduceSub,Int.reduceNeg,Int.reduceBNe,ite_true,ite_false,if_true,if_false,implies_true,forall_const]
    | false =>
     rw[hdr]at r2;have hup:=fun B=>adR (h:=dZ (ext hh [.cells B]) p F jb (jW qa qb sz now ep a (.eL m))) base (m:=m) (vs:=vs) (hmx B) r.key.toNat (some r.val)
     have hcq:=fun H=>clQ (H:=H) base (v:=.sl .full 1 (aP r.val)) (vm (.inr rfl) r.val) (.inl rfl) (by omega)
     have Kb:cl (.sl .full 1 (aP r.val)) r.val=some r.val:=by unfold cl;rw[if_neg (by simp)]
     rw[Kb]at hcq;obtain⟨g,hg⟩:=aa6 base n0 ho hb hbj nm hmj hbm n (hh:=ext (aC hh m (.map (pK (gK vs r.key.toNat (some r.val))))) [.cells (aa3 r)]) (a:=r.fin) (vs:=gK vs r.key.toNat (some r.val)) ((hj.afa hm hmj _).ext _)
      (by rw[bR,dP (by rw[aJ];exact hlt),cM hlt];rfl) f2 (by omega)
     refine⟨.cells (aa3 r)::g,?_⟩;have e3:∀ x,ext (aC (ext (aC hh m (.map (pK (gK vs r.key.toNat (some r.val))))) [.cells (aa3 r)]) m x) g=ext (aC hh m x) (.cells (aa3 r)::g):=fun x=>by
      rw[aaD (by rw[aJ];exact hlt),fN];simp[ext]
     rw[e3]at hg;simp only[Bool.false_eq_true,if_false];rw[hV]at hg;rw[←hg];simp only[gj0,gj1,gj2,sj2,l5,l6,hnx,abI,hrV,sz0,ex,gn,gn2,sn,hsh,rl,rsc,rc,rt,anl,hrt,r0,r1,r2,r3,hup,hcq,mv,wr5,wl,ite_self,↓jV,jX,jY,jZ,Nat.reduceAdd,Nat.reduceSub,Nat.reduceMul,Nat.reduceLeDiff,Nat.reduceLT,Nat.reduceEqDiff,Nat.reduceBEq,reduceIte,reduceCtorEq,Int.reduceBEq,Int.reduceEq,Int.reduceLT,Int.reduceLE,Int.reduceGT,Int.reduceGE,Int.reduceAdd,Int.reduceSub,Int.reduceNeg,Int.reduceBNe,ite_true,ite_false,if_true,if_false,implies_true,forall_const]
end Go.Am.Qd
namespace Go.Am.Qd
variable {h:Hp} {p:FP} {F:Fl} {jb qa qb:Nat}
def RA (b:List UInt8):Nat × Nat × Vs:=Ry b (b.length+1) 8 []
theorem acD (b:List UInt8):∀ (n a:Nat) (vs:Vs),a≤b.length→Small vs→Keyed vs→(Ry b n a vs).2.1≤b.length∧Small (Ry b n a vs).2.2∧Keyed (Ry b n a vs).2.2∧a≤(Ry b n a vs).2.1∧((Ry b n a vs).1=0∨(Ry b n a vs).1=40)
 | 0,a,vs,ha,h1,h2=>⟨ha,h1,h2,Nat.le_refl _,.inl rfl⟩
 | n+1,a,vs,ha,h1,h2=>by
  simp only[Ry];cases hn:vw b a with
  | none=>exact⟨ha,h1,h2,Nat.le_refl _,.inl rfl⟩
  | some r =>
   obtain⟨f1,f2,f3,f4,f5,f6⟩:=acY hn;simp only;split
   ·by_cases hd:r.drop=true
    ·simp only[hd,if_true]
     obtain⟨g1,g2,g3,g4,g5⟩:=acD b n r.fin _ f2 (h1.lS (r.key.toNat:Int)) (h2.lS _);exact⟨g1,g2,g3,by omega,g5⟩
    ·simp only[hd,if_false,Bool.false_eq_true]
     obtain⟨g1,g2,g3,g4,g5⟩:=acD b n r.fin _ f2 (h1.gK h2 f5 (v:=some r.val) f4) (h2.gK _ _);exact⟨g1,g2,g3,by omega,g5⟩
   ·exact⟨ha,h1,h2,Nat.le_refl _,.inr rfl⟩
theorem qn:Small []:=⟨by simp,by simp⟩
theorem ng:Keyed []:=by simp[Keyed]
theorem ad0 (hj:Bb h p jb qa qb) {sz:Nat} (hF:Fq F sz) (hd:F.down=false) {base:Nat} (hb:base≤jb) {now fin:Nat} (lT:now≤1) {ep:BitVec 32} {mv:PV}:∃ g,
  ai T base 100 [.ptr jb 0] (dZ h p F jb (jW qa qb sz now ep fin mv)) =
   some (if(RA (mL F now)).1=0 then .cC [.bool (Rz (mL F now) (RA (mL F now)).2.1),.int .i64 0] else .cC [.bool false,.int .i64 40],
    dZ (ext h (.map (pK (RA (mL F now)).2.2)::g)) p F jb (jW qa qb sz now ep (RA (mL F now)).2.1 (.eL (size h)))):=by
 have hs2:=hF.small;have hs3:=hF.pos;have hgl:=T7 hF lT;have hby:=acy hj hF hd base lT (now:=now) (ep:=ep) (fin:=fin) (mv:=mv);have hne:mL F now≠[]:=by intro hq;rw[hq]at hgl;simp at hgl;omega
 have Kb:BC (mL F now)=.sl .no 1 (aP (mL F now)):=by unfold BC;rw[if_neg hne]
 rw[Kb]at hby;obtain⟨n1,n2,n3,n4⟩:=hj.new;obtain⟨g,hg⟩:=aa6 (F:=F) base (size h) (o:=.no) (.inl rfl) (b:=mL F now) (by omega) hb (m:=size h) (sz:=sz) (now:=now) (ep:=ep) ⟨n1,n2,n3⟩ n4 (by have:=hj.lj;omega) ((mL F now).length+1)
  (hh:=ext h [.map []]) (a:=8) (vs:=[]) (hj.ext _) (by rw[bR,cJ rfl];rfl) (by omega) (by omega)
 refine⟨g,?_⟩;have e1:∀ X,ext (aC (ext h [.map []]) (size h) X) g=ext h (X::g):=fun X=>by
  have:aC (ext h [.map []]) (size h) X=ext h [X]:=by
   rw[ez (Nat.le_refl _)];simp
  rw[this];simp[ext]
 rw[e1]at hg;have gj0:=fun cs=>XS (F:=F) hj cs
 have sj0:=fun cs ds=>abM (F:=F) hj cs ds
 have gj1:=fun B cs=>XS (F:=F) (hj.ext [.map B]) cs
 have sj1:=fun B cs ds=>abM (F:=F) (hj.ext [.map B]) cs ds
 have ex:=fun cs l=>m7 (F:=F) hj cs l
 have sz0:=fun cs=>dG (F:=F) hj cs
 have l3:(jW qa qb sz now ep fin mv)[3]?=some (.int .i64 (now:Int)):=rfl;have wr6:∀ v w,bE (jW qa qb sz now ep fin v) 6 [w]=jW qa qb sz now ep fin w:=fun _ _=>rfl
 have wr5:∀ v,bE (jW qa qb sz now ep fin v) 5 [.int .i64 8]=jW qa qb sz now ep 8 v:=fun _=>rfl
 have wl:∀ n e f v,(jW qa qb sz n e f v).length=7:=fun _ _ _ _=>rfl
 have hnb:(jb<base)=False:=by simp;omega
 rw[atP];simp only[dG hj,gj0,l3,hby,DA,ex,sz0,gj1,sj1,wr6,wr5,wl,hnb,ite_self,↓jV,jX,jY,jZ,Nat.reduceAdd,Nat.reduceSub,Nat.reduceMul,Nat.reduceLeDiff,Nat.reduceLT,Nat.reduceEqDiff,Nat.reduceBEq,reduceIte,reduceCtorEq,Int.reduceBEq,Int.reduceEq,Int.reduceLT,Int.reduceLE,Int.reduceGT,Int.reduceGE,Int.reduceAdd,Int.reduceSub,Int.reduceNeg,Int.reduceBNe,ite_true,ite_false,if_true,if_false,implies_true,forall_const];exact hg
end Go.Am.Qd
namespace Go.Am.Qd
variable {h:Hp} {p:FP} {F:Fl} {qa qb:Nat}
theorem sS (A:Nat) (vs:Vs):∀ (ks:List Nat) {F:Fl} (a:Nat),(F.fill A a vs ks).2.1=0→(F.fill A a vs ks).1=a+j9 vs ks
 | [],F,a,_=>by simp[Fl.fill,j9]
 | k::r,F,a,he=>by
  unfold Fl.fill at he ⊢;split at he
  ·rename_i hc
   rw[if_pos hc];rw[sS A vs r _ he];simp[j9];omega
  ·rename_i hc
   exact absurd he hc
theorem sU {sz:Nat} (hF:Fq F sz) {J:Jn} {vs:Vs} (hk:Keyed vs):Fq (F.move sz J vs).2.1 sz∧(F.move sz J vs).2.1.aj=F.aj ∧
  (∀ J',(F.move sz J vs).2.2=some J'→(F.move sz J vs).1=0∧J'.now=1-J.now∧J'.fin=cY vs∧cY vs≤sz∧J'.bM=J.bM+1#32)∧((F.move sz J vs).2.2=none→(F.move sz J vs).1≠0):=by
 unfold Fl.move;split
 ·exact⟨hF,rfl,fun J' h=>by simp at h,fun _=>by simp⟩
 rename_i c0;split
 ·exact⟨hF,rfl,fun J' h=>by simp at h,fun _=>by simp⟩
 simp only;obtain⟨f1,s1⟩:=hF.clear (2*(1-J.now)) 2 (by omega);split
 ·rename_i hc;exact⟨f1,s1,fun J' h=>by simp at h,fun _=>hc⟩
 obtain⟨f2,s2⟩:=f1.fill (2*(1-J.now)*F.aj) 8 vs (fy vs);split
 ·rename_i hc;exact⟨f2,s2.trans s1,fun J' h=>by simp at h,fun _=>hc⟩
 rename_i c2;obtain⟨f3,s3⟩:=f2.program (2*(1-J.now)*F.aj+1) (br (J.bM+1#32));split
 ·rename_i hc;exact⟨f3,s3.trans (s2.trans s1),fun J' h=>by simp at h,fun _=>hc⟩
 obtain⟨f4,s4⟩:=f3.program (2*(1-J.now)*F.aj+0) [0];split
 ·rename_i hc;exact⟨f4,s4.trans (s3.trans (s2.trans s1)),fun J' h=>by simp at h,fun _=>hc⟩
 ·refine⟨f4,s4.trans (s3.trans (s2.trans s1)),fun J' hJ=>?_,fun h=>by simp at h⟩
  simp only[Option.some.injEq]at hJ;subst hJ;refine⟨rfl,rfl,?_,by omega,rfl⟩;simp only;rw[sS _ _ _ _ (by omega),kV hk]
def _root_.Go.Am.Fl.Cw (F:Fl) (sz:Nat):Nat × Fl × Option (Jn × Vs) :=
 if F.down=true then(30,F,none) else
 let H:=AM F 0 0#32
 if H.found=false then(let M:=F.move sz ⟨1,0,H.bM⟩ [];(M.1,M.2.1,M.2.2.map fun J=>(J,[]))) else
 let R:=RA (mL F H.now)
 if R.1≠0 then(40,F,none) else
 if Rz (mL F H.now) R.2.1=true then(let M:=F.move sz ⟨H.now,R.2.1,H.bM⟩ R.2.2;(M.1,M.2.1,M.2.2.map fun J=>(J,R.2.2))) else(0,F,some (⟨H.now,R.2.1,H.bM⟩,R.2.2))
structure PO (h:Hp) (p:FP) (qa qb:Nat):Prop where
 fo:pH h p
 pa:gI h p qa 0 2
 pb:gI h p qb 2 2
theorem PO.j (ho:PO h p qa qb) (B:List PV):Bb (ext h [.cells B]) p (size h) qa qb :=
 ⟨ho.fo.ext _,ho.pa.ext _,ho.pb.ext _,by rw[aW];simp,by have:=ho.fo.lf;omega,by have:=ho.fo.lb;omega,by have:=ho.fo.lw;omega,
  by have:=bw (bq ho.pa.get);omega,by have:=bw (bq ho.pb.get);omega⟩
theorem ad1 (s:Hd) (F:Fl) {i:Nat} (hi:i≤1) (hs:s.now≤1):(s.look F i).now≤1:=by
 unfold Hd.look;split
 ·exact hi
 ·exact hs
theorem aeM (F:Fl) (now:Nat) (ep:BitVec 32) (hn:now≤1):(AM F now ep).now≤1:=ad1 _ F (by omega) (ad1 _ F (by omega) hn)
theorem acL (ho:PO h p qa qb) {sz:Nat} (hF:Fq F sz) {base:Nat} (hb:base≤size h):∃ g cs,
  ai T base 63 [.ptr qa 0,.ptr qb 0] (cw h p F)=some (match (F.Cw sz).2.2 with | some _=>.cC [.ptr (size h) 0,.int .i64 0] | none=>.cC [.bp,.int .i64 ((F.Cw sz).1:Nat)],dZ (ext h g) p (F.Cw sz).2.1 (size h) cs) ∧
  ∀ J vs,(F.Cw sz).2.2=some (J,vs)→∃ m,JS (ext h g) p (F.Cw sz).2.1 (size h) qa qb sz m J vs∧cs=jC qa qb sz J m:=by
 have hs2:=hF.small;have hs3:=hF.pos;have hsz:=hF.sz;obtain⟨B,hB⟩ : ∃ B:List PV,B=jW qa qb sz 0 0#32 0 .gr:=⟨_,rfl⟩;have hj:=ho.j B;have pa:=fun b=>J3 (F:=F) ho.fo ho.pa b (by omega)
 have pb:=fun b=>J3 (F:=F) ho.fo ho.pb b (by omega)
 rw[←hsz]at pa pb;have abo:ext (cw h p F) [.cells B]=dZ (ext h [.cells B]) p F (size h) B:=by
  rw[Aa ho.fo];exact aeH (by rw[aQ];rfl)
 have fa:∀ b,ai T b 87 [.ptr qa 0] (dZ (ext h [.cells B]) p F (size h) B)=some (.ptr p.f 0,dZ (ext h [.cells B]) p F (size h) B):=fun b=>GD (F:=F) (hj.fs B) (hj.qa' B) b
 have fb:∀ b,ai T b 87 [.ptr qb 0] (dZ (ext h [.cells B]) p F (size h) B)=some (.ptr p.f 0,dZ (ext h [.cells B]) p F (size h) B):=fun b=>GD (F:=F) (hj.fs B) (hj.qb' B) b
 have fd:∀ b,ai T b 41 [.ptr p.f 0] (dZ (ext h [.cells B]) p F (size h) B)=some (.bool F.down,dZ (ext h [.cells B]) p F (size h) B):=fun b=>NQ (F:=F) (hj.fs B) b
 have YO:tF 7 (.agg B) (cw h p F)=some (.ptr (size h) 0,dZ (ext h [.cells B]) p F (size h) B):=by
  rw[←abo,←bS (h:=h) (p:=p) (F:=F),hB];rfl
 have aba:(dw [.bp,.bp] [(0,1,.ptr qa 0),(1,1,.ptr qb 0)])=some (.agg [.ptr qa 0,.ptr qb 0]):=rfl;have hmin:jH false [.int .i64 (sz:Int),.int .i64 (sz:Int)]=some (.int .i64 (sz:Int)):=by
  show some (PV.int .i64 (if(sz:Int)<sz then(sz:Int) else sz))=_;simp
 have aa4:dw [.bp,.bp,(.int .i64 0),(.int .i64 0),(.int .u32 0),(.int .i64 0),.gr] [(0,2,.agg [.ptr qa 0,.ptr qb 0]),(2,1,.int .i64 (sz:Int))]=some (.agg B):=by rw[hB];rfl
 have l2:B[2]?=some (.int .i64 (sz:Int)):=by rw[hB];rfl
 have gj0:=fun F cs=>XS (F:=F) hj cs
 have d32:decide ((sz:Int)<32)=false:=by simp;omega
 unfold Fl.Cw;rw[S63]
 by_cases c1:F.down=true
 ·rw[if_pos c1]
  rw[c1]at fd;refine⟨[.cells B],B,?_,fun J vs hq=>by simp at hq⟩;simp only[aba,pa,pb,hmin,aa4,YO,fa,fb,fd,↓jV,jX,jY,jZ,Nat.reduceAdd,Nat.reduceSub,Nat.reduceMul,Nat.reduceLeDiff,Nat.reduceLT,Nat.reduceEqDiff,Nat.reduceBEq,reduceIte,reduceCtorEq,Int.reduceBEq,Int.reduceEq,Int.reduceLT,Int.reduceLE,Int.reduceGT,Int.reduceGE,Int.reduceAdd,Int.reduceSub,Int.reduceNeg,Int.reduceBNe,ite_true,ite_false,if_true,if_false,implies_true,forall_const]<;>rfl
 rw[if_neg c1];have c1':F.down=false:=by simpa using c1
 rw[c1']at fd;have hhd:=aed hj hF c1' base 0 0#32 (fin:=0) (mv:=.gr);have lT:=aeM F 0 0#32 (by omega);simp only;generalize hH:AM F 0 0#32=H at *;have ad3:ai T base 98 [.ptr (size h) 0] (dZ (ext h [.cells B]) p F (size h) B)=some (.cC [.bool H.found,.int .i64 0],dZ (ext h [.cells B]) p F (size h) (jW qa qb sz H.now H.bM 0 .gr)):=by rw[hB];rw[hB]at hhd;exact hhd
 have e2:∀ l,ext (ext h [.cells B]) l=ext h (.cells B::l):=fun l=>by simp[ext]
 have ayE:size h<size (ext h [.cells B]):=by rw[aW];simp
 clear hhd abo;generalize ext h [.cells B]=h1 at *;have hnb:(size h<base)=False:=by simp;omega
 by_cases c2:H.found=false
 ·rw[if_pos c2]
  rw[c2]at ad3;obtain⟨n1,n2,n3,n4⟩:=hj.new;have hm1:bR (ext h1 [.map (pK [])]) (size h1)=some (pK []):=by rw[bR,cJ rfl];rfl
  have hmv:=abm (F:=F) (hj.ext [.map (pK [])]) hb (m:=size h1) (m':=size h1) (J:=⟨1,0,H.bM⟩) hm1 ⟨n1,n2,n3⟩ n4 qn ng hF (Nat.le_refl 1);obtain⟨v1,v2,v3,v4⟩:=sU hF (J:=⟨1,0,H.bM⟩) ng;simp only;generalize F.move sz ⟨1,0,H.bM⟩ []=M at *;have ex:=fun cs l=>m7 (F:=F) hj cs l
  have sz0:=fun cs=>dG (F:=F) hj cs
  have gj1:=fun B' F cs=>XS (F:=F) (hj.ext [.map B']) cs
  have sj1:=fun B' F cs ds=>abM (F:=F) (hj.ext [.map B']) cs ds
  have wr6:∀ n v w,bE (jW qa qb sz n H.bM 0 v) 6 [w]=jW qa qb sz n H.bM 0 w:=fun _ _ _=>rfl
  have wr3:∀ n v,bE (jW qa qb sz n H.bM 0 v) 3 [.int .i64 1]=jW qa qb sz 1 H.bM 0 v:=fun _ _=>rfl
  have wl:∀ n e f v,(jW qa qb sz n e f v).length=7:=fun _ _ _ _=>rfl
  have l6:∀ n e f v,(jW qa qb sz n e f v)[6]?=some v:=fun _ _ _ _=>rfl
  have adl:ai T base 99 [.ptr (size h) 0,.eL (size h1)] (dZ (ext h1 [.map []]) p F (size h) (jW qa qb sz 1 H.bM 0 (.eL (size h1))))=_:=hmv;cases hM:M.2.2 with
  | none =>
   have d5:((M.1:Int) != 0)=true:=by have:=v4 hM;simpa using this
   rw[hM]at adl;refine⟨[.cells B,.map (pK [])],jC qa qb sz ⟨1,0,H.bM⟩ (size h1),?_,fun J vs hq=>by simp at hq⟩;rw[←e2];simp only[aba,pa,pb,hmin,aa4,YO,fa,fb,fd,gj0,l2,d32,ad3,DA,ex,sz0,gj1,sj1,wr6,wr3,wl,l6,hnb,ite_self,adl,d5,↓jV,jX,jY,jZ,Nat.reduceAdd,Nat.reduceSub,Nat.reduceMul,Nat.reduceLeDiff,Nat.reduceLT,Nat.reduceEqDiff,Nat.reduceBEq,reduceIte,reduceCtorEq,Int.reduceBEq,Int.reduceEq,Int.reduceLT,Int.reduceLE,Int.reduceGT,Int.reduceGE,Int.reduceAdd,Int.reduceSub,Int.reduceNeg,Int.reduceBNe,ite_true,ite_false,if_true,if_false,implies_true,forall_const]<;>rfl
  | some J' =>
   obtain⟨w1,w2,w3,w4,w5⟩:=v3 J' hM;have d5:((M.1:Int) != 0)=false:=by rw[w1];rfl
   rw[hM]at adl;refine⟨[.cells B,.map (pK [])],jC qa qb sz J' (size h1),?_,fun J vs hq=>?_⟩
   ·rw[←e2]
    simp only[aba,pa,pb,hmin,aa4,YO,fa,fb,fd,gj0,l2,d32,ad3,DA,ex,sz0,gj1,sj1,wr6,wr3,wl,l6,hnb,ite_self,adl,d5,↓jV,jX,jY,jZ,Nat.reduceAdd,Nat.reduceSub,Nat.reduceMul,Nat.reduceLeDiff,Nat.reduceLT,Nat.reduceEqDiff,Nat.reduceBEq,reduceIte,reduceCtorEq,Int.reduceBEq,Int.reduceEq,Int.reduceLT,Int.reduceLE,Int.reduceGT,Int.reduceGE,Int.reduceAdd,Int.reduceSub,Int.reduceNeg,Int.reduceBNe,ite_true,ite_false,if_true,if_false,implies_true,forall_const]
   ·simp only[Option.map_some,Option.some.injEq,Prod.mk.injEq]at hq
    obtain⟨rfl,rfl⟩:=hq;rw[←e2];exact⟨_,⟨hj.ext _,hm1,⟨n1,n2,n3⟩,n4,qn,ng,v1,by rw[w2];simp,by omega⟩,rfl⟩
 ·rw[if_neg c2]
  have c2':H.found=true:=by simpa using c2
  rw[c2']at ad3;obtain⟨n1,n2,n3,n4⟩:=hj.new;obtain⟨g,hg⟩:=ad0 hj hF c1' hb lT (ep:=H.bM) (fin:=0) (mv:=.gr);have hgl:=T7 hF lT;obtain⟨q1,q2,q3,q4,q5⟩:=acD (mL F H.now) ((mL F H.now).length+1) 8 [] (by omega) qn ng;change (RA (mL F H.now)).2.1≤_ at q1;change Small (RA (mL F H.now)).2.2 at q2;change Keyed (RA (mL F H.now)).2.2 at q3;change (RA (mL F H.now)).1=0∨_ at q5;generalize RA (mL F H.now)=R at *
  by_cases c3:R.1≠0
  ·rw[if_pos c3]
   rw[if_neg c3]at hg;refine⟨.cells B::.map (pK R.2.2)::g,jW qa qb sz H.now H.bM R.2.1 (.eL (size h1)),?_,fun J vs hq=>by simp at hq⟩;rw[←e2];simp only[aba,pa,pb,hmin,aa4,YO,fa,fb,fd,gj0,l2,d32,ad3,hg,↓jV,jX,jY,jZ,Nat.reduceAdd,Nat.reduceSub,Nat.reduceMul,Nat.reduceLeDiff,Nat.reduceLT,Nat.reduceEqDiff,Nat.reduceBEq,reduceIte,reduceCtorEq,Int.reduceBEq,Int.reduceEq,Int.reduceLT,Int.reduceLE,Int.reduceGT,Int.reduceGE,Int.reduceAdd,Int.reduceSub,Int.reduceNeg,Int.reduceBNe,ite_true,ite_false,if_true,if_false,implies_true,forall_const]<;>rfl
  rw[if_neg c3];rw[if_pos (by omega)]at hg;have hjr:=hj.ext (.map (pK R.2.2)::g);have hmr:bR (ext h1 (.map (pK R.2.2)::g)) (size h1)=some (pK R.2.2):=by rw[bR,cJ rfl];rfl
  by_cases c4:Rz (mL F H.now) R.2.1=true
  ·rw[if_pos c4]
   rw[c4]at hg;have hmv:=abm (F:=F) hjr hb (m:=size h1) (m':=size h1) (J:=⟨H.now,R.2.1,H.bM⟩) hmr ⟨n1,n2,n3⟩ n4 q2 q3 hF lT;obtain⟨v1,v2,v3,v4⟩:=sU hF (J:=⟨H.now,R.2.1,H.bM⟩) q3;generalize F.move sz ⟨H.now,R.2.1,H.bM⟩ R.2.2=M at *;have gj1:=fun F cs=>XS (F:=F) hjr cs
   have l6:∀ n e f v,(jW qa qb sz n e f v)[6]?=some v:=fun _ _ _ _=>rfl
   have adl:ai T base 99 [.ptr (size h) 0,.eL (size h1)] (dZ (ext h1 (.map (pK R.2.2)::g)) p F (size h) (jW qa qb sz H.now H.bM R.2.1 (.eL (size h1))))=_:=hmv;cases hM:M.2.2 with
   | none =>
    have d5:((M.1:Int) != 0)=true:=by have:=v4 hM;simpa using this
    rw[hM]at adl;refine⟨.cells B::.map (pK R.2.2)::g,jC qa qb sz ⟨H.now,R.2.1,H.bM⟩ (size h1),?_,fun J vs hq=>by simp at hq⟩;rw[←e2];simp only[aba,pa,pb,hmin,aa4,YO,fa,fb,fd,gj0,l2,d32,ad3,hg,gj1,l6,adl,d5,↓jV,jX,jY,jZ,Nat.reduceAdd,Nat.reduceSub,Nat.reduceMul,Nat.reduceLeDiff,Nat.reduceLT,Nat.reduceEqDiff,Nat.reduceBEq,reduceIte,reduceCtorEq,Int.reduceBEq,Int.reduceEq,Int.reduceLT,Int.reduceLE,Int.reduceGT,Int.reduceGE,Int.reduceAdd,Int.reduceSub,Int.reduceNeg,Int.reduceBNe,ite_true,ite_false,if_true,if_false,implies_true,forall_const]<;>rfl
   | some J' =>
    obtain⟨w1,w2,w3,w4,w5⟩:=v3 J' hM;have d5:((M.1:Int) != 0)=false:=by rw[w1];rfl
    rw[hM]at adl;refine⟨.cells B::.map (pK R.2.2)::g,jC qa qb sz J' (size h1),?_,fun J vs hq=>?_⟩
    ·rw[←e2]
     simp only[aba,pa,pb,hmin,aa4,YO,fa,fb,fd,gj0,l2,d32,ad3,hg,gj1,l6,adl,d5,↓jV,jX,jY,jZ,Nat.reduceAdd,Nat.reduceSub,Nat.reduceMul,Nat.reduceLeDiff,Nat.reduceLT,Nat.reduceEqDiff,Nat.reduceBEq,reduceIte,reduceCtorEq,Int.reduceBEq,Int.reduceEq,Int.reduceLT,Int.reduceLE,Int.reduceGT,Int.reduceGE,Int.reduceAdd,Int.reduceSub,Int.reduceNeg,Int.reduceBNe,ite_true,ite_false,if_true,if_false,implies_true,forall_const]
    ·simp only[Option.map_some,Option.some.injEq,Prod.mk.injEq]at hq
     obtain⟨rfl,rfl⟩:=hq;rw[←e2];exact⟨_,⟨hjr,hmr,⟨n1,n2,n3⟩,n4,q2,q3,v1,by rw[w2];simp only;omega,by omega⟩,rfl⟩
  ·rw[if_neg c4]
   have c4':Rz (mL F H.now) R.2.1=false:=by simpa using c4
   rw[c4']at hg;refine⟨.cells B::.map (pK R.2.2)::g,jC qa qb sz ⟨H.now,R.2.1,H.bM⟩ (size h1),?_,fun J vs hq=>?_⟩
   ·rw[←e2]
    simp only[aba,pa,pb,hmin,aa4,YO,fa,fb,fd,gj0,l2,d32,ad3,hg,↓jV,jX,jY,jZ,Nat.reduceAdd,Nat.reduceSub,Nat.reduceMul,Nat.reduceLeDiff,Nat.reduceLT,Nat.reduceEqDiff,Nat.reduceBEq,reduceIte,reduceCtorEq,Int.reduceBEq,Int.reduceEq,Int.reduceLT,Int.reduceLE,Int.reduceGT,Int.reduceGE,Int.reduceAdd,Int.reduceSub,Int.reduceNeg,Int.reduceBNe,ite_true,ite_false,if_true,if_false,implies_true,forall_const]<;>rfl
   ·simp only[Option.some.injEq,Prod.mk.injEq]at hq
    obtain⟨rfl,rfl⟩:=hq;rw[←e2];exact⟨_,⟨hjr,hmr,⟨n1,n2,n3⟩,n4,q2,q3,hF,lT,by simp only;omega⟩,rfl⟩
end Go.Am.Qd
namespace Go.Am.Qd
def NC (F:Fl):Prop:=F.left=-1∧F.down=false
def fX (F:Fl) (a n:Nat):Prop:=∀ i,a≤i→i<a+n→F.b.getD i 0=255
def Out (F G:Fl) (a n:Nat):Prop:=∀ i,(i<a∨a+n≤i)→G.b.getD i 0=F.b.getD i 0
theorem fX.sub {F:Fl} {a n a' n':Nat} (h:fX F a n) (h1:a≤a') (h2:a'+n'≤a+n):fX F a' n':=fun i q1 q2=>h i (by omega) (by omega)
theorem Out.sub {F G:Fl} {a n a' n':Nat} (h:Out F G a n) (h1:a'≤a) (h2:a+n≤a'+n'):Out F G a' n':=fun i q=>h i (by omega)
theorem Out.trans {F G H:Fl} {a n:Nat} (h:Out F G a n) (h':Out G H a n):Out F H a n:=fun i q=>(h' i q).trans (h i q)
theorem fX.out {F G:Fl} {a n a' n':Nat} (h:fX F a n) (ho:Out F G a' n') (hd:a+n≤a'∨a'+n'≤a):fX G a n:=fun i q1 q2=>by
 rw[ho i (by omega)];exact h i q1 q2
theorem sV:∀ (l:List UInt8) {F:Fl} (i:Nat),NC F→i+l.length≤F.b.length→(F.prog i l).1=0∧NC (F.prog i l).2 ∧
  ∀ j,(F.prog i l).2.b.getD j 0=if i≤j∧j<i+l.length then l.getD (j-i) 0 else F.b.getD j 0
 | [],F,i,hn,hl=>⟨rfl,hn,fun j=>by rw[if_neg (by simp)];rfl⟩
 | c::r,F,i,hn,hl=>by
  simp only[List.length_cons]at hl;have ht:F.cD i c=(true,{ F with left:=F.left,b:=F.b.set i c,dh:=min (F.dh+1) 1073741824 }):=by
   unfold Fl.cD;rw[if_neg (by rw[hn.1];omega),if_neg (by rw[hn.1];omega)]
  have hn':NC (F.cD i c).2:=by rw[ht];exact hn
  obtain⟨h1,h2,h3⟩:=sV r (i+1) hn' (by rw[ht];simp;omega);have hq:F.prog i (c::r)=(F.cD i c).2.prog (i+1) r:=by rw[Fl.prog,if_pos (by rw[ht])]
  rw[hq];refine⟨h1,h2,fun j=>?_⟩;rw[h3 j,ht];simp only[List.length_cons]
  by_cases hj:j=i
  ·subst hj
   rw[if_neg (by omega),if_pos (by omega)];have:j<F.b.length:=by omega
   simp[this]
  ·by_cases h4:i+1≤j∧j<i+1+r.length
   ·rw[if_pos h4,if_pos (by omega),show j-i=(j-(i+1))+1 by omega]
    simp
   ·rw[if_neg h4,if_neg (by omega)]
    simp[List.getElem?_set_ne (show i≠j by omega)]
theorem RB {F:Fl} {i:Nat} {l:List UInt8} (hn:NC F) (hl:i+l.length≤F.b.length):Out F (F.prog i l).2 i l.length:=fun j q=>by
 rw[(sV l i hn hl).2.2 j,if_neg (by omega)]
theorem rE {F:Fl} {a:Nat} {l:List UInt8} (h:fX F a l.length):F.clears a l=true:=by
 unfold Fl.clears;rw[List.all_eq_true];rintro⟨c,i⟩ hm;have hi:=List.mem_zipIdx hm;simp only[Nat.zero_add]at hi;have:=h (a+i) (by omega) (by omega);simp only[this];have:c &&& ~~~ (255:UInt8)=0:=by
  have : ~~~ (255:UInt8)=0:=by decide
  rw[this];simp
 rw[this];rfl
theorem nR {F:Fl} {a:Nat} {l:List UInt8} (hn:NC F) (hl:a+l.length≤F.b.length) (h:fX F a l.length):(F.program a l).1=0∧NC (F.program a l).2∧Out F (F.program a l).2 a l.length:=by
 have hq:F.program a l=F.prog a l:=by
  unfold Fl.program;rw[if_neg (by rw[hn.2];simp),if_pos (rE h)]
 rw[hq];obtain⟨h1,h2,h3⟩:=sV l a hn hl;exact⟨h1,h2,RB hn hl⟩
theorem RC {F:Fl} {a:Nat} {l:List UInt8} (hF:gL F) (hn:NC F) (hl:a+(l.length+1)≤F.b.length) (h:fX F a (l.length+1)):(F.lay a l).1=0∧NC (F.lay a l).2∧Out F (F.lay a l).2 a (l.length+1):=by
 obtain⟨h1,h2,h3⟩:=nR (l:=l) hn (by omega) (h.sub (Nat.le_refl _) (by omega));obtain⟨g1,g2,g3,g4⟩:=hF.program a l;unfold Fl.lay;rw[if_pos h1];obtain⟨k1,k2,k3⟩:=nR (F:=(F.program a l).2) (a:=a+l.length) (l:=[0]) h2 (by rw[g2];simp;omega) ((h.sub (a':=a+l.length) (n':=1) (by omega) (by omega)).out h3 (.inr (Nat.le_refl _)));exact⟨k1,k2,(h3.sub (Nat.le_refl _) (by omega)).trans (k3.sub (by omega) (by simp;omega))⟩
theorem LW (A:Nat) (vs:Vs):∀ (ks:List Nat) {F:Fl} (a:Nat),gL F→NC F→A+a+j9 vs ks≤F.b.length→fX F (A+a) (j9 vs ks) →
  (F.fill A a vs ks).2.1=0∧NC (F.fill A a vs ks).2.2∧Out F (F.fill A a vs ks).2.2 (A+a) (j9 vs ks)
 | [],F,a,hF,hn,hl,h=>⟨rfl,hn,fun _ _=>rfl⟩
 | k::r,F,a,hF,hn,hl,h=>by
  have hs:j9 vs (k::r)=(7+(vB ((cO vs k).getD none)).length)+j9 vs r:=by simp[j9]
  rw[hs]at hl h;have hbl:(dD (UInt8.ofNat k) (vB ((cO vs k).getD none)) false).length=(vB ((cO vs k).getD none)).length+6:=eD _ _ _;unfold Fl.fill;generalize (vB ((cO vs k).getD none))=v at *;generalize dD (UInt8.ofNat k) v false=bd at *;obtain⟨h1,h2,h3⟩:=RC (F:=F) (a:=A+a) (l:=bd) hF hn (by omega) (h.sub (Nat.le_refl _) (by omega));obtain⟨g1,g2,g3,g4⟩:=hF.lay (A+a) bd;rw[if_pos h1];obtain⟨k1,k2,k3⟩:=LW A vs r (a+(7+v.length)) g1 h2 (by rw[g2];omega) ((h.sub (a':=A+(a+(7+v.length))) (n':=j9 vs r) (by omega) (by omega)).out h3 (.inr (by omega)));rw[hs];exact⟨k1,k2,(h3.sub (Nat.le_refl _) (by omega)).trans (k3.sub (by omega) (by omega))⟩
theorem AN {F:Fl} {s:Nat} (hn:NC F) (hl:s*F.aj+F.aj≤F.b.length):(F.erase s).1=0∧NC (F.erase s).2∧fX (F.erase s).2 (s*F.aj) F.aj∧Out F (F.erase s).2 (s*F.aj) F.aj:=by
 unfold Fl.erase;rw[if_neg (by rw[hn.2];simp)];obtain⟨h1,h2,h3⟩:=sV (List.replicate F.aj 255) (F:={ F with bN:=F.bN.set s (min (F.bN.getD s 0+1) 1073741824) }) (s*F.aj) hn (by simpa using hl);refine⟨h1,h2,fun i q1 q2=>?_,fun i q=>?_⟩
 ·rw[h3 i,List.length_replicate,if_pos ⟨q1,q2⟩]
  have:i-s*F.aj<F.aj:=by omega
  simp[this]
 ·rw[h3 i,List.length_replicate,if_neg (by omega)]
theorem Og {F:Fl} {s:Nat} (hF:gL F) (hn:NC F) (hw:s+2≤F.bN.length) (hl:(s+2)*F.aj≤F.b.length):(F.clear s 2).1=0∧NC (F.clear s 2).2∧fX (F.clear s 2).2 (s*F.aj) (2*F.aj)∧Out F (F.clear s 2).2 (s*F.aj) (2*F.aj):=by
 have e1:(s+1)*F.aj=s*F.aj+F.aj:=Nat.succ_mul _ _;have e2:(s+2)*F.aj=s*F.aj+2*F.aj:=Nat.add_mul _ _ _;obtain⟨h1,h2,h3,h4⟩:=AN (F:=F) (s:=s) hn (by omega);obtain⟨g1,g2,g3,g4⟩:=hF.erase s (by omega);obtain⟨k1,k2,k3,k4⟩:=AN (F:=(F.erase s).2) (s:=s+1) h2 (by rw[g4,g2];omega);rw[g4,e1]at k3 k4;have hq:F.clear s 2=(0,((F.erase s).2.erase (s+1)).2):=by
  rw[Fl.clear,if_pos h1,Fl.clear,if_pos k1];rfl
 rw[hq];refine⟨rfl,k2,fun i q1 q2=>?_,fun i q=>?_⟩
 ·by_cases hi:i<s*F.aj+F.aj
  ·rw[k4 i (by omega)];exact h3 i q1 hi
  ·exact k3 i (by omega) (by omega)
 ·rw[k4 i (by omega),h4 i (by omega)]
end Go.Am.Qd
namespace Go.Am.Qd
theorem RD (vs:Vs):8≤cY vs:=by unfold cY;omega
theorem DU {F:Fl} {sz:Nat} (hF:Fq F sz) (hn:NC F) {J:Jn} (lT:J.now≤1) {vs:Vs} (hk:Keyed vs) (hsz:cY vs≤sz) (hep:J.bM≠4294967295#32) :
  ∃ F',F.move sz J vs=(0,F',some ⟨1-J.now,cY vs,J.bM+1#32⟩)∧NC F'∧fX F' (2*(1-J.now)*F.aj+cY vs) (sz-cY vs)∧Out F F' (2*(1-J.now)*F.aj) sz:=by
 have hs:=hF.sz;have hlen:=hF.len;have hpos:=hF.pos;have hge:=RD vs;have hA:2*(1-J.now)*F.aj+2*F.aj≤F.b.length:=by
  have:=Nat.mul_le_mul_right F.aj (show 2*(1-J.now)+2≤4 by omega);rw[Nat.add_mul]at this;omega
 obtain⟨c1,c2,c3,c4⟩:=Og (F:=F) (s:=2*(1-J.now)) hF.fin hn (by have:=hF.bN;omega) (by rw[Nat.add_mul];exact hA);obtain⟨f1,s1⟩:=hF.clear (2*(1-J.now)) 2 (by omega);have l1:=f1.len;have r1:=f1.room (n:=2*(1-J.now)) (by omega);rw[s1]at r1;have hsum:=kV hk;obtain⟨d1,d2,d3⟩:=LW (2*(1-J.now)*F.aj) vs (fy vs) (F:=(F.clear (2*(1-J.now)) 2).2) 8 f1.fin c2 (by omega) (c3.sub (by omega) (by omega));obtain⟨f2,s2⟩:=f1.fill (2*(1-J.now)*F.aj) 8 vs (fy vs);have l2:=f2.len;have r2:=f2.room (n:=2*(1-J.now)) (by omega);rw[s2,s1]at r2;have hb4:(br (J.bM+1#32)).length=4:=rfl;have c3':=c3.sub (a':=2*(1-J.now)*F.aj) (n':=8) (Nat.le_refl _) (by omega);have z1:=c3'.out d3 (.inl (by omega));unfold Fl.move;rw[if_neg (by omega),if_neg hep];simp only;rw[if_neg (by omega)];generalize hG:(F.clear (2*(1-J.now)) 2).2.fill (2*(1-J.now)*F.aj) 8 vs (fy vs)=G at *;have hend:G.1=cY vs:=by rw[←hsum,←hG];exact sS _ _ _ _ (by rw[hG];exact d1)
 rw[if_neg (by omega)];obtain⟨e1,e2,e3⟩:=nR (F:=G.2.2) (a:=2*(1-J.now)*F.aj+1) (l:=br (J.bM+1#32)) d2 (by rw[hb4];omega) (z1.sub (by omega) (by rw[hb4];omega));obtain⟨f3,s3⟩:=f2.program (2*(1-J.now)*F.aj+1) (br (J.bM+1#32));have l3:=f3.len;have r3:=f3.room (n:=2*(1-J.now)) (by omega);rw[s3,s2,s1]at r3;rw[if_neg (by omega)];generalize hW:G.2.2.program (2*(1-J.now)*F.aj+1) (br (J.bM+1#32))=W at *;rw[hb4]at e3;have z2:=(z1.sub (a':=2*(1-J.now)*F.aj+0) (n':=1) (by omega) (by omega)).out e3 (.inl (by omega));obtain⟨g1,g2,g3⟩:=nR (F:=W.2) (a:=2*(1-J.now)*F.aj+0) (l:=[0]) e2 (by simp;omega) z2;rw[if_neg (by omega),hend];refine⟨_,rfl,g2,?_,?_⟩
 ·have y1:=(c3.sub (a':=2*(1-J.now)*F.aj+cY vs) (n':=sz-cY vs) (by omega) (by omega)).out d3 (.inr (by omega))
  have y2:=y1.out e3 (.inr (by omega));exact y2.out g3 (.inr (by simp;omega))
 ·have o1:=c4.sub (a':=2*(1-J.now)*F.aj) (n':=sz) (Nat.le_refl _) (by omega)
  have o2:=d3.sub (a':=2*(1-J.now)*F.aj) (n':=sz) (by omega) (by omega);have o3:=e3.sub (a':=2*(1-J.now)*F.aj) (n':=sz) (by omega) (by omega);have o4:=g3.sub (a':=2*(1-J.now)*F.aj) (n':=sz) (by omega) (by simp;omega);exact((o1.trans o2).trans o3).trans o4
def JI (F:Fl) (J:Jn) (sz:Nat):Prop:=NC F∧fX F (2*J.now*F.aj+J.fin) (sz-J.fin)
theorem RE {F:Fl} {sz:Nat} (hF:Fq F sz) {J:Jn} (lT:J.now≤1) (hfin:J.fin≤sz) (hj:JI F J sz) {b:List UInt8} {vs:Vs} (hk:Keyed vs) (hsz:cY vs≤sz) (hep:J.bM≠4294967295#32) :
  ∃ F' J',F.gh sz J b vs=(0,F',some J')∧Fq F' sz∧F'.aj=F.aj∧JI F' J' sz∧J'.now≤1∧J'.fin≤sz ∧
   (if sz-J.fin<b.length+1 then J'.fin=cY vs∧J'.bM=J.bM+1#32 else J'.fin=J.fin+(b.length+1)∧J'.bM=J.bM):=by
 have hs:=hF.sz;have hlen:=hF.len;unfold Fl.gh;rw[if_neg (by omega)]
 by_cases h1:sz-J.fin<b.length+1
 ·rw[if_pos h1]
  simp only[if_pos h1];obtain⟨v1,v2,v3,v4⟩:=sU hF (J:=J) hk;obtain⟨F',e1,e2,e3,e4⟩:=DU hF hj.1 lT hk hsz hep;rw[e1]at v1 v2;simp only at v1 v2;exact⟨F',_,e1,v1,v2,⟨e2,by rw[v2];exact e3⟩,by simp only;omega,hsz,rfl,rfl⟩
 ·rw[if_neg h1]
  simp only[if_neg h1];have hA:2*J.now*F.aj+2*F.aj≤F.b.length:=by
   have:=Nat.mul_le_mul_right F.aj (show 2*J.now+2≤4 by omega);rw[Nat.add_mul]at this;omega
  obtain⟨l1,l2,l3⟩:=RC (F:=F) (a:=2*J.now*F.aj+J.fin) (l:=b) hF.fin hj.1 (by omega) (hj.2.sub (Nat.le_refl _) (by omega));obtain⟨f1,s1⟩:=hF.lay (2*J.now*F.aj+J.fin) b;rw[if_neg (by omega)];refine⟨_,_,rfl,f1,s1,⟨l2,?_⟩,lT,by simp only;omega,rfl,rfl⟩;simp only;rw[s1];exact(hj.2.sub (a':=2*J.now*F.aj+(J.fin+(b.length+1))) (n':=sz-(J.fin+(b.length+1))) (by omega) (by omega)).out l3 (.inr (by omega))
/-! ### An erased cV -/
theorem abS {n s:Nat} (h4:4≤n):4*s≤(fl0 n s).b.length:=by
 show 4*s≤(List.replicate (n*s) (255:UInt8)).length;rw[List.length_replicate];exact Nat.mul_le_mul_right s h4
theorem fq0 {n s:Nat} (h4:4≤n) (HL:n≤64) (h1:16≤s) (h2:s≤4096):Fq (fl0 n s) (2*s):=by
 have hm:n*s≤64*4096:=Nat.mul_le_mul HL h2;exact⟨⟨by simp[fl0],by simp[fl0],by simp[fl0];omega,by simp[fl0]⟩,by simp[fl0];omega,abS h4,rfl,h2,h1⟩
theorem nc0 (n s:Nat):NC (fl0 n s):=⟨rfl,rfl⟩
theorem XW {n s:Nat} (h4:4≤n) (h1:16≤s):AM (fl0 n s) 0 0#32=⟨false,0,0#32⟩:=by
 have hg:∀ i,i≤1→(mL (fl0 n s) i).getD 0 0=255:=by
  intro i hi;have hb:(fl0 n s).b=List.replicate (n*s) 255:=rfl;have h2:2*i*s≤2*s:=Nat.mul_le_mul_right _ (by omega);have h3:4*s≤n*s:=Nat.mul_le_mul_right s h4;unfold mL;rw[hb,List.drop_replicate,List.take_replicate];have e:(fl0 n s).aj=s:=rfl;rw[e];have:0<min (2*s) (n*s-2*i*s):=by omega
  simp[this]
 have hl:∀ (st:Hd) i,i≤1→st.look (fl0 n s) i=st:=by
  intro st i hi;unfold Hd.look;rw[if_neg];rw[hg i hi];rintro⟨q,_⟩;exact absurd q (by decide)
 unfold AM;rw[hl _ 0 (by omega),hl _ 1 (by omega)]
end Go.Am.Qd
namespace Go.Am.Qd
theorem jJ {l l':List UInt8} {j:Nat} (h:j<l.length):(l++l').getD j 0=l.getD j 0:=by simp[List.getElem?_append_left h]
theorem mw {l l':List UInt8} {j:Nat} (h:l.length≤j):(l++l').getD j 0=l'.getD (j-l.length) 0:=by simp[List.getElem?_append_right h]
def Wr (F G:Fl) (a:Nat) (l:List UInt8) (k:Nat):Prop:=∀ j,G.b.getD j 0=if a≤j∧j<a+k then l.getD (j-a) 0 else F.b.getD j 0
def En (e:Nat) (G:Fl) (k n:Nat):Prop:=(e=0∧k=n∧G.down=false)∨(e=30∧k<n∧G.down=true)
theorem Wr.out {F G:Fl} {a k n:Nat} {l:List UInt8} (h:Wr F G a l k) (hk:k≤n):Out F G a n:=fun i q=>by rw[h i,if_neg (by omega)]
theorem En.le {e k n:Nat} {G:Fl} (h:En e G k n):k≤n:=by rcases h with h | h<;>omega
theorem Wr.zero (F:Fl) (a:Nat) (l:List UInt8):Wr F F a l 0:=fun j=>by rw[if_neg (by omega)]
theorem AO:∀ (l:List UInt8) {F:Fl} (i:Nat),gL F→F.down=false→i+l.length≤F.b.length→∃ k,Wr F (F.prog i l).2 i l k∧En (F.prog i l).1 (F.prog i l).2 k l.length
 | [],F,i,hF,hd,hl=>⟨0,Wr.zero F i [],.inl ⟨rfl,rfl,hd⟩⟩
 | c::r,F,i,hF,hd,hl=>by
  simp only[List.length_cons]at hl
  by_cases h0:F.left=0
  ·have ht:F.cD i c=(false,{ F with down:=true }):=by unfold Fl.cD;rw[if_pos h0]
   have hq:F.prog i (c::r)=(30,{ F with down:=true }):=by rw[Fl.prog,if_neg (by rw[ht];simp),ht]
   rw[hq];exact⟨0,fun j=>by rw[if_neg (by omega)],.inr ⟨rfl,by simp,rfl⟩⟩
  ·obtain⟨t1,t2,t3,t4⟩:=hF.cD i c
   have ht1:(F.cD i c).1=true:=by unfold Fl.cD;rw[if_neg h0]
   have htb:(F.cD i c).2.b=F.b.set i c:=by unfold Fl.cD;rw[if_neg h0]
   have htd:(F.cD i c).2.down=false:=by unfold Fl.cD;rw[if_neg h0];exact hd
   obtain⟨k,k1,k2⟩:=AO r (i+1) t1 htd (by rw[t2];omega);have hq:F.prog i (c::r)=(F.cD i c).2.prog (i+1) r:=by rw[Fl.prog,if_pos ht1]
   rw[hq];have hkl:=k2.le;refine⟨k+1,fun j=>?_,?_⟩
   ·rw[k1 j,htb]
    by_cases hj:j=i
    ·subst hj
     rw[if_neg (by omega),if_pos (by omega)];have:j<F.b.length:=by omega
     simp[this]
    ·by_cases h4:i+1≤j∧j<i+1+k
     ·rw[if_pos h4,if_pos (by omega),show j-i=(j-(i+1))+1 by omega]
      simp
     ·rw[if_neg h4,if_neg (by omega)]
      simp[List.getElem?_set_ne (show i≠j by omega)]
   ·rcases k2 with⟨e1,e2,e3⟩ | ⟨e1,e2,e3⟩
    ·exact .inl ⟨e1,by simp[e2],e3⟩
    ·exact .inr ⟨e1,by simp;omega,e3⟩
theorem mz {F:Fl} {a:Nat} {l:List UInt8} (hF:gL F) (hd:F.down=false) (hl:a+l.length≤F.b.length) (h:fX F a l.length):∃ k,Wr F (F.program a l).2 a l k∧En (F.program a l).1 (F.program a l).2 k l.length:=by
 have hq:F.program a l=F.prog a l:=by
  unfold Fl.program;rw[if_neg (by rw[hd];simp),if_pos (rE h)]
 rw[hq];exact AO l a hF hd hl
theorem Wr.seq {F G H:Fl} {a k:Nat} {l l':List UInt8} (h1:Wr F G a l l.length) (h2:Wr G H (a+l.length) l' k):Wr F H a (l++l') (l.length+k):=fun j=>by
 rw[h2 j]
 by_cases q1:a+l.length≤j∧j<a+l.length+k
 ·rw[if_pos q1,if_pos (by omega),mw (by omega),Nat.sub_sub]
 ·rw[if_neg q1,h1 j]
  by_cases q2:a≤j∧j<a+l.length
  ·rw[if_pos q2,if_pos (by omega),jJ (by omega)]
  ·rw[if_neg q2,if_neg (by omega)]
theorem Wr.pre {F G:Fl} {a k:Nat} {l:List UInt8} (l':List UInt8) (h:Wr F G a l k) (hk:k≤l.length):Wr F G a (l++l') k:=fun j=>by
 rw[h j]
 by_cases q:a≤j∧j<a+k
 ·rw[if_pos q,if_pos q,jJ (by omega)]
 ·rw[if_neg q,if_neg q]
theorem DV {F:Fl} {a:Nat} {l l':List UInt8} {p1:Nat × Fl} {p2:Nat × Fl} {r:Nat × Fl} (h1:∃ k,Wr F p1.2 a l k∧En p1.1 p1.2 k l.length) (h2:p1.1=0→p1.2.down=false→Wr F p1.2 a l l.length→∃ k,Wr p1.2 p2.2 (a+l.length) l' k∧En p2.1 p2.2 k l'.length)
  (h3:p1.1=0→r=p2) (h4:p1.1≠0→r=p1):∃ k,Wr F r.2 a (l++l') k∧En r.1 r.2 k (l++l').length:=by
 obtain⟨k,k1,k2⟩:=h1;rcases k2 with⟨e1,rfl,e3⟩ | ⟨e1,e2,e3⟩
 ·obtain⟨k',m1,m2⟩:=h2 e1 e3 k1
  rw[h3 e1];refine⟨l.length+k',k1.seq m1,?_⟩;rw[List.length_append];rcases m2 with⟨f1,f2,f3⟩ | ⟨f1,f2,f3⟩
  ·exact .inl ⟨f1,by omega,f3⟩
  ·exact .inr ⟨f1,by omega,f3⟩
 ·rw[h4 (by omega)]
  refine⟨k,k1.pre l' (by omega),.inr ⟨e1,by rw[List.length_append];omega,e3⟩⟩
theorem LX {F:Fl} {a:Nat} {l:List UInt8} (hF:gL F) (hd:F.down=false) (hl:a+(l.length+1)≤F.b.length) (h:fX F a (l.length+1)):∃ k,Wr F (F.lay a l).2 a (l++[0]) k∧En (F.lay a l).1 (F.lay a l).2 k (l.length+1):=by
 obtain⟨g1,g2,g3,g4⟩:=hF.program a l;have h1:=mz (l:=l) hF hd (by omega) (h.sub (Nat.le_refl _) (by omega));have:=DV (l':=[0]) (p2:=(F.program a l).2.program (a+l.length) [0]) (r:=F.lay a l) h1 (fun e1 e2 e3=>mz (l:=[0]) g1 e2 (by rw[g2];simp;omega) ((h.sub (a':=a+l.length) (n':=1) (by omega) (by omega)).out (e3.out (Nat.le_refl _)) (.inr (Nat.le_refl _))))
  (fun e=>by unfold Fl.lay;rw[if_pos e]) (fun e=>by unfold Fl.lay;rw[if_neg e])
 simpa using this
def ou (vs:Vs) (ks:List Nat):List UInt8:=ks.flatMap fun k=>dD (UInt8.ofNat k) (vB ((cO vs k).getD none)) false++[0]
theorem AP (vs:Vs) (k:Nat) (ks:List Nat):ou vs (k::ks)=(dD (UInt8.ofNat k) (vB ((cO vs k).getD none)) false++[0])++ou vs ks:=rfl
theorem kR (vs:Vs):∀ ks:List Nat,(ou vs ks).length=j9 vs ks
 | []=>rfl
 | k::ks=>by
  rw[AP,List.length_append,kR vs ks,List.length_append,eD];simp[j9];omega
theorem G9 (A:Nat) (vs:Vs):∀ (ks:List Nat) {F:Fl} (a:Nat),gL F→F.down=false→A+a+j9 vs ks≤F.b.length→fX F (A+a) (j9 vs ks) →
  ∃ k,Wr F (F.fill A a vs ks).2.2 (A+a) (ou vs ks) k∧En (F.fill A a vs ks).2.1 (F.fill A a vs ks).2.2 k (ou vs ks).length
 | [],F,a,hF,hd,hl,h=>⟨0,Wr.zero _ _ _,.inl ⟨rfl,rfl,hd⟩⟩
 | k::r,F,a,hF,hd,hl,h=>by
  have hs:j9 vs (k::r)=(7+(vB ((cO vs k).getD none)).length)+j9 vs r:=by simp[j9]
  rw[hs]at hl h;have hbl:(dD (UInt8.ofNat k) (vB ((cO vs k).getD none)) false).length=(vB ((cO vs k).getD none)).length+6:=eD _ _ _;rw[AP];unfold Fl.fill;generalize (vB ((cO vs k).getD none))=v at *;generalize dD (UInt8.ofNat k) v false=bd at *;have h1:=LX (F:=F) (a:=A+a) (l:=bd) hF hd (by omega) (h.sub (Nat.le_refl _) (by omega));have hl1:(bd++[(0:UInt8)]).length=bd.length+1:=by simp
  rw[←hl1]at h1;obtain⟨g1,g2,g3,g4⟩:=hF.lay (A+a) bd;refine DV (p1:=F.lay (A+a) bd) (p2:=((F.lay (A+a) bd).2.fill A (a+(7+v.length)) vs r).2) h1 (fun e1 e2 e3=>?_) (fun e=>by rw[if_pos e]) (fun e=>by rw[if_neg e]);have:=G9 A vs r (a+(7+v.length)) g1 e2 (by rw[g2];omega) ((h.sub (a':=A+(a+(7+v.length))) (n':=j9 vs r) (by omega) (by omega)).out (e3.out (Nat.le_refl _)) (.inr (by rw[hl1];omega)));rw[show A+a+(bd++[(0:UInt8)]).length=A+(a+(7+v.length)) by rw[hl1];omega];exact this
theorem Cx {F:Fl} {s:Nat} (hF:gL F) (hs:s<F.bN.length) (hd:F.down=false) (hl:s*F.aj+F.aj≤F.b.length):∃ k,Wr F (F.erase s).2 (s*F.aj) (List.replicate F.aj 255) k∧En (F.erase s).1 (F.erase s).2 k (List.replicate F.aj (255:UInt8)).length:=by
 have HG:gL { F with bN:=F.bN.set s (min (F.bN.getD s 0+1) 1073741824) }:=⟨hF.dh,hF.left,hF.len,fun n hn=>by
  rcases List.mem_or_eq_of_mem_set hn with h1 | rfl
  ·exact hF.bN n h1
  ·exact Nat.min_le_right _ _⟩
 obtain⟨k,h1,h2⟩:=AO (List.replicate F.aj 255) (s*F.aj) HG hd (by simpa using hl);unfold Fl.erase;rw[if_neg (by rw[hd];simp)];exact⟨k,h1,h2⟩
theorem Kq {F:Fl} {s:Nat} (hF:gL F) (hd:F.down=false) (hw:s+2≤F.bN.length) (hl:(s+2)*F.aj≤F.b.length) :
  ∃ k,Wr F (F.clear s 2).2 (s*F.aj) (List.replicate (2*F.aj) 255) k∧En (F.clear s 2).1 (F.clear s 2).2 k (2*F.aj):=by
 have e1:(s+1)*F.aj=s*F.aj+F.aj:=Nat.succ_mul _ _;have e2:(s+2)*F.aj=s*F.aj+2*F.aj:=Nat.add_mul _ _ _;have h1:=Cx (F:=F) (s:=s) hF (by omega) hd (by omega);obtain⟨g1,g2,g3,g4⟩:=hF.erase s (by omega);have hr:List.replicate F.aj (255:UInt8)++List.replicate F.aj 255=List.replicate (2*F.aj) 255:=by rw[List.replicate_append_replicate];congr 1;omega
 have hlen:(List.replicate F.aj (255:UInt8)).length=F.aj:=by simp
 have:=DV (p2:=(F.erase s).2.erase (s+1)) (r:=F.clear s 2) (l':=List.replicate F.aj 255) h1 (fun a1 a2 a3=>by
   have:=Cx (F:=(F.erase s).2) (s:=s+1) g1 (by rw[g3];omega) a2 (by rw[g4,g2];omega);rw[g4,e1]at this;rw[hlen]at this ⊢;exact this)
  (fun e=>by
   rw[Fl.clear,if_pos e,Fl.clear];split
   ·rename_i q;rw[show(F.erase s).2.erase (s+1)=(((F.erase s).2.erase (s+1)).1,((F.erase s).2.erase (s+1)).2) from rfl,q];rfl
   ·rfl) (fun e=>by rw[Fl.clear,if_neg e])
 rw[hr]at this;simpa using this
def At (F:Fl) (a:Nat) (l:List UInt8):Prop:=∀ j,j<l.length→F.b.getD (a+j) 0=l.getD j 0
theorem Wr.at {F G:Fl} {a:Nat} {l:List UInt8} (h:Wr F G a l l.length):At G a l:=fun j hj=>by
 rw[h (a+j),if_pos (by omega)];congr 1;omega
theorem At.out {F G:Fl} {a a' n:Nat} {l:List UInt8} (h:At F a l) (ho:Out F G a' n) (hd:a+l.length≤a'∨a'+n≤a):At G a l:=fun j hj=>by
 rw[ho (a+j) (by omega)];exact h j hj
theorem At.append {F:Fl} {a:Nat} {l l':List UInt8} (h1:At F a l) (h2:At F (a+l.length) l'):At F a (l++l'):=fun j hj=>by
 rw[List.length_append]at hj
 by_cases q:j<l.length
 ·rw[jJ q];exact h1 j q
 ·rw[mw (by omega),←h2 (j-l.length) (by omega)];congr 1;omega
theorem At.cons {F:Fl} {a:Nat} {c:UInt8} {l:List UInt8} (h1:F.b.getD a 0=c) (h2:At F (a+1) l):At F a (c::l):=fun j hj=>by
 cases j with
 | zero=>simpa using h1
 | succ j =>
  have:=h2 j (by simpa using hj);rw[show a+(j+1)=a+1+j by omega,this];simp
theorem fX.at {F:Fl} {a n:Nat} (h:fX F a n):At F a (List.replicate n 255):=fun j hj=>by
 rw[List.length_replicate]at hj;rw[h (a+j) (by omega) (by omega)];simp[hj]
def HN (ep:BitVec 32):List UInt8:=0::(br ep++List.replicate 3 255)
theorem lP (ep:BitVec 32):(HN ep).length=8:=rfl
theorem Hg {F:Fl} {sz:Nat} (hF:Fq F sz) (hd:F.down=false) {J:Jn} (lT:J.now≤1) {vs:Vs} (hk:Keyed vs) (hsz:cY vs≤sz) (hep:J.bM≠4294967295#32) :
  (∃ F',F.move sz J vs=(0,F',some ⟨1-J.now,cY vs,J.bM+1#32⟩)∧F'.down=false∧Out F F' (2*(1-J.now)*F.aj) sz∧At F' (2*(1-J.now)*F.aj) (HN (J.bM+1#32)++ou vs (fy vs))∧fX F' (2*(1-J.now)*F.aj+cY vs) (sz-cY vs)) ∨
  (∃ F',F.move sz J vs=(30,F',none)∧F'.down=true∧Out F F' (2*(1-J.now)*F.aj) sz∧(F'.b.getD (2*(1-J.now)*F.aj) 0=255∨∀ j,F'.b.getD j 0=F.b.getD j 0)):=by
 have hs:=hF.sz;have hlen:=hF.len;have hpos:=hF.pos;have hge:=RD vs;have hA:2*(1-J.now)*F.aj+2*F.aj≤F.b.length:=by
  have:=Nat.mul_le_mul_right F.aj (show 2*(1-J.now)+2≤4 by omega);rw[Nat.add_mul]at this;omega
 obtain⟨k1,c1,c2⟩:=Kq (F:=F) (s:=2*(1-J.now)) hF.fin hd (by have:=hF.bN;omega) (by rw[Nat.add_mul];exact hA);obtain⟨f1,s1⟩:=hF.clear (2*(1-J.now)) 2 (by omega);have l1:=f1.len;have r1:=f1.room (n:=2*(1-J.now)) (by omega);rw[s1]at r1;have hsum:=kV hk;have hb4:(br (J.bM+1#32)).length=4:=rfl;unfold Fl.move;rw[if_neg (by omega),if_neg hep];simp only;generalize hA0:2*(1-J.now)*F.aj=A at *;rcases c2 with⟨e1,rfl,e3⟩ | ⟨e1,e2,e3⟩
 rotate_left
 ·right
  rw[if_pos (by omega),e1];refine⟨_,rfl,e3,c1.out (by omega),?_⟩;cases k1 with
  | zero=>right;intro j;rw[c1 j,if_neg (by omega)]
  | succ k1=>left;rw[c1 A,if_pos (by omega),Nat.sub_self,List.getD_eq_getElem?_getD,List.getElem?_replicate,if_pos (by omega)];rfl
 rw[if_neg (by omega)];have o1:=c1.out (n:=sz) (by omega);have z0:fX (F.clear (2*(1-J.now)) 2).2 A sz:=fun j q1 q2=>by
  rw[c1 j,if_pos (by omega)];have:j-A<2*F.aj:=by omega
  simp[this]
 generalize hC:(F.clear (2*(1-J.now)) 2).2=C at *;obtain⟨k2,d1,d2⟩:=G9 A vs (fy vs) (F:=C) 8 f1.fin e3 (by omega) (z0.sub (by omega) (by omega));obtain⟨f2,s2⟩:=f1.fill A 8 vs (fy vs);have l2:=f2.len;have r2:=f2.room (n:=2*(1-J.now)) (by omega);rw[s2,s1,hA0]at r2;have amW:=d2.le;rw[kR]at d2 amW;have o2:Out C (C.fill A 8 vs (fy vs)).2.2 (A+8) (cY vs-8):=d1.out (by omega);generalize hG:C.fill A 8 vs (fy vs)=G at *;have o2':Out F G.2.2 A sz:=o1.trans (o2.sub (by omega) (by omega));have z1:fX G.2.2 A 8:=(z0.sub (Nat.le_refl _) (by omega)).out o2 (.inl (by omega));rcases d2 with⟨e4,rfl,e6⟩ | ⟨e4,e5,e6⟩
 rotate_left
 ·right
  rw[if_pos (by omega),e4];exact⟨_,rfl,e6,o2',.inl (z1 A (Nat.le_refl _) (by omega))⟩
 rw[if_neg (by omega)];have hend:G.1=cY vs:=by rw[←hsum,←hG];exact sS _ _ _ _ (by rw[hG];exact e4)
 have amX:At G.2.2 (A+8) (ou vs (fy vs)):=by rw[←kR]at d1;exact d1.at
 have z2:fX G.2.2 (A+cY vs) (sz-cY vs):=(z0.sub (by omega) (by omega)).out o2 (.inr (by omega));obtain⟨k3,p1,p2⟩:=mz (F:=G.2.2) (a:=A+1) (l:=br (J.bM+1#32)) f2.fin e6 (by rw[hb4];omega) (z1.sub (by omega) (by rw[hb4];omega));obtain⟨f3,s3⟩:=f2.program (A+1) (br (J.bM+1#32));have l3:=f3.len;have r3:=f3.room (n:=2*(1-J.now)) (by omega);rw[s3,s2,s1,hA0]at r3;have asd:=p2.le;have o3:Out G.2.2 (G.2.2.program (A+1) (br (J.bM+1#32))).2 (A+1) 4:=p1.out (by omega);generalize hW:G.2.2.program (A+1) (br (J.bM+1#32))=W at *;have o3':Out F W.2 A sz:=o2'.trans (o3.sub (by omega) (by omega));have z3:fX W.2 A 1:=(z1.sub (Nat.le_refl _) (by omega)).out o3 (.inl (by omega));rcases p2 with⟨e7,rfl,e9⟩ | ⟨e7,e8,e9⟩
 rotate_left
 ·right
  rw[if_pos (by omega),e7];exact⟨_,rfl,e9,o3',.inl (z3 A (Nat.le_refl _) (by omega))⟩
 rw[if_neg (by omega)];obtain⟨k4,q1,q2⟩:=mz (F:=W.2) (a:=A+0) (l:=[0]) f3.fin e9 (by simp;omega) z3;have amY:=q2.le;simp only[List.length_singleton]at q2 amY;have o4:Out W.2 (W.2.program (A+0) [0]).2 A 1:=q1.out (by omega);generalize hX:W.2.program (A+0) [0]=X at *;have o4':Out F X.2 A sz:=o3'.trans (o4.sub (by omega) (by omega));rcases q2 with⟨e10,rfl,e12⟩ | ⟨e10,e11,e12⟩
 rotate_left
 ·right
  rw[if_pos (by omega),e10];refine⟨_,rfl,e12,o4',.inl ?_⟩;rw[q1 A,if_neg (by omega)];exact z3 A (Nat.le_refl _) (by omega)
 ·left
  rw[if_neg (by omega),hend];refine⟨_,rfl,e12,o4',?_,(z2.out o3 (.inr (by omega))).out o4 (.inr (by omega))⟩;have m1:At X.2 (A+1) (br (J.bM+1#32)):=(p1.at).out o4 (.inr (Nat.le_refl _));have m2:At X.2 (A+5) (List.replicate 3 255):=fX.at (((z1.sub (a':=A+5) (n':=3) (by omega) (by omega)).out o3 (.inr (by omega))).out o4 (.inr (by omega)));have m3:At X.2 (A+8) (ou vs (fy vs)):=(amX.out o3 (.inr (by omega))).out o4 (.inr (by omega));have m0:X.2.b.getD A 0=0:=by rw[q1 A,if_pos (by omega),show A-(A+0)=0 by omega];rfl
  have hh:At X.2 A (HN (J.bM+1#32)):=At.cons m0 (At.append m1 (by rw[hb4];exact m2));exact At.append hh (by rw[lP];exact m3)
end Go.Am.Qd
namespace Go.Am.Qd
theorem Oh (n:BitVec 32) (k:Nat):(dK n k).toBitVec=(n >>> (8*k)).setWidth 8:=by
 apply BitVec.eq_of_toNat_eq;simp[dK]
theorem mA (n:BitVec 32) (post:List UInt8):jk (br n++post)=n:=by
 have h:jk (br n++post)=((((0#32 ||| ((dK n 0).toBitVec.setWidth 32) <<< (8*0)) ||| ((dK n 1).toBitVec.setWidth 32) <<< (8*1)) ||| ((dK n 2).toBitVec.setWidth 32) <<< (8*2)) ||| ((dK n 3).toBitVec.setWidth 32) <<< (8*3)):=rfl;rw[h];simp only[Oh];apply BitVec.eq_of_getLsbD_eq;intro i hi;simp only[BitVec.getLsbD_or,BitVec.getLsbD_shiftLeft,BitVec.getLsbD_setWidth,BitVec.getLsbD_ushiftRight,BitVec.getLsbD_zero,Bool.false_or]
 by_cases h1:i<8
 ·have a1:i<16:=by omega
  have a2:i<24:=by omega
  simp[h1,a1,a2,hi]
 by_cases h2:i<16
 ·have a2:i<24:=by omega
  have a3:i-8<8:=by omega
  have a4:8+(i-8)=i:=by omega
  simp[h1,h2,a2,a3,a4,hi];omega
 by_cases h3:i<24
 ·have a3:i-16<8:=by omega
  have a4:16+(i-16)=i:=by omega
  have a5:¬ (i-8<8):=by omega
  simp[h1,h2,h3,a3,a4,a5,hi];omega
 ·have a3:i-24<8:=by omega
  have a4:24+(i-24)=i:=by omega
  have a5:¬ (i-8<8):=by omega
  have a6:¬ (i-16<8):=by omega
  simp[h1,h2,h3,a3,a4,a5,a6,hi];omega
theorem AR (l:List UInt8):lK (l++br (mJ l))=true:=by
 have h4:(br (mJ l)).length=4:=rfl;unfold lK;have e1:(l++br (mJ l)).length-4=l.length:=by rw[List.length_append,h4];omega
 rw[e1,List.drop_left' rfl,List.take_left' rfl];have:=mA (mJ l) [];rw[List.append_nil]at this;rw[this];simp[h4]
def yE (k:Nat) (l:List UInt8) (dr:Bool):List UInt8:=dD (UInt8.ofNat k) l dr++[0]
theorem iL (k:Nat) (l:List UInt8) (dr:Bool):(yE k l dr).length=l.length+7:=by simp[yE,eD]
theorem XX (k:Nat) (l:List UInt8) (dr:Bool):(yE k l dr).getD 0 0=UInt8.ofNat k∧(yE k l dr).getD 1 0=(if dr then 254 else UInt8.ofNat l.length):=⟨rfl,rfl⟩
theorem RF (k:Nat) (l:List UInt8) (dr:Bool):(yE k l dr).getD (l.length+6) 0=0:=by
 unfold yE;rw[mw (by rw[eD];exact Nat.le_refl _),eD,Nat.sub_self];rfl
theorem Kr {p q:List UInt8} {j:Nat}:(p++q).getD (p.length+j) 0=q.getD j 0:=by rw[mw (by omega)];congr 1;omega
theorem RG {n:Nat} (hn:n≤250):(UInt8.ofNat n == 254)=false∧(UInt8.ofNat n).toNat=n:=by
 have h:(UInt8.ofNat n).toNat=n:=by rw[UInt8.toNat_ofNat'];omega
 refine⟨?_,h⟩;rw[beq_eq_false_iff_ne];intro hq;rw[hq]at h;have:(254:UInt8).toNat=254:=rfl;omega
theorem U1 {k:Nat} (hk:k<32):¬ (32≤UInt8.ofNat k)∧(UInt8.ofNat k).toNat=k:=by
 have h:(UInt8.ofNat k).toNat=k:=by rw[UInt8.toNat_ofNat'];omega
 refine⟨fun hq=>?_,h⟩;have:=UInt8.le_iff_toNat_le.1 hq;have Yw:(32:UInt8).toNat=32:=rfl;omega
theorem RH (pre post:List UInt8) {k:Nat} (hk:k<32) {l:List UInt8} (hl:l.length≤250) {dr:Bool} (hd:dr=true→l=[]) :
  vw (pre++(yE k l dr++post)) pre.length=some ⟨UInt8.ofNat k,l,dr,pre.length+(l.length+7)⟩∧lK (((pre++(yE k l dr++post)).drop pre.length).take (pre.length+(l.length+7)-1-pre.length))=true:=by
 obtain⟨k1,k2⟩:=U1 hk;obtain⟨n1,n2⟩:=RG hl;have hlen:(pre++(yE k l dr++post)).length=pre.length+((l.length+7)+post.length):=by rw[List.length_append,List.length_append,iL]
 have g0:(pre++(yE k l dr++post)).getD pre.length 0=UInt8.ofNat k:=by
  have:=Kr (p:=pre) (q:=yE k l dr++post) (j:=0);rw[Nat.add_zero]at this;rw[this,jJ (by rw[iL];omega)];rfl
 have g1:(pre++(yE k l dr++post)).getD (pre.length+1) 0=(if dr then 254 else UInt8.ofNat l.length):=by
  rw[Kr,jJ (by rw[iL];omega)];rfl
 have gm:(pre++(yE k l dr++post)).getD (pre.length+(l.length+6)) 0=0:=by
  rw[Kr,jJ (by rw[iL];omega),RF]
 have hb:(if((if dr then(254:UInt8) else UInt8.ofNat l.length) == 254)=true then 0 else(if dr then(254:UInt8) else UInt8.ofNat l.length).toNat)=l.length:=by
  cases dr with
  | true=>rw[hd rfl];rfl
  | false=>simp only[Bool.false_eq_true,if_false,n1,n2]
 have hdr:((if dr then(254:UInt8) else UInt8.ofNat l.length) == 254)=dr:=by
  cases dr with
  | true=>rfl
  | false=>simp only[Bool.false_eq_true,if_false,n1]
 have e1:(pre++(yE k l dr++post)).drop pre.length=yE k l dr++post:=List.drop_left' rfl;have hval:((pre++(yE k l dr++post)).drop (pre.length+2)).take l.length=l:=by
  rw[←List.drop_drop,e1];unfold yE dD;simp
 constructor
 ·unfold vw
  rw[if_neg (by omega),g0,if_neg k1,g1,hb,hdr];unfold LO;rw[if_neg (by omega),if_neg (by omega),show pre.length+7+l.length-1=pre.length+(l.length+6) by omega,if_neg (by rw[gm];simp),hval,show pre.length+7+l.length=pre.length+(l.length+7) by omega]
 ·rw[e1,show pre.length+(l.length+7)-1-pre.length=(dD (UInt8.ofNat k) l dr).length by rw[eD];omega]
  unfold yE;rw[List.append_assoc,List.take_left' rfl];exact AR _
theorem Oi {b:List UInt8} {a m:Nat} {k:Nat} {l:List UInt8} {dr:Bool} (hk:k<32) (hl:l.length≤250) (hd:dr=true→l=[]) (hm:m<l.length+7)
  (hb:∀ j,a+j<b.length→b.getD (a+j) 0=if j<m then(yE k l dr).getD j 0 else 255):vw b a=none:=by
 unfold vw
 by_cases h1:b.length<a+2
 ·rw[if_pos h1]
 rw[if_neg h1];have b0:=hb 0 (by omega);have b1:=hb 1 (by omega);rw[Nat.add_zero]at b0
 by_cases m0:0<m
 ·rw[if_pos m0]at b0
  by_cases m1:1<m
  ·rw[if_pos m1]at b1
   obtain⟨n1,n2⟩:=RG hl;have hn:(if(b.getD (a+1) 0 == 254)=true then 0 else(b.getD (a+1) 0).toNat)=l.length:=by
    rw[b1,(XX k l dr).2];cases dr with
    | true=>rw[hd rfl];rfl
    | false=>simp only[Bool.false_eq_true,if_false,n1,n2]
   rw[hn];split
   ·rfl
   unfold LO;split
   ·rfl
   split
   ·rfl
   rename_i h2;have:=hb (l.length+6) (by omega);rw[if_neg (by omega)]at this;rw[if_pos];rw[show a+7+l.length-1=a+(l.length+6) by omega,this];decide
  ·rw[if_neg m1]at b1
   have hn:(if(b.getD (a+1) 0 == 254)=true then 0 else(b.getD (a+1) 0).toNat)=255:=by rw[b1];rfl
   rw[hn];split
   ·rfl
   ·unfold LO;rw[if_pos (by omega)]
 ·rw[if_neg m0]at b0
  rw[b0,if_pos (by decide)]
/-! ### Rows of records -/
abbrev Rc:=Nat × Option (List UInt8)
def Rc.ok (r:Rc):Prop:=r.1<32∧(r.2.getD []).length≤250
def Rc.b (r:Rc):List UInt8:=yE r.1 (r.2.getD []) r.2.isNone
def Rc.ap (vs:Vs) (r:Rc):Vs:=match r.2 with | none=>lS vs (r.1:Int) | some v=>gK vs r.1 (some v)
def gi (rs:List Rc):List UInt8:=rs.flatMap Rc.b
theorem qo (r:Rc) (rs:List Rc):gi (r::rs)=r.b++gi rs:=rfl
theorem vz (rs ts:List Rc):gi (rs++ts)=gi rs++gi ts:=by simp[gi]
theorem Hh:∀ (rs:List Rc) (pre post:List UInt8) (vs:Vs) (n:Nat),(∀ r∈rs,r.ok)→vw (pre++(gi rs++post)) (pre.length+(gi rs).length)=none→rs.length<n →
  Ry (pre++(gi rs++post)) n pre.length vs=(0,pre.length+(gi rs).length,rs.foldl Rc.ap vs)
 | [],pre,post,vs,n,hr,hn,hlt=>by
  obtain⟨n,rfl⟩ : ∃ m,n=m+1:=⟨n-1,by simp at hlt;omega⟩;simp only[Ry];have:(gi ([] : List Rc)).length=0:=rfl;rw[this,Nat.add_zero]at hn ⊢;rw[hn];rfl
 | r::rs,pre,post,vs,n,hr,hn,hlt=>by
  obtain⟨n,rfl⟩ : ∃ m,n=m+1:=⟨n-1,by simp at hlt;omega⟩;obtain⟨r1,r2⟩:=hr r (by simp);have hdv:r.2.isNone=true→r.2.getD []=[]:=fun h=>by cases hq:r.2<;>simp_all
  obtain⟨p1,p2⟩:=RH pre (gi rs++post) r1 r2 hdv;have e1:pre++(gi (r::rs)++post)=pre++(yE r.1 (r.2.getD []) r.2.isNone++(gi rs++post)):=by rw[qo,List.append_assoc];rfl
  have e2:pre++(yE r.1 (r.2.getD []) r.2.isNone++(gi rs++post))=(pre++r.b)++(gi rs++post):=by rw[List.append_assoc];rfl
  have hbl:r.b.length=(r.2.getD []).length+7:=iL _ _ _;have OD:(pre++r.b).length=pre.length+((r.2.getD []).length+7):=by rw[List.length_append,hbl]
  have hlt2:rs.length<n:=by simp at hlt;omega
  have ih:=Hh rs (pre++r.b) post (r.ap vs) n (fun x hx=>hr x (by simp[hx])) (by
   rw[←e2,←e1,OD];rw[qo,List.length_append,hbl]at hn;rw[←hn];congr 1;omega) hlt2
  rw[e1];simp only[Ry,p1];rw[if_pos p2];rw[e2,←OD];have hap:(if r.2.isNone=true then lS vs ((UInt8.ofNat r.1).toNat:Int) else gK vs (UInt8.ofNat r.1).toNat (some (r.2.getD [])))=r.ap vs:=by
   rw[(U1 r1).2];unfold Rc.ap;cases hq:r.2<;>simp
  rw[hap,ih,List.foldl_cons,OD,qo,List.length_append,hbl];simp only[Prod.mk.injEq,true_and,and_true];omega
theorem Oj (hd:List UInt8) (h8:hd.length=8) (rs:List Rc) (post:List UInt8) (hr:∀ r∈rs,r.ok) (hn:vw (hd++(gi rs++post)) (8+(gi rs).length)=none) :
  RA (hd++(gi rs++post))=(0,8+(gi rs).length,rs.foldl Rc.ap []):=by
 have hlen:∀ rs:List Rc,rs.length≤(gi rs).length:=by
  intro rs
  induction rs with
  | nil=>simp
  | cons r rs ih =>
   have hbl:r.b.length=(r.2.getD []).length+7:=iL _ _ _;rw[qo,List.length_append,List.length_cons,hbl];omega
 have:=Hh rs hd post [] ((hd++(gi rs++post)).length+1) hr (by rw[h8];exact hn) (by have:=hlen rs;rw[List.length_append,List.length_append];omega);rw[h8]at this;exact this
end Go.Am.Qd
namespace Go.Am.Qd
variable {h:Hp}
theorem T8 {x:qv} (hn:cK x.name=true) (hz:x.size≤1048576) (hd:x.dg.length=32) (post:List UInt8):cA (eA x++post)=(x,0):=by
 have hs:=kW hn;have hw:=m6 hs hd;have hA:eA x++post=bk++(br x.cv++(br (BitVec.ofNat 32 x.size)++(kQ x.name++(x.dg++(br (mJ (lM x))++post))))):=by
  simp only[eA,lM,sQ,List.append_assoc]
 have d4:(eA x++post).drop 4=br x.cv++(br (BitVec.ofNat 32 x.size)++(kQ x.name++(x.dg++(br (mJ (lM x))++post)))):=by rw[hA];exact List.drop_left' rfl
 have d8:(eA x++post).drop 8=br (BitVec.ofNat 32 x.size)++(kQ x.name++(x.dg++(br (mJ (lM x))++post))):=by
  rw[show 8=4+4 from rfl,←List.drop_drop,d4];exact List.drop_left' rfl
 have d12:(eA x++post).drop 12=kQ x.name++(x.dg++(br (mJ (lM x))++post)):=by
  rw[show 12=8+4 from rfl,←List.drop_drop,d8];exact List.drop_left' rfl
 have d28:(eA x++post).drop 28=x.dg++(br (mJ (lM x))++post):=by
  rw[show 28=12+16 from rfl,←List.drop_drop,d12];exact List.drop_left' (lN hs)
 have t4:(eA x++post).take 4=bk:=by rw[hA];exact List.take_left' rfl
 have t64:(eA x++post).take 64=eA x:=List.take_left' hw;have hname:jg (kQ x.name)=x.name:=by
  have hk:=Lib.trimRightB_take (kQ x.name) 0 x.name.length (by rw[lN hs];exact hs) (fun j b hj hb=>by
   rw[kQ,List.getElem?_append_right hj,List.getElem?_replicate]at hb;split at hb
   ·exact(Option.some.inj hb).symm
   ·cases hb) (fun b h0 hb=>by
   rw[kQ,List.getElem?_append_left (by omega)]at hb;have hmem:=List.mem_of_getElem? hb;have hok:Ki b=true:=by
    simp only[cK,Bool.and_eq_true,List.all_eq_true]at hn;exact hn.2 b hmem
   intro q;subst q;exact absurd hok (by decide))
  rw[jg,hk,kQ,List.take_left' rfl]
 have hsz:(BitVec.ofNat 32 x.size).toNat=x.size:=by rw[BitVec.toNat_ofNat,Nat.mod_eq_of_lt (by omega)]
 unfold cA;rw[d4,d8,d12,d28,t4,t64,List.take_left' (lN hs),List.take_left' hd,hname,mA,mA,hsz,eA,AR];rw[if_neg (by rw[List.length_append,←eA,hw];omega),if_neg (by simp),if_neg (by simp),if_neg (by simp[hn];omega)]
def eT (s:List UInt8) (cv:BitVec 32) (body:List UInt8):qv:=⟨cv,body.length,s,Rg body⟩
def cc (s:List UInt8) (cv:BitVec 32) (body:List UInt8):List UInt8:=eA (eT s cv body)++body
theorem jh {s:List UInt8} (hn:cK s=true) (cv:BitVec 32) (body:List UInt8):(cc s cv body).length=64+body.length:=by
 rw[cc,List.length_append,m6 (kW hn) (kP _)]
theorem qp {s:List UInt8} (hn:cK s=true) (cv:BitVec 32) {body:List UInt8} (hb:body.length≤1048576) (post:List UInt8):cA (cc s cv body++post)=(eT s cv body,0):=by
 rw[cc,List.append_assoc];exact T8 (x:=eT s cv body) hn hb (kP _) _
theorem Ks {s:List UInt8} (hn:cK s=true) (cv:BitVec 32) {body:List UInt8} (hb:body.length≤1048576):DT (cc s cv body)=(eT s cv body,0):=by
 have hh:=qp hn cv hb [];rw[List.append_nil]at hh;have hd:(cc s cv body).drop 64=body:=List.drop_left' (m6 (kW hn) (kP _));unfold DT;rw[hh,if_neg (by simp),jh hn,if_neg (by show ¬ (64+body.length≠64+body.length);simp),hd];exact if_neg (by show ¬ (Rg body≠Rg body);simp)
theorem RJ (v:BitVec 32) (n:Nat) (s:List UInt8) {d:List UInt8} (hd:d.length=32):dw (ct iS) [(0,1,uV v),(1,1,.int .i64 (n:Int)),(2,1,.str s),(3,32,.agg (aP d))]=some (.agg (ct ⟨v,n,s,d⟩)):=by
 have h4:=LU (x:=⟨v,n,s,List.replicate 32 0⟩) rfl hd;have z:∀ x:qv,x.dg.length=32→(ct x).length=35:=fun x hx=>eE hx
 rw[B4,iy,if_pos ⟨rfl,by rw[z _ rfl];decide,rfl⟩,iy,if_pos ⟨rfl,by show 1+1≤(ct ⟨v,0,[],List.replicate 32 0⟩).length;rw[z _ rfl];decide,rfl⟩,
  iy,if_pos ⟨rfl,by show 2+1≤(ct ⟨v,n,[],List.replicate 32 0⟩).length;rw[z _ rfl];decide,rfl⟩,
  iy,if_pos ⟨by show(aP d).length=32;rw[aM,hd],by show 3+32≤(ct ⟨v,n,s,List.replicate 32 0⟩).length;rw[z _ rfl];decide,gJ d⟩,su,Option.ag]
 exact congrArg (fun q=>some (PV.agg q)) h4
theorem Ol (base:Nat) {s:List UInt8} (hn:cK s=true) (cv:BitVec 32) {v:PV} {body:List UInt8} (hv:∀ g,Rd (ext h g) v body) (hst:strip v=v) (XY:v.cells=[v]) (hsv:scalar v=true) (hb:body.length≤700000):ai T base 11 [.str s,uV cv,v] h =
  some (.cC [.bW false (size h) 0 (cc s cv body).length 1,.int .i64 0],ext h [.cells (aP (cc s cv body))]):=by
 have hnm:=vv (h:=h) (size h) s;rw[hn]at hnm;have e0:cG false v=some (.int .i64 (body.length:Int)):=(hv []).len;have c1:binOp .gtr (.int .i64 (body.length:Int)) (.int .i64 1048576)=some (.bool false):=by
  show some (PV.bool (decide ((body.length:Int) > 1048576)))=_;rw[decide_eq_false (by omega)]
 have sm:=NZ (h:=h) (size h) (v:=v) hv (by omega);have bh:=RJ cv body.length s (kP body);rw[jR]at bh;have wr:=G6 (h:=h) (size h) (x:=eT s cv body) hn (by show body.length≤_;omega) (kP body);have RK:=m6 (x:=eT s cv body) (kW hn) (kP body);have hne:¬ (eA (eT s cv body)=[]):=fun q=>by rw[q]at RK;cases RK
 have Kb:BC (eA (eT s cv body))=.sl .no 1 (aP (eA (eT s cv body))):=if_neg hne;rw[Kb]at wr;have bs:cF 1 false [.bn] 2 [(0,strip (.sl .no 1 (aP (eA (eT s cv body))))),(1,strip v)]=some (.sl .full 1 [.sl .no 1 (aP (eA (eT s cv body))),v]):=by
  rw[hst,u6,lG,if_pos ⟨rfl,by decide,rfl⟩,lG,if_pos ⟨by rw[XY];rfl,by show 1<2;decide,by rw[XY];simp[hsv]⟩,qD];rfl
 have jn:=N3 (h:=h) (v0:=.sl .full 1 [.sl .no 1 (aP (eA (eT s cv body))),v]) (ps:=[(.sl .no 1 (aP (eA (eT s cv body))),eA (eT s cv body)),(v,body)]) rfl (fun i p hp=>by
  match i,hp with
  | 0,hp=>cases hp;rfl
  | 1,hp =>
   cases hp;show some (PV.ep v.cells 0)=some (PV.ep [v] 0);rw[XY]
  | i+2,hp=>simp at hp) (fun p hp g=>by
  simp at hp;rcases hp with rfl | rfl
  ·exact jQ (.inl rfl) _
  ·exact hv g) (by show 2≤1000;decide) (size h) (by simp[RK];omega)
 have hfl:([(PV.sl .no 1 (aP (eA (eT s cv body))),eA (eT s cv body)),(v,body)].map (·.2)).flatten=cc s cv body:=by simp[cc]
 rw[hfl]at jn;have abT:¬ (cc s cv body=[]):=fun q=>by have:=jh hn cv body;rw[q]at this;simp at this;omega
 have e1:GP h (cc s cv body)=.bW false (size h) 0 (cc s cv body).length 1:=if_neg abT;have e2:BE h (cc s cv body)=ext h [.cells (aP (cc s cv body))]:=if_neg abT;rw[e1,e2]at jn;have fn:bg false true (size h) [.bW false (size h) 0 (cc s cv body).length 1,.int .i64 0] (ext h [.cells (aP (cc s cv body))])=some (.cC [.bW false (size h) 0 (cc s cv body).length 1,.int .i64 0],ext h [.cells (aP (cc s cv body))]):=by
  rw[pF,jt,if_neg (by omega),aQ];show((if belows (size h) [.int .i64 0]=true∧belows (size h) (aP (cc s cv body))=true then some (PV.bW false (size h) 0 (cc s cv body).length 1::[.int .i64 0],ext (bJ (ext h [.cells (aP (cc s cv body))]) (size h)) [.cells (aP (cc s cv body))]) else none)).ah _=_;rw[if_pos ⟨rfl,mu _ _⟩,Option.ag,cH];rfl
 rw[S11,hnm,az];simp only[show unOp .not (.bool true)=some (.bool false) from rfl,e0,c1,sm,bh,aL,Option.ag,az];rw[show PV.agg (ct ⟨cv,body.length,s,Rg body⟩)=.agg (ct (eT s cv body)) from rfl,wr];simp only[az,tW,tX,Option.ag,bs,jn,fn]
end Go.Am.Qd
namespace Go.Am.Qd
structure Pl where
 p:FP
 qa:Nat
 qb:Nat
 qc:Nat
 qd:Nat
 jb:Nat
 sb:Nat
 n:Nat
 lo:Nat
structure Wt where
 size:Nat
 data:List UInt8
def NJ (P:Pl) (b:Nat):Prop:=b≠P.p.f∧b≠P.p.bb∧b≠P.p.wb∧b≠P.jb
def sC (P:Pl) (run:Nat) (w:PV):List PV:=[.ptr P.qc 0,.ptr P.qd 0,.ptr P.jb 0,.int .i64 (run:Int),w]
def XZ (h:Hp) (P:Pl) (R:List Nat) (wb hk:Nat) (v:PV) (l:List UInt8):Prop :=
 (l=[]∧v=.bn)∨(l≠[]∧∃ tb,v=.sl (.tok tb) 1 (aP l)∧bX h tb=some (.tok l.length 5)∧NJ P tb∧P.lo≤tb∧tb ∉ R∧tb≠P.sb∧tb≠wb∧tb≠hk)
def LY (h:Hp) (P:Pl) (R:List Nat) (w:PV):Option Wt→Prop
 | none=>w=.bp
 | some W=>∃ wb hk hv ws r,w=.ptr wb 0∧ay h wb=some [.int .i64 (W.size:Int),.int .i64 (W.data.length:Int),hv,.ptr hk 0]∧ay h hk=some (hC ws r (W.data.drop 64).length)∧Hs ws r (W.data.drop 64) ∧
   XZ h P R wb hk hv (W.data.take 64)∧NJ P wb∧NJ P hk∧P.lo≤wb∧P.lo≤hk∧wb ∉ R∧hk ∉ R∧wb≠P.sb∧hk≠P.sb∧wb≠hk∧W.size≤P.n*64∧W.data.length≤W.size
structure Dv (H:Hp) (P:Pl) (F:Fl) (J:Jn) (vs:Vs) (run:Nat) (W:Option Wt) (R:List Nat) (h:Hp) (m:Nat) (w:PV):Prop where
 eq:H=dZ h P.p F P.jb (jC P.qa P.qb 128 J m)
 js:JS h P.p F P.jb P.qa P.qb 128 m J vs
 pc:gI h P.p P.qc 4 P.n
 pd:gI h P.p P.qd (4+P.n) P.n
 cj:P.qc≠P.jb
 dj:P.qd≠P.jb
 fs:F.aj=64
 fl:F.b.length=(4+2*P.n)*64
 fw:F.bN.length=4+2*P.n
 hn:4≤P.n∧P.n≤7
 sb:ay h P.sb=some (sC P run w)
 ns:NJ P P.sb
 rn:run≤1
 wo:LY h P R w W
 ro:∀ b∈R,b<size h∧NJ P b∧b≠P.sb
 lj:P.lo≤P.jb
 ls:P.lo≤P.sb
def eR (H:Hp) (P:Pl) (F:Fl) (J:Jn) (vs:Vs) (run:Nat) (W:Option Wt) (R:List Nat):Prop:=∃ h m w,Dv H P F J vs run W R h m w
theorem JS.X0 {h:Hp} {p:FP} {F:Fl} {jb qa qb sz m:Nat} {J:Jn} {vs:Vs} (hs:JS h p F jb qa qb sz m J vs) (l:Hp):JS (Go.Am.ext h l) p F jb qa qb sz m J vs:=by
 have hb:m<size h:=by
  have:=hs.map;unfold bR at this;cases hq:bX h m with
  | none=>rw[hq]at this;cases this
  | some x=>exact bw hq
 have hm:bR (Go.Am.ext h l) m=some (pK vs):=by rw[Bl hb];exact hs.map
 exact { hs with ok:=hs.ok.ext l,map:=hm }
theorem NJ.set {P:Pl} {h:Hp} {F:Fl} {cs:List PV} {b:Nat} (hn:NJ P b) (hj:Bb h P.p P.jb P.qa P.qb) (x:gT):aC (dZ h P.p F P.jb cs) b x=dZ (aC h b x) P.p F P.jb cs:=by
 unfold dZ;rw[Ab (hj.fs cs) hn.1 hn.2.1 hn.2.2.1];congr 1;refine pI (by simp only[aJ]) fun n=>?_
 simp only[nM,aJ]
 by_cases h1:b=n
 ·subst h1;rw[if_pos rfl,if_neg (Ne.symm hn.2.2.2),if_pos rfl]
 ·rw[if_neg h1,if_neg h1]
theorem NJ.box {P:Pl} {h:Hp} {F:Fl} {cs:List PV} {b:Nat} (hn:NJ P b) (hj:Bb h P.p P.jb P.qa P.qb):bX (dZ h P.p F P.jb cs) b=bX h b:=by
 unfold dZ;rw[dA (hj.fs cs),if_neg hn.1,if_neg hn.2.2.1,if_neg hn.2.1,cN (Ne.symm hn.2.2.2)]
theorem NJ.get {P:Pl} {h:Hp} {F:Fl} {cs:List PV} {b:Nat} (hn:NJ P b) (hj:Bb h P.p P.jb P.qa P.qb):ay (dZ h P.p F P.jb cs) b=ay h b:=by
 unfold ay;rw[hn.box hj]
theorem cx {h:Hp} {b:Nat} {cs:List PV} (hb:ay h b=some cs):b<size h:=bw (bq hb)
section
variable {H:Hp} {P:Pl} {F:Fl} {J:Jn} {vs:Vs} {run:Nat} {W:Option Wt} {R:List Nat} {h:Hp} {m:Nat} {w:PV} (d:Dv H P F J vs run W R h m w)
include d
theorem Dv.sW:size H=size h:=by rw[d.eq];exact dG d.js.ok _
theorem Dv.box {b:Nat} (hn:NJ P b):bX H b=bX h b:=by rw[d.eq];exact hn.box d.js.ok
theorem Dv.get {b:Nat} (hn:NJ P b):ay H b=ay h b:=by rw[d.eq];exact hn.get d.js.ok
theorem Dv.RL:ay H P.sb=some (sC P run w):=by rw[d.get d.ns];exact d.sb
theorem Dv.ld (k:Nat):ax 1 false (.ptr P.sb k) H=(sC P run w)[k]?:=dL d.RL
theorem LY.ext (hw:LY h P R w W) (l:Hp):LY (Go.Am.ext h l) P R w W:=by
 cases W with
 | none=>exact hw
 | some W =>
  obtain⟨wb,hk,hv,ws,r,a1,a2,a3,a4,a5,a6⟩:=hw;refine⟨wb,hk,hv,ws,r,a1,by rw[aX (cx a2)];exact a2,by rw[aX (cx a3)];exact a3,a4,?_,a6⟩;rcases a5 with a5 | ⟨a5,tb,b1,b2,b3⟩
  ·exact .inl a5
  ·exact .inr ⟨a5,tb,b1,by rw[dP (bw b2)];exact b2,b3⟩
theorem Dv.ext (l:Hp):Dv (Go.Am.ext H l) P F J vs run W R (Go.Am.ext h l) m w :=
 { d with
  eq:=by rw[d.eq];exact m7 d.js.ok _ l
  js:=d.js.X0 l
  pc:=d.pc.ext l
  pd:=d.pd.ext l
  sb:=by rw[aX (cx d.sb)];exact d.sb
  wo:=LY.ext d d.wo l
  ro:=fun b hb=>⟨by have:=(d.ro b hb).1;rw[aW];omega,(d.ro b hb).2⟩ }
theorem Dv.part {i:Nat} (hi:i≤1):∃ q,(sC P run w)[i]?=some (.ptr q 0)∧gI (aC h P.jb (.cells (jC P.qa P.qb 128 J m))) P.p q (4+i*P.n) P.n:=by
 have key:∀ {q f:Nat},gI h P.p q f P.n→q≠P.jb→gI (aC h P.jb (.cells (jC P.qa P.qb 128 J m))) P.p q f P.n:=fun hq hj=>⟨by rw[bD (Ne.symm hj)];exact hq.get,hq.n1,hq.n2,hq.n3⟩
 by_cases h0:i=0
 ·subst h0;exact⟨P.qc,rfl,by rw[Nat.zero_mul];exact key d.pc d.cj⟩
 ·have h1:i=1:=by omega
  subst h1;exact⟨P.qd,rfl,by rw[Nat.one_mul];exact key d.pd d.dj⟩
end
theorem eR.ext {H:Hp} {P:Pl} {F:Fl} {J:Jn} {vs:Vs} {run:Nat} {W:Option Wt} {R:List Nat} (d:eR H P F J vs run W R) (l:Hp):eR (Go.Am.ext H l) P F J vs run W R:=by
 obtain⟨h,m,w,d⟩:=d;exact⟨_,_,_,d.ext l⟩
/-! ### abG -/
theorem eR.slot {H:Hp} {P:Pl} {F:Fl} {J:Jn} {vs:Vs} {run:Nat} {W:Option Wt} {R:List Nat} (d:eR H P F J vs run W R) {i:Nat} (hi:i≤1) :
  ∃ q,aN 1 2 (.ptr P.sb 0) (.int .i64 (i:Int))=some (.ptr P.sb i)∧ax 1 false (.ptr P.sb i) H=some (.ptr q 0)∧∀ l,∃ g:Hp,Go.Am.ext H l=cw g P.p F∧pH g P.p∧gI g P.p q (4+i*P.n) P.n:=by
 obtain⟨h,m,w,d⟩:=d;obtain⟨q,q1,q2⟩:=d.part hi;refine⟨q,?_,by rw[d.ld];exact q1,fun l=>?_⟩
 ·have:=HM 1 P.sb 0 i 2 (by omega)
  rw[Nat.mul_one,Nat.zero_add]at this;exact this
 ·refine⟨Go.Am.ext (aC h P.jb (.cells (jC P.qa P.qb 128 J m))) l,?_,(d.js.ok.fs _).ext l,q2.ext l⟩
  rw[d.eq,dZ,Aa (d.js.ok.fs _)]
def cB (F:Fl) (n i:Nat):List UInt8:=(F.b.drop ((4+i*n)*64)).take (n*64)
theorem ni {F:Fl} {n i:Nat} (hl:F.b.length=(4+2*n)*64) (hi:i≤1):(cB F n i).length=n*64:=by
 have:i=0∨i=1:=by omega
 rcases this with rfl | rfl
 ·rw[cB,List.length_take,List.length_drop];omega
 ·rw[cB,List.length_take,List.length_drop];omega
section
variable {H:Hp} {P:Pl} {F:Fl} {J:Jn} {vs:Vs} {run:Nat} {W:Option Wt} {R:List Nat} (d:eR H P F J vs run W R) (base:Nat)
include d
theorem eR.fin:gL F:=by obtain⟨h,m,w,d⟩:=d;exact d.js.fl.fin
theorem eR.fs:F.aj=64:=by obtain⟨h,m,w,d⟩:=d;exact d.fs
theorem eR.fl:F.b.length=(4+2*P.n)*64:=by obtain⟨h,m,w,d⟩:=d;exact d.fl
theorem eR.hn:4≤P.n∧P.n≤7:=by obtain⟨h,m,w,d⟩:=d;exact d.hn
theorem eR.room {i:Nat} (hi:i≤1):(4+i*P.n+P.n)*F.aj≤F.b.length:=by
 have hn:=d.hn;rw[d.fs,d.fl];have:i=0∨i=1:=by omega
 rcases this with rfl | rfl<;>omega
theorem eR.abU {i:Nat} (hi:i≤1) {q:Nat} (hq:ax 1 false (.ptr P.sb i) H=some (.ptr q 0)) (l:Hp):ai T base 54 [.ptr q 0] (Go.Am.ext H l)=some (.int .i64 ((P.n*64:Nat):Int),Go.Am.ext H l):=by
 obtain⟨q',_,q2,q3⟩:=d.slot hi;rw[q2]at hq;cases hq;obtain⟨g,g1,g2,g3⟩:=q3 l;have hn:=d.hn;rw[g1];have:=J3 (F:=F) g2 g3 base (by rw[d.fs];omega);rw[d.fs]at this;exact this
theorem eR.pread {i:Nat} (hi:i≤1) {q:Nat} (hq:ax 1 false (.ptr P.sb i) H=some (.ptr q 0)) (l:Hp) {k:Nat} (hk:k≤P.n*64) :
  ai T base 79 [.ptr q 0,.int .i64 0,.int .i64 (k:Int)] (Go.Am.ext H l)=some (if F.down then .cC [.bn,.int .i64 30] else .cC [BC ((cB F P.n i).take k),.int .i64 0],Go.Am.ext H l):=by
 obtain⟨q',_,q2,q3⟩:=d.slot hi;rw[q2]at hq;cases hq;obtain⟨g,g1,g2,g3⟩:=q3 l;have hn:=d.hn;rw[g1];have:=aci (F:=F) g2 g3 base 0 k d.fin (by rw[d.fs];omega) (d.room hi);rw[d.fs,Nat.add_zero]at this;have e:(F.b.drop ((4+i*P.n)*64)).take k=(cB F P.n i).take k:=by
  rw[cB,List.take_take,Nat.min_eq_left hk]
 rw[e]at this;exact this
theorem eR.U2 {i:Nat} (hi:i≤1) {q:Nat} (hq:ax 1 false (.ptr P.sb i) H=some (.ptr q 0)):ai T base 87 [.ptr q 0] H=some (.ptr P.p.f 0,H)∧ai T base 41 [.ptr P.p.f 0] H=some (.bool F.down,H):=by
 obtain⟨q',_,q2,q3⟩:=d.slot hi;rw[q2]at hq;cases hq;obtain⟨g,g1,g2,g3⟩:=q3 [];rw[ext_nil]at g1;rw[g1];exact⟨GD (F:=F) g2 g3 base,NQ (F:=F) g2 base⟩
end
end Go.Am.Qd
namespace Go.Am.Qd
def Kp (R:List Nat) (H H':Hp):Prop:=size H≤size H'∧∀ b∈R,bX H' b=bX H b
theorem Kp.refl (R:List Nat) (H:Hp):Kp R H H:=⟨Nat.le_refl _,fun _ _=>rfl⟩
theorem Kp.trans {R:List Nat} {H H' H'':Hp} (a:Kp R H H') (b:Kp R H' H''):Kp R H H'':=⟨Nat.le_trans a.1 b.1,fun x hx=>(b.2 x hx).trans (a.2 x hx)⟩
theorem fI (h:Hp) (k:IntKind) (n:Int):bg false false (size h) [.int k n] h=some (.int k n,h):=by
 rw[bZ];show some (PV.int k n,bJ h (size h))=_;rw[bL]
theorem fB (h:Hp) (b:Bool):bg false false (size h) [.bool b] h=some (.bool b,h):=by
 rw[bZ];show some (PV.bool b,bJ h (size h))=_;rw[bL]
theorem fII (h g:Hp) (k j:IntKind) (n m:Int):bg false false (size h) [.int k n,.int j m] (ext h g)=some (.cC [.int k n,.int j m],h):=by
 rw[bZ];show some (PV.cC [.int k n,.int j m],bJ (ext h g) (size h))=_;rw[cH]
theorem am2 (c:UInt8):cu (.int .u8 (c.toNat:Int)) .i64=some (.int .i64 (c.toNat:Int)):=by
 show some (PV.int .i64 (IntKind.i64.wrap (c.toNat:Int)))=_;have:=c.toNat_lt;rw[wrap_small (by omega) (by omega)]
theorem abV (c:UInt8) (n:Nat):binOp .gtr (.int .u8 (c.toNat:Int)) (.int .u8 (n:Int))=some (.bool (decide (n<c.toNat))):=by
 show some (PV.bool (decide ((c.toNat:Int) > (n:Int))))=_;congr 2;exact decide_eq_decide.2 (by omega)
theorem wT (b:Bool):aq (.bool b) b=some true:=by cases b<;>rfl
theorem Sd:aq (.bool true) false=some false:=rfl
theorem wF2:aq (.bool false) true=some false:=rfl
theorem OJ {α:Type} (x y:Option α):au false x y=y:=rfl
theorem D7 {α:Type} (x y:Option α):au true x y=x:=rfl
theorem Kt (x:Option PV):x.ah some=x:=by cases x<;>rfl
theorem Hj (x:Option (PV × Hp)):aG x (fun a b=>some (a,b))=x:=by cases x<;>rfl
def bO (vs:Vs):Nat × Nat :=
 let b:=vB ((cO vs 0).getD none)
 if b.length≠2∨1<(b.getD 0 0).toNat∨2<(b.getD 1 0).toNat then(0,0) else((b.getD 0 0).toNat,(b.getD 1 0).toNat)
theorem lR (vs:Vs):(bO vs).1≤1∧(bO vs).2≤2:=by
 unfold bO;simp only;split
 ·exact⟨Nat.zero_le _,Nat.zero_le _⟩
 ·rename_i hq
  constructor
  ·simp only;omega
  ·simp only;omega
section
variable {H:Hp} {P:Pl} {F:Fl} {J:Jn} {vs:Vs} {run:Nat} {W:Option Wt} {R:List Nat} (d:eR H P F J vs run W R) (base:Nat)
include d
theorem eR.kept:ai T base 66 [.ptr P.sb 0] H=some (.cC [.int .i64 ((bO vs).1:Int),.int .i64 ((bO vs).2:Int)],H):=by
 obtain⟨h,m,w,d⟩:=d;obtain⟨v,g,e1,e2,_,_⟩:=Rx (F:=F) d.js (size H) 0;have hge:dZ (Go.Am.ext h g) P.p F P.jb (jC P.qa P.qb 128 J m)=Go.Am.ext H g:=by rw[d.eq];exact(m7 d.js.ok _ g).symm
 have hrd:=e2.rd (F:=F) (d.js.ok.ext g) (jC P.qa P.qb 128 J m);rw[hge]at e1 hrd;rw[←d.eq]at e1;have n0:aF (.ptr P.sb 0)=some (.ptr P.sb 0):=rfl;have l2:ax 1 false (.ptr P.sb 2) H=some (.ptr P.jb 0):=d.ld 2;unfold bO;generalize vB ((cO vs 0).getD none)=l at hrd ⊢;have f00:=fII H g .i64 .i64 0 0
 by_cases h2:l.length=2
 ·match l,h2 with
  | [a,b],_ =>
   have hl:cG false v=some (.int .i64 2):=hrd.len;obtain⟨x0,p0,r0⟩:=hrd.rd .i64 0 a rfl;obtain⟨x1,p1,r1⟩:=hrd.rd .i64 1 b rfl;simp only[show((0:Nat):Int)=0 from rfl]at p0;simp only[show((1:Nat):Int)=1 from rfl]at p1;have g1:=abV a 1;have g2:=abV b 2;simp only[show((1:Nat):Int)=1 from rfl]at g1;simp only[show((2:Nat):Int)=2 from rfl]at g2;have ne2:binOp .neq (.int .i64 2) (.int .i64 2)=some (.bool false):=rfl;have fab:=fII H g .i64 .i64 (a.toNat:Int) (b.toNat:Int);rw[S66]
   by_cases ha:1<a.toNat
   ·rw[if_pos (.inr (.inl ha))]
    simp only[n0,nQ,l2,e1,tW,tX,hl,ne2,wT,Sd,OJ,D7,p0,r0,g1,Kt,decide_eq_true ha,f00,aR,aL,Option.ag,az];rfl
   ·by_cases hb:2<b.toNat
    ·rw[if_pos (.inr (.inr hb))]
     simp only[n0,nQ,l2,e1,tW,tX,hl,ne2,wT,Sd,OJ,D7,p0,r0,p1,r1,g1,g2,Kt,decide_eq_false ha,decide_eq_true hb,f00,aR,aL,Option.ag,az];rfl
    ·rw[if_neg (by simp[ha,hb])]
     simp only[n0,nQ,l2,e1,tW,tX,hl,ne2,wT,Sd,OJ,D7,p0,r0,p1,r1,g1,g2,Kt,decide_eq_false ha,decide_eq_false hb,am2,fab,aR,aL,Option.ag,az];rfl
 ·have hl:cG false v=some (.int .i64 (l.length:Int)):=hrd.len
  have ne2:binOp .neq (.int .i64 (l.length:Int)) (.int .i64 2)=some (.bool true):=by
   show some (PV.bool (!((l.length:Int) == 2)))=_;rw[show((l.length:Int) == 2)=false from beq_false_of_ne (by omega)];rfl
  rw[S66,if_pos (.inl h2)];simp only[n0,nQ,l2,e1,tW,tX,hl,ne2,wT,Sd,OJ,D7,f00,aR,aL,Option.ag,az];rfl
theorem eR.lQ:ai T base 20 [.ptr P.sb 0] H=some (.int .i64 ((bO vs).1:Int),H):=by
 rw[S20,d.kept];simp only[tW,tX,fI,Option.ag,az]
theorem eR.phase:ai T base 19 [.ptr P.sb 0] H=some (.int .i64 ((bO vs).2:Int),H):=by
 rw[S19,d.kept];simp only[tW,tX,fI,Option.ag,az]
theorem eR.other:ai T base 46 [.ptr P.sb 0] H=some (.int .i64 ((1-(bO vs).1:Nat):Int),H):=by
 have hk:=(lR vs).1;have sb:binOp .sub (.int .i64 1) (.int .i64 ((bO vs).1:Int))=some (.int .i64 ((1-(bO vs).1:Nat):Int)):=by
  show some (PV.int .i64 (IntKind.i64.wrap (1-((bO vs).1:Int))))=_;rw[wrap_small (by omega) (by omega)];congr 2;omega
 rw[S46,d.lQ];simp only[sb,fI,Option.ag,az]
theorem eR.running:ai T base 44 [.ptr P.sb 0] H=some (.int .i64 (run:Int),H):=by
 obtain⟨h,m,w,d⟩:=d;have l3:ax 1 false (.ptr P.sb 3) H=some (.int .i64 (run:Int)):=d.ld 3;rw[S44];simp only[show aF (.ptr P.sb 0)=some (.ptr P.sb 0) from rfl,nQ,l3,fI,Option.ag]
def T9:Option Wt→Nat
 | none=>0
 | some W=>W.data.length
theorem eR.got:ai T base 26 [.ptr P.sb 0] H=some (.int .i64 (T9 W:Int),H):=by
 obtain⟨h,m,w,d⟩:=d;have l4:ax 1 false (.ptr P.sb 4) H=some w:=d.ld 4;rw[S26];cases W with
 | none =>
  have hw:w=.bp:=d.wo;subst hw;have f0:=fI H .i64 0;simp only[show aF (.ptr P.sb 0)=some (.ptr P.sb 0) from rfl,nQ,l4,show gE 0 false .bp=some (.bool true) from rfl,aR,f0,Option.ag];rfl
 | some W =>
  obtain⟨wb,hk,hv,ws,r,rfl,a2,a3,a4,a5,a6,a7⟩:=d.wo;have gw:ay H wb=some [.int .i64 (W.size:Int),.int .i64 (W.data.length:Int),hv,.ptr hk 0]:=by rw[d.get a6];exact a2
  have l1:ax 1 false (.ptr wb 1) H=some (.int .i64 (W.data.length:Int)):=dL gw;simp only[show ∀ b,aF (.ptr b 0)=some (.ptr b 0) from fun _=>rfl,nQ,l4,show gE 0 false (.ptr wb 0)=some (.bool false) from rfl,aL,l1,fI,Option.ag];rfl
theorem eR.down:ai T base 53 [.ptr P.sb 0] H=some (.bool F.down,H):=by
 obtain⟨q0,i0,l0,_⟩:=d.slot (i:=0) (by omega);obtain⟨q1,i1,l1,_⟩:=d.slot (i:=1) (by omega);have d0:=fun b=>d.U2 b (i:=0) (by omega) l0
 have d1:=fun b=>d.U2 b (i:=1) (by omega) l1
 simp only[show((0:Nat):Int)=0 from rfl]at i0;simp only[show((1:Nat):Int)=1 from rfl]at i1;rw[S53];have n0:aF (.ptr P.sb 0)=some (.ptr P.sb 0):=rfl;cases hd:F.down with
 | true =>
  rw[hd]at d0;simp only[n0,nQ,i0,l0,(d0 _).1,(d0 _).2,wT,Sd,OJ,aR,fB,Option.ag,az]
 | false =>
  rw[hd]at d0 d1;simp only[n0,nQ,i0,l0,(d0 _).1,(d0 _).2,wT,Sd,OJ,D7,Kt,i1,l1,(d1 _).1,(d1 _).2,aL,fB,Option.ag,az]
end
def Ua (F:Fl):Option Wt→Nat:=fun W=>if F.down=true then 30 else match W with | none=>60 | some _=>0
/-! ### A box of the ua is written -/
section
variable {H:Hp} {P:Pl} {F:Fl} {J:Jn} {vs:Vs} {run:Nat} {W:Option Wt} {R:List Nat} {h:Hp} {m:Nat} {w:PV} (d:Dv H P F J vs run W R h m w)
include d
theorem Dv.X1 {b:Nat} (h3:∀ cs,ay h b=some cs→cs.length≠3) (hm:bR h b=none) (x:gT):JS (aC h b x) P.p F P.jb P.qa P.qb 128 m J vs∧gI (aC h b x) P.p P.qc 4 P.n∧gI (aC h b x) P.p P.qd (4+P.n) P.n:=by
 have key:∀ {q f c:Nat},gI h P.p q f c→gI (aC h b x) P.p q f c:=fun {q f c} hq=>by
  have hne:b≠q:=fun he=>by subst he;exact h3 _ hq.get rfl
  exact⟨by rw[bD hne];exact hq.get,hq.n1,hq.n2,hq.n3⟩
 have hmb:b≠m:=fun he=>by rw[he,d.js.map]at hm;cases hm
 have hmm:bR (aC h b x) m=some (pK vs):=by rw[jD hmb];exact d.js.map
 have hok:Bb (aC h b x) P.p P.jb P.qa P.qb:={ d.js.ok with fo:=d.js.ok.fo.set _ _,pa:=key d.js.ok.pa,pb:=key d.js.ok.pb,lj:=by rw[aJ];exact d.js.ok.lj };exact⟨{ d.js with ok:=hok,map:=hmm },key d.pc,key d.pd⟩
omit d in
theorem nS {h:Hp} {b:Nat} {cs:List PV} (hb:ay h b=some cs):bR h b=none:=by
 rw[bR,bq hb];rfl
theorem LY.set (hw:LY h P R w W) {b:Nat} (hb:∀ W',W=some W'→∀ wb,w=.ptr wb 0→b≠wb∧(∀ hv hk a c,ay h wb=some [a,c,hv,.ptr hk 0]→b≠hk∧∀ tb es,hv=.sl (.tok tb) 1 es→b≠tb)) (x:gT):LY (aC h b x) P R w W:=by
 cases W with
 | none=>exact hw
 | some W =>
  obtain⟨wb,hk,hv,ws,r,a1,a2,a3,a4,a5,a6⟩:=hw;obtain⟨b1,b2⟩:=hb W rfl wb a1;obtain⟨b2,b3⟩:=b2 _ _ _ _ a2;refine⟨wb,hk,hv,ws,r,a1,by rw[bD b1];exact a2,by rw[bD b2];exact a3,a4,?_,a6⟩;rcases a5 with a5 | ⟨a5,tb,c1,c2,c3⟩
  ·exact .inl a5
  ·exact .inr ⟨a5,tb,c1,by rw[cN (b3 _ _ c1)];exact c2,c3⟩
theorem Dv.X2 {run':Nat} {w':PV} {W':Option Wt} (hr:run'≤1) (hw:LY (aC h P.sb (.cells (sC P run' w'))) P R w' W') :
  Dv (aC H P.sb (.cells (sC P run' w'))) P F J vs run' W' R (aC h P.sb (.cells (sC P run' w'))) m w'∧Kp R H (aC H P.sb (.cells (sC P run' w'))):=by
 obtain⟨j1,j2,j3⟩:=d.X1 (b:=P.sb) (fun cs hc=>by rw[d.sb]at hc;cases hc;show 5≠3;decide) (nS d.sb) (.cells (sC P run' w'));refine⟨{ d with eq:=?_,js:=j1,pc:=j2,pd:=j3,sb:=?_,rn:=hr,wo:=hw,ro:=fun b hb=>?_ },by rw[aJ];exact Nat.le_refl _,fun b hb=>?_⟩
 ·rw[d.eq];exact d.ns.set d.js.ok _
 ·rw[ay,cM (cx d.sb)];rfl
 ·rw[aJ];exact d.ro b hb
 ·exact cN (Ne.symm (d.ro b hb).2.2)
end
section
variable {H:Hp} {P:Pl} {F:Fl} {J:Jn} {vs:Vs} {run:Nat} {W:Option Wt} {R:List Nat} (d:eR H P F J vs run W R) (base:Nat)
include d
theorem eR.stop:∃ H',ai T base 36 [.ptr P.sb 0] H=some (.cC [],H')∧eR H' P F J vs run none R∧Kp R H H':=by
 obtain⟨h,m,w,d⟩:=d;obtain⟨d',k⟩:=d.X2 (run':=run) (w':=.bp) (W':=none) d.rn rfl;refine⟨_,?_,⟨_,_,_,d'⟩,k⟩;have st:aS (size H) 1 (.ptr P.sb 4) .bp H=some (aC H P.sb (.cells (sC P run .bp))):=by
  rw[dz,d.RL,Option.ag,if_pos ⟨rfl,by show 4+1≤5;decide,rfl,fun _=>rfl⟩];have:(if P.sb<size H then aO (PV.bp).cells else(PV.bp).cells)=[.bp]:=by split<;>rfl
  rw[this];rfl
 rw[S36];simp only[show aF (.ptr P.sb 0)=some (.ptr P.sb 0) from rfl,nQ,st,Option.ag];rw[bZ];have hs:size (aC H P.sb (.cells (sC P run .bp)))=size H:=aJ;show some (PV.cC [],bJ (aC H P.sb (.cells (sC P run .bp))) (size H))=_;rw[←hs,bL]
theorem eR.ready:∃ H',ai T base 57 [.ptr P.sb 0] H=some (.int .i64 (Ua F W:Int),H')∧eR H' P F J vs run (if F.down then none else W) R∧Kp R H H'∧(F.down=false→H'=H):=by
 have hd:=d.down;cases hq:F.down with
 | true =>
  obtain⟨H',e1,e2,e3⟩:=d.stop (size H);refine⟨H',?_,e2,e3,fun q=>by cases q⟩;have hs:bg false false (size H) [.int .i64 30] H'=some (.int .i64 30,H'):=by
   have hsz:size H'=size H:=by
    have e4:=e1;rw[S36]at e4;obtain⟨h,m,w,dd⟩:=d;have st:aS (size H) 1 (.ptr P.sb 4) .bp H=some (aC H P.sb (.cells (sC P run .bp))):=by
     rw[dz,dd.RL,Option.ag,if_pos ⟨rfl,by show 4+1≤5;decide,rfl,fun _=>rfl⟩];have:(if P.sb<size H then aO (PV.bp).cells else(PV.bp).cells)=[.bp]:=by split<;>rfl
     rw[this];rfl
    simp only[show aF (.ptr P.sb 0)=some (.ptr P.sb 0) from rfl,nQ,st,Option.ag]at e4;rw[bZ]at e4;have e5:some (PV.cC [],bJ (aC H P.sb (.cells (sC P run .bp))) (size H))=some (PV.cC [],H'):=e4;have hs:size (aC H P.sb (.cells (sC P run .bp)))=size H:=aJ;rw[←hs,bL]at e5;cases e5;exact hs
   rw[←hsz];exact fI H' .i64 30
  rw[S57,hd,hq];simp only[aR,e1,hs,az];unfold Ua;rw[if_pos hq];rfl
 | false =>
  refine⟨H,?_,d,Kp.refl _ _,fun _=>rfl⟩;obtain⟨h,m,w,d⟩:=d;have l4:ax 1 false (.ptr P.sb 4) H=some w:=d.ld 4;rw[S57,hd,hq];cases W with
  | none =>
   have hw:w=.bp:=d.wo;subst hw;have f60:=fI H .i64 60;simp only[aL,aR,show aF (.ptr P.sb 0)=some (.ptr P.sb 0) from rfl,nQ,l4,show gE 0 false .bp=some (.bool true) from rfl,f60,Option.ag,az];unfold Ua;rw[if_neg (by rw[hq];simp)];rfl
  | some W =>
   obtain⟨wb,hk,hv,ws,r,rfl,_⟩:=d.wo;have f0:=fI H .i64 0;simp only[aL,aR,show aF (.ptr P.sb 0)=some (.ptr P.sb 0) from rfl,nQ,l4,show gE 0 false (.ptr wb 0)=some (.bool false) from rfl,f0,Option.ag,az];unfold Ua;rw[if_neg (by rw[hq];simp)];rfl
end
end Go.Am.Qd
namespace Go.Am.Qd
theorem rF {l:List UInt8} (hl:64≤l.length):cA (l.take 64)=cA l:=by
 have e1:(l.take 64).take 4=l.take 4:=by rw[List.take_take];rfl
 have e2:(l.take 64).take 64=l.take 64:=by rw[List.take_take];rfl
 have e3:(l.take 64).length=64:=by rw[List.length_take];omega
 unfold cA;rw[e1,e2,e3,yD (by omega),yD (by omega),AJ (by omega),AJ (by omega),if_neg (by omega),if_neg (show ¬ l.length<64 by omega)]
def cm (l:List UInt8):Option (List UInt8) :=
 if(cA l).2≠0∨l.length-64<(cA l).1.size then none
 else if(DT (l.take (64+(cA l).1.size))).2≠0 then none else some (l.take (64+(cA l).1.size))
def cP (F:Fl) (n:Nat) (i:Int):Option (List UInt8):=if i<0∨1<i then none else if F.down then none else cm (cB F n i.toNat)
def bV:Option (List UInt8)→PV
 | none=>.bn
 | some l=>BC l
def vA (b:Option (List UInt8)):qv:=match b with
 | none=>iS
 | some l=>(cA l).1
theorem Ku {l b:List UInt8} (h:cm l=some b):64≤b.length∧b.length≤l.length∧b=l.take b.length∧(cA b)=cA l∧(cA b).2=0∧b.length=64+(cA b).1.size∧(DT b).2=0:=by
 unfold cm at h;split at h
 ·cases h
 ·rename_i hq
  split at h
  ·cases h
  ·rename_i hc
   cases h;have he:(cA l).2=0:=Classical.byContradiction fun q=>hq (.inl q)
   have hz:¬ (l.length-64<(cA l).1.size):=fun q=>hq (.inr q)
   have HL:=Rw he;have hlen:(l.take (64+(cA l).1.size)).length=64+(cA l).1.size:=by rw[List.length_take];omega
   have hh:cA (l.take (64+(cA l).1.size))=cA l:=by
    rw[←rF (by rw[hlen];omega),List.take_take,Nat.min_eq_left (by omega),rF HL]
   exact⟨by rw[hlen];omega,by rw[hlen];omega,by rw[hlen],hh,by rw[hh];exact he,by rw[hh,hlen],Classical.not_not.1 hc⟩
section
variable {h:Hp} {r:Hp} {x:qv}
theorem fg0:ay (ext h (.cells (ct x)::r)) (size h)=some (ct x):=by rw[aQ];rfl
theorem fv0 (k:Nat):ax 1 false (.ptr (size h) k) (ext h (.cells (ct x)::r))=(ct x)[k]?:=dL fg0
theorem HO {α:Type} (K:PV→Hp→Option α) (z:List PV):eu z h K=K (.ptr (size h) 0) (ext h [.cells z]):=eo _ _ _
theorem fNB (b:Bool):bg false false (size h) [.bn,.bool b] (ext h r)=some (.cC [.bn,.bool b],h):=by
 rw[bZ];show some (PV.cC [.bn,.bool b],bJ (ext h r) (size h))=_;rw[cH]
theorem fSB {o:Own} (ho:Nf o) (l:List UInt8) (b:Bool):bg false false (size h) [.sl o 1 (aP l),.bool b] (ext h r)=some (.cC [.sl o 1 (aP l),.bool b],h):=by
 have hb:belows (size h) [.sl o 1 (aP l),.bool b]=true:=by
  have:=(vm ho l).below (size h);show(below (size h) (.sl o 1 (aP l))&&_)=true;rw[this];rfl
 have hf:=(vm ho l).gW;rw[bZ,ee,hf,Option.ag,ee,yY,Option.ag,jL,Option.ag,Option.ag,Option.ag,if_pos hb,cH];rfl
theorem fHB (hx:x.dg.length=32) (b:Bool):bg false false (size h) [.agg (ct x),.bool b] (ext h r)=some (.cC [.agg (ct x),.bool b],h):=by
 have hi:=Kl (h:=h) r x 0;rw[bZ,ee]at hi ⊢;cases hf:gW (size h) (ext h r) (.agg (ct x)) with
 | none=>rw[hf]at hi;cases hi
 | some v =>
  rw[hf,Option.ag,ee,rR,Option.ag,jL,Option.ag,Option.ag,Option.ag]at hi;split at hi
  ·rename_i hb
   rw[cH]at hi;have e:some (PV.cC [v,.int .i64 0],h)=some (PV.cC [.agg (ct x),.int .i64 0],h):=hi;simp only[Option.some.injEq,Prod.mk.injEq,PV.cC.injEq,List.cons.injEq,and_true]at e;subst e;have hb2:below (size h) (.agg (ct x))=true:=by
    have hb3:(below (size h) (.agg (ct x))&&belows (size h) [.int .i64 0])=true:=hb;rw[Bool.and_eq_true]at hb3;exact hb3.1
   rw[Option.ag,ee,yY,Option.ag,jL,Option.ag,Option.ag,Option.ag,if_pos (by show(below (size h) (.agg (ct x))&&_)=true;rw[hb2];rfl),cH];rfl
  ·cases hi
end
theorem RM {l:List UInt8} (hl:l≠[]):BC l=.sl .no 1 (aP l):=if_neg hl
theorem eU {α:Type} (x y:Option α):aD (.bool true) x y=x:=rfl
theorem eC {α:Type} (x y:Option α):aD (.bool false) x y=y:=rfl
section
variable {H:Hp} {P:Pl} {F:Fl} {J:Jn} {vs:Vs} {run:Nat} {W:Option Wt} {R:List Nat} (d:eR H P F J vs run W R) (base:Nat)
include d
theorem eR.bytes (i:Int):ai T base 39 [.ptr P.sb 0,.int .i64 i] H=some (.cC [bV (cP F P.n i),.bool (cP F P.n i).isSome],H):=by
 have n0:aF (.ptr P.sb 0)=some (.ptr P.sb 0):=rfl;have fn:=fun b=>fNB (h:=H) (r:=[]) b
 simp only[ext_nil]at fn;unfold cP
 by_cases h0:i<0
 ·have c1:binOp .lss (.int .i64 i) (.int .i64 0)=some (.bool true):=by
   show some (PV.bool (decide (i<0)))=_;rw[decide_eq_true h0]
  rw[S39,if_pos (.inl h0)];simp only[c1,Sd,OJ,aR,fn,Option.ag,az];rfl
 have c1:binOp .lss (.int .i64 i) (.int .i64 0)=some (.bool false):=by
  show some (PV.bool (decide (i<0)))=_;rw[decide_eq_false h0]
 by_cases h1:1<i
 ·have c2:binOp .gtr (.int .i64 i) (.int .i64 1)=some (.bool true):=by
   show some (PV.bool (decide (i > 1)))=_;rw[decide_eq_true h1]
  rw[S39,if_pos (.inr h1)];simp only[c1,wT,D7,c2,Kt,aR,aL,fn,Option.ag,az];rfl
 have c2:binOp .gtr (.int .i64 i) (.int .i64 1)=some (.bool false):=by
  show some (PV.bool (decide (i > 1)))=_;rw[decide_eq_false h1]
 obtain⟨k,rfl⟩ : ∃ k:Nat,i=(k:Int):=⟨i.toNat,by omega⟩;have hk:k≤1:=by omega
 rw[if_neg (by omega),Int.toNat_natCast];obtain⟨q,ix,lq,_⟩:=d.slot hk;have hn:=d.hn;have hsl:=ni (i:=k) d.fl hk;have ps:=fun b l=>d.abU b hk lq l
 have ps0:=fun b=>ps b []
 simp only[ext_nil]at ps0;have mm:jH false [.int .i64 ((P.n*64:Nat):Int),.int .i64 64]=some (.int .i64 64):=by
  show some (PV.int .i64 (if(64:Int)<((P.n*64:Nat):Int) then 64 else((P.n*64:Nat):Int)))=_;split
  ·rfl
  ·congr 2;omega
 have pr:=fun b l k2 hk2=>d.pread b hk lq l (k:=k2) hk2
 have pr0:=fun b=>pr b [] 64 (by omega)
 simp only[ext_nil,show((64:Nat):Int)=64 from rfl]at pr0;cases hdn:F.down with
 | true =>
  rw[hdn]at pr0;simp only[if_true]at pr0;have c3:binOp .neq (.int .i64 30) (.int .i64 0)=some (.bool true):=rfl;rw[S39];simp only[c1,wT,D7,c2,Kt,aR,aL,n0,nQ,ix,lq,ps0,mm,pr0,tW,tX,c3,fn,Option.ag,az,if_true];rfl
 | false =>
  rw[hdn]at pr0 pr;simp only[Bool.false_eq_true,if_false]at pr0 pr;generalize hsb:cB F P.n k=l at hsl pr0 pr;have HL:64≤l.length:=by omega
  have ht:(l.take 64).length=64:=by rw[List.length_take];omega
  have hne:l.take 64≠[]:=fun q=>by rw[q]at ht;cases ht
  rw[RM hne]at pr0;have c3:binOp .neq (.int .i64 0) (.int .i64 0)=some (.bool false):=rfl;have rd:=Km (h:=H) (size H) .no (l.take 64) (by omega);rw[rF HL]at rd;have z32:iS.dg.length=32:=rfl;have d32:=G0 l;have hz:=adY l;have ldz:(ct (cA l).1)[1]?=some (.int .i64 ((cA l).1.size:Int)):=rfl;unfold cm;simp only[Bool.false_eq_true,if_false];rw[S39,←jR];simp only[c1,wT,D7,c2,Kt,eC,n0,nQ,ix,lq,ps0,mm,pr0,tW,tX,c3,rd,HO (h:=H),ft0 z32 d32,U0,Option.ag,az]
  by_cases he:(cA l).2≠0
  ·rw[if_pos (.inl he)]
   simp only[decide_eq_true he,Sd,OJ,eU,fNB,Option.ag,az];rfl
  have sb:binOp .sub (.int .i64 ((P.n*64:Nat):Int)) (.int .i64 64)=some (.int .i64 ((P.n*64-64:Nat):Int)):=by
   show some (PV.int .i64 (IntKind.i64.wrap (((P.n*64:Nat):Int)-64)))=_;rw[wrap_small (by omega) (by omega)];congr 2;omega
  have gt:binOp .gtr (.int .i64 ((cA l).1.size:Int)) (.int .i64 ((P.n*64-64:Nat):Int))=some (.bool (decide (l.length-64<(cA l).1.size))):=by
   show some (PV.bool (decide (((cA l).1.size:Int) > ((P.n*64-64:Nat):Int))))=_;congr 2;exact decide_eq_decide.2 (by omega)
  have psq:=fun l=>N9 (ps (size H) l)
  simp only[decide_eq_false he,wT,D7,Kt,fv0,ldz,psq,if_true,sb,gt,Option.ag,az,eC]
  by_cases hs:l.length-64<(cA l).1.size
  ·rw[if_pos (.inr hs)]
   simp only[decide_eq_true hs,eU,fNB,Option.ag,az];rfl
  rw[if_neg (by simp[he];omega)];have ad:binOp .add (.int .i64 64) (.int .i64 ((cA l).1.size:Int))=some (.int .i64 ((64+(cA l).1.size:Nat):Int)):=by
   show some (PV.int .i64 (IntKind.i64.wrap (64+((cA l).1.size:Int))))=_;rw[wrap_small (by omega) (by omega)];congr 2
  have p2:=fun b g=>pr b g (64+(cA l).1.size) (by omega)
  have ht2:(l.take (64+(cA l).1.size)).length=64+(cA l).1.size:=by rw[List.length_take];omega
  have abT:l.take (64+(cA l).1.size)≠[]:=fun q=>by rw[q]at ht2;simp at ht2;omega
  rw[RM abT]at p2;have ck:=fun H'=>aec (h:=H') (size H) (.inl rfl) (l.take (64+(cA l).1.size)) (by omega)
  have d33:=aeJ (l.take (64+(cA l).1.size));simp only[decide_eq_false hs,eC,fv0,ldz,ad,p2,tW,tX,ck,fk1,ft1 z32 d33,U0,Option.ag,az]
  by_cases hc:(DT (l.take (64+(cA l).1.size))).2≠0
  ·rw[if_pos hc]
   simp only[decide_eq_true hc,eU,fNB];rfl
  ·rw[if_neg hc]
   simp only[decide_eq_false hc,eC,fSB (.inl rfl)];show _=some (PV.cC [BC (l.take (64+(cA l).1.size)),PV.bool true],H);rw[RM abT]
theorem eR.valid (i:Int):ai T base 43 [.ptr P.sb 0,.int .i64 i] H=some (.cC [.agg (ct (vA (cP F P.n i))),.bool (cP F P.n i).isSome],H):=by
 have z32:iS.dg.length=32:=rfl;have hb:dw (ct iS) []=some (.agg (ct iS)):=rfl;have bt:=(d.ext [.cells (ct iS)]).bytes (size H) i;have n1:unOp .not (.bool false)=some (.bool true):=rfl;have n2:unOp .not (.bool true)=some (.bool false):=rfl;rw[S43,←jR];cases hq:cP F P.n i with
 | none =>
  rw[hq]at bt;have bt':ai T (size H) 39 [.ptr P.sb 0,.int .i64 i] (Go.Am.ext H [.cells (ct iS)])=some (.cC [.bn,.bool false],Go.Am.ext H [.cells (ct iS)]):=bt;simp only[HO (h:=H),bt',tW,tX,n1,eU,hb,ft0 z32 z32,fr0 z32,fHB z32,Option.ag,az];rfl
 | some l =>
  rw[hq]at bt;have hl:64≤l.length∧l.length≤P.n*64:=by
   unfold cP at hq;split at hq
   ·cases hq
   ·split at hq
    ·cases hq
    ·rename_i hi _
     have:=Ku hq;have hsl:=ni (i:=i.toNat) d.fl (by omega);omega
  have hn:=d.hn;have hne:l≠[]:=fun q=>by rw[q]at hl;simp at hl
  have bt':ai T (size H) 39 [.ptr P.sb 0,.int .i64 i] (Go.Am.ext H [.cells (ct iS)])=some (.cC [.sl .no 1 (aP l),.bool true],Go.Am.ext H [.cells (ct iS)]):=by rw[←RM hne];exact bt
  have d32:=G0 l;have rd:=fun H'=>Km (h:=H') (size H) .no l (by omega)
  simp only[HO (h:=H),bt',tW,tX,n2,eC,rd,fk1,ft1 z32 d32,fa1 d32,ft0 z32 d32,fr0 d32,fHB d32,Option.ag,az];rfl
theorem eR.same (i:Int) {v:PV} {l:List UInt8} (hv:Rd H v l):ai T base 21 [.ptr P.sb 0,.int .i64 i,v] H=some (.bool (cP F P.n i == some l),H):=by
 have bt:=d.bytes (size H) i;rw[S21,bt];cases hq:cP F P.n i with
 | none =>
  simp only[bV,Option.isSome,tW,tX,wF2,OJ,eC,fB,Option.ag,az];rfl
 | some b =>
  have eq:=AG (h:=H) (size H) (abF b) hv;simp only[bV,Option.isSome,tW,tX,wT,D7,Hj,eq,eU,fB,Option.ag,az];rfl
end
end Go.Am.Qd
namespace Go.Am.Qd
structure HQ (F G:Fl):Prop where
 b:G.b.length=F.b.length
 w:G.bN.length=F.bN.length
 s:G.aj=F.aj
theorem HQ.refl (F:Fl):HQ F F:=⟨rfl,rfl,rfl⟩
theorem HQ.trans {F G K:Fl} (a:HQ F G) (b:HQ G K):HQ F K:=⟨b.b.trans a.b,b.w.trans a.w,b.s.trans a.s⟩
theorem gL.YC {F:Fl} (hF:gL F) (i:Nat) (l:List UInt8):gL (F.program i l).2∧HQ F (F.program i l).2:=by
 obtain⟨h1,h2,h3,h4⟩:=hF.program i l;exact⟨h1,h2,by rw[h3],h4⟩
theorem gL.shL {F:Fl} (hF:gL F) (i:Nat) (l:List UInt8):gL (F.lay i l).2∧HQ F (F.lay i l).2:=by
 obtain⟨h1,h2,h3,h4⟩:=hF.lay i l;exact⟨h1,h2,by rw[h3],h4⟩
theorem gL.shC {F:Fl} (hF:gL F) (s n:Nat) (hs:s+n≤F.bN.length):gL (F.clear s n).2∧HQ F (F.clear s n).2:=by
 obtain⟨h1,h2,h3,h4⟩:=hF.clear n s hs;exact⟨h1,h2,h3,h4⟩
theorem gL.shF {F:Fl} (hF:gL F) (A a:Nat) (vs:Vs) (ks:List Nat):gL (F.fill A a vs ks).2.2∧HQ F (F.fill A a vs ks).2.2:=by
 obtain⟨h1,h2,h3,h4⟩:=hF.fill A vs ks a;exact⟨h1,h2,by rw[h3],h4⟩
theorem gL.shM {F:Fl} (hF:gL F) (hw:4≤F.bN.length) (sz:Nat) (J:Jn) (vs:Vs):gL (F.move sz J vs).2.1∧HQ F (F.move sz J vs).2.1:=by
 unfold Fl.move;split
 ·exact⟨hF,.refl _⟩
 split
 ·exact⟨hF,.refl _⟩
 simp only;obtain⟨f1,s1⟩:=hF.shC (2*(1-J.now)) 2 (by omega);split
 ·exact⟨f1,s1⟩
 obtain⟨f2,s2⟩:=f1.shF (2*(1-J.now)*F.aj) 8 vs (fy vs);split
 ·exact⟨f2,s1.trans s2⟩
 obtain⟨f3,s3⟩:=f2.YC (2*(1-J.now)*F.aj+1) (br (J.bM+1#32));split
 ·exact⟨f3,s1.trans (s2.trans s3)⟩
 obtain⟨f4,s4⟩:=f3.YC (2*(1-J.now)*F.aj+0) [0];split
 ·exact⟨f4,s1.trans (s2.trans (s3.trans s4))⟩
 ·exact⟨f4,s1.trans (s2.trans (s3.trans s4))⟩
theorem Fq.shp {F G:Fl} {sz:Nat} (hF:Fq F sz) (hg:gL G) (s:HQ F G):Fq G sz:=hF.of hg s.b s.w s.s
theorem Om {F:Fl} {sz:Nat} (hF:Fq F sz) {J:Jn} {vs:Vs} (hk:Keyed vs) (hn:J.now≤1) (hf:J.fin≤sz) (b:List UInt8):gL (F.gh sz J b vs).2.1∧HQ F (F.gh sz J b vs).2.1 ∧
  (∀ J',(F.gh sz J b vs).2.2=some J'→(F.gh sz J b vs).1=0∧J'.now≤1∧J'.fin≤sz)∧((F.gh sz J b vs).2.2=none→(F.gh sz J b vs).1≠0):=by
 unfold Fl.gh;split
 ·exact⟨hF.fin,.refl _,fun J' h=>by simp at h,fun _=>by simp⟩
 split
 ·obtain⟨a1,a2⟩:=hF.fin.shM hF.bN.1 sz J vs
  obtain⟨_,_,b3,b4⟩:=sU (J:=J) hF hk;exact⟨a1,a2,fun J' h=>by obtain⟨c1,c2,c3,c4,_⟩:=b3 J' h;exact⟨c1,by omega,by omega⟩,b4⟩
 ·simp only
  obtain⟨f1,s1⟩:=hF.fin.shL (2*J.now*F.aj+J.fin) b;split
  ·rename_i hc;exact⟨f1,s1,fun J' h=>by simp at h,fun _=>hc⟩
  ·refine⟨f1,s1,fun J' h=>?_,fun h=>by simp at h⟩
   simp only[Option.some.injEq]at h;subst h;exact⟨rfl,hn,by simp only;omega⟩
def yF (a p:Nat):List UInt8:=[UInt8.ofNat a,UInt8.ofNat p]
def Hl (F:Fl) (J:Jn) (vs:Vs) (a p:Nat):Nat × Fl × Jn × Vs :=
 if bO vs=(a,p) then(0,F,J,vs) else if F.down then(30,F,J,vs) else
 let r:=F.gh 128 J (dD (UInt8.ofNat 0) (yF a p) false) (gK vs 0 (some (yF a p)))
 match r.2.2 with
 | none=>(r.1,r.2.1,J,vs)
 | some J'=>(r.1,r.2.1,J',gK vs 0 (some (yF a p)))
theorem Ub {vs:Vs} {a p:Nat} (ha:a≤1) (hp:p≤2) {u:Option (List UInt8)} (hg:cO vs 0=some u) (hu:vB u=yF a p):bO vs=(a,p):=by
 have ea:(UInt8.ofNat a).toNat=a:=by simp;omega
 have ep:(UInt8.ofNat p).toNat=p:=by simp;omega
 unfold bO;rw[hg,Option.getD_some,hu];show(if [UInt8.ofNat a,UInt8.ofNat p].length≠2∨1<(UInt8.ofNat a).toNat∨2<(UInt8.ofNat p).toNat then(0,0) else((UInt8.ofNat a).toNat,(UInt8.ofNat p).toNat))=_;rw[ea,ep,if_neg (by simp;omega)]
section
variable {H:Hp} {P:Pl} {F:Fl} {J:Jn} {vs:Vs} {run:Nat} {W:Option Wt} {R:List Nat} (d:eR H P F J vs run W R)
include d
theorem Dv.bK {h:Hp} {m:Nat} {w:PV} (d:Dv H P F J vs run W R h m w) {F':Fl} {J':Jn} {vs':Vs} (hf:gL F') (hs:HQ F F') {m':Nat} {x:List (PV × PV)} (hm:(m'=m∧vs'=vs)∨(m'=size h∧x=pK vs'))
  (h1:Small vs') (h2:Keyed vs') (h3:J'.now≤1) (h4:J'.fin≤128) :
  eR (dZ (Go.Am.ext h [.map x]) P.p F' P.jb (jC P.qa P.qb 128 J' m')) P F' J' vs' run W R∧Kp R H (dZ (Go.Am.ext h [.map x]) P.p F' P.jb (jC P.qa P.qb 128 J' m')):=by
 have hse:size (Go.Am.ext h [gT.map x])=size h+1:=by rw[aW];rfl
 have hj:=d.js.ok.ext [.map x];have js0:=d.js.X0 [.map x];have hmap:bR (Go.Am.ext h [.map x]) m'=some (pK vs'):=by
  rcases hm with⟨rfl,rfl⟩ | ⟨rfl,rfl⟩
  ·exact js0.map
  ·rw[rP];rfl
 have hnm:(m'≠P.p.f∧m'≠P.p.bb∧m'≠P.p.wb)∧m'≠P.jb:=by
  rcases hm with⟨rfl,rfl⟩ | ⟨rfl,rfl⟩
  ·exact⟨d.js.nm,d.js.mj⟩
  ·obtain⟨n1,n2,n3,n4⟩:=d.js.ok.new
   exact⟨⟨n1,n2,n3⟩,n4⟩
 refine⟨⟨Go.Am.ext h [.map x],m',w,?_⟩,?_,fun b hb=>?_⟩
 ·have dx:=d.ext [.map x]
  exact { dx with eq:=rfl,js:=⟨hj,hmap,hnm.1,hnm.2,h1,h2,d.js.fl.shp hf hs,h3,h4⟩,fs:=by rw[hs.s];exact d.fs,fl:=by rw[hs.b];exact d.fl,fw:=by rw[hs.w];exact d.fw }
 ·rw[dG hj,d.sW,hse];omega
 ·obtain⟨b1,b2,b3⟩:=d.ro b hb
  rw[b2.box hj,d.box b2,dP b1]
theorem eR.keep {base:Nat} (hb:base≤P.lo) {a p:Nat} (ha:a≤1) (hp:p≤2):∃ H',ai T base 62 [.ptr P.sb 0,.int .i64 (a:Int),.int .i64 (p:Int)] H=some (.int .i64 ((Hl F J vs a p).1:Int),H') ∧
  eR H' P (Hl F J vs a p).2.1 (Hl F J vs a p).2.2.1 (Hl F J vs a p).2.2.2 run W R∧Kp R H H':=by
 have kp:=d.kept base;have hkl:=lR vs;have n0:aF (.ptr P.sb 0)=some (.ptr P.sb 0):=rfl;have e1:binOp .eql (.int .i64 ((bO vs).1:Int)) (.int .i64 (a:Int))=some (.bool (decide ((bO vs).1=a))):=by
  show some (PV.bool (((bO vs).1:Int) == (a:Int)))=_
  by_cases hq:(bO vs).1=a
  ·rw[hq,decide_eq_true rfl];simp
  ·rw[decide_eq_false hq,beq_false_of_ne (by omega)]
 have e2:binOp .eql (.int .i64 ((bO vs).2:Int)) (.int .i64 (p:Int))=some (.bool (decide ((bO vs).2=p))):=by
  show some (PV.bool (((bO vs).2:Int) == (p:Int)))=_
  by_cases hq:(bO vs).2=p
  ·rw[hq,decide_eq_true rfl];simp
  ·rw[decide_eq_false hq,beq_false_of_ne (by omega)]
 have fk:∀ (v:PV) (H':Hp),bg true false (size H) [v] H'=some (v,H'):=fun v H'=>mZ _ _ _ _
 by_cases hq:bO vs=(a,p)
 ·refine⟨H,?_,?_,Kp.refl _ _⟩
  ·unfold Hl
   rw[if_pos hq];have q1:(bO vs).1=a:=by rw[hq]
   have q2:(bO vs).2=p:=by rw[hq]
   rw[S62];simp only[kp,tW,tX,e1,decide_eq_true q1,wT,D7,e2,decide_eq_true q2,Kt,eU,fk,Option.ag,az];rfl
  ·unfold Hl
   rw[if_pos hq];exact d
 ·have hgo:∀ K:PV→Option (PV × Hp),((aq (.bool (decide ((bO vs).1=a))) true).ah fun Xb=>(au Xb (some (.int .i64 ((bO vs).2:Int))) (some .undef)).ah fun iT =>
    (aq (.bool (decide ((bO vs).1=a))) true).ah fun Xc=>(au Xc (some (.int .i64 (p:Int))) (some .undef)).ah fun pz =>
    (aq (.bool (decide ((bO vs).1=a))) true).ah fun b22=>(au b22 ((binOp .eql iT pz).ah some) (some .undef)).ah fun oy =>
    (aD (.bool (decide ((bO vs).1=a))) (some oy) (some (.bool false))).ah K)=K (.bool false):=fun K=>by
   by_cases q1:(bO vs).1=a
   ·have q2:(bO vs).2≠p:=fun q2=>hq (Prod.ext q1 q2)
    simp only[decide_eq_true q1,wT,D7,e2,decide_eq_false q2,Kt,eU,Option.ag]
   ·simp only[decide_eq_false q1,wF2,OJ,eC,Option.ag]
  have a8:cu (.int .i64 (a:Int)) .u8=some (.int .u8 (((UInt8.ofNat a).toNat:Nat):Int)):=by
   have:a=0∨a=1:=by omega
   rcases this with rfl | rfl<;>rfl
  have p8:cu (.int .i64 (p:Int)) .u8=some (.int .u8 (((UInt8.ofNat p).toNat:Nat):Int)):=by
   have:p=0∨p=1∨p=2:=by omega
   rcases this with rfl | rfl | rfl<;>rfl
  have bs:cF 1 false [(.int .u8 0)] 2 [(0,strip (.int .u8 (((UInt8.ofNat a).toNat:Nat):Int))),(1,strip (.int .u8 (((UInt8.ofNat p).toNat:Nat):Int)))]=some (.sl .full 1 (aP (yF a p))):=rfl;obtain⟨h,m,w,dd⟩:=d;have l2:ax 1 false (.ptr P.sb 2) H=some (.ptr P.jb 0):=dd.ld 2;have hbv:Bv (.sl .full 1 (aP (yF a p))) (yF a p):=vm (.inr rfl) _;have Kb:cl (.sl .full 1 (aP (yF a p))) (yF a p)=some (yF a p):=if_neg (by simp);have afc:∀ (e:Nat) (H':Hp),ai T base 97 [.ptr P.jb 0,.int .i64 0,.sl .full 1 (aP (yF a p))] H=some (.int .i64 (e:Int),H') →
    ai T base 62 [.ptr P.sb 0,.int .i64 (a:Int),.int .i64 (p:Int)] H=some (.int .i64 (e:Int),H'):=fun e H' hc=>by
   rw[S62];simp only[kp,tW,tX,e1,hgo,eC,n0,nQ,l2,a8,p8,bs,hc,fk,Option.ag,az]
  unfold Hl;rw[if_neg hq]
  by_cases hd:F.down=true
  ·rw[if_pos hd]
   have hf:aaZ F 0 (yF a p).length=30:=by unfold aaZ;rw[if_pos hd]
   have:=aeK (F:=F) dd.js base 0 (hbv.len) (by rw[hf];decide);rw[hf,←dd.eq]at this;exact⟨H,afc 30 H this,⟨h,m,w,dd⟩,Kp.refl _ _⟩
  ·rw[if_neg hd]
   have hf:aaZ F ((0:Nat):Int) (yF a p).length=0:=by
    unfold aaZ;rw[if_neg hd,if_neg (by omega)];rfl
   have:=ahu (F:=F) dd.js (base:=base) (Nat.le_trans hb dd.lj) (k:=0) hbv (.inl rfl) hf (fun u hg hu=>hq (Ub ha hp hg hu));rw[Kb,←dd.eq]at this;have hkk:=dd.js.keyed.gK 0 (some (yF a p));have hsm:=dd.js.small.gK dd.js.keyed (k:=0) (v:=some (yF a p)) (by decide) (by show 2≤250;decide);obtain⟨w1,w2,w3,w4⟩:=Om dd.js.fl hkk dd.js.now dd.js.fin (dD (UInt8.ofNat 0) (yF a p) false);simp only;generalize F.gh 128 J (dD (UInt8.ofNat 0) (yF a p) false) (gK vs 0 (some (yF a p)))=r at this w1 w2 w3 w4 ⊢;obtain⟨r1,r2,r3⟩:=r;cases r3 with
   | none =>
    obtain⟨q1,q2⟩:=Dv.bK ⟨h,m,w,dd⟩ dd (F':=r2) (J':=J) (vs':=vs) w1 w2 (m':=m) (x:=pK (gK vs 0 (some (yF a p)))) (.inl ⟨rfl,rfl⟩) dd.js.small dd.js.keyed dd.js.now dd.js.fin;exact⟨_,afc _ _ this,q1,q2⟩
   | some J' =>
    obtain⟨c1,c2,c3⟩:=w3 J' rfl;obtain⟨q1,q2⟩:=Dv.bK ⟨h,m,w,dd⟩ dd (F':=r2) (J':=J') (vs':=gK vs 0 (some (yF a p))) w1 w2 (m':=size h) (x:=pK (gK vs 0 (some (yF a p)))) (.inr ⟨rfl,rfl⟩) hsm hkk c2 c3;exact⟨_,afc _ _ this,q1,q2⟩
end
end Go.Am.Qd
namespace Go.Am.Qd
structure Ss where
 F:Fl
 J:Jn
 vs:Vs
 run:Nat
 W:Option Wt
abbrev DS (H:Hp) (P:Pl) (s:Ss) (R:List Nat):Prop:=eR H P s.F s.J s.vs s.run s.W R
def Ss.act (s:Ss):Nat:=(bO s.vs).1
def Ss.ph (s:Ss):Nat:=(bO s.vs).2
def Ss.keep (s:Ss) (a p:Nat):Nat × Ss:=((Hl s.F s.J s.vs a p).1,{ s with F:=(Hl s.F s.J s.vs a p).2.1,J:=(Hl s.F s.J s.vs a p).2.2.1,vs:=(Hl s.F s.J s.vs a p).2.2.2 })
def Ss.ok (s:Ss) (n i:Nat):Bool:=(cP s.F n (i:Int)).isSome
def Ss.cD (s:Ss) (n slot phase:Nat):Nat × Nat × Ss :=
 if s.ok n slot=true then(if(s.keep s.act phase).1≠0 then(0,(s.keep s.act phase).1,(s.keep s.act phase).2) else(slot,0,{ (s.keep s.act phase).2 with run:=slot }))
 else if s.ok n (1-slot)=false then(0,4,s)
 else if(s.keep (1-slot) 0).1≠0 then(0,(s.keep (1-slot) 0).1,(s.keep (1-slot) 0).2) else(1-slot,0,{ (s.keep (1-slot) 0).2 with run:=1-slot })
def Ss.stop (s:Ss):Ss:={ s with W:=none }
def Ss.select (s:Ss) (n:Nat):Nat × Nat × Ss :=
 if s.F.down then(0,30,s.stop) else if s.ph=1∧s.ok n (1-s.act)=true then s.stop.cD n (1-s.act) 2 else s.stop.cD n s.act 0
def Ss.cL (s:Ss):Nat × Ss :=
 if s.F.down then(30,s) else if s.ph≠2∨s.run≠1-s.act then(60,s) else s.keep s.run 0
def Ss.arm (s:Ss) (n:Nat):Nat × Ss :=
 if s.F.down then(30,s) else if s.ph≠0∨s.W.isSome=true then(60,s) else if s.ok n (1-s.act)=false then(4,s) else s.keep s.act 1
theorem X3 {H:Hp} {base:Nat} (hb:base≤size H) {x y:qv} (hx:x.dg.length=32) (hy:y.dg.length=32):aS base 35 (.ptr (size H) 0) (.agg (ct y)) (ext H [.cells (ct x)])=some (ext H [.cells (ct y)]):=by
 rw[jf (by rw[aQ];rfl) hb (eE hx) (eE hy) (tV _),ez (Nat.le_refl _)];simp
theorem DW (b:Option (List UInt8)):(vA b).dg.length=32:=by
 cases b with
 | none=>rfl
 | some l=>exact G0 l
theorem fK (n0:Nat) (v:PV) (H:Hp):bg true false n0 [v] H=some (v,H):=mZ _ _ _ _
theorem Ud (n0:Nat) (v u:PV) (H:Hp):bg true false n0 [v,u] H=some (.cC [v,u],H):=mZ _ _ _ _
section
variable {H:Hp} {P:Pl} {F:Fl} {J:Jn} {vs:Vs} {run:Nat} {W:Option Wt} {R:List Nat} (d:eR H P F J vs run W R)
include d
theorem eR.Ue (l:Hp):Kp R H (Go.Am.ext H l):=by
 obtain⟨h,m,w,d⟩:=d;refine⟨by rw[aW];omega,fun b hb=>?_⟩;rw[dP (by rw[d.sW];exact(d.ro b hb).1)]
theorem eR.lo_le:P.lo≤size H:=by
 obtain⟨h,m,w,d⟩:=d;have:=cx d.sb;rw[d.sW];have:=d.ls;omega
theorem eR.RO (base:Nat) {r:Nat} (hr:r≤1):∃ H',aS base 1 (.ptr P.sb 3) (.int .i64 (r:Int)) H=some H'∧eR H' P F J vs r W R∧Kp R H H':=by
 obtain⟨h,m,w,d⟩:=d;have hw:LY (aC h P.sb (.cells (sC P r w))) P R w W:=by
  refine LY.set d d.wo (fun W' hW wb hwb=>?_) _;subst hW;obtain⟨wb',hk,hv,ws,rr,a1,a2,a3,a4,a5,a6,a7,a8,a9,b1,b2,b3,b4,b5,b6⟩:=d.wo;rw[a1]at hwb;cases hwb;refine⟨Ne.symm b3,fun hv' hk' a c hg=>?_⟩;rw[a2]at hg;cases hg;refine⟨Ne.symm b4,fun tb es he=>?_⟩;rcases a5 with⟨_,a5⟩ | ⟨_,tb',c1,c2,c3,c4,c5,c6,c7⟩
  ·rw[a5]at he;cases he
  ·rw[c1]at he;cases he;exact Ne.symm c6
 obtain⟨d',k⟩:=d.X2 (run':=r) (w':=w) (W':=W) hr hw;refine⟨_,?_,⟨_,_,_,d'⟩,k⟩;rw[dz,d.RL,Option.ag,if_pos ⟨rfl,by show 3+1≤5;decide,rfl,fun _=>rfl⟩];have:(if P.sb<base then aO (PV.int .i64 (r:Int)).cells else(PV.int .i64 (r:Int)).cells)=[.int .i64 (r:Int)]:=by split<;>rfl
 rw[this];rfl
end
theorem nei (a b:Nat):binOp .neq (.int .i64 (a:Int)) (.int .i64 (b:Int))=some (.bool (decide (a≠b))):=by
 show some (PV.bool (!((a:Int) == (b:Int))))=_
 by_cases he:a=b
 ·subst he;simp
 ·rw[show((a:Int) == (b:Int))=false from beq_false_of_ne (by omega),decide_eq_true he];rfl
theorem eqi (a b:Nat):binOp .eql (.int .i64 (a:Int)) (.int .i64 (b:Int))=some (.bool (decide (a=b))):=by
 show some (PV.bool ((a:Int) == (b:Int)))=_
 by_cases he:a=b
 ·subst he;simp
 ·rw[show((a:Int) == (b:Int))=false from beq_false_of_ne (by omega),decide_eq_false he]
theorem am9 {a:Nat} (ha:a≤1):binOp .sub (.int .i64 1) (.int .i64 (a:Int))=some (.int .i64 ((1-a:Nat):Int)):=by
 show some (PV.int .i64 (IntKind.i64.wrap (1-(a:Int))))=_;rw[wrap_small (by omega) (by omega)];congr 2;omega
section
variable {H:Hp} {P:Pl} {s:Ss} {R:List Nat} (d:DS H P s R) {base:Nat} (hb:base≤P.lo)
include d hb
theorem DS.keep {a p:Nat} (ha:a≤1) (hp:p≤2):∃ H',ai T base 62 [.ptr P.sb 0,.int .i64 (a:Int),.int .i64 (p:Int)] H=some (.int .i64 ((s.keep a p).1:Int),H')∧DS H' P (s.keep a p).2 R∧Kp R H H' :=
 eR.keep d hb ha hp
theorem DS.cD {slot phase:Nat} (hs:slot≤1) (hp:phase≤2):∃ H',ai T base 65 [.ptr P.sb 0,.int .i64 (slot:Int),.int .i64 (phase:Int)] H=some (.cC [.int .i64 ((s.cD P.n slot phase).1:Int),.int .i64 ((s.cD P.n slot phase).2.1:Int)],H') ∧
  DS H' P (s.cD P.n slot phase).2.2 R∧Kp R H H':=by
 have hlo:=eR.lo_le d;have ac:=eR.lQ d base;have vl:=eR.valid d base (slot:Int);have z32:iS.dg.length=32:=rfl;have n0:aF (.ptr P.sb 0)=some (.ptr P.sb 0):=rfl;have Ba:=X3 (H:=H) (base:=base) (by omega) z32 (DW (cP s.F P.n (slot:Int)));have d1:DS (Go.Am.ext H [.cells (ct (vA (cP s.F P.n (slot:Int))))]) P s R:=eR.ext d _;have k1:=eR.Ue d [.cells (ct (vA (cP s.F P.n (slot:Int))))];have hal:=(lR s.vs).1;unfold Ss.cD
 by_cases hv:s.ok P.n slot=true
 ·rw[if_pos hv]
  have hv':(cP s.F P.n (slot:Int)).isSome=true:=hv;obtain⟨H',e1,e2,e3⟩:=DS.keep d1 hb (a:=s.act) (p:=phase) hal hp;have e1':ai T base 62 [.ptr P.sb 0,.int .i64 ((bO s.vs).1:Int),.int .i64 (phase:Int)] _=_:=e1
  by_cases he:(s.keep s.act phase).1≠0
  ·rw[if_pos he]
   refine⟨H',?_,e2,k1.trans e3⟩;rw[S65,←jR];simp only[ac,vl,tW,tX,HO (h:=H),Ba,hv',show unOp .not (.bool true)=some (.bool false) from rfl,eC,e1',U0,decide_eq_true he,eU,Ud,Option.ag,az];rfl
  ·rw[if_neg he]
   obtain⟨H2,r1,r2,r3⟩:=eR.RO e2 base hs;refine⟨H2,?_,r2,(k1.trans e3).trans r3⟩;rw[S65,←jR];simp only[ac,vl,tW,tX,HO (h:=H),Ba,hv',show unOp .not (.bool true)=some (.bool false) from rfl,eC,e1',U0,decide_eq_false he,n0,nQ,r1,Ud,Option.ag,az];rfl
 ·have Yl:s.ok P.n slot=false:=by simpa using hv
  have hv':(cP s.F P.n (slot:Int)).isSome=false:=Yl;rw[if_neg hv];have vl2:=eR.valid d1 base (((1-slot:Nat)):Int);have asl:=eR.lo_le d1;have UW:=X3 (H:=Go.Am.ext H [.cells (ct (vA (cP s.F P.n (slot:Int))))]) (base:=base) (by omega) z32 (DW (cP s.F P.n ((1-slot:Nat):Int)));have d2:DS (Go.Am.ext (Go.Am.ext H [.cells (ct (vA (cP s.F P.n (slot:Int))))]) [.cells (ct (vA (cP s.F P.n ((1-slot:Nat):Int))))]) P s R:=eR.ext d1 _;have k2:=k1.trans (eR.Ue d1 [.cells (ct (vA (cP s.F P.n ((1-slot:Nat):Int))))]);have sb:=am9 hs
  by_cases ho:s.ok P.n (1-slot)=false
  ·rw[if_pos ho]
   have ho':(cP s.F P.n ((1-slot:Nat):Int)).isSome=false:=ho;refine⟨_,?_,d2,k2⟩;rw[S65,←jR];simp only[ac,vl,tW,tX,HO,Ba,hv',show unOp .not (.bool false)=some (.bool true) from rfl,eU,sb,vl2,UW,ho',Ud,Option.ag,az];rfl
  ·rw[if_neg ho]
   have ho1:s.ok P.n (1-slot)=true:=by simpa using ho
   have ho':(cP s.F P.n ((1-slot:Nat):Int)).isSome=true:=ho1;obtain⟨H',e1,e2,e3⟩:=DS.keep d2 hb (a:=1-slot) (p:=0) (by omega) (by omega);simp only[show((0:Nat):Int)=0 from rfl]at e1
   by_cases he:(s.keep (1-slot) 0).1≠0
   ·rw[if_pos he]
    refine⟨H',?_,e2,k2.trans e3⟩;rw[S65,←jR];simp only[ac,vl,tW,tX,HO,Ba,hv',show unOp .not (.bool false)=some (.bool true) from rfl,show unOp .not (.bool true)=some (.bool false) from rfl,eU,eC,sb,vl2,UW,ho',e1,U0,decide_eq_true he,Ud,Option.ag,az];rfl
   ·rw[if_neg he]
    obtain⟨H2,r1,r2,r3⟩:=eR.RO e2 base (r:=1-slot) (by omega);refine⟨H2,?_,r2,(k2.trans e3).trans r3⟩;rw[S65,←jR];simp only[ac,vl,tW,tX,HO,Ba,hv',show unOp .not (.bool false)=some (.bool true) from rfl,show unOp .not (.bool true)=some (.bool false) from rfl,eU,eC,sb,vl2,UW,ho',e1,U0,decide_eq_false he,n0,nQ,r1,Ud,Option.ag,az];rfl
end
end Go.Am.Qd
namespace Go.Am.Qd
section
variable {H:Hp} {P:Pl} {s:Ss} {R:List Nat} (d:DS H P s R) {base:Nat} (hb:base≤P.lo)
include d
theorem DS.abY:∃ w,ax 1 false (.ptr P.sb 4) H=some w∧gE 0 true w=some (.bool s.W.isSome):=by
 obtain⟨h,m,w,d⟩:=d;refine⟨w,d.ld 4,?_⟩;have hw:=d.wo;cases hW:s.W with
 | none=>rw[hW]at hw;have:w=.bp:=hw;subst this;rfl
 | some W=>rw[hW]at hw;obtain⟨wb,hk,hv,ws,r,rfl,_⟩:=hw;rfl
theorem DS.rn:s.run≤1:=by obtain⟨h,m,w,d⟩:=d;exact d.rn
include hb
theorem DS.select:∃ H',ai T base 17 [.ptr P.sb 0] H=some (.cC [.int .i64 ((s.select P.n).1:Int),.int .i64 ((s.select P.n).2.1:Int)],H')∧DS H' P (s.select P.n).2.2 R∧Kp R H H':=by
 obtain⟨H1,e1,e2,e3⟩:=eR.stop d base;have d1:DS H1 P s.stop R:=e2;have dn:=eR.down d1 base;have dn':ai T base 53 [.ptr P.sb 0] H1=some (.bool s.F.down,H1):=dn;unfold Ss.select
 by_cases hd:s.F.down=true
 ·rw[if_pos hd]
  rw[hd]at dn';refine⟨H1,?_,d1,e3⟩;rw[S17];simp only[e1,dn',eU,Ud,az];rfl
 rw[if_neg hd];have hd':s.F.down=false:=by simpa using hd
 rw[hd']at dn';have hal:=(lR s.vs).1;have ot:=eR.other d1 base;have vl:=eR.valid d1 base ((1-(bO s.vs).1:Nat):Int);have z32:iS.dg.length=32:=rfl;have hlo:=eR.lo_le d1;have Ba:=X3 (H:=H1) (base:=base) (by omega) z32 (DW (cP s.F P.n ((1-(bO s.vs).1:Nat):Int)));have d2:DS (Go.Am.ext H1 [.cells (ct (vA (cP s.F P.n ((1-(bO s.vs).1:Nat):Int))))]) P s.stop R:=eR.ext d1 _;have k2:=e3.trans (eR.Ue d1 [.cells (ct (vA (cP s.F P.n ((1-(bO s.vs).1:Nat):Int))))]);have ph:=eR.phase d2 base;have ac:=eR.lQ d2 base;have ot2:=eR.other d2 base;simp only[show s.stop.vs=s.vs from rfl]at ot ph ac ot2;have eq:=eqi (bO s.vs).2 1;simp only[show((1:Nat):Int)=1 from rfl]at eq;have Se:ai T base 43 [.ptr P.sb 0,.int .i64 ((1-(bO s.vs).1:Nat):Int)] H1=some (.cC [.agg (ct (vA (cP s.F P.n ((1-(bO s.vs).1:Nat):Int)))),.bool (s.ok P.n (1-s.act))],H1):=vl;have go:∀ K:PV→Option (PV × Hp),((aq (.bool (decide ((bO s.vs).2=1))) true).ah fun WT=>(au WT (some (.bool (s.ok P.n (1-s.act)))) (some .undef)).ah fun Ag =>
   (aD (.bool (decide ((bO s.vs).2=1))) (some Ag) (some (.bool false))).ah K)=K (.bool (decide (s.ph=1∧s.ok P.n (1-s.act)=true))):=fun K=>by
  have hp:s.ph=(bO s.vs).2:=rfl
  by_cases q:(bO s.vs).2=1
  ·simp only[decide_eq_true q,wT,D7,eU,Option.ag,hp,q,true_and]
   cases s.ok P.n (1-s.act)<;>rfl
  ·simp only[decide_eq_false q,wF2,OJ,eC,Option.ag,hp,q,false_and]
   rfl
 by_cases hc:s.ph=1∧s.ok P.n (1-s.act)=true
 ·rw[if_pos hc]
  obtain⟨H3,q1,q2,q3⟩:=DS.cD d2 hb (slot:=1-s.act) (phase:=2) (by omega) (by omega);have q1':ai T base 65 [.ptr P.sb 0,.int .i64 ((1-(bO s.vs).1:Nat):Int),.int .i64 2] _=_:=q1;refine⟨H3,?_,q2,k2.trans q3⟩;rw[S17,←jR];simp only[e1,dn',eC,ot,Se,tW,tX,HO,Ba,ph,eq,go,decide_eq_true hc,eU,ot2,q1',Ud,Option.ag,az]
 ·rw[if_neg hc]
  obtain⟨H3,q1,q2,q3⟩:=DS.cD d2 hb (slot:=s.act) (phase:=0) hal (by omega);have q1':ai T base 65 [.ptr P.sb 0,.int .i64 ((bO s.vs).1:Int),.int .i64 0] _=_:=q1;refine⟨H3,?_,q2,k2.trans q3⟩;rw[S17,←jR];simp only[e1,dn',eC,ot,Se,tW,tX,HO,Ba,ph,eq,go,decide_eq_false hc,ac,q1',Ud,Option.ag,az]
theorem DS.cL:∃ H',ai T base 18 [.ptr P.sb 0] H=some (.int .i64 (s.cL.1:Int),H')∧DS H' P s.cL.2 R∧Kp R H H':=by
 have dn:=eR.down d base;have ph:=eR.phase d base;have ot:=N9 (eR.other d base);have n0:aF (.ptr P.sb 0)=some (.ptr P.sb 0):=rfl;have hrn:=DS.rn d;have l3:ax 1 false (.ptr P.sb 3) H=some (.int .i64 (s.run:Int)):=by obtain⟨h,m,w,dd⟩:=d;exact dd.ld 3
 have nq:=nei (bO s.vs).2 2;simp only[show((2:Nat):Int)=2 from rfl]at nq;unfold Ss.cL
 by_cases hd:s.F.down=true
 ·rw[if_pos hd]
  rw[hd]at dn;refine⟨H,?_,d,Kp.refl _ _⟩;rw[S18];simp only[dn,eU,fK,az];rfl
 rw[if_neg hd];have hd':s.F.down=false:=by simpa using hd
 rw[hd']at dn
 by_cases hp:s.ph≠2
 ·have hp':(bO s.vs).2≠2:=hp
  rw[if_pos (.inl hp)];refine⟨H,?_,d,Kp.refl _ _⟩;rw[S18];simp only[dn,eC,ph,nq,decide_eq_true hp',Sd,OJ,eU,fK,Option.ag,az];rfl
 have hp':¬ (bO s.vs).2≠2:=hp;have nr:=nei s.run (1-(bO s.vs).1)
 by_cases hr:s.run≠1-s.act
 ·have hr':s.run≠1-(bO s.vs).1:=hr
  rw[if_pos (.inr hr)];refine⟨H,?_,d,Kp.refl _ _⟩;rw[S18];simp only[dn,eC,ph,nq,decide_eq_false hp',wT,D7,Kt,n0,nQ,l3,ot,if_true,nr,decide_eq_true hr',eU,fK,Option.ag,az];rfl
 ·have hr':¬ s.run≠1-(bO s.vs).1:=hr
  rw[if_neg (by simp only[not_or];exact⟨hp,hr⟩)];obtain⟨H',e1,e2,e3⟩:=DS.keep d hb (a:=s.run) (p:=0) hrn (by omega);simp only[show((0:Nat):Int)=0 from rfl]at e1;refine⟨H',?_,e2,e3⟩;rw[S18];simp only[dn,eC,ph,nq,decide_eq_false hp',wT,D7,Kt,n0,nQ,l3,ot,if_true,nr,decide_eq_false hr',e1,fK,Option.ag,az]
theorem DS.arm:∃ H',ai T base 15 [.ptr P.sb 0] H=some (.int .i64 ((s.arm P.n).1:Int),H')∧DS H' P (s.arm P.n).2 R∧Kp R H H':=by
 have hal:=(lR s.vs).1;have ot:=eR.other d base;have vl:=eR.valid d base ((1-(bO s.vs).1:Nat):Int);have Se:ai T base 43 [.ptr P.sb 0,.int .i64 ((1-(bO s.vs).1:Nat):Int)] H=some (.cC [.agg (ct (vA (cP s.F P.n ((1-(bO s.vs).1:Nat):Int)))),.bool (s.ok P.n (1-s.act))],H):=vl;have z32:iS.dg.length=32:=rfl;have hlo:=eR.lo_le d;have n0:aF (.ptr P.sb 0)=some (.ptr P.sb 0):=rfl;have Ba:=X3 (H:=H) (base:=base) (by omega) z32 (DW (cP s.F P.n ((1-(bO s.vs).1:Nat):Int)));have d2:DS (Go.Am.ext H [.cells (ct (vA (cP s.F P.n ((1-(bO s.vs).1:Nat):Int))))]) P s R:=eR.ext d _;have k2:=eR.Ue d [.cells (ct (vA (cP s.F P.n ((1-(bO s.vs).1:Nat):Int))))];have dn:=eR.down d2 base;have ph:=eR.phase d2 base;have ac:=eR.lQ d2 base;obtain⟨w,lw,iw⟩:=DS.abY d2;have nq:=U0 (bO s.vs).2;unfold Ss.arm
 by_cases hd:s.F.down=true
 ·rw[if_pos hd]
  rw[hd]at dn;refine⟨_,?_,d2,k2⟩;rw[S15,←jR];simp only[ot,Se,tW,tX,HO (h:=H),Ba,dn,eU,fK,Option.ag,az];rfl
 rw[if_neg hd];have hd':s.F.down=false:=by simpa using hd
 rw[hd']at dn
 by_cases hp:s.ph≠0
 ·have hp':(bO s.vs).2≠0:=hp
  rw[if_pos (.inl hp)];refine⟨_,?_,d2,k2⟩;rw[S15,←jR];simp only[ot,Se,tW,tX,HO (h:=H),Ba,dn,eC,ph,nq,decide_eq_true hp',eU,fK,Option.ag,az];rfl
 have hp':¬ (bO s.vs).2≠0:=hp
 by_cases hw:s.W.isSome=true
 ·rw[if_pos (.inr hw)]
  rw[hw]at iw;refine⟨_,?_,d2,k2⟩;rw[S15,←jR];simp only[ot,Se,tW,tX,HO (h:=H),Ba,dn,eC,ph,nq,decide_eq_false hp',n0,nQ,lw,iw,eU,fK,Option.ag,az];rfl
 rw[if_neg (by simp only[not_or];exact⟨hp,hw⟩)];have hw':s.W.isSome=false:=by simpa using hw
 rw[hw']at iw;cases ho:s.ok P.n (1-s.act) with
 | false =>
  rw[if_pos rfl];rw[ho]at Se;refine⟨_,?_,d2,k2⟩;rw[S15,←jR];simp only[ot,Se,tW,tX,HO (h:=H),Ba,dn,eC,ph,nq,decide_eq_false hp',n0,nQ,lw,iw,show unOp .not (.bool false)=some (.bool true) from rfl,eU,fK,Option.ag,az];rfl
 | true =>
  rw[if_neg (by simp)];rw[ho]at Se;obtain⟨H',e1,e2,e3⟩:=DS.keep d2 hb (a:=s.act) (p:=1) hal (by omega);have e1':ai T base 62 [.ptr P.sb 0,.int .i64 ((bO s.vs).1:Int),.int .i64 1] _=_:=e1;refine⟨H',?_,e2,k2.trans e3⟩;rw[S15,←jR];simp only[ot,Se,tW,tX,HO (h:=H),Ba,dn,eC,ph,nq,decide_eq_false hp',n0,nQ,lw,iw,show unOp .not (.bool true)=some (.bool false) from rfl,ac,e1',fK,Option.ag,az]
end
end Go.Am.Qd
namespace Go.Am.Qd
structure Dq (H:Hp) (P:Pl) (F:Fl) (J:Jn) (vs:Vs) (run:Nat) (R:List Nat) (h:Hp) (m:Nat) (w:PV):Prop where
 eq:H=dZ h P.p F P.jb (jC P.qa P.qb 128 J m)
 js:JS h P.p F P.jb P.qa P.qb 128 m J vs
 pc:gI h P.p P.qc 4 P.n
 pd:gI h P.p P.qd (4+P.n) P.n
 cj:P.qc≠P.jb
 dj:P.qd≠P.jb
 fs:F.aj=64
 fl:F.b.length=(4+2*P.n)*64
 fw:F.bN.length=4+2*P.n
 hn:4≤P.n∧P.n≤7
 sb:ay h P.sb=some (sC P run w)
 ns:NJ P P.sb
 rn:run≤1
 ro:∀ b∈R,b<size h∧NJ P b∧b≠P.sb
 lj:P.lo≤P.jb
 ls:P.lo≤P.sb
theorem Dv.q {H:Hp} {P:Pl} {F:Fl} {J:Jn} {vs:Vs} {run:Nat} {W:Option Wt} {R:List Nat} {h:Hp} {m:Nat} {w:PV} (d:Dv H P F J vs run W R h m w):Dq H P F J vs run R h m w :=
 ⟨d.eq,d.js,d.pc,d.pd,d.cj,d.dj,d.fs,d.fl,d.fw,d.hn,d.sb,d.ns,d.rn,d.ro,d.lj,d.ls⟩
section
variable {H:Hp} {P:Pl} {F:Fl} {J:Jn} {vs:Vs} {run:Nat} {R:List Nat} {h:Hp} {m:Nat} {w:PV} (d:Dq H P F J vs run R h m w)
include d
theorem Dq.v {W:Option Wt} (hw:LY h P R w W):Dv H P F J vs run W R h m w:={ d with wo:=hw }
theorem Dq.sW:size H=size h:=by rw[d.eq];exact dG d.js.ok _
theorem Dq.box {b:Nat} (hn:NJ P b):bX H b=bX h b:=by rw[d.eq];exact hn.box d.js.ok
theorem Dq.get {b:Nat} (hn:NJ P b):ay H b=ay h b:=by rw[d.eq];exact hn.get d.js.ok
theorem Dq.nb {b:Nat} (hb:size h≤b):NJ P b:=by
 have h1:=d.js.ok.fo.lf;have h2:=d.js.ok.fo.lb;have h3:=d.js.ok.fo.lw;have h4:=d.js.ok.lj;exact⟨by omega,by omega,by omega,by omega⟩
theorem Dq.ext (l:Hp):Dq (Go.Am.ext H l) P F J vs run R (Go.Am.ext h l) m w∧Kp R H (Go.Am.ext H l):=by
 refine⟨{ d with eq:=?_,js:=d.js.X0 l,pc:=d.pc.ext l,pd:=d.pd.ext l,sb:=?_,ro:=fun b hb=>⟨?_,(d.ro b hb).2⟩ },?_,fun b hb=>?_⟩
 ·rw[d.eq];exact m7 d.js.ok _ l
 ·rw[aX (cx d.sb)];exact d.sb
 ·have:=(d.ro b hb).1;rw[aW];omega
 ·rw[aW];omega
 ·rw[dP (by rw[d.sW];exact(d.ro b hb).1)]
theorem Dq.set {b:Nat} (hn:NJ P b) (hs:b≠P.sb) (hR:b ∉ R) (h3:∀ cs,ay h b=some cs→cs.length≠3) (hm:bR h b=none) (x:gT) :
  Dq (aC H b x) P F J vs run R (aC h b x) m w∧Kp R H (aC H b x):=by
 have key:∀ {q f c:Nat},gI h P.p q f c→gI (aC h b x) P.p q f c:=fun {q f c} hq=>by
  have hne:b≠q:=fun he=>by subst he;exact h3 _ hq.get rfl
  exact⟨by rw[bD hne];exact hq.get,hq.n1,hq.n2,hq.n3⟩
 have hmb:b≠m:=fun he=>by rw[he,d.js.map]at hm;cases hm
 have hmm:bR (aC h b x) m=some (pK vs):=by rw[jD hmb];exact d.js.map
 have hok:Bb (aC h b x) P.p P.jb P.qa P.qb:={ d.js.ok with fo:=d.js.ok.fo.set _ _,pa:=key d.js.ok.pa,pb:=key d.js.ok.pb,lj:=by rw[aJ];exact d.js.ok.lj };have j1:JS (aC h b x) P.p F P.jb P.qa P.qb 128 m J vs:={ d.js with ok:=hok,map:=hmm };have j2:=key d.pc;have j3:=key d.pd;refine⟨{ d with eq:=?_,js:=j1,pc:=j2,pd:=j3,sb:=?_,ro:=fun c hc=>?_ },?_,fun c hc=>?_⟩
 ·rw[d.eq];exact hn.set d.js.ok _
 ·rw[bD hs];exact d.sb
 ·rw[aJ];exact d.ro c hc
 ·rw[aJ];exact Nat.le_refl _
 ·exact cN (fun he=>hR (he▸hc))
end
theorem RP (l b:List UInt8):(l++b).take 64=l.take 64++b.take (min b.length (64-(l.take 64).length))∧(l++b).drop 64=l.drop 64++b.drop (min b.length (64-(l.take 64).length)):=by
 have e:64-(l.take 64).length=64-l.length:=by rw[List.length_take];omega
 rw[e];constructor
 ·rw[List.take_append]
  congr 1
  by_cases hq:b.length≤64-l.length
  ·rw[Nat.min_eq_left hq,List.take_of_length_le hq,List.take_of_length_le (Nat.le_refl _)]
  ·rw[Nat.min_eq_right (by omega)]
 ·rw[List.drop_append]
  congr 1
  by_cases hq:b.length≤64-l.length
  ·rw[Nat.min_eq_left hq,List.drop_of_length_le hq,List.drop_of_length_le (Nat.le_refl _)]
  ·rw[Nat.min_eq_right (by omega)]
theorem RQ {H:Hp} {P:Pl} {F:Fl} {J:Jn} {vs:Vs} {run:Nat} {R:List Nat} {h:Hp} {m:Nat} {w:PV} (d:Dq H P F J vs run R h m w) {wb hk:Nat} {hv:PV} {l:List UInt8} (hh:XZ h P R wb hk hv l)
  (RK:wb<size h) (hkl:hk<size h) (b:List UInt8) {o:Own} (hlim:l.length+b.length≤1000000) (hlo:P.lo≤size h) (hgw:ay h wb≠none) (hgk:ay h hk≠none) :
  ∃ hv' H' h',qE 5 1 hv (.sl o 1 (aP b)) H=some (hv',H')∧Dq H' P F J vs run R h' m w∧Kp R H H'∧XZ h' P R wb hk hv' (l++b)∧ay h' wb=ay h wb∧ay h' hk=ay h hk∧scalar hv'=true∧hv'.cells=[hv']:=by
 have el:∀ H':Hp,elems H' (.sl o 1 (aP b))=some (aP b):=fun _=>rfl
 have hf:=Rq b;have hlb:(aP b).length=b.length:=aM b;rcases hh with⟨rfl,rfl⟩ | ⟨hne,tb,rfl,h2,h3,h4,h5,h6,h7,h8⟩
 ·by_cases hb:b=[]
  ·subst hb
   refine⟨.bn,H,h,?_,d,Kp.refl _ _,.inl ⟨rfl,rfl⟩,rfl,rfl,rfl,rfl⟩;rw[pE,el,Option.ag];rfl
  ·obtain⟨q1,q2⟩:=d.ext [.tok b.length 5]
   have hem:(aP b).isEmpty=false:=by
    cases hq:aP b with
    | nil=>exact absurd (ql.1 hq) hb
    | cons _ _=>rfl
   have hst:aO (aP b)=aP b:=nO b;refine⟨.sl (.tok (size H)) 1 (aP b),_,_,?_,q1,q2,?_,?_,?_,rfl,rfl⟩
   ·rw[pE,el,Option.ag]
    unfold aaI;rw[if_pos hf];simp only[hem,hlb,gy,Bool.false_eq_true,if_false,hst];rw[if_pos (by omega)]
   ·rw[List.nil_append]
    refine .inr ⟨hb,size h,by rw[d.sW],by rw[cJ rfl],d.nb (Nat.le_refl _),hlo,fun hr=>?_,fun he=>?_,by omega,by omega⟩
    ·have:=(d.ro _ hr).1;omega
    ·have:=cx d.sb;omega
   ·exact aX RK
   ·exact aX hkl
 ·have hgt:ay h tb=none:=by unfold ay;rw[h2];rfl
  have hmt:bR h tb=none:=by unfold bR;rw[h2];rfl
  have anc:dm H tb=some (l.length,5):=by unfold dm;rw[d.box h3,h2];rfl
  obtain⟨q1,q2⟩:=d.set h3 h6 h5 (fun cs hc=>by rw[hgt]at hc;cases hc) hmt (.tok (l.length+b.length) 5);have hst:aO (aP b)=aP b:=nO b;have hll:(aP l).length=l.length:=aM l;refine⟨.sl (.tok tb) 1 (aP (l++b)),_,_,?_,q1,q2,?_,?_,?_,rfl,rfl⟩
  ·rw[pE,el,Option.ag]
   unfold aaI;rw[if_pos hf];simp only[anc,Option.ag,hlb,hll,gy,hst];rw[if_pos ⟨trivial,trivial,by omega⟩];simp[aP]
  ·refine .inr ⟨by simp[hne],tb,rfl,?_,h3,h4,h5,h6,h7,h8⟩
   rw[cM (bw h2),List.length_append]
  ·exact bD h7
  ·exact bD h8
theorem Dv.take {H:Hp} {P:Pl} {F:Fl} {J:Jn} {vs:Vs} {run:Nat} {W:Wt} {R:List Nat} {h:Hp} {m:Nat} {w:PV} (d:Dv H P F J vs run (some W) R h m w) {base:Nat} (hb:base≤P.lo) {o:Own} (ho:Nf o) (b:List UInt8)
  (hl:W.data.length+b.length≤W.size):∃ H' h',ai T base 58 [w,.sl o 1 (aP b)] H=some (.cC [],H')∧Dv H' P F J vs run (some { W with data:=W.data++b }) R h' m w∧Kp R H H':=by
 obtain⟨wb,hk,hv,ws,r,rfl,a2,a3,a4,a5,a6,a7,a8,a9,b1,b2,b3,b4,b5,b6,b7⟩:=d.wo;have hlh:=a5;have hnn:=d.hn;have gw:ay H wb=some [.int .i64 (W.size:Int),.int .i64 (W.data.length:Int),hv,.ptr hk 0]:=by rw[d.get a6];exact a2
 have hlo:P.lo≤size h:=by have:=cx a2;omega
 obtain⟨t1,t2⟩:=RP W.data b;have htl:(W.data.take 64).length≤64:=by rw[List.length_take];omega
 generalize hn:min b.length (64-(W.data.take 64).length)=n at t1 t2;have hnb:n≤b.length:=by omega
 -- the head gp
 have hvl:cG false hv=some (.int .i64 ((W.data.take 64).length:Int)):=by
  rcases a5 with⟨e,rfl⟩ | ⟨_,tb,rfl,_⟩
  ·rw[e];rfl
  ·rw[fA,aM]
 obtain⟨o1,p1,s1⟩:=slc (o:=o) b (lo:=none) (hi:=some (.int .i64 (n:Int))) (a:=0) (b:=n) rfl (gQ b.length .i64 n hnb);obtain⟨o2,p2,s2⟩:=slc (o:=o) b (lo:=some (.int .i64 (n:Int))) (hi:=none) (a:=n) (b:=b.length) (gQ b.length .i64 n hnb) rfl;rw[show(b.drop 0).take (n-0)=b.take n by simp]at s1;rw[List.take_of_length_le (by rw[List.length_drop];exact Nat.le_refl _)]at s2;obtain⟨hv',H1,h1,c1,c2,c3,c4,c5,c6,c7,c8⟩:=RQ d.q a5 (cx a2) (cx a3) (b.take n) (o:=o1) (by rw[List.length_take,List.length_take];omega) hlo (by rw[a2];simp) (by rw[a3];simp);rw[←t1]at c4;have g1:ay h1 wb=some [.int .i64 (W.size:Int),.int .i64 (W.data.length:Int),hv,.ptr hk 0]:=by rw[c5];exact a2
 have k1:ay h1 hk=some (hC ws r (W.data.drop 64).length):=by rw[c6];exact a3
 have lw1:=cx g1;have lk1:=cx k1
 -- it is stored
 obtain⟨d2,e2⟩:=c2.set a6 b3 b1 (fun cs hc=>by rw[g1]at hc;cases hc;show 4≠3;decide) (nS g1) (.cells [.int .i64 (W.size:Int),.int .i64 (W.data.length:Int),hv',.ptr hk 0]);have gw1:ay H1 wb=some [.int .i64 (W.size:Int),.int .i64 (W.data.length:Int),hv,.ptr hk 0]:=by rw[c2.get a6];exact g1
 have UW:aS base 1 (.ptr wb 2) hv' H1=some (aC H1 wb (.cells [.int .i64 (W.size:Int),.int .i64 (W.data.length:Int),hv',.ptr hk 0])):=by
  rw[mK gw1 (by omega) c7 c8 (by show 2<4;decide)];rfl
 -- the sum
 have k2:ay (aC h1 wb (.cells [.int .i64 (W.size:Int),.int .i64 (W.data.length:Int),hv',.ptr hk 0])) hk=some (hC ws r (W.data.drop 64).length):=by rw[bD b5];exact k1
 have kH:ay (aC H1 wb (.cells [.int .i64 (W.size:Int),.int .i64 (W.data.length:Int),hv',.ptr hk 0])) hk=some (hC ws r (W.data.drop 64).length):=by rw[d2.get a7];exact k2
 generalize hH2:aC H1 wb (.cells [.int .i64 (W.size:Int),.int .i64 (W.data.length:Int),hv',.ptr hk 0])=H2 at d2 e2 UW kH;have gw2:ay H2 wb=some [.int .i64 (W.size:Int),.int .i64 (W.data.length:Int),hv',.ptr hk 0]:=by
  rw[←hH2,ay,cM (cx gw1)];rfl
 obtain⟨ws',r',x',q'⟩:=GM (h:=H2) base (cx kH) (w:=ws) (r:=r) (l:=W.data.drop 64) (b:=b.drop n) p2 a4 (by rw[List.length_drop,List.length_drop];omega);rw[ju (bq kH),←t2]at q';rw[←t2]at x';obtain⟨d3,e3⟩:=d2.set a7 b4 b2 (fun cs hc=>by rw[k2]at hc;cases hc;rw[DO a4.wl a4.hr];decide) (nS k2) (.cells (hC ws' r' ((W.data++b).drop 64).length));have gw3:ay (aC H2 hk (.cells (hC ws' r' ((W.data++b).drop 64).length))) wb=some [.int .i64 (W.size:Int),.int .i64 (W.data.length:Int),hv',.ptr hk 0]:=by rw[bD (Ne.symm b5)];exact gw2
 generalize hH3:aC H2 hk (.cells (hC ws' r' ((W.data++b).drop 64).length))=H3 at d3 e3 gw3 q';have gh3:=gw3;rw[d3.get a6]at gh3;obtain⟨d4,e4⟩:=d3.set a6 b3 b1 (fun cs hc=>by rw[gh3]at hc;cases hc;show 4≠3;decide) (nS gh3) (.cells [.int .i64 (W.size:Int),.int .i64 (((W.data++b).length:Nat):Int),hv',.ptr hk 0]);have Yp:aS base 1 (.ptr wb 1) (.int .i64 (((W.data++b).length:Nat):Int)) H3=some (aC H3 wb (.cells [.int .i64 (W.size:Int),.int .i64 (((W.data++b).length:Nat):Int),hv',.ptr hk 0])):=by
  rw[mK gw3 (by omega) rfl rfl (by show 1<4;decide)];rfl
 refine⟨_,_,?_,d4.v ⟨wb,hk,hv',ws',r',rfl,?_,?_,x',?_,a6,a7,a8,a9,b1,b2,b3,b4,b5,b6,by rw[List.length_append];exact hl⟩,((c3.trans e2).trans e3).trans e4⟩
 ·have n0:aF (.ptr wb 0)=some (.ptr wb 0):=rfl
  have e0:cG false (.sl o 1 (aP b))=some (.int .i64 (b.length:Int)):=by rw[fA,aM]
  have l2:ax 1 false (.ptr wb 2) H=some hv:=dL gw;have sb:binOp .sub (.int .i64 64) (.int .i64 ((W.data.take 64).length:Int))=some (.int .i64 ((64-(W.data.take 64).length:Nat):Int)):=by
   show some (PV.int .i64 (IntKind.i64.wrap (64-((W.data.take 64).length:Int))))=_;rw[wrap_small (by omega) (by omega)];congr 2;omega
  have mm:jH false [.int .i64 (b.length:Int),.int .i64 ((64-(W.data.take 64).length:Nat):Int)]=some (.int .i64 (n:Int)):=by
   show some (PV.int .i64 (if((64-(W.data.take 64).length:Nat):Int)<(b.length:Int) then((64-(W.data.take 64).length:Nat):Int) else(b.length:Int)))=_;congr 2;split<;>omega
  have l3:ax 1 false (.ptr wb 3) H2=some (.ptr hk 0):=dL gw2;have l1:ax 1 false (.ptr wb 1) H3=some (.int .i64 (W.data.length:Int)):=dL gw3;have ad:binOp .add (.int .i64 (W.data.length:Int)) (.int .i64 (b.length:Int))=some (.int .i64 (((W.data++b).length:Nat):Int)):=by
   show some (PV.int .i64 (IntKind.i64.wrap ((W.data.length:Int)+(b.length:Int))))=_;rw[mI _ _ (by omega),List.length_append]
  rw[S58];simp only[e0,n0,nQ,l2,hvl,sb,mm,s1,c1,UW,l3,s2,q',l1,ad,Yp,mZ,Option.ag,az];rfl
 ·rw[ay,cM (cx gh3)];rfl
 ·rw[bD b5,ay,cM (cx k2)];rfl
 ·rcases c4 with c4 | ⟨c4,tb,f1,f2,f3,f4,f5,f6,f7,f8⟩
  ·exact .inl c4
  ·refine .inr ⟨c4,tb,f1,?_,f3,f4,f5,f6,f7,f8⟩
   rw[cN (Ne.symm f7),cN (Ne.symm f8),cN (Ne.symm f7)];exact f2
end Go.Am.Qd
namespace Go.Am.Qd
theorem fIx (H r:Hp) (k:IntKind) (n:Int):bg false false (size H) [.int k n] (ext H r)=some (.int k n,H):=by
 rw[bZ];show some (PV.int k n,bJ (ext H r) (size H))=_;rw[cH]
def nT (W:Wt):Nat:=if W.data.length<64 then 0 else if(cA (W.data.take 64)).2=0∧(cA (W.data.take 64)).1.size+64≠W.size then 53 else(cA (W.data.take 64)).2
def atS (n i:Nat):Nat:=(4+i*n)*64
def Ss.write (s:Ss) (n:Nat) (b:List UInt8):Nat × Ss :=
 if s.F.down then(30,s.stop) else match s.W with
 | none=>(60,s)
 | some W=>if W.size<W.data.length+b.length then(2,s) else
  if(s.F.program (atS n (1-s.act)+W.data.length) b).1≠0 then((s.F.program (atS n (1-s.act)+W.data.length) b).1,{ s with F:=(s.F.program (atS n (1-s.act)+W.data.length) b).2,W:=none }) else
  let s':Ss:={ s with F:=(s.F.program (atS n (1-s.act)+W.data.length) b).2,W:=some { W with data:=W.data++b } }
  if 64≤W.data.length then(0,s') else
  if nT { W with data:=W.data++b }≠0 then(nT { W with data:=W.data++b },s'.stop) else(0,s')
def Ss.begin (s:Ss) (n:Nat) (size:Int):Nat × Ss :=
 if s.F.down then(30,s) else if s.ph≠0 then(60,s) else if size<64∨(n*64:Nat)<size then(53,s) else
 if(s.F.clear (4+(1-s.act)*n) n).1≠0 then((s.F.clear (4+(1-s.act)*n) n).1,{ s with F:=(s.F.clear (4+(1-s.act)*n) n).2,W:=none })
 else(0,{ s with F:=(s.F.clear (4+(1-s.act)*n) n).2,W:=some ⟨size.toNat,[]⟩ })
section
variable {H:Hp} {P:Pl} {F:Fl} {J:Jn} {vs:Vs} {run:Nat} {W:Option Wt} {R:List Nat} {h:Hp} {m:Nat} {w:PV} (d:Dv H P F J vs run W R h m w)
include d
theorem Dv.cV {F':Fl} (hf:gL F') (hs:HQ F F'):Dv (dZ h P.p F' P.jb (jC P.qa P.qb 128 J m)) P F' J vs run W R h m w∧Kp R H (dZ h P.p F' P.jb (jC P.qa P.qb 128 J m)):=by
 refine⟨{ d with eq:=rfl,js:={ d.js with fl:=d.js.fl.shp hf hs },fs:=by rw[hs.s];exact d.fs,fl:=by rw[hs.b];exact d.fl,fw:=by rw[hs.w];exact d.fw },?_,fun b hb=>?_⟩
 ·rw[dG d.js.ok,d.sW];exact Nat.le_refl _
 ·obtain⟨b1,b2,b3⟩:=d.ro b hb
  rw[b2.box d.js.ok,d.box b2]
theorem Dv.pwrite (base:Nat) {i:Nat} (hi:i≤1) {q:Nat} (hq:ax 1 false (.ptr P.sb i) H=some (.ptr q 0)) {a:Nat} {v:PV} {l:List UInt8} (hv:Bv v l) (hin:a+l.length≤P.n*64) :
  ∃ H',ai T base 28 [.ptr q 0,.int .i64 (a:Int),v] H=some (.int .i64 ((F.program (atS P.n i+a) l).1:Int),H')∧Dv H' P (F.program (atS P.n i+a) l).2 J vs run W R h m w∧Kp R H H':=by
 obtain⟨q',q1,q2⟩:=d.part hi;rw[d.ld,q1]at hq;cases hq;have hF:=d.js.fl.fin;have hn:=d.hn;have hroom:=eR.room ⟨h,m,w,d⟩ hi;have:=aaY (F:=F) (d.js.ok.fs _) q2 base a l hv hF (by rw[d.fs];exact hin) hroom;rw[d.fs]at this;obtain⟨f1,f2⟩:=hF.YC (atS P.n i+a) l;obtain⟨d',k'⟩:=d.cV f1 f2;exact⟨_,by rw[d.eq];exact this,d',k'⟩
theorem Dv.X4 (base:Nat) {i:Nat} (hi:i≤1) {q:Nat} (hq:ax 1 false (.ptr P.sb i) H=some (.ptr q 0)) :
  ∃ H',ai T base 55 [.ptr q 0] H=some (.int .i64 ((F.clear (4+i*P.n) P.n).1:Int),H')∧Dv H' P (F.clear (4+i*P.n) P.n).2 J vs run W R h m w∧Kp R H H':=by
 obtain⟨q',q1,q2⟩:=d.part hi;rw[d.ld,q1]at hq;cases hq;have hF:=d.js.fl.fin;have hn:=d.hn;have hfw:=d.fw;have hroom:=eR.room ⟨h,m,w,d⟩ hi;have hw:4+i*P.n+P.n≤F.bN.length:=by
  rw[hfw];have:i=0∨i=1:=by omega
  rcases this with rfl | rfl<;>omega
 have:=GF (F:=F) (d.js.ok.fs _) q2 base hF hroom hw (by omega);obtain⟨f1,f2⟩:=hF.shC (4+i*P.n) P.n hw;obtain⟨d',k'⟩:=d.cV f1 f2;exact⟨_,by rw[d.eq];exact this,d',k'⟩
end
theorem Dv.fault {H:Hp} {P:Pl} {F:Fl} {J:Jn} {vs:Vs} {run:Nat} {W:Wt} {R:List Nat} {h:Hp} {m:Nat} {w:PV} (d:Dv H P F J vs run (some W) R h m w) (base:Nat) :
  ai T base 59 [w] H=some (.int .i64 (nT W:Int),H):=by
 obtain⟨wb,hk,hv,ws,r,rfl,a2,a3,a4,a5,a6,a7,a8,a9,b1,b2,b3,b4,b5,b6,b7⟩:=d.wo;have gw:ay H wb=some [.int .i64 (W.size:Int),.int .i64 (W.data.length:Int),hv,.ptr hk 0]:=by rw[d.get a6];exact a2
 have l2:ax 1 false (.ptr wb 2) H=some hv:=dL gw;have n0:aF (.ptr wb 0)=some (.ptr wb 0):=rfl;have hvl:cG false hv=some (.int .i64 ((W.data.take 64).length:Int)):=by
  rcases a5 with⟨e,rfl⟩ | ⟨_,tb,rfl,_⟩
  ·rw[e];rfl
  ·rw[fA,aM]
 have lt:binOp .lss (.int .i64 ((W.data.take 64).length:Int)) (.int .i64 64)=some (.bool (decide (W.data.length<64))):=by
  show some (PV.bool (decide (((W.data.take 64).length:Int)<64)))=_;congr 2;exact decide_eq_decide.2 (by rw[List.length_take];omega)
 unfold nT
 by_cases HL:W.data.length<64
 ·have f0:=fI H .i64 0
  rw[if_pos HL,S59];simp only[n0,nQ,l2,hvl,lt,decide_eq_true HL,eU,f0,Option.ag];rfl
 rw[if_neg HL];have ht:(W.data.take 64).length=64:=by rw[List.length_take];omega
 obtain⟨o,rfl⟩ : ∃ o,hv=.sl o 1 (aP (W.data.take 64)):=by
  rcases a5 with⟨e,rfl⟩ | ⟨_,tb,rfl,_⟩
  ·rw[e]at ht;cases ht
  ·exact⟨_,rfl⟩
 have rd:=Km (h:=H) (size H) o (W.data.take 64) (by omega);generalize hE:cA (W.data.take 64)=E at rd;have d32:E.1.dg.length=32:=by rw[←hE];exact G0 _
 have hz:E.1.size≤1048576:=by rw[←hE];exact adY _
 have z32:iS.dg.length=32:=rfl;have ldz:(ct E.1)[1]?=some (.int .i64 (E.1.size:Int)):=rfl;have gw2:ay (Go.Am.ext H [.cells (ct E.1)]) wb=some [.int .i64 (W.size:Int),.int .i64 (W.data.length:Int),.sl o 1 (aP (W.data.take 64)),.ptr hk 0]:=by rw[aX (cx gw)];exact gw
 have l0:ax 1 false (.ptr wb 0) (Go.Am.ext H [.cells (ct E.1)])=some (.int .i64 (W.size:Int)):=dL gw2;have eq:=eqi E.2 0;simp only[show((0:Nat):Int)=0 from rfl]at eq;have ad:binOp .add (.int .i64 (E.1.size:Int)) (.int .i64 64)=some (.int .i64 ((E.1.size+64:Nat):Int)):=by
  show some (PV.int .i64 (IntKind.i64.wrap ((E.1.size:Int)+64)))=_;rw[wrap_small (by omega) (by omega)];congr 2
 have nq:=nei (E.1.size+64) W.size;have f53:=fun r=>fIx H r .i64 53
 rw[S59,←jR];simp only[n0,nQ,l2,hvl,lt,decide_eq_false HL,eC,rd,tW,tX,HO (h:=H),ft0 z32 d32,eq,Option.ag,az]
 by_cases he:E.2=0
 ·by_cases hs:E.1.size+64≠W.size
  ·rw[if_pos ⟨he,hs⟩]
   simp only[decide_eq_true he,wT,D7,Kt,fv0,ldz,ad,n0,nQ,l0,nq,decide_eq_true hs,eU,f53,Option.ag];rfl
  ·rw[if_neg (fun q=>hs q.2)]
   simp only[decide_eq_true he,wT,D7,Kt,fv0,ldz,ad,n0,nQ,l0,nq,decide_eq_false hs,eU,eC,fIx,Option.ag]
 ·rw[if_neg (fun q=>he q.1)]
  simp only[decide_eq_false he,wF2,OJ,eC,fIx,Option.ag]
section
variable {H:Hp} {P:Pl} {s:Ss} {R:List Nat} (d:DS H P s R) {base:Nat} (hb:base≤P.lo)
include d hb
theorem DS.write {o:Own} (ho:Nf o) (b:List UInt8) (hbl:b.length≤100000):∃ H',ai T base 13 [.ptr P.sb 0,.sl o 1 (aP b)] H=some (.int .i64 ((s.write P.n b).1:Int),H')∧DS H' P (s.write P.n b).2 R∧Kp R H H':=by
 obtain⟨H0,r1,r2,r3,r4⟩:=eR.ready d base;have e0:cG false (.sl o 1 (aP b))=some (.int .i64 (b.length:Int)):=by rw[fA,aM]
 have n0:∀ k,aF (.ptr k 0)=some (.ptr k 0):=fun _=>rfl
 unfold Ss.write
 by_cases hd:s.F.down=true
 ·have hr:Ua s.F s.W=30:=by unfold Ua;rw[if_pos hd]
  rw[hr]at r1;rw[if_pos hd];simp only[hd,if_true]at r2;refine⟨H0,?_,r2,r3⟩;have c1:binOp .neq (.int .i64 30) (.int .i64 0)=some (.bool true):=rfl;rw[S13];simp only[r1,show((30:Nat):Int)=30 from rfl,c1,eU,fK,Option.ag,az]
 rw[if_neg hd];have hd':s.F.down=false:=by simpa using hd
 obtain rfl:=r4 hd';simp only[hd',Bool.false_eq_true,if_false]at r2;cases hW:s.W with
 | none =>
  have hr:Ua s.F s.W=60:=by unfold Ua;rw[if_neg hd,hW]
  rw[hr]at r1;have c1:binOp .neq (.int .i64 60) (.int .i64 0)=some (.bool true):=rfl;refine⟨H0,?_,d,Kp.refl _ _⟩;rw[S13];simp only[r1,show((60:Nat):Int)=60 from rfl,c1,eU,fK,Option.ag,az]
 | some W =>
  have hr:Ua s.F s.W=0:=by unfold Ua;rw[if_neg hd,hW]
  rw[hr]at r1;rw[hW]at r2;have c1:binOp .neq (.int .i64 ((0:Nat):Int)) (.int .i64 0)=some (.bool false):=rfl;obtain⟨h,m,w,dd⟩:=r2;have l4:ax 1 false (.ptr P.sb 4) H0=some w:=dd.ld 4;obtain⟨wb,hk,hv,ws,r,hwe,a2,a3,a4,a5,a6,a7,a8,a9,b1,b2,b3,b4,b5,b6,b7⟩:=dd.wo;have gw:ay H0 wb=some [.int .i64 (W.size:Int),.int .i64 (W.data.length:Int),hv,.ptr hk 0]:=by rw[dd.get a6];exact a2
  have w0:ax 1 false (.ptr wb 0) H0=some (.int .i64 (W.size:Int)):=dL gw;have w1:ax 1 false (.ptr wb 1) H0=some (.int .i64 (W.data.length:Int)):=dL gw;have hn:=dd.hn;have sb:binOp .sub (.int .i64 (W.size:Int)) (.int .i64 (W.data.length:Int))=some (.int .i64 ((W.size-W.data.length:Nat):Int)):=by
   show some (PV.int .i64 (IntKind.i64.wrap ((W.size:Int)-(W.data.length:Int))))=_;rw[wrap_small (by omega) (by omega)];congr 2;omega
  have gt:binOp .gtr (.int .i64 (b.length:Int)) (.int .i64 ((W.size-W.data.length:Nat):Int))=some (.bool (decide (W.size<W.data.length+b.length))):=by
   show some (PV.bool (decide ((b.length:Int) > ((W.size-W.data.length:Nat):Int))))=_;congr 2;exact decide_eq_decide.2 (by omega)
  by_cases hl:W.size<W.data.length+b.length
  ·simp only[if_pos hl]
   refine⟨H0,?_,d,Kp.refl _ _⟩;subst hwe;rw[S13];simp only[r1,c1,eC,n0,nQ,l4,e0,w0,w1,sb,gt,decide_eq_true hl,eU,fK,Option.ag,az];rfl
  ·simp only[if_neg hl]
   have hal:=(lR s.vs).1;have hi:1-s.act≤1:=by omega
   obtain⟨q,ix,lq,_⟩:=eR.slot ⟨h,m,w,dd⟩ hi;have ot:=N9 (eR.other d base);have YD:aN 1 2 (.ptr P.sb 0) (.int .i64 ((1-(bO s.vs).1:Nat):Int))=some (.ptr P.sb (1-s.act)):=ix;obtain⟨H1,p1,p2,p3⟩:=dd.pwrite base hi lq (a:=W.data.length) (v:=.sl o 1 (aP b)) (l:=b) (vm ho b) (by omega);generalize s.F.program (atS P.n (1-s.act)+W.data.length) b=r at p1 p2 ⊢
   by_cases he:r.1≠0
   ·simp only[if_pos he]
    obtain⟨H2,t1,t2,t3⟩:=eR.stop ⟨h,m,w,p2⟩ base;refine⟨H2,?_,t2,p3.trans t3⟩;subst hwe;rw[S13];simp only[r1,c1,eC,n0,nQ,l4,e0,w0,w1,sb,gt,decide_eq_false hl,ot,if_true,YD,lq,p1,U0,decide_eq_true he,eU,t1,fK,Option.ag,az]
   ·simp only[if_neg he]
    have gw1:ay H1 wb=some [.int .i64 (W.size:Int),.int .i64 (W.data.length:Int),hv,.ptr hk 0]:=by rw[p2.get a6];exact a2
    have l2:ax 1 false (.ptr wb 2) H1=some hv:=dL gw1;have hvl:cG false hv=some (.int .i64 ((W.data.take 64).length:Int)):=by
     rcases a5 with⟨e,rfl⟩ | ⟨_,tb,rfl,_⟩
     ·rw[e];rfl
     ·rw[fA,aM]
    obtain⟨H2,h2,t1,t2,t3⟩:=p2.take hb ho b (by omega);have eq:=eqi (W.data.take 64).length 64;simp only[show((64:Nat):Int)=64 from rfl]at eq;have d64:decide ((W.data.take 64).length=64)=decide (64≤W.data.length):=decide_eq_decide.2 (by rw[List.length_take];omega);rw[d64]at eq;subst hwe
    by_cases HL:64≤W.data.length
    ·simp only[if_pos HL]
     refine⟨H2,?_,⟨h2,m,_,t2⟩,p3.trans t3⟩;rw[S13];simp only[r1,c1,eC,n0,nQ,l4,e0,w0,w1,sb,gt,decide_eq_false hl,ot,if_true,YD,lq,p1,U0,decide_eq_false he,l2,hvl,t1,eq,decide_eq_true HL,eU,fK,Option.ag,az];rfl
    ·simp only[if_neg HL]
     have ft:=t2.fault base;generalize nT { W with data:=W.data++b }=e at ft ⊢
     by_cases hz:e≠0
     ·simp only[if_pos hz]
      obtain⟨H3,u1,u2,u3⟩:=eR.stop ⟨h2,m,_,t2⟩ base;refine⟨H3,?_,u2,(p3.trans t3).trans u3⟩;rw[S13];simp only[r1,c1,eC,n0,nQ,l4,e0,w0,w1,sb,gt,decide_eq_false hl,ot,if_true,YD,lq,p1,U0,decide_eq_false he,l2,hvl,t1,eq,decide_eq_false HL,ft,decide_eq_true hz,eU,u1,fK,Option.ag,az]
     ·simp only[if_neg hz]
      have hz0:e=0:=Classical.not_not.1 hz;subst hz0;refine⟨H2,?_,⟨h2,m,_,t2⟩,p3.trans t3⟩;rw[S13];simp only[r1,c1,eC,n0,nQ,l4,e0,w0,w1,sb,gt,decide_eq_false hl,ot,if_true,YD,lq,p1,U0,decide_eq_false he,l2,hvl,t1,eq,decide_eq_false HL,ft,fK,Option.ag,az]
theorem DS.begin (size:Int):∃ H',ai T base 12 [.ptr P.sb 0,.int .i64 size] H=some (.int .i64 ((s.begin P.n size).1:Int),H')∧DS H' P (s.begin P.n size).2 R∧Kp R H H':=by
 have hal:=(lR s.vs).1;have hi:1-s.act≤1:=by omega
 obtain⟨q,ix,lq,_⟩:=eR.slot d hi;have YD:aN 1 2 (.ptr P.sb 0) (.int .i64 ((1-(bO s.vs).1:Nat):Int))=some (.ptr P.sb (1-s.act)):=ix;have ot:=eR.other d base;have dn:=eR.down d base;have ph:=eR.phase d base;have n0:aF (.ptr P.sb 0)=some (.ptr P.sb 0):=rfl;have hn:=eR.hn d;unfold Ss.begin
 by_cases hd:s.F.down=true
 ·rw[if_pos hd]
  rw[hd]at dn;refine⟨H,?_,d,Kp.refl _ _⟩;rw[S12];simp only[ot,n0,nQ,YD,lq,dn,eU,fK,Option.ag,az];rfl
 rw[if_neg hd];have hd':s.F.down=false:=by simpa using hd
 rw[hd']at dn;have nq:=U0 (bO s.vs).2
 by_cases hp:s.ph≠0
 ·have hp':(bO s.vs).2≠0:=hp
  rw[if_pos hp];refine⟨H,?_,d,Kp.refl _ _⟩;rw[S12];simp only[ot,n0,nQ,YD,lq,dn,eC,ph,nq,decide_eq_true hp',eU,fK,Option.ag,az];rfl
 rw[if_neg hp];have hp':¬ (bO s.vs).2≠0:=hp;have lt:binOp .lss (.int .i64 size) (.int .i64 64)=some (.bool (decide (size<64))):=rfl;have ps:=eR.abU d base hi lq [];rw[ext_nil]at ps;have gt:binOp .gtr (.int .i64 size) (.int .i64 ((P.n*64:Nat):Int))=some (.bool (decide (((P.n*64:Nat):Int)<size))):=rfl
 by_cases hs:size<64∨((P.n*64:Nat):Int)<size
 ·rw[if_pos hs]
  refine⟨H,?_,d,Kp.refl _ _⟩;rw[S12]
  by_cases h1:size<64
  ·simp only[ot,n0,nQ,YD,lq,dn,eC,ph,nq,decide_eq_false hp',lt,decide_eq_true h1,Sd,OJ,eU,fK,Option.ag,az]
   rfl
  ·have h2:((P.n*64:Nat):Int)<size:=hs.resolve_left h1
   simp only[ot,n0,nQ,YD,lq,dn,eC,ph,nq,decide_eq_false hp',lt,decide_eq_false h1,wT,D7,Kt,Hj,ps,gt,decide_eq_true h2,eU,fK,Option.ag,az];rfl
 rw[if_neg hs];have h1:¬ size<64:=fun q=>hs (.inl q)
 have h2:¬ ((P.n*64:Nat):Int)<size:=fun q=>hs (.inr q)
 obtain⟨H1,s1,s2,s3⟩:=eR.stop d base;obtain⟨h,m,w,dd⟩:=s2;obtain⟨q2,_,lq2,_⟩:=eR.slot ⟨h,m,w,dd⟩ hi;have hqq:q2=q:=by
  have e:=d;obtain⟨h9,m9,w9,d9⟩:=e;have a:=d9.ld (1-s.act);have b:=dd.ld (1-s.act);rw[lq]at a;rw[lq2]at b;have hi2:1-s.act=0∨1-s.act=1:=by omega
  rcases hi2 with e | e<;>(rw[e]at a b;have a':=a;have b':=b;simp only[sC,List.getElem?_cons_zero,List.getElem?_cons_succ,Option.some.injEq,PV.ptr.injEq,and_true]at a' b';omega)
 subst hqq;obtain⟨H2,p1,p2,p3⟩:=dd.X4 base hi lq2;generalize s.F.clear (4+(1-s.act)*P.n) P.n=r at p1 p2 ⊢
 by_cases he:r.1≠0
 ·rw[if_pos he]
  refine⟨H2,?_,⟨h,m,w,p2⟩,s3.trans p3⟩;rw[S12];simp only[ot,n0,nQ,YD,lq,dn,eC,ph,nq,decide_eq_false hp',lt,decide_eq_false h1,wT,D7,Kt,Hj,ps,gt,decide_eq_false h2,s1,p1,U0,decide_eq_true he,eU,fK,Option.ag,az]
 rw[if_neg he];have nh:=NY (h:=H2) base;have asr:=eR.lo_le ⟨h,m,w,p2⟩;have hsz2:=p2.sW;obtain⟨k,rfl⟩ : ∃ k:Nat,size=(k:Int):=⟨size.toNat,by omega⟩
 -- two new boxes,then the ua own
 obtain⟨x1,k1⟩:=p2.q.ext [.cells (hC eP zero64 0),.cells [.int .i64 (k:Int),.int .i64 0,.bn,.ptr (Go.Am.size H2) 0]];have hwn:w=.bp:=dd.wo;have x2:=x1.v (W:=none) hwn;have hls:=dd.ls;have hlt:=cx dd.sb;have e1:ay (Go.Am.ext h [.cells (hC eP zero64 0),.cells [.int .i64 (k:Int),.int .i64 0,.bn,.ptr (Go.Am.size H2) 0]]) (Go.Am.size H2+1)=some [.int .i64 (k:Int),.int .i64 0,.bn,.ptr (Go.Am.size H2) 0]:=by
  rw[hsz2];exact J6 _ _
 have e2:ay (Go.Am.ext h [.cells (hC eP zero64 0),.cells [.int .i64 (k:Int),.int .i64 0,.bn,.ptr (Go.Am.size H2) 0]]) (Go.Am.size H2)=some (hC eP zero64 0):=by
  rw[hsz2];exact g2a _ _
 have hw:LY (aC (Go.Am.ext h [.cells (hC eP zero64 0),.cells [.int .i64 (k:Int),.int .i64 0,.bn,.ptr (Go.Am.size H2) 0]]) P.sb (.cells (sC P s.run (.ptr (Go.Am.size H2+1) 0)))) P R (.ptr (Go.Am.size H2+1) 0) (some ⟨k,[]⟩):=by
  refine⟨Go.Am.size H2+1,Go.Am.size H2,.bn,eP,zero64,rfl,?_,?_,XO,.inl ⟨rfl,rfl⟩,p2.q.nb (by omega),p2.q.nb (by omega),by omega,by omega,fun hr=>?_,fun hr=>?_,by omega,by omega,by omega,?_,Nat.zero_le _⟩
  ·rw[bD (by omega),e1];rfl
  ·rw[bD (by omega),e2];rfl
  ·have:=(dd.ro _ hr).1;omega
  ·have:=(dd.ro _ hr).1;omega
  ·show k≤P.n*64;omega
 obtain⟨y1,y2⟩:=x2.X2 (run':=s.run) (w':=.ptr (Go.Am.size H2+1) 0) (W':=some ⟨k,[]⟩) dd.rn hw;refine⟨_,?_,⟨_,_,_,y1⟩,((s3.trans p3).trans k1).trans y2⟩;have bv:dw [(.int .i64 0),(.int .i64 0),.bn,.bp] [(0,1,.int .i64 (k:Int)),(3,1,.ptr (Go.Am.size H2) 0)]=some (.agg [.int .i64 (k:Int),.int .i64 0,.bn,.ptr (Go.Am.size H2) 0]):=rfl;have bx:tF 4 (.agg [.int .i64 (k:Int),.int .i64 0,.bn,.ptr (Go.Am.size H2) 0]) (Go.Am.ext H2 [.cells (hC eP zero64 0)])=some (.ptr (Go.Am.size H2+1) 0,Go.Am.ext H2 [.cells (hC eP zero64 0),.cells [.int .i64 (k:Int),.int .i64 0,.bn,.ptr (Go.Am.size H2) 0]]):=by
  rw[qg,if_pos ⟨rfl,rfl⟩,aW,fz];rfl
 have st:aS base 1 (.ptr P.sb 4) (.ptr (Go.Am.size H2+1) 0) (Go.Am.ext H2 [.cells (hC eP zero64 0),.cells [.int .i64 (k:Int),.int .i64 0,.bn,.ptr (Go.Am.size H2) 0]])=some (aC (Go.Am.ext H2 [.cells (hC eP zero64 0),.cells [.int .i64 (k:Int),.int .i64 0,.bn,.ptr (Go.Am.size H2) 0]]) P.sb (.cells (sC P s.run (.ptr (Go.Am.size H2+1) 0)))):=by
  rw[mK x2.RL (by omega) rfl rfl (by show 4<5;decide)];rfl
 rw[S12];simp only[ot,n0,nQ,YD,lq,dn,eC,ph,nq,decide_eq_false hp',lt,decide_eq_false h1,wT,D7,Kt,Hj,ps,gt,decide_eq_false h2,s1,p1,U0,decide_eq_false he,nh,bv,bx,st,fK,Option.ag,az];rfl
end
end Go.Am.Qd
namespace Go.Am.Qd
def Ss.finish (s:Ss) (n:Nat):qv × Nat × Ss :=
 if s.F.down then(iS,30,s.stop) else match s.W with
 | none=>(iS,60,s)
 | some W=>if W.data.length<W.size then(iS,53,s) else
  if(cA (W.data.take 64)).2≠0 then(iS,(cA (W.data.take 64)).2,s.stop) else
  if Rg (W.data.drop 64)≠(cA (W.data.take 64)).1.dg then(iS,51,s.stop) else
  if s.ok n s.act=true∧(cA (W.data.take 64)).1.cv.toNat≤(vA (cP s.F n (s.act:Int))).cv.toNat then(iS,52,s.stop) else((cA (W.data.take 64)).1,0,s.stop)
theorem apP (a b:BitVec 32):binOp .leq (uV a) (uV b)=some (.bool (decide (a.toNat≤b.toNat))):=by
 show some (PV.bool (decide ((a.toNat:Int)≤(b.toNat:Int))))=_;congr 2;exact decide_eq_decide.2 (by omega)
section
variable {H:Hp} {P:Pl} {F:Fl} {J:Jn} {vs:Vs} {run:Nat} {W:Option Wt} {R:List Nat} {h:Hp} {m:Nat} {w:PV} (d:Dv H P F J vs run W R h m w) (base:Nat)
include d
theorem Dv.amd:ai T base 36 [.ptr P.sb 0] H=some (.cC [],aC H P.sb (.cells (sC P run .bp))):=by
 have st:aS (size H) 1 (.ptr P.sb 4) .bp H=some (aC H P.sb (.cells (sC P run .bp))):=by
  rw[dz,d.RL,Option.ag,if_pos ⟨rfl,by show 4+1≤5;decide,rfl,fun _=>rfl⟩];have:(if P.sb<size H then aO (PV.bp).cells else(PV.bp).cells)=[.bp]:=by split<;>rfl
  rw[this];rfl
 rw[S36];simp only[show aF (.ptr P.sb 0)=some (.ptr P.sb 0) from rfl,nQ,st,Option.ag];rw[bZ];have hs:size (aC H P.sb (.cells (sC P run .bp)))=size H:=aJ;show some (PV.cC [],bJ (aC H P.sb (.cells (sC P run .bp))) (size H))=_;rw[←hs,bL]
theorem Dv.ann (hd:F.down=true):ai T base 57 [.ptr P.sb 0] H=some (.int .i64 30,aC H P.sb (.cells (sC P run .bp))):=by
 have dn:=eR.down ⟨h,m,w,d⟩ (size H);have f:=fI (aC H P.sb (.cells (sC P run .bp))) .i64 30;rw[aJ]at f;rw[S57,dn,hd];simp only[eU,d.amd,f,az]
end
theorem DS.finish {H:Hp} {P:Pl} {s:Ss} {R:List Nat} (d:DS H P s R) (base:Nat):∃ H',ai T base 14 [.ptr P.sb 0] H=some (.cC [.agg (ct (s.finish P.n).1),.int .i64 ((s.finish P.n).2.1:Int)],H')∧DS H' P (s.finish P.n).2.2 R∧Kp R H H':=by
 have n0:∀ k,aF (.ptr k 0)=some (.ptr k 0):=fun _=>rfl
 have z32:iS.dg.length=32:=rfl;have hb:dw (ct iS) []=some (.agg (ct iS)):=rfl;obtain⟨h,m,w,dd⟩:=d;have hlt:=cx dd.sb;rw[←dd.sW]at hlt
 -- what is left when nothing is written any more
 obtain⟨ds,ks⟩:=dd.X2 (run':=s.run) (w':=.bp) (W':=none) dd.rn rfl;have Za:size (aC H P.sb (.cells (sC P s.run .bp)))=size H:=aJ;have hse:∀ l,aC (Go.Am.ext H l) P.sb (.cells (sC P s.run .bp))=Go.Am.ext (aC H P.sb (.cells (sC P s.run .bp))) l:=fun l=>aaD hlt
 have stp:=fun b l=>(dd.ext l).amd b
 simp only[hse]at stp;generalize hHs:aC H P.sb (.cells (sC P s.run .bp))=Hs at ds ks Za hse stp;have dS:DS Hs P s.stop R:=⟨_,_,_,ds⟩;have T0:∀ (x y:qv) (r:Hp),x.dg.length=32→y.dg.length=32→aS (size H) 35 (.ptr (size H) 0) (.agg (ct y)) (Go.Am.ext Hs (.cells (ct x)::r))=some (Go.Am.ext Hs (.cells (ct y)::r)):=fun x y r hx hy=>by rw[←Za];exact ft0 hx hy
 have R0:∀ (x:qv) (r:Hp),x.dg.length=32→qQ (.ptr (size H) 0) (Go.Am.ext Hs (.cells (ct x)::r)) 35 true=some (.agg (ct x)):=fun x r hx=>by rw[←Za];exact fr0 hx
 have FF:∀ (x:qv) (r:Hp) (e:Nat),bg false false (size H) [.agg (ct x),.int .i64 (e:Int)] (Go.Am.ext Hs r)=some (.cC [.agg (ct x),.int .i64 (e:Int)],Hs):=fun x r e=>by rw[←Za];exact ff r e
 have Dy:=fun x r=>FF x r 51;have VW:=fun x r=>FF x r 52;have F00:=fun x r=>FF x r 0
 simp only[show((51:Nat):Int)=51 from rfl,show((52:Nat):Int)=52 from rfl,show((0:Nat):Int)=0 from rfl]at Dy VW F00;unfold Ss.finish
 by_cases hd:s.F.down=true
 ·have F30:=fun x r=>FF x r 30
  simp only[show((30:Nat):Int)=30 from rfl]at F30;rw[if_pos hd];refine⟨Hs,?_,dS,ks⟩;have rD:=(dd.ext [.cells (ct iS)]).ann (size H) hd;rw[hse]at rD;have c1:binOp .neq (.int .i64 30) (.int .i64 0)=some (.bool true):=rfl;rw[S14,←jR];simp only[HO (h:=H),rD,c1,eU,hb,T0 iS iS _ z32 z32,R0 iS _ z32,F30,Option.ag,az];rfl
 rw[if_neg hd];have hd':s.F.down=false:=by simpa using hd
 obtain⟨H0,r1,r2,r3,r4⟩:=eR.ready ⟨_,m,w,dd.ext [.cells (ct iS)]⟩ (size H);obtain rfl:=r4 hd';have f60:=fun r=>ff (h:=H) (x:=iS) r 60;have f53:=fun r=>ff (h:=H) (x:=iS) r 53
 simp only[show((60:Nat):Int)=60 from rfl,show((53:Nat):Int)=53 from rfl]at f60 f53;cases hW:s.W with
 | none =>
  have hr:Ua s.F s.W=60:=by unfold Ua;rw[if_neg hd,hW]
  rw[hr]at r1;have c1:binOp .neq (.int .i64 ((60:Nat):Int)) (.int .i64 0)=some (.bool true):=rfl;refine⟨H,?_,⟨h,m,w,dd⟩,Kp.refl _ _⟩;rw[S14,←jR];simp only[HO (h:=H),r1,c1,eU,hb,ft0 z32 z32,fr0 z32,f60,Option.ag,az];exact f60 _
 | some W =>
  have hr:Ua s.F s.W=0:=by unfold Ua;rw[if_neg hd,hW]
  rw[hr]at r1;have hwo:=dd.wo;rw[hW]at hwo;have c1:binOp .neq (.int .i64 ((0:Nat):Int)) (.int .i64 0)=some (.bool false):=rfl;obtain⟨wb,hk,hv,ws,r,hwe,a2,a3,a4,a5,a6,a7,a8,a9,b1,b2,b3,b4,b5,b6,b7⟩:=hwo;have hn:=dd.hn;have gw:ay H wb=some [.int .i64 (W.size:Int),.int .i64 (W.data.length:Int),hv,.ptr hk 0]:=by rw[dd.get a6];exact a2
  have gk:ay H hk=some (hC ws r (W.data.drop 64).length):=by rw[dd.get a7];exact a3
  have l4:∀ l,ax 1 false (.ptr P.sb 4) (Go.Am.ext H l)=some w:=fun l=>(dd.ext l).ld 4
  have w0:∀ l,ax 1 false (.ptr wb 0) (Go.Am.ext H l)=some (.int .i64 (W.size:Int)):=fun l=>dL ((aX (cx gw)).trans gw)
  have w1:∀ l,ax 1 false (.ptr wb 1) (Go.Am.ext H l)=some (.int .i64 (W.data.length:Int)):=fun l=>dL ((aX (cx gw)).trans gw)
  have gws:ay Hs wb=some [.int .i64 (W.size:Int),.int .i64 (W.data.length:Int),hv,.ptr hk 0]:=by rw[←hHs,bD (Ne.symm b3)];exact gw
  have gks:ay Hs hk=some (hC ws r (W.data.drop 64).length):=by rw[←hHs,bD (Ne.symm b4)];exact gk
  have w2:∀ l,ax 1 false (.ptr wb 2) (Go.Am.ext Hs l)=some hv:=fun l=>dL ((aX (cx gws)).trans gws)
  have w3:∀ l,ax 1 false (.ptr wb 3) (Go.Am.ext Hs l)=some (.ptr hk 0):=fun l=>dL ((aX (cx gws)).trans gws)
  have lt:binOp .lss (.int .i64 (W.data.length:Int)) (.int .i64 (W.size:Int))=some (.bool (decide (W.data.length<W.size))):=by
   show some (PV.bool (decide ((W.data.length:Int)<(W.size:Int))))=_;congr 2;exact decide_eq_decide.2 (by omega)
  subst hwe
  by_cases hl:W.data.length<W.size
  ·simp only[if_pos hl]
   refine⟨H,?_,⟨h,m,_,dd⟩,Kp.refl _ _⟩;rw[S14,←jR];simp only[HO (h:=H),r1,c1,eC,n0,nQ,l4,w0,w1,lt,decide_eq_true hl,eU,hb,ft0 z32 z32,fr0 z32,f53,Option.ag,az];rfl
  ·simp only[if_neg hl]
   have avV:64≤W.data.length∨W.data.length<64:=by omega
   have rd:∀ l,ai T (size H) 60 [hv] (Go.Am.ext Hs l)=some (.cC [.agg (ct (cA (W.data.take 64)).1),.int .i64 ((cA (W.data.take 64)).2:Int)],Go.Am.ext Hs l):=fun l=>by
    rcases a5 with⟨e,rfl⟩ | ⟨_,tb,rfl,_⟩
    ·rw[e]
     have hq:ai T (size H) 60 [.bn] (Go.Am.ext Hs l)=ai T (size H) 60 [.sl .full 1 (aP [])] (Go.Am.ext Hs l):=by
      have el:cG false .bn=cG false (.sl .full 1 (aP [])):=rfl;have e2:binOp .lss (.int .i64 0) (.int .i64 64)=some (.bool true):=rfl;rw[S60,S60,el,show cG false (.sl .full 1 (aP []))=some (.int .i64 0) from rfl];simp only[eo,Option.ag,e2,eU]
     rw[hq];exact Km _ _ _ (by simp)
    ·exact Km _ _ _ (by rw[List.length_take];omega)
   generalize hE:cA (W.data.take 64)=E at rd ⊢;have d32:E.1.dg.length=32:=by rw[←hE];exact G0 _
   have A1:∀ (K:PV→Hp→Option (PV × Hp)) (z:List PV) (X:gT),eu z (Go.Am.ext Hs [X]) K=K (.ptr (size H+1) 0) (Go.Am.ext Hs [X,.cells z]):=fun K z X=>by rw[fk1,Za]
   have T1:∀ (X:gT) (x y:qv) (r:Hp),x.dg.length=32→y.dg.length=32→aS (size H) 35 (.ptr (size H+1) 0) (.agg (ct y)) (Go.Am.ext Hs (X::.cells (ct x)::r))=some (Go.Am.ext Hs (X::.cells (ct y)::r)):=fun X x y r hx hy=>by rw[←Za];exact ft1 hx hy
   by_cases he:E.2≠0
   ·simp only[if_pos he]
    refine⟨Hs,?_,dS,ks⟩;rw[S14,←jR];simp only[HO (h:=H),r1,c1,eC,n0,nQ,l4,w0,w1,lt,decide_eq_false hl,stp,w2,rd,tW,tX,A1,T1 _ iS E.1 _ z32 d32,U0,decide_eq_true he,eU,hb,T0 iS iS _ z32 z32,R0 iS _ z32,FF,Option.ag,az]
   ·simp only[if_neg he]
    have dx:DS (Go.Am.ext Hs [.cells (ct iS),.cells (ct E.1)]) P s.stop R:=eR.ext dS _;have ac:=eR.lQ dx (size H);have vl:=eR.valid dx (size H) ((bO s.vs).1:Int);simp only[show s.stop.vs=s.vs from rfl,show s.stop.F=s.F from rfl]at ac vl;generalize hO:cP s.F P.n ((bO s.vs).1:Int)=O at vl;have hok:s.ok P.n s.act=O.isSome:=by rw[←hO];rfl
    have hO':cP s.F P.n ((s.act:Nat):Int)=O:=hO;have dO:=DW O;have A2:∀ (K:PV→Hp→Option (PV × Hp)) (z:List PV) (X Y:gT),eu z (Go.Am.ext Hs [X,Y]) K=K (.ptr (size H+2) 0) (Go.Am.ext Hs [X,Y,.cells z]):=fun K z X Y=>by
     rw[eo,aW,fz,Za];rfl
    have g3:∀ (X Y:gT) (Z:List PV),ay (Go.Am.ext Hs [X,Y,.cells Z]) (size H+2)=some Z:=fun X Y Z=>by rw[←Za,eZ];rfl
    have T2:∀ (X Y:gT) (x y:qv),x.dg.length=32→y.dg.length=32→aS (size H) 35 (.ptr (size H+2) 0) (.agg (ct y)) (Go.Am.ext Hs [X,Y,.cells (ct x)])=some (Go.Am.ext Hs [X,Y,.cells (ct y)]):=fun X Y x y hx hy=>by
     rw[jf (g3 _ _ _) (by omega) (eE hx) (eE hy) (tV _),ez (by omega),Za];simp
    have sm:∀ l,gu (ai T (size H)) 61 [.ptr hk 0] (Go.Am.ext Hs l)=some (.agg (aP (Rg (W.data.drop 64))),Go.Am.ext Hs l):=fun l =>
     N9 (acX (size H) a4 (by rw[List.length_drop];omega) ((aX (cx gks)).trans gks))
    have g1:∀ (X:gT) (r:Hp),ay (Go.Am.ext Hs (X::.cells (ct E.1)::r)) (size H+1)=some (ct E.1):=fun X r=>by rw[←Za];exact fg1
    have ldd:∀ (X:gT) (r:Hp),ax 32 true (.ptr (size H+1) 3) (Go.Am.ext Hs (X::.cells (ct E.1)::r))=some (.agg (aP E.1.dg)):=fun X r=>al8 (g1 X r) d32
    have ld1:∀ (X:gT) (r:Hp),ax 1 false (.ptr (size H+1) 0) (Go.Am.ext Hs (X::.cells (ct E.1)::r))=some (uV E.1.cv):=fun X r=>dL (g1 X r)
    have lda:∀ (X:gT) (r:Hp),ax 35 true (.ptr (size H+1) 0) (Go.Am.ext Hs (X::.cells (ct E.1)::r))=some (.agg (ct E.1)):=fun X r=>ry (g1 X r) (eE d32)
    have ld2:∀ (X Y:gT) (x:qv),ax 1 false (.ptr (size H+2) 0) (Go.Am.ext Hs [X,Y,.cells (ct x)])=some (uV x.cv):=fun X Y x=>dL (g3 X Y _)
    have ev:=ama (kP (W.data.drop 64)) d32;rw[hok,hO']
    by_cases hdg:Rg (W.data.drop 64)≠E.1.dg
    ·simp only[if_pos hdg]
     have hbn:(Rg (W.data.drop 64) != E.1.dg)=true:=by rw[bne,beq_false_of_ne hdg];rfl
     rw[hbn]at ev;refine⟨Hs,?_,dS,ks⟩;rw[S14,←jR];simp only[HO (h:=H),r1,c1,eC,n0,nQ,l4,w0,w1,lt,decide_eq_false hl,stp,w2,rd,tW,tX,A1,T1 _ iS E.1 _ z32 d32,U0,decide_eq_false he,ac,vl,A2,T2 _ _ iS (vA O) z32 dO,w3,sm,if_true,ldd,ev,eU,hb,T0 iS iS _ z32 z32,R0 iS _ z32,Dy,Option.ag,az];rfl
    ·simp only[if_neg hdg]
     have hbn:(Rg (W.data.drop 64) != E.1.dg)=false:=by rw[Classical.not_not.1 hdg,bne,beq_self_eq_true];rfl
     rw[hbn]at ev;have lq:=apP E.1.cv (vA O).cv;cases hos:O.isSome with
     | false =>
      rw[hos]at vl;rw[if_neg (by simp)];refine⟨Hs,?_,dS,ks⟩;rw[S14,←jR];simp only[HO (h:=H),r1,c1,eC,n0,nQ,l4,w0,w1,lt,decide_eq_false hl,stp,w2,rd,tW,tX,A1,T1 _ iS E.1 _ z32 d32,U0,decide_eq_false he,ac,vl,A2,T2 _ _ iS (vA O) z32 dO,w3,sm,if_true,ldd,ev,wF2,OJ,lda,T0 iS E.1 _ z32 d32,R0 E.1 _ d32,F00,Option.ag,az];rfl
     | true =>
      rw[hos]at vl
      by_cases hv:E.1.cv.toNat≤(vA O).cv.toNat
      ·rw[if_pos ⟨rfl,hv⟩]
       refine⟨Hs,?_,dS,ks⟩;rw[S14,←jR];simp only[HO (h:=H),r1,c1,eC,n0,nQ,l4,w0,w1,lt,decide_eq_false hl,stp,w2,rd,tW,tX,A1,T1 _ iS E.1 _ z32 d32,U0,decide_eq_false he,ac,vl,A2,T2 _ _ iS (vA O) z32 dO,w3,sm,if_true,ldd,ev,wT,D7,Kt,ld1,ld2,lq,decide_eq_true hv,eU,hb,T0 iS iS _ z32 z32,R0 iS _ z32,VW,Option.ag,az];rfl
      ·rw[if_neg (fun q=>hv q.2)]
       refine⟨Hs,?_,dS,ks⟩;rw[S14,←jR];simp only[HO (h:=H),r1,c1,eC,n0,nQ,l4,w0,w1,lt,decide_eq_false hl,stp,w2,rd,tW,tX,A1,T1 _ iS E.1 _ z32 d32,U0,decide_eq_false he,ac,vl,A2,T2 _ _ iS (vA O) z32 dO,w3,sm,if_true,ldd,ev,wT,D7,Kt,ld1,ld2,lq,decide_eq_false hv,eU,lda,T0 iS E.1 _ z32 d32,R0 E.1 _ d32,F00,Option.ag,az];rfl
end Go.Am.Qd
namespace Go.Am.Qd
def xC (P:Pl) (j s:PV):List PV:=[.ptr P.p.f 0,.ptr P.qa 0,.ptr P.qb 0,.ptr P.qc 0,.ptr P.qd 0,j,s,.int .i64 (P.n:Int)]
structure Po (H:Hp) (P:Pl) (F:Fl) (R:List Nat) (xb:Nat) (h:Hp):Prop where
 eq:H=cw h P.p F
 po:PO h P.p P.qa P.qb
 pc:gI h P.p P.qc 4 P.n
 pd:gI h P.p P.qd (4+P.n) P.n
 fq:Fq F 128
 fs:F.aj=64
 fl:F.b.length=(4+2*P.n)*64
 fw:F.bN.length=4+2*P.n
 hn:4≤P.n∧P.n≤7
 ro:∀ b∈R,b<size h∧b≠P.p.f∧b≠P.p.bb∧b≠P.p.wb∧b≠xb
 xg:∃ j s,ay h xb=some (xC P j s)
 xn:xb≠P.p.f∧xb≠P.p.bb∧xb≠P.p.wb
 lx:P.lo≤xb
structure Dx (H:Hp) (P:Pl) (s:Ss) (R:List Nat) (xb:Nat):Prop where
 d:DS H P s (xb::R)
 g:ay H xb=some (xC P (.ptr P.jb 0) (.ptr P.sb 0))
 r:xb ∉ R
 l:P.lo≤xb
def On (F:Fl):Option Ss:=(F.Cw 128).2.2.map fun r=>⟨(F.Cw 128).2.1,r.1,r.2,(bO r.2).1,none⟩
theorem Dx.po {H:Hp} {P:Pl} {s:Ss} {R:List Nat} {xb:Nat} (x:Dx H P s R xb):∃ h,Po H P s.F R xb h:=by
 obtain⟨h,m,w,d⟩:=x.d;obtain⟨x1,x2,x3⟩:=d.ro xb (by simp);have hj:=d.js.ok;have key:∀ {q f c:Nat},gI h P.p q f c→q≠P.jb→gI (aC h P.jb (.cells (jC P.qa P.qb 128 s.J m))) P.p q f c:=fun hq hn=>⟨by rw[bD (Ne.symm hn)];exact hq.get,hq.n1,hq.n2,hq.n3⟩
 refine⟨aC h P.jb (.cells (jC P.qa P.qb 128 s.J m)),d.eq,⟨hj.fs _,hj.qa' _,hj.qb' _⟩,key d.pc d.cj,key d.pd d.dj,d.js.fl,d.fs,d.fl,d.fw,d.hn,fun b hb=>?_,⟨.ptr P.jb 0,.ptr P.sb 0,?_⟩,⟨x2.1,x2.2.1,x2.2.2.1⟩,x.l⟩
 ·obtain⟨b1,b2,b3⟩:=d.ro b (by simp[hb])
  exact⟨by rw[aJ];exact b1,b2.1,b2.2.1,b2.2.2.1,fun he=>x.r (he▸hb)⟩
 ·rw[bD (Ne.symm x2.2.2.2),←d.get x2];exact x.g
theorem JS.put {h:Hp} {p:FP} {F:Fl} {jb qa qb sz m:Nat} {J:Jn} {vs:Vs} (hs:JS h p F jb qa qb sz m J vs) {b:Nat} (h3:∀ cs,ay h b=some cs→cs.length≠3) (hm:bR h b=none) (x:gT):JS (aC h b x) p F jb qa qb sz m J vs:=by
 have key:∀ {q f c:Nat},gI h p q f c→gI (aC h b x) p q f c:=fun {q f c} hq=>by
  have hne:b≠q:=fun he=>by subst he;exact h3 _ hq.get rfl
  exact⟨by rw[bD hne];exact hq.get,hq.n1,hq.n2,hq.n3⟩
 have hmb:b≠m:=fun he=>by rw[he,hs.map]at hm;cases hm
 have hmm:bR (aC h b x) m=some (pK vs):=by rw[jD hmb];exact hs.map
 have hok:Bb (aC h b x) p jb qa qb:={ hs.ok with fo:=hs.ok.fo.set _ _,pa:=key hs.ok.pa,pb:=key hs.ok.pb,lj:=by rw[aJ];exact hs.ok.lj };exact { hs with ok:=hok,map:=hmm }
theorem gI.put {h:Hp} {p:FP} {q f c b:Nat} (hq:gI h p q f c) (hne:b≠q) (x:gT):gI (aC h b x) p q f c:=⟨by rw[bD hne];exact hq.get,hq.n1,hq.n2,hq.n3⟩
theorem apQ {h:Hp} {p:FP} {q f c:Nat} (hq:gI h p q f c):q<size h:=cx hq.get
theorem Dq.more {H:Hp} {P:Pl} {F:Fl} {J:Jn} {vs:Vs} {run:Nat} {R:List Nat} {h:Hp} {m:Nat} {w:PV} (d:Dq H P F J vs run R h m w) {b:Nat} (h1:b<size h) (h2:NJ P b) (h3:b≠P.sb):Dq H P F J vs run (b::R) h m w:=by
 have hro:∀ c∈b::R,c<size h∧NJ P c∧c≠P.sb:=fun c hc=>by
  rcases List.mem_cons.1 hc with rfl | hc
  ·exact⟨h1,h2,h3⟩
  ·exact d.ro c hc
 exact { d with ro:=hro }
theorem aeN {F:Fl} {sz:Nat} (hF:Fq F sz):gL (F.Cw sz).2.1∧HQ F (F.Cw sz).2.1∧((F.Cw sz).2.2=none→(F.Cw sz).1≠0)∧(∀ r,(F.Cw sz).2.2=some r→(F.Cw sz).1=0):=by
 have mv:∀ (J:Jn) (vs:Vs),Keyed vs→gL (F.move sz J vs).2.1∧HQ F (F.move sz J vs).2.1∧((F.move sz J vs).2.2=none→(F.move sz J vs).1≠0)∧(∀ r,(F.move sz J vs).2.2=some r→(F.move sz J vs).1=0):=fun J vs hk=>by
  obtain⟨a1,a2⟩:=hF.fin.shM hF.bN.1 sz J vs;obtain⟨_,_,a3,a4⟩:=sU (J:=J) hF hk;exact⟨a1,a2,a4,fun r hr=>(a3 r hr).1⟩
 have mvn:∀ (J:Jn) (vs:Vs),gL (F.move sz J vs).2.1∧HQ F (F.move sz J vs).2.1∧((F.move sz J vs).2.2=none→(F.move sz J vs).1≠0)∧(∀ r,(F.move sz J vs).2.2=some r→(F.move sz J vs).1=0):=fun J vs=>by
  obtain⟨a1,a2⟩:=hF.fin.shM hF.bN.1 sz J vs;refine⟨a1,a2,?_,?_⟩
  ·unfold Fl.move
   repeat' (first | split | (simp only;split))
   all_goals (first | (intro h;simp at h;done) | (intro h;simpa using ‹_›) | simp_all)
  ·unfold Fl.move
   repeat' (first | split | (simp only;split))
   all_goals (first | (intro r h;simp at h;done) | (intro r h;rfl))
 unfold Fl.Cw;split
 ·exact⟨hF.fin,.refl _,fun _=>by simp,fun r h=>by simp at h⟩
 simp only;split
 ·obtain⟨a1,a2,a3,a4⟩:=mvn ⟨1,0,(AM F 0 0#32).bM⟩ []
  exact⟨a1,a2,fun h=>a3 (by simpa using h),fun r h=>by
   cases hq:(F.move sz ⟨1,0,(AM F 0 0#32).bM⟩ []).2.2 with
   | none=>rw[hq]at h;simp at h
   | some J=>exact a4 J hq⟩
 split
 ·exact⟨hF.fin,.refl _,fun _=>by simp,fun r h=>by simp at h⟩
 split
 ·obtain⟨a1,a2,a3,a4⟩:=mvn ⟨(AM F 0 0#32).now,(RA (mL F (AM F 0 0#32).now)).2.1,(AM F 0 0#32).bM⟩ (RA (mL F (AM F 0 0#32).now)).2.2
  exact⟨a1,a2,fun h=>a3 (by simpa using h),fun r h=>by
   cases hq:(F.move sz ⟨(AM F 0 0#32).now,(RA (mL F (AM F 0 0#32).now)).2.1,(AM F 0 0#32).bM⟩ (RA (mL F (AM F 0 0#32).now)).2.2).2.2 with
   | none=>rw[hq]at h;simp at h
   | some J=>exact a4 J hq⟩
 ·exact⟨hF.fin,.refl _,fun h=>by simp at h,fun _ _=>rfl⟩
section
variable {H:Hp} {P:Pl} {F:Fl} {R:List Nat} {xb:Nat} {h:Hp} (x:Po H P F R xb h) {base:Nat} (hb:base≤P.lo)
include x hb
theorem Po.open:match On F with
  | none=>∃ H' h',ai T base 16 [.ptr xb 0] H=some (.bool false,H')∧Po H' P (F.Cw 128).2.1 R xb h'∧Kp R H H'
  | some s=>∃ H' jb sb,ai T base 16 [.ptr xb 0] H=some (.bool true,H')∧Dx H' { P with jb:=jb,sb:=sb } s R xb∧Kp R H H':=by
 obtain⟨j0,s0,xg⟩:=x.xg;have hfo:=x.po.fo;have hxl:=cx xg;have hlx:=x.lx;obtain⟨g,cs,c1,c2⟩:=acL (base:=base) x.po x.fq (by omega);obtain⟨i1,i2,i3,i4⟩:=aeN x.fq;have gx:ay H xb=some (xC P j0 s0):=by rw[x.eq,iQ hfo x.xn.1 x.xn.2.1 x.xn.2.2];exact xg
 have l1:ax 1 false (.ptr xb 1) H=some (.ptr P.qa 0):=dL gx;have l2:ax 1 false (.ptr xb 2) H=some (.ptr P.qb 0):=dL gx;have n0:∀ k,aF (.ptr k 0)=some (.ptr k 0):=fun _=>rfl
 rw[←x.eq]at c1;have hne:∀ {q f c:Nat},gI h P.p q f c→q≠size h:=fun hq=>by have:=apQ hq;omega
 unfold On;cases hq:(F.Cw 128).2.2 with
 | none =>
  rw[hq]at c1;have he:=i3 hq;refine⟨dZ (Go.Am.ext h g) P.p (F.Cw 128).2.1 (size h) cs,aC (Go.Am.ext h g) (size h) (.cells cs),?_,⟨rfl,⟨(hfo.ext g).set _ _,(x.po.pa.ext g).put (Ne.symm (hne x.po.pa)) _,(x.po.pb.ext g).put (Ne.symm (hne x.po.pb)) _⟩,
   (x.pc.ext g).put (Ne.symm (hne x.pc)) _,(x.pd.ext g).put (Ne.symm (hne x.pd)) _,x.fq.shp i1 i2,by rw[i2.s];exact x.fs,by rw[i2.b];exact x.fl,by rw[i2.w];exact x.fw,x.hn,fun b hb=>?_,⟨j0,s0,?_⟩,x.xn,x.lx⟩,?_,fun b hb=>?_⟩
  ·rw[S16]
   simp only[n0,nQ,l1,l2,c1,tW,tX,U0,decide_eq_true he,eU,fK,Option.ag,az]
  ·obtain⟨r1,r2⟩:=x.ro b hb
   exact⟨by rw[aJ,aW];omega,r2⟩
  ·rw[bD (by omega),aX hxl];exact xg
  ·rw[dZ,bS,aJ,aW,x.eq,bS];omega
  ·obtain⟨r1,r2,r3,r4,r5⟩:=x.ro b hb
   rw[dZ,dA ((hfo.ext g).set _ _),if_neg r2,if_neg r4,if_neg r3,cN (by omega),dP r1,x.eq,dA hfo,if_neg r2,if_neg r4,if_neg r3]
 | some r =>
  obtain⟨J,vs⟩:=r;obtain⟨m,js,rfl⟩:=c2 J vs hq;rw[hq]at c1;simp only at c1;generalize HG:(F.Cw 128).2.1=F' at c1 js i1 i2;simp only[Option.map_some];have c0:binOp .neq (.int .i64 0) (.int .i64 0)=some (.bool false):=rfl;have hj:=js.ok;have hsz:size (dZ (Go.Am.ext h g) P.p F' (size h) (jC P.qa P.qb 128 J m))=size (Go.Am.ext h g):=dG hj _;have hgt:size h≤size (Go.Am.ext h g):=by rw[aW];omega
  have ayW:size h<size (Go.Am.ext h g):=hj.lj
  let P1:Pl:={ P with jb:=size h,sb:=size (Go.Am.ext h g) }
  have nx:NJ P1 xb:=⟨x.xn.1,x.xn.2.1,x.xn.2.2,by show xb≠size h;omega⟩;have gx0:ay (Go.Am.ext h g) xb=some (xC P j0 s0):=by rw[aX hxl];exact xg
  have gx1:ay (dZ (Go.Am.ext h g) P.p F' (size h) (jC P.qa P.qb 128 J m)) xb=some (xC P j0 s0):=(nx.get (P:=P1) hj).trans gx0;have st5:aS base 1 (.ptr xb 5) (.ptr (size h) 0) (dZ (Go.Am.ext h g) P.p F' (size h) (jC P.qa P.qb 128 J m))=some (aC (dZ (Go.Am.ext h g) P.p F' (size h) (jC P.qa P.qb 128 J m)) xb (.cells (xC P (.ptr (size h) 0) s0))):=by
   rw[mK gx1 (by omega) rfl rfl (by show 5<8;decide)];rfl
  have e2:aC (dZ (Go.Am.ext h g) P.p F' (size h) (jC P.qa P.qb 128 J m)) xb (.cells (xC P (.ptr (size h) 0) s0))=dZ (aC (Go.Am.ext h g) xb (.cells (xC P (.ptr (size h) 0) s0))) P.p F' (size h) (jC P.qa P.qb 128 J m):=nx.set (P:=P1) hj _;have js2:JS (aC (Go.Am.ext h g) xb (.cells (xC P (.ptr (size h) 0) s0))) P.p F' (size h) P.qa P.qb 128 m J vs:=js.put (fun cs hc=>by rw[gx0]at hc;cases hc;show 8≠3;decide) (nS gx0) _;have hxp:∀ {q f c:Nat},gI h P.p q f c→xb≠q:=fun hp he=>by
   have:=hp.get;rw[←he,xg]at this;cases this
  rw[e2]at st5;have hs2:size (dZ (aC (Go.Am.ext h g) xb (.cells (xC P (.ptr (size h) 0) s0))) P.p F' (size h) (jC P.qa P.qb 128 J m))=size (Go.Am.ext h g):=by rw[dG js2.ok,aJ]
  have gx2:ay (dZ (aC (Go.Am.ext h g) xb (.cells (xC P (.ptr (size h) 0) s0))) P.p F' (size h) (jC P.qa P.qb 128 J m)) xb=some (xC P (.ptr (size h) 0) s0):=by
   rw[←e2,ay,cM (cx gx1)];rfl
  have l3:ax 1 false (.ptr xb 3) _=some (.ptr P.qc 0):=dL gx2;have l4:ax 1 false (.ptr xb 4) _=some (.ptr P.qd 0):=dL gx2;generalize hH2:dZ (aC (Go.Am.ext h g) xb (.cells (xC P (.ptr (size h) 0) s0))) P.p F' (size h) (jC P.qa P.qb 128 J m)=H2 at st5 hs2 gx2 l3 l4;have hP1:P1.sb=size H2:=hs2.symm;have bx:tF 5 (.agg (sC P1 0 .bp)) H2=some (.ptr P1.sb 0,Go.Am.ext H2 [.cells (sC P1 0 .bp)]):=by
   rw[qg,if_pos ⟨rfl,rfl⟩,hP1];rfl
  have nsb:NJ P1 P1.sb:=by
   have h1:=hfo.lf;have h2:=hfo.lb;have h3:=hfo.lw;exact⟨by show size (Go.Am.ext h g)≠P.p.f;omega,by show size (Go.Am.ext h g)≠P.p.bb;omega,by show size (Go.Am.ext h g)≠P.p.wb;omega,by show size (Go.Am.ext h g)≠size h;omega⟩
  have d3:Dq (Go.Am.ext H2 [.cells (sC P1 0 .bp)]) P1 F' J vs 0 R (Go.Am.ext (aC (Go.Am.ext h g) xb (.cells (xC P (.ptr (size h) 0) s0))) [.cells (sC P1 0 .bp)]) m .bp:=by
   refine⟨?_,js2.X0 _,((x.pc.ext g).put (hxp x.pc) _).ext _,((x.pd.ext g).put (hxp x.pd) _).ext _,hne x.pc,hne x.pd,by rw[i2.s];exact x.fs,by rw[i2.b];exact x.fl,by rw[i2.w];exact x.fw,x.hn,?_,nsb,Nat.zero_le _,fun b hb=>?_,by show P.lo≤size h;omega,by show P.lo≤size (Go.Am.ext h g);omega⟩
   ·rw[←hH2];exact m7 js2.ok _ _
   ·show ay _ (size (Go.Am.ext h g))=_
    rw[←aJ (h:=Go.Am.ext h g) (b:=xb) (x:=.cells (xC P (.ptr (size h) 0) s0)),aQ];rfl
   ·obtain⟨r1,r2,r3,r4,r5⟩:=x.ro b hb
    exact⟨by rw[aW,aJ];omega,⟨r2,r3,r4,by show b≠size h;omega⟩,by show b≠size (Go.Am.ext h g);omega⟩
  have v3:=d3.v (W:=none) rfl;have ac:=eR.lQ ⟨_,_,_,v3⟩ base;obtain⟨v4,k4⟩:=v3.X2 (run':=(bO vs).1) (w':=.bp) (W':=none) (lR vs).1 rfl;have st3:aS base 1 (.ptr P1.sb 3) (.int .i64 ((bO vs).1:Int)) (Go.Am.ext H2 [.cells (sC P1 0 .bp)])=some (aC (Go.Am.ext H2 [.cells (sC P1 0 .bp)]) P1.sb (.cells (sC P1 (bO vs).1 .bp))):=by
   rw[mK v3.RL (by show base≤size (Go.Am.ext h g);omega) rfl rfl (by show 3<5;decide)];rfl
  have hxs:xb≠P1.sb:=by show xb≠size (Go.Am.ext h g);omega
  have hxR:xb ∉ R:=fun hr=>(x.ro xb hr).2.2.2.2 rfl
  have gx4:ay (aC (Go.Am.ext H2 [.cells (sC P1 0 .bp)]) P1.sb (.cells (sC P1 (bO vs).1 .bp))) xb=some (xC P (.ptr (size h) 0) s0):=by
   rw[bD (Ne.symm hxs),aX (cx gx2)];exact gx2
  generalize hH4:aC (Go.Am.ext H2 [.cells (sC P1 0 .bp)]) P1.sb (.cells (sC P1 (bO vs).1 .bp))=H4 at v4 k4 st3 gx4;have st6:aS base 1 (.ptr xb 6) (.ptr P1.sb 0) H4=some (aC H4 xb (.cells (xC P (.ptr (size h) 0) (.ptr P1.sb 0)))):=by
   rw[mK gx4 (by omega) rfl rfl (by show 6<8;decide)];rfl
  have gh4:∀ cs,ay H4 xb=some cs→cs.length≠3:=fun cs hc=>by rw[gx4]at hc;cases hc;show 8≠3;decide
  have gq:=gx4;rw[v4.get nx]at gq;obtain⟨d5,k5⟩:=v4.q.set nx hxs hxR (fun cs hc=>by rw[gq]at hc;cases hc;show 8≠3;decide) (nS gq) (.cells (xC P (.ptr (size h) 0) (.ptr P1.sb 0)));have d6:=(d5.more (b:=xb) (by rw[aJ];exact cx gq) nx hxs).v (W:=none) rfl;refine⟨_,size h,P1.sb,?_,⟨⟨_,_,_,d6⟩,?_,hxR,x.lx⟩,⟨?_,fun b hb=>?_⟩⟩
  ·have bv1:dw [.bp,.bp] [(0,1,.ptr P.qc 0),(1,1,.ptr P.qd 0)]=some (.agg [.ptr P.qc 0,.ptr P.qd 0]):=rfl
   have bv2:dw [.bp,.bp,.bp,(.int .i64 0),.bp] [(0,2,.agg [.ptr P.qc 0,.ptr P.qd 0]),(2,1,.ptr (size h) 0)]=some (.agg (sC P1 0 .bp)):=rfl;have nw:ai T base 64 [.ptr P.qc 0,.ptr P.qd 0,.ptr (size h) 0] H2=some (.ptr P1.sb 0,H4):=by
    rw[S64];simp only[bv1,bv2,bx,ac,n0,nQ,st3,fK,Option.ag,az]
   rw[S16];simp only[n0,nQ,l1,l2,c1,tW,tX,c0,eC,st5,l3,l4,nw,st6,fK,Option.ag,az]
  ·rw[ay,cM (cx gx4)];rfl
  ·have:size H≤size H2:=by rw[x.eq,bS,hs2];exact hgt
   have:=k4.1;rw[aW]at this;rw[aJ];omega
  ·obtain⟨r1,r2,r3,r4,r5⟩:=x.ro b hb
   have nb:NJ P1 b:=⟨r2,r3,r4,by show b≠size h;omega⟩;have e3:bX H2 b=bX h b:=by
    rw[←hH2,nb.box (P:=P1) js2.ok,cN (Ne.symm r5),dP r1]
   rw[k5.2 b hb,k4.2 b hb,dP (by rw[hs2];omega),e3,x.eq,dA hfo,if_neg r2,if_neg r4,if_neg r3]
end
end Go.Am.Qd
