/- Which group counts. | The records of a group are read. | The records of the group that counts. | A journal is opened. | A flash of which the power does not go: what is written where all bits are set is there. Plain. | The journal where the power does not go. Plain. | What a journal has, on the abstract machine. | JournalMoves, on the abstract machine: its steps. | 'Am': what an argument that is read as data is to the machine. | Arguments that are structs, or bytes. | Arguments that are lists of rows, or bytes; generic. | Arguments of the seat: bytes, lists of bytes, steps; for the walks. | JournalMoves, on the abstract machine: one step. | The journal's example, run by the kernel. | JournalMoves, on the abstract machine. | JournalFull, on the abstract machine. | The reference's pairs: a copy, with a pair, without a key, the same; on the abstract machine. | What a flash holds where the power may go. Plain. | The records that were laid are read. Plain. | What a journal has, as a list in the order of its keys. Plain. | What a flash holds of a journal, wherever the power went; it is opened, and written. Plain. | What is opened twice is the same as once. Plain. | JournalTwice, on the abstract machine. | JournalKeeps, on the abstract machine: behind the last step. | JournalKeeps, on the abstract machine: its steps. | JournalKeeps, on the abstract machine.
   By the session's AI agent. -/
import Derived.Test.YtlonabodghfjdaaJb4
import GoSem.ClaimChange
import Derived.ChangeArms
import Derived.ChangeOld
import Derived.DataReads
import Derived.SizedLaws
import Derived.KernelRfl
namespace Go.Am.Ytlonabodghfjdaa
set_option maxRecDepth 100000
set_option linter.unusedSimpArgs false
set_option linter.unusedVariables false
set_option linter.unusedSectionVars false
variable {h:Hp} {p:FP} {F:Fl} {jb qa qb:Nat}
def jW (qa qb sz now:Nat) (ep:BitVec 32) (fin:Nat) (mv:PV):List PV:=[.ptr qa 0,.ptr qb 0,.int .i64 (sz:Int),.int .i64 (now:Int),uV ep,.int .i64 (fin:Int),mv]
theorem jW_jC (qa qb sz:Nat) (J:Jn) (m:Nat):jW qa qb sz J.now J.epoch J.fin (.mref m)=jC qa qb sz J m:=rfl
def grp (F:Fl) (i:Nat):List UInt8:=(F.b.drop (2 * i * F.sector)).take (2 * F.sector)
theorem grp_len {sz:Nat} (hF:Fq F sz) {i:Nat} (hi:i≤1):(grp F i).length=2 * F.sector:=by
 have:=hF.len
 have h2:2 * i * F.sector≤2 * F.sector:=Nat.mul_le_mul_right _ (by omega)
 unfold grp
 simp;omega
theorem bytes_spec (hj:JOk h p jb qa qb) {sz:Nat} (hF:Fq F sz) (hd:F.down=false) (base:Nat) {i:Nat} (hi:i≤1) {now fin:Nat} {ep:BitVec 32} {mv:PV} :
  CallA T base 48 [.ptr jb 0,.int .i64 (i:Int)] (putJ h p F jb (jW qa qb sz now ep fin mv))=some (.tup [clV (grp F i),.int .i64 0],putJ h p F jb (jW qa qb sz now ep fin mv)):=by
 have hs2:=hF.small
 have hs3:=hF.pos
 have hsz:=hF.sz
 have hlen:=hF.len
 have gj:=fun (F:Fl) (cs:List PV)=>getJ (F:=F) hj cs
 have tr:=fun (F:Fl) (cs:List PV)=>truncJ (F:=F) hj cs
 have l2:(jW qa qb sz now ep fin mv)[2]?=some (.int .i64 (sz:Int)):=rfl
 have hix:=ix_nat .i64 i 2 (by omega)
 have run:∀ {q fst:Nat},PtOk (setBx h jb (.cells (jW qa qb sz now ep fin mv))) p q fst 2→fst=2 * i→(jW qa qb sz now ep fin mv)[i]?=some (.ptr q 0) →
   CallA T base 48 [.ptr jb 0,.int .i64 (i:Int)] (putJ h p F jb (jW qa qb sz now ep fin mv))=some (.tup [clV (grp F i),.int .i64 0],putJ h p F jb (jW qa qb sz now ep fin mv)):=by
  intro q fst hq hfst hld
  have hr:∀ b,CallA T b 65 [.ptr q 0,.int .i64 ((0:Nat):Int),.int .i64 (sz:Int)] (putJ h p F jb (jW qa qb sz now ep fin mv))=some (if F.down then .tup [.nils,.int .i64 30] else .tup [clV ((F.b.drop (fst * F.sector+0)).take sz),.int .i64 0],putJ h p F jb (jW qa qb sz now ep fin mv)) :=
   fun b=>pread_spec (hj.fs _) hq b 0 sz hF.fin (by omega) (by have:=Nat.mul_le_mul_right F.sector (show fst+2≤4 by omega);omega)
  have hg:(F.b.drop (fst * F.sector+0)).take sz=grp F i:=by rw [hsz,hfst];rfl
  rw [hd,hg] at hr
  simp only [Bool.false_eq_true,if_false,show ((0:Nat):Int)=0 from rfl] at hr
  have hcb:=(bv_clV (grp F i)).below
  have hcf:=(bv_clV (grp F i)).frz
  rw [S48]
  simp only [size_putJ hj,gj,l2,hix,Nat.mul_one,hld,hr,hcf,hcb,tr,↓evD,evU,evL,evM,Nat.reduceAdd,Nat.reduceSub,Nat.reduceMul,Nat.reduceLeDiff,Nat.reduceLT,Nat.reduceEqDiff,Nat.reduceBEq,reduceIte,reduceCtorEq,Int.reduceBEq,Int.reduceEq,Int.reduceLT,Int.reduceLE,Int.reduceGT,Int.reduceGE,Int.reduceAdd,Int.reduceSub,Int.reduceNeg,Int.reduceBNe,ite_true,ite_false,if_true,if_false,implies_true,forall_const]
 rcases Nat.le_one_iff_eq_zero_or_eq_one.1 hi with rfl | rfl
 ·exact run (hj.qa' _) rfl rfl
 ·exact run (hj.qb' _) rfl rfl
theorem gt32 (a b:BitVec 32):binOp .gtr (uV a) (uV b)=some (.bool (decide (b.toNat < a.toNat))):=by
 show some (PV.bool (decide ((a.toNat:Int) > (b.toNat:Int))))=_
 congr 2
 simp
structure Hd where
 found:Bool
 now:Nat
 epoch:BitVec 32
def Hd.look (s:Hd) (F:Fl) (i:Nat):Hd:=if (grp F i).getD 0 0=0∧(s.found=false∨s.epoch.toNat < (get4 ((grp F i).drop 1)).toNat) then ⟨true,i,get4 ((grp F i).drop 1)⟩ else s
def headsM (F:Fl) (now:Nat) (ep:BitVec 32):Hd:=((Hd.mk false now ep).look F 0).look F 1
theorem heads_step (hj:JOk h p jb qa qb) {sz:Nat} (hF:Fq F sz) (hd:F.down=false) (base n0:Nat) {i:Nat} (hi:i≤1) (s:Hd) {fin:Nat} {mv:PV} :
  P33_0 base n0 (.int .i64 (i:Int)) (.ptr jb 0) (.bool s.found) (putJ h p F jb (jW qa qb sz s.now s.epoch fin mv)) =
   P33_0 base n0 (.int .i64 ((i+1:Nat):Int)) (.ptr jb 0) (.bool (s.look F i).found) (putJ h p F jb (jW qa qb sz (s.look F i).now (s.look F i).epoch fin mv)):=by
 have hs2:=hF.small
 have hs3:=hF.pos
 have hgl:=grp_len hF hi
 have gj:=fun (F:Fl) (cs:List PV)=>getJ (F:=F) hj cs
 have sj:=fun (F:Fl) (cs ds:List PV)=>setJ' (F:=F) hj cs ds
 have hb:=bytes_spec hj hF hd base hi (now:=s.now) (ep:=s.epoch) (fin:=fin) (mv:=mv)
 have hne:grp F i≠[]:=by intro hq;rw [hq] at hgl;simp at hgl;omega
 have hcl:clV (grp F i)=.sl .no 1 (u8s (grp F i)):=by unfold clV;rw [if_neg hne]
 rw [hcl] at hb
 have b0:bdW (grp F i).length (grp F i).length none=some (grp F i).length:=rfl
 have b1:bdW (grp F i).length 0 (some (.int .i64 1))=some 1:=(bdW_some _ _ _).trans (bdV_nat _ .i64 1 (by omega))
 obtain ⟨o1,p1,s1⟩:=slc (o:=.no) (grp F i) b1 b0
 have e1:((grp F i).drop 1).take ((grp F i).length - 1)=(grp F i).drop 1:=by rw [List.take_of_length_le (by simp)]
 rw [e1] at s1
 have h49:=fun H b=>get32_spec (h:=H) b (rd_sl p1 ((grp F i).drop 1)) (by simp;omega)
 have hx:=(bv_sl (.inl rfl) (grp F i)).ix .i64 0 (grp F i)[0] (List.getElem?_eq_getElem (by omega))
 simp only [show ((0:Nat):Int)=0 from rfl] at hx
 have g0:(grp F i).getD 0 0=(grp F i)[0]:=by simp;rw [List.getElem?_eq_getElem (by omega)];rfl
 have d0:decide ((i:Int) < 2)=true:=by simp;omega
 generalize PV.sl .no 1 (u8s (grp F i))=V at hb s1 hx
 have hz:(((grp F i)[0].toNat:Int) == 0)=decide ((grp F i)[0]=0):=by
  have:=geZ (grp F i)[0]
  rw [Bool.eq_iff_iff,beq_iff_eq,decide_eq_true_eq]
  constructor
  ·intro hq;exact UInt8.toNat_inj.1 (by have:((0:UInt8).toNat)=0:=rfl;omega)
  ·intro hq;rw [hq];rfl
 have l4:(jW qa qb sz s.now s.epoch fin mv)[4]?=some (uV s.epoch):=rfl
 have l4':∀ n e f v,(jW qa qb sz n e f v)[4]?=some (uV e):=fun _ _ _ _=>rfl
 have wr3:∀ n e f v,setRange (jW qa qb sz n e f v) 3 [.int .i64 (i:Int)]=jW qa qb sz i e f v:=fun _ _ _ _=>rfl
 have wr4:∀ n e f v a,setRange (jW qa qb sz n e f v) 4 [uV a]=jW qa qb sz n a f v:=fun _ _ _ _ _=>rfl
 have wl:∀ n e f v,(jW qa qb sz n e f v).length=7:=fun _ _ _ _=>rfl
 have uc:∀ a,(uV a).cells=[uV a]:=fun _=>rfl
 have us:∀ a,scalar (uV a)=true:=fun _=>rfl
 have ust:∀ a,strip (uV a)=uV a:=fun _=>rfl
 have ubl:∀ n a,below n (uV a)=true:=fun _ _=>rfl
 rw [P33_0_eq]
 unfold Hd.look
 rw [g0]
 by_cases c1:(grp F i)[0]=0
 ·have d1:decide ((grp F i)[0]=0)=true:=by simpa using c1
  cases hfd:s.found with
  | false =>
   rw [if_pos ⟨c1,.inl rfl⟩]
   simp (disch:=omega) only [d0,hb,s1,h49,hx,hz,d1,wr_a1,l4,l4',wr3,wr4,wl,ite_self,gj,sj,uc,us,ust,ubl,↓evD,evU,evL,evM,Nat.reduceAdd,Nat.reduceSub,Nat.reduceMul,Nat.reduceLeDiff,Nat.reduceLT,Nat.reduceEqDiff,Nat.reduceBEq,reduceIte,reduceCtorEq,Int.reduceBEq,Int.reduceEq,Int.reduceLT,Int.reduceLE,Int.reduceGT,Int.reduceGE,Int.reduceAdd,Int.reduceSub,Int.reduceNeg,Int.reduceBNe,ite_true,ite_false,if_true,if_false,implies_true,forall_const]
  | true =>
   have hgt:=gt32 (get4 ((grp F i).drop 1)) s.epoch
   by_cases c2:s.epoch.toNat < (get4 ((grp F i).drop 1)).toNat
   ·have d2:decide (s.epoch.toNat < (get4 ((grp F i).drop 1)).toNat)=true:=by simpa using c2
    rw [if_pos ⟨c1,.inr c2⟩]
    simp (disch:=omega) only [d0,hb,s1,h49,hx,hz,d1,wr_a1,l4,l4',wr3,wr4,wl,ite_self,gj,sj,uc,us,ust,ubl,hgt,d2,↓evD,evU,evL,evM,Nat.reduceAdd,Nat.reduceSub,Nat.reduceMul,Nat.reduceLeDiff,Nat.reduceLT,Nat.reduceEqDiff,Nat.reduceBEq,reduceIte,reduceCtorEq,Int.reduceBEq,Int.reduceEq,Int.reduceLT,Int.reduceLE,Int.reduceGT,Int.reduceGE,Int.reduceAdd,Int.reduceSub,Int.reduceNeg,Int.reduceBNe,ite_true,ite_false,if_true,if_false,implies_true,forall_const]
   ·have d2:decide (s.epoch.toNat < (get4 ((grp F i).drop 1)).toNat)=false:=by simpa using c2
    rw [if_neg (by rintro ⟨_,q | q⟩;cases q;exact c2 q)]
    simp (disch:=omega) only [d0,hb,s1,h49,hx,hz,d1,wr_a1,l4,l4',wr3,wr4,wl,ite_self,gj,sj,uc,us,ust,ubl,hgt,d2,hfd,↓evD,evU,evL,evM,Nat.reduceAdd,Nat.reduceSub,Nat.reduceMul,Nat.reduceLeDiff,Nat.reduceLT,Nat.reduceEqDiff,Nat.reduceBEq,reduceIte,reduceCtorEq,Int.reduceBEq,Int.reduceEq,Int.reduceLT,Int.reduceLE,Int.reduceGT,Int.reduceGE,Int.reduceAdd,Int.reduceSub,Int.reduceNeg,Int.reduceBNe,ite_true,ite_false,if_true,if_false,implies_true,forall_const]
 ·have d1:decide ((grp F i)[0]=0)=false:=by simpa using c1
  rw [if_neg (fun q=>c1 q.1)]
  simp (disch:=omega) only [d0,hb,s1,h49,hx,hz,d1,wr_a1,↓evD,evU,evL,evM,Nat.reduceAdd,Nat.reduceSub,Nat.reduceMul,Nat.reduceLeDiff,Nat.reduceLT,Nat.reduceEqDiff,Nat.reduceBEq,reduceIte,reduceCtorEq,Int.reduceBEq,Int.reduceEq,Int.reduceLT,Int.reduceLE,Int.reduceGT,Int.reduceGE,Int.reduceAdd,Int.reduceSub,Int.reduceNeg,Int.reduceBNe,ite_true,ite_false,if_true,if_false,implies_true,forall_const]
theorem heads_spec (hj:JOk h p jb qa qb) {sz:Nat} (hF:Fq F sz) (hd:F.down=false) (base:Nat) (now:Nat) (ep:BitVec 32) {fin:Nat} {mv:PV} :
  CallA T base 33 [.ptr jb 0] (putJ h p F jb (jW qa qb sz now ep fin mv)) =
   some (.tup [.bool (headsM F now ep).found,.int .i64 0],putJ h p F jb (jW qa qb sz (headsM F now ep).now (headsM F now ep).epoch fin mv)):=by
 have h0:=heads_step hj hF hd (size h) (size h) (i:=0) (by omega) (Hd.mk false now ep) (fin:=fin) (mv:=mv)
 have h1:=heads_step hj hF hd (size h) (size h) (i:=1) (by omega) ((Hd.mk false now ep).look F 0) (fin:=fin) (mv:=mv)
 simp only [show ((0:Nat):Int)=0 from rfl,Nat.zero_add,show ((1:Nat):Int)=1 from rfl,show ((1+1:Nat):Int)=2 from rfl] at h0 h1
 have tr:=fun (F:Fl) (cs:List PV)=>truncJ (F:=F) hj cs
 rw [S33,size_putJ hj,h0,h1,P33_0_eq]
 simp only [tr,↓evD,evU,evL,evM,Nat.reduceAdd,Nat.reduceSub,Nat.reduceMul,Nat.reduceLeDiff,Nat.reduceLT,Nat.reduceEqDiff,Nat.reduceBEq,reduceIte,reduceCtorEq,Int.reduceBEq,Int.reduceEq,Int.reduceLT,Int.reduceLE,Int.reduceGT,Int.reduceGE,Int.reduceAdd,Int.reduceSub,Int.reduceNeg,Int.reduceBNe,ite_true,ite_false,if_true,if_false,implies_true,forall_const] <;> rfl
end Go.Am.Ytlonabodghfjdaa
namespace Go.Am.Ytlonabodghfjdaa
set_option maxRecDepth 100000
set_option linter.unusedSimpArgs false
set_option linter.unusedVariables false
set_option linter.unusedSectionVars false
variable {h:Hp} {p:FP} {F:Fl} {jb qa qb:Nat}
theorem ne255 (c:UInt8):((c.toNat:Int) != 255)=decide (c≠255):=by
 rw [Bool.eq_iff_iff,bne_iff_ne,decide_eq_true_eq]
 constructor
 ·intro hq hc;subst hc;exact hq rfl
 ·intro hq hc;exact hq (UInt8.toNat_inj.1 (by have:((255:UInt8).toNat)=255:=rfl;omega))
theorem torn_loop (base n0:Nat) {o:Own} (ho:Nf o) (l:List UInt8) (hl:l.length≤1000000):∀ (n k:Nat),k+n=l.length →
  P35_1 base n0 (.int .i64 (k:Int)) (.sl o 1 (u8s l)) (.int .i64 (l.length:Int)) h=some (.tup [.bool ((l.drop k).any fun c=>decide (c≠255)),.int .i64 0],h)
 | 0,k,hk=>by
  have e0:¬ (k < l.length):=by omega
  rw [P35_1_eq,List.drop_of_length_le (by omega)]
  simp only [dec_lt,e0,decide_false,List.any_nil,↓evD,evU,evL,evM,Nat.reduceAdd,Nat.reduceSub,Nat.reduceMul,Nat.reduceLeDiff,Nat.reduceLT,Nat.reduceEqDiff,Nat.reduceBEq,reduceIte,reduceCtorEq,Int.reduceBEq,Int.reduceEq,Int.reduceLT,Int.reduceLE,Int.reduceGT,Int.reduceGE,Int.reduceAdd,Int.reduceSub,Int.reduceNeg,Int.reduceBNe,ite_true,ite_false,if_true,if_false,implies_true,forall_const]
 | n+1,k,hk=>by
  have e0:k < l.length:=by omega
  have hx:=(bv_sl ho l).ix .i64 k l[k] (List.getElem?_eq_getElem e0)
  have ih:=torn_loop base n0 ho l hl n (k+1) (by omega)
  rw [P35_1_eq,List.drop_eq_getElem_cons e0,List.any_cons]
  generalize PV.sl o 1 (u8s l)=V at hx ih ⊢
  by_cases hc:l[k]≠255
  ·have d1:decide (l[k]≠255)=true:=by simpa using hc
   simp only [dec_lt,e0,decide_true,hx,ne255,d1,Bool.true_or,↓evD,evU,evL,evM,Nat.reduceAdd,Nat.reduceSub,Nat.reduceMul,Nat.reduceLeDiff,Nat.reduceLT,Nat.reduceEqDiff,Nat.reduceBEq,reduceIte,reduceCtorEq,Int.reduceBEq,Int.reduceEq,Int.reduceLT,Int.reduceLE,Int.reduceGT,Int.reduceGE,Int.reduceAdd,Int.reduceSub,Int.reduceNeg,Int.reduceBNe,ite_true,ite_false,if_true,if_false,implies_true,forall_const]
  ·have d1:decide (l[k]≠255)=false:=by simpa using hc
   simp (disch:=omega) only [dec_lt,e0,decide_true,hx,ne255,d1,Bool.false_or,wr_a1,ih,↓evD,evU,evL,evM,Nat.reduceAdd,Nat.reduceSub,Nat.reduceMul,Nat.reduceLeDiff,Nat.reduceLT,Nat.reduceEqDiff,Nat.reduceBEq,reduceIte,reduceCtorEq,Int.reduceBEq,Int.reduceEq,Int.reduceLT,Int.reduceLE,Int.reduceGT,Int.reduceGE,Int.reduceAdd,Int.reduceSub,Int.reduceNeg,Int.reduceBNe,ite_true,ite_false,if_true,if_false,implies_true,forall_const]
def repl (b:List UInt8):Nat→Nat→Vs→Nat × Nat × Vs
 | 0,a,vs=>(0,a,vs)
 | n+1,a,vs=>match nextL b a with
  | none=>(0,a,vs)
  | some r=>if openB ((b.drop a).take (r.fin - 1 - a))=true then repl b n r.fin (if r.drop=true then delV vs (r.key.toNat:Int) else setV vs r.key.toNat (some r.val)) else (40,a,vs)
def tornB (b:List UInt8) (a:Nat):Bool:=(b.drop a).any fun c=>decide (c≠255)
theorem JOk.setm (hj:JOk h p jb qa qb) {m:Nat} {es:List (PV × PV)} (hm:getMap h m=some es) (hmj:m≠jb) (x:Box):JOk (setBx h m x) p jb qa qb:=by
 have hmq:∀ q cs,getBox h q=some cs→m≠q:=by
  rintro q cs hq rfl
  have h1:=box_of_map hm
  have h2:=box_of_get hq
  rw [h1] at h2
  cases h2
 have hpt:∀ {q f c},PtOk h p q f c→PtOk (setBx h m x) p q f c:=fun {q f c} hq=>⟨by rw [getBox_set_ne (hmq _ _ hq.get)];exact hq.get,hq.n1,hq.n2,hq.n3⟩
 exact ⟨hj.fo.set _ _,hpt hj.pa,hpt hj.pb,by rw [size_setBx];exact hj.lj,hj.j1,hj.j2,hj.j3,hj.ja,hj.jq⟩
theorem set_putJ (hj:JOk h p jb qa qb) {m:Nat} (nm:m≠p.f∧m≠p.bb∧m≠p.wb) (hmj:m≠jb) (cs:List PV) (x:Box):setBx (putJ h p F jb cs) m x=putJ (setBx h m x) p F jb cs:=by
 unfold putJ
 rw [set_putF (hj.fs cs) nm.1 nm.2.1 nm.2.2]
 congr 1
 refine hp_ext (by simp [size_setBx]) fun n=>?_
 simp only [box_set,size_setBx]
 by_cases h1:m=n
 ·subst h1
  rw [if_pos rfl,if_pos rfl,if_neg (Ne.symm hmj)]
 ·rw [if_neg h1,if_neg h1]
theorem get_new (hj:JOk h p jb qa qb) (cs B:List PV):getBox (putJ (ext h [.cells B]) p F jb cs) (size h)=some B:=by
 obtain ⟨n1,n2,n3,n4⟩:=hj.new
 rw [putJ,getBox_putF ((hj.ext _).fs cs) n1 n2 n3,getBox_set_ne (Ne.symm n4),getBox_ext_0];rfl
def recB (r:Rec):List PV:=[.int .i64 (r.key.toNat:Int),.sl .full 1 (u8s r.val),.bool r.drop,.int .i64 (r.fin:Int)]
def zB:List PV:=[.int .i64 0,.nils,.bool false,.int .i64 0]
theorem replay_loop (base n0:Nat) {o:Own} (ho:Nf o) {b:List UInt8} (hb:b.length≤100000) (hbj:base≤jb) {m sz now:Nat} {ep:BitVec 32} (nm:m≠p.f∧m≠p.bb∧m≠p.wb) (hmj:m≠jb) (hbm:base≤m) :
  ∀ (n:Nat) {hh:Hp} {a:Nat} {vs:Vs},JOk hh p jb qa qb→getMap hh m=some (ents vs)→a≤b.length→b.length - a < n→∃ g,
   P35_0 base n0 (.ptr jb 0) (.sl o 1 (u8s b)) (putJ hh p F jb (jW qa qb sz now ep a (.mref m))) =
    some (if (repl b n a vs).1=0 then .tup [.bool (tornB b (repl b n a vs).2.1),.int .i64 0] else .tup [.bool false,.int .i64 40],
     putJ (ext (setBx hh m (.map (ents (repl b n a vs).2.2))) g) p F jb (jW qa qb sz now ep (repl b n a vs).2.1 (.mref m)))
 | 0,hh,a,vs,hj,hm,ha,hn=>by omega
 | n+1,hh,a,vs,hj,hm,ha,hn=>by
  have hlt:m < size hh:=lt_of_box (box_of_map hm)
  have l5:(jW qa qb sz now ep a (.mref m))[5]?=some (.int .i64 (a:Int)):=rfl
  have l6:∀ a,(jW qa qb sz now ep a (.mref m))[6]?=some (.mref m):=fun _=>rfl
  have wr5:∀ (x:Nat),setRange (jW qa qb sz now ep a (.mref m)) 5 [.int .i64 (x:Int)]=jW qa qb sz now ep x (.mref m):=fun _=>rfl
  have wl:∀ n e f v,(jW qa qb sz n e f v).length=7:=fun _ _ _ _=>rfl
  have gj:=fun (hh:Hp) (hj:JOk hh p jb qa qb) (cs:List PV)=>getJ (F:=F) hj cs
  have sj:=fun (hh:Hp) (hj:JOk hh p jb qa qb) (cs ds:List PV)=>setJ' (F:=F) hj cs ds
  have gj0:=gj hh hj
  have gj1:=fun B=>gj _ (hj.ext [.cells B])
  have sj1:=fun B=>sj _ (hj.ext [.cells B])
  have ex:=fun cs l=>ext_putJ (F:=F) hj cs l
  have gn:=fun cs B=>get_new (F:=F) hj cs B
  have sn:=fun cs x y=>set_new (F:=F) hj cs x y
  have sz0:=fun cs=>size_putJ (F:=F) hj cs
  have hnx:=next_spec (h:=putJ hh p F jb (jW qa qb sz now ep a (.mref m))) base ho b a (by omega) ha
  have hsh:¬ (size hh < base):=by omega
  have hself:setBx hh m (.map (ents vs))=hh:=setBx_self (box_of_map hm)
  rw [P35_0_eq]
  cases hnl:nextL b a with
  | none =>
   rw [hnl] at hnx
   have b0:bdW b.length b.length none=some b.length:=rfl
   have b1:bdW b.length 0 (some (.int .i64 (a:Int)))=some a:=(bdW_some _ _ _).trans (bdV_nat _ .i64 a (by omega))
   obtain ⟨o1,p1,s1⟩:=slc (o:=o) b b1 b0
   have e1:(b.drop a).take (b.length - a)=b.drop a:=by rw [List.take_of_length_le (by simp)]
   rw [e1] at s1
   have htl:=fun H=>torn_loop (h:=H) base n0 p1 (b.drop a) (by simp;omega) (b.drop a).length 0 (by omega)
   simp only [show ((0:Nat):Int)=0 from rfl,List.drop_zero] at htl
   have hlen:lenB false (.sl o1 1 (u8s (b.drop a)))=some (.int .i64 ((b.drop a).length:Int)):=by rw [lenB_sl,u8s_length]
   generalize PV.sl o1 1 (u8s (b.drop a))=W at s1 htl hlen
   generalize PV.sl o 1 (u8s b)=V at hnx s1 ⊢
   refine ⟨[.cells zB],?_⟩
   simp only [repl,hnl,if_true,hself]
   simp only [gj0,gj1,l5,hnx,nextR,zeroR,sz0,ex,gn,sn,hsh,s1,hlen,htl,↓evD,evU,evL,evM,Nat.reduceAdd,Nat.reduceSub,Nat.reduceMul,Nat.reduceLeDiff,Nat.reduceLT,Nat.reduceEqDiff,Nat.reduceBEq,reduceIte,reduceCtorEq,Int.reduceBEq,Int.reduceEq,Int.reduceLT,Int.reduceLE,Int.reduceGT,Int.reduceGE,Int.reduceAdd,Int.reduceSub,Int.reduceNeg,Int.reduceBNe,ite_true,ite_false,if_true,if_false,implies_true,forall_const] <;> rfl
  | some r =>
   rw [hnl] at hnx
   obtain ⟨f1,f2,f3,f4,f5,f6⟩:=nextL_fin hnl
   have hrt:=fun H=>right_spec (h:=H) base ho b a r (by omega) (by omega) f2
   have hrV:recV r=.agg (recB r):=rfl
   rw [hrV] at hrt
   generalize hV:PV.sl o 1 (u8s b)=V at hnx hrt ⊢
   have r0:(recB r)[0]?=some (.int .i64 (r.key.toNat:Int)):=rfl
   have r1:(recB r)[1]?=some (.sl .full 1 (u8s r.val)):=rfl
   have r2:(recB r)[2]?=some (.bool r.drop):=rfl
   have r3:(recB r)[3]?=some (.int .i64 (r.fin:Int)):=rfl
   have rl:(recB r).length=4:=rfl
   have rsc:(recB r).all scalar=true:=rfl
   have rc:(PV.agg (recB r)).cells=recB r:=rfl
   have rt:part (recB r) 0 4 true=some (.agg (recB r)):=rfl
   have rset:setRange [PV.int .i64 0,.nils,.bool false,.int .i64 0] 0 (recB r)=recB r:=rfl
   simp only [repl,hnl]
   cases hop:openB ((b.drop a).take (r.fin - 1 - a)) with
   | false =>
    rw [hop] at hrt
    refine ⟨[.cells (recB r)],?_⟩
    simp only [Bool.false_eq_true,if_false,hself,show ¬ (40=0) from by decide]
    simp only [gj0,gj1,l5,hnx,nextR,hrV,sz0,ex,gn,sn,hsh,rl,rsc,rc,rt,rset,hrt,↓evD,evU,evL,evM,Nat.reduceAdd,Nat.reduceSub,Nat.reduceMul,Nat.reduceLeDiff,Nat.reduceLT,Nat.reduceEqDiff,Nat.reduceBEq,reduceIte,reduceCtorEq,Int.reduceBEq,Int.reduceEq,Int.reduceLT,Int.reduceLE,Int.reduceGT,Int.reduceGE,Int.reduceAdd,Int.reduceSub,Int.reduceNeg,Int.reduceBNe,ite_true,ite_false,if_true,if_false,implies_true,forall_const]
   | true =>
    rw [hop] at hrt
    simp only [if_true]
    have hmx:∀ B,getMap (putJ (ext hh [.cells B]) p F jb (jW qa qb sz now ep a (.mref m))) m=some (ents vs):=fun B =>
     (getMapJ (F:=F) (hj.ext [.cells B]) _ (by rw [getMap,box_ext_lt hlt];exact hm) nm hmj).2
    have mv:∀ (B cs:List PV) (X:Box),setBx (putJ (ext hh [.cells B]) p F jb cs) m X=putJ (ext (setBx hh m X) [.cells B]) p F jb cs:=fun B cs X=>by
     rw [set_putJ (hj.ext [.cells B]) nm hmj,setBx_ext_lt hlt]
    have gn2:∀ (X:Box) (cs B:List PV),getBox (putJ (ext (setBx hh m X) [.cells B]) p F jb cs) (size hh)=some B:=fun X cs B=>by
     have:=get_new (F:=F) (hj.setm hm hmj X) cs B
     rwa [size_setBx] at this
    have gj2:=fun X B=>gj _ ((hj.setm hm hmj X).ext [.cells B])
    have sj2:=fun X B=>sj _ ((hj.setm hm hmj X).ext [.cells B])
    cases hdr:r.drop with
    | true =>
     rw [hdr] at r2
     have hdl:=fun B=>del_spec (h:=putJ (ext hh [.cells B]) p F jb (jW qa qb sz now ep a (.mref m))) base (m:=m) (vs:=vs) (hmx B) (r.key.toNat:Int)
     obtain ⟨g,hg⟩:=replay_loop base n0 ho hb hbj nm hmj hbm n (hh:=ext (setBx hh m (.map (ents (delV vs (r.key.toNat:Int))))) [.cells (recB r)]) (a:=r.fin) (vs:=delV vs (r.key.toNat:Int)) ((hj.setm hm hmj _).ext _)
      (by rw [getMap,box_ext_lt (by rw [size_setBx];exact hlt),box_set_eq hlt];rfl) f2 (by omega)
     refine ⟨.cells (recB r) :: g,?_⟩
     have e3:∀ x,ext (setBx (ext (setBx hh m (.map (ents (delV vs (r.key.toNat:Int))))) [.cells (recB r)]) m x) g=ext (setBx hh m x) (.cells (recB r) :: g):=fun x=>by
      rw [setBx_ext_lt (by rw [size_setBx];exact hlt),setBx_setBx];simp [ext]
     rw [e3] at hg
     simp only [if_true]
     rw [hV] at hg
     rw [←hg]
     simp only [gj0,gj1,gj2,sj2,l5,l6,hnx,nextR,hrV,sz0,ex,gn,gn2,sn,hsh,rl,rsc,rc,rt,rset,hrt,r0,r2,r3,hdl,mv,wr5,wl,ite_self,↓evD,evU,evL,evM,Nat.reduceAdd,Nat.reduceSub,Nat.reduceMul,Nat.reduceLeDiff,Nat.reduceLT,Nat.reduceEqDiff,Nat.reduceBEq,reduceIte,reduceCtorEq,Int.reduceBEq,Int.reduceEq,Int.reduceLT,Int.reduceLE,Int.reduceGT,Int.reduceGE,Int.reduceAdd,Int.reduceSub,Int.reduceNeg,Int.reduceBNe,ite_true,ite_false,if_true,if_false,implies_true,forall_const]
    | false =>
     rw [hdr] at r2
     have hup:=fun B=>upd_spec (h:=putJ (ext hh [.cells B]) p F jb (jW qa qb sz now ep a (.mref m))) base (m:=m) (vs:=vs) (hmx B) r.key.toNat (some r.val)
     have hcq:=fun H=>clQ (H:=H) base (v:=.sl .full 1 (u8s r.val)) (bv_sl (.inr rfl) r.val) (.inl rfl) (by omega)
     have hcl:cl (.sl .full 1 (u8s r.val)) r.val=some r.val:=by unfold cl;rw [if_neg (by simp)]
     rw [hcl] at hcq
     obtain ⟨g,hg⟩:=replay_loop base n0 ho hb hbj nm hmj hbm n (hh:=ext (setBx hh m (.map (ents (setV vs r.key.toNat (some r.val))))) [.cells (recB r)]) (a:=r.fin) (vs:=setV vs r.key.toNat (some r.val)) ((hj.setm hm hmj _).ext _)
      (by rw [getMap,box_ext_lt (by rw [size_setBx];exact hlt),box_set_eq hlt];rfl) f2 (by omega)
     refine ⟨.cells (recB r) :: g,?_⟩
     have e3:∀ x,ext (setBx (ext (setBx hh m (.map (ents (setV vs r.key.toNat (some r.val))))) [.cells (recB r)]) m x) g=ext (setBx hh m x) (.cells (recB r) :: g):=fun x=>by
      rw [setBx_ext_lt (by rw [size_setBx];exact hlt),setBx_setBx];simp [ext]
     rw [e3] at hg
     simp only [Bool.false_eq_true,if_false]
     rw [hV] at hg
     rw [←hg]
     simp only [gj0,gj1,gj2,sj2,l5,l6,hnx,nextR,hrV,sz0,ex,gn,gn2,sn,hsh,rl,rsc,rc,rt,rset,hrt,r0,r1,r2,r3,hup,hcq,mv,wr5,wl,ite_self,↓evD,evU,evL,evM,Nat.reduceAdd,Nat.reduceSub,Nat.reduceMul,Nat.reduceLeDiff,Nat.reduceLT,Nat.reduceEqDiff,Nat.reduceBEq,reduceIte,reduceCtorEq,Int.reduceBEq,Int.reduceEq,Int.reduceLT,Int.reduceLE,Int.reduceGT,Int.reduceGE,Int.reduceAdd,Int.reduceSub,Int.reduceNeg,Int.reduceBNe,ite_true,ite_false,if_true,if_false,implies_true,forall_const]
end Go.Am.Ytlonabodghfjdaa
namespace Go.Am.Ytlonabodghfjdaa
set_option maxRecDepth 100000
set_option linter.unusedSimpArgs false
set_option linter.unusedVariables false
set_option linter.unusedSectionVars false
variable {h:Hp} {p:FP} {F:Fl} {jb qa qb:Nat}
def replM (b:List UInt8):Nat × Nat × Vs:=repl b (b.length+1) 8 []
theorem repl_inv (b:List UInt8):∀ (n a:Nat) (vs:Vs),a≤b.length→Small vs→Keyed vs→(repl b n a vs).2.1≤b.length∧Small (repl b n a vs).2.2∧Keyed (repl b n a vs).2.2∧a≤(repl b n a vs).2.1∧((repl b n a vs).1=0∨(repl b n a vs).1=40)
 | 0,a,vs,ha,h1,h2=>⟨ha,h1,h2,Nat.le_refl _,.inl rfl⟩
 | n+1,a,vs,ha,h1,h2=>by
  simp only [repl]
  cases hn:nextL b a with
  | none=>exact ⟨ha,h1,h2,Nat.le_refl _,.inl rfl⟩
  | some r =>
   obtain ⟨f1,f2,f3,f4,f5,f6⟩:=nextL_fin hn
   simp only
   split
   ·by_cases hd:r.drop=true
    ·simp only [hd,if_true]
     obtain ⟨g1,g2,g3,g4,g5⟩:=repl_inv b n r.fin _ f2 (h1.delV (r.key.toNat:Int)) (h2.delV _)
     exact ⟨g1,g2,g3,by omega,g5⟩
    ·simp only [hd,if_false,Bool.false_eq_true]
     obtain ⟨g1,g2,g3,g4,g5⟩:=repl_inv b n r.fin _ f2 (h1.setV h2 f5 (v:=some r.val) f4) (h2.setV _ _)
     exact ⟨g1,g2,g3,by omega,g5⟩
   ·exact ⟨ha,h1,h2,Nat.le_refl _,.inr rfl⟩
theorem small_nil:Small []:=⟨by simp,by simp⟩
theorem keyed_nil:Keyed []:=by simp [Keyed]
theorem replay_spec (hj:JOk h p jb qa qb) {sz:Nat} (hF:Fq F sz) (hd:F.down=false) {base:Nat} (hb:base≤jb) {now fin:Nat} (hnow:now≤1) {ep:BitVec 32} {mv:PV}:∃ g,
  CallA T base 35 [.ptr jb 0] (putJ h p F jb (jW qa qb sz now ep fin mv)) =
   some (if (replM (grp F now)).1=0 then .tup [.bool (tornB (grp F now) (replM (grp F now)).2.1),.int .i64 0] else .tup [.bool false,.int .i64 40],
    putJ (ext h (.map (ents (replM (grp F now)).2.2) :: g)) p F jb (jW qa qb sz now ep (replM (grp F now)).2.1 (.mref (size h)))):=by
 have hs2:=hF.small
 have hs3:=hF.pos
 have hgl:=grp_len hF hnow
 have hby:=bytes_spec hj hF hd base hnow (now:=now) (ep:=ep) (fin:=fin) (mv:=mv)
 have hne:grp F now≠[]:=by intro hq;rw [hq] at hgl;simp at hgl;omega
 have hcl:clV (grp F now)=.sl .no 1 (u8s (grp F now)):=by unfold clV;rw [if_neg hne]
 rw [hcl] at hby
 obtain ⟨n1,n2,n3,n4⟩:=hj.new
 obtain ⟨g,hg⟩:=replay_loop (F:=F) base (size h) (o:=.no) (.inl rfl) (b:=grp F now) (by omega) hb (m:=size h) (sz:=sz) (now:=now) (ep:=ep) ⟨n1,n2,n3⟩ n4 (by have:=hj.lj;omega) ((grp F now).length+1)
  (hh:=ext h [.map []]) (a:=8) (vs:=[]) (hj.ext _) (by rw [getMap,box_ext_at rfl];rfl) (by omega) (by omega)
 refine ⟨g,?_⟩
 have e1:∀ X,ext (setBx (ext h [.map []]) (size h) X) g=ext h (X :: g):=fun X=>by
  have:setBx (ext h [.map []]) (size h) X=ext h [X]:=by
   rw [set_ext_ge (Nat.le_refl _)];simp
  rw [this];simp [ext]
 rw [e1] at hg
 have gj0:=fun cs=>getJ (F:=F) hj cs
 have sj0:=fun cs ds=>setJ' (F:=F) hj cs ds
 have gj1:=fun B cs=>getJ (F:=F) (hj.ext [.map B]) cs
 have sj1:=fun B cs ds=>setJ' (F:=F) (hj.ext [.map B]) cs ds
 have ex:=fun cs l=>ext_putJ (F:=F) hj cs l
 have sz0:=fun cs=>size_putJ (F:=F) hj cs
 have l3:(jW qa qb sz now ep fin mv)[3]?=some (.int .i64 (now:Int)):=rfl
 have wr6:∀ v w,setRange (jW qa qb sz now ep fin v) 6 [w]=jW qa qb sz now ep fin w:=fun _ _=>rfl
 have wr5:∀ v,setRange (jW qa qb sz now ep fin v) 5 [.int .i64 8]=jW qa qb sz now ep 8 v:=fun _=>rfl
 have wl:∀ n e f v,(jW qa qb sz n e f v).length=7:=fun _ _ _ _=>rfl
 have hnb:(jb < base)=False:=by simp;omega
 rw [S35]
 simp only [size_putJ hj,gj0,l3,hby,genV_makeMap,ex,sz0,gj1,sj1,wr6,wr5,wl,hnb,ite_self,↓evD,evU,evL,evM,Nat.reduceAdd,Nat.reduceSub,Nat.reduceMul,Nat.reduceLeDiff,Nat.reduceLT,Nat.reduceEqDiff,Nat.reduceBEq,reduceIte,reduceCtorEq,Int.reduceBEq,Int.reduceEq,Int.reduceLT,Int.reduceLE,Int.reduceGT,Int.reduceGE,Int.reduceAdd,Int.reduceSub,Int.reduceNeg,Int.reduceBNe,ite_true,ite_false,if_true,if_false,implies_true,forall_const]
 exact hg
end Go.Am.Ytlonabodghfjdaa
namespace Go.Am.Ytlonabodghfjdaa
set_option maxRecDepth 100000
set_option linter.unusedSimpArgs false
set_option linter.unusedVariables false
set_option linter.unusedSectionVars false
variable {h:Hp} {p:FP} {F:Fl} {qa qb:Nat}
theorem fill_end (A:Nat) (vs:Vs):∀ (ks:List Nat) {F:Fl} (a:Nat),(F.fill A a vs ks).2.1=0→(F.fill A a vs ks).1=a+sumK vs ks
 | [],F,a,_=>by simp [Fl.fill,sumK]
 | k :: r,F,a,he=>by
  unfold Fl.fill at he ⊢
  split at he
  ·rename_i hc
   rw [if_pos hc]
   rw [fill_end A vs r _ he]
   simp [sumK];omega
  ·rename_i hc
   exact absurd he hc
theorem move_inv {sz:Nat} (hF:Fq F sz) {J:Jn} {vs:Vs} (hk:Keyed vs):Fq (F.move sz J vs).2.1 sz∧(F.move sz J vs).2.1.sector=F.sector ∧
  (∀ J',(F.move sz J vs).2.2=some J'→(F.move sz J vs).1=0∧J'.now=1 - J.now∧J'.fin=needV vs∧needV vs≤sz∧J'.epoch=J.epoch+1#32)∧((F.move sz J vs).2.2=none→(F.move sz J vs).1≠0):=by
 unfold Fl.move
 split
 ·exact ⟨hF,rfl,fun J' h=>by simp at h,fun _=>by simp⟩
 rename_i c0
 split
 ·exact ⟨hF,rfl,fun J' h=>by simp at h,fun _=>by simp⟩
 simp only
 obtain ⟨f1,s1⟩:=hF.clear (2 * (1 - J.now)) 2 (by omega)
 split
 ·rename_i hc;exact ⟨f1,s1,fun J' h=>by simp at h,fun _=>hc⟩
 obtain ⟨f2,s2⟩:=f1.fill (2 * (1 - J.now) * F.sector) 8 vs (keysN vs)
 split
 ·rename_i hc;exact ⟨f2,s2.trans s1,fun J' h=>by simp at h,fun _=>hc⟩
 rename_i c2
 obtain ⟨f3,s3⟩:=f2.program (2 * (1 - J.now) * F.sector+1) (bytes4 (J.epoch+1#32))
 split
 ·rename_i hc;exact ⟨f3,s3.trans (s2.trans s1),fun J' h=>by simp at h,fun _=>hc⟩
 obtain ⟨f4,s4⟩:=f3.program (2 * (1 - J.now) * F.sector+0) [0]
 split
 ·rename_i hc;exact ⟨f4,s4.trans (s3.trans (s2.trans s1)),fun J' h=>by simp at h,fun _=>hc⟩
 ·refine ⟨f4,s4.trans (s3.trans (s2.trans s1)),fun J' hJ=>?_,fun h=>by simp at h⟩
  simp only [Option.some.injEq] at hJ
  subst hJ
  refine ⟨rfl,rfl,?_,by omega,rfl⟩
  simp only
  rw [fill_end _ _ _ _ (by omega),sum_keysN hk]
def _root_.Go.Am.Fl.openJ (F:Fl) (sz:Nat):Nat × Fl × Option (Jn × Vs) :=
 if F.down=true then (30,F,none) else
 let H:=headsM F 0 0#32
 if H.found=false then (let M:=F.move sz ⟨1,0,H.epoch⟩ [];(M.1,M.2.1,M.2.2.map fun J=>(J,[]))) else
 let R:=replM (grp F H.now)
 if R.1≠0 then (40,F,none) else
 if tornB (grp F H.now) R.2.1=true then (let M:=F.move sz ⟨H.now,R.2.1,H.epoch⟩ R.2.2;(M.1,M.2.1,M.2.2.map fun J=>(J,R.2.2))) else (0,F,some (⟨H.now,R.2.1,H.epoch⟩,R.2.2))
structure PO (h:Hp) (p:FP) (qa qb:Nat):Prop where
 fo:FOk h p
 pa:PtOk h p qa 0 2
 pb:PtOk h p qb 2 2
theorem PO.j (ho:PO h p qa qb) (B:List PV):JOk (ext h [.cells B]) p (size h) qa qb :=
 ⟨ho.fo.ext _,ho.pa.ext _,ho.pb.ext _,by rw [size_ext];simp,by have:=ho.fo.lf;omega,by have:=ho.fo.lb;omega,by have:=ho.fo.lw;omega,
  by have:=lt_of_box (box_of_get ho.pa.get);omega,by have:=lt_of_box (box_of_get ho.pb.get);omega⟩
theorem look_now (s:Hd) (F:Fl) {i:Nat} (hi:i≤1) (hs:s.now≤1):(s.look F i).now≤1:=by
 unfold Hd.look;split
 ·exact hi
 ·exact hs
theorem heads_now (F:Fl) (now:Nat) (ep:BitVec 32) (hn:now≤1):(headsM F now ep).now≤1:=look_now _ F (by omega) (look_now _ F (by omega) hn)
theorem open_spec_all (ho:PO h p qa qb) {sz:Nat} (hF:Fq F sz) {base:Nat} (hb:base≤size h):∃ g cs,
  CallA T base 10 [.ptr qa 0,.ptr qb 0] (putF h p F)=some (match (F.openJ sz).2.2 with | some _=>.tup [.ptr (size h) 0,.int .i64 0] | none=>.tup [.nilp,.int .i64 ((F.openJ sz).1:Nat)],putJ (ext h g) p (F.openJ sz).2.1 (size h) cs) ∧
  ∀ J vs,(F.openJ sz).2.2=some (J,vs)→∃ m,JS (ext h g) p (F.openJ sz).2.1 (size h) qa qb sz m J vs∧cs=jC qa qb sz J m:=by
 have hs2:=hF.small
 have hs3:=hF.pos
 have hsz:=hF.sz
 obtain ⟨B,hB⟩ : ∃ B:List PV,B=jW qa qb sz 0 0#32 0 .nilm:=⟨_,rfl⟩
 have hj:=ho.j B
 have pa:=fun b=>psize_spec (F:=F) ho.fo ho.pa b (by omega)
 have pb:=fun b=>psize_spec (F:=F) ho.fo ho.pb b (by omega)
 rw [←hsz] at pa pb
 have hself:ext (putF h p F) [.cells B]=putJ (ext h [.cells B]) p F (size h) B:=by
  rw [ext_putF ho.fo]
  exact putJ_self (by rw [getBox_ext_0];rfl)
 have fa:∀ b,CallA T b 31 [.ptr qa 0] (putJ (ext h [.cells B]) p F (size h) B)=some (.ptr p.f 0,putJ (ext h [.cells B]) p F (size h) B):=fun b=>pflash_spec (F:=F) (hj.fs B) (hj.qa' B) b
 have fb:∀ b,CallA T b 31 [.ptr qb 0] (putJ (ext h [.cells B]) p F (size h) B)=some (.ptr p.f 0,putJ (ext h [.cells B]) p F (size h) B):=fun b=>pflash_spec (F:=F) (hj.fs B) (hj.qb' B) b
 have fd:∀ b,CallA T b 32 [.ptr p.f 0] (putJ (ext h [.cells B]) p F (size h) B)=some (.bool F.down,putJ (ext h [.cells B]) p F (size h) B):=fun b=>down_spec (F:=F) (hj.fs B) b
 have hbox:boxV 7 (.agg B) (putF h p F)=some (.ptr (size h) 0,putJ (ext h [.cells B]) p F (size h) B):=by
  rw [←hself,←size_putF (h:=h) (p:=p) (F:=F),hB];rfl
 have hbuild:(buildV [.nilp,.nilp] [(0,1,.ptr qa 0),(1,1,.ptr qb 0)])=some (.agg [.ptr qa 0,.ptr qb 0]):=rfl
 have hmin:minmaxV false [.int .i64 (sz:Int),.int .i64 (sz:Int)]=some (.int .i64 (sz:Int)):=by
  show some (PV.int .i64 (if (sz:Int) < sz then (sz:Int) else sz))=_
  simp
 have hbuild2:buildV [.nilp,.nilp,(.int .i64 0),(.int .i64 0),(.int .u32 0),(.int .i64 0),.nilm] [(0,2,.agg [.ptr qa 0,.ptr qb 0]),(2,1,.int .i64 (sz:Int))]=some (.agg B):=by rw [hB];rfl
 have l2:B[2]?=some (.int .i64 (sz:Int)):=by rw [hB];rfl
 have gj0:=fun F cs=>getJ (F:=F) hj cs
 have d32:decide ((sz:Int) < 32)=false:=by simp;omega
 unfold Fl.openJ
 rw [S10]
 by_cases c1:F.down=true
 ·rw [if_pos c1]
  rw [c1] at fd
  refine ⟨[.cells B],B,?_,fun J vs hq=>by simp at hq⟩
  simp only [hbuild,pa,pb,hmin,hbuild2,hbox,fa,fb,fd,↓evD,evU,evL,evM,Nat.reduceAdd,Nat.reduceSub,Nat.reduceMul,Nat.reduceLeDiff,Nat.reduceLT,Nat.reduceEqDiff,Nat.reduceBEq,reduceIte,reduceCtorEq,Int.reduceBEq,Int.reduceEq,Int.reduceLT,Int.reduceLE,Int.reduceGT,Int.reduceGE,Int.reduceAdd,Int.reduceSub,Int.reduceNeg,Int.reduceBNe,ite_true,ite_false,if_true,if_false,implies_true,forall_const] <;> rfl
 rw [if_neg c1]
 have c1':F.down=false:=by simpa using c1
 rw [c1'] at fd
 have hhd:=heads_spec hj hF c1' base 0 0#32 (fin:=0) (mv:=.nilm)
 have hnow:=heads_now F 0 0#32 (by omega)
 simp only
 generalize hH:headsM F 0 0#32=H at *
 have hhd':CallA T base 33 [.ptr (size h) 0] (putJ (ext h [.cells B]) p F (size h) B)=some (.tup [.bool H.found,.int .i64 0],putJ (ext h [.cells B]) p F (size h) (jW qa qb sz H.now H.epoch 0 .nilm)):=by rw [hB];rw [hB] at hhd;exact hhd
 have e2:∀ l,ext (ext h [.cells B]) l=ext h (.cells B :: l):=fun l=>by simp [ext]
 have hlt1:size h < size (ext h [.cells B]):=by rw [size_ext];simp
 clear hhd hself
 generalize ext h [.cells B]=h1 at *
 have hnb:(size h < base)=False:=by simp;omega
 by_cases c2:H.found=false
 ·rw [if_pos c2]
  rw [c2] at hhd'
  obtain ⟨n1,n2,n3,n4⟩:=hj.new
  have hm1:getMap (ext h1 [.map (ents [])]) (size h1)=some (ents []):=by rw [getMap,box_ext_at rfl];rfl
  have hmv:=move_spec (F:=F) (hj.ext [.map (ents [])]) hb (m:=size h1) (m':=size h1) (J:=⟨1,0,H.epoch⟩) hm1 ⟨n1,n2,n3⟩ n4 small_nil keyed_nil hF (Nat.le_refl 1)
  obtain ⟨v1,v2,v3,v4⟩:=move_inv hF (J:=⟨1,0,H.epoch⟩) keyed_nil
  simp only
  generalize F.move sz ⟨1,0,H.epoch⟩ []=M at *
  have ex:=fun cs l=>ext_putJ (F:=F) hj cs l
  have sz0:=fun cs=>size_putJ (F:=F) hj cs
  have gj1:=fun B' F cs=>getJ (F:=F) (hj.ext [.map B']) cs
  have sj1:=fun B' F cs ds=>setJ' (F:=F) (hj.ext [.map B']) cs ds
  have wr6:∀ n v w,setRange (jW qa qb sz n H.epoch 0 v) 6 [w]=jW qa qb sz n H.epoch 0 w:=fun _ _ _=>rfl
  have wr3:∀ n v,setRange (jW qa qb sz n H.epoch 0 v) 3 [.int .i64 1]=jW qa qb sz 1 H.epoch 0 v:=fun _ _=>rfl
  have wl:∀ n e f v,(jW qa qb sz n e f v).length=7:=fun _ _ _ _=>rfl
  have l6:∀ n e f v,(jW qa qb sz n e f v)[6]?=some v:=fun _ _ _ _=>rfl
  have hmv':CallA T base 34 [.ptr (size h) 0,.mref (size h1)] (putJ (ext h1 [.map []]) p F (size h) (jW qa qb sz 1 H.epoch 0 (.mref (size h1))))=_:=hmv
  cases hM:M.2.2 with
  | none =>
   have d5:((M.1:Int) != 0)=true:=by have:=v4 hM;simpa using this
   rw [hM] at hmv'
   refine ⟨[.cells B,.map (ents [])],jC qa qb sz ⟨1,0,H.epoch⟩ (size h1),?_,fun J vs hq=>by simp at hq⟩
   rw [←e2]
   simp only [hbuild,pa,pb,hmin,hbuild2,hbox,fa,fb,fd,gj0,l2,d32,hhd',genV_makeMap,ex,sz0,gj1,sj1,wr6,wr3,wl,l6,hnb,ite_self,hmv',d5,↓evD,evU,evL,evM,Nat.reduceAdd,Nat.reduceSub,Nat.reduceMul,Nat.reduceLeDiff,Nat.reduceLT,Nat.reduceEqDiff,Nat.reduceBEq,reduceIte,reduceCtorEq,Int.reduceBEq,Int.reduceEq,Int.reduceLT,Int.reduceLE,Int.reduceGT,Int.reduceGE,Int.reduceAdd,Int.reduceSub,Int.reduceNeg,Int.reduceBNe,ite_true,ite_false,if_true,if_false,implies_true,forall_const] <;> rfl
  | some J' =>
   obtain ⟨w1,w2,w3,w4,w5⟩:=v3 J' hM
   have d5:((M.1:Int) != 0)=false:=by rw [w1];rfl
   rw [hM] at hmv'
   refine ⟨[.cells B,.map (ents [])],jC qa qb sz J' (size h1),?_,fun J vs hq=>?_⟩
   ·rw [←e2]
    simp only [hbuild,pa,pb,hmin,hbuild2,hbox,fa,fb,fd,gj0,l2,d32,hhd',genV_makeMap,ex,sz0,gj1,sj1,wr6,wr3,wl,l6,hnb,ite_self,hmv',d5,↓evD,evU,evL,evM,Nat.reduceAdd,Nat.reduceSub,Nat.reduceMul,Nat.reduceLeDiff,Nat.reduceLT,Nat.reduceEqDiff,Nat.reduceBEq,reduceIte,reduceCtorEq,Int.reduceBEq,Int.reduceEq,Int.reduceLT,Int.reduceLE,Int.reduceGT,Int.reduceGE,Int.reduceAdd,Int.reduceSub,Int.reduceNeg,Int.reduceBNe,ite_true,ite_false,if_true,if_false,implies_true,forall_const]
   ·simp only [Option.map_some,Option.some.injEq,Prod.mk.injEq] at hq
    obtain ⟨rfl,rfl⟩:=hq
    rw [←e2]
    exact ⟨_,⟨hj.ext _,hm1,⟨n1,n2,n3⟩,n4,small_nil,keyed_nil,v1,by rw [w2];simp,by omega⟩,rfl⟩
 ·rw [if_neg c2]
  have c2':H.found=true:=by simpa using c2
  rw [c2'] at hhd'
  obtain ⟨n1,n2,n3,n4⟩:=hj.new
  obtain ⟨g,hg⟩:=replay_spec hj hF c1' hb hnow (ep:=H.epoch) (fin:=0) (mv:=.nilm)
  have hgl:=grp_len hF hnow
  obtain ⟨q1,q2,q3,q4,q5⟩:=repl_inv (grp F H.now) ((grp F H.now).length+1) 8 [] (by omega) small_nil keyed_nil
  change (replM (grp F H.now)).2.1≤_ at q1
  change Small (replM (grp F H.now)).2.2 at q2
  change Keyed (replM (grp F H.now)).2.2 at q3
  change (replM (grp F H.now)).1=0∨_ at q5
  generalize replM (grp F H.now)=R at *
  by_cases c3:R.1≠0
  ·rw [if_pos c3]
   rw [if_neg c3] at hg
   refine ⟨.cells B :: .map (ents R.2.2) :: g,jW qa qb sz H.now H.epoch R.2.1 (.mref (size h1)),?_,fun J vs hq=>by simp at hq⟩
   rw [←e2]
   simp only [hbuild,pa,pb,hmin,hbuild2,hbox,fa,fb,fd,gj0,l2,d32,hhd',hg,↓evD,evU,evL,evM,Nat.reduceAdd,Nat.reduceSub,Nat.reduceMul,Nat.reduceLeDiff,Nat.reduceLT,Nat.reduceEqDiff,Nat.reduceBEq,reduceIte,reduceCtorEq,Int.reduceBEq,Int.reduceEq,Int.reduceLT,Int.reduceLE,Int.reduceGT,Int.reduceGE,Int.reduceAdd,Int.reduceSub,Int.reduceNeg,Int.reduceBNe,ite_true,ite_false,if_true,if_false,implies_true,forall_const] <;> rfl
  rw [if_neg c3]
  rw [if_pos (by omega)] at hg
  have hjr:=hj.ext (.map (ents R.2.2) :: g)
  have hmr:getMap (ext h1 (.map (ents R.2.2) :: g)) (size h1)=some (ents R.2.2):=by rw [getMap,box_ext_at rfl];rfl
  by_cases c4:tornB (grp F H.now) R.2.1=true
  ·rw [if_pos c4]
   rw [c4] at hg
   have hmv:=move_spec (F:=F) hjr hb (m:=size h1) (m':=size h1) (J:=⟨H.now,R.2.1,H.epoch⟩) hmr ⟨n1,n2,n3⟩ n4 q2 q3 hF hnow
   obtain ⟨v1,v2,v3,v4⟩:=move_inv hF (J:=⟨H.now,R.2.1,H.epoch⟩) q3
   generalize F.move sz ⟨H.now,R.2.1,H.epoch⟩ R.2.2=M at *
   have gj1:=fun F cs=>getJ (F:=F) hjr cs
   have l6:∀ n e f v,(jW qa qb sz n e f v)[6]?=some v:=fun _ _ _ _=>rfl
   have hmv':CallA T base 34 [.ptr (size h) 0,.mref (size h1)] (putJ (ext h1 (.map (ents R.2.2) :: g)) p F (size h) (jW qa qb sz H.now H.epoch R.2.1 (.mref (size h1))))=_:=hmv
   cases hM:M.2.2 with
   | none =>
    have d5:((M.1:Int) != 0)=true:=by have:=v4 hM;simpa using this
    rw [hM] at hmv'
    refine ⟨.cells B :: .map (ents R.2.2) :: g,jC qa qb sz ⟨H.now,R.2.1,H.epoch⟩ (size h1),?_,fun J vs hq=>by simp at hq⟩
    rw [←e2]
    simp only [hbuild,pa,pb,hmin,hbuild2,hbox,fa,fb,fd,gj0,l2,d32,hhd',hg,gj1,l6,hmv',d5,↓evD,evU,evL,evM,Nat.reduceAdd,Nat.reduceSub,Nat.reduceMul,Nat.reduceLeDiff,Nat.reduceLT,Nat.reduceEqDiff,Nat.reduceBEq,reduceIte,reduceCtorEq,Int.reduceBEq,Int.reduceEq,Int.reduceLT,Int.reduceLE,Int.reduceGT,Int.reduceGE,Int.reduceAdd,Int.reduceSub,Int.reduceNeg,Int.reduceBNe,ite_true,ite_false,if_true,if_false,implies_true,forall_const] <;> rfl
   | some J' =>
    obtain ⟨w1,w2,w3,w4,w5⟩:=v3 J' hM
    have d5:((M.1:Int) != 0)=false:=by rw [w1];rfl
    rw [hM] at hmv'
    refine ⟨.cells B :: .map (ents R.2.2) :: g,jC qa qb sz J' (size h1),?_,fun J vs hq=>?_⟩
    ·rw [←e2]
     simp only [hbuild,pa,pb,hmin,hbuild2,hbox,fa,fb,fd,gj0,l2,d32,hhd',hg,gj1,l6,hmv',d5,↓evD,evU,evL,evM,Nat.reduceAdd,Nat.reduceSub,Nat.reduceMul,Nat.reduceLeDiff,Nat.reduceLT,Nat.reduceEqDiff,Nat.reduceBEq,reduceIte,reduceCtorEq,Int.reduceBEq,Int.reduceEq,Int.reduceLT,Int.reduceLE,Int.reduceGT,Int.reduceGE,Int.reduceAdd,Int.reduceSub,Int.reduceNeg,Int.reduceBNe,ite_true,ite_false,if_true,if_false,implies_true,forall_const]
    ·simp only [Option.map_some,Option.some.injEq,Prod.mk.injEq] at hq
     obtain ⟨rfl,rfl⟩:=hq
     rw [←e2]
     exact ⟨_,⟨hjr,hmr,⟨n1,n2,n3⟩,n4,q2,q3,v1,by rw [w2];simp only;omega,by omega⟩,rfl⟩
  ·rw [if_neg c4]
   have c4':tornB (grp F H.now) R.2.1=false:=by simpa using c4
   rw [c4'] at hg
   refine ⟨.cells B :: .map (ents R.2.2) :: g,jC qa qb sz ⟨H.now,R.2.1,H.epoch⟩ (size h1),?_,fun J vs hq=>?_⟩
   ·rw [←e2]
    simp only [hbuild,pa,pb,hmin,hbuild2,hbox,fa,fb,fd,gj0,l2,d32,hhd',hg,↓evD,evU,evL,evM,Nat.reduceAdd,Nat.reduceSub,Nat.reduceMul,Nat.reduceLeDiff,Nat.reduceLT,Nat.reduceEqDiff,Nat.reduceBEq,reduceIte,reduceCtorEq,Int.reduceBEq,Int.reduceEq,Int.reduceLT,Int.reduceLE,Int.reduceGT,Int.reduceGE,Int.reduceAdd,Int.reduceSub,Int.reduceNeg,Int.reduceBNe,ite_true,ite_false,if_true,if_false,implies_true,forall_const] <;> rfl
   ·simp only [Option.some.injEq,Prod.mk.injEq] at hq
    obtain ⟨rfl,rfl⟩:=hq
    rw [←e2]
    exact ⟨_,⟨hjr,hmr,⟨n1,n2,n3⟩,n4,q2,q3,hF,hnow,by simp only;omega⟩,rfl⟩
end Go.Am.Ytlonabodghfjdaa
namespace Go.Am.Ytlonabodghfjdaa
set_option linter.unusedSimpArgs false
set_option linter.unusedVariables false
def NC (F:Fl):Prop:=F.left=-1∧F.down=false
def A255 (F:Fl) (a n:Nat):Prop:=∀ i,a≤i→i < a+n→F.b.getD i 0=255
def Out (F G:Fl) (a n:Nat):Prop:=∀ i,(i < a∨a+n≤i)→G.b.getD i 0=F.b.getD i 0
theorem A255.sub {F:Fl} {a n a' n':Nat} (h:A255 F a n) (h1:a≤a') (h2:a'+n'≤a+n):A255 F a' n':=fun i q1 q2=>h i (by omega) (by omega)
theorem Out.sub {F G:Fl} {a n a' n':Nat} (h:Out F G a n) (h1:a'≤a) (h2:a+n≤a'+n'):Out F G a' n':=fun i q=>h i (by omega)
theorem Out.trans {F G H:Fl} {a n:Nat} (h:Out F G a n) (h':Out G H a n):Out F H a n:=fun i q=>(h' i q).trans (h i q)
theorem A255.out {F G:Fl} {a n a' n':Nat} (h:A255 F a n) (ho:Out F G a' n') (hd:a+n≤a'∨a'+n'≤a):A255 G a n:=fun i q1 q2=>by
 rw [ho i (by omega)];exact h i q1 q2
theorem prog_nc:∀ (l:List UInt8) {F:Fl} (i:Nat),NC F→i+l.length≤F.b.length→(F.prog i l).1=0∧NC (F.prog i l).2 ∧
  ∀ j,(F.prog i l).2.b.getD j 0=if i≤j∧j < i+l.length then l.getD (j - i) 0 else F.b.getD j 0
 | [],F,i,hn,hl=>⟨rfl,hn,fun j=>by rw [if_neg (by simp)];rfl⟩
 | c :: r,F,i,hn,hl=>by
  simp only [List.length_cons] at hl
  have ht:F.turn i c=(true,{ F with left:=F.left,b:=F.b.set i c,turned:=min (F.turned+1) 1073741824 }):=by
   unfold Fl.turn
   rw [if_neg (by rw [hn.1];omega),if_neg (by rw [hn.1];omega)]
  have hn':NC (F.turn i c).2:=by rw [ht];exact hn
  obtain ⟨h1,h2,h3⟩:=prog_nc r (i+1) hn' (by rw [ht];simp;omega)
  have hq:F.prog i (c :: r)=(F.turn i c).2.prog (i+1) r:=by rw [Fl.prog,if_pos (by rw [ht])]
  rw [hq]
  refine ⟨h1,h2,fun j=>?_⟩
  rw [h3 j,ht]
  simp only [List.length_cons]
  by_cases hj:j=i
  ·subst hj
   rw [if_neg (by omega),if_pos (by omega)]
   have:j < F.b.length:=by omega
   simp [this]
  ·by_cases h4:i+1≤j∧j < i+1+r.length
   ·rw [if_pos h4,if_pos (by omega),show j - i=(j - (i+1))+1 by omega]
    simp
   ·rw [if_neg h4,if_neg (by omega)]
    simp [List.getElem?_set_ne (show i≠j by omega)]
theorem prog_out {F:Fl} {i:Nat} {l:List UInt8} (hn:NC F) (hl:i+l.length≤F.b.length):Out F (F.prog i l).2 i l.length:=fun j q=>by
 rw [(prog_nc l i hn hl).2.2 j,if_neg (by omega)]
theorem clears_255 {F:Fl} {a:Nat} {l:List UInt8} (h:A255 F a l.length):F.clears a l=true:=by
 unfold Fl.clears
 rw [List.all_eq_true]
 rintro ⟨c,i⟩ hm
 have hi:=List.mem_zipIdx hm
 simp only [Nat.zero_add] at hi
 have:=h (a+i) (by omega) (by omega)
 simp only [this]
 have:c &&& ~~~ (255:UInt8)=0:=by
  have : ~~~ (255:UInt8)=0:=by decide
  rw [this];simp
 rw [this];rfl
theorem program_nc {F:Fl} {a:Nat} {l:List UInt8} (hn:NC F) (hl:a+l.length≤F.b.length) (h:A255 F a l.length):(F.program a l).1=0∧NC (F.program a l).2∧Out F (F.program a l).2 a l.length:=by
 have hq:F.program a l=F.prog a l:=by
  unfold Fl.program
  rw [if_neg (by rw [hn.2];simp),if_pos (clears_255 h)]
 rw [hq]
 obtain ⟨h1,h2,h3⟩:=prog_nc l a hn hl
 exact ⟨h1,h2,prog_out hn hl⟩
theorem lay_nc {F:Fl} {a:Nat} {l:List UInt8} (hF:FIn F) (hn:NC F) (hl:a+(l.length+1)≤F.b.length) (h:A255 F a (l.length+1)):(F.lay a l).1=0∧NC (F.lay a l).2∧Out F (F.lay a l).2 a (l.length+1):=by
 obtain ⟨h1,h2,h3⟩:=program_nc (l:=l) hn (by omega) (h.sub (Nat.le_refl _) (by omega))
 obtain ⟨g1,g2,g3,g4⟩:=hF.program a l
 unfold Fl.lay
 rw [if_pos h1]
 obtain ⟨k1,k2,k3⟩:=program_nc (F:=(F.program a l).2) (a:=a+l.length) (l:=[0]) h2 (by rw [g2];simp;omega) ((h.sub (a':=a+l.length) (n':=1) (by omega) (by omega)).out h3 (.inr (Nat.le_refl _)))
 exact ⟨k1,k2,(h3.sub (Nat.le_refl _) (by omega)).trans (k3.sub (by omega) (by simp;omega))⟩
theorem fill_nc (A:Nat) (vs:Vs):∀ (ks:List Nat) {F:Fl} (a:Nat),FIn F→NC F→A+a+sumK vs ks≤F.b.length→A255 F (A+a) (sumK vs ks) →
  (F.fill A a vs ks).2.1=0∧NC (F.fill A a vs ks).2.2∧Out F (F.fill A a vs ks).2.2 (A+a) (sumK vs ks)
 | [],F,a,hF,hn,hl,h=>⟨rfl,hn,fun _ _=>rfl⟩
 | k :: r,F,a,hF,hn,hl,h=>by
  have hs:sumK vs (k :: r)=(7+(vB ((getV vs k).getD none)).length)+sumK vs r:=by simp [sumK]
  rw [hs] at hl h
  have hbl:(bodyL (UInt8.ofNat k) (vB ((getV vs k).getD none)) false).length=(vB ((getV vs k).getD none)).length+6:=bodyL_length _ _ _
  unfold Fl.fill
  generalize (vB ((getV vs k).getD none))=v at *
  generalize bodyL (UInt8.ofNat k) v false=bd at *
  obtain ⟨h1,h2,h3⟩:=lay_nc (F:=F) (a:=A+a) (l:=bd) hF hn (by omega) (h.sub (Nat.le_refl _) (by omega))
  obtain ⟨g1,g2,g3,g4⟩:=hF.lay (A+a) bd
  rw [if_pos h1]
  obtain ⟨k1,k2,k3⟩:=fill_nc A vs r (a+(7+v.length)) g1 h2 (by rw [g2];omega) ((h.sub (a':=A+(a+(7+v.length))) (n':=sumK vs r) (by omega) (by omega)).out h3 (.inr (by omega)))
  rw [hs]
  exact ⟨k1,k2,(h3.sub (Nat.le_refl _) (by omega)).trans (k3.sub (by omega) (by omega))⟩
theorem erase_nc {F:Fl} {s:Nat} (hn:NC F) (hl:s * F.sector+F.sector≤F.b.length):(F.erase s).1=0∧NC (F.erase s).2∧A255 (F.erase s).2 (s * F.sector) F.sector∧Out F (F.erase s).2 (s * F.sector) F.sector:=by
 unfold Fl.erase
 rw [if_neg (by rw [hn.2];simp)]
 obtain ⟨h1,h2,h3⟩:=prog_nc (List.replicate F.sector 255) (F:={ F with wear:=F.wear.set s (min (F.wear.getD s 0+1) 1073741824) }) (s * F.sector) hn (by simpa using hl)
 refine ⟨h1,h2,fun i q1 q2=>?_,fun i q=>?_⟩
 ·rw [h3 i,List.length_replicate,if_pos ⟨q1,q2⟩]
  have:i - s * F.sector < F.sector:=by omega
  simp [this]
 ·rw [h3 i,List.length_replicate,if_neg (by omega)]
theorem clear2_nc {F:Fl} {s:Nat} (hF:FIn F) (hn:NC F) (hw:s+2≤F.wear.length) (hl:(s+2) * F.sector≤F.b.length):(F.clear s 2).1=0∧NC (F.clear s 2).2∧A255 (F.clear s 2).2 (s * F.sector) (2 * F.sector)∧Out F (F.clear s 2).2 (s * F.sector) (2 * F.sector):=by
 have e1:(s+1) * F.sector=s * F.sector+F.sector:=Nat.succ_mul _ _
 have e2:(s+2) * F.sector=s * F.sector+2 * F.sector:=Nat.add_mul _ _ _
 obtain ⟨h1,h2,h3,h4⟩:=erase_nc (F:=F) (s:=s) hn (by omega)
 obtain ⟨g1,g2,g3,g4⟩:=hF.erase s (by omega)
 obtain ⟨k1,k2,k3,k4⟩:=erase_nc (F:=(F.erase s).2) (s:=s+1) h2 (by rw [g4,g2];omega)
 rw [g4,e1] at k3 k4
 have hq:F.clear s 2=(0,((F.erase s).2.erase (s+1)).2):=by
  rw [Fl.clear,if_pos h1,Fl.clear,if_pos k1];rfl
 rw [hq]
 refine ⟨rfl,k2,fun i q1 q2=>?_,fun i q=>?_⟩
 ·by_cases hi:i < s * F.sector+F.sector
  ·rw [k4 i (by omega)];exact h3 i q1 hi
  ·exact k3 i (by omega) (by omega)
 ·rw [k4 i (by omega),h4 i (by omega)]
end Go.Am.Ytlonabodghfjdaa
namespace Go.Am.Ytlonabodghfjdaa
set_option linter.unusedSimpArgs false
set_option linter.unusedVariables false
theorem sum_ge (vs:Vs):8≤needV vs:=by unfold needV;omega
theorem move_nc {F:Fl} {sz:Nat} (hF:Fq F sz) (hn:NC F) {J:Jn} (hnow:J.now≤1) {vs:Vs} (hk:Keyed vs) (hsz:needV vs≤sz) (hep:J.epoch≠4294967295#32) :
  ∃ F',F.move sz J vs=(0,F',some ⟨1 - J.now,needV vs,J.epoch+1#32⟩)∧NC F'∧A255 F' (2 * (1 - J.now) * F.sector+needV vs) (sz - needV vs)∧Out F F' (2 * (1 - J.now) * F.sector) sz:=by
 have hs:=hF.sz
 have hlen:=hF.len
 have hpos:=hF.pos
 have hge:=sum_ge vs
 have hA:2 * (1 - J.now) * F.sector+2 * F.sector≤F.b.length:=by
  have:=Nat.mul_le_mul_right F.sector (show 2 * (1 - J.now)+2≤4 by omega)
  rw [Nat.add_mul] at this
  omega
 obtain ⟨c1,c2,c3,c4⟩:=clear2_nc (F:=F) (s:=2 * (1 - J.now)) hF.fin hn (by rw [hF.wear];omega) (by rw [Nat.add_mul];exact hA)
 obtain ⟨f1,s1⟩:=hF.clear (2 * (1 - J.now)) 2 (by omega)
 have l1:=f1.len
 have hsum:=sum_keysN hk
 obtain ⟨d1,d2,d3⟩:=fill_nc (2 * (1 - J.now) * F.sector) vs (keysN vs) (F:=(F.clear (2 * (1 - J.now)) 2).2) 8 f1.fin c2 (by rw [l1,s1];omega) (c3.sub (by omega) (by omega))
 obtain ⟨f2,s2⟩:=f1.fill (2 * (1 - J.now) * F.sector) 8 vs (keysN vs)
 have l2:=f2.len
 have hb4:(bytes4 (J.epoch+1#32)).length=4:=rfl
 have c3':=c3.sub (a':=2 * (1 - J.now) * F.sector) (n':=8) (Nat.le_refl _) (by omega)
 have z1:=c3'.out d3 (.inl (by omega))
 unfold Fl.move
 rw [if_neg (by omega),if_neg hep]
 simp only
 rw [if_neg (by omega)]
 generalize hG:(F.clear (2 * (1 - J.now)) 2).2.fill (2 * (1 - J.now) * F.sector) 8 vs (keysN vs)=G at *
 have hend:G.1=needV vs:=by rw [←hsum,←hG];exact fill_end _ _ _ _ (by rw [hG];exact d1)
 rw [if_neg (by omega)]
 obtain ⟨e1,e2,e3⟩:=program_nc (F:=G.2.2) (a:=2 * (1 - J.now) * F.sector+1) (l:=bytes4 (J.epoch+1#32)) d2 (by rw [hb4,l2,s2,s1];omega) (z1.sub (by omega) (by rw [hb4];omega))
 obtain ⟨f3,s3⟩:=f2.program (2 * (1 - J.now) * F.sector+1) (bytes4 (J.epoch+1#32))
 have l3:=f3.len
 rw [if_neg (by omega)]
 generalize hW:G.2.2.program (2 * (1 - J.now) * F.sector+1) (bytes4 (J.epoch+1#32))=W at *
 rw [hb4] at e3
 have z2:=(z1.sub (a':=2 * (1 - J.now) * F.sector+0) (n':=1) (by omega) (by omega)).out e3 (.inl (by omega))
 obtain ⟨g1,g2,g3⟩:=program_nc (F:=W.2) (a:=2 * (1 - J.now) * F.sector+0) (l:=[0]) e2 (by rw [l3,s3,s2,s1];simp;omega) z2
 rw [if_neg (by omega),hend]
 refine ⟨_,rfl,g2,?_,?_⟩
 ·have y1:=(c3.sub (a':=2 * (1 - J.now) * F.sector+needV vs) (n':=sz - needV vs) (by omega) (by omega)).out d3 (.inr (by omega))
  have y2:=y1.out e3 (.inr (by omega))
  exact y2.out g3 (.inr (by simp;omega))
 ·have o1:=c4.sub (a':=2 * (1 - J.now) * F.sector) (n':=sz) (Nat.le_refl _) (by omega)
  have o2:=d3.sub (a':=2 * (1 - J.now) * F.sector) (n':=sz) (by omega) (by omega)
  have o3:=e3.sub (a':=2 * (1 - J.now) * F.sector) (n':=sz) (by omega) (by omega)
  have o4:=g3.sub (a':=2 * (1 - J.now) * F.sector) (n':=sz) (by omega) (by simp;omega)
  exact ((o1.trans o2).trans o3).trans o4
def JI (F:Fl) (J:Jn) (sz:Nat):Prop:=NC F∧A255 F (2 * J.now * F.sector+J.fin) (sz - J.fin)
theorem write_full {F:Fl} {sz:Nat} {J:Jn} {b:List UInt8} {vs:Vs} (h:sz < needV vs):F.writeJ sz J b vs=(6,F,none):=by
 unfold Fl.writeJ;rw [if_pos h]
theorem write_nc {F:Fl} {sz:Nat} (hF:Fq F sz) {J:Jn} (hnow:J.now≤1) (hfin:J.fin≤sz) (hj:JI F J sz) {b:List UInt8} {vs:Vs} (hk:Keyed vs) (hsz:needV vs≤sz) (hep:J.epoch≠4294967295#32) :
  ∃ F' J',F.writeJ sz J b vs=(0,F',some J')∧Fq F' sz∧F'.sector=F.sector∧JI F' J' sz∧J'.now≤1∧J'.fin≤sz ∧
   (if sz - J.fin < b.length+1 then J'.fin=needV vs∧J'.epoch=J.epoch+1#32 else J'.fin=J.fin+(b.length+1)∧J'.epoch=J.epoch):=by
 have hs:=hF.sz
 have hlen:=hF.len
 unfold Fl.writeJ
 rw [if_neg (by omega)]
 by_cases h1:sz - J.fin < b.length+1
 ·rw [if_pos h1]
  simp only [if_pos h1]
  obtain ⟨v1,v2,v3,v4⟩:=move_inv hF (J:=J) hk
  obtain ⟨F',e1,e2,e3,e4⟩:=move_nc hF hj.1 hnow hk hsz hep
  rw [e1] at v1 v2
  simp only at v1 v2
  exact ⟨F',_,e1,v1,v2,⟨e2,by rw [v2];exact e3⟩,by simp only;omega,hsz,rfl,rfl⟩
 ·rw [if_neg h1]
  simp only [if_neg h1]
  have hA:2 * J.now * F.sector+2 * F.sector≤F.b.length:=by
   have:=Nat.mul_le_mul_right F.sector (show 2 * J.now+2≤4 by omega)
   rw [Nat.add_mul] at this
   omega
  obtain ⟨l1,l2,l3⟩:=lay_nc (F:=F) (a:=2 * J.now * F.sector+J.fin) (l:=b) hF.fin hj.1 (by omega) (hj.2.sub (Nat.le_refl _) (by omega))
  obtain ⟨f1,s1⟩:=hF.lay (2 * J.now * F.sector+J.fin) b
  rw [if_neg (by omega)]
  refine ⟨_,_,rfl,f1,s1,⟨l2,?_⟩,hnow,by simp only;omega,rfl,rfl⟩
  simp only
  rw [s1]
  exact (hj.2.sub (a':=2 * J.now * F.sector+(J.fin+(b.length+1))) (n':=sz - (J.fin+(b.length+1))) (by omega) (by omega)).out l3 (.inr (by omega))
/-! ### An erased flash -/
theorem fq0 {s:Nat} (h1:16≤s) (h2:s≤4096):Fq (fl0 s) (2 * s) :=
 ⟨⟨by simp [fl0],by simp [fl0],by simp [fl0];omega,by simp [fl0]⟩,by simp [fl0],by simp [fl0],rfl,h2,h1⟩
theorem nc0 (s:Nat):NC (fl0 s):=⟨rfl,rfl⟩
theorem heads0 {s:Nat} (h1:16≤s):headsM (fl0 s) 0 0#32=⟨false,0,0#32⟩:=by
 have hg:∀ i,i≤1→(grp (fl0 s) i).getD 0 0=255:=by
  intro i hi
  have hb:(fl0 s).b=List.replicate (4 * s) 255:=rfl
  have h2:2 * i * s≤2 * s:=Nat.mul_le_mul_right _ (by omega)
  unfold grp
  rw [hb,List.drop_replicate,List.take_replicate]
  have:0 < min (2 * s) (4 * s - 2 * i * s):=by omega
  have e:(fl0 s).sector=s:=rfl
  rw [e]
  simp [this]
 have hl:∀ (st:Hd) i,i≤1→st.look (fl0 s) i=st:=by
  intro st i hi
  unfold Hd.look
  rw [if_neg]
  rw [hg i hi]
  rintro ⟨q,_⟩
  exact absurd q (by decide)
 unfold headsM
 rw [hl _ 0 (by omega),hl _ 1 (by omega)]
theorem open0 {s:Nat} (h1:16≤s) (h2:s≤4096):∃ F',(fl0 s).openJ (2 * s)=(0,F',some (⟨0,8,1#32⟩,[]))∧Fq F' (2 * s)∧F'.sector=s∧JI F' ⟨0,8,1#32⟩ (2 * s):=by
 have hF:=fq0 h1 h2
 unfold Fl.openJ
 rw [if_neg (by simp [fl0]),heads0 h1]
 simp only [if_true]
 obtain ⟨F',e1,e2,e3,e4⟩:=move_nc hF (nc0 s) (J:=⟨1,0,0#32⟩) (Nat.le_refl 1) keyed_nil (by simp [needV];omega) (by decide)
 obtain ⟨v1,v2,v3,v4⟩:=move_inv hF (J:=⟨1,0,0#32⟩) keyed_nil
 rw [e1] at v1 v2 ⊢
 simp only at v1 v2
 exact ⟨F',rfl,v1,v2,e2,by rw [v2];exact e3⟩
end Go.Am.Ytlonabodghfjdaa
namespace Go.Am.Ytlonabodghfjdaa
set_option maxRecDepth 100000
set_option linter.unusedSimpArgs false
set_option linter.unusedVariables false
set_option linter.unusedSectionVars false
variable {h:Hp} {p:FP} {F:Fl} {jb qa qb:Nat} {sz m:Nat} {J:Jn} {vs:Vs}
theorem JS.ext (hs:JS h p F jb qa qb sz m J vs) (l:Hp):JS (Go.Am.ext h l) p F jb qa qb sz m J vs :=
 ⟨hs.ok.ext l,by rw [getMap,box_ext_lt (lt_of_box (box_of_map hs.map))];exact hs.map,hs.nm,hs.mj,hs.small,hs.keyed,hs.fl,hs.now,hs.fin⟩
def prV (vs:Vs) (k:Nat):PV:=.agg [.int .i64 (k:Int),vV ((getV vs k).getD none)]
def prsV (vs:Vs) (ks:List Nat):List PV:=ks.map (prV vs)
theorem prV_strip (vs:Vs) (k:Nat):strip (prV vs k)=prV vs k:=by
 simp only [prV,strip,strips,(vV_bv _).strip]
theorem prV_fits (vs:Vs) (k:Nat):fits 2 (prV vs k)=true:=by
 have:=vV_scalar ((getV vs k).getD none)
 have h2:(vV ((getV vs k).getD none)).cells=[vV ((getV vs k).getD none)]:=by
  cases (getV vs k).getD none with
  | none=>rfl
  | some l=>simp only [vV,clV];split <;> rfl
 rw [h2] at this
 simp only [List.all_cons,List.all_nil,Bool.and_true] at this
 simp only [prV,fits,PV.cells,List.all_cons,List.all_nil,this]
 rfl
theorem prV_below (vs:Vs) (k n:Nat):below n (prV vs k)=true:=by
 simp only [prV,below,belows,(vV_bv _).below,Bool.and_self,Bool.and_true]
theorem prsV_strips (vs:Vs) (ks:List Nat):strips (prsV vs ks)=prsV vs ks:=by
 induction ks with
 | nil=>rfl
 | cons k r ih=>simp only [prsV,List.map_cons,strips] at ih ⊢;rw [ih,prV_strip]
theorem prsV_belows (vs:Vs) (ks:List Nat) (n:Nat):belows n (prsV vs ks)=true:=by
 induction ks with
 | nil=>rfl
 | cons k r ih=>simp only [prsV,List.map_cons,belows,Bool.and_eq_true] at ih ⊢;exact ⟨prV_below vs k n,ih⟩
def PG (h:Hp) (p:FP) (F:Fl) (jb:Nat) (cs:List PV) (vs:Vs) (ks:List Nat) (v:PV) (H:Hp):Prop :=
 (ks=[]∧v=.sl .full 2 []∧H=putJ h p F jb cs)∨(ks≠[]∧v=.sl (.tok (size h)) 2 (prsV vs ks)∧H=putJ (ext h [.tok ks.length 78]) p F jb cs)
theorem getTokJ (hj:JOk h p jb qa qb) (cs:List PV) (n T:Nat):getTok (putJ (ext h [.tok n T]) p F jb cs) (size h)=some (n,T):=by
 obtain ⟨n1,n2,n3,n4⟩:=hj.new
 rw [getTok,putJ,box_putF ((hj.ext _).fs cs),if_neg n1,if_neg n3,if_neg n2,box_set_ne (Ne.symm n4),box_ext_at rfl]
 rfl
theorem PG.app (hj:JOk h p jb qa qb) {cs:List PV} {ks:List Nat} {v:PV} {H:Hp} (hg:PG h p F jb cs vs ks v H) (k:Nat) (hl:ks.length≤1000) :
  ∃ v' H',appTV 78 2 v (.sl .full 2 [prV vs k]) H=some (v',H')∧PG h p F jb cs vs (ks ++ [k]) v' H':=by
 have hfit:[prV vs k].all (fits 2)=true:=by simp [prV_fits]
 rw [appTV_eq,elems_sl,Option.bnd_some]
 rcases hg with ⟨rfl,rfl,rfl⟩ | ⟨hne,rfl,rfl⟩
 ·refine ⟨_,_,?_,.inr ⟨by simp,rfl,rfl⟩⟩
  unfold growT
  rw [if_pos hfit]
  simp only
  rw [if_pos ⟨trivial,by simp [lim2]⟩]
  simp only [List.isEmpty_cons,Bool.false_eq_true,if_false,strips,prV_strip,List.nil_append,List.length_nil,List.length_cons,Nat.zero_add,size_putJ hj,ext_putJ hj]
  rfl
 ·refine ⟨_,_,?_,.inr ⟨by simp,rfl,rfl⟩⟩
  unfold growT
  rw [if_pos hfit]
  simp only [getTokJ hj,Option.bnd_some]
  have hlen:(prsV vs ks).length=ks.length:=by simp [prsV]
  rw [if_pos ⟨trivial,by rw [hlen],by rw [hlen];simp [lim2];omega⟩,hlen,set_new hj]
  simp [strips,prV_strip,prsV]
def prsR (vs:Vs) (ks:List Nat):PV:=.sl (if ks=[] then .full else .no) 2 (prsV vs ks)
theorem PG.fin (hj:JOk h p jb qa qb) {cs:List PV} {ks:List Nat} {v:PV} {H:Hp} (hg:PG h p F jb cs vs ks v H):finV false false (size h) [v] H=some (prsR vs ks,putJ h p F jb cs):=by
 have hb:=prsV_belows vs ks (size h)
 rw [finV_code]
 rcases hg with ⟨rfl,rfl,rfl⟩ | ⟨hne,rfl,rfl⟩
 ·simp only [frzs,frz_sl,Option.bnd_some]
  rw [if_pos (by rfl),truncJ hj]
  rfl
 ·simp only [frzs,frz_sl,Option.bnd_some]
  rw [if_pos (by simp [belows,below,Own.below,Own.strip,hb])]
  have htr:trunc (putJ (Go.Am.ext h [.tok ks.length 78]) p F jb cs) (size h)=putJ h p F jb cs:=by
   rw [←ext_putJ hj]
   have:=trunc_ext (h:=putJ h p F jb cs) (l:=[.tok ks.length 78])
   rwa [size_putJ hj] at this
  rw [htr,prsR,if_neg hne]
  rfl
theorem pairs_loop (hs:JS h p F jb qa qb sz m J vs) (base:Nat) (ks:List Nat) (hmem:∀ k∈ks,∃ v,getV vs k=some v) (hkl:ks.length≤1000):∀ (n i:Nat) {v:PV} {H:Hp},i+n=ks.length→PG h p F jb (jC qa qb sz J m) vs (ks.take i) v H →
  P18_0 base (size h) (.int .i64 (i:Int)) v (.ptr jb 0) (ksV ks) (.int .i64 (ks.length:Int)) H=some (prsR vs ks,putJ h p F jb (jC qa qb sz J m))
 | 0,i,v,H,hi,hg=>by
  have e0:¬ (i < ks.length):=by omega
  rw [P18_0_eq]
  rw [List.take_of_length_le (by omega)] at hg
  have hd:decide ((i:Int) < (ks.length:Int))=false:=by simp;omega
  have hq:(binOp .lss (.int .i64 (i:Int)) (.int .i64 (ks.length:Int)))=some (.bool (decide ((i:Int) < (ks.length:Int)))):=rfl
  rw [hq,hd,Option.bnd_some,condB_false,hg.fin hs.ok]
 | n+1,i,v,H,hi,hg=>by
  have e0:i < ks.length:=by omega
  have hne:ks≠[]:=by intro hq;rw [hq] at e0;simp at e0
  have hidx:idxAB (ksV ks) (.int .i64 (i:Int)) 1=some (.ep [.int .i64 (ks[i] : Int)] 0):=by
   rw [ksV,if_neg hne,idxAB_sl,if_pos rfl,ix_nat .i64 i _ (by simpa using e0),Option.bnd_some]
   simp [e0];rfl
  obtain ⟨u,hu⟩:=hmem ks[i] (List.getElem_mem e0)
  have hget:orcQ (CallA T base) 13 [.ptr jb 0,.int .i64 (ks[i] : Int)] H=some (.tup [vV ((getV vs ks[i]).getD none),.bool true],H):=by
   rcases hg with ⟨_,_,rfl⟩ | ⟨_,_,rfl⟩
   ·have:=getQ_spec (F:=F) hs base (ks[i] : Int)
    rw [hu] at this ⊢
    exact this
   ·have:=getQ_spec (F:=F) (hs.ext [.tok (ks.take i).length 78]) base (ks[i] : Int)
    rw [hu] at this ⊢
    exact this
  have hbv:buildV [(.int .i64 0),.nils] [(0,1,.int .i64 (ks[i] : Int)),(1,1,vV ((getV vs ks[i]).getD none))]=some (prV vs ks[i]):=by
   have hc:(vV ((getV vs ks[i]).getD none)).cells=[vV ((getV vs ks[i]).getD none)]:=by
    cases (getV vs ks[i]).getD none with
    | none=>rfl
    | some l=>simp only [vV,clV];split <;> rfl
   have hsc:=vV_scalar ((getV vs ks[i]).getD none)
   rw [hc] at hsc
   simp only [buildV,buildAgg,hc,List.length_cons,List.length_nil,hsc,setRange]
   rfl
  have hbs:buildSlV 2 true [(.int .i64 0),.nils] 1 [(0,strip (prV vs ks[i]))]=some (.sl .full 2 [prV vs ks[i]]):=by
   rw [prV_strip]
   have:=prV_fits vs ks[i]
   simp only [fits,Bool.and_eq_true,beq_iff_eq] at this
   simp only [buildSlV,fillParts]
   rw [if_pos ⟨this.1,by simp,this.2⟩]
   rfl
  obtain ⟨v',H',a1,a2⟩:=hg.app hs.ok ks[i] (by rw [List.length_take];omega)
  have et:ks.take i ++ [ks[i]]=ks.take (i+1):=by rw [List.take_add_one,List.getElem?_eq_getElem e0];rfl
  rw [et] at a2
  have ih:=pairs_loop hs base ks hmem hkl n (i+1) (by omega) a2
  rw [P18_0_eq]
  simp (disch:=omega) only [dec_lt,e0,decide_true,hidx,hget,hbv,hbs,a1,wr_a1,ih,↓evD,evU,evL,evM,Nat.reduceAdd,Nat.reduceSub,Nat.reduceMul,Nat.reduceLeDiff,Nat.reduceLT,Nat.reduceEqDiff,Nat.reduceBEq,reduceIte,reduceCtorEq,Int.reduceBEq,Int.reduceEq,Int.reduceLT,Int.reduceLE,Int.reduceGT,Int.reduceGE,Int.reduceAdd,Int.reduceSub,Int.reduceNeg,Int.reduceBNe,ite_true,ite_false,if_true,if_false,implies_true,forall_const]
theorem keysQ (hs:JS h p F jb qa qb sz m J vs) (base:Nat):orcQ (CallA T base) 20 [.ptr jb 0] (putJ h p F jb (jC qa qb sz J m))=some (ksV (keysN vs),putJ h p F jb (jC qa qb sz J m)):=by
 rw [orcQ_eq,keys_spec hs,Option.bnd_some,forget_same]
theorem lenB_ksV (ks:List Nat):lenB false (ksV ks)=some (.int .i64 (ks.length:Int)):=by
 unfold ksV;split
 ·rename_i hq;rw [hq];rfl
 ·rw [lenB_sl,List.length_map]
theorem pairs_spec (hs:JS h p F jb qa qb sz m J vs) (base:Nat):CallA T base 18 [.ptr jb 0] (putJ h p F jb (jC qa qb sz J m))=some (prsR vs (keysN vs),putJ h p F jb (jC qa qb sz J m)):=by
 have hl:=pairs_loop (F:=F) hs (size h) (keysN vs) (fun k hk=>by
  obtain ⟨e,he,rfl⟩:=(mem_keysN vs k).1 hk
  exact ⟨_,getV_mem hs.keyed e he⟩) (by rw [len_keysN];have:=hs.small.1;omega) (keysN vs).length 0 (v:=.sl .full 2 []) (H:=putJ h p F jb (jC qa qb sz J m)) (by omega) (.inl ⟨rfl,rfl,rfl⟩)
 simp only [show ((0:Nat):Int)=0 from rfl] at hl
 have h0:buildSlV 2 true [(.int .i64 0),.nils] 0 []=some (.sl .full 2 []):=rfl
 rw [S18,h0,size_putJ hs.ok]
 simp only [Option.bnd_some]
 rw [keysQ hs,bnd2_some,if_pos rfl,lenB_ksV,Option.bnd_some,hl]
/-! ### The reference's sum,and its sameness -/
theorem idx_pair (vs:Vs) (ks:List Nat) (i:Nat) (hi:i < ks.length):idxAB (prsR vs ks) (.int .i64 (i:Int)) 2=some (.ep [.int .i64 (ks[i] : Int),vV ((getV vs ks[i]).getD none)] 0):=by
 have hl:(prsV vs ks).length=ks.length:=by simp [prsV]
 rw [prsR,idxAB_sl,if_pos rfl,ix_nat .i64 i _ (by rw [hl];exact hi),Option.bnd_some]
 simp only [prsV,List.getElem?_map,List.getElem?_eq_getElem hi,Option.map_some,Option.bnd_some]
 rfl
theorem need_loop (base n0:Nat) (vs:Vs) (ks:List Nat) (hks:ks.length≤1000) (hv:∀ k∈ks,(vB ((getV vs k).getD none)).length≤1000):∀ (n i a:Nat),i+n=ks.length→a+1007 * n≤100000000 →
  P17_0 base n0 (.int .i64 (i:Int)) (prsR vs ks) (.int .i64 (a:Int)) h=some (.int .i64 ((a+sumK vs (ks.drop i):Nat):Int),trunc h n0)
 | 0,i,a,hi,ha=>by
  have e0:¬ (i < ks.length):=by omega
  have hl:lenB false (prsR vs ks)=some (.int .i64 (ks.length:Int)):=by rw [prsR,lenB_sl];simp [prsV]
  rw [P17_0_eq,List.drop_of_length_le (by omega)]
  simp only [hl,dec_lt,e0,decide_false,↓evD,evU,evL,evM,Nat.reduceAdd,Nat.reduceSub,Nat.reduceMul,Nat.reduceLeDiff,Nat.reduceLT,Nat.reduceEqDiff,Nat.reduceBEq,reduceIte,reduceCtorEq,Int.reduceBEq,Int.reduceEq,Int.reduceLT,Int.reduceLE,Int.reduceGT,Int.reduceGE,Int.reduceAdd,Int.reduceSub,Int.reduceNeg,Int.reduceBNe,ite_true,ite_false,if_true,if_false,implies_true,forall_const] <;> rfl
 | n+1,i,a,hi,ha=>by
  have e0:i < ks.length:=by omega
  have hl:lenB false (prsR vs ks)=some (.int .i64 (ks.length:Int)):=by rw [prsR,lenB_sl];simp [prsV]
  have hix:=idx_pair vs ks i e0
  have hvl:=(vV_bv ((getV vs ks[i]).getD none)).len
  have hb:=hv ks[i] (List.getElem_mem e0)
  have ih:=need_loop base n0 vs ks hks hv n (i+1) (a+7+(vB ((getV vs ks[i]).getD none)).length) (by omega) (by omega)
  have hd:ks.drop i=ks[i] :: ks.drop (i+1):=List.drop_eq_getElem_cons e0
  have hsum:a+7+(vB ((getV vs ks[i]).getD none)).length+sumK vs (ks.drop (i+1))=a+sumK vs (ks.drop i):=by
   have hc:∀ k r,sumK vs (k :: r)=7+(vB ((getV vs k).getD none)).length+sumK vs r:=fun k r=>by simp [sumK]
   rw [hd,hc];omega
  rw [hsum] at ih
  rw [P17_0_eq]
  simp (disch:=omega) only [hl,dec_lt,e0,decide_true,wr_a7,hix,hvl,wr_add,wr_a1,ih,↓evD,evU,evL,evM,Nat.reduceAdd,Nat.reduceSub,Nat.reduceMul,Nat.reduceLeDiff,Nat.reduceLT,Nat.reduceEqDiff,Nat.reduceBEq,reduceIte,reduceCtorEq,Int.reduceBEq,Int.reduceEq,Int.reduceLT,Int.reduceLE,Int.reduceGT,Int.reduceGE,Int.reduceAdd,Int.reduceSub,Int.reduceNeg,Int.reduceBNe,ite_true,ite_false,if_true,if_false,implies_true,forall_const]
theorem need17_spec (base:Nat) (hsm:Small vs) (hk:Keyed vs):CallA T base 17 [prsR vs (keysN vs)] h=some (.int .i64 (needV vs:Nat),h):=by
 have hl:=need_loop (h:=h) (size h) (size h) vs (keysN vs) (by rw [len_keysN];have:=hsm.1;omega) (fun k hk'=>by
  obtain ⟨e,he,rfl⟩:=(mem_keysN vs k).1 hk'
  rw [getV_mem hk e he]
  have:=(hsm.2 e he).2
  simp only [Option.getD_some];omega) (keysN vs).length 0 8 (by omega) (by rw [len_keysN];have:=hsm.1;omega)
 rw [List.drop_zero,sum_keysN hk,trunc_self] at hl
 simp only [show ((0:Nat):Int)=0 from rfl,show ((8:Nat):Int)=8 from rfl] at hl
 rw [S17,hl]
theorem same_loop (base:Nat) {v w:PV} {l l':List UInt8} (hv:Rd h v l) (hw:Rd h w l') (hlen:l.length=l'.length) (hl:l.length≤1000000):∀ (n i:Nat),i+n=l.length →
  P15_0 base (size h) (.int .i64 (i:Int)) w v h=some (.bool (l.drop i == l'.drop i),h)
 | 0,i,hi=>by
  have e0:¬ (i < l.length):=by omega
  rw [P15_0_eq,List.drop_of_length_le (by omega),List.drop_of_length_le (by omega)]
  simp only [hv.len,dec_lt,e0,decide_false,trunc_self,List.beq_nil_eq,↓evD,evU,evL,evM,Nat.reduceAdd,Nat.reduceSub,Nat.reduceMul,Nat.reduceLeDiff,Nat.reduceLT,Nat.reduceEqDiff,Nat.reduceBEq,reduceIte,reduceCtorEq,Int.reduceBEq,Int.reduceEq,Int.reduceLT,Int.reduceLE,Int.reduceGT,Int.reduceGE,Int.reduceAdd,Int.reduceSub,Int.reduceNeg,Int.reduceBNe,ite_true,ite_false,if_true,if_false,implies_true,forall_const]
 | n+1,i,hi=>by
  have e0:i < l.length:=by omega
  have e1:i < l'.length:=by omega
  obtain ⟨a,a1,a2⟩:=hv.rd .i64 i l[i] (List.getElem?_eq_getElem e0)
  obtain ⟨c,c1,c2⟩:=hw.rd .i64 i l'[i] (List.getElem?_eq_getElem e1)
  have ih:=same_loop base hv hw hlen hl n (i+1) (by omega)
  have hne:(((l[i].toNat:Int)) != (l'[i].toNat:Int))=(l[i] != l'[i]):=by
   rw [Bool.eq_iff_iff,bne_iff_ne,bne_iff_ne]
   constructor
   ·intro hq hc;rw [hc] at hq;exact hq rfl
   ·intro hq hc;exact hq (UInt8.toNat_inj.1 (by omega))
  rw [P15_0_eq]
  have ed:(l.drop i == l'.drop i)=(l[i] :: l.drop (i+1) == l'[i] :: l'.drop (i+1)):=by rw [←List.drop_eq_getElem_cons e0,←List.drop_eq_getElem_cons e1]
  rw [ed]
  by_cases hq:l[i]=l'[i]
  ·have d1:(l[i] != l'[i])=false:=by rw [hq];simp
   have d2:(l[i] :: l.drop (i+1) == l'[i] :: l'.drop (i+1))=(l.drop (i+1) == l'.drop (i+1)):=by rw [hq,List.cons_beq_cons,beq_self_eq_true,Bool.true_and]
   rw [d2]
   simp (disch:=omega) only [hv.len,dec_lt,e0,decide_true,a1,a2,c1,c2,hne,d1,wr_a1,ih,↓evD,evU,evL,evM,Nat.reduceAdd,Nat.reduceSub,Nat.reduceMul,Nat.reduceLeDiff,Nat.reduceLT,Nat.reduceEqDiff,Nat.reduceBEq,reduceIte,reduceCtorEq,Int.reduceBEq,Int.reduceEq,Int.reduceLT,Int.reduceLE,Int.reduceGT,Int.reduceGE,Int.reduceAdd,Int.reduceSub,Int.reduceNeg,Int.reduceBNe,ite_true,ite_false,if_true,if_false,implies_true,forall_const]
  ·have d1:(l[i] != l'[i])=true:=by simpa using hq
   have d2:(l[i] :: l.drop (i+1) == l'[i] :: l'.drop (i+1))=false:=by
    rw [beq_eq_false_iff_ne];intro hc;exact hq (List.cons.inj hc).1
   rw [d2]
   simp (disch:=omega) only [hv.len,dec_lt,e0,decide_true,a1,a2,c1,c2,hne,d1,trunc_self,↓evD,evU,evL,evM,Nat.reduceAdd,Nat.reduceSub,Nat.reduceMul,Nat.reduceLeDiff,Nat.reduceLT,Nat.reduceEqDiff,Nat.reduceBEq,reduceIte,reduceCtorEq,Int.reduceBEq,Int.reduceEq,Int.reduceLT,Int.reduceLE,Int.reduceGT,Int.reduceGE,Int.reduceAdd,Int.reduceSub,Int.reduceNeg,Int.reduceBNe,ite_true,ite_false,if_true,if_false,implies_true,forall_const]
theorem same_spec (base:Nat) {v w:PV} {l l':List UInt8} (hv:Rd h v l) (hw:Rd h w l') (hl:l.length≤1000000):CallA T base 15 [v,w] h=some (.bool (l == l'),h):=by
 rw [S15]
 by_cases hq:l.length=l'.length
 ·have hsl:=same_loop (size h) hv hw hq hl l.length 0 (by omega)
  simp only [show ((0:Nat):Int)=0 from rfl,List.drop_zero] at hsl
  have d1:((l.length:Int) != (l'.length:Int))=false:=by rw [hq];simp
  simp only [hv.len,hw.len,d1,hsl,↓evD,evU,evL,evM,Nat.reduceAdd,Nat.reduceSub,Nat.reduceMul,Nat.reduceLeDiff,Nat.reduceLT,Nat.reduceEqDiff,Nat.reduceBEq,reduceIte,reduceCtorEq,Int.reduceBEq,Int.reduceEq,Int.reduceLT,Int.reduceLE,Int.reduceGT,Int.reduceGE,Int.reduceAdd,Int.reduceSub,Int.reduceNeg,Int.reduceBNe,ite_true,ite_false,if_true,if_false,implies_true,forall_const]
 ·have d1:((l.length:Int) != (l'.length:Int))=true:=by simp;omega
  have d2:(l == l')=false:=by rw [beq_eq_false_iff_ne];intro hc;exact hq (by rw [hc])
  rw [d2]
  simp only [hv.len,hw.len,d1,trunc_self,↓evD,evU,evL,evM,Nat.reduceAdd,Nat.reduceSub,Nat.reduceMul,Nat.reduceLeDiff,Nat.reduceLT,Nat.reduceEqDiff,Nat.reduceBEq,reduceIte,reduceCtorEq,Int.reduceBEq,Int.reduceEq,Int.reduceLT,Int.reduceLE,Int.reduceGT,Int.reduceGE,Int.reduceAdd,Int.reduceSub,Int.reduceNeg,Int.reduceBNe,ite_true,ite_false,if_true,if_false,implies_true,forall_const]
end Go.Am.Ytlonabodghfjdaa
namespace Go.Am.Ytlonabodghfjdaa
set_option maxRecDepth 100000
set_option linter.unusedSimpArgs false
set_option linter.unusedVariables false
set_option linter.unusedSectionVars false
variable {h:Hp} {p:FP} {F:Fl} {jb qa qb:Nat} {sz m:Nat} {J:Jn} {vs:Vs}
structure OpL where
 kind:Int
 key:Int
 val:Option (List UInt8)
def aV:Option (List UInt8)→PV
 | none=>.nils
 | some l=>.sl .no 1 (u8s l)
theorem aV_bv (v:Option (List UInt8)):Bv (aV v) (vB v):=by
 cases v with
 | none=>exact bv_nils
 | some l=>exact bv_sl (.inl rfl) l
theorem aV_nn (v:Option (List UInt8)):nilK 1 (aV v)=some false∨aV v=.nils:=by
 cases v with
 | none=>exact .inr rfl
 | some l=>exact .inl rfl
theorem aV_cells (v:Option (List UInt8)):(aV v).cells=[aV v]:=by cases v <;> rfl
theorem aV_scalar (v:Option (List UInt8)):scalar (aV v)=true:=by cases v <;> rfl
def opC (o:OpL):List PV:=[.int .i64 o.kind,.int .i64 o.key,aV o.val]
def opV (o:OpL):PV:=.agg (opC o)
theorem ops_ix {V:PV} {ops:List OpL} (hV:Lv opV 3 V ops) (i:Nat) (hi:i < ops.length):idxAB V (.int .i64 (i:Int)) 3=some (.ep (opC ops[i]) 0):=hV.idx (List.getElem?_eq_getElem hi)
theorem op_load (o:OpL) (H:Hp):loadV 3 true (.ep (opC o) 0) H=some (.agg (opC o)):=rfl
theorem op_store (o:OpL) {H:Hp} {b:Nat} {z:List PV} (hz:getBox H b=some z) (hl:z.length=3):storeV 0 3 (.ptr b 0) (.agg (opC o)) H=some (setBx H b (.cells (opC o))):=by
 rw [storeV_ptr,hz,Option.bnd_some]
 have hsc:((PV.agg (opC o)).cells).all scalar=true:=by simp [opC,PV.cells,aV_scalar];exact ⟨rfl,rfl⟩
 rw [if_pos ⟨rfl,by omega,hsc,fun q=>absurd q (by omega)⟩,if_neg (by omega)]
 match z,hl with
 | [a,b,c],_=>rfl
/-! ### Few steps -/
theorem small_loop {V:PV} {ops:List OpL} (hV:Lv opV 3 V ops) (hn:ops.length≤9223372036854775807):∀ (n i:Nat) (g:Hp),i+n=ops.length →
  P8_0 (size h) (size h) (.int .i64 (i:Int)) V V (.int .i64 (ops.length:Int)) (ext h g)=some (.bool (((ops.drop i).all fun o=>decide ((vB o.val).length≤300)) && decide (ops.length≤40)),h)
 | 0,i,g,hi=>by
  have e0:¬ (i < ops.length):=by omega
  have hd:decide ((ops.length:Int)≤40)=decide (ops.length≤40):=by congr 1;apply propext;constructor <;> intro q <;> omega
  rw [P8_0_eq,List.drop_of_length_le (by omega)]
  simp only [dec_lt,e0,decide_false,hV.len,hd,trunc_ext,List.all_nil,Bool.true_and,↓evD,evU,evL,evM,Nat.reduceAdd,Nat.reduceSub,Nat.reduceMul,Nat.reduceLeDiff,Nat.reduceLT,Nat.reduceEqDiff,Nat.reduceBEq,reduceIte,reduceCtorEq,Int.reduceBEq,Int.reduceEq,Int.reduceLT,Int.reduceLE,Int.reduceGT,Int.reduceGE,Int.reduceAdd,Int.reduceSub,Int.reduceNeg,Int.reduceBNe,ite_true,ite_false,if_true,if_false,implies_true,forall_const]
 | n+1,i,g,hi=>by
  have e0:i < ops.length:=by omega
  have hix:=ops_ix hV i e0
  have ih:=small_loop hV hn n (i+1) (g ++ [.cells (opC ops[i])]) (by omega)
  have hlen:=(aV_bv ops[i].val).len
  have e1:∀ x,ext (ext h g) [x]=ext h (g ++ [x]):=fun x=>by simp [ext]
  have hz:getBox (ext h (g ++ [.cells [.int .i64 0,.int .i64 0,.nils]])) (size (ext h g))=some [.int .i64 0,.int .i64 0,.nils]:=by rw [←e1,getBox_ext_0];rfl
  have hs:setBx (ext h (g ++ [.cells [.int .i64 0,.int .i64 0,.nils]])) (size (ext h g)) (.cells (opC ops[i]))=ext h (g ++ [.cells (opC ops[i])]):=by
   rw [←e1,←e1,set_ext_ge (Nat.le_refl _)];simp
  have hst:storeV (size h) 3 (.ptr (size (ext h g)) 0) (.agg (opC ops[i])) (ext h (g ++ [.cells [.int .i64 0,.int .i64 0,.nils]]))=some (ext h (g ++ [.cells (opC ops[i])])):=by
   rw [storeV_ptr,hz,Option.bnd_some]
   have hsc:((PV.agg (opC ops[i])).cells).all scalar=true:=by simp [opC,PV.cells,aV_scalar];exact ⟨rfl,rfl⟩
   have hge:¬ (size (ext h g) < size h):=by rw [size_ext];omega
   rw [if_pos ⟨rfl,by simp,hsc,fun q=>absurd q hge⟩,if_neg hge]
   have:setRange [PV.int .i64 0,.int .i64 0,.nils] 0 (PV.agg (opC ops[i])).cells=opC ops[i]:=rfl
   rw [this,setBox,hs]
  have hld:loadV 1 false (.ptr (size (ext h g)) 2) (ext h (g ++ [.cells (opC ops[i])]))=some (aV ops[i].val):=by
   rw [loadV_ptr,←e1,getBox_ext_0];rfl
  have hd:ops.drop i=ops[i] :: ops.drop (i+1):=List.drop_eq_getElem_cons e0
  have h300:∀ x:Nat,decide ((x:Int) > 300)=!decide (x≤300):=by
   intro x
   by_cases hx:x≤300
   ·have:¬ ((x:Int) > 300):=by omega
    simp [hx,this]
   ·have:(x:Int) > 300:=by omega
    simp [hx,this]
  have hq:(binOp .lss (.int .i64 (i:Int)) (.int .i64 (ops.length:Int)))=some (.bool (decide ((i:Int) < (ops.length:Int)))):=rfl
  rw [P8_0_eq,hd,List.all_cons,hq,dec_lt,decide_eq_true e0,Option.bnd_some,condB_true,hix,Option.bnd_some,op_load,Option.bnd_some,allocK_eq,e1,hst]
  simp only [fieldAB_ptr,Option.bnd_some,Nat.zero_add,hld,hlen]
  by_cases h3:(vB ops[i].val).length≤300
  ·have d3:decide ((vB ops[i].val).length≤300)=true:=by simpa using h3
   simp (disch:=omega) only [h300,d3,wr_a1,ih,Bool.not_true,Bool.true_and,↓evD,evU,evL,evM,Nat.reduceAdd,Nat.reduceSub,Nat.reduceMul,Nat.reduceLeDiff,Nat.reduceLT,Nat.reduceEqDiff,Nat.reduceBEq,reduceIte,reduceCtorEq,Int.reduceBEq,Int.reduceEq,Int.reduceLT,Int.reduceLE,Int.reduceGT,Int.reduceGE,Int.reduceAdd,Int.reduceSub,Int.reduceNeg,Int.reduceBNe,ite_true,ite_false,if_true,if_false,implies_true,forall_const]
  ·have d3:decide ((vB ops[i].val).length≤300)=false:=by simpa using h3
   simp (disch:=omega) only [h300,d3,Bool.not_false,Bool.false_and,trunc_ext,↓evD,evU,evL,evM,Nat.reduceAdd,Nat.reduceSub,Nat.reduceMul,Nat.reduceLeDiff,Nat.reduceLT,Nat.reduceEqDiff,Nat.reduceBEq,reduceIte,reduceCtorEq,Int.reduceBEq,Int.reduceEq,Int.reduceLT,Int.reduceLE,Int.reduceGT,Int.reduceGE,Int.reduceAdd,Int.reduceSub,Int.reduceNeg,Int.reduceBNe,ite_true,ite_false,if_true,if_false,implies_true,forall_const]
theorem small_spec (base:Nat) {V:PV} {ops:List OpL} (hV:Lv opV 3 V ops) (hn:ops.length≤9223372036854775807):CallA T base 8 [V] h=some (.bool ((ops.all fun o=>decide ((vB o.val).length≤300)) && decide (ops.length≤40)),h):=by
 have hl:=small_loop (h:=h) hV hn ops.length 0 [] (by omega)
 simp only [show ((0:Nat):Int)=0 from rfl,List.drop_zero] at hl
 rw [show ext h []=h by simp [ext]] at hl
 rw [S8,hV.len,Option.bnd_some,hl]
end Go.Am.Ytlonabodghfjdaa
namespace Go.Am
set_option linter.unusedVariables false
def rowV (P:Program) (e:TypeId) (r:List PV):PV :=
 match P.underlying e with
 | some (.struct _)=>.agg r
 | _=>r.headD .undef
inductive Sh (P:Program):TypeId→List PV→Prop where
 | bool {t} (b:Bool) (ht:P.underlying t=some .bool):Sh P t [.bool b]
 | int {t} (k:IntKind) (n:Int) (ht:P.underlying t=some (.int k)) (hn:(Lit.int k n).wf=true):Sh P t [.int k n]
 | str {t} (l:List UInt8) (ht:P.underlying t=some .string) (hl:l.length≤reachBytes):Sh P t [.str l]
 | nils {t e} (ht:P.underlying t=some (.slice e)):Sh P t [.nils]
 | sl {t e} (rows:List (List PV)) (ht:P.underlying t=some (.slice e)) (hr:∀ r∈rows,Sh P e r) (hl:∀ r∈rows,r.length=P.cellsOf e) (hn:rows.length≤maxLen) (hb:rows.length * P.bytesOf e≤reachBytes):Sh P t [.sl .no (P.cellsOf e) (rows.map (rowV P e))]
 | struct {t} (fs:Array Field) (cs:List PV) (ht:P.underlying t=some (.struct fs)) (hn:cs.length=P.cellsOf t)
   (hf:∀ (i:Nat) (f:Field),fs[i]?=some f→Sh P f.type ((cs.drop f.offset).take (P.cellsOf f.type))):Sh P t cs
theorem Sh.row {P:Program} {e:TypeId} {r:List PV} (h:Sh P e r):(rowV P e r).cells=r:=by
 cases h with
 | bool b ht=>simp [rowV,ht,PV.cells]
 | int k n ht=>simp [rowV,ht,PV.cells]
 | str l ht=>simp [rowV,ht,PV.cells]
 | nils ht=>simp [rowV,ht,PV.cells]
 | sl rows ht=>simp [rowV,ht,PV.cells]
 | struct fs cs ht=>simp [rowV,ht,PV.cells]
def tiles (P:Program):Nat→List Field→Nat→Bool
 | off,[],tot=>off == tot
 | off,f :: r,tot=>f.offset == off && tiles P (off+P.cellsOf f.type) r tot
theorem tiles_le {P:Program}:∀ (fl:List Field) (off tot:Nat),tiles P off fl tot=true→off≤tot
 | [],off,tot,h=>by simp [tiles] at h;omega
 | f :: r,off,tot,h=>by
  simp only [tiles,Bool.and_eq_true] at h
  have:=tiles_le r _ _ h.2
  omega
def plainT (P:Program):Nat→TypeId→Bool
 | 0,_=>false
 | n+1,t=>match P.underlying t with
  | some .bool | some (.int _) | some .string=>true
  | some (.slice e)=>decide (0 < P.cellsOf e) && plainT P n e
  | some (.struct fs)=>tiles P 0 fs.toList (P.cellsOf t) && fs.toList.all fun f=>plainT P n f.type
  | _=>false
theorem exists_rows {α:Type} (Q:Nat→α→Prop):∀ n,(∀ i,i < n→∃ r,Q i r)→∃ rows:List α,rows.length=n∧∀ (i:Nat) r,rows[i]?=some r→Q i r
 | 0,_=>⟨[],rfl,fun i r h=>by simp at h⟩
 | n+1,h=>by
  obtain ⟨rows,h1,h2⟩:=exists_rows Q n (fun i hi=>h i (by omega))
  obtain ⟨r,hr⟩:=h n (by omega)
  refine ⟨rows ++ [r],by simp [h1],fun i r' hi=>?_⟩
  by_cases hin:i < n
  ·rw [List.getElem?_append_left (by omega)] at hi;exact h2 i r' hi
  ·have hlt:=(List.getElem?_eq_some_iff.1 hi).1
   simp at hlt
   have:i=n:=by omega
   subst this
   rw [List.getElem?_append_right (by omega),h1] at hi
   simp at hi
   subst hi
   exact hr
theorem cell_spot {w:World} {b o:Nat} {sp:Option Nat} {u:Value} (h:w.cell? ⟨b,o,sp⟩=some u):sp=none:=by
 unfold World.cell? at h
 split at h
 ·rename_i c _ _ hq
  cases sp with
  | none=>rfl
  | some s=>simp at h
 ·cases h
theorem weights_all {H:Type} {P:Program} {e:TypeId}:∀ {l:List (DataW H)} {d:DataW H},d∈l→∀ n∈d.weights P e,n∈DataW.weightsAll P e l
 | d0 :: l,d,hd,n,hn=>by
  simp only [DataW.weightsAll,List.mem_append]
  simp only [List.mem_cons] at hd
  rcases hd with rfl | hd
  ·exact .inl hn
  ·exact .inr (weights_all hd n hn)
theorem open_fields {P:Program} {cs:List Value} {R:PV→Value→Prop}:∀ (fl:List Field) (off:Nat),tiles P off fl cs.length=true →
  (∀ f∈fl,∃ v:List PV,v.length=((cs.drop f.offset).take (P.cellsOf f.type)).length∧(∀ (j:Nat) x,v[j]?=some x→∃ u,((cs.drop f.offset).take (P.cellsOf f.type))[j]?=some u∧R x u)∧Sh P f.type v) →
  ∃ vs:List PV,off+vs.length=cs.length∧(∀ (j:Nat) x,vs[j]?=some x→∃ u,cs[off+j]?=some u∧R x u)∧∀ f∈fl,off≤f.offset∧Sh P f.type ((vs.drop (f.offset - off)).take (P.cellsOf f.type))
 | [],off,ht,h=>by
  simp [tiles] at ht
  exact ⟨[],by simp [ht],fun j x hx=>by simp at hx,fun f hf=>by simp at hf⟩
 | f :: fl,off,ht,h=>by
  simp only [tiles,Bool.and_eq_true,beq_iff_eq] at ht
  obtain ⟨rfl,ht⟩:=ht
  have hle:=tiles_le _ _ _ ht
  obtain ⟨v,h1,h2,h3⟩:=h f (by simp)
  have hv:v.length=P.cellsOf f.type:=by rw [h1];simp;omega
  obtain ⟨vs,q1,q2,q3⟩:=open_fields fl _ ht (fun f' hf'=>h f' (by simp [hf']))
  refine ⟨v ++ vs,by simp;omega,fun j x hx=>?_,fun f' hf'=>?_⟩
  ·by_cases hj:j < v.length
   ·rw [List.getElem?_append_left hj] at hx
    obtain ⟨u,hu,hr⟩:=h2 j x hx
    refine ⟨u,?_,hr⟩
    rw [List.getElem?_take,if_pos (by omega),List.getElem?_drop] at hu
    exact hu
   ·rw [List.getElem?_append_right (by omega)] at hx
    obtain ⟨u,hu,hr⟩:=q2 _ x hx
    refine ⟨u,?_,hr⟩
    rw [←hu];congr 1;omega
  ·simp only [List.mem_cons] at hf'
   rcases hf' with rfl | hf'
   ·refine ⟨Nat.le_refl _,?_⟩
    rw [Nat.sub_self,List.drop_zero,List.take_append_of_le_length (by omega),←hv,List.take_length]
    exact h3
   ·obtain ⟨r1,r2⟩:=q3 f' hf'
    refine ⟨by omega,?_⟩
    rw [List.drop_append,List.drop_eq_nil_of_le (by omega),List.nil_append,show f'.offset - f.offset - v.length=f'.offset - (f.offset+P.cellsOf f.type) by omega]
    exact r2
theorem open_cells {H:Type} {enc:TypeId × Value→H} {P:Program} {w:World} {spare:Nat→Bool} {held:Bool} {g:G}:∀ (n m:Nat) (t:TypeId) (cs:List Value) (x:DataW H × List MemPlace),
  DataW.trod enc P w 0 spare held n t cs=some x→plainT P m t=true→(∀ k∈x.1.weights P t,k≤reachBytes) →
  ∃ vs:List PV,vs.length=cs.length∧(∀ (j:Nat) v,vs[j]?=some v→∃ u,cs[j]?=some u∧RV w.heap.size g w v u)∧Sh P t vs
 | 0,m,t,cs,x,h,hp,hwt=>by simp [DataW.trod] at h
 | n+1,0,t,cs,x,h,hp,hwt=>by simp [plainT] at hp
 | n+1,m+1,t,cs,x,h,hp,hwt=>by
  rw [plainT] at hp
  split at hp
  ·rename_i ht
   obtain ⟨b,rfl,_⟩:=DataW.trod_bool ht h
   refine ⟨[.bool b],rfl,fun j v hv=>?_,.bool b ht⟩
   cases j with
   | zero=>simp at hv;subst hv;exact ⟨_,rfl,.bool b⟩
   | succ j=>simp at hv
  ·rename_i k ht
   obtain ⟨z,rfl,_,hwf⟩:=DataW.trod_int ht h
   refine ⟨[.int k z],rfl,fun j v hv=>?_,.int k z ht hwf⟩
   cases j with
   | zero=>simp at hv;subst hv;exact ⟨_,rfl,.int k z⟩
   | succ j=>simp at hv
  ·rename_i ht
   obtain ⟨s,rfl,rfl,hs⟩:=DataW.trod_string ht h
   refine ⟨[.str s.data.toList],rfl,fun j v hv=>?_,.str _ ht (hwt _ (by simp [DataW.weights]))⟩
   cases j with
   | zero=>simp at hv;subst hv;exact ⟨_,rfl,.str _ s rfl⟩
   | succ j=>simp at hv
  ·rename_i e ht
   simp only [Bool.and_eq_true,decide_eq_true_eq] at hp
   rcases DataW.trod_slice ht h with ⟨rfl,_⟩ | ⟨a,len,cap,elems,rest,n',hn',rfl,rfl,_,hlc,hcm,hel,helems,_,_⟩
   ·refine ⟨[.nils],rfl,fun j v hv=>?_,.nils ht⟩
    cases j with
    | zero=>simp at hv;subst hv;exact ⟨_,rfl,.nils⟩
    | succ j=>simp at hv
   ·obtain rfl:n'=n:=by omega
    have hq:∀ i,i < len→∃ r:List PV,r.length=P.cellsOf e∧Sh P e r∧∀ (j:Nat) v,r[j]?=some v→∃ u,w.cell? ((a.add (i * P.cellsOf e)).add j)=some u∧RV w.heap.size g w v u:=by
     intro i hi
     have hlt:i < elems.length:=by omega
     have hei:=helems i hi
     rw [List.getElem?_eq_getElem hlt,Option.bind_eq_some_iff] at hei
     obtain ⟨ci,hci,hti⟩:=hei
     obtain ⟨_,hlen,hcell⟩:=World.cells?_some hci
     obtain ⟨r,h1,h2,h3⟩:=open_cells n' m e ci _ hti hp.2 (fun k hk=>hwt k (by
      simp only [DataW.weights,ht,List.mem_cons,List.mem_append]
      exact .inr (.inl (weights_all (List.mem_map.2 ⟨_,List.getElem_mem hlt,rfl⟩) k hk))))
     refine ⟨r,by rw [h1,hlen],h3,fun j v hv=>?_⟩
     obtain ⟨u,hu,hr⟩:=h2 j v hv
     have hj:j < P.cellsOf e:=by rw [←hlen,←h1];exact (List.getElem?_eq_some_iff.1 hv).1
     exact ⟨u,by rw [hcell j hj];exact hu,hr⟩
    obtain ⟨rows,hrl,hrq⟩:=exists_rows _ len hq
    have hmem:∀ r∈rows,∃ i,rows[i]?=some r:=fun r hr=>List.mem_iff_getElem?.1 hr
    have hcl:∀ (i j:Nat) (r:List PV) (v:PV),rows[i]?=some r→r[j]?=some v→∃ u,w.cell? ⟨a.block,a.off+(i * P.cellsOf e+j),none⟩=some u∧RV w.heap.size g w v u:=by
     intro i j r v hi hj
     obtain ⟨u,hu,hr⟩:=(hrq i r hi).2.2 j v hj
     refine ⟨u,?_,hr⟩
     have hsp:(a.add (i * P.cellsOf e)).add j=⟨a.block,a.off+(i * P.cellsOf e+j),((a.add (i * P.cellsOf e)).add j).spot⟩:=by
      unfold Addr.add
      split <;> split <;> simp_all <;> omega
     rw [hsp] at hu
     have:=cell_spot hu
     rw [this] at hu
     exact hu
    have hspot:rows≠[]→a.spot=none:=by
     intro hne
     obtain ⟨r,hr0⟩ : ∃ r,rows[0]?=some r:=by
      cases rows with
      | nil=>exact (hne rfl).elim
      | cons r _=>exact ⟨r,rfl⟩
     obtain ⟨q1,_,q3⟩:=hrq 0 r hr0
     obtain ⟨v,hv⟩ : ∃ v,r[0]?=some v:=⟨_,List.getElem?_eq_getElem (by omega)⟩
     obtain ⟨u,hu,_⟩:=q3 0 v hv
     simp only [Nat.zero_mul,Addr.add,if_true] at hu
     exact cell_spot (b:=a.block) (o:=a.off) hu
    refine ⟨[.sl .no (P.cellsOf e) (rows.map (rowV P e))],rfl,fun j v hv=>?_,.sl rows ht (fun r hr=>?_) (fun r hr=>?_) (by omega) ?_⟩
    ·cases j with
     | succ j=>simp at hv
     | zero =>
      simp at hv
      subst hv
      refine ⟨_,rfl,?_⟩
      have hrow:∀ (i:Nat) (z:PV),(rows.map (rowV P e))[i]?=some z→∃ r,rows[i]?=some r∧z.cells=r:=by
       intro i z hz
       rw [List.getElem?_map,Option.map_eq_some_iff] at hz
       obtain ⟨r,hr,rfl⟩:=hz
       exact ⟨r,hr,(hrq i r hr).2.1.row⟩
      have:=RV.sl (N0:=w.heap.size) (g:=g) (w:=w) .no (P.cellsOf e) (rows.map (rowV P e)) a.block a.off cap (fun i j=>(w.cell? ⟨a.block,a.off+(i * P.cellsOf e+j),none⟩).getD Go.undef)
       (by simp;omega) (by simp) ?_ ?_ ?_ ?_ a.spot (fun hne=>hspot (by simpa using hne)) (by simp)
      ·simpa [hrl] using this
      ·intro i z hz
       obtain ⟨r,hr,hc⟩:=hrow i z hz
       rw [hc];exact (hrq i r hr).1
      ·intro i j hi hj
       simp at hi
       obtain ⟨r,hr⟩ : ∃ r,rows[i]?=some r:=⟨_,List.getElem?_eq_getElem hi⟩
       obtain ⟨v,hv⟩ : ∃ v,r[j]?=some v:=⟨_,List.getElem?_eq_getElem (by rw [(hrq i r hr).1];exact hj)⟩
       obtain ⟨u,hu,_⟩:=hcl i j r v hr hv
       rw [hu];rfl
      ·intro i j z y hz hy
       obtain ⟨r,hr,hc⟩:=hrow i z hz
       rw [hc] at hy
       obtain ⟨u,hu,hru⟩:=hcl i j r y hr hy
       rw [hu];exact hru
      ·intro hne
       refine .inl ?_
       obtain ⟨r,hr0⟩ : ∃ r,rows[0]?=some r:=by
        cases rows with
        | nil=>exact (hne rfl).elim
        | cons r _=>exact ⟨r,rfl⟩
       obtain ⟨v,hv⟩ : ∃ v,r[0]?=some v:=⟨_,List.getElem?_eq_getElem (by rw [(hrq 0 r hr0).1];exact hp.1)⟩
       obtain ⟨u,hu,_⟩:=hcl 0 0 r v hr0 hv
       exact World.block_lt_of_cell? w ⟨a.block,_,none⟩ hu
    ·obtain ⟨i,hi⟩:=hmem r hr;exact (hrq i r hi).2.1
    ·obtain ⟨i,hi⟩:=hmem r hr;exact (hrq i r hi).1
    ·have:=hwt _ (by simp only [DataW.weights,ht];exact List.mem_cons_self)
     simp only [List.length_map] at this
     refine Nat.le_trans (Nat.mul_le_mul_right _ ?_) this
     omega
  ·rename_i fs ht
   simp only [Bool.and_eq_true,List.all_eq_true] at hp
   obtain ⟨xs,n',hn',rfl,hlen,hxl,hx⟩:=DataW.trod_struct ht h
   obtain rfl:n'=n:=by omega
   obtain ⟨vs,q1,q2,q3⟩:=open_fields (P:=P) (cs:=cs) (R:=fun v u=>RV w.heap.size g w v u) fs.toList 0 (by rw [hlen];exact hp.1) (fun f hf=>by
    obtain ⟨i,hi⟩:=List.mem_iff_getElem?.1 hf
    have hi':fs[i]?=some f:=by simpa using hi
    have hlt:i < xs.length:=by rw [hxl];exact (Array.getElem?_eq_some_iff.1 hi').1
    have:=hx i f hi'
    rw [List.getElem?_eq_getElem hlt] at this
    exact open_cells n' m f.type _ _ this (hp.2 f hf) fun k hk=>hwt k (by
     simp only [DataW.weights,ht]
     exact DataW.weights_mem_each (j:=i) (t:=f.type) (d:=xs[i].1) (by rw [List.getElem?_map,hi];rfl) (by rw [List.getElem?_map,List.getElem?_eq_getElem hlt];rfl) k hk))
   refine ⟨vs,by omega,fun j v hv=>by simpa using q2 j v hv,.struct fs vs ht (by omega) fun i f hf=>?_⟩
   have:=(q3 f (List.mem_iff_getElem?.2 ⟨i,by simpa using hf⟩)).2
   simpa using this
  ·cases hp
theorem open_arg {H:Type} {enc:TypeId × Value→H} {P:Program} {w:World} {spare:Nat→Bool} {held:Bool} {g:G} {t:TypeId} {v:Value} {d:DataW H} {ps:List MemPlace}
  (h:DataW.Trod enc P w 0 spare held t v d ps) (hv:v.cells.toList=[v]) (m:Nat) (hp:plainT P m t=true) (hwt:∀ k∈d.weights P t,k≤reachBytes):∃ x,RV w.heap.size g w x v∧Sh P t [x]:=by
 obtain ⟨fuel,h⟩:=h
 obtain ⟨vs,h1,h2,h3⟩:=open_cells (g:=g) fuel m t _ _ h hp hwt
 rw [hv] at h1 h2
 cases vs with
 | nil=>simp at h1
 | cons x r =>
  cases r with
  | cons y r=>simp at h1
  | nil =>
   obtain ⟨u,hu,hr⟩:=h2 0 x rfl
   simp at hu
   subst hu
   exact ⟨x,hr,h3⟩
section
variable {P:Program} {t:TypeId} {cs:List PV}
theorem Sh.inv_bool (ht:P.underlying t=some .bool) (h:Sh P t cs):∃ b,cs=[.bool b]:=by
 cases h with
 | bool b=>exact ⟨b,rfl⟩
 | int k n h=>rw [ht] at h;cases h
 | str l h=>rw [ht] at h;cases h
 | nils h=>rw [ht] at h;cases h
 | sl rows h=>rw [ht] at h;cases h
 | struct fs cs h=>rw [ht] at h;cases h
theorem Sh.inv_int {k:IntKind} (ht:P.underlying t=some (.int k)) (h:Sh P t cs):∃ n,cs=[.int k n]∧(Lit.int k n).wf=true:=by
 cases h with
 | bool b h=>rw [ht] at h;cases h
 | int k' n h hn=>rw [ht] at h;cases h;exact ⟨n,rfl,hn⟩
 | str l h=>rw [ht] at h;cases h
 | nils h=>rw [ht] at h;cases h
 | sl rows h=>rw [ht] at h;cases h
 | struct fs cs h=>rw [ht] at h;cases h
theorem Sh.inv_str (ht:P.underlying t=some .string) (h:Sh P t cs):∃ l,cs=[.str l]∧l.length≤reachBytes:=by
 cases h with
 | bool b h=>rw [ht] at h;cases h
 | int k n h=>rw [ht] at h;cases h
 | str l h hl=>exact ⟨l,rfl,hl⟩
 | nils h=>rw [ht] at h;cases h
 | sl rows h=>rw [ht] at h;cases h
 | struct fs cs h=>rw [ht] at h;cases h
theorem Sh.inv_slice {e:TypeId} (ht:P.underlying t=some (.slice e)) (h:Sh P t cs) :
  cs=[.nils]∨∃ rows:List (List PV),cs=[.sl .no (P.cellsOf e) (rows.map (rowV P e))]∧(∀ r∈rows,Sh P e r∧r.length=P.cellsOf e)∧rows.length≤maxLen∧rows.length * P.bytesOf e≤reachBytes:=by
 cases h with
 | bool b h=>rw [ht] at h;cases h
 | int k n h=>rw [ht] at h;cases h
 | str l h=>rw [ht] at h;cases h
 | nils h=>exact .inl rfl
 | sl rows h hr hl hn hb=>rw [ht] at h;cases h;exact .inr ⟨rows,rfl,fun r hm=>⟨hr r hm,hl r hm⟩,hn,hb⟩
 | struct fs cs h=>rw [ht] at h;cases h
theorem Sh.inv_struct {fs:Array Field} (ht:P.underlying t=some (.struct fs)) (h:Sh P t cs) :
  cs.length=P.cellsOf t∧∀ (i:Nat) (f:Field),fs[i]?=some f→Sh P f.type ((cs.drop f.offset).take (P.cellsOf f.type)):=by
 cases h with
 | bool b h=>rw [ht] at h;cases h
 | int k n h=>rw [ht] at h;cases h
 | str l h=>rw [ht] at h;cases h
 | nils h=>rw [ht] at h;cases h
 | sl rows h=>rw [ht] at h;cases h
 | struct fs' cs h hn hf=>rw [ht] at h;cases h;exact ⟨hn,hf⟩
theorem rowV_struct {fs:Array Field} (ht:P.underlying t=some (.struct fs)) (r:List PV):rowV P t r=.agg r:=by simp [rowV,ht]
theorem rowV_str (ht:P.underlying t=some .string) (r:List PV):rowV P t r=r.headD .undef:=by simp [rowV,ht]
theorem rowV_int {k:IntKind} (ht:P.underlying t=some (.int k)) (r:List PV):rowV P t r=r.headD .undef:=by simp [rowV,ht]
theorem exists_map {α β:Type} (f:α→β) (Q:α→Prop):∀ l:List β,(∀ x∈l,∃ a,x=f a∧Q a)→∃ qs:List α,l=qs.map f∧∀ a∈qs,Q a
 | [],_=>⟨[],rfl,fun a h=>by simp at h⟩
 | x :: l,h=>by
  obtain ⟨qs,rfl,h2⟩:=exists_map f Q l (fun y hy=>h y (by simp [hy]))
  obtain ⟨a,rfl,ha⟩:=h x (by simp)
  exact ⟨a :: qs,rfl,fun b hb=>by
   simp at hb
   rcases hb with rfl | hb
   ·exact ha
   ·exact h2 b hb⟩
end
end Go.Am
namespace Go.Am
set_option linter.unusedVariables false
theorem open_struct {H:Type} {enc:TypeId × Value→H} {P:Program} {w:World} {spare:Nat→Bool} {held:Bool} {g:G} {t:TypeId} {u:Array Value} {d:DataW H} {ps:List MemPlace}
  (h:DataW.Trod enc P w 0 spare held t (.agg u) d ps) (m:Nat) (hp:plainT P m t=true) (hwt:∀ k∈d.weights P t,k≤reachBytes):∃ x,RV w.heap.size g w (.agg x) (.agg u)∧Sh P t x:=by
 obtain ⟨fuel,h⟩:=h
 obtain ⟨vs,h1,h2,h3⟩:=open_cells (g:=g) fuel m t _ _ h hp hwt
 have hu:(Value.agg u).cells.toList=u.toList:=rfl
 rw [hu] at h1 h2
 refine ⟨vs,.agg vs u (by simpa using h1.symm) fun j x hx=>?_,h3⟩
 obtain ⟨y,hy,hr⟩:=h2 j x hx
 have:u.getD j Go.undef=y:=by
  rw [Array.getElem?_toList] at hy
  simp [Array.getD_eq_getD_getElem?,hy]
 rw [this];exact hr
theorem Sh.bytes {P:Program} {t e:TypeId} {x:PV} (ht:P.underlying t=some (.slice e)) (he:P.underlying e=some (.int .u8)) (hc:P.cellsOf e=1) (h:Sh P t [x]):∃ l,Bv x l∧l.length≤maxLen:=by
 rcases h.inv_slice ht with hq | ⟨rows,hq,hr,hn,hb⟩
 ·cases hq;exact ⟨[],.nils,by simp⟩
 ·cases hq
  obtain ⟨l,hl⟩ : ∃ l:List UInt8,rows.map (rowV P e)=u8s l∧l.length=rows.length:=by
   clear hn hb h
   induction rows with
   | nil=>exact ⟨[],rfl,rfl⟩
   | cons r rows ih =>
    obtain ⟨l,hl,hl2⟩:=ih fun q hq=>hr q (List.mem_cons_of_mem _ hq)
    obtain ⟨n,rfl,hw⟩:=(hr r (List.mem_cons_self ..)).1.inv_int he
    have hm:IntKind.u8.min=0:=rfl
    have hM:IntKind.u8.max=255:=rfl
    simp only [Lit.wf,hm,hM,Bool.and_eq_true,decide_eq_true_eq] at hw
    refine ⟨UInt8.ofNat n.toNat :: l,?_,by simp [hl2]⟩
    rw [List.map_cons,hl,rowV_int he]
    show _ :: _=PV.int .u8 ((UInt8.ofNat n.toNat).toNat:Int) :: u8s l
    have hv:((UInt8.ofNat n.toNat).toNat:Int)=n:=by rw [UInt8.toNat_ofNat'];omega
    rw [hv];rfl
  rw [hc,hl.1]
  exact ⟨l,.no l,by rw [hl.2];exact hn⟩
theorem len1_of {α:Type}:∀ {l:List α},l.length=1→∃ a,l=[a]
 | [a],_=>⟨a,rfl⟩
theorem len2_of {α:Type}:∀ {l:List α},l.length=2→∃ a b,l=[a,b]
 | [a,b],_=>⟨a,b,rfl⟩
theorem len3_of {α:Type}:∀ {l:List α},l.length=3→∃ a b c,l=[a,b,c]
 | [a,b,c],_=>⟨a,b,c,rfl⟩
theorem len4_of {α:Type}:∀ {l:List α},l.length=4→∃ a b c d,l=[a,b,c,d]
 | [a,b,c,d],_=>⟨a,b,c,d,rfl⟩
theorem len5_of {α:Type}:∀ {l:List α},l.length=5→∃ a b c d e,l=[a,b,c,d,e]
 | [a,b,c,d,e],_=>⟨a,b,c,d,e,rfl⟩
theorem len6_of {α:Type}:∀ {l:List α},l.length=6→∃ a b c d e f,l=[a,b,c,d,e,f]
 | [a,b,c,d,e,f],_=>⟨a,b,c,d,e,f,rfl⟩
end Go.Am
namespace Go.Am
set_option linter.unusedVariables false
theorem rowV_slice {P:Program} {t e:TypeId} (ht:P.underlying t=some (.slice e)) (r:List PV):rowV P t r=r.headD .undef:=by simp [rowV,ht]
theorem rowV_bool {P:Program} {t:TypeId} (ht:P.underlying t=some .bool) (r:List PV):rowV P t r=r.headD .undef:=by simp [rowV,ht]
theorem Sh.lst {α:Type} {P:Program} {t e:TypeId} {x:PV} {el:α→PV} {Q:α→Prop} (ht:P.underlying t=some (.slice e)) (hE:∀ r,Sh P e r→∃ a,rowV P e r=el a∧Q a) (h:Sh P t [x]) :
  ∃ l,Lv el (P.cellsOf e) x l∧l.length≤maxLen∧∀ a∈l,Q a:=by
 rcases h.inv_slice ht with hq | ⟨rows,hq,hr,hn,hb⟩
 ·cases hq;exact ⟨[],.nils,by simp,by simp⟩
 ·cases hq
  obtain ⟨l,hl,hl2,hl3⟩ : ∃ l:List α,rows.map (rowV P e)=l.map el∧l.length=rows.length∧∀ a∈l,Q a:=by
   clear hn hb h
   induction rows with
   | nil=>exact ⟨[],rfl,rfl,by simp⟩
   | cons r rows ih =>
    obtain ⟨l,hl,hl2,hl3⟩:=ih fun q hq=>hr q (List.mem_cons_of_mem _ hq)
    obtain ⟨a,ha,hQ⟩:=hE r (hr r (List.mem_cons_self ..)).1
    refine ⟨a :: l,?_,by simp [hl2],?_⟩
    ·rw [List.map_cons,hl,ha];rfl
    ·intro b hb
     rcases List.mem_cons.1 hb with rfl | hb
     ·exact hQ
     ·exact hl3 b hb
  rw [hl]
  exact ⟨l,.no l,by rw [hl2];exact hn,hl3⟩
def aB:Option (List UInt8)→PV
 | none=>.nils
 | some l=>.sl .no 1 (u8s l)
theorem Sh.bytesA {P:Program} {t e:TypeId} {x:PV} (ht:P.underlying t=some (.slice e)) (he:P.underlying e=some (.int .u8)) (hc:P.cellsOf e=1) (h:Sh P t [x]):∃ o,x=aB o:=by
 rcases h.inv_slice ht with hq | ⟨rows,hq,hr,hn,hb⟩
 ·cases hq;exact ⟨none,rfl⟩
 ·cases hq
  obtain ⟨l,hl⟩ : ∃ l:List UInt8,rows.map (rowV P e)=u8s l:=by
   clear hn hb h
   induction rows with
   | nil=>exact ⟨[],rfl⟩
   | cons r rows ih =>
    obtain ⟨l,hl⟩:=ih fun q hq=>hr q (List.mem_cons_of_mem _ hq)
    obtain ⟨n,rfl,hw⟩:=(hr r (List.mem_cons_self ..)).1.inv_int he
    have hm:IntKind.u8.min=0:=rfl
    have hM:IntKind.u8.max=255:=rfl
    simp only [Lit.wf,hm,hM,Bool.and_eq_true,decide_eq_true_eq] at hw
    refine ⟨UInt8.ofNat n.toNat :: l,?_⟩
    rw [List.map_cons,hl,rowV_int he]
    show _ :: _=PV.int .u8 ((UInt8.ofNat n.toNat).toNat:Int) :: u8s l
    have hv:((UInt8.ofNat n.toNat).toNat:Int)=n:=by rw [UInt8.toNat_ofNat'];omega
    rw [hv];rfl
  rw [hc,hl]
  exact ⟨some l,rfl⟩
end Go.Am
namespace Go.Am.Ytlonabodghfjdaa
open Go.RowKit (Below)
set_option linter.unusedSimpArgs false
set_option linter.unusedVariables false
open Go.Proofs
theorem gl_ok (N0:Nat) (w0:World):GlobOk gl N0 w0:=fun n cs h=>by simp [gl,glob] at h
theorem bytes_arg {x:PV} (h:Sh Try.prog 33 [x]):∃ o,x=aV o:=by
 obtain ⟨o,ho⟩:=h.bytesA Try.underlying33 Try.underlying5 (by kernel_rfl)
 exact ⟨o,by rw [ho];cases o <;> rfl⟩
theorem vals_arg {x:PV} (h:Sh Try.prog 47 [x]):∃ l,Lv aV 1 x l∧l.length≤maxLen:=by
 have hc:Try.prog.cellsOf 33=1:=by kernel_rfl
 obtain ⟨l,hl,hn,_⟩:=h.lst (el:=aV) (Q:=fun _=>True) Try.underlying47 (fun r hr=>by
  have hr':=hr
  rcases hr.inv_slice Try.underlying33 with rfl | ⟨rows,rfl,_⟩ <;> obtain ⟨o,ho⟩:=bytes_arg hr' <;> exact ⟨o,by rw [←ho];exact rowV_slice Try.underlying33 _,trivial⟩)
 rw [hc] at hl
 exact ⟨l,hl,hn⟩
theorem op_row {r:List PV} (h:Sh Try.prog 35 r):∃ o:OpL,rowV Try.prog 35 r=opV o∧True:=by
 obtain ⟨hl,hf⟩:=h.inv_struct Try.underlying35
 have c35:Try.prog.cellsOf 35=3:=by kernel_rfl
 have c3:Try.prog.cellsOf 3=1:=by kernel_rfl
 have c33:Try.prog.cellsOf 33=1:=by kernel_rfl
 rw [c35] at hl
 obtain ⟨x0,x1,x2,rfl⟩:=len3_of hl
 have f0:Sh Try.prog 3 (([x0,x1,x2].drop 0).take (Try.prog.cellsOf 3)):=hf 0 _ rfl
 have f1:Sh Try.prog 3 (([x0,x1,x2].drop 1).take (Try.prog.cellsOf 3)):=hf 1 _ rfl
 have f2:Sh Try.prog 33 (([x0,x1,x2].drop 2).take (Try.prog.cellsOf 33)):=hf 2 _ rfl
 rw [c3] at f0 f1
 rw [c33] at f2
 obtain ⟨a,e0,_⟩:=Sh.inv_int Try.underlying3 f0
 obtain ⟨b,e1,_⟩:=Sh.inv_int Try.underlying3 f1
 obtain ⟨c,e2⟩:=bytes_arg f2
 simp only [List.drop_succ_cons,List.drop_zero,List.take_succ_cons,List.take_zero] at e0 e1 e2
 cases e0;cases e1;subst e2
 exact ⟨⟨a,b,c⟩,rowV_struct Try.underlying35 _,trivial⟩
theorem ops_arg {x:PV} (h:Sh Try.prog 22 [x]):∃ l,Lv opV 3 x l∧l.length≤maxLen:=by
 have hc:Try.prog.cellsOf 35=3:=by kernel_rfl
 obtain ⟨l,hl,hn,_⟩:=h.lst (el:=opV) (Q:=fun _=>True) Try.underlying22 (fun r hr=>op_row hr)
 rw [hc] at hl
 exact ⟨l,hl,hn⟩
end Go.Am.Ytlonabodghfjdaa
namespace Go.Am.Ytlonabodghfjdaa
set_option maxRecDepth 100000
set_option linter.unusedSimpArgs false
set_option linter.unusedVariables false
set_option linter.unusedSectionVars false
variable {p:FP} {F:Fl} {jb qa qb:Nat} {sz m:Nat} {J:Jn} {vs:Vs}
theorem box_keep {hh:Hp} (hj:JOk hh p jb qa qb) {B:List PV} {l:Hp} {F:Fl} {cs:List PV}:getBox (putJ (ext (ext hh [.cells B]) l) p F jb cs) (size hh)=some B:=by
 obtain ⟨n1,n2,n3,n4⟩:=hj.new
 rw [putJ,getBox_putF (((hj.ext _).ext _).fs cs) n1 n2 n3,getBox_set_ne (Ne.symm n4),getBox_ext_lt (by rw [size_ext];simp),getBox_ext_0]
 rfl
theorem setV_need {F':Fl}:True:=trivial
structure Go1 (hh:Hp) (p:FP) (F:Fl) (jb qa qb sz m:Nat) (J:Jn) (vs:Vs) (n:Nat):Prop where
 js:JS hh p F jb qa qb sz m J vs
 ji:JI F J sz
 ep:J.epoch.toNat≤n
theorem Go1.ext {hh:Hp} {n:Nat} (h:Go1 hh p F jb qa qb sz m J vs n) (l:Hp):Go1 (Go.Am.ext hh l) p F jb qa qb sz m J vs n:=⟨h.js.ext l,h.ji,h.ep⟩
theorem ep_ne {e:BitVec 32} {n:Nat} (h:e.toNat≤n) (hn:n≤1000):e≠4294967295#32:=by
 intro hq;rw [hq] at h;have:(4294967295#32).toNat=4294967295:=rfl;omega
theorem ep_add {e:BitVec 32} {n:Nat} (h:e.toNat≤n) (hn:n≤1000):(e+1#32).toNat≤n+1:=by
 rw [BitVec.toNat_add]
 have:(1#32).toNat=1:=rfl
 omega
theorem put_go {hh:Hp} {n:Nat} (h:Go1 hh p F jb qa qb sz m J vs n) (hn:n≤1000) {k:Nat} {v:Option (List UInt8)} (hk:k < 32) (hl:(vB v).length≤250) (hfull:needV (setV vs k v)≤sz) {b:List UInt8} (hb:b.length=(vB v).length+6) :
  ∃ F' J',F.writeJ sz J b (setV vs k v)=(0,F',some J')∧Go1 (Go.Am.ext hh [.map (ents (setV vs k v))]) p F' jb qa qb sz (size hh) J' (setV vs k v) (n+1) ∧
   (if sz - J.fin < (vB v).length+7 then J'.fin=needV (setV vs k v)∧J'.epoch=J.epoch+1#32 else J'.fin=J.fin+((vB v).length+7)∧J'.epoch=J.epoch):=by
 obtain ⟨F',J',w1,w2,w3,w4,w5,w6,w7⟩:=write_nc h.js.fl h.js.now h.js.fin h.ji (b:=b) (h.js.keyed.setV k v) hfull (ep_ne h.ep hn)
 obtain ⟨n1,n2,n3,n4⟩:=h.js.ok.new
 rw [hb,show (vB v).length+6+1=(vB v).length+7 by omega] at w7
 refine ⟨F',J',w1,⟨⟨h.js.ok.ext _,(map_new (F:=F) h.js.ok [] _).1,⟨n1,n2,n3⟩,n4,h.js.small.setV h.js.keyed hk hl,h.js.keyed.setV k v,w2,w5,w6⟩,w4,?_⟩,w7⟩
 split at w7
 ·rw [w7.2];exact ep_add h.ep hn
 ·rw [w7.2];have:=h.ep;omega
theorem moves_step {ops:List OpL} {V:PV} (hV:Lv opV 3 V ops) {i:Nat} (hi:i < ops.length) (hl300:(vB ops[i].val).length≤300) (n0:Nat) {hh:Hp} {n:Nat} (h:Go1 hh p F jb qa qb sz m J vs n) (hn:n≤1000) (hlen:ops.length≤1000) :
  ∃ hh' F' J' m' vs',Go1 hh' p F' jb qa qb sz m' J' vs' (n+1) ∧
   P3_0 0 n0 (.int .i64 (i:Int)) (.ptr jb 0) (.ptr qa 0) V (.int .i64 (ops.length:Int)) (putJ hh p F jb (jC qa qb sz J m)) =
   P3_0 0 n0 (.int .i64 ((i+1:Nat):Int)) (.ptr jb 0) (.ptr qa 0) V (.int .i64 (ops.length:Int)) (putJ hh' p F' jb (jC qa qb sz J' m')):=by
 have hs2:=h.js.fl.small
 have hsz:=h.js.fl.sz
 have hix:=ops_ix hV i hi
 generalize ops[i]=o at *
 have zb:getBox (putJ (ext hh [.cells [.int .i64 0,.int .i64 0,.nils]]) p F jb (jC qa qb sz J m)) (size hh)=some [.int .i64 0,.int .i64 0,.nils]:=get_new h.js.ok _ _
 have hst:=op_store o zb rfl
 rw [set_new h.js.ok] at hst
 have exz:=ext_putJ (F:=F) h.js.ok (jC qa qb sz J m) [.cells [.int .i64 0,.int .i64 0,.nils]]
 have szh:=size_putJ (F:=F) h.js.ok (jC qa qb sz J m)
 have h1:=h.ext [.cells (opC o)]
 obtain ⟨v,g,g1,g2,_⟩:=get_spec (F:=F) h1.js 0 o.key
 have h2:=h1.ext g
 have ob1:∀ F cs,getBox (putJ (ext hh [.cells (opC o)]) p F jb cs) (size hh)=some (opC o):=fun F cs=>get_new h.js.ok _ _
 have ob2:∀ F cs,getBox (putJ (ext (ext hh [.cells (opC o)]) g) p F jb cs) (size hh)=some (opC o):=fun F cs=>box_keep h.js.ok
 have ob3:∀ x F cs,getBox (putJ (ext (ext (ext hh [.cells (opC o)]) g) [x]) p F jb cs) (size hh)=some (opC o):=fun x F cs=>by
  have e:ext (ext (ext hh [.cells (opC o)]) g) [x]=ext (ext hh [.cells (opC o)]) (g ++ [x]):=by simp [ext]
  rw [e];exact box_keep h.js.ok
 have hlk:binOp .lss (.int .i64 (i:Int)) (.int .i64 (ops.length:Int))=some (.bool true):=by
  show some (PV.bool (decide ((i:Int) < (ops.length:Int))))=_
  rw [decide_eq_true (by omega)]
 generalize ext hh [.cells (opC o)]=hh1 at *
 generalize ext hh1 g=hh2 at *
 have r1:=room_spec (F:=F) h1.js.ok 0 (m:=m) (J:=J) h.js.fin (by omega)
 have e1:=epoch_spec (F:=F) h1.js.ok 0 (m:=m) (sz:=sz) (J:=J)
 have r2:=room_spec (F:=F) h2.js.ok 0 (m:=m) (J:=J) h.js.fin (by omega)
 have e2:=epoch_spec (F:=F) h2.js.ok 0 (m:=m) (sz:=sz) (J:=J)
 have o0:(opC o)[0]?=some (.int .i64 o.kind):=rfl
 have o1:(opC o)[1]?=some (.int .i64 o.key):=rfl
 have o2:(opC o)[2]?=some (aV o.val):=rfl
 have nu:∀ a b,binOp .neq (uV a) (uV b)=some (.bool (a != b)):=neq32
 have pre:P3_0 0 n0 (.int .i64 (i:Int)) (.ptr jb 0) (.ptr qa 0) V (.int .i64 (ops.length:Int)) (putJ hh p F jb (jC qa qb sz J m))=_:=P3_0_eq 0 n0 _ _ _ _ _ _
 rw [hlk,Option.bnd_some,condB_true,hix,Option.bnd_some,op_load,Option.bnd_some,allocK_eq,exz,szh,hst,Option.bnd_some,r1,bnd2_some,e1,bnd2_some] at pre
 have hwi:IntKind.i64.wrap ((i:Int)+1)=((i+1:Nat):Int):=wr_a1 i (by omega)
 -- what is no 'Put'
 by_cases ck:o.kind≠0∧o.kind≠1
 ·have d0:(o.kind != 0)=true:=by simpa using ck.1
  have d1:(o.kind != 1)=true:=by simpa using ck.2
  refine ⟨hh2,F,J,m,vs,⟨h2.js,h2.ji,by have:=h2.ep;omega⟩,?_⟩
  rw [pre]
  simp only [ob1,ob2,o0,o1,o2,g1,d0,d1,hwi,↓evD,evU,evL,evM,Nat.reduceAdd,Nat.reduceSub,Nat.reduceMul,Nat.reduceLeDiff,Nat.reduceLT,Nat.reduceEqDiff,Nat.reduceBEq,reduceIte,reduceCtorEq,Int.reduceBEq,Int.reduceEq,Int.reduceLT,Int.reduceLE,Int.reduceGT,Int.reduceGE,Int.reduceAdd,Int.reduceSub,Int.reduceNeg,Int.reduceBNe,ite_true,ite_false,if_true,if_false,implies_true,forall_const]
 have dd:((o.kind != 0)=false∧(o.kind != 1)=true)∨((o.kind != 0)=true∧(o.kind != 1)=false):=by
  by_cases hk:o.kind=0
  ·left;rw [hk];decide
  ·right
   have hk1:o.kind=1:=Decidable.byContradiction fun q=>ck ⟨hk,q⟩
   rw [hk1];decide
 have hvl:=(aV_bv o.val).len
 have bs:∀ (a:Int),(a != a)=false:=fun a=>by simp
 have bu:∀ (a:BitVec 32),(a != a)=false:=fun a=>by simp
 by_cases hf:faultN F o.key (vB o.val).length≠0
 ·have hp:=put_fault (F:=F) h2.js 0 o.key hvl hf
  have d2:((faultN F o.key (vB o.val).length:Int) != 0)=true:=by simpa using hf
  refine ⟨hh2,F,J,m,vs,⟨h2.js,h2.ji,by have:=h2.ep;omega⟩,?_⟩
  rw [pre]
  rcases dd with ⟨d0,d1⟩ | ⟨d0,d1⟩ <;> simp only [ob1,ob2,o0,o1,o2,g1,d0,d1,hp,d2,r2,e2,nu,bs,bu,hwi,↓evD,evU,evL,evM,Nat.reduceAdd,Nat.reduceSub,Nat.reduceMul,Nat.reduceLeDiff,Nat.reduceLT,Nat.reduceEqDiff,Nat.reduceBEq,reduceIte,reduceCtorEq,Int.reduceBEq,Int.reduceEq,Int.reduceLT,Int.reduceLE,Int.reduceGT,Int.reduceGE,Int.reduceAdd,Int.reduceSub,Int.reduceNeg,Int.reduceBNe,ite_true,ite_false,if_true,if_false,implies_true,forall_const]
 have hf0:faultN F o.key (vB o.val).length=0:=by omega
 have hk32:0≤o.key∧o.key < 32∧(vB o.val).length≤250:=by
  unfold faultN at hf0
  split at hf0
  ·omega
  ·split at hf0
   ·omega
   ·split at hf0 <;> omega
 have hrd2:=fun H=>(aV_bv o.val).rd (h:=H) (aV_nn o.val)
 have wl7:IntKind.i64.wrap (((vB o.val).length:Int)+7)=(((vB o.val).length+7:Nat):Int):=wr_a7 _ (by omega)
 by_cases hsame:∃ u,getV vs o.key=some u∧vB u=vB o.val
 ·obtain ⟨u,hu1,hu2⟩:=hsame
  have hp:=put_same (F:=F) h2.js 0 o.key (hrd2 _) hf0 hu1 hu2
  have hsm:=same_spec 0 (g2.rd h2.js.ok (F:=F) (jC qa qb sz J m)) (hrd2 _) (by rw [hu1];simp only [Option.getD_some];rw [hu2];omega)
  rw [hu1] at hsm g1
  simp only [Option.getD_some,hu2,beq_self_eq_true,Option.isSome_some] at hsm g1
  refine ⟨hh2,F,J,m,vs,⟨h2.js,h2.ji,by have:=h2.ep;omega⟩,?_⟩
  rw [pre]
  rcases dd with ⟨d0,d1⟩ | ⟨d0,d1⟩ <;> simp only [ob1,ob2,o0,o1,o2,g1,d0,d1,hp,hvl,wl7,hsm,r2,e2,nu,bs,bu,hwi,↓evD,evU,evL,evM,Nat.reduceAdd,Nat.reduceSub,Nat.reduceMul,Nat.reduceLeDiff,Nat.reduceLT,Nat.reduceEqDiff,Nat.reduceBEq,reduceIte,reduceCtorEq,Int.reduceBEq,Int.reduceEq,Int.reduceLT,Int.reduceLE,Int.reduceGT,Int.reduceGE,Int.reduceAdd,Int.reduceSub,Int.reduceNeg,Int.reduceBNe,ite_true,ite_false,if_true,if_false,implies_true,forall_const]
 obtain ⟨k,hk⟩ : ∃ k:Nat,o.key=k:=⟨o.key.toNat,by omega⟩
 have hnew:∀ u,getV vs k=some u→vB u≠vB o.val:=fun u hu hc=>hsame ⟨u,by rw [hk];exact hu,hc⟩
 have hp:=put_new (F:=F) h2.js (Nat.zero_le _) (k:=k) (aV_bv o.val) (aV_nn o.val) (by rw [←hk];exact hf0) hnew
 rw [←hk] at hp
 have hcl:vB (cl (aV o.val) (vB o.val))=vB o.val:=cl_B (aV_bv o.val)
 generalize hw:cl (aV o.val) (vB o.val)=w at *
 by_cases hfull:sz < needV (setV vs k w)
 ·rw [hk] at hp
  rw [write_full hfull] at hp
  rw [←hk] at hp
  have h3:=h2.ext [.map (ents (setV vs k w))]
  have r3:=room_spec (F:=F) h3.js.ok 0 (m:=m) (J:=J) h.js.fin (by omega)
  have e3:=epoch_spec (F:=F) h3.js.ok 0 (m:=m) (sz:=sz) (J:=J)
  have ob3':=ob3 (.map (ents (setV vs k w)))
  refine ⟨_,F,J,m,vs,⟨h3.js,h3.ji,by have:=h3.ep;omega⟩,?_⟩
  generalize ext hh2 [.map (ents (setV vs k w))]=hh3 at *
  rw [pre]
  rcases dd with ⟨d0,d1⟩ | ⟨d0,d1⟩ <;> simp only [ob1,ob2,ob3',o0,o1,o2,g1,d0,d1,hp,r3,e3,nu,bs,bu,hwi,show ((6:Nat):Int)=6 from rfl,↓evD,evU,evL,evM,Nat.reduceAdd,Nat.reduceSub,Nat.reduceMul,Nat.reduceLeDiff,Nat.reduceLT,Nat.reduceEqDiff,Nat.reduceBEq,reduceIte,reduceCtorEq,Int.reduceBEq,Int.reduceEq,Int.reduceLT,Int.reduceLE,Int.reduceGT,Int.reduceGE,Int.reduceAdd,Int.reduceSub,Int.reduceNeg,Int.reduceBNe,ite_true,ite_false,if_true,if_false,implies_true,forall_const]
 obtain ⟨F',J',w1,w2,w3⟩:=put_go h2 hn (k:=k) (v:=w) (b:=bodyL (UInt8.ofNat k) (vB o.val) false) (by omega) (by rw [hcl];exact hk32.2.2) (by omega) (by rw [bodyL_length,hcl])
 rw [hk] at hp
 rw [w1] at hp
 rw [←hk] at hp
 simp only at hp
 rw [hcl] at w3
 have hfin':=w2.js.fin
 have r3:=room_spec (F:=F') w2.js.ok 0 (m:=size hh2) (J:=J') w2.js.fin (by omega)
 have e3:=epoch_spec (F:=F') w2.js.ok 0 (m:=size hh2) (sz:=sz) (J:=J')
 have ob3':=ob3 (.map (ents (setV vs k w)))
 have hsm:∀ u,getV vs o.key=some u→CallA T 0 15 [v,aV o.val] (putJ (ext hh2 [.map (ents (setV vs k w))]) p F' jb (jC qa qb sz J' (size hh2)))=some (.bool false,putJ (ext hh2 [.map (ents (setV vs k w))]) p F' jb (jC qa qb sz J' (size hh2))):=fun u hu=>by
  have hle:(vB u).length≤250:=by
   have hm:∀ (ws:Vs),(∀ e∈ws,(vB e.2).length≤250)→getV ws o.key=some u→(vB u).length≤250:=by
    intro ws hw2 hg
    induction ws with
    | nil=>simp [getV] at hg
    | cons e r ih =>
     simp only [getV] at hg
     split at hg
     ·cases hg;exact hw2 e (by simp)
     ·exact ih (fun e he=>hw2 e (by simp [he])) hg
   exact hm vs (fun e he=>(h.js.small.2 e he).2) hu
  have:=same_spec 0 ((g2.ext [.map (ents (setV vs k w))]).rd w2.js.ok (F:=F') (jC qa qb sz J' (size hh2))) (hrd2 _) (by rw [hu];simp only [Option.getD_some];omega)
  rw [hu] at this
  simp only [Option.getD_some] at this
  have hne:(vB u == vB o.val)=false:=by rw [beq_eq_false_iff_ne];exact hnew u (by rw [←hk];exact hu)
  rw [hne] at this
  exact this
 have hsz3:=w2.js.fl.sz
 have hsm3:=w2.js.fl.small
 have ps:CallA T 0 16 [.ptr qa 0] (putJ (ext hh2 [.map (ents (setV vs k w))]) p F' jb (jC qa qb sz J' (size hh2)))=some (.int .i64 (sz:Int),putJ (ext hh2 [.map (ents (setV vs k w))]) p F' jb (jC qa qb sz J' (size hh2))):=by
  have:=psize_spec (F:=F') (w2.js.ok.fs (jC qa qb sz J' (size hh2))) (w2.js.ok.qa' _) 0 (by omega)
  rw [←hsz3] at this
  exact this
 have pp:=pairs_spec (F:=F') w2.js 0
 have nn:=need17_spec (h:=putJ (ext hh2 [.map (ents (setV vs k w))]) p F' jb (jC qa qb sz J' (size hh2))) 0 w2.js.small w2.js.keyed
 have hge:=sum_ge (setV vs k w)
 have adq:=ad32
 refine ⟨_,F',J',size hh2,setV vs k w,w2,?_⟩
 generalize ext hh2 [.map (ents (setV vs k w))]=hh3 at *
 rw [pre]
 by_cases hfit:sz - J.fin < (vB o.val).length+7
 ·rw [if_pos hfit] at w3
  have d5:decide ((vB o.val).length+7≤sz - J.fin)=false:=by simp;omega
  have hws:IntKind.i64.wrap ((sz:Int) - ((needV (setV vs k w):Nat):Int))=((sz - needV (setV vs k w):Nat):Int):=wr_sub _ _ (by omega) (by omega)
  rw [w3.1] at r3
  rw [w3.2] at e3
  cases hgv:getV vs o.key with
  | none =>
   rw [hgv] at g1
   simp only [Option.isSome_none] at g1
   rcases dd with ⟨d0,d1⟩ | ⟨d0,d1⟩ <;> simp only [ob1,ob2,ob3',o0,o1,o2,g1,d0,d1,hp,hvl,wl7,dec_le,d5,r3,e3,adq,nu,bs,bu,ps,pp,nn,hws,hwi,show ((0:Nat):Int)=0 from rfl,↓evD,evU,evL,evM,Nat.reduceAdd,Nat.reduceSub,Nat.reduceMul,Nat.reduceLeDiff,Nat.reduceLT,Nat.reduceEqDiff,Nat.reduceBEq,reduceIte,reduceCtorEq,Int.reduceBEq,Int.reduceEq,Int.reduceLT,Int.reduceLE,Int.reduceGT,Int.reduceGE,Int.reduceAdd,Int.reduceSub,Int.reduceNeg,Int.reduceBNe,ite_true,ite_false,if_true,if_false,implies_true,forall_const]
  | some u =>
   rw [hgv] at g1
   simp only [Option.isSome_some] at g1
   have hsu:=hsm u hgv
   rcases dd with ⟨d0,d1⟩ | ⟨d0,d1⟩ <;> simp only [ob1,ob2,ob3',o0,o1,o2,g1,d0,d1,hp,hvl,wl7,hsu,dec_le,d5,r3,e3,adq,nu,bs,bu,ps,pp,nn,hws,hwi,show ((0:Nat):Int)=0 from rfl,↓evD,evU,evL,evM,Nat.reduceAdd,Nat.reduceSub,Nat.reduceMul,Nat.reduceLeDiff,Nat.reduceLT,Nat.reduceEqDiff,Nat.reduceBEq,reduceIte,reduceCtorEq,Int.reduceBEq,Int.reduceEq,Int.reduceLT,Int.reduceLE,Int.reduceGT,Int.reduceGE,Int.reduceAdd,Int.reduceSub,Int.reduceNeg,Int.reduceBNe,ite_true,ite_false,if_true,if_false,implies_true,forall_const]
 ·rw [if_neg hfit] at w3
  have d5:decide ((vB o.val).length+7≤sz - J.fin)=true:=by simp;omega
  have hws:IntKind.i64.wrap (((sz - J.fin:Nat):Int) - (((vB o.val).length+7:Nat):Int))=((sz - J'.fin:Nat):Int):=by
   rw [wr_sub _ _ (by omega) (by omega),w3.1];congr 1;omega
  rw [w3.2] at e3
  cases hgv:getV vs o.key with
  | none =>
   rw [hgv] at g1
   simp only [Option.isSome_none] at g1
   rcases dd with ⟨d0,d1⟩ | ⟨d0,d1⟩ <;> simp only [ob1,ob2,ob3',o0,o1,o2,g1,d0,d1,hp,hvl,wl7,dec_le,d5,r3,e3,nu,bs,bu,hws,hwi,show ((0:Nat):Int)=0 from rfl,↓evD,evU,evL,evM,Nat.reduceAdd,Nat.reduceSub,Nat.reduceMul,Nat.reduceLeDiff,Nat.reduceLT,Nat.reduceEqDiff,Nat.reduceBEq,reduceIte,reduceCtorEq,Int.reduceBEq,Int.reduceEq,Int.reduceLT,Int.reduceLE,Int.reduceGT,Int.reduceGE,Int.reduceAdd,Int.reduceSub,Int.reduceNeg,Int.reduceBNe,ite_true,ite_false,if_true,if_false,implies_true,forall_const]
  | some u =>
   rw [hgv] at g1
   simp only [Option.isSome_some] at g1
   have hsu:=hsm u hgv
   rcases dd with ⟨d0,d1⟩ | ⟨d0,d1⟩ <;> simp only [ob1,ob2,ob3',o0,o1,o2,g1,d0,d1,hp,hvl,wl7,hsu,dec_le,d5,r3,e3,nu,bs,bu,hws,hwi,show ((0:Nat):Int)=0 from rfl,↓evD,evU,evL,evM,Nat.reduceAdd,Nat.reduceSub,Nat.reduceMul,Nat.reduceLeDiff,Nat.reduceLT,Nat.reduceEqDiff,Nat.reduceBEq,reduceIte,reduceCtorEq,Int.reduceBEq,Int.reduceEq,Int.reduceLT,Int.reduceLE,Int.reduceGT,Int.reduceGE,Int.reduceAdd,Int.reduceSub,Int.reduceNeg,Int.reduceBNe,ite_true,ite_false,if_true,if_false,implies_true,forall_const]
end Go.Am.Ytlonabodghfjdaa
namespace Go.Am.Ytlonabodghfjdaa
set_option maxRecDepth 1000000
theorem alive_run:call T 600 0 7 [] []=some (.bool true,[]):=by kernel_rfl
theorem alive_spec:CallA T 0 7 [] []=some (.bool true,[]):=CallA_iff.2 ⟨600,alive_run⟩
end Go.Am.Ytlonabodghfjdaa
namespace Go.Am.Ytlonabodghfjdaa
set_option maxRecDepth 100000
set_option linter.unusedSimpArgs false
set_option linter.unusedVariables false
set_option linter.unusedSectionVars false
theorem fin0 (v:PV) (hv:frz 0 [] v=some v∨True) (b:Bool) (H:Hp):finV false false 0 [.bool b] H=some (.bool b,[]):=by
 rw [finV_code];simp only [frzs,frz_bool,Option.bnd_some]
 rw [if_pos (by rfl)]
 rfl
theorem moves_loop {ops:List OpL} {V:PV} (hV:Lv opV 3 V ops) (hl:∀ o∈ops,(vB o.val).length≤300) (hlen:ops.length≤40):∀ (n i:Nat) {p:FP} {F:Fl} {jb qa qb sz m:Nat} {J:Jn} {vs:Vs} {hh:Hp},
  i+n=ops.length→Go1 hh p F jb qa qb sz m J vs (i+1)→P3_0 0 0 (.int .i64 (i:Int)) (.ptr jb 0) (.ptr qa 0) V (.int .i64 (ops.length:Int)) (putJ hh p F jb (jC qa qb sz J m))=some (.bool true,[])
 | 0,i,p,F,jb,qa,qb,sz,m,J,vs,hh,hi,hg=>by
  have hlk:binOp .lss (.int .i64 (i:Int)) (.int .i64 (ops.length:Int))=some (.bool false):=by
   show some (PV.bool (decide ((i:Int) < (ops.length:Int))))=_
   rw [decide_eq_false (by omega)]
  rw [P3_0_eq,hlk,Option.bnd_some,condB_false,fin0 .nils (.inr trivial)]
 | n+1,i,p,F,jb,qa,qb,sz,m,J,vs,hh,hi,hg=>by
  obtain ⟨hh',F',J',m',vs',g1,g2⟩:=moves_step hV (i:=i) (by omega) (hl _ (List.getElem_mem (by omega))) 0 hg (by omega) (by omega)
  rw [g2]
  exact moves_loop hV hl hlen n (i+1) (by omega) g1
theorem po0 (s:Nat):PO (ext [] (boxes0 s 0)) (fp0 0) 3 4:=⟨FOk.new0 [] s _ (by simp [boxes0]),⟨rfl,by simp [fp0],by simp [fp0],by simp [fp0]⟩,⟨rfl,by simp [fp0],by simp [fp0],by simp [fp0]⟩⟩
theorem open_new (z:Int):∃ g F' jcs m,CallA T 0 10 [.ptr 3 0,.ptr 4 0] (ext [] (boxes0 (secN z) 0))=some (.tup [.ptr 5 0,.int .i64 0],putJ (ext (ext [] (boxes0 (secN z) 0)) g) (fp0 0) F' 5 jcs) ∧
  jcs=jC 3 4 (2 * secN z) ⟨0,8,1#32⟩ m∧Go1 (ext (ext [] (boxes0 (secN z) 0)) g) (fp0 0) F' 5 3 4 (2 * secN z) m ⟨0,8,1#32⟩ [] 1∧F'.sector=secN z:=by
 obtain ⟨s1,s2⟩:=secN_in z
 have hF:=fq0 s1 s2
 obtain ⟨F',o1,o2,o3,o4⟩:=open0 s1 s2
 obtain ⟨g,cs,k1,k2⟩:=open_spec_all (F:=fl0 (secN z)) (po0 (secN z)) hF (base:=0) (Nat.zero_le _)
 rw [o1] at k1 k2
 simp only at k1 k2
 obtain ⟨m,m1,m2⟩:=k2 ⟨0,8,1#32⟩ [] rfl
 have hself:ext [] (boxes0 (secN z) 0)=putF (ext [] (boxes0 (secN z) 0)) (fp0 0) (fl0 (secN z)):=fresh_putF [] (secN z) [.cells [.ptr (0+2) 0,.int .i64 0,.int .i64 2],.cells [.ptr (0+2) 0,.int .i64 2,.int .i64 2]]
 rw [←hself] at k1
 exact ⟨g,F',cs,m,k1,m2,⟨m1,o4,by decide⟩,o3⟩
theorem moves_true (z:Int) {ops:List OpL} {V:PV} (hV:Lv opV 3 V ops) (hn:ops.length≤9223372036854775807):CallA T 0 3 [.int .i64 z,V] []=some (.bool true,[]):=by
 have ha:CallA T 0 7 [] []=some (.bool true,[]):=alive_spec
 have hsm:=small_spec (h:=[]) 0 hV hn
 have z0:size ([] : Hp)=0:=rfl
 have fn:=fun b H=>fin0 .nils (.inr trivial) b H
 rw [S3,z0]
 by_cases h1:z > 128
 ·have d1:decide (z > 128)=true:=by simpa using h1
  simp only [ha,d1,↓evD,evU,evL,evM,Nat.reduceAdd,Nat.reduceSub,Nat.reduceMul,Nat.reduceLeDiff,Nat.reduceLT,Nat.reduceEqDiff,Nat.reduceBEq,reduceIte,reduceCtorEq,Int.reduceBEq,Int.reduceEq,Int.reduceLT,Int.reduceLE,Int.reduceGT,Int.reduceGE,Int.reduceAdd,Int.reduceSub,Int.reduceNeg,Int.reduceBNe,ite_true,ite_false,if_true,if_false,implies_true,forall_const] <;> rfl
 have d1:decide (z > 128)=false:=by simpa using h1
 by_cases h2:((ops.all fun o=>decide ((vB o.val).length≤300)) && decide (ops.length≤40))=true
 ·rw [h2] at hsm
  have hg:=groups_spec (h:=[]) 0 z
  obtain ⟨g,F',jcs,m,o1,o2,o3,o4⟩:=open_new z
  simp only [z0,Nat.zero_add] at hg
  rw [Bool.and_eq_true,decide_eq_true_eq,List.all_eq_true] at h2
  have hl:=moves_loop hV (fun o ho=>by simpa using h2.1 o ho) h2.2 ops.length 0 (by omega) o3
  rw [←o2] at hl
  simp only [show ((0:Nat):Int)=0 from rfl] at hl
  generalize putJ (ext (ext [] (boxes0 (secN z) 0)) g) (fp0 0) F' 5 jcs=HJ at *
  generalize ext [] (boxes0 (secN z) 0)=HG at *
  simp only [ha,d1,hsm,hg,o1,hV.len,hl,↓evD,evU,evL,evM,Nat.reduceAdd,Nat.reduceSub,Nat.reduceMul,Nat.reduceLeDiff,Nat.reduceLT,Nat.reduceEqDiff,Nat.reduceBEq,reduceIte,reduceCtorEq,Int.reduceBEq,Int.reduceEq,Int.reduceLT,Int.reduceLE,Int.reduceGT,Int.reduceGE,Int.reduceAdd,Int.reduceSub,Int.reduceNeg,Int.reduceBNe,ite_true,ite_false,if_true,if_false,implies_true,forall_const]
 ·have h2':((ops.all fun o=>decide ((vB o.val).length≤300)) && decide (ops.length≤40))=false:=by simpa using h2
  rw [h2'] at hsm
  simp only [ha,d1,hsm,↓evD,evU,evL,evM,Nat.reduceAdd,Nat.reduceSub,Nat.reduceMul,Nat.reduceLeDiff,Nat.reduceLT,Nat.reduceEqDiff,Nat.reduceBEq,reduceIte,reduceCtorEq,Int.reduceBEq,Int.reduceEq,Int.reduceLT,Int.reduceLE,Int.reduceGT,Int.reduceGE,Int.reduceAdd,Int.reduceSub,Int.reduceNeg,Int.reduceBNe,ite_true,ite_false,if_true,if_false,implies_true,forall_const] <;> rfl
end Go.Am.Ytlonabodghfjdaa
namespace Go.Am.Ytlonabodghfjdaa
set_option maxRecDepth 100000
set_option linter.unusedSimpArgs false
set_option linter.unusedVariables false
set_option linter.unusedSectionVars false
variable {p:FP} {F:Fl} {jb qa qb:Nat} {sz m:Nat} {J:Jn} {vs:Vs} {hh:Hp}
theorem getV_fresh (k:Nat):∀ {vs:Vs},(∀ e∈vs,e.1≠k)→getV vs k=none
 | [],h=>rfl
 | e :: r,h=>by
  have h1:=h e (by simp)
  have ih:=getV_fresh k (vs:=r) fun x hx=>h x (by simp [hx])
  simp only [getV]
  rw [if_neg (by omega),ih]
theorem setV_fresh (k:Nat) (v:Option (List UInt8)):∀ {vs:Vs},(∀ e∈vs,e.1≠k)→setV vs k v=vs ++ [(k,v)]
 | [],h=>rfl
 | e :: r,h=>by
  have h1:=h e (by simp)
  have ih:=setV_fresh k v (vs:=r) fun x hx=>h x (by simp [hx])
  simp only [setV]
  rw [if_neg h1,ih];rfl
theorem need_fresh (k:Nat) (v:Option (List UInt8)) (vs:Vs):needV (vs ++ [(k,v)])=needV vs+(7+(vB v).length):=by
 unfold needV
 rw [List.map_append,List.sum_append]
 simp;omega
structure FI (vals:List (Option (List UInt8))) (i:Nat) (hh:Hp) (p:FP) (F:Fl) (jb qa qb sz m:Nat) (J:Jn) (vs:Vs):Prop where
 go:Go1 hh p F jb qa qb sz m J vs (i+1)
 fin:J.fin=needV vs
 keys:∀ e∈vs,∃ hk:e.1 < vals.length,e.1 < i∧vB e.2=vB vals[e.1]
theorem FI.ext {vals:List (Option (List UInt8))} {i:Nat} {hh:Hp} (h:FI vals i hh p F jb qa qb sz m J vs) (l:Hp):FI vals i (Go.Am.ext hh l) p F jb qa qb sz m J vs:=⟨h.go.ext l,h.fin,h.keys⟩
theorem FI.succ {vals:List (Option (List UInt8))} {i:Nat} {hh:Hp} (h:FI vals i hh p F jb qa qb sz m J vs):FI vals (i+1) hh p F jb qa qb sz m J vs :=
 ⟨⟨h.go.js,h.go.ji,by have:=h.go.ep;omega⟩,h.fin,fun e he=>by obtain ⟨hk,h1,h2⟩:=h.keys e he;exact ⟨hk,by omega,h2⟩⟩
theorem full_put {vals:List (Option (List UInt8))} {i:Nat} {hh:Hp} (h:FI vals i hh p F jb qa qb sz m J vs) (hi:i≤900) {k:Nat} (hk:k < 32) (hf:∀ e∈vs,e.1≠k) (v:Option (List UInt8)) (hl:(vB v).length≤200) :
  ∃ e F' J' m' vs' g,CallA T 0 14 [.ptr jb 0,.int .i64 (k:Int),aV v] (putJ hh p F jb (jC qa qb sz J m))=some (.int .i64 (e:Nat),putJ (ext hh g) p F' jb (jC qa qb sz J' m')) ∧
   ((sz < J.fin+((vB v).length+7)∧e=6∧F'=F∧J'=J∧m'=m∧vs'=vs) ∨
    (J.fin+((vB v).length+7)≤sz∧e=0∧vs'=setV vs k (cl (aV v) (vB v))∧J'.fin=needV vs'∧J'.fin=J.fin+((vB v).length+7))) ∧
   Go1 (ext hh g) p F' jb qa qb sz m' J' vs' (i+2)∧F'.sector=F.sector:=by
 have hfl:=h.go.ji.1.1
 have hf0:faultN F (k:Int) (vB v).length=0:=by
  unfold faultN
  have hd:F.down=false:=by
   have:=h.go.ji.1;unfold NC at this
   first | exact this.1 | exact this.2
  rw [hd,if_neg (by simp),if_neg (by omega),if_neg (by omega)]
 have hg:=getV_fresh k hf
 have hp:=put_new (F:=F) h.go.js (Nat.zero_le _) (k:=k) (aV_bv v) (aV_nn v) hf0 (fun u hu=>by rw [hg] at hu;cases hu)
 have hcl:vB (cl (aV v) (vB v))=vB v:=cl_B (aV_bv v)
 have hnd:needV (setV vs k (cl (aV v) (vB v)))=needV vs+(7+(vB v).length):=by rw [setV_fresh k _ hf,need_fresh,hcl]
 have hfin:=h.fin
 generalize hw:cl (aV v) (vB v)=w at *
 by_cases hc:sz < J.fin+((vB v).length+7)
 ·rw [write_full (by omega)] at hp
  exact ⟨6,F,J,m,vs,_,hp,.inl ⟨hc,rfl,rfl,rfl,rfl,rfl⟩,⟨(h.go.ext _).js,h.go.ji,by have:=h.go.ep;omega⟩,rfl⟩
 ·obtain ⟨F',J',w1,w2,w3⟩:=put_go h.go (n:=i+1) (by omega) (k:=k) (v:=w) (b:=bodyL (UInt8.ofNat k) (vB v) false) hk (by rw [hcl];omega) (by omega) (by rw [bodyL_length,hcl])
  rw [w1] at hp
  rw [hcl,if_neg (by omega)] at w3
  obtain ⟨w31,w32⟩:=w3
  have s1:=h.go.js.fl.sz
  have s2:=w2.js.fl.sz
  exact ⟨0,F',J',_,_,_,hp,.inr ⟨by omega,rfl,rfl,by omega,w31⟩,w2,by omega⟩
theorem full_room (hj:JOk hh p jb qa qb) (hF:Fq F sz):CallA T 0 16 [.ptr qa 0] (putJ hh p F jb (jC qa qb sz J m))=some (.int .i64 (sz:Nat),putJ hh p F jb (jC qa qb sz J m)):=by
 have:=psize_spec (F:=F) (hj.fs (jC qa qb sz J m)) (hj.qa' _) 0 (by have:=hF.small;omega)
 rw [←hF.sz] at this
 exact this
theorem full_turned (hj:JOk hh p jb qa qb) (cs:List PV):CallA T 0 19 [.ptr p.f 0] (putJ hh p F jb cs)=some (.int .i64 F.turned,putJ hh p F jb cs):=turned_spec (hj.fs cs) 0
/-! ### What is told is written over -/
theorem add_u8 (c:UInt8):binOp .add (.int .u8 (c.toNat:Int)) (.int .u8 1)=some (.int .u8 ((c+1).toNat:Int)):=by
 show some (PV.int .u8 (IntKind.u8.wrap ((c.toNat:Int)+1)))=some (PV.int .u8 _)
 congr 2
theorem over_loop (hj:JOk hh p jb qa qb) {V ks more:PV} {trn nd lk idx k:Int} {cs:List PV}:∀ (n i:Nat) (l:List UInt8),l.length≤1000→i+n=l.length →
  ∃ l':List UInt8,l'.length=l.length∧P4_2 0 0 (.int .i64 (i:Int)) (.bsl false (size hh) 0 l.length 1) (.ptr jb 0) V ks (.int .i64 trn) (.ptr p.f 0) (.int .i64 nd) (.ptr qa 0) more (.int .i64 lk) (.int .i64 idx) (.int .i64 k) (.int .i64 (l.length:Int)) (putJ (ext hh [.cells (u8s l)]) p F jb cs) =
   P4_2 0 0 (.int .i64 (l.length:Int)) (.bsl false (size hh) 0 l.length 1) (.ptr jb 0) V ks (.int .i64 trn) (.ptr p.f 0) (.int .i64 nd) (.ptr qa 0) more (.int .i64 lk) (.int .i64 idx) (.int .i64 k) (.int .i64 (l.length:Int)) (putJ (ext hh [.cells (u8s l')]) p F jb cs)
 | 0,i,l,hl,hi=>⟨l,rfl,by rw [show i=l.length by omega]⟩
 | n+1,i,l,hl,hi=>by
  have e0:i < l.length:=by omega
  obtain ⟨l',h1,h2⟩:=over_loop hj (V:=V) (ks:=ks) (more:=more) (trn:=trn) (nd:=nd) (lk:=lk) (idx:=idx) (k:=k) (cs:=cs) n (i+1) (l.set i (l[i]+1)) (by simpa using hl) (by simp;omega)
  rw [List.length_set] at h1 h2
  refine ⟨l',h1,?_⟩
  rw [←h2]
  obtain ⟨n1,n2,n3,n4⟩:=hj.new
  have gb:∀ l:List UInt8,getBox (putJ (ext hh [.cells (u8s l)]) p F jb cs) (size hh)=some (u8s l):=fun l=>by
   rw [putJ,getBox_putF ((hj.ext _).fs _) n1 n2 n3,getBox_set_ne (Ne.symm n4),getBox_ext_0];rfl
  have hix:idxAB (.bsl false (size hh) 0 l.length 1) (.int .i64 (i:Int)) 1=some (.ptr (size hh) i):=by
   rw [idxAB_bsl,if_pos rfl,ix_nat .i64 i _ e0,Option.bnd_some];simp
  have hld:loadV 1 false (.ptr (size hh) i) (putJ (ext hh [.cells (u8s l)]) p F jb cs)=some (.int .u8 (l[i].toNat:Int)):=by
   rw [loadV_ptr,gb,Option.bnd_some,part,if_neg (by simp),u8_get l i e0]
  have hle:(i+1≤l.length)=True:=by simp;omega
  have hnb:(size hh < 0)=False:=by simp
  have hwu:IntKind.u8.wrap ((l[i].toNat:Int)+1)=((l[i]+1).toNat:Int):=rfl
  have hsr:setRange (u8s l) i [PV.int .u8 ((l[i]+1).toNat:Int)]=u8s (l.set i (l[i]+1)):=by rw [←u8s_set];rfl
  have hset:=set_new (F:=F) hj cs (.cells (u8s l)) (.cells (u8s (l.set i (l[i]+1))))
  rw [P4_2_eq]
  simp (disch:=omega) only [dec_lt,e0,decide_true,hix,hld,gb,u8s_length,hle,hnb,hwu,hsr,hset,wr_a1,↓evD,evU,evL,evM,Nat.reduceAdd,Nat.reduceSub,Nat.reduceMul,Nat.reduceLeDiff,Nat.reduceLT,Nat.reduceEqDiff,Nat.reduceBEq,reduceIte,reduceCtorEq,Int.reduceBEq,Int.reduceEq,Int.reduceLT,Int.reduceLE,Int.reduceGT,Int.reduceGE,Int.reduceAdd,Int.reduceSub,Int.reduceNeg,Int.reduceBNe,ite_true,ite_false,if_true,if_false,implies_true,forall_const]
theorem ksV_ix (ks:List Nat) (i:Nat) (e0:i < ks.length):idxAB (ksV ks) (.int .i64 (i:Int)) 1=some (.ep [.int .i64 (ks[i] : Int)] 0):=by
 have hne:ks≠[]:=by intro q;rw [q] at e0;simp at e0
 rw [ksV,if_neg hne,idxAB_sl,if_pos rfl,ix_nat .i64 i _ (by simpa using e0),Option.bnd_some]
 simp [e0,PV.cells]
 rfl
theorem fin1 (b:Bool) (H:Hp):finV false false 0 [.bool b] H=some (.bool b,[]):=fin0 .nils (.inr trivial) b H
theorem trunc0 (H:Hp):trunc H 0=[]:=rfl
theorem bne_self_i (a:Int):(a != a)=false:=by simp
theorem over_end {vals:List (Option (List UInt8))} {V more:PV} (hV:Lv aV 1 V vals) (h:FI vals vals.length hh p F jb qa qb sz m J vs) {trn nd lk idx:Int} (k:Nat) (hk:∃ e∈vs,e.1=k) (L:Nat) (u:PV) (ks:PV) :
  ∃ g,P4_2 0 0 (.int .i64 (L:Int)) u (.ptr jb 0) V ks (.int .i64 trn) (.ptr p.f 0) (.int .i64 nd) (.ptr qa 0) more (.int .i64 lk) (.int .i64 idx) (.int .i64 (k:Int)) (.int .i64 (L:Int)) (putJ hh p F jb (jC qa qb sz J m)) =
   (binOp .add (.int .i64 idx) (.int .i64 1)).bnd fun x=>P4_1 0 0 x (.ptr jb 0) V ks (.int .i64 trn) (.ptr p.f 0) (.int .i64 nd) (.ptr qa 0) more (.int .i64 lk) (putJ (ext hh g) p F jb (jC qa qb sz J m)):=by
 obtain ⟨e,he,rfl⟩:=hk
 obtain ⟨hk1,hk2,hk3⟩:=h.keys e he
 obtain ⟨v,g,g1,g2,_⟩:=get_spec (F:=F) h.go.js 0 (e.1:Int)
 have hge:getV vs (e.1:Int)=some e.2:=getV_mem h.go.js.keyed e he
 have hsm:=(h.go.js.small.2 e he)
 rw [hge] at g1 g2
 simp only [Option.getD_some,Option.isSome_some] at g1 g2
 have h2:=h.ext g
 refine ⟨g,?_⟩
 have hrd:=g2.rd h2.go.js.ok (F:=F) (jC qa qb sz J m)
 have hrd2:=(aV_bv vals[e.1]).rd (h:=putJ (ext hh g) p F jb (jC qa qb sz J m)) (aV_nn vals[e.1])
 have hs15:=same_spec 0 hrd hrd2 (by omega)
 have hq:(vB e.2 == vB vals[e.1])=true:=by rw [hk3];simp
 rw [hq] at hs15
 have hf0:faultN F (e.1:Int) (vB e.2).length=0:=by
  unfold faultN
  rw [h.go.ji.1.2,if_neg (by simp),if_neg (by omega),if_neg (by omega)]
 have h14:=put_same (F:=F) h2.go.js 0 (e.1:Int) hrd hf0 hge rfl
 have hix:idxAB V (.int .i64 (e.1:Int)) 1=some (.ep (aV vals[e.1]).cells 0):=hV.idx (List.getElem?_eq_getElem hk1)
 rw [aV_cells] at hix
 have hld:∀ H,loadV 1 false (.ep [aV vals[e.1]] 0) H=some (aV vals[e.1]):=fun H=>rfl
 have hlt:¬ (L < L):=by omega
 rw [P4_2_eq]
 simp only [dec_lt,hlt,decide_false,g1,hix,hld,hs15,h14,bne_self_i,↓evD,evU,evL,evM,Nat.reduceAdd,Nat.reduceSub,Nat.reduceMul,Nat.reduceLeDiff,Nat.reduceLT,Nat.reduceEqDiff,Nat.reduceBEq,reduceIte,reduceCtorEq,Int.reduceBEq,Int.reduceEq,Int.reduceLT,Int.reduceLE,Int.reduceGT,Int.reduceGE,Int.reduceAdd,Int.reduceSub,Int.reduceNeg,Int.reduceBNe,ite_true,ite_false,if_true,if_false,implies_true,forall_const]
theorem FI.put_ext {vals:List (Option (List UInt8))} {i:Nat} (h:FI vals i hh p F jb qa qb sz m J vs) (l:Hp):True:=trivial
theorem full_keys {vals:List (Option (List UInt8))} {V:PV} (hV:Lv aV 1 V vals) (hvl:vals.length≤12) (mo:Option (List UInt8)) (hmo:(vB mo).length≤200):∀ (n i:Nat) {hh:Hp},i+n=(keysN vs).length→FI vals vals.length hh p F jb qa qb sz m J vs →
  P4_1 0 0 (.int .i64 (i:Int)) (.ptr jb 0) V (ksV (keysN vs)) (.int .i64 F.turned) (.ptr p.f 0) (.int .i64 (J.fin:Int)) (.ptr qa 0) (aV mo) (.int .i64 ((keysN vs).length:Int)) (putJ hh p F jb (jC qa qb sz J m))=some (.bool true,[])
 | 0,i,hh,hi,h=>by
  have hlt:¬ (i < (keysN vs).length):=by omega
  have hml:=(aV_bv mo).len
  have hs2:=h.go.js.fl.small
  have hsz:=h.go.js.fl.sz
  have hfin:=h.go.js.fin
  obtain ⟨e,F',J',m',vs',g,p1,p2,p3,p4⟩:=full_put h (by omega) (k:=20) (by omega) (fun e he=>by obtain ⟨_,h1,_⟩:=h.keys e he;omega) mo hmo
  have t1:=full_turned (F:=F) h.go.js.ok (jC qa qb sz J m)
  have a1:=full_room (m:=m') (J:=J') (hh:=ext hh g) (F:=F') p3.js.ok p3.js.fl
  have d0:∀ m n:Nat,decide ((m:Int) > (n:Int))=decide (n < m):=fun m n=>by simp
  simp only [show ((20:Nat):Int)=20 from rfl] at p1
  rw [P4_1_eq]
  rcases p2 with ⟨q1,rfl,rfl,rfl,rfl,rfl⟩ | ⟨q1,rfl,rfl,q2,q3⟩
  ·have t2:=full_turned (F:=F') p3.js.ok (jC qa qb sz J' m')
   have d1:sz - J'.fin < (vB mo).length+7:=by omega
   simp (disch:=omega) only [dec_lt,hlt,decide_false,decide_true,t1,p1,hml,wr_a7,a1,t2,wr_sub,d0,d1,bne_self_i,fin1,trunc0,show ((6:Nat):Int)=6 from rfl,↓evD,evU,evL,evM,Nat.reduceAdd,Nat.reduceSub,Nat.reduceMul,Nat.reduceLeDiff,Nat.reduceLT,Nat.reduceEqDiff,Nat.reduceBEq,reduceIte,reduceCtorEq,Int.reduceBEq,Int.reduceEq,Int.reduceLT,Int.reduceLE,Int.reduceGT,Int.reduceGE,Int.reduceAdd,Int.reduceSub,Int.reduceNeg,Int.reduceBNe,ite_true,ite_false,if_true,if_false,implies_true,forall_const]
   done
  ·have d1:¬ (sz - J.fin < (vB mo).length+7):=by omega
   simp (disch:=omega) only [dec_lt,hlt,decide_false,decide_true,t1,p1,hml,wr_a7,a1,wr_sub,d0,d1,bne_self_i,fin1,trunc0,show ((0:Nat):Int)=0 from rfl,↓evD,evU,evL,evM,Nat.reduceAdd,Nat.reduceSub,Nat.reduceMul,Nat.reduceLeDiff,Nat.reduceLT,Nat.reduceEqDiff,Nat.reduceBEq,reduceIte,reduceCtorEq,Int.reduceBEq,Int.reduceEq,Int.reduceLT,Int.reduceLE,Int.reduceGT,Int.reduceGE,Int.reduceAdd,Int.reduceSub,Int.reduceNeg,Int.reduceBNe,ite_true,ite_false,if_true,if_false,implies_true,forall_const]
   done
 | n+1,i,hh,hi,h=>by
  have e0:i < (keysN vs).length:=by omega
  have ih:=fun {hh:Hp}=>full_keys hV hvl mo hmo n (i+1) (hh:=hh) (by omega)
  have hix:=ksV_ix (keysN vs) i e0
  have hmem:=(mem_keysN vs (keysN vs)[i]).1 (List.getElem_mem e0)
  have hlen:(keysN vs).length≤32:=by rw [len_keysN];exact h.go.js.small.1
  generalize (keysN vs)[i]=k at *
  obtain ⟨v,g,g1,_,_,g4⟩:=get_spec (F:=F) h.go.js 0 (k:Int)
  have hld:∀ H,loadV 1 false (.ep [.int .i64 (k:Int)] 0) H=some (.int .i64 (k:Int)):=fun H=>rfl
  have hw:IntKind.i64.wrap ((i:Int)+1)=((i+1:Nat):Int):=wr_a1 i (by omega)
  have hgs:(getV vs (k:Int)).isSome=true:=by
   obtain ⟨e,he,rfl⟩:=hmem
   rw [getV_mem h.go.js.keyed e he];rfl
  rcases g4 with ⟨l0,b1,b2,rfl⟩ | ⟨rfl,rfl⟩
  ·rw [show ext hh []=hh by simp [ext]] at g1
   obtain ⟨g,q1⟩:=over_end (more:=aV mo) hV h (trn:=F.turned) (nd:=J.fin) (lk:=(keysN vs).length) (idx:=i) k hmem 0 v (ksV (keysN vs))
   have hl0:=b1.len
   rw [P4_1_eq]
   simp only [show ((0:Nat):Int)=0 from rfl,List.length_nil] at q1 hl0
   simp only [dec_lt,e0,decide_true,hix,hld,g1,hl0,q1,hw,ih (h.ext g),↓evD,evU,evL,evM,Nat.reduceAdd,Nat.reduceSub,Nat.reduceMul,Nat.reduceLeDiff,Nat.reduceLT,Nat.reduceEqDiff,Nat.reduceBEq,reduceIte,reduceCtorEq,Int.reduceBEq,Int.reduceEq,Int.reduceLT,Int.reduceLE,Int.reduceGT,Int.reduceGE,Int.reduceAdd,Int.reduceSub,Int.reduceNeg,Int.reduceBNe,ite_true,ite_false,if_true,if_false,implies_true,forall_const]
  ·generalize hB:vB ((getV vs (k:Int)).getD none)=B at *
   have hBl:B.length≤250:=by
    obtain ⟨e,he,rfl⟩:=hmem
    rw [getV_mem h.go.js.keyed e he] at hB
    rw [←hB];exact (h.go.js.small.2 e he).2
   obtain ⟨l',o1,o2⟩:=over_loop h.go.js.ok (F:=F) (V:=V) (ks:=ksV (keysN vs)) (more:=aV mo) (trn:=F.turned) (nd:=J.fin) (lk:=(keysN vs).length) (idx:=i) (k:=k) (cs:=jC qa qb sz J m) B.length 0 B (by omega) (by omega)
   obtain ⟨g,q1⟩:=over_end (more:=aV mo) hV (h.ext [.cells (u8s l')]) (trn:=F.turned) (nd:=J.fin) (lk:=(keysN vs).length) (idx:=i) k hmem B.length (.bsl false (size hh) 0 B.length 1) (ksV (keysN vs))
   rw [q1] at o2
   have hl:∀ f b o n s,lenB false (.bsl f b o n s)=some (.int .i64 (n:Int)):=fun _ _ _ _ _=>rfl
   simp only [show ((0:Nat):Int)=0 from rfl] at o2
   rw [P4_1_eq]
   have ih2:=ih (h.ext (Box.cells (u8s l') :: g))
   simp only [dec_lt,e0,decide_true,hix,hld,g1,hl,o2,hw,ih2,↓evD,evU,evL,evM,Nat.reduceAdd,Nat.reduceSub,Nat.reduceMul,Nat.reduceLeDiff,Nat.reduceLT,Nat.reduceEqDiff,Nat.reduceBEq,reduceIte,reduceCtorEq,Int.reduceBEq,Int.reduceEq,Int.reduceLT,Int.reduceLE,Int.reduceGT,Int.reduceGE,Int.reduceAdd,Int.reduceSub,Int.reduceNeg,Int.reduceBNe,ite_true,ite_false,if_true,if_false,implies_true,forall_const]
theorem full_vals {vals:List (Option (List UInt8))} {V:PV} (hV:Lv aV 1 V vals) (hvl:vals.length≤12) (mo:Option (List UInt8)) (hmo:(vB mo).length≤200):∀ (n i:Nat) {F:Fl} {J:Jn} {m:Nat} {vs:Vs} {hh:Hp},i+n=vals.length→FI vals i hh p F jb qa qb sz m J vs →
  P4_0 0 0 (.int .i64 (i:Int)) (.int .i64 (J.fin:Int)) (.ptr jb 0) (.ptr qa 0) V V (.ptr p.f 0) (aV mo) (.int .i64 (vals.length:Int)) (putJ hh p F jb (jC qa qb sz J m))=some (.bool true,[])
 | 0,i,F,J,m,vs,hh,hi,h=>by
  have hlt:¬ (i < vals.length):=by omega
  have hii:i=vals.length:=by omega
  subst hii
  have t1:=full_turned (F:=F) h.go.js.ok (jC qa qb sz J m)
  have k1:=keys_spec (F:=F) h.go.js 0
  have hk:=full_keys hV hvl mo hmo (keysN vs).length 0 (by omega) h
  simp only [show ((0:Nat):Int)=0 from rfl] at hk
  rw [P4_0_eq]
  simp only [dec_lt,hlt,decide_false,t1,k1,lenB_ksV,hk,↓evD,evU,evL,evM,Nat.reduceAdd,Nat.reduceSub,Nat.reduceMul,Nat.reduceLeDiff,Nat.reduceLT,Nat.reduceEqDiff,Nat.reduceBEq,reduceIte,reduceCtorEq,Int.reduceBEq,Int.reduceEq,Int.reduceLT,Int.reduceLE,Int.reduceGT,Int.reduceGE,Int.reduceAdd,Int.reduceSub,Int.reduceNeg,Int.reduceBNe,ite_true,ite_false,if_true,if_false,implies_true,forall_const]
 | n+1,i,F,J,m,vs,hh,hi,h=>by
  have e0:i < vals.length:=by omega
  have hix:idxAB V (.int .i64 (i:Int)) 1=some (.ep (aV vals[i]).cells 0):=hV.idx (List.getElem?_eq_getElem e0)
  rw [aV_cells] at hix
  have hld:∀ v H,loadV 1 false (.ep [aV v] 0) H=some (aV v):=fun v H=>rfl
  have hml:=(aV_bv vals[i]).len
  have hs2:=h.go.js.fl.small
  have hsz:=h.go.js.fl.sz
  have hfin:=h.go.js.fin
  have d2:∀ n:Nat,decide ((n:Int) > 200)=decide (200 < n):=fun n=>by
   by_cases hq:200 < n
   ·have:(n:Int) > 200:=by omega
    simp [hq,this]
   ·have:¬ (n:Int) > 200:=by omega
    simp [hq,this]
  have a1:=full_room (m:=m) (J:=J) h.go.js.ok h.go.js.fl
  rw [P4_0_eq]
  by_cases hl:200 < (vB vals[i]).length
  ·simp only [dec_lt,e0,decide_true,hix,hld,hml,d2,hl,fin1,trunc0,↓evD,evU,evL,evM,Nat.reduceAdd,Nat.reduceSub,Nat.reduceMul,Nat.reduceLeDiff,Nat.reduceLT,Nat.reduceEqDiff,Nat.reduceBEq,reduceIte,reduceCtorEq,Int.reduceBEq,Int.reduceEq,Int.reduceLT,Int.reduceLE,Int.reduceGT,Int.reduceGE,Int.reduceAdd,Int.reduceSub,Int.reduceNeg,Int.reduceBNe,ite_true,ite_false,if_true,if_false,implies_true,forall_const]
  ·obtain ⟨e,F',J',m',vs',g,p1,p2,p3,p4⟩:=full_put h (by omega) (k:=i) (by omega) (fun e he=>by obtain ⟨_,h1,_⟩:=h.keys e he;omega) vals[i] (by omega)
   have d0:∀ m n:Nat,decide ((m:Int) > (n:Int))=decide (n < m):=fun m n=>by simp
   rcases p2 with ⟨q1,rfl,rfl,rfl,rfl,rfl⟩ | ⟨q1,rfl,rfl,q2,q3⟩
   ·have d1:sz - J'.fin < (vB vals[i]).length+7:=by omega
    have ih:=full_vals hV hvl mo hmo n (i+1) (by omega) (h.ext g).succ
    simp (disch:=omega) only [dec_lt,e0,decide_true,decide_false,hix,hld,hml,d2,hl,a1,wr_sub,p1,wr_a7,d0,d1,wr_a1,bne_self_i,ih,show ((6:Nat):Int)=6 from rfl,↓evD,evU,evL,evM,Nat.reduceAdd,Nat.reduceSub,Nat.reduceMul,Nat.reduceLeDiff,Nat.reduceLT,Nat.reduceEqDiff,Nat.reduceBEq,reduceIte,reduceCtorEq,Int.reduceBEq,Int.reduceEq,Int.reduceLT,Int.reduceLE,Int.reduceGT,Int.reduceGE,Int.reduceAdd,Int.reduceSub,Int.reduceNeg,Int.reduceBNe,ite_true,ite_false,if_true,if_false,implies_true,forall_const]
   ·have d1:¬ (sz - J.fin < (vB vals[i]).length+7):=by omega
    have ih:=full_vals hV hvl mo hmo n (i+1) (by omega) ⟨p3,q2,fun e he=>by
     have hcl:vB (cl (aV vals[i]) (vB vals[i]))=vB vals[i]:=cl_B (aV_bv vals[i])
     rcases mem_setV _ _ _ _ he with rfl | he
     ·exact ⟨e0,by simp,hcl⟩
     ·obtain ⟨k1,k2,k3⟩:=h.keys e he
      exact ⟨k1,by omega,k3⟩⟩
    rw [q3] at ih
    simp (disch:=omega) only [dec_lt,e0,decide_true,decide_false,hix,hld,hml,d2,hl,a1,wr_sub,p1,wr_a7,d0,d1,wr_a1,wr_add,bne_self_i,ih,show ((0:Nat):Int)=0 from rfl,↓evD,evU,evL,evM,Nat.reduceAdd,Nat.reduceSub,Nat.reduceMul,Nat.reduceLeDiff,Nat.reduceLT,Nat.reduceEqDiff,Nat.reduceBEq,reduceIte,reduceCtorEq,Int.reduceBEq,Int.reduceEq,Int.reduceLT,Int.reduceLE,Int.reduceGT,Int.reduceGE,Int.reduceAdd,Int.reduceSub,Int.reduceNeg,Int.reduceBNe,ite_true,ite_false,if_true,if_false,implies_true,forall_const]
theorem full_true (z:Int) {vals:List (Option (List UInt8))} {V:PV} (hV:Lv aV 1 V vals) (mo:Option (List UInt8)):CallA T 0 4 [.int .i64 z,V,aV mo] []=some (.bool true,[]):=by
 have ha:CallA T 0 7 [] []=some (.bool true,[]):=alive_spec
 have z0:size ([] : Hp)=0:=rfl
 have hml:=(aV_bv mo).len
 rw [S4,z0]
 have d12:decide ((vals.length:Int) > 12)=decide (12 < vals.length):=by congr 1;apply propext;constructor <;> intro q <;> omega
 have d200:decide (((vB mo).length:Int) > 200)=decide (200 < (vB mo).length):=by congr 1;apply propext;constructor <;> intro q <;> omega
 by_cases h1:z > 64
 ·have d1:decide (z > 64)=true:=by simpa using h1
  simp only [ha,d1,fin1,trunc0,↓evD,evU,evL,evM,Nat.reduceAdd,Nat.reduceSub,Nat.reduceMul,Nat.reduceLeDiff,Nat.reduceLT,Nat.reduceEqDiff,Nat.reduceBEq,reduceIte,reduceCtorEq,Int.reduceBEq,Int.reduceEq,Int.reduceLT,Int.reduceLE,Int.reduceGT,Int.reduceGE,Int.reduceAdd,Int.reduceSub,Int.reduceNeg,Int.reduceBNe,ite_true,ite_false,if_true,if_false,implies_true,forall_const]
 have d1:decide (z > 64)=false:=by simpa using h1
 by_cases h2:12 < vals.length
 ·simp only [ha,d1,hV.len,d12,h2,decide_true,fin1,trunc0,↓evD,evU,evL,evM,Nat.reduceAdd,Nat.reduceSub,Nat.reduceMul,Nat.reduceLeDiff,Nat.reduceLT,Nat.reduceEqDiff,Nat.reduceBEq,reduceIte,reduceCtorEq,Int.reduceBEq,Int.reduceEq,Int.reduceLT,Int.reduceLE,Int.reduceGT,Int.reduceGE,Int.reduceAdd,Int.reduceSub,Int.reduceNeg,Int.reduceBNe,ite_true,ite_false,if_true,if_false,implies_true,forall_const]
 by_cases h3:200 < (vB mo).length
 ·simp only [ha,d1,hV.len,d12,h2,hml,d200,h3,decide_true,decide_false,fin1,trunc0,↓evD,evU,evL,evM,Nat.reduceAdd,Nat.reduceSub,Nat.reduceMul,Nat.reduceLeDiff,Nat.reduceLT,Nat.reduceEqDiff,Nat.reduceBEq,reduceIte,reduceCtorEq,Int.reduceBEq,Int.reduceEq,Int.reduceLT,Int.reduceLE,Int.reduceGT,Int.reduceGE,Int.reduceAdd,Int.reduceSub,Int.reduceNeg,Int.reduceBNe,ite_true,ite_false,if_true,if_false,implies_true,forall_const]
 have hg:=groups_spec (h:=[]) 0 z
 obtain ⟨g,F',jcs,m,o1,o2,o3,o4⟩:=open_new z
 simp only [z0,Nat.zero_add] at hg
 have hl:=full_vals hV (by omega) mo (by omega) vals.length 0 (by omega) ⟨o3,rfl,fun e he=>by simp at he⟩
 rw [←o2] at hl
 simp only [show ((0:Nat):Int)=0 from rfl,show ((8:Nat):Int)=8 from rfl] at hl
 have hf:(fp0 0).f=2:=rfl
 rw [hf] at hl
 generalize putJ (ext (ext [] (boxes0 (secN z) 0)) g) (fp0 0) F' 5 jcs=HJ at *
 generalize ext [] (boxes0 (secN z) 0)=HG at *
 simp only [ha,d1,hg,o1,hV.len,d12,h2,hml,d200,h3,hl,decide_false,↓evD,evU,evL,evM,Nat.reduceAdd,Nat.reduceSub,Nat.reduceMul,Nat.reduceLeDiff,Nat.reduceLT,Nat.reduceEqDiff,Nat.reduceBEq,reduceIte,reduceCtorEq,Int.reduceBEq,Int.reduceEq,Int.reduceLT,Int.reduceLE,Int.reduceGT,Int.reduceGE,Int.reduceAdd,Int.reduceSub,Int.reduceNeg,Int.reduceBNe,ite_true,ite_false,if_true,if_false,implies_true,forall_const]
end Go.Am.Ytlonabodghfjdaa
namespace Go.Am.Ytlonabodghfjdaa
set_option maxRecDepth 100000
set_option linter.unusedSimpArgs false
set_option linter.unusedVariables false
set_option linter.unusedSectionVars false
variable {h:Hp}
def zF:PV:=.sl .full 1 []
theorem gzF:gZ 1 zF:=.inr rfl
theorem copy_loop {v:PV} {l:List UInt8} (hv:∀ H,Rd H v l) (hl:l.length≤100000):∀ (r q:List UInt8),l=q ++ r →
  P45_0 (size h) (size h) (.int .i64 (q.length:Int)) v (gV h zF 1 (u8s q)) (gH h 5 (u8s q))=some (gD zF 1 (u8s l),h)
 | [],q,hp=>by
  have h1:¬ (l.length < l.length):=by omega
  have e:q=l:=by rw [hp];simp
  rw [P45_0_eq]
  simp only [(hv h).len,dec_lt,h1,decide_false,frz_gV gzF,below_gD gzF _ _ (Bu.below _ _),trunc_gH,e,↓evD,evU,evL,evM,Nat.reduceAdd,Nat.reduceSub,Nat.reduceMul,Nat.reduceLeDiff,Nat.reduceLT,Nat.reduceEqDiff,Nat.reduceBEq,reduceIte,reduceCtorEq,Int.reduceBEq,Int.reduceEq,Int.reduceLT,Int.reduceLE,Int.reduceGT,Int.reduceGE,Int.reduceAdd,Int.reduceSub,Int.reduceNeg,Int.reduceBNe,ite_true,ite_false,if_true,if_false,implies_true,forall_const]
 | c :: r,q,hp=>by
  have el:l.length=q.length+(r.length+1):=by rw [hp];simp
  have h1:q.length < l.length:=by omega
  have hx:l[q.length]?=some c:=by rw [hp];simp
  obtain ⟨a,a1,a2⟩:=(hv (gH h 5 (u8s q))).rd .i64 q.length c hx
  have w1:IntKind.i64.wrap ((q.length:Int)+1)=(((q ++ [c]).length:Nat):Int):=by rw [show (q ++ [c]).length=q.length+1 by simp,wrap_small] <;> omega
  have hb:buildSlV 1 false [(.int .u8 0)] 1 [(0,strip (.int .u8 (c.toNat:Int)))]=some (.sl .full 1 [.int .u8 (c.toNat:Int)]):=rfl
  have hg:=gOne (h:=h) (T:=5) gzF q c (by unfold lim2;omega)
  have ih:=copy_loop hv hl r (q ++ [c]) (by rw [hp];simp)
  rw [P45_0_eq]
  simp only [(hv h).len,dec_lt,h1,decide_true,a1,a2,hb,hg,w1,ih,↓evD,evU,evL,evM,Nat.reduceAdd,Nat.reduceSub,Nat.reduceMul,Nat.reduceLeDiff,Nat.reduceLT,Nat.reduceEqDiff,Nat.reduceBEq,reduceIte,reduceCtorEq,Int.reduceBEq,Int.reduceEq,Int.reduceLT,Int.reduceLE,Int.reduceGT,Int.reduceGE,Int.reduceAdd,Int.reduceSub,Int.reduceNeg,Int.reduceBNe,ite_true,ite_false,if_true,if_false,implies_true,forall_const]
theorem copy_spec (base:Nat) {v:PV} {l:List UInt8} (hv:∀ H,Rd H v l) (hl:l.length≤100000):CallA T base 45 [v] h=some (gD zF 1 (u8s l),h):=by
 have:=copy_loop (h:=h) hv hl l [] rfl
 have hb:buildSlV 1 false [(.int .u8 0)] 0 []=some zF:=rfl
 have e1:gV h zF 1 (u8s [])=zF:=rfl
 have e2:gH h 5 (u8s [])=h:=rfl
 simp only [e1,e2,List.length_nil,show ((0:Nat):Int)=0 from rfl] at this
 rw [S45,hb,Option.bnd_some,this]
structure Pr5 where
 k:Int
 v:PV
 l:List UInt8
 hv:Go.Am.Bv v l
def eP5 (p:Pr5):PV:=.agg [.int .i64 p.k,p.v]
theorem elP5:El eP5 2:=⟨fun _=>rfl,fun p=>by simp only [eP5,PV.cells,List.all_cons,p.hv.scalar];rfl,fun p=>by simp only [eP5,strip_agg,strips_cons,p.hv.strip];rfl,fun n p=>by simp only [eP5,below_agg,belows_cons,p.hv.below];rfl⟩
def cL (ps:List Pr5):List (Int × List UInt8):=ps.map fun p=>(p.k,p.l)
def zP:PV:=.sl .full 2 []
theorem gzP:gZ 2 zP:=.inr rfl
theorem rdA {v:PV} {l:List UInt8} (hv:Go.Am.Bv v l) (H:Hp):Rd H v l:=by
 rcases hv with ⟨rfl,rfl⟩ | rfl | rfl
 ·exact bv_nils.rd (.inr rfl)
 ·exact rd_any l
 ·exact rd_any l
section
variable {a:PV} {la:List Pr5} (ha:Rl eP5 2 a la)
theorem ldk (p:Pr5) (H:Hp):loadV 1 false (.ep [.int .i64 p.k,p.v] 0) H=some (.int .i64 p.k):=rfl
theorem ldv (p:Pr5) (H:Hp):loadV 1 false (.ep [.int .i64 p.k,p.v] 1) H=some p.v:=rfl
theorem ldp (p:Pr5) (H:Hp):loadV 2 true (.ep [.int .i64 p.k,p.v] 0) H=some (eP5 p):=rfl
theorem bp (p:Pr5):buildSlV 2 true [(.int .i64 0),.nils] 1 [(0,strip (eP5 p))]=some (.sl .full 2 [eP5 p]):=by
 rw [elP5.st]
 have:=elP5.fits [p]
 simp only [List.map_cons,List.map_nil,List.all_cons,List.all_nil,Bool.and_true,fits,Bool.and_eq_true,beq_iff_eq] at this
 simp only [buildSlV,fillParts]
 rw [if_pos ⟨this.1,by simp,this.2⟩]
 rfl
include ha
theorem rem_loop (k:Int) (hl:la.length≤1000):∀ (r q o:List Pr5),la=q ++ r→o.length≤q.length →
  P24_0 (size h) (size h) (.int .i64 (q.length:Int)) a (gV h zP 2 (o.map eP5)) (.int .i64 k) (gH h 78 (o.map eP5))=some (gD zP 2 ((o ++ r.filter fun p=>decide (p.k≠k)).map eP5),h)
 | [],q,o,hp,ho=>by
  have h1:¬ (q.length < la.length):=by rw [hp];simp
  rw [P24_0_eq]
  simp only [ha.len,dec_lt,h1,decide_false,frz_gV gzP,below_gD gzP _ _ (elP5.belows _ _),trunc_gH,List.filter_nil,List.append_nil,↓evD,evU,evL,evM,Nat.reduceAdd,Nat.reduceSub,Nat.reduceMul,Nat.reduceLeDiff,Nat.reduceLT,Nat.reduceEqDiff,Nat.reduceBEq,reduceIte,reduceCtorEq,Int.reduceBEq,Int.reduceEq,Int.reduceLT,Int.reduceLE,Int.reduceGT,Int.reduceGE,Int.reduceAdd,Int.reduceSub,Int.reduceNeg,Int.reduceBNe,ite_true,ite_false,if_true,if_false,implies_true,forall_const]
 | p :: r,q,o,hp,ho=>by
  have el:la.length=q.length+(r.length+1):=by rw [hp];simp
  have h1:q.length < la.length:=by omega
  have hx:la[q.length]?=some p:=by rw [hp];simp
  have hix:idxAB a (.int .i64 (q.length:Int)) 2=some (.ep [.int .i64 p.k,p.v] 0):=ha.idx hx
  have w1:IntKind.i64.wrap ((q.length:Int)+1)=(((q ++ [p]).length:Nat):Int):=by rw [show (q ++ [p]).length=q.length+1 by simp,wrap_small] <;> omega
  rw [P24_0_eq]
  by_cases hk:p.k=k
  ·have d1:(p.k != k)=false:=by simpa using hk
   have ih:=rem_loop k hl r (q ++ [p]) o (by rw [hp];simp) (by simp;omega)
   have e1:(p :: r).filter (fun p=>decide (p.k≠k))=r.filter fun p=>decide (p.k≠k):=by rw [List.filter_cons,if_neg (by simpa using hk)]
   rw [e1]
   simp only [ha.len,dec_lt,h1,decide_true,hix,ldk,d1,w1,ih,↓evD,evU,evL,evM,Nat.reduceAdd,Nat.reduceSub,Nat.reduceMul,Nat.reduceLeDiff,Nat.reduceLT,Nat.reduceEqDiff,Nat.reduceBEq,reduceIte,reduceCtorEq,Int.reduceBEq,Int.reduceEq,Int.reduceLT,Int.reduceLE,Int.reduceGT,Int.reduceGE,Int.reduceAdd,Int.reduceSub,Int.reduceNeg,Int.reduceBNe,ite_true,ite_false,if_true,if_false,implies_true,forall_const]
  ·have d1:(p.k != k)=true:=by simpa using hk
   have ih:=rem_loop k hl r (q ++ [p]) (o ++ [p]) (by rw [hp];simp) (by simp;omega)
   have e1:o ++ (p :: r).filter (fun p=>decide (p.k≠k))=(o ++ [p]) ++ r.filter fun p=>decide (p.k≠k):=by rw [List.filter_cons,if_pos (by simpa using hk)];simp
   have hg:growT (gH h 78 (o.map eP5)) 78 2 (gV h zP 2 (o.map eP5)) [.agg [.int .i64 p.k,p.v]]=_:=gOneL (h:=h) (T:=78) elP5 gzP o p (by unfold lim2;omega)
   rw [e1]
   simp only [ha.len,dec_lt,h1,decide_true,hix,ldk,ldp,p.hv.strip,p.hv.scalar,d1,hg,w1,ih,↓evD,evU,evL,evM,Nat.reduceAdd,Nat.reduceSub,Nat.reduceMul,Nat.reduceLeDiff,Nat.reduceLT,Nat.reduceEqDiff,Nat.reduceBEq,reduceIte,reduceCtorEq,Int.reduceBEq,Int.reduceEq,Int.reduceLT,Int.reduceLE,Int.reduceGT,Int.reduceGE,Int.reduceAdd,Int.reduceSub,Int.reduceNeg,Int.reduceBNe,ite_true,ite_false,if_true,if_false,implies_true,forall_const]
theorem rem_spec (base:Nat) (k:Int) (hl:la.length≤1000):CallA T base 24 [a,.int .i64 k] h=some (gD zP 2 ((la.filter fun p=>decide (p.k≠k)).map eP5),h):=by
 have:=rem_loop (h:=h) ha k hl la [] [] rfl (by simp)
 have hb:buildSlV 2 true [(.int .i64 0),.nils] 0 []=some zP:=rfl
 have e1:gV h zP 2 (([] : List Pr5).map eP5)=zP:=rfl
 have e2:gH h 78 (([] : List Pr5).map eP5)=h:=rfl
 simp only [e1,e2,List.length_nil,show ((0:Nat):Int)=0 from rfl,List.nil_append] at this
 rw [S24,hb,Option.bnd_some,this]
omit ha in
def insG (x:Pr5):Bool→List Pr5→List Pr5
 | d,[]=>if d then [] else [x]
 | d,p :: r=>if d=false∧x.k≤p.k then x :: ((if p.k=x.k then [] else [p]) ++ insG x true r) else (if p.k=x.k then [] else [p]) ++ insG x d r
theorem ins_loop (x:Pr5) {v:PV} (hv:∀ H,Rd H v x.l) (hxv:x.v=gD zF 1 (u8s x.l)) (hl:la.length≤1000) (hvl:x.l.length≤100000):∀ (r q o:List Pr5) (d:Bool),la=q ++ r→o.length≤q.length+(if d then 1 else 0) →
  P22_0 (size h) (size h) (.int .i64 (q.length:Int)) a (.int .i64 x.k) v (gV h zP 2 (o.map eP5)) (.bool d) (gH h 78 (o.map eP5))=some (gD zP 2 ((o ++ insG x d r).map eP5),h)
 | [],q,o,d,hp,ho=>by
  have h1:¬ (q.length < la.length):=by rw [hp];simp
  have hq:q.length=la.length:=by rw [hp];simp
  have hc:=fun H=>copy_spec (h:=H) (size h) hv hvl
  rw [←hxv] at hc
  have hbv:buildV [.int .i64 0,.nils] [(0,1,.int .i64 x.k),(1,1,x.v)]=some (.agg [.int .i64 x.k,x.v]):=by
   have h1:=x.hv.cells
   have h2:=x.hv.scalar
   simp only [buildV,buildAgg,h1,List.length_cons,List.length_nil,List.all_cons,h2,setRange]
   rfl
  rw [P22_0_eq]
  cases d with
  | true=>simp only [ha.len,dec_lt,h1,decide_false,frz_gV gzP,below_gD gzP _ _ (elP5.belows _ _),trunc_gH,insG,if_true,List.append_nil,↓evD,evU,evL,evM,Nat.reduceAdd,Nat.reduceSub,Nat.reduceMul,Nat.reduceLeDiff,Nat.reduceLT,Nat.reduceEqDiff,Nat.reduceBEq,reduceIte,reduceCtorEq,Int.reduceBEq,Int.reduceEq,Int.reduceLT,Int.reduceLE,Int.reduceGT,Int.reduceGE,Int.reduceAdd,Int.reduceSub,Int.reduceNeg,Int.reduceBNe,ite_true,ite_false,if_true,if_false,implies_true,forall_const]
  | false =>
   have hg:growT (gH h 78 (o.map eP5)) 78 2 (gV h zP 2 (o.map eP5)) [.agg [.int .i64 x.k,x.v]]=_:=gOneL (h:=h) (T:=78) elP5 gzP o x (by unfold lim2;simp at ho;omega)
   simp only [ha.len,dec_lt,h1,decide_false,hc,hbv,x.hv.strip,x.hv.scalar,hg,frz_gV gzP,below_gD gzP _ _ (elP5.belows _ _),trunc_gH,insG,Bool.false_eq_true,↓evD,evU,evL,evM,Nat.reduceAdd,Nat.reduceSub,Nat.reduceMul,Nat.reduceLeDiff,Nat.reduceLT,Nat.reduceEqDiff,Nat.reduceBEq,reduceIte,reduceCtorEq,Int.reduceBEq,Int.reduceEq,Int.reduceLT,Int.reduceLE,Int.reduceGT,Int.reduceGE,Int.reduceAdd,Int.reduceSub,Int.reduceNeg,Int.reduceBNe,ite_true,ite_false,if_true,if_false,implies_true,forall_const]
 | p :: r,q,o,d,hp,ho=>by
  have el:la.length=q.length+(r.length+1):=by rw [hp];simp
  have h1:q.length < la.length:=by omega
  have hx:la[q.length]?=some p:=by rw [hp];simp
  have hix:idxAB a (.int .i64 (q.length:Int)) 2=some (.ep [.int .i64 p.k,p.v] 0):=ha.idx hx
  have w1:IntKind.i64.wrap ((q.length:Int)+1)=(((q ++ [p]).length:Nat):Int):=by rw [show (q ++ [p]).length=q.length+1 by simp,wrap_small] <;> omega
  have hc:=fun H=>copy_spec (h:=H) (size h) hv hvl
  rw [←hxv] at hc
  have hbv:buildV [.int .i64 0,.nils] [(0,1,.int .i64 x.k),(1,1,x.v)]=some (.agg [.int .i64 x.k,x.v]):=by
   have h1:=x.hv.cells
   have h2:=x.hv.scalar
   simp only [buildV,buildAgg,h1,List.length_cons,List.length_nil,List.all_cons,h2,setRange]
   rfl
  have dg:decide (p.k ≥ x.k)=decide (x.k≤p.k):=rfl
  rw [P22_0_eq]
  by_cases hc1:d=false∧x.k≤p.k
  ·obtain ⟨rfl,hc2⟩:=hc1
   have hg:growT (gH h 78 (o.map eP5)) 78 2 (gV h zP 2 (o.map eP5)) [.agg [.int .i64 x.k,x.v]]=_:=gOneL (h:=h) (T:=78) elP5 gzP o x (by unfold lim2;simp at ho;omega)
   have d2:decide (x.k≤p.k)=true:=by simpa using hc2
   have e0:insG x false (p :: r)=x :: ((if p.k=x.k then [] else [p]) ++ insG x true r):=by simp only [insG];rw [if_pos ⟨trivial,hc2⟩]
   rw [e0]
   by_cases hk:p.k=x.k
   ·have d1:(p.k != x.k)=false:=by simpa using hk
    have ih:=ins_loop x hv hxv hl hvl r (q ++ [p]) (o ++ [x]) true (by rw [hp];simp) (by simp at ho ⊢;omega)
    have e1:o ++ x :: ((if p.k=x.k then [] else [p]) ++ insG x true r)=(o ++ [x]) ++ insG x true r:=by rw [if_pos hk];simp
    rw [e1]
    simp only [ha.len,dec_lt,h1,decide_true,hix,ldk,ldp,dg,d2,hc,hbv,x.hv.strip,x.hv.scalar,p.hv.strip,p.hv.scalar,d1,hg,w1,ih,↓evD,evU,evL,evM,Nat.reduceAdd,Nat.reduceSub,Nat.reduceMul,Nat.reduceLeDiff,Nat.reduceLT,Nat.reduceEqDiff,Nat.reduceBEq,reduceIte,reduceCtorEq,Int.reduceBEq,Int.reduceEq,Int.reduceLT,Int.reduceLE,Int.reduceGT,Int.reduceGE,Int.reduceAdd,Int.reduceSub,Int.reduceNeg,Int.reduceBNe,ite_true,ite_false,if_true,if_false,implies_true,forall_const]
   ·have d1:(p.k != x.k)=true:=by simpa using hk
    have hg2:growT (gH h 78 ((o ++ [x]).map eP5)) 78 2 (gV h zP 2 ((o ++ [x]).map eP5)) [.agg [.int .i64 p.k,p.v]]=_:=gOneL (h:=h) (T:=78) elP5 gzP (o ++ [x]) p (by unfold lim2;simp at ho ⊢;omega)
    have ih:=ins_loop x hv hxv hl hvl r (q ++ [p]) (o ++ [x] ++ [p]) true (by rw [hp];simp) (by simp at ho ⊢;omega)
    have e1:o ++ x :: ((if p.k=x.k then [] else [p]) ++ insG x true r)=(o ++ [x] ++ [p]) ++ insG x true r:=by rw [if_neg hk];simp
    rw [e1]
    simp only [ha.len,dec_lt,h1,decide_true,hix,ldk,ldp,dg,d2,hc,hbv,x.hv.strip,x.hv.scalar,p.hv.strip,p.hv.scalar,d1,hg,hg2,w1,ih,↓evD,evU,evL,evM,Nat.reduceAdd,Nat.reduceSub,Nat.reduceMul,Nat.reduceLeDiff,Nat.reduceLT,Nat.reduceEqDiff,Nat.reduceBEq,reduceIte,reduceCtorEq,Int.reduceBEq,Int.reduceEq,Int.reduceLT,Int.reduceLE,Int.reduceGT,Int.reduceGE,Int.reduceAdd,Int.reduceSub,Int.reduceNeg,Int.reduceBNe,ite_true,ite_false,if_true,if_false,implies_true,forall_const]
  ·have e0:insG x d (p :: r)=(if p.k=x.k then [] else [p]) ++ insG x d r:=by simp only [insG];rw [if_neg hc1]
   rw [e0]
   have dd:d=true∨(d=false∧decide (x.k≤p.k)=false):=by
    cases d with
    | true=>exact .inl rfl
    | false=>exact .inr ⟨rfl,by simpa using fun q=>hc1 ⟨rfl,q⟩⟩
   by_cases hk:p.k=x.k
   ·have d1:(p.k != x.k)=false:=by simpa using hk
    have ih:=ins_loop x hv hxv hl hvl r (q ++ [p]) o d (by rw [hp];simp) (by simp;omega)
    rw [if_pos hk,List.nil_append]
    rcases dd with rfl | ⟨rfl,d2⟩
    ·simp only [ha.len,dec_lt,h1,decide_true,hix,ldk,ldp,p.hv.strip,p.hv.scalar,d1,w1,ih,↓evD,evU,evL,evM,Nat.reduceAdd,Nat.reduceSub,Nat.reduceMul,Nat.reduceLeDiff,Nat.reduceLT,Nat.reduceEqDiff,Nat.reduceBEq,reduceIte,reduceCtorEq,Int.reduceBEq,Int.reduceEq,Int.reduceLT,Int.reduceLE,Int.reduceGT,Int.reduceGE,Int.reduceAdd,Int.reduceSub,Int.reduceNeg,Int.reduceBNe,ite_true,ite_false,if_true,if_false,implies_true,forall_const]
    ·simp only [ha.len,dec_lt,h1,decide_true,hix,ldk,ldp,dg,d2,p.hv.strip,p.hv.scalar,d1,w1,ih,↓evD,evU,evL,evM,Nat.reduceAdd,Nat.reduceSub,Nat.reduceMul,Nat.reduceLeDiff,Nat.reduceLT,Nat.reduceEqDiff,Nat.reduceBEq,reduceIte,reduceCtorEq,Int.reduceBEq,Int.reduceEq,Int.reduceLT,Int.reduceLE,Int.reduceGT,Int.reduceGE,Int.reduceAdd,Int.reduceSub,Int.reduceNeg,Int.reduceBNe,ite_true,ite_false,if_true,if_false,implies_true,forall_const]
   ·have d1:(p.k != x.k)=true:=by simpa using hk
    have hg:growT (gH h 78 (o.map eP5)) 78 2 (gV h zP 2 (o.map eP5)) [.agg [.int .i64 p.k,p.v]]=_:=gOneL (h:=h) (T:=78) elP5 gzP o p (by unfold lim2;split at ho <;> omega)
    have ih:=ins_loop x hv hxv hl hvl r (q ++ [p]) (o ++ [p]) d (by rw [hp];simp) (by simp;omega)
    have e1:o ++ ((if p.k=x.k then [] else [p]) ++ insG x d r)=(o ++ [p]) ++ insG x d r:=by rw [if_neg hk];simp
    rw [e1]
    rcases dd with rfl | ⟨rfl,d2⟩
    ·simp only [ha.len,dec_lt,h1,decide_true,hix,ldk,ldp,p.hv.strip,p.hv.scalar,d1,hg,w1,ih,↓evD,evU,evL,evM,Nat.reduceAdd,Nat.reduceSub,Nat.reduceMul,Nat.reduceLeDiff,Nat.reduceLT,Nat.reduceEqDiff,Nat.reduceBEq,reduceIte,reduceCtorEq,Int.reduceBEq,Int.reduceEq,Int.reduceLT,Int.reduceLE,Int.reduceGT,Int.reduceGE,Int.reduceAdd,Int.reduceSub,Int.reduceNeg,Int.reduceBNe,ite_true,ite_false,if_true,if_false,implies_true,forall_const]
    ·simp only [ha.len,dec_lt,h1,decide_true,hix,ldk,ldp,dg,d2,p.hv.strip,p.hv.scalar,d1,hg,w1,ih,↓evD,evU,evL,evM,Nat.reduceAdd,Nat.reduceSub,Nat.reduceMul,Nat.reduceLeDiff,Nat.reduceLT,Nat.reduceEqDiff,Nat.reduceBEq,reduceIte,reduceCtorEq,Int.reduceBEq,Int.reduceEq,Int.reduceLT,Int.reduceLE,Int.reduceGT,Int.reduceGE,Int.reduceAdd,Int.reduceSub,Int.reduceNeg,Int.reduceBNe,ite_true,ite_false,if_true,if_false,implies_true,forall_const]
theorem ins_spec (base:Nat) (x:Pr5) {v:PV} (hv:∀ H,Rd H v x.l) (hxv:x.v=gD zF 1 (u8s x.l)) (hl:la.length≤1000) (hvl:x.l.length≤100000):CallA T base 22 [a,.int .i64 x.k,v] h=some (gD zP 2 ((insG x false la).map eP5),h):=by
 have:=ins_loop (h:=h) ha x hv hxv hl hvl la [] [] false rfl (by simp)
 have hb:buildSlV 2 true [(.int .i64 0),.nils] 0 []=some zP:=rfl
 have e1:gV h zP 2 (([] : List Pr5).map eP5)=zP:=rfl
 have e2:gH h 78 (([] : List Pr5).map eP5)=h:=rfl
 simp only [e1,e2,List.length_nil,show ((0:Nat):Int)=0 from rfl,List.nil_append] at this
 rw [S22,hb,Option.bnd_some,this]
theorem eq_loop {b:PV} {lb:List Pr5} (hb:Rl eP5 2 b lb) (hlen:la.length=lb.length) (hl:la.length≤1000) (hs:∀ p∈la,p.l.length≤1000000):∀ (r q s t:List Pr5),la=q ++ r→lb=s ++ t→q.length=s.length →
  P25_0 (size h) (size h) (.int .i64 (q.length:Int)) b a h=some (.bool (cL r == cL t),h)
 | [],q,s,t,hp,hq,hqs=>by
  have h1:¬ (q.length < la.length):=by rw [hp];simp
  have:t=[]:=by
   rw [hp,hq] at hlen
   simp at hlen
   exact List.length_eq_zero_iff.1 (by omega)
  subst this
  rw [P25_0_eq]
  simp only [ha.len,dec_lt,h1,decide_false,trunc_self,↓evD,evU,evL,evM,Nat.reduceAdd,Nat.reduceSub,Nat.reduceMul,Nat.reduceLeDiff,Nat.reduceLT,Nat.reduceEqDiff,Nat.reduceBEq,reduceIte,reduceCtorEq,Int.reduceBEq,Int.reduceEq,Int.reduceLT,Int.reduceLE,Int.reduceGT,Int.reduceGE,Int.reduceAdd,Int.reduceSub,Int.reduceNeg,Int.reduceBNe,ite_true,ite_false,if_true,if_false,implies_true,forall_const] <;> rfl
 | p :: r,q,s,t,hp,hq,hqs=>by
  obtain ⟨u,t,rfl⟩ : ∃ u t',t=u :: t':=by
   cases t with
   | nil=>rw [hp,hq] at hlen;simp at hlen;omega
   | cons u t=>exact ⟨u,t,rfl⟩
  have el:la.length=q.length+(r.length+1):=by rw [hp];simp
  have h1:q.length < la.length:=by omega
  have hx:la[q.length]?=some p:=by rw [hp];simp
  have hy:lb[q.length]?=some u:=by rw [hq,hqs];simp
  have hix:idxAB a (.int .i64 (q.length:Int)) 2=some (.ep [.int .i64 p.k,p.v] 0):=ha.idx hx
  have hiy:idxAB b (.int .i64 (q.length:Int)) 2=some (.ep [.int .i64 u.k,u.v] 0):=hb.idx hy
  have w1:IntKind.i64.wrap ((q.length:Int)+1)=(((q ++ [p]).length:Nat):Int):=by rw [show (q ++ [p]).length=q.length+1 by simp,wrap_small] <;> omega
  have hsm:=same_spec (h:=h) (size h) (rdA p.hv h) (rdA u.hv h) (hs p (by rw [hp];simp))
  have ih:=eq_loop hb hlen hl hs r (q ++ [p]) (s ++ [u]) t (by rw [hp];simp) (by rw [hq];simp) (by simp [hqs])
  have ec:(cL (p :: r) == cL (u :: t))=((p.k == u.k && p.l == u.l) && (cL r == cL t)):=by
   show (((p.k,p.l) :: cL r) == ((u.k,u.l) :: cL t))=_
   rw [List.cons_beq_cons];rfl
  rw [P25_0_eq,ec]
  by_cases hk:p.k=u.k
  ·have d1:(p.k != u.k)=false:=by simpa using hk
   have d2:(p.k == u.k)=true:=by simpa using hk
   cases hll:(p.l == u.l) with
   | true =>
    rw [hll] at hsm
    simp only [ha.len,dec_lt,h1,decide_true,hix,hiy,ldk,ldv,d1,d2,hsm,w1,ih,Bool.true_and,↓evD,evU,evL,evM,Nat.reduceAdd,Nat.reduceSub,Nat.reduceMul,Nat.reduceLeDiff,Nat.reduceLT,Nat.reduceEqDiff,Nat.reduceBEq,reduceIte,reduceCtorEq,Int.reduceBEq,Int.reduceEq,Int.reduceLT,Int.reduceLE,Int.reduceGT,Int.reduceGE,Int.reduceAdd,Int.reduceSub,Int.reduceNeg,Int.reduceBNe,ite_true,ite_false,if_true,if_false,implies_true,forall_const]
   | false =>
    rw [hll] at hsm
    simp only [ha.len,dec_lt,h1,decide_true,hix,hiy,ldk,ldv,d1,d2,hsm,trunc_self,Bool.and_false,Bool.false_and,↓evD,evU,evL,evM,Nat.reduceAdd,Nat.reduceSub,Nat.reduceMul,Nat.reduceLeDiff,Nat.reduceLT,Nat.reduceEqDiff,Nat.reduceBEq,reduceIte,reduceCtorEq,Int.reduceBEq,Int.reduceEq,Int.reduceLT,Int.reduceLE,Int.reduceGT,Int.reduceGE,Int.reduceAdd,Int.reduceSub,Int.reduceNeg,Int.reduceBNe,ite_true,ite_false,if_true,if_false,implies_true,forall_const]
  ·have d1:(p.k != u.k)=true:=by simpa using hk
   have d2:(p.k == u.k)=false:=by simpa using hk
   simp only [ha.len,dec_lt,h1,decide_true,hix,hiy,ldk,ldv,d1,d2,trunc_self,Bool.false_and,↓evD,evU,evL,evM,Nat.reduceAdd,Nat.reduceSub,Nat.reduceMul,Nat.reduceLeDiff,Nat.reduceLT,Nat.reduceEqDiff,Nat.reduceBEq,reduceIte,reduceCtorEq,Int.reduceBEq,Int.reduceEq,Int.reduceLT,Int.reduceLE,Int.reduceGT,Int.reduceGE,Int.reduceAdd,Int.reduceSub,Int.reduceNeg,Int.reduceBNe,ite_true,ite_false,if_true,if_false,implies_true,forall_const]
theorem eq_spec (base:Nat) {b:PV} {lb:List Pr5} (hb:Rl eP5 2 b lb) (hl:la.length≤1000) (hl2:lb.length≤1000) (hs:∀ p∈la,p.l.length≤1000000):CallA T base 25 [a,b] h=some (.bool (cL la == cL lb),h):=by
 rw [S25]
 by_cases hq:la.length=lb.length
 ·have hsl:=eq_loop (h:=h) ha hb hq hl hs la [] [] lb rfl rfl rfl
  have d1:((la.length:Int) != (lb.length:Int))=false:=by rw [hq];simp
  simp only [List.length_nil,show ((0:Nat):Int)=0 from rfl] at hsl
  simp only [ha.len,hb.len,d1,hsl,↓evD,evU,evL,evM,Nat.reduceAdd,Nat.reduceSub,Nat.reduceMul,Nat.reduceLeDiff,Nat.reduceLT,Nat.reduceEqDiff,Nat.reduceBEq,reduceIte,reduceCtorEq,Int.reduceBEq,Int.reduceEq,Int.reduceLT,Int.reduceLE,Int.reduceGT,Int.reduceGE,Int.reduceAdd,Int.reduceSub,Int.reduceNeg,Int.reduceBNe,ite_true,ite_false,if_true,if_false,implies_true,forall_const]
 ·have d1:((la.length:Int) != (lb.length:Int))=true:=by simp;omega
  have d2:(cL la == cL lb)=false:=by
   rw [beq_eq_false_iff_ne];intro hc
   have:=congrArg List.length hc
   simp [cL] at this
   exact hq this
  rw [d2]
  simp only [ha.len,hb.len,d1,trunc_self,↓evD,evU,evL,evM,Nat.reduceAdd,Nat.reduceSub,Nat.reduceMul,Nat.reduceLeDiff,Nat.reduceLT,Nat.reduceEqDiff,Nat.reduceBEq,reduceIte,reduceCtorEq,Int.reduceBEq,Int.reduceEq,Int.reduceLT,Int.reduceLE,Int.reduceGT,Int.reduceGE,Int.reduceAdd,Int.reduceSub,Int.reduceNeg,Int.reduceBNe,ite_true,ite_false,if_true,if_false,implies_true,forall_const]
end
end Go.Am.Ytlonabodghfjdaa
namespace Go.Am.Ytlonabodghfjdaa
set_option linter.unusedSimpArgs false
set_option linter.unusedVariables false
theorem gd_app1 {l l':List UInt8} {j:Nat} (h:j < l.length):(l ++ l').getD j 0=l.getD j 0:=by simp [List.getElem?_append_left h]
theorem gd_app2 {l l':List UInt8} {j:Nat} (h:l.length≤j):(l ++ l').getD j 0=l'.getD (j - l.length) 0:=by simp [List.getElem?_append_right h]
def Wr (F G:Fl) (a:Nat) (l:List UInt8) (k:Nat):Prop:=∀ j,G.b.getD j 0=if a≤j∧j < a+k then l.getD (j - a) 0 else F.b.getD j 0
def En (e:Nat) (G:Fl) (k n:Nat):Prop:=(e=0∧k=n∧G.down=false)∨(e=30∧k < n∧G.down=true)
theorem Wr.out {F G:Fl} {a k n:Nat} {l:List UInt8} (h:Wr F G a l k) (hk:k≤n):Out F G a n:=fun i q=>by rw [h i,if_neg (by omega)]
theorem En.le {e k n:Nat} {G:Fl} (h:En e G k n):k≤n:=by rcases h with h | h <;> omega
theorem Wr.zero (F:Fl) (a:Nat) (l:List UInt8):Wr F F a l 0:=fun j=>by rw [if_neg (by omega)]
theorem prog_cut:∀ (l:List UInt8) {F:Fl} (i:Nat),FIn F→F.down=false→i+l.length≤F.b.length→∃ k,Wr F (F.prog i l).2 i l k∧En (F.prog i l).1 (F.prog i l).2 k l.length
 | [],F,i,hF,hd,hl=>⟨0,Wr.zero F i [],.inl ⟨rfl,rfl,hd⟩⟩
 | c :: r,F,i,hF,hd,hl=>by
  simp only [List.length_cons] at hl
  by_cases h0:F.left=0
  ·have ht:F.turn i c=(false,{ F with down:=true }):=by unfold Fl.turn;rw [if_pos h0]
   have hq:F.prog i (c :: r)=(30,{ F with down:=true }):=by rw [Fl.prog,if_neg (by rw [ht];simp),ht]
   rw [hq]
   exact ⟨0,fun j=>by rw [if_neg (by omega)],.inr ⟨rfl,by simp,rfl⟩⟩
  ·obtain ⟨t1,t2,t3,t4⟩:=hF.turn i c
   have ht1:(F.turn i c).1=true:=by unfold Fl.turn;rw [if_neg h0]
   have htb:(F.turn i c).2.b=F.b.set i c:=by unfold Fl.turn;rw [if_neg h0]
   have htd:(F.turn i c).2.down=false:=by unfold Fl.turn;rw [if_neg h0];exact hd
   obtain ⟨k,k1,k2⟩:=prog_cut r (i+1) t1 htd (by rw [t2];omega)
   have hq:F.prog i (c :: r)=(F.turn i c).2.prog (i+1) r:=by rw [Fl.prog,if_pos ht1]
   rw [hq]
   have hkl:=k2.le
   refine ⟨k+1,fun j=>?_,?_⟩
   ·rw [k1 j,htb]
    by_cases hj:j=i
    ·subst hj
     rw [if_neg (by omega),if_pos (by omega)]
     have:j < F.b.length:=by omega
     simp [this]
    ·by_cases h4:i+1≤j∧j < i+1+k
     ·rw [if_pos h4,if_pos (by omega),show j - i=(j - (i+1))+1 by omega]
      simp
     ·rw [if_neg h4,if_neg (by omega)]
      simp [List.getElem?_set_ne (show i≠j by omega)]
   ·rcases k2 with ⟨e1,e2,e3⟩ | ⟨e1,e2,e3⟩
    ·exact .inl ⟨e1,by simp [e2],e3⟩
    ·exact .inr ⟨e1,by simp;omega,e3⟩
theorem program_cut {F:Fl} {a:Nat} {l:List UInt8} (hF:FIn F) (hd:F.down=false) (hl:a+l.length≤F.b.length) (h:A255 F a l.length):∃ k,Wr F (F.program a l).2 a l k∧En (F.program a l).1 (F.program a l).2 k l.length:=by
 have hq:F.program a l=F.prog a l:=by
  unfold Fl.program
  rw [if_neg (by rw [hd];simp),if_pos (clears_255 h)]
 rw [hq]
 exact prog_cut l a hF hd hl
theorem Wr.seq {F G H:Fl} {a k:Nat} {l l':List UInt8} (h1:Wr F G a l l.length) (h2:Wr G H (a+l.length) l' k):Wr F H a (l ++ l') (l.length+k):=fun j=>by
 rw [h2 j]
 by_cases q1:a+l.length≤j∧j < a+l.length+k
 ·rw [if_pos q1,if_pos (by omega),gd_app2 (by omega),Nat.sub_sub]
 ·rw [if_neg q1,h1 j]
  by_cases q2:a≤j∧j < a+l.length
  ·rw [if_pos q2,if_pos (by omega),gd_app1 (by omega)]
  ·rw [if_neg q2,if_neg (by omega)]
theorem Wr.pre {F G:Fl} {a k:Nat} {l:List UInt8} (l':List UInt8) (h:Wr F G a l k) (hk:k≤l.length):Wr F G a (l ++ l') k:=fun j=>by
 rw [h j]
 by_cases q:a≤j∧j < a+k
 ·rw [if_pos q,if_pos q,gd_app1 (by omega)]
 ·rw [if_neg q,if_neg q]
theorem seq_cut {F:Fl} {a:Nat} {l l':List UInt8} {p1:Nat × Fl} {p2:Nat × Fl} {r:Nat × Fl} (h1:∃ k,Wr F p1.2 a l k∧En p1.1 p1.2 k l.length) (h2:p1.1=0→p1.2.down=false→Wr F p1.2 a l l.length→∃ k,Wr p1.2 p2.2 (a+l.length) l' k∧En p2.1 p2.2 k l'.length)
  (h3:p1.1=0→r=p2) (h4:p1.1≠0→r=p1):∃ k,Wr F r.2 a (l ++ l') k∧En r.1 r.2 k (l ++ l').length:=by
 obtain ⟨k,k1,k2⟩:=h1
 rcases k2 with ⟨e1,rfl,e3⟩ | ⟨e1,e2,e3⟩
 ·obtain ⟨k',m1,m2⟩:=h2 e1 e3 k1
  rw [h3 e1]
  refine ⟨l.length+k',k1.seq m1,?_⟩
  rw [List.length_append]
  rcases m2 with ⟨f1,f2,f3⟩ | ⟨f1,f2,f3⟩
  ·exact .inl ⟨f1,by omega,f3⟩
  ·exact .inr ⟨f1,by omega,f3⟩
 ·rw [h4 (by omega)]
  refine ⟨k,k1.pre l' (by omega),.inr ⟨e1,by rw [List.length_append];omega,e3⟩⟩
theorem lay_cut {F:Fl} {a:Nat} {l:List UInt8} (hF:FIn F) (hd:F.down=false) (hl:a+(l.length+1)≤F.b.length) (h:A255 F a (l.length+1)):∃ k,Wr F (F.lay a l).2 a (l ++ [0]) k∧En (F.lay a l).1 (F.lay a l).2 k (l.length+1):=by
 obtain ⟨g1,g2,g3,g4⟩:=hF.program a l
 have h1:=program_cut (l:=l) hF hd (by omega) (h.sub (Nat.le_refl _) (by omega))
 have:=seq_cut (l':=[0]) (p2:=(F.program a l).2.program (a+l.length) [0]) (r:=F.lay a l) h1 (fun e1 e2 e3=>program_cut (l:=[0]) g1 e2 (by rw [g2];simp;omega) ((h.sub (a':=a+l.length) (n':=1) (by omega) (by omega)).out (e3.out (Nat.le_refl _)) (.inr (Nat.le_refl _))))
  (fun e=>by unfold Fl.lay;rw [if_pos e]) (fun e=>by unfold Fl.lay;rw [if_neg e])
 simpa using this
def recsL (vs:Vs) (ks:List Nat):List UInt8:=ks.flatMap fun k=>bodyL (UInt8.ofNat k) (vB ((getV vs k).getD none)) false ++ [0]
theorem recsL_cons (vs:Vs) (k:Nat) (ks:List Nat):recsL vs (k :: ks)=(bodyL (UInt8.ofNat k) (vB ((getV vs k).getD none)) false ++ [0]) ++ recsL vs ks:=rfl
theorem recsL_length (vs:Vs):∀ ks:List Nat,(recsL vs ks).length=sumK vs ks
 | []=>rfl
 | k :: ks=>by
  rw [recsL_cons,List.length_append,recsL_length vs ks,List.length_append,bodyL_length]
  simp [sumK];omega
theorem fill_cut (A:Nat) (vs:Vs):∀ (ks:List Nat) {F:Fl} (a:Nat),FIn F→F.down=false→A+a+sumK vs ks≤F.b.length→A255 F (A+a) (sumK vs ks) →
  ∃ k,Wr F (F.fill A a vs ks).2.2 (A+a) (recsL vs ks) k∧En (F.fill A a vs ks).2.1 (F.fill A a vs ks).2.2 k (recsL vs ks).length
 | [],F,a,hF,hd,hl,h=>⟨0,Wr.zero _ _ _,.inl ⟨rfl,rfl,hd⟩⟩
 | k :: r,F,a,hF,hd,hl,h=>by
  have hs:sumK vs (k :: r)=(7+(vB ((getV vs k).getD none)).length)+sumK vs r:=by simp [sumK]
  rw [hs] at hl h
  have hbl:(bodyL (UInt8.ofNat k) (vB ((getV vs k).getD none)) false).length=(vB ((getV vs k).getD none)).length+6:=bodyL_length _ _ _
  rw [recsL_cons]
  unfold Fl.fill
  generalize (vB ((getV vs k).getD none))=v at *
  generalize bodyL (UInt8.ofNat k) v false=bd at *
  have h1:=lay_cut (F:=F) (a:=A+a) (l:=bd) hF hd (by omega) (h.sub (Nat.le_refl _) (by omega))
  have hl1:(bd ++ [(0:UInt8)]).length=bd.length+1:=by simp
  rw [←hl1] at h1
  obtain ⟨g1,g2,g3,g4⟩:=hF.lay (A+a) bd
  refine seq_cut (p1:=F.lay (A+a) bd) (p2:=((F.lay (A+a) bd).2.fill A (a+(7+v.length)) vs r).2) h1 (fun e1 e2 e3=>?_) (fun e=>by rw [if_pos e]) (fun e=>by rw [if_neg e])
  have:=fill_cut A vs r (a+(7+v.length)) g1 e2 (by rw [g2];omega) ((h.sub (a':=A+(a+(7+v.length))) (n':=sumK vs r) (by omega) (by omega)).out (e3.out (Nat.le_refl _)) (.inr (by rw [hl1];omega)))
  rw [show A+a+(bd ++ [(0:UInt8)]).length=A+(a+(7+v.length)) by rw [hl1];omega]
  exact this
theorem erase_cut {F:Fl} {s:Nat} (hF:FIn F) (hs:s < F.wear.length) (hd:F.down=false) (hl:s * F.sector+F.sector≤F.b.length):∃ k,Wr F (F.erase s).2 (s * F.sector) (List.replicate F.sector 255) k∧En (F.erase s).1 (F.erase s).2 k (List.replicate F.sector (255:UInt8)).length:=by
 have hF':FIn { F with wear:=F.wear.set s (min (F.wear.getD s 0+1) 1073741824) }:=⟨hF.turned,hF.left,hF.len,fun n hn=>by
  rcases List.mem_or_eq_of_mem_set hn with h1 | rfl
  ·exact hF.wear n h1
  ·exact Nat.min_le_right _ _⟩
 obtain ⟨k,h1,h2⟩:=prog_cut (List.replicate F.sector 255) (s * F.sector) hF' hd (by simpa using hl)
 unfold Fl.erase
 rw [if_neg (by rw [hd];simp)]
 exact ⟨k,h1,h2⟩
theorem clear2_cut {F:Fl} {s:Nat} (hF:FIn F) (hd:F.down=false) (hw:s+2≤F.wear.length) (hl:(s+2) * F.sector≤F.b.length) :
  ∃ k,Wr F (F.clear s 2).2 (s * F.sector) (List.replicate (2 * F.sector) 255) k∧En (F.clear s 2).1 (F.clear s 2).2 k (2 * F.sector):=by
 have e1:(s+1) * F.sector=s * F.sector+F.sector:=Nat.succ_mul _ _
 have e2:(s+2) * F.sector=s * F.sector+2 * F.sector:=Nat.add_mul _ _ _
 have h1:=erase_cut (F:=F) (s:=s) hF (by omega) hd (by omega)
 obtain ⟨g1,g2,g3,g4⟩:=hF.erase s (by omega)
 have hr:List.replicate F.sector (255:UInt8) ++ List.replicate F.sector 255=List.replicate (2 * F.sector) 255:=by rw [List.replicate_append_replicate];congr 1;omega
 have hlen:(List.replicate F.sector (255:UInt8)).length=F.sector:=by simp
 have:=seq_cut (p2:=(F.erase s).2.erase (s+1)) (r:=F.clear s 2) (l':=List.replicate F.sector 255) h1 (fun a1 a2 a3=>by
   have:=erase_cut (F:=(F.erase s).2) (s:=s+1) g1 (by rw [g3];omega) a2 (by rw [g4,g2];omega)
   rw [g4,e1] at this
   rw [hlen] at this ⊢
   exact this)
  (fun e=>by
   rw [Fl.clear,if_pos e,Fl.clear]
   split
   ·rename_i q;rw [show (F.erase s).2.erase (s+1)=(((F.erase s).2.erase (s+1)).1,((F.erase s).2.erase (s+1)).2) from rfl,q];rfl
   ·rfl) (fun e=>by rw [Fl.clear,if_neg e])
 rw [hr] at this
 simpa using this
def At (F:Fl) (a:Nat) (l:List UInt8):Prop:=∀ j,j < l.length→F.b.getD (a+j) 0=l.getD j 0
theorem Wr.at {F G:Fl} {a:Nat} {l:List UInt8} (h:Wr F G a l l.length):At G a l:=fun j hj=>by
 rw [h (a+j),if_pos (by omega)];congr 1;omega
theorem At.out {F G:Fl} {a a' n:Nat} {l:List UInt8} (h:At F a l) (ho:Out F G a' n) (hd:a+l.length≤a'∨a'+n≤a):At G a l:=fun j hj=>by
 rw [ho (a+j) (by omega)];exact h j hj
theorem At.append {F:Fl} {a:Nat} {l l':List UInt8} (h1:At F a l) (h2:At F (a+l.length) l'):At F a (l ++ l'):=fun j hj=>by
 rw [List.length_append] at hj
 by_cases q:j < l.length
 ·rw [gd_app1 q];exact h1 j q
 ·rw [gd_app2 (by omega),←h2 (j - l.length) (by omega)];congr 1;omega
theorem At.cons {F:Fl} {a:Nat} {c:UInt8} {l:List UInt8} (h1:F.b.getD a 0=c) (h2:At F (a+1) l):At F a (c :: l):=fun j hj=>by
 cases j with
 | zero=>simpa using h1
 | succ j =>
  have:=h2 j (by simpa using hj)
  rw [show a+(j+1)=a+1+j by omega,this];simp
theorem A255.at {F:Fl} {a n:Nat} (h:A255 F a n):At F a (List.replicate n 255):=fun j hj=>by
 rw [List.length_replicate] at hj
 rw [h (a+j) (by omega) (by omega)];simp [hj]
def hdB (ep:BitVec 32):List UInt8:=0 :: (bytes4 ep ++ List.replicate 3 255)
theorem hdB_length (ep:BitVec 32):(hdB ep).length=8:=rfl
theorem move_cut {F:Fl} {sz:Nat} (hF:Fq F sz) (hd:F.down=false) {J:Jn} (hnow:J.now≤1) {vs:Vs} (hk:Keyed vs) (hsz:needV vs≤sz) (hep:J.epoch≠4294967295#32) :
  (∃ F',F.move sz J vs=(0,F',some ⟨1 - J.now,needV vs,J.epoch+1#32⟩)∧F'.down=false∧Out F F' (2 * (1 - J.now) * F.sector) sz∧At F' (2 * (1 - J.now) * F.sector) (hdB (J.epoch+1#32) ++ recsL vs (keysN vs))∧A255 F' (2 * (1 - J.now) * F.sector+needV vs) (sz - needV vs)) ∨
  (∃ F',F.move sz J vs=(30,F',none)∧F'.down=true∧Out F F' (2 * (1 - J.now) * F.sector) sz∧(F'.b.getD (2 * (1 - J.now) * F.sector) 0=255∨∀ j,F'.b.getD j 0=F.b.getD j 0)):=by
 have hs:=hF.sz
 have hlen:=hF.len
 have hpos:=hF.pos
 have hge:=sum_ge vs
 have hA:2 * (1 - J.now) * F.sector+2 * F.sector≤F.b.length:=by
  have:=Nat.mul_le_mul_right F.sector (show 2 * (1 - J.now)+2≤4 by omega)
  rw [Nat.add_mul] at this
  omega
 obtain ⟨k1,c1,c2⟩:=clear2_cut (F:=F) (s:=2 * (1 - J.now)) hF.fin hd (by rw [hF.wear];omega) (by rw [Nat.add_mul];exact hA)
 obtain ⟨f1,s1⟩:=hF.clear (2 * (1 - J.now)) 2 (by omega)
 have l1:=f1.len
 have hsum:=sum_keysN hk
 have hb4:(bytes4 (J.epoch+1#32)).length=4:=rfl
 unfold Fl.move
 rw [if_neg (by omega),if_neg hep]
 simp only
 generalize hA0:2 * (1 - J.now) * F.sector=A at *
 rcases c2 with ⟨e1,rfl,e3⟩ | ⟨e1,e2,e3⟩
 rotate_left
 ·right
  rw [if_pos (by omega),e1]
  refine ⟨_,rfl,e3,c1.out (by omega),?_⟩
  cases k1 with
  | zero=>right;intro j;rw [c1 j,if_neg (by omega)]
  | succ k1=>left;rw [c1 A,if_pos (by omega),Nat.sub_self,List.getD_eq_getElem?_getD,List.getElem?_replicate,if_pos (by omega)];rfl
 rw [if_neg (by omega)]
 have o1:=c1.out (n:=sz) (by omega)
 have z0:A255 (F.clear (2 * (1 - J.now)) 2).2 A sz:=fun j q1 q2=>by
  rw [c1 j,if_pos (by omega)]
  have:j - A < 2 * F.sector:=by omega
  simp [this]
 generalize hC:(F.clear (2 * (1 - J.now)) 2).2=C at *
 obtain ⟨k2,d1,d2⟩:=fill_cut A vs (keysN vs) (F:=C) 8 f1.fin e3 (by rw [l1,s1];omega) (z0.sub (by omega) (by omega))
 obtain ⟨f2,s2⟩:=f1.fill A 8 vs (keysN vs)
 have l2:=f2.len
 have d2le:=d2.le
 rw [recsL_length] at d2 d2le
 have o2:Out C (C.fill A 8 vs (keysN vs)).2.2 (A+8) (needV vs - 8):=d1.out (by omega)
 generalize hG:C.fill A 8 vs (keysN vs)=G at *
 have o2':Out F G.2.2 A sz:=o1.trans (o2.sub (by omega) (by omega))
 have z1:A255 G.2.2 A 8:=(z0.sub (Nat.le_refl _) (by omega)).out o2 (.inl (by omega))
 rcases d2 with ⟨e4,rfl,e6⟩ | ⟨e4,e5,e6⟩
 rotate_left
 ·right
  rw [if_pos (by omega),e4]
  exact ⟨_,rfl,e6,o2',.inl (z1 A (Nat.le_refl _) (by omega))⟩
 rw [if_neg (by omega)]
 have hend:G.1=needV vs:=by rw [←hsum,←hG];exact fill_end _ _ _ _ (by rw [hG];exact e4)
 have hrec:At G.2.2 (A+8) (recsL vs (keysN vs)):=by rw [←recsL_length] at d1;exact d1.at
 have z2:A255 G.2.2 (A+needV vs) (sz - needV vs):=(z0.sub (by omega) (by omega)).out o2 (.inr (by omega))
 obtain ⟨k3,p1,p2⟩:=program_cut (F:=G.2.2) (a:=A+1) (l:=bytes4 (J.epoch+1#32)) f2.fin e6 (by rw [hb4,l2,s2,s1];omega) (z1.sub (by omega) (by rw [hb4];omega))
 obtain ⟨f3,s3⟩:=f2.program (A+1) (bytes4 (J.epoch+1#32))
 have l3:=f3.len
 have p2le:=p2.le
 have o3:Out G.2.2 (G.2.2.program (A+1) (bytes4 (J.epoch+1#32))).2 (A+1) 4:=p1.out (by omega)
 generalize hW:G.2.2.program (A+1) (bytes4 (J.epoch+1#32))=W at *
 have o3':Out F W.2 A sz:=o2'.trans (o3.sub (by omega) (by omega))
 have z3:A255 W.2 A 1:=(z1.sub (Nat.le_refl _) (by omega)).out o3 (.inl (by omega))
 rcases p2 with ⟨e7,rfl,e9⟩ | ⟨e7,e8,e9⟩
 rotate_left
 ·right
  rw [if_pos (by omega),e7]
  exact ⟨_,rfl,e9,o3',.inl (z3 A (Nat.le_refl _) (by omega))⟩
 rw [if_neg (by omega)]
 obtain ⟨k4,q1,q2⟩:=program_cut (F:=W.2) (a:=A+0) (l:=[0]) f3.fin e9 (by rw [l3,s3,s2,s1];simp;omega) z3
 have q2le:=q2.le
 simp only [List.length_singleton] at q2 q2le
 have o4:Out W.2 (W.2.program (A+0) [0]).2 A 1:=q1.out (by omega)
 generalize hX:W.2.program (A+0) [0]=X at *
 have o4':Out F X.2 A sz:=o3'.trans (o4.sub (by omega) (by omega))
 rcases q2 with ⟨e10,rfl,e12⟩ | ⟨e10,e11,e12⟩
 rotate_left
 ·right
  rw [if_pos (by omega),e10]
  refine ⟨_,rfl,e12,o4',.inl ?_⟩
  rw [q1 A,if_neg (by omega)]
  exact z3 A (Nat.le_refl _) (by omega)
 ·left
  rw [if_neg (by omega),hend]
  refine ⟨_,rfl,e12,o4',?_,(z2.out o3 (.inr (by omega))).out o4 (.inr (by omega))⟩
  have m1:At X.2 (A+1) (bytes4 (J.epoch+1#32)):=(p1.at).out o4 (.inr (Nat.le_refl _))
  have m2:At X.2 (A+5) (List.replicate 3 255):=A255.at (((z1.sub (a':=A+5) (n':=3) (by omega) (by omega)).out o3 (.inr (by omega))).out o4 (.inr (by omega)))
  have m3:At X.2 (A+8) (recsL vs (keysN vs)):=(hrec.out o3 (.inr (by omega))).out o4 (.inr (by omega))
  have m0:X.2.b.getD A 0=0:=by rw [q1 A,if_pos (by omega),show A - (A+0)=0 by omega];rfl
  have hh:At X.2 A (hdB (J.epoch+1#32)):=At.cons m0 (At.append m1 (by rw [hb4];exact m2))
  exact At.append hh (by rw [hdB_length];exact m3)
end Go.Am.Ytlonabodghfjdaa
namespace Go.Am.Ytlonabodghfjdaa
set_option linter.unusedSimpArgs false
set_option linter.unusedVariables false
theorem byteAt_bv (n:BitVec 32) (k:Nat):(byteAt n k).toBitVec=(n >>> (8 * k)).setWidth 8:=by
 apply BitVec.eq_of_toNat_eq
 simp [byteAt]
theorem get4_bytes4 (n:BitVec 32) (post:List UInt8):get4 (bytes4 n ++ post)=n:=by
 have h:get4 (bytes4 n ++ post)=((((0#32 ||| ((byteAt n 0).toBitVec.setWidth 32) <<< (8 * 0)) ||| ((byteAt n 1).toBitVec.setWidth 32) <<< (8 * 1)) ||| ((byteAt n 2).toBitVec.setWidth 32) <<< (8 * 2)) ||| ((byteAt n 3).toBitVec.setWidth 32) <<< (8 * 3)):=rfl
 rw [h]
 simp only [byteAt_bv]
 apply BitVec.eq_of_getLsbD_eq
 intro i hi
 simp only [BitVec.getLsbD_or,BitVec.getLsbD_shiftLeft,BitVec.getLsbD_setWidth,BitVec.getLsbD_ushiftRight,BitVec.getLsbD_zero,Bool.false_or]
 by_cases h1:i < 8
 ·have a1:i < 16:=by omega
  have a2:i < 24:=by omega
  simp [h1,a1,a2,hi]
 by_cases h2:i < 16
 ·have a2:i < 24:=by omega
  have a3:i - 8 < 8:=by omega
  have a4:8+(i - 8)=i:=by omega
  simp [h1,h2,a2,a3,a4,hi]
  omega
 by_cases h3:i < 24
 ·have a3:i - 16 < 8:=by omega
  have a4:16+(i - 16)=i:=by omega
  have a5:¬ (i - 8 < 8):=by omega
  simp [h1,h2,h3,a3,a4,a5,hi]
  omega
 ·have a3:i - 24 < 8:=by omega
  have a4:24+(i - 24)=i:=by omega
  have a5:¬ (i - 8 < 8):=by omega
  have a6:¬ (i - 16 < 8):=by omega
  simp [h1,h2,h3,a3,a4,a5,a6,hi]
  omega
theorem openB_seal (l:List UInt8):openB (l ++ bytes4 (crcS l))=true:=by
 have h4:(bytes4 (crcS l)).length=4:=rfl
 unfold openB
 have e1:(l ++ bytes4 (crcS l)).length - 4=l.length:=by rw [List.length_append,h4];omega
 rw [e1,List.drop_left' rfl,List.take_left' rfl]
 have:=get4_bytes4 (crcS l) []
 rw [List.append_nil] at this
 rw [this]
 simp [h4]
def rcB (k:Nat) (l:List UInt8) (dr:Bool):List UInt8:=bodyL (UInt8.ofNat k) l dr ++ [0]
theorem rcB_length (k:Nat) (l:List UInt8) (dr:Bool):(rcB k l dr).length=l.length+7:=by simp [rcB,bodyL_length]
theorem rcB_at (k:Nat) (l:List UInt8) (dr:Bool):(rcB k l dr).getD 0 0=UInt8.ofNat k∧(rcB k l dr).getD 1 0=(if dr then 254 else UInt8.ofNat l.length):=⟨rfl,rfl⟩
theorem rcB_mark (k:Nat) (l:List UInt8) (dr:Bool):(rcB k l dr).getD (l.length+6) 0=0:=by
 unfold rcB
 rw [gd_app2 (by rw [bodyL_length];exact Nat.le_refl _),bodyL_length,Nat.sub_self];rfl
theorem gd_cat {p q:List UInt8} {j:Nat}:(p ++ q).getD (p.length+j) 0=q.getD j 0:=by rw [gd_app2 (by omega)];congr 1;omega
theorem len254 {n:Nat} (hn:n≤250):(UInt8.ofNat n == 254)=false∧(UInt8.ofNat n).toNat=n:=by
 have h:(UInt8.ofNat n).toNat=n:=by rw [UInt8.toNat_ofNat'];omega
 refine ⟨?_,h⟩
 rw [beq_eq_false_iff_ne]
 intro hq
 rw [hq] at h
 have:(254:UInt8).toNat=254:=rfl
 omega
theorem key32 {k:Nat} (hk:k < 32):¬ (32≤UInt8.ofNat k)∧(UInt8.ofNat k).toNat=k:=by
 have h:(UInt8.ofNat k).toNat=k:=by rw [UInt8.toNat_ofNat'];omega
 refine ⟨fun hq=>?_,h⟩
 have:=UInt8.le_iff_toNat_le.1 hq
 have h32:(32:UInt8).toNat=32:=rfl
 omega
theorem next_rec (pre post:List UInt8) {k:Nat} (hk:k < 32) {l:List UInt8} (hl:l.length≤250) {dr:Bool} (hd:dr=true→l=[]) :
  nextL (pre ++ (rcB k l dr ++ post)) pre.length=some ⟨UInt8.ofNat k,l,dr,pre.length+(l.length+7)⟩∧openB (((pre ++ (rcB k l dr ++ post)).drop pre.length).take (pre.length+(l.length+7) - 1 - pre.length))=true:=by
 obtain ⟨k1,k2⟩:=key32 hk
 obtain ⟨n1,n2⟩:=len254 hl
 have hlen:(pre ++ (rcB k l dr ++ post)).length=pre.length+((l.length+7)+post.length):=by rw [List.length_append,List.length_append,rcB_length]
 have g0:(pre ++ (rcB k l dr ++ post)).getD pre.length 0=UInt8.ofNat k:=by
  have:=gd_cat (p:=pre) (q:=rcB k l dr ++ post) (j:=0)
  rw [Nat.add_zero] at this
  rw [this,gd_app1 (by rw [rcB_length];omega)];rfl
 have g1:(pre ++ (rcB k l dr ++ post)).getD (pre.length+1) 0=(if dr then 254 else UInt8.ofNat l.length):=by
  rw [gd_cat,gd_app1 (by rw [rcB_length];omega)];rfl
 have gm:(pre ++ (rcB k l dr ++ post)).getD (pre.length+(l.length+6)) 0=0:=by
  rw [gd_cat,gd_app1 (by rw [rcB_length];omega),rcB_mark]
 have hb:(if ((if dr then (254:UInt8) else UInt8.ofNat l.length) == 254)=true then 0 else (if dr then (254:UInt8) else UInt8.ofNat l.length).toNat)=l.length:=by
  cases dr with
  | true=>rw [hd rfl];rfl
  | false=>simp only [Bool.false_eq_true,if_false,n1,n2]
 have hdr:((if dr then (254:UInt8) else UInt8.ofNat l.length) == 254)=dr:=by
  cases dr with
  | true=>rfl
  | false=>simp only [Bool.false_eq_true,if_false,n1]
 have e1:(pre ++ (rcB k l dr ++ post)).drop pre.length=rcB k l dr ++ post:=List.drop_left' rfl
 have hval:((pre ++ (rcB k l dr ++ post)).drop (pre.length+2)).take l.length=l:=by
  rw [←List.drop_drop,e1]
  unfold rcB bodyL
  simp
 constructor
 ·unfold nextL
  rw [if_neg (by omega),g0,if_neg k1,g1,hb,hdr]
  unfold nextT
  rw [if_neg (by omega),if_neg (by omega),show pre.length+7+l.length - 1=pre.length+(l.length+6) by omega,if_neg (by rw [gm];simp),hval,show pre.length+7+l.length=pre.length+(l.length+7) by omega]
 ·rw [e1,show pre.length+(l.length+7) - 1 - pre.length=(bodyL (UInt8.ofNat k) l dr).length by rw [bodyL_length];omega]
  unfold rcB
  rw [List.append_assoc,List.take_left' rfl]
  exact openB_seal _
theorem next_part {b:List UInt8} {a m:Nat} {k:Nat} {l:List UInt8} {dr:Bool} (hk:k < 32) (hl:l.length≤250) (hd:dr=true→l=[]) (hm:m < l.length+7)
  (hb:∀ j,a+j < b.length→b.getD (a+j) 0=if j < m then (rcB k l dr).getD j 0 else 255):nextL b a=none:=by
 unfold nextL
 by_cases h1:b.length < a+2
 ·rw [if_pos h1]
 rw [if_neg h1]
 have b0:=hb 0 (by omega)
 have b1:=hb 1 (by omega)
 rw [Nat.add_zero] at b0
 by_cases m0:0 < m
 ·rw [if_pos m0] at b0
  by_cases m1:1 < m
  ·rw [if_pos m1] at b1
   obtain ⟨n1,n2⟩:=len254 hl
   have hn:(if (b.getD (a+1) 0 == 254)=true then 0 else (b.getD (a+1) 0).toNat)=l.length:=by
    rw [b1,(rcB_at k l dr).2]
    cases dr with
    | true=>rw [hd rfl];rfl
    | false=>simp only [Bool.false_eq_true,if_false,n1,n2]
   rw [hn]
   split
   ·rfl
   unfold nextT
   split
   ·rfl
   split
   ·rfl
   rename_i h2
   have:=hb (l.length+6) (by omega)
   rw [if_neg (by omega)] at this
   rw [if_pos]
   rw [show a+7+l.length - 1=a+(l.length+6) by omega,this];decide
  ·rw [if_neg m1] at b1
   have hn:(if (b.getD (a+1) 0 == 254)=true then 0 else (b.getD (a+1) 0).toNat)=255:=by rw [b1];rfl
   rw [hn]
   split
   ·rfl
   ·unfold nextT;rw [if_pos (by omega)]
 ·rw [if_neg m0] at b0
  rw [b0,if_pos (by decide)]
theorem next_255 {b:List UInt8} {a:Nat} (hb:∀ j,a+j < b.length→b.getD (a+j) 0=255):nextL b a=none :=
 next_part (k:=0) (l:=[]) (dr:=false) (m:=0) (by omega) (by simp) (by simp) (by simp) fun j hj=>by rw [if_neg (by omega)];exact hb j hj
/-! ### Rows of records -/
abbrev Rc:=Nat × Option (List UInt8)
def Rc.ok (r:Rc):Prop:=r.1 < 32∧(r.2.getD []).length≤250
def Rc.b (r:Rc):List UInt8:=rcB r.1 (r.2.getD []) r.2.isNone
def Rc.ap (vs:Vs) (r:Rc):Vs:=match r.2 with | none=>delV vs (r.1:Int) | some v=>setV vs r.1 (some v)
def rcsB (rs:List Rc):List UInt8:=rs.flatMap Rc.b
theorem rcsB_cons (r:Rc) (rs:List Rc):rcsB (r :: rs)=r.b ++ rcsB rs:=rfl
theorem rcsB_append (rs ts:List Rc):rcsB (rs ++ ts)=rcsB rs ++ rcsB ts:=by simp [rcsB]
theorem repl_row:∀ (rs:List Rc) (pre post:List UInt8) (vs:Vs) (n:Nat),(∀ r∈rs,r.ok)→nextL (pre ++ (rcsB rs ++ post)) (pre.length+(rcsB rs).length)=none→rs.length < n →
  repl (pre ++ (rcsB rs ++ post)) n pre.length vs=(0,pre.length+(rcsB rs).length,rs.foldl Rc.ap vs)
 | [],pre,post,vs,n,hr,hn,hlt=>by
  obtain ⟨n,rfl⟩ : ∃ m,n=m+1:=⟨n - 1,by simp at hlt;omega⟩
  simp only [repl]
  have:(rcsB ([] : List Rc)).length=0:=rfl
  rw [this,Nat.add_zero] at hn ⊢
  rw [hn];rfl
 | r :: rs,pre,post,vs,n,hr,hn,hlt=>by
  obtain ⟨n,rfl⟩ : ∃ m,n=m+1:=⟨n - 1,by simp at hlt;omega⟩
  obtain ⟨r1,r2⟩:=hr r (by simp)
  have hdv:r.2.isNone=true→r.2.getD []=[]:=fun h=>by cases hq:r.2 <;> simp_all
  obtain ⟨p1,p2⟩:=next_rec pre (rcsB rs ++ post) r1 r2 hdv
  have e1:pre ++ (rcsB (r :: rs) ++ post)=pre ++ (rcB r.1 (r.2.getD []) r.2.isNone ++ (rcsB rs ++ post)):=by rw [rcsB_cons,List.append_assoc];rfl
  have e2:pre ++ (rcB r.1 (r.2.getD []) r.2.isNone ++ (rcsB rs ++ post))=(pre ++ r.b) ++ (rcsB rs ++ post):=by rw [List.append_assoc];rfl
  have hbl:r.b.length=(r.2.getD []).length+7:=rcB_length _ _ _
  have hpl:(pre ++ r.b).length=pre.length+((r.2.getD []).length+7):=by rw [List.length_append,hbl]
  have hlt2:rs.length < n:=by simp at hlt;omega
  have ih:=repl_row rs (pre ++ r.b) post (r.ap vs) n (fun x hx=>hr x (by simp [hx])) (by
   rw [←e2,←e1,hpl]
   rw [rcsB_cons,List.length_append,hbl] at hn
   rw [←hn];congr 1;omega) hlt2
  rw [e1]
  simp only [repl,p1]
  rw [if_pos p2]
  rw [e2,←hpl]
  have hap:(if r.2.isNone=true then delV vs ((UInt8.ofNat r.1).toNat:Int) else setV vs (UInt8.ofNat r.1).toNat (some (r.2.getD [])))=r.ap vs:=by
   rw [(key32 r1).2]
   unfold Rc.ap
   cases hq:r.2 <;> simp
  rw [hap,ih,List.foldl_cons,hpl,rcsB_cons,List.length_append,hbl]
  simp only [Prod.mk.injEq,true_and,and_true]
  omega
theorem replM_row (hd:List UInt8) (h8:hd.length=8) (rs:List Rc) (post:List UInt8) (hr:∀ r∈rs,r.ok) (hn:nextL (hd ++ (rcsB rs ++ post)) (8+(rcsB rs).length)=none) :
  replM (hd ++ (rcsB rs ++ post))=(0,8+(rcsB rs).length,rs.foldl Rc.ap []):=by
 have hlen:∀ rs:List Rc,rs.length≤(rcsB rs).length:=by
  intro rs
  induction rs with
  | nil=>simp
  | cons r rs ih =>
   have hbl:r.b.length=(r.2.getD []).length+7:=rcB_length _ _ _
   rw [rcsB_cons,List.length_append,List.length_cons,hbl];omega
 have:=repl_row rs hd post [] ((hd ++ (rcsB rs ++ post)).length+1) hr (by rw [h8];exact hn) (by have:=hlen rs;rw [List.length_append,List.length_append];omega)
 rw [h8] at this
 exact this
end Go.Am.Ytlonabodghfjdaa
namespace Go.Am.Ytlonabodghfjdaa
set_option linter.unusedSimpArgs false
set_option linter.unusedVariables false
abbrev CL:=List (Nat × List UInt8)
def Inc (l:CL):Prop:=l.Pairwise fun a b=>a.1 < b.1
def lkp:CL→Nat→Option (List UInt8)
 | [],_=>none
 | e :: r,k=>if e.1=k then some e.2 else lkp r k
theorem lkp_mem:∀ {l:CL},Inc l→∀ (k:Nat) (v:List UInt8),lkp l k=some v ↔ (k,v)∈l
 | [],_,k,v=>by simp [lkp]
 | e :: r,h,k,v=>by
  obtain ⟨h1,h2⟩:=List.pairwise_cons.1 h
  have ih:=lkp_mem h2 k v
  simp only [lkp,List.mem_cons]
  by_cases hk:e.1=k
  ·rw [if_pos hk]
   constructor
   ·intro q;left;rw [←hk,←Option.some.inj q]
   ·rintro (q | q)
    ·rw [←q]
    ·have:=h1 _ q;simp only at this;omega
  ·rw [if_neg hk,ih]
   constructor
   ·exact .inr
   ·rintro (q | q)
    ·rw [←q] at hk;exact absurd rfl hk
    ·exact q
theorem inc_ext {l m:CL} (hl:Inc l) (hm:Inc m) (h:∀ k,lkp l k=lkp m k):l=m:=by
 have hnd:∀ {l:CL},Inc l→l.Nodup:=fun {l} h=>by
  unfold Inc at h
  exact h.imp fun {a b} hab hq=>by rw [hq] at hab;exact Nat.lt_irrefl _ hab
 refine List.Perm.eq_of_pairwise (le:=fun (a b:Nat × List UInt8)=>a.1 < b.1) (fun a b _ _ h1 h2=>by omega) hl hm ((List.perm_ext_iff_of_nodup (hnd hl) (hnd hm)).2 fun ⟨k,v⟩=>?_)
 rw [←lkp_mem hl,←lkp_mem hm,h]
def insL:CL→Nat→List UInt8→CL
 | [],k,v=>[(k,v)]
 | e :: r,k,v=>if k < e.1 then (k,v) :: e :: r else if k=e.1 then (k,v) :: r else e :: insL r k v
def remL (l:CL) (k:Nat):CL:=l.filter fun e=>decide (e.1≠k)
theorem mem_insL (k:Nat) (v:List UInt8):∀ (l:CL) (e:Nat × List UInt8),e∈insL l k v→e=(k,v)∨e∈l
 | [],e,h=>by simpa [insL] using h
 | e0 :: r,e,h=>by
  simp only [insL] at h
  split at h
  ·rcases List.mem_cons.1 h with h | h
   ·exact .inl h
   ·exact .inr h
  ·split at h
   ·rcases List.mem_cons.1 h with h | h
    ·exact .inl h
    ·exact .inr (List.mem_cons_of_mem _ h)
   ·rcases List.mem_cons.1 h with h | h
    ·exact .inr (by rw [h];exact List.mem_cons_self)
    ·rcases mem_insL k v r e h with h | h
     ·exact .inl h
     ·exact .inr (List.mem_cons_of_mem _ h)
theorem inc_insL (k:Nat) (v:List UInt8):∀ {l:CL},Inc l→Inc (insL l k v)
 | [],_=>by simp [insL,Inc]
 | e0 :: r,h=>by
  obtain ⟨h1,h2⟩:=List.pairwise_cons.1 h
  simp only [insL]
  split
  ·rename_i q
   exact List.pairwise_cons.2 ⟨fun x hx=>by
    rcases List.mem_cons.1 hx with rfl | hx
    ·exact q
    ·have:=h1 x hx;simp only at this ⊢;omega,h⟩
  ·split
   ·rename_i q q2
    exact List.pairwise_cons.2 ⟨fun x hx=>by have:=h1 x hx;simp only at this ⊢;omega,h2⟩
   ·rename_i q q2
    exact List.pairwise_cons.2 ⟨fun x hx=>by
     rcases mem_insL k v r x hx with rfl | hx
     ·simp only;omega
     ·exact h1 x hx,inc_insL k v h2⟩
theorem lkp_insL (k:Nat) (v:List UInt8) (j:Nat):∀ (l:CL),Inc l→lkp (insL l k v) j=if k=j then some v else lkp l j
 | [],_=>by simp [insL,lkp]
 | e0 :: r,h=>by
  obtain ⟨h1,h2⟩:=List.pairwise_cons.1 h
  have ih:=lkp_insL k v j r h2
  simp only [insL]
  split
  ·simp only [lkp]
  ·split
   ·rename_i q q2
    simp only [lkp]
    by_cases hj:k=j
    ·rw [if_pos hj,if_pos hj]
    ·rw [if_neg hj,if_neg hj,if_neg (by omega)]
   ·rename_i q q2
    simp only [lkp]
    rw [ih]
    by_cases hj:e0.1=j
    ·rw [if_pos hj,if_pos hj,if_neg (by omega)]
    ·rw [if_neg hj,if_neg hj]
theorem inc_remL (k:Nat) {l:CL} (h:Inc l):Inc (remL l k):=List.Pairwise.sublist List.filter_sublist h
theorem lkp_remL (k j:Nat):∀ (l:CL),lkp (remL l k) j=if k=j then none else lkp l j
 | []=>by simp [remL,lkp]
 | e0 :: r=>by
  have ih:=lkp_remL k j r
  unfold remL at ih ⊢
  rw [List.filter_cons]
  by_cases hk:e0.1=k
  ·rw [if_neg (by simpa using hk),ih]
   simp only [lkp]
   by_cases hj:k=j
   ·rw [if_pos hj,if_pos hj]
   ·rw [if_neg hj,if_neg hj,if_neg (by omega)]
  ·rw [if_pos (by simpa using hk)]
   simp only [lkp]
   rw [ih]
   by_cases hj:k=j
   ·rw [if_pos hj,if_pos hj,if_neg (by omega)]
   ·rw [if_neg hj,if_neg hj]
def clOf (vs:Vs):CL:=(keysN vs).map fun k=>(k,vB ((getV vs k).getD none))
theorem keysN_inc {vs:Vs} (hk:Keyed vs):(keysN vs).Pairwise (· < ·):=by
 have h1:(keysN vs).Pairwise fun a b=>decide (a≤b)=true:=List.pairwise_mergeSort (fun a b c h1 h2=>by simp at *;omega) (fun a b=>by simp;omega) _
 have h2:(keysN vs).Pairwise (·≠·):=by
  unfold keysN
  exact (List.mergeSort_perm _ _).nodup_iff.2 hk
 exact (h1.and h2).imp fun {a b} ⟨q1,q2⟩=>by
  have:a≤b:=by simpa using q1
  omega
theorem clOf_inc {vs:Vs} (hk:Keyed vs):Inc (clOf vs):=by
 unfold Inc clOf
 rw [List.pairwise_map]
 exact keysN_inc hk
theorem getV_none_of {k:Int}:∀ {vs:Vs},(∀ e∈vs,(e.1:Int)≠k)→getV vs k=none
 | [],_=>rfl
 | e :: r,h=>by
  simp only [getV]
  rw [if_neg (h e (by simp)),getV_none_of fun x hx=>h x (by simp [hx])]
theorem lkp_clOf {vs:Vs} (hk:Keyed vs) (k:Nat):lkp (clOf vs) k=(getV vs k).map vB:=by
 by_cases hm:∃ e∈vs,e.1=k
 ·obtain ⟨e,he,rfl⟩:=hm
  have h1:=getV_mem hk e he
  rw [h1]
  refine (lkp_mem (clOf_inc hk) _ _).2 (List.mem_map.2 ⟨e.1,(mem_keysN vs e.1).2 ⟨e,he,rfl⟩,?_⟩)
  rw [h1];rfl
 ·have h1:getV vs k=none:=getV_none_of fun e he hq=>hm ⟨e,he,by omega⟩
  rw [h1]
  cases hq:lkp (clOf vs) k with
  | none=>rfl
  | some v =>
   obtain ⟨k',hk',he⟩:=List.mem_map.1 ((lkp_mem (clOf_inc hk) _ _).1 hq)
   simp only [Prod.mk.injEq] at he
   rw [he.1] at hk'
   exact absurd ((mem_keysN vs k).1 hk') hm
theorem getV_setV (k:Nat) (v:Option (List UInt8)) (j:Nat):∀ (vs:Vs),getV (setV vs k v) j=if k=j then some v else getV vs j
 | []=>by
  simp only [setV,getV]
  by_cases hj:k=j
  ·rw [if_pos hj,if_pos (by omega)]
  ·rw [if_neg hj,if_neg (by omega)]
 | e :: r=>by
  have ih:=getV_setV k v j r
  simp only [setV]
  by_cases h:e.1=k
  ·rw [if_pos h]
   simp only [getV]
   by_cases hj:k=j
   ·rw [if_pos (by omega),if_pos hj]
   ·rw [if_neg (by omega),if_neg hj,if_neg (by omega)]
  ·rw [if_neg h]
   simp only [getV]
   rw [ih]
   by_cases hj:k=j
   ·rw [if_pos hj,if_neg (by omega),if_pos hj]
   ·rw [if_neg hj,if_neg hj]
theorem getV_delV (k:Nat) (j:Nat):∀ {vs:Vs},Keyed vs→getV (delV vs (k:Int)) j=if k=j then none else getV vs j
 | [],_=>by simp [delV,getV]
 | e :: r,hk=>by
  simp only [Keyed,List.map_cons,List.nodup_cons] at hk
  have ih:=getV_delV k j hk.2
  simp only [delV]
  by_cases h:(e.1:Int)=k
  ·rw [if_pos h]
   simp only [getV]
   by_cases hj:k=j
   ·rw [if_pos hj]
    exact getV_none_of fun x hx hq=>hk.1 (by rw [show e.1=x.1 by omega];exact List.mem_map.2 ⟨x,hx,rfl⟩)
   ·rw [if_neg hj,if_neg (by omega)]
  ·rw [if_neg h]
   simp only [getV]
   rw [ih]
   by_cases hj:k=j
   ·rw [if_pos hj,if_neg (by omega)]
    rw [if_pos hj]
   ·rw [if_neg hj,if_neg hj]
theorem clOf_setV {vs:Vs} (hk:Keyed vs) (k:Nat) (v:Option (List UInt8)):clOf (setV vs k v)=insL (clOf vs) k (vB v) :=
 inc_ext (clOf_inc (hk.setV k v)) (inc_insL _ _ (clOf_inc hk)) fun j=>by
  rw [lkp_clOf (hk.setV k v),lkp_insL _ _ _ _ (clOf_inc hk),lkp_clOf hk,getV_setV]
  split <;> rfl
theorem clOf_delV {vs:Vs} (hk:Keyed vs) (k:Nat):clOf (delV vs (k:Int))=remL (clOf vs) k :=
 inc_ext (clOf_inc (hk.delV k)) (inc_remL _ (clOf_inc hk)) fun j=>by
  rw [lkp_clOf (hk.delV k),lkp_remL,lkp_clOf hk,getV_delV k j hk]
  split <;> rfl
def needC (l:CL):Nat:=8+(l.map fun e=>7+e.2.length).sum
theorem needC_of {vs:Vs} (hk:Keyed vs):needC (clOf vs)=needV vs:=by
 rw [←sum_keysN hk]
 unfold needC clOf sumK
 rw [List.map_map];rfl
def rcsC (l:CL):List Rc:=l.map fun e=>(e.1,some e.2)
theorem recsL_of (vs:Vs):recsL vs (keysN vs)=rcsB (rcsC (clOf vs)):=by
 unfold recsL rcsB rcsC clOf
 rw [List.map_map,List.flatMap_map]
 rfl
theorem fold_fresh:∀ (l:CL) (acc:Vs),Inc l→(∀ e∈acc,∀ x∈l,e.1 < x.1)→(rcsC l).foldl Rc.ap acc=acc ++ l.map fun e=>(e.1,some e.2)
 | [],acc,_,_=>by simp [rcsC]
 | e :: r,acc,h,ha=>by
  obtain ⟨h1,h2⟩:=List.pairwise_cons.1 h
  have h3:Rc.ap acc (e.1,some e.2)=acc ++ [(e.1,some e.2)]:=by
   show setV acc e.1 (some e.2)=_
   clear h h1 h2
   induction acc with
   | nil=>rfl
   | cons a acc ih =>
    have:=ha a (by simp) e (by simp)
    simp only [setV]
    rw [if_neg (by omega),ih fun x hx y hy=>ha x (by simp [hx]) y hy];rfl
  show (rcsC r).foldl Rc.ap (Rc.ap acc (e.1,some e.2))=_
  rw [h3,fold_fresh r _ h2 (fun x hx y hy=>by
   rcases List.mem_append.1 hx with hx | hx
   ·exact ha x hx y (by simp [hy])
   ·simp only [List.mem_singleton] at hx;subst hx;exact h1 y hy)]
  simp
theorem fold_cl {l:CL} (h:Inc l):Keyed ((rcsC l).foldl Rc.ap [])∧clOf ((rcsC l).foldl Rc.ap [])=l:=by
 rw [fold_fresh l [] h (fun e he=>by simp at he),List.nil_append]
 have hk:Keyed (l.map fun e=>((e.1,some e.2):Nat × Option (List UInt8))):=by
  unfold Keyed
  rw [List.map_map]
  unfold Inc at h
  unfold List.Nodup
  rw [List.pairwise_map]
  exact h.imp fun {a b} q hq=>by simp only [Function.comp] at hq;omega
 refine ⟨hk,inc_ext (clOf_inc hk) h fun k=>?_⟩
 rw [lkp_clOf hk]
 clear hk h
 induction l with
 | nil=>rfl
 | cons e r ih =>
  simp only [List.map_cons,getV,lkp]
  by_cases hq:e.1=k
  ·rw [if_pos hq,if_pos (by omega)];rfl
  ·rw [if_neg hq,if_neg (by omega),ih]
theorem fold_inv:∀ (rs:List Rc) (vs:Vs),(∀ r∈rs,r.ok)→Keyed vs→Small vs→Keyed (rs.foldl Rc.ap vs)∧Small (rs.foldl Rc.ap vs)
 | [],vs,_,h1,h2=>⟨h1,h2⟩
 | r :: rs,vs,hr,h1,h2=>by
  obtain ⟨q1,q2⟩:=hr r (by simp)
  have:Keyed (r.ap vs)∧Small (r.ap vs):=by
   unfold Rc.ap
   cases hq:r.2 with
   | none=>exact ⟨h1.delV _,h2.delV _⟩
   | some v=>exact ⟨h1.setV _ _,h2.setV h1 q1 (by rw [hq] at q2;exact q2)⟩
  exact fold_inv rs _ (fun x hx=>hr x (by simp [hx])) this.1 this.2
end Go.Am.Ytlonabodghfjdaa
namespace Go.Am.Ytlonabodghfjdaa
set_option linter.unusedSimpArgs false
set_option linter.unusedVariables false
variable {F G:Fl} {sz:Nat} {J:Jn} {vs:Vs}
theorem gd_ext {l m:List UInt8} (hl:l.length=m.length) (h:∀ j,j < l.length→l.getD j 0=m.getD j 0):l=m:=by
 apply List.ext_getElem hl
 intro i h1 h2
 have:=h i h1
 simp only [List.getD_eq_getElem?_getD,List.getElem?_eq_getElem h1,List.getElem?_eq_getElem h2,Option.getD_some] at this
 exact this
theorem grp_gd (hF:Fq F sz) {i j:Nat} (hj:j < sz):(grp F i).getD j 0=F.b.getD (2 * i * F.sector+j) 0:=by
 have:=hF.sz
 unfold grp
 simp only [List.getD_eq_getElem?_getD]
 rw [List.getElem?_take,if_pos (by omega),List.getElem?_drop]
theorem grp_sz (hF:Fq F sz) {i:Nat} (hi:i≤1):(grp F i).length=sz:=by rw [grp_len hF hi,hF.sz]
theorem grp_same (hF:Fq F sz) (hG:Fq G sz) (hs:G.sector=F.sector) {i:Nat} (hi:i≤1) (h:∀ j,j < sz→G.b.getD (2 * i * F.sector+j) 0=F.b.getD (2 * i * F.sector+j) 0):grp G i=grp F i :=
 gd_ext (by rw [grp_sz hF hi,grp_sz hG hi]) fun j hj=>by
  rw [grp_sz hG hi] at hj
  rw [grp_gd hG hj,grp_gd hF hj,hs,h j hj]
theorem reg (s:Nat) {n:Nat} (hn:n≤1):(n=0∧2 * n * s=0∧2 * (1 - n) * s=2 * s)∨(n=1∧2 * n * s=2 * s∧2 * (1 - n) * s=0):=by
 rcases Nat.le_one_iff_eq_zero_or_eq_one.1 hn with rfl | rfl <;> simp
structure St (F:Fl) (sz:Nat) (J:Jn) (vs:Vs):Prop where
 fq:Fq F sz
 now:J.now≤1
 keyed:Keyed vs
 need:needV vs≤sz
 row:∃ rs:List Rc,(∀ r∈rs,r.ok)∧clOf (rs.foldl Rc.ap [])=clOf vs∧J.fin=8+(rcsB rs).length∧J.fin≤sz∧At F (2 * J.now * F.sector) (hdB J.epoch ++ rcsB rs)
 tail:∃ k l dr m,k < 32∧List.length l≤250∧(dr=true→l=[])∧m < l.length+7∧∀ j,j < sz - J.fin→F.b.getD (2 * J.now * F.sector+J.fin+j) 0=if j < m then (rcB k l dr).getD j 0 else 255
 oth:(grp F (1 - J.now)).getD 0 0≠0∨(get4 ((grp F (1 - J.now)).drop 1)).toNat < J.epoch.toNat
theorem tail_255 (h:A255 F (2 * J.now * F.sector+J.fin) (sz - J.fin)):∃ k l dr m,k < 32∧List.length l≤250∧(dr=true→l=[])∧m < l.length+7∧∀ j,j < sz - J.fin→F.b.getD (2 * J.now * F.sector+J.fin+j) 0=if j < m then (rcB k l dr).getD j 0 else 255 :=
 ⟨0,[],false,0,by omega,by simp,by simp,by simp,fun j hj=>by rw [if_neg (by omega)];exact h _ (by omega) (by omega)⟩
theorem St.read (h:St F sz J vs):headsM F 0 0#32=⟨true,J.now,J.epoch⟩∧(grp F J.now).getD 0 0=0∧get4 ((grp F J.now).drop 1)=J.epoch∧∃ vs0,replM (grp F J.now)=(0,J.fin,vs0)∧clOf vs0=clOf vs∧Keyed vs0∧Small vs0:=by
 obtain ⟨rs,r1,r2,r3,r4,r5⟩:=h.row
 obtain ⟨k,l,dr,m,t1,t2,t3,t4,t5⟩:=h.tail
 have hsz:=grp_sz h.fq h.now
 have hlen:(hdB J.epoch ++ rcsB rs).length=J.fin:=by rw [List.length_append,hdB_length,r3]
 have hpre:(grp F J.now).take J.fin=hdB J.epoch ++ rcsB rs:=gd_ext (by rw [List.length_take,hlen,hsz];omega) fun j hj=>by
  rw [List.length_take,hsz] at hj
  rw [←r5 j (by rw [hlen];omega),←grp_gd h.fq (by omega)]
  simp only [List.getD_eq_getElem?_getD]
  rw [List.getElem?_take,if_pos (by omega)]
 have hg:grp F J.now=hdB J.epoch ++ (rcsB rs ++ (grp F J.now).drop J.fin):=by
  rw [←List.append_assoc,←hpre,List.take_append_drop]
 have hnx:nextL (grp F J.now) J.fin=none:=next_part t1 t2 t3 t4 fun j hj=>by
  rw [hsz] at hj
  rw [grp_gd h.fq hj,←Nat.add_assoc]
  exact t5 j (by omega)
 have g0:(grp F J.now).getD 0 0=0:=by rw [hg];rfl
 have g4:get4 ((grp F J.now).drop 1)=J.epoch:=by
  have e:∀ X:List UInt8,(hdB J.epoch ++ X).drop 1=bytes4 J.epoch ++ (List.replicate 3 255 ++ X):=fun X=>by
   unfold hdB
   rw [List.cons_append,List.drop_succ_cons,List.drop_zero,List.append_assoc]
  rw [hg,e]
  exact get4_bytes4 _ _
 refine ⟨?_,g0,g4,?_⟩
 ·have ho:=h.oth
  unfold headsM
  rcases Nat.le_one_iff_eq_zero_or_eq_one.1 h.now with hn | hn
  ·rw [hn] at g0 g4 ho ⊢
   have l0:(Hd.mk false 0 0#32).look F 0=⟨true,0,J.epoch⟩:=by
    unfold Hd.look
    rw [if_pos ⟨g0,.inl rfl⟩,g4]
   rw [l0]
   unfold Hd.look
   rw [if_neg]
   rintro ⟨q1,q2⟩
   rcases ho with ho | ho
   ·exact ho q1
   ·rcases q2 with q2 | q2
    ·cases q2
    ·simp only [Nat.sub_zero] at ho q2;omega
  ·rw [hn] at g0 g4 ho ⊢
   unfold Hd.look
   simp only [Nat.sub_self] at ho
   split
   ·rename_i q
    have:(get4 ((grp F 0).drop 1)).toNat < J.epoch.toNat:=ho.resolve_left fun hq=>hq q.1
    rw [if_pos ⟨g0,.inr (by rw [g4];exact this)⟩,g4]
   ·rw [if_pos ⟨g0,.inl rfl⟩,g4]
 ·have hr:=replM_row (hdB J.epoch) rfl rs ((grp F J.now).drop J.fin) r1 (by rw [←hg,←r3];exact hnx)
  rw [←hg,←r3] at hr
  obtain ⟨q1,q2⟩:=fold_inv rs [] r1 keyed_nil small_nil
  exact ⟨_,hr,r2,q1,q2⟩
theorem torn_255 (hF:Fq F sz) {i a:Nat} (hi:i≤1) (h:tornB (grp F i) a=false):A255 F (2 * i * F.sector+a) (sz - a):=fun j q1 q2=>by
 unfold tornB at h
 rw [List.any_eq_false] at h
 have hsz:=grp_sz hF hi
 have hj:j - 2 * i * F.sector < (grp F i).length:=by rw [hsz];omega
 have hm:(grp F i)[j - 2 * i * F.sector]∈(grp F i).drop a:=by
  rw [List.mem_iff_getElem]
  exact ⟨j - 2 * i * F.sector - a,by rw [List.length_drop];omega,by rw [List.getElem_drop];congr 1;omega⟩
 have:=h _ hm
 have hg:=grp_gd (i:=i) (j:=j - 2 * i * F.sector) hF (by omega)
 rw [show 2 * i * F.sector+(j - 2 * i * F.sector)=j by omega] at hg
 rw [←hg,List.getD_eq_getElem?_getD,List.getElem?_eq_getElem hj]
 simpa using this
theorem torn_no (hF:Fq F sz) {i a:Nat} (hi:i≤1) (h:A255 F (2 * i * F.sector+a) (sz - a)):tornB (grp F i) a=false:=by
 unfold tornB
 rw [List.any_eq_false]
 intro x hx
 obtain ⟨j,hj,rfl⟩:=List.mem_iff_getElem.1 hx
 have hsz:=grp_sz hF hi
 rw [List.length_drop,hsz] at hj
 have hg:=grp_gd (i:=i) (j:=a+j) hF (by omega)
 rw [h _ (by omega) (by omega),List.getD_eq_getElem?_getD,List.getElem?_eq_getElem (by omega)] at hg
 rw [List.getElem_drop]
 simpa using hg
theorem good_open (h:St F sz J vs) (hg:A255 F (2 * J.now * F.sector+J.fin) (sz - J.fin)) (hd:F.down=false):∃ vs0,F.openJ sz=(0,F,some (J,vs0))∧clOf vs0=clOf vs∧Keyed vs0:=by
 obtain ⟨e1,_,_,vs0,e2,e3,e4,e5⟩:=h.read
 refine ⟨vs0,?_,e3,e4⟩
 unfold Fl.openJ
 rw [if_neg (by rw [hd];simp),e1]
 simp only [e2,Bool.true_eq_false,if_false,torn_no h.fq h.now hg,Bool.false_eq_true,ne_eq,not_true_eq_false]
theorem ep_succ {e:BitVec 32} (h:e.toNat < 4294967295):(e+1#32).toNat=e.toNat+1∧e≠4294967295#32:=by
 refine ⟨?_,fun hq=>?_⟩
 ·rw [BitVec.toNat_add]
  have:(1#32).toNat=1:=rfl
  omega
 ·rw [hq] at h;have:(4294967295#32).toNat=4294967295:=rfl;omega
theorem st_moved0 (hF:Fq F sz) (hnow:J.now≤1) (hoth:(grp F J.now).getD 0 0≠0∨(get4 ((grp F J.now).drop 1)).toNat < (J.epoch+1#32).toNat) {vs':Vs} (hF':Fq G sz) (hs:G.sector=F.sector) (hk:Keyed vs') (hsm:Small vs') (hn:needV vs'≤sz) (ho:Out F G (2 * (1 - J.now) * F.sector) sz)
  (ha:At G (2 * (1 - J.now) * F.sector) (hdB (J.epoch+1#32) ++ recsL vs' (keysN vs'))) (hg:A255 G (2 * (1 - J.now) * F.sector+needV vs') (sz - needV vs')):St G sz ⟨1 - J.now,needV vs',J.epoch+1#32⟩ vs':=by
 have hsz:=hF.sz
 obtain ⟨f1,f2⟩:=fold_cl (clOf_inc hk)
 refine ⟨hF',by simp only;omega,hk,hn,⟨rcsC (clOf vs'),?_,f2,?_,hn,by rw [hs,←recsL_of];exact ha⟩,tail_255 (J:=⟨1 - J.now,needV vs',J.epoch+1#32⟩) (by rw [hs];exact hg),?_⟩
 ·intro r hr
  obtain ⟨e,he,rfl⟩:=List.mem_map.1 hr
  obtain ⟨k,hk',rfl⟩:=List.mem_map.1 he
  obtain ⟨x,hx,rfl⟩:=(mem_keysN vs' k).1 hk'
  have:=hsm.2 x hx
  refine ⟨this.1,?_⟩
  simp only [Option.getD_some,getV_mem hk x hx]
  exact this.2
 ·rw [←recsL_of,recsL_length,sum_keysN hk]
 ·have e1:1 - (1 - J.now)=J.now:=by omega
  have hgr:grp G J.now=grp F J.now:=grp_same hF hF' hs hnow fun j hj=>ho _ (by
   rcases reg F.sector hnow with ⟨_,q1,q2⟩ | ⟨_,q1,q2⟩ <;> omega)
  simp only [e1,hgr]
  exact hoth
theorem st_moved (h:St F sz J vs) {vs':Vs} (hF':Fq G sz) (hs:G.sector=F.sector) (hk:Keyed vs') (hsm:Small vs') (hn:needV vs'≤sz) (hep:J.epoch.toNat < 4294967295) (ho:Out F G (2 * (1 - J.now) * F.sector) sz)
  (ha:At G (2 * (1 - J.now) * F.sector) (hdB (J.epoch+1#32) ++ recsL vs' (keysN vs'))) (hg:A255 G (2 * (1 - J.now) * F.sector+needV vs') (sz - needV vs')):St G sz ⟨1 - J.now,needV vs',J.epoch+1#32⟩ vs':=by
 obtain ⟨_,g0,g4,_⟩:=h.read
 exact st_moved0 h.fq h.now (.inr (by rw [g4,(ep_succ hep).1];omega)) hF' hs hk hsm hn ho ha hg
theorem St.cut (h:St F sz J vs) (hF':Fq G sz) (hs:G.sector=F.sector) (ho:Out F G (2 * (1 - J.now) * F.sector) sz) (hc:G.b.getD (2 * (1 - J.now) * F.sector) 0=255∨∀ j,G.b.getD j 0=F.b.getD j 0):St G sz J vs:=by
 have hsz:=h.fq.sz
 have hpos:=h.fq.pos
 have hnow:=h.now
 obtain ⟨rs,r1,r2,r3,r4,r5⟩:=h.row
 obtain ⟨k,l,dr,m,t1,t2,t3,t4,t5⟩:=h.tail
 have hlen:(hdB J.epoch ++ rcsB rs).length=J.fin:=by rw [List.length_append,hdB_length,r3]
 have hr:=reg F.sector hnow
 refine ⟨hF',hnow,h.keyed,h.need,⟨rs,r1,r2,r3,r4,by rw [hs];exact r5.out ho (by rw [hlen];omega)⟩,⟨k,l,dr,m,t1,t2,t3,t4,fun j hj=>by rw [hs,ho _ (by omega)];exact t5 j hj⟩,?_⟩
 rcases hc with hc | hc
 ·left
  have:=grp_gd (i:=1 - J.now) (j:=0) hF' (by omega)
  rw [this,hs,Nat.add_zero,hc];decide
 ·rw [grp_same (i:=1 - J.now) h.fq hF' hs (by omega) fun j hj=>hc _]
  exact h.oth
theorem open_st (h:St F sz J vs) (hd:F.down=false) (hep:J.epoch.toNat < 4294967295) :
  (∃ F' J' vs',F.openJ sz=(0,F',some (J',vs'))∧St F' sz J' vs'∧A255 F' (2 * J'.now * F'.sector+J'.fin) (sz - J'.fin)∧F'.down=false∧clOf vs'=clOf vs∧J'.epoch.toNat≤J.epoch.toNat+1) ∨
  (∃ F',F.openJ sz=(30,F',none)∧F'.down=true∧St F' sz J vs∧¬ NC F):=by
 obtain ⟨e1,g0,g4,vs0,e2,e3,e4,e5⟩:=h.read
 have hnd:needV vs0=needV vs:=by rw [←needC_of e4,e3,needC_of h.keyed]
 by_cases ht:tornB (grp F J.now) J.fin=true
 ·obtain ⟨p1,p2⟩:=ep_succ hep
  have hJ:J=⟨J.now,J.fin,J.epoch⟩:=rfl
  have hop:F.openJ sz=((F.move sz J vs0).1,(F.move sz J vs0).2.1,(F.move sz J vs0).2.2.map fun J=>(J,vs0)):=by
   unfold Fl.openJ
   rw [if_neg (by rw [hd];simp),e1]
   simp only [e2,Bool.true_eq_false,if_false,ht,if_true,ne_eq,not_true_eq_false]
  obtain ⟨i1,i2,_,_⟩:=move_inv h.fq (J:=J) e4
  rcases move_cut h.fq hd h.now e4 (by rw [hnd];exact h.need) p2 with ⟨F',m1,m2,m3,m4,m5⟩ | ⟨F',m1,m2,m3,m4⟩
  ·left
   rw [m1] at hop i1 i2
   simp only at i1 i2
   have hst:=st_moved h i1 i2 e4 e5 (by rw [hnd];exact h.need) hep m3 m4 m5
   exact ⟨F',_,vs0,hop,hst,by rw [i2];exact m5,m2,e3,by simp only;omega⟩
  ·right
   rw [m1] at hop i1 i2
   simp only at i1 i2
   refine ⟨F',hop,m2,h.cut i1 i2 m3 m4,fun hn=>?_⟩
   obtain ⟨F2,w1,_⟩:=move_nc h.fq hn h.now e4 (by rw [hnd];exact h.need) p2
   rw [m1] at w1
   simp at w1
 ·left
  have ht':tornB (grp F J.now) J.fin=false:=by simpa using ht
  refine ⟨F,J,vs0,?_,⟨h.fq,h.now,e4,by rw [hnd];exact h.need,by rw [e3];exact h.row,h.tail,h.oth⟩,torn_255 h.fq h.now ht',hd,e3,by omega⟩
  unfold Fl.openJ
  rw [if_neg (by rw [hd];simp),e1]
  simp only [e2,Bool.true_eq_false,if_false,ht',Bool.false_eq_true,ne_eq,not_true_eq_false]
def apC (c:CL) (r:Rc):CL:=match r.2 with | none=>remL c r.1 | some v=>insL c r.1 v
theorem ap_cl {vs:Vs} (hk:Keyed vs) (r:Rc):clOf (r.ap vs)=apC (clOf vs) r:=by
 unfold Rc.ap apC
 cases r.2 with
 | none=>exact clOf_delV hk r.1
 | some v=>exact clOf_setV hk r.1 (some v)
theorem write_st (h:St F sz J vs) (hg:A255 F (2 * J.now * F.sector+J.fin) (sz - J.fin)) (hd:F.down=false) (hep:J.epoch.toNat < 4294967295) {vs':Vs} (hk:Keyed vs') (hsm:Small vs') (r:Rc) (hr:r.ok) (hcl:clOf vs'=apC (clOf vs) r) :
  (sz < needV vs'∧F.writeJ sz J (bodyL (UInt8.ofNat r.1) (r.2.getD []) r.2.isNone) vs'=(6,F,none)) ∨
  (∃ F' J',F.writeJ sz J (bodyL (UInt8.ofNat r.1) (r.2.getD []) r.2.isNone) vs'=(0,F',some J')∧St F' sz J' vs'∧A255 F' (2 * J'.now * F'.sector+J'.fin) (sz - J'.fin)∧F'.down=false∧J'.epoch.toNat≤J.epoch.toNat+1) ∨
  (∃ F',F.writeJ sz J (bodyL (UInt8.ofNat r.1) (r.2.getD []) r.2.isNone) vs'=(30,F',none)∧F'.down=true∧St F' sz J vs):=by
 have hsz:=h.fq.sz
 have hlenF:=h.fq.len
 have hnow:=h.now
 have hreg:=reg F.sector hnow
 obtain ⟨p1,p2⟩:=ep_succ hep
 obtain ⟨rs,r1,r2,r3,r4,r5⟩:=h.row
 have hbl:(bodyL (UInt8.ofNat r.1) (r.2.getD []) r.2.isNone).length=(r.2.getD []).length+6:=bodyL_length _ _ _
 have hrb:r.b=bodyL (UInt8.ofNat r.1) (r.2.getD []) r.2.isNone ++ [0]:=rfl
 have hrl:r.b.length=(r.2.getD []).length+7:=rcB_length _ _ _
 have hdv:r.2.isNone=true→r.2.getD []=[]:=fun h=>by cases hq:r.2 <;> simp_all
 unfold Fl.writeJ
 by_cases c1:sz < needV vs'
 ·left;rw [if_pos c1];exact ⟨c1,rfl⟩
 right
 rw [if_neg c1]
 by_cases c2:sz - J.fin < (bodyL (UInt8.ofNat r.1) (r.2.getD []) r.2.isNone).length+1
 ·rw [if_pos c2]
  obtain ⟨i1,i2,_,_⟩:=move_inv h.fq (J:=J) hk
  rcases move_cut h.fq hd h.now hk (by omega) p2 with ⟨F',m1,m2,m3,m4,m5⟩ | ⟨F',m1,m2,m3,m4⟩
  ·left
   rw [m1] at i1 i2
   simp only at i1 i2
   exact ⟨F',_,m1,st_moved h i1 i2 hk hsm (by omega) hep m3 m4 m5,by rw [i2];exact m5,m2,by simp only;omega⟩
  ·right
   rw [m1] at i1 i2
   simp only at i1 i2
   exact ⟨F',m1,m2,h.cut i1 i2 m3 m4⟩
 ·rw [if_neg c2]
  obtain ⟨f1,s1⟩:=h.fq.lay (2 * J.now * F.sector+J.fin) (bodyL (UInt8.ofNat r.1) (r.2.getD []) r.2.isNone)
  obtain ⟨n,w1,w2⟩:=lay_cut (F:=F) (a:=2 * J.now * F.sector+J.fin) (l:=bodyL (UInt8.ofNat r.1) (r.2.getD []) r.2.isNone) h.fq.fin hd (by omega) (hg.sub (Nat.le_refl _) (by omega))
  rw [←hrb] at w1
  have w2le:=w2.le
  have ho:Out F (F.lay (2 * J.now * F.sector+J.fin) (bodyL (UInt8.ofNat r.1) (r.2.getD []) r.2.isNone)).2 (2 * J.now * F.sector+J.fin) (sz - J.fin):=w1.out (by omega)
  simp only
  generalize F.lay (2 * J.now * F.sector+J.fin) (bodyL (UInt8.ofNat r.1) (r.2.getD []) r.2.isNone)=L at *
  have hlen:(hdB J.epoch ++ rcsB rs).length=J.fin:=by rw [List.length_append,hdB_length,r3]
  have hAt:=r5.out ho (.inl (by rw [hlen];omega))
  have hoth:(grp L.2 (1 - J.now))=grp F (1 - J.now):=grp_same h.fq f1 s1 (by omega) fun j hj=>ho _ (by omega)
  rcases w2 with ⟨a1,rfl,a3⟩ | ⟨a1,a2,a3⟩
  ·left
   rw [if_neg (by omega)]
   have w1':Wr F L.2 (2 * J.now * F.sector+J.fin) r.b r.b.length:=by rw [hrl];rw [hbl] at w1;exact w1
   have hA2:At L.2 (2 * J.now * F.sector) (hdB J.epoch ++ rcsB (rs ++ [r])):=by
    rw [rcsB_append,←List.append_assoc]
    refine At.append hAt ?_
    rw [hlen]
    have:rcsB [r]=r.b:=by simp [rcsB]
    rw [this];exact w1'.at
   have h255:A255 L.2 (2 * J.now * F.sector+(J.fin+((bodyL (UInt8.ofNat r.1) (r.2.getD []) r.2.isNone).length+1))) (sz - (J.fin+((bodyL (UInt8.ofNat r.1) (r.2.getD []) r.2.isNone).length+1))):=fun j q1 q2=>by
    rw [w1 j,if_neg (by omega)]
    exact hg j (by omega) (by omega)
   have hfinal:A255 L.2 (2 * J.now * L.2.sector+(J.fin+((bodyL (UInt8.ofNat r.1) (r.2.getD []) r.2.isNone).length+1))) (sz - (J.fin+((bodyL (UInt8.ofNat r.1) (r.2.getD []) r.2.isNone).length+1))):=by rw [s1];exact h255
   refine ⟨L.2,_,rfl,⟨f1,hnow,hk,by omega,⟨rs ++ [r],?_,?_,?_,by simp only;omega,by simp only;rw [s1];exact hA2⟩,tail_255 (J:=⟨J.now,J.fin+((bodyL (UInt8.ofNat r.1) (r.2.getD []) r.2.isNone).length+1),J.epoch⟩) hfinal,by simp only [hoth];exact h.oth⟩,hfinal,a3,by simp only;omega⟩
   ·intro x hx
    rcases List.mem_append.1 hx with hx | hx
    ·exact r1 x hx
    ·simp only [List.mem_singleton] at hx;rw [hx];exact hr
   ·obtain ⟨q1,q2⟩:=fold_inv rs [] r1 keyed_nil small_nil
    rw [List.foldl_append]
    show clOf (Rc.ap (rs.foldl Rc.ap []) r)=_
    rw [ap_cl q1,r2,hcl]
   ·rw [rcsB_append,List.length_append]
    have:rcsB [r]=r.b:=by simp [rcsB]
    rw [this,hrl,hbl]
    simp only;omega
  ·right
   rw [if_pos (by omega),a1]
   refine ⟨L.2,rfl,a3,⟨f1,hnow,h.keyed,h.need,⟨rs,r1,r2,r3,r4,by rw [s1];exact hAt⟩,⟨r.1,r.2.getD [],r.2.isNone,n,hr.1,hr.2,hdv,by omega,fun j hj=>?_⟩,by rw [hoth];exact h.oth⟩⟩
   rw [s1,w1 _]
   by_cases q:j < n
   ·rw [if_pos q,if_pos (by omega)]
    show r.b.getD _ 0=r.b.getD j 0
    congr 1;omega
   ·rw [if_neg q,if_neg (by omega)]
    exact hg _ (by omega) (by omega)
end Go.Am.Ytlonabodghfjdaa
namespace Go.Am.Ytlonabodghfjdaa
set_option linter.unusedSimpArgs false
set_option linter.unusedVariables false
variable {F G:Fl} {sz:Nat} {J:Jn} {vs:Vs}
def HP (F:Fl) (s:Hd):Prop:=(s.found=true→get4 ((grp F s.now).drop 1)=s.epoch)∧(s.found=false→s.epoch=0#32)
theorem look_inv (s:Hd) (i:Nat) (hs:HP F s):HP F (s.look F i):=by
 unfold Hd.look
 split
 ·exact ⟨fun _=>rfl,fun h=>by cases h⟩
 ·exact hs
theorem look_found (s:Hd) (i:Nat):(s.look F i).found=false→(grp F i).getD 0 0≠0:=by
 unfold Hd.look
 split
 ·intro h;cases h
 ·rename_i hq
  intro hf h0
  exact hq ⟨h0,.inl hf⟩
theorem heads_all (F:Fl):((headsM F 0 0#32).found=true→get4 ((grp F (headsM F 0 0#32).now).drop 1)=(headsM F 0 0#32).epoch)∧((headsM F 0 0#32).found=false→(headsM F 0 0#32).epoch=0#32∧(grp F 1).getD 0 0≠0):=by
 have h:=look_inv (F:=F) _ 1 (look_inv (F:=F) ⟨false,0,0#32⟩ 0 ⟨fun h=>(Bool.false_ne_true h).elim,fun _=>rfl⟩)
 exact ⟨h.1,fun hq=>⟨h.2 hq,look_found _ 1 hq⟩⟩
theorem move_st (hF:Fq F sz) (hn:NC F) (hnow:J.now≤1) (hoth:(grp F J.now).getD 0 0≠0∨(get4 ((grp F J.now).drop 1)).toNat < (J.epoch+1#32).toNat) (hk:Keyed vs) (hsm:Small vs) (hsz:needV vs≤sz) (hep:J.epoch≠4294967295#32) :
  ∃ F' J',F.move sz J vs=(0,F',some J')∧St F' sz J' vs∧A255 F' (2 * J'.now * F'.sector+J'.fin) (sz - J'.fin)∧F'.down=false:=by
 obtain ⟨i1,i2,_,_⟩:=move_inv hF (J:=J) hk
 obtain ⟨F2,w1,_⟩:=move_nc hF hn hnow hk hsz hep
 rcases move_cut hF hn.2 hnow hk hsz hep with ⟨F',m1,m2,m3,m4,m5⟩ | ⟨F',m1,m2,m3,m4⟩
 ·rw [m1] at i1 i2
  simp only at i1 i2
  exact ⟨F',_,m1,st_moved0 hF hnow hoth i1 i2 hk hsm hsz m3 m4 m5,by rw [i2];exact m5,m2⟩
 ·rw [m1] at w1
  simp at w1
theorem open_twice (hF:Fq F sz) (hn:NC F):(∃ e,F.openJ sz=(e,F,none)∧e≠0) ∨
  (∃ F' J vs vs2,F.openJ sz=(0,F',some (J,vs))∧F'.openJ sz=(0,F',some (J,vs2))∧Keyed vs∧Keyed vs2∧clOf vs2=clOf vs):=by
 have hs:=hF.sz
 have hpos:=hF.pos
 obtain ⟨q1,q2⟩:=heads_all F
 have hnow:=heads_now F 0 0#32 (by omega)
 have hself:=hF
 have hdn:¬ (F.down=true):=by rw [hn.2];simp
 by_cases c1:(headsM F 0 0#32).found=false
 ·right
  obtain ⟨p1,p2⟩:=q2 c1
  obtain ⟨F',J',m1,m2,m3,m4⟩:=move_st (J:=⟨1,0,0#32⟩) (vs:=[]) hF hn (Nat.le_refl 1) (.inl p2) keyed_nil small_nil (by simp [needV];omega) (by decide)
  obtain ⟨vs2,g1,g2,g3⟩:=good_open m2 m3 m4
  refine ⟨F',J',[],vs2,?_,g1,keyed_nil,g3,g2⟩
  unfold Fl.openJ
  rw [if_neg hdn]
  simp only [c1,p1,m1,if_true]
  rfl
 have c1':(headsM F 0 0#32).found=true:=by simpa using c1
 have hg4:=q1 c1'
 have hop:F.openJ sz=(if (replM (grp F (headsM F 0 0#32).now)).1≠0 then (40,F,none) else
  if tornB (grp F (headsM F 0 0#32).now) (replM (grp F (headsM F 0 0#32).now)).2.1=true then (let M:=F.move sz ⟨(headsM F 0 0#32).now,(replM (grp F (headsM F 0 0#32).now)).2.1,(headsM F 0 0#32).epoch⟩ (replM (grp F (headsM F 0 0#32).now)).2.2;(M.1,M.2.1,M.2.2.map fun J=>(J,(replM (grp F (headsM F 0 0#32).now)).2.2)))
  else (0,F,some (⟨(headsM F 0 0#32).now,(replM (grp F (headsM F 0 0#32).now)).2.1,(headsM F 0 0#32).epoch⟩,(replM (grp F (headsM F 0 0#32).now)).2.2))):=by
  unfold Fl.openJ
  rw [if_neg hdn]
  simp only
  rw [if_neg c1]
 have hri:=repl_inv (grp F (headsM F 0 0#32).now) ((grp F (headsM F 0 0#32).now).length+1) 8 [] (by rw [grp_sz hF hnow];omega) small_nil keyed_nil
 have hrm:replM (grp F (headsM F 0 0#32).now)=repl (grp F (headsM F 0 0#32).now) ((grp F (headsM F 0 0#32).now).length+1) 8 []:=rfl
 rw [←hrm] at hri
 obtain ⟨r1,r2,r3,r4,r5⟩:=hri
 generalize headsM F 0 0#32=H at *
 generalize replM (grp F H.now)=R at *
 by_cases c2:R.1≠0
 ·rw [if_pos c2] at hop;exact .inl ⟨_,hop,by decide⟩
 rw [if_neg c2] at hop
 by_cases c3:tornB (grp F H.now) R.2.1=true
 ·rw [if_pos c3] at hop
  by_cases c4:sz < needV R.2.2
  ·left
   have:F.move sz ⟨H.now,R.2.1,H.epoch⟩ R.2.2=(6,F,none):=by unfold Fl.move;rw [if_pos c4]
   simp only [this] at hop
   exact ⟨_,hop,by decide⟩
  by_cases c5:H.epoch=4294967295#32
  ·left
   have:F.move sz ⟨H.now,R.2.1,H.epoch⟩ R.2.2=(3,F,none):=by unfold Fl.move;rw [if_neg c4,if_pos c5]
   simp only [this] at hop
   exact ⟨_,hop,by decide⟩
  ·right
   have hlt:H.epoch.toNat < 4294967295:=by
    have h1:=H.epoch.isLt
    have h2:H.epoch.toNat≠4294967295:=fun hq=>c5 (BitVec.eq_of_toNat_eq hq)
    omega
   obtain ⟨F',J',m1,m2,m3,m4⟩:=move_st (J:=⟨H.now,R.2.1,H.epoch⟩) (vs:=R.2.2) hF hn hnow (.inr (by simp only;rw [hg4,(ep_succ hlt).1];omega)) r3 r2 (by omega) c5
   simp only [m1] at hop
   obtain ⟨vs2,g1,g2,g3⟩:=good_open m2 m3 m4
   exact ⟨F',J',_,vs2,hop,g1,r3,g3,g2⟩
 ·rw [if_neg c3] at hop
  exact .inr ⟨F,_,_,_,hop,hop,r3,r3,rfl⟩
end Go.Am.Ytlonabodghfjdaa
namespace Go.Am.Ytlonabodghfjdaa
set_option maxRecDepth 100000
set_option linter.unusedSimpArgs false
set_option linter.unusedVariables false
set_option linter.unusedSectionVars false
variable {h:Hp} {p:FP} {F:Fl} {jb qa qb sz m:Nat} {J:Jn} {vs:Vs}
def prK (vs:Vs) (k:Nat):Pr5:=⟨(k:Int),vV ((getV vs k).getD none),vB ((getV vs k).getD none),by
 cases (getV vs k).getD none with
 | none=>exact .nils
 | some l =>
  show Go.Am.Bv (clV l) l
  unfold clV
  split
  ·rename_i q;subst q;exact .full []
  ·exact .no l⟩
theorem rl_prs (vs:Vs):Rl eP5 2 (prsR vs (keysN vs)) ((keysN vs).map (prK vs)):=by
 have:prsR vs (keysN vs)=.sl (if keysN vs=[] then .full else .no) 2 (((keysN vs).map (prK vs)).map eP5):=by
  unfold prsR prsV
  rw [List.map_map];rfl
 rw [this]
 exact rl_sl _ _
def cZ (c:CL):List (Int × List UInt8):=c.map fun e=>((e.1:Int),e.2)
theorem cL_prs (vs:Vs):cL ((keysN vs).map (prK vs))=cZ (clOf vs):=by
 unfold cL cZ clOf
 rw [List.map_map,List.map_map];rfl
theorem vB_le {vs:Vs} (hk:Keyed vs) (hs:Small vs) {k:Nat} (hm:k∈keysN vs):(vB ((getV vs k).getD none)).length≤250:=by
 obtain ⟨e,he,rfl⟩:=(mem_keysN vs k).1 hm
 rw [getV_mem hk e he]
 exact (hs.2 e he).2
theorem eq_prs (base:Nat) {vs ws:Vs} (h1:Keyed vs) (h2:Small vs) (h3:Small ws):CallA T base 25 [prsR vs (keysN vs),prsR ws (keysN ws)] h=some (.bool (cZ (clOf vs) == cZ (clOf ws)),h):=by
 have:=eq_spec (h:=h) (rl_prs vs) base (rl_prs ws) (by rw [List.length_map,len_keysN];have:=h2.1;omega) (by rw [List.length_map,len_keysN];have:=h3.1;omega) (fun p hp=>by
  obtain ⟨k,hk,rfl⟩:=List.mem_map.1 hp
  have:=vB_le h1 h2 hk
  show (vB ((getV vs k).getD none)).length≤_
  omega)
 rw [cL_prs,cL_prs] at this
 exact this
theorem JS.self (hs:JS h p F jb qa qb sz m J vs) (cs:List PV):JS (setBx h jb (.cells cs)) p F jb qa qb sz m J vs :=
 ⟨⟨hs.ok.fs cs,hs.ok.qa' cs,hs.ok.qb' cs,by rw [size_setBx];exact hs.ok.lj,hs.ok.j1,hs.ok.j2,hs.ok.j3,hs.ok.ja,hs.ok.jq⟩,(getMapJ (F:=F) hs.ok cs hs.map hs.nm hs.mj).1,hs.nm,hs.mj,hs.small,hs.keyed,hs.fl,hs.now,hs.fin⟩
theorem JS.flash {G:Fl} (hs:JS h p F jb qa qb sz m J vs) (hG:Fq G sz):JS h p G jb qa qb sz m J vs:=⟨hs.ok,hs.map,hs.nm,hs.mj,hs.small,hs.keyed,hG,hs.now,hs.fin⟩
theorem PO.self (ho:PO h p qa qb) {b:Nat} (hb:b≠qa∧b≠qb) (x:Box):PO (setBx h b x) p qa qb :=
 ⟨ho.fo.set _ _,⟨by rw [getBox_set_ne hb.1];exact ho.pa.get,ho.pa.n1,ho.pa.n2,ho.pa.n3⟩,⟨by rw [getBox_set_ne hb.2];exact ho.pb.get,ho.pb.n1,ho.pb.n2,ho.pb.n3⟩⟩
theorem PO.ext (ho:PO h p qa qb) (l:Hp):PO (Go.Am.ext h l) p qa qb:=⟨ho.fo.ext _,ho.pa.ext _,ho.pb.ext _⟩
theorem beq_i (a:Int):(a == a)=true:=by simp
theorem beq_b (a:BitVec 32):(a == a)=true:=by simp
theorem load_fq {s:Nat} (h1:16≤s) (h2:s≤4096) (l:List UInt8):Fq ((fl0 s).load l) (2 * s)∧NC ((fl0 s).load l)∧((fl0 s).load l).sector=s:=by
 have hF:=fq0 h1 h2
 have hlen:((fl0 s).load l).b.length=(fl0 s).b.length:=by
  show (l.take (fl0 s).b.length ++ (fl0 s).b.drop (min l.length (fl0 s).b.length)).length=_
  rw [List.length_append,List.length_take,List.length_drop];omega
 refine ⟨⟨⟨hF.fin.turned,⟨by show (-1:Int)≤-1;omega,by show (-1:Int)≤_;omega⟩,by rw [hlen];exact hF.fin.len,hF.fin.wear⟩,hF.wear,by rw [hlen];exact hF.len,rfl,h2,h1⟩,⟨rfl,rfl⟩,rfl⟩
theorem twice_true (z:Int) (wa:Option (List UInt8)):CallA T 0 6 [.int .i64 z,aV wa] []=some (.bool true,[]):=by
 have ha:CallA T 0 7 [] []=some (.bool true,[]):=alive_spec
 have z0:size ([] : Hp)=0:=rfl
 have hml:=(aV_bv wa).len
 rw [S6,z0]
 have d6:decide (((vB wa).length:Int) > 600)=decide (600 < (vB wa).length):=by congr 1;apply propext;constructor <;> intro q <;> omega
 by_cases h1:z > 128
 ·have d1:decide (z > 128)=true:=by simpa using h1
  simp only [ha,d1,fin1,trunc0,↓evD,evU,evL,evM,Nat.reduceAdd,Nat.reduceSub,Nat.reduceMul,Nat.reduceLeDiff,Nat.reduceLT,Nat.reduceEqDiff,Nat.reduceBEq,reduceIte,reduceCtorEq,Int.reduceBEq,Int.reduceEq,Int.reduceLT,Int.reduceLE,Int.reduceGT,Int.reduceGE,Int.reduceAdd,Int.reduceSub,Int.reduceNeg,Int.reduceBNe,ite_true,ite_false,if_true,if_false,implies_true,forall_const]
 have d1:decide (z > 128)=false:=by simpa using h1
 by_cases h3:600 < (vB wa).length
 ·simp only [ha,d1,hml,d6,h3,decide_true,fin1,trunc0,↓evD,evU,evL,evM,Nat.reduceAdd,Nat.reduceSub,Nat.reduceMul,Nat.reduceLeDiff,Nat.reduceLT,Nat.reduceEqDiff,Nat.reduceBEq,reduceIte,reduceCtorEq,Int.reduceBEq,Int.reduceEq,Int.reduceLT,Int.reduceLE,Int.reduceGT,Int.reduceGE,Int.reduceAdd,Int.reduceSub,Int.reduceNeg,Int.reduceBNe,ite_true,ite_false,if_true,if_false,implies_true,forall_const]
 have hg:=groups_spec (h:=[]) 0 z
 simp only [z0,Nat.zero_add] at hg
 obtain ⟨s1,s2⟩:=secN_in z
 obtain ⟨f1,f2,f3⟩:=load_fq s1 s2 (vB wa)
 have hself:ext [] (boxes0 (secN z) 0)=putF (ext [] (boxes0 (secN z) 0)) (fp0 0) (fl0 (secN z)):=fresh_putF [] (secN z) [.cells [.ptr (0+2) 0,.int .i64 0,.int .i64 2],.cells [.ptr (0+2) 0,.int .i64 2,.int .i64 2]]
 have hpo:=po0 (secN z)
 have hsz5:size (ext [] (boxes0 (secN z) 0))=5:=rfl
 have hfp:(fp0 0).f=2:=rfl
 have hld:=load_spec (F:=fl0 (secN z)) hpo.fo 0 (aV_bv wa)
 rw [←hself,hfp] at hld
 generalize (fl0 (secN z)).load (vB wa)=F0 at *
 generalize ext [] (boxes0 (secN z) 0)=HG at *
 obtain ⟨g1,cs1,o1,o2⟩:=open_spec_all (F:=F0) hpo f1 (base:=0) (Nat.zero_le _)
 have tn:=fun (H:Hp) (F:Fl) (cs:List PV) (hj:FOk H (fp0 0))=>turned_spec (h:=setBx H 5 (.cells cs)) (F:=F) (hj.set _ _) 0
 rcases open_twice f1 f2 with ⟨e,w1,he⟩ | ⟨F',J,vs,vs2,w1,w2,w3,w4,w5⟩
 ·rw [w1] at o1 o2
  simp only at o1 o2
  have hpo2:=(hpo.ext g1).self (b:=size HG) (by rw [hsz5];decide) (.cells cs1)
  obtain ⟨g2,cs2,o3,o4⟩:=open_spec_all (F:=F0) hpo2 f1 (base:=0) (Nat.zero_le _)
  rw [w1] at o3
  simp only at o3
  rw [show putF (setBx (ext HG g1) (size HG) (.cells cs1)) (fp0 0) F0=putJ (ext HG g1) (fp0 0) F0 (size HG) cs1 from rfl] at o3
  have hni:nilK 0 .nilp=some true:=rfl
  have d2:((e:Int) != 0)=true:=by simpa using he
  simp only [ha,d1,hml,d6,h3,hg,hld,o1,o3,d2,hni,beq_i,decide_false,fin1,trunc0,↓evD,evU,evL,evM,Nat.reduceAdd,Nat.reduceSub,Nat.reduceMul,Nat.reduceLeDiff,Nat.reduceLT,Nat.reduceEqDiff,Nat.reduceBEq,reduceIte,reduceCtorEq,Int.reduceBEq,Int.reduceEq,Int.reduceLT,Int.reduceLE,Int.reduceGT,Int.reduceGE,Int.reduceAdd,Int.reduceSub,Int.reduceNeg,Int.reduceBNe,ite_true,ite_false,if_true,if_false,implies_true,forall_const]
 ·rw [w1] at o1 o2
  simp only at o1 o2
  obtain ⟨m,js,rfl⟩:=o2 J vs rfl
  have hF':=js.fl
  have hpo2:=(hpo.ext g1).self (b:=size HG) (by rw [hsz5];decide) (.cells (jC 3 4 (2 * secN z) J m))
  obtain ⟨g2,cs2,o3,o4⟩:=open_spec_all (F:=F') hpo2 hF' (base:=0) (Nat.zero_le _)
  rw [w2] at o3 o4
  simp only at o3 o4
  obtain ⟨m2,js2,rfl⟩:=o4 J vs2 rfl
  rw [show putF (setBx (ext HG g1) (size HG) (.cells (jC 3 4 (2 * secN z) J m))) (fp0 0) F'=putJ (ext HG g1) (fp0 0) F' (size HG) (jC 3 4 (2 * secN z) J m) from rfl] at o3
  have js1:=(js.self (jC 3 4 (2 * secN z) J m)).ext (g2.set 0 (.cells (jC 3 4 (2 * secN z) J m2)))
  have e3:setBx (ext (setBx (ext HG g1) (size HG) (.cells (jC 3 4 (2 * secN z) J m))) g2) (size (setBx (ext HG g1) (size HG) (.cells (jC 3 4 (2 * secN z) J m)))) (.cells (jC 3 4 (2 * secN z) J m2)) =
    ext (setBx (ext HG g1) (size HG) (.cells (jC 3 4 (2 * secN z) J m))) (g2.set 0 (.cells (jC 3 4 (2 * secN z) J m2))):=by rw [set_ext_ge (Nat.le_refl _),Nat.sub_self]
  have hlt:size HG < size (setBx (ext HG g1) (size HG) (.cells (jC 3 4 (2 * secN z) J m))):=by rw [size_setBx];exact js.ok.lj
  have hvw:putJ (ext (setBx (ext HG g1) (size HG) (.cells (jC 3 4 (2 * secN z) J m))) g2) (fp0 0) F' (size (setBx (ext HG g1) (size HG) (.cells (jC 3 4 (2 * secN z) J m)))) (jC 3 4 (2 * secN z) J m2) =
    putJ (ext (setBx (ext HG g1) (size HG) (.cells (jC 3 4 (2 * secN z) J m))) (g2.set 0 (.cells (jC 3 4 (2 * secN z) J m2)))) (fp0 0) F' (size HG) (jC 3 4 (2 * secN z) J m):=by
   have:=putJ_self (h:=ext (setBx (ext HG g1) (size HG) (.cells (jC 3 4 (2 * secN z) J m))) (g2.set 0 (.cells (jC 3 4 (2 * secN z) J m2)))) (p:=fp0 0) (F:=F') (jb:=size HG) (cs:=jC 3 4 (2 * secN z) J m) (by
    rw [getBox_ext_lt hlt,getBox,box_set_eq js.ok.lj];rfl)
   rw [←this,←e3];rfl
  have hb0:F'.b≠[]:=by intro hq;have:=hF'.len;have:=hF'.pos;rw [hq] at *;simp at *;omega
  have t1:=turned_spec (F:=F') (js.ok.fs (jC 3 4 (2 * secN z) J m)) 0
  have i1:=image_spec (F:=F') (js.ok.fs (jC 3 4 (2 * secN z) J m)) 0 hF'.fin hb0
  have t2:=turned_spec (F:=F') (js2.ok.fs (jC 3 4 (2 * secN z) J m2)) 0
  have i2:=image_spec (F:=F') (js2.ok.fs (jC 3 4 (2 * secN z) J m2)) 0 hF'.fin hb0
  have p2:=pairs_spec (F:=F') js2 0
  have r2:=room_spec (F:=F') js2.ok 0 (m:=m2) (J:=J) js2.fin (by have:=hF'.sz;have:=hF'.small;omega)
  have e2:=epoch_spec (F:=F') js2.ok 0 (m:=m2) (sz:=2 * secN z) (J:=J)
  have p1:=pairs_spec (F:=F') js1 0
  have r1:=room_spec (F:=F') js1.ok 0 (m:=m) (J:=J) js1.fin (by have:=hF'.sz;have:=hF'.small;omega)
  have e1:=epoch_spec (F:=F') js1.ok 0 (m:=m) (sz:=2 * secN z) (J:=J)
  rw [←hvw] at p1 r1 e1
  rw [hfp] at t1 i1 t2 i2
  have q25:=fun H=>eq_prs (h:=H) 0 (vs:=vs) (ws:=vs2) js.keyed js.small js2.small
  rw [w5] at q25
  have q15:=fun H=>same_spec (h:=H) 0 ((bv_clV F'.b).rd (h:=H) (.inl (clV_nil _))) ((bv_clV F'.b).rd (h:=H) (.inl (clV_nil _))) (by have:=hF'.fin.len;omega)
  have bz:∀ c:CL,(cZ c == cZ c)=true:=fun c=>by simp
  have bl:∀ l:List UInt8,(l == l)=true:=fun l=>by simp
  have ne:∀ a:BitVec 32,binOp .eql (uV a) (uV a)=some (.bool true):=fun a=>by rw [eql32,beq_b]
  simp only [bz] at q25
  simp only [bl] at q15
  simp only [show putF (setBx (ext HG g1) (size HG) (.cells (jC 3 4 (2 * secN z) J m))) (fp0 0) F'=putJ (ext HG g1) (fp0 0) F' (size HG) (jC 3 4 (2 * secN z) J m) from rfl] at t1 i1
  simp only [show ∀ H cs,putF (setBx H (size (setBx (ext HG g1) (size HG) (.cells (jC 3 4 (2 * secN z) J m)))) (.cells cs)) (fp0 0) F'=putJ H (fp0 0) F' (size (setBx (ext HG g1) (size HG) (.cells (jC 3 4 (2 * secN z) J m)))) cs from fun _ _=>rfl] at t2 i2
  generalize putJ (ext (setBx (ext HG g1) (size HG) (.cells (jC 3 4 (2 * secN z) J m))) g2) (fp0 0) F' (size (setBx (ext HG g1) (size HG) (.cells (jC 3 4 (2 * secN z) J m)))) (jC 3 4 (2 * secN z) J m2)=H2 at *
  generalize putJ (ext HG g1) (fp0 0) F' (size HG) (jC 3 4 (2 * secN z) J m)=H1 at *
  clear hvw js1 e3 js2 o4
  generalize size (setBx (ext HG g1) (size HG) (.cells (jC 3 4 (2 * secN z) J m)))=jb2 at *
  simp only [ha,d1,hml,d6,h3,hg,hld,o1,o3,t1,i1,t2,i2,p1,p2,r1,r2,e1,e2,q25,q15,ne,beq_i,decide_false,fin1,trunc0,↓evD,evU,evL,evM,Nat.reduceAdd,Nat.reduceSub,Nat.reduceMul,Nat.reduceLeDiff,Nat.reduceLT,Nat.reduceEqDiff,Nat.reduceBEq,reduceIte,reduceCtorEq,Int.reduceBEq,Int.reduceEq,Int.reduceLT,Int.reduceLE,Int.reduceGT,Int.reduceGE,Int.reduceAdd,Int.reduceSub,Int.reduceNeg,Int.reduceBNe,ite_true,ite_false,if_true,if_false,implies_true,forall_const]
end Go.Am.Ytlonabodghfjdaa
namespace Go.Am.Ytlonabodghfjdaa
set_option maxRecDepth 100000
set_option linter.unusedSimpArgs false
set_option linter.unusedVariables false
set_option linter.unusedSectionVars false
variable {h:Hp} {p:FP} {F:Fl} {jb qa qb sz m:Nat} {J:Jn} {vs:Vs}
theorem insG_true (x:Pr5):∀ (r:List Pr5),(∀ p∈r,p.k≠x.k)→insG x true r=r
 | [],_=>rfl
 | p :: r,h=>by
  have h1:=h p (by simp)
  simp only [insG]
  rw [if_neg (by simp),if_neg h1,insG_true x r fun q hq=>h q (by simp [hq])];rfl
theorem cL_ins (x:Pr5) {k:Nat} (hk:x.k=(k:Int)):∀ (la:List Pr5) (c:CL),Inc c→cL la=cZ c→cL (insG x false la)=cZ (insL c k x.l)
 | [],[],_,_=>by simp [insG,insL,cL,cZ,hk]
 | [],e :: c,_,h=>by simp [cL,cZ] at h
 | p :: la,[],_,h=>by simp [cL,cZ] at h
 | p :: la,e :: c,hc,h=>by
  obtain ⟨c1,c2⟩:=List.pairwise_cons.1 hc
  have h':((p.k,p.l):Int × List UInt8)=((e.1:Int),e.2)∧cL la=cZ c:=by
   have:(p.k,p.l) :: cL la=((e.1:Int),e.2) :: cZ c:=h
   exact List.cons.inj this
  obtain ⟨h1,h2⟩:=h'
  simp only [Prod.mk.injEq] at h1
  have hall:∀ q∈la,(e.1:Int) < q.k:=fun q hq=>by
   have:(q.k,q.l)∈cZ c:=by rw [←h2];exact List.mem_map.2 ⟨q,hq,rfl⟩
   obtain ⟨y,hy,he⟩:=List.mem_map.1 this
   simp only [Prod.mk.injEq] at he
   have:=c1 y hy
   omega
  simp only [insG,insL]
  by_cases hlt:k < e.1
  ·rw [if_pos hlt,if_pos ⟨trivial,by omega⟩,if_neg (by omega),insG_true x la fun q hq=>by have:=hall q hq;omega]
   show (x.k,x.l) :: (p.k,p.l) :: cL la=((k:Int),x.l) :: ((e.1:Int),e.2) :: cZ c
   rw [hk,h1.1,h1.2,h2]
  ·rw [if_neg hlt]
   by_cases heq:k=e.1
   ·rw [if_pos heq,if_pos ⟨trivial,by omega⟩,if_pos (by omega),List.nil_append,insG_true x la fun q hq=>by have:=hall q hq;omega]
    show (x.k,x.l) :: cL la=((k:Int),x.l) :: cZ c
    rw [hk,h2]
   ·rw [if_neg heq,if_neg (by omega),if_neg (by omega)]
    have ih:=cL_ins x hk la c c2 h2
    show (p.k,p.l) :: cL (insG x false la)=((e.1:Int),e.2) :: cZ (insL c k x.l)
    rw [ih,h1.1,h1.2]
theorem cL_rem (k:Nat):∀ (la:List Pr5) (c:CL),cL la=cZ c→cL (la.filter fun p=>decide (p.k≠(k:Int)))=cZ (remL c k)
 | [],[],_=>rfl
 | [],e :: c,h=>by simp [cL,cZ] at h
 | p :: la,[],h=>by simp [cL,cZ] at h
 | p :: la,e :: c,h=>by
  have h':((p.k,p.l):Int × List UInt8)=((e.1:Int),e.2)∧cL la=cZ c:=by
   have:(p.k,p.l) :: cL la=((e.1:Int),e.2) :: cZ c:=h
   exact List.cons.inj this
  obtain ⟨h1,h2⟩:=h'
  simp only [Prod.mk.injEq] at h1
  have ih:=cL_rem k la c h2
  unfold remL at ih ⊢
  rw [List.filter_cons,List.filter_cons]
  by_cases hk:e.1=k
  ·rw [if_neg (by simp;omega),if_neg (by simpa using hk),ih]
  ·rw [if_pos (by simp;omega),if_pos (by simpa using hk)]
   show (p.k,p.l) :: cL (la.filter _)=((e.1:Int),e.2) :: cZ (c.filter _)
   rw [ih,h1.1,h1.2]
structure Pl (V:PV) (vs:Vs):Prop where
 ex:∃ la:List Pr5,Rl eP5 2 V la∧cL la=cZ (clOf vs)
theorem Pl.prs (vs:Vs):Pl (prsR vs (keysN vs)) vs:=⟨_,rl_prs vs,cL_prs vs⟩
theorem Pl.of {V:PV} {vs ws:Vs} (h:Pl V vs) (hc:clOf ws=clOf vs):Pl V ws:=by
 obtain ⟨la,h1,h2⟩:=h.ex
 exact ⟨la,h1,by rw [hc];exact h2⟩
theorem len_cl {la:List Pr5} (h:cL la=cZ (clOf vs)):la.length=vs.length:=by
 have:=congrArg List.length h
 simp only [cL,cZ,List.length_map,clOf,len_keysN] at this
 exact this
theorem mem_cl {la:List Pr5} (h:cL la=cZ (clOf vs)) (hk:Keyed vs) (hs:Small vs):∀ q∈la,q.l.length≤250:=fun q hq=>by
 have:(q.k,q.l)∈cZ (clOf vs):=by rw [←h];exact List.mem_map.2 ⟨q,hq,rfl⟩
 obtain ⟨y,hy,he⟩:=List.mem_map.1 this
 obtain ⟨k,hk',rfl⟩:=List.mem_map.1 hy
 simp only [Prod.mk.injEq] at he
 rw [←he.2]
 exact vB_le hk hs hk'
theorem eq_pl (base:Nat) {V W:PV} {vs:Vs} (h1:Keyed vs) (h2:Small vs) (hV:Pl V vs) (hW:Pl W vs):CallA T base 25 [V,W] h=some (.bool true,h):=by
 obtain ⟨la,a1,a2⟩:=hV.ex
 obtain ⟨lb,b1,b2⟩:=hW.ex
 have:=eq_spec (h:=h) a1 base b1 (by rw [len_cl a2];have:=h2.1;omega) (by rw [len_cl b2];have:=h2.1;omega) (fun q hq=>by have:=mem_cl a2 h1 h2 q hq;omega)
 rw [a2,b2] at this
 simpa using this
theorem St.re {G:Fl} (h:St F sz J vs) (hG:Fq G sz) (hb:G.b=F.b) (hs:G.sector=F.sector):St G sz J vs:=by
 have hg:∀ i,grp G i=grp F i:=fun i=>by unfold grp;rw [hb,hs]
 obtain ⟨rs,r1,r2,r3,r4,r5⟩:=h.row
 obtain ⟨k,l,dr,mm,t1,t2,t3,t4,t5⟩:=h.tail
 exact ⟨hG,h.now,h.keyed,h.need,⟨rs,r1,r2,r3,r4,fun j hj=>by rw [hb,hs];exact r5 j hj⟩,⟨k,l,dr,mm,t1,t2,t3,t4,fun j hj=>by rw [hb,hs];exact t5 j hj⟩,by rw [hg];exact h.oth⟩
def pw (F:Fl) (n:Int):Fl:={ F with left:=n,down:=false }
theorem pw_fq (hF:Fq F sz) {n:Int} (h1:-1≤n) (h2:n≤10000):Fq (pw F n) sz:=⟨⟨hF.fin.turned,⟨h1,by show n≤_;omega⟩,hF.fin.len,hF.fin.wear⟩,hF.wear,hF.len,hF.sz,hF.small,hF.pos⟩
theorem and_le (a:Int) (n:Nat) (hn:n≤10000):∃ x:Nat,binOp .and (.int .i64 a) (.int .i64 (n:Int))=some (.int .i64 (x:Int))∧x≤n:=by
 have hle:(BitVec.ofInt 64 a &&& BitVec.ofInt 64 (n:Int)).toNat≤n:=by
  have h2:(BitVec.ofInt 64 (n:Int)).toNat=n:=by simp;omega
  rw [BitVec.toNat_and,h2]
  exact Nat.and_le_right
 refine ⟨_,?_,hle⟩
 show some (PV.int .i64 (IntKind.i64.wrap ((BitVec.ofInt 64 a &&& BitVec.ofInt 64 (n:Int)).toNat:Int)))=_
 rw [wrap_small (by omega) (by omega)]
theorem ex0 (a b:PV):extractB (.tup [a,b]) 0=some a:=rfl
theorem ex1 (a b:PV):extractB (.tup [a,b]) 1=some b:=rfl
theorem eq_i (a b:Int):binOp .eql (.int .i64 a) (.int .i64 b)=some (.bool (a == b)):=rfl
theorem ne_i (a b:Int):binOp .neq (.int .i64 a) (.int .i64 b)=some (.bool (a != b)):=rfl
theorem PO.of (hs:JS h p F jb qa qb sz m J vs) (cs:List PV):PO (setBx h jb (.cells cs)) p qa qb:=⟨hs.ok.fs cs,hs.ok.qa' cs,hs.ok.qb' cs⟩
theorem p52_true (hs:JS h p F jb qa qb sz m J vs) (hst:St F sz J vs) (hg:A255 F (2 * J.now * F.sector+J.fin) (sz - J.fin)) {now:PV} (hn:Pl now vs) (next:PV) :
  P5_2 0 0 next now (.ptr qb 0) (.ptr qa 0) (.ptr jb 0) (.int .i64 0) (.ptr p.f 0) (putJ h p F jb (jC qa qb sz J m))=some (.bool true,[]):=by
 have hF3:=pw_fq hs.fl (n:=-1) (by omega) (by omega)
 have r1:=restore_spec (F:=F) (hs.ok.fs (jC qa qb sz J m)) 0
 have hs3:=hs.flash hF3
 have p1:=pairs_spec hs3 0
 have st3:St (pw F (-1)) sz J vs:=hst.re hF3 rfl rfl
 obtain ⟨vs0,o1,o2,o3⟩:=good_open st3 hg rfl
 obtain ⟨g,cs,q1,q2⟩:=open_spec_all (PO.of hs (jC qa qb sz J m)) hF3 (base:=0) (Nat.zero_le _)
 rw [o1] at q1 q2
 simp only at q1 q2
 obtain ⟨m2,js2,rfl⟩:=q2 J vs0 rfl
 have p2:=pairs_spec js2 0
 have e1:=fun H=>eq_pl (h:=H) 0 hs.keyed hs.small (Pl.prs vs) hn
 have e2:=fun H=>eq_pl (h:=H) 0 hs.keyed hs.small ((Pl.prs vs0).of o2.symm) (Pl.prs vs)
 have n0:((0:Int) != 0)=false:=rfl
 have t0:((0:Int) == 0)=true:=rfl
 rw [P5_2_eq]
 simp only [show putF (setBx h jb (.cells (jC qa qb sz J m))) p F=putJ h p F jb (jC qa qb sz J m) from rfl] at r1
 simp only [show putF (setBx h jb (.cells (jC qa qb sz J m))) p { F with left:=-1,down:=false }=putJ h p (pw F (-1)) jb (jC qa qb sz J m) from rfl] at r1
 simp only [show putF (setBx h jb (.cells (jC qa qb sz J m))) p (pw F (-1))=putJ h p (pw F (-1)) jb (jC qa qb sz J m) from rfl] at q1
 generalize putJ (ext (setBx h jb (.cells (jC qa qb sz J m))) g) p (pw F (-1)) (size (setBx h jb (.cells (jC qa qb sz J m)))) (jC qa qb sz J m2)=H2 at *
 generalize size (setBx h jb (.cells (jC qa qb sz J m)))=jb2 at *
 generalize putJ h p F jb (jC qa qb sz J m)=H0 at *
 generalize putJ h p (pw F (-1)) jb (jC qa qb sz J m)=H1 at *
 simp only [r1,p1,q1,p2,e1,e2,n0,t0,trunc0,↓evD,evU,evL,evM,Nat.reduceAdd,Nat.reduceSub,Nat.reduceMul,Nat.reduceLeDiff,Nat.reduceLT,Nat.reduceEqDiff,Nat.reduceBEq,reduceIte,reduceCtorEq,Int.reduceBEq,Int.reduceEq,Int.reduceLT,Int.reduceLE,Int.reduceGT,Int.reduceGE,Int.reduceAdd,Int.reduceSub,Int.reduceNeg,Int.reduceBNe,ite_true,ite_false,if_true,if_false,implies_true,forall_const] <;> rfl
noncomputable def lastP (b a f v3 now next:PV) (H:Hp):Option (PV × Hp) :=
 bnd2 (CallA T 0 26 [f] H) fun x1 h1=>(binOp .and v3 (.int .i64 511)).bnd fun x2=>bnd2 (CallA T 0 21 [f,x2] h1) fun x3 h2=>bnd2 (CallA T 0 10 [a,b] h2) fun x4 h3=>(extractB x4 0).bnd fun k=>(extractB x4 1).bnd fun g=>(binOp .eql g (.int .i64 30)).bnd fun c =>
  condB c (bnd2 (CallA T 0 26 [f] h3) fun x5 h4=>bnd2 (CallA T 0 10 [a,b] h4) fun x6 h5=>(extractB x6 0).bnd fun k=>(extractB x6 1).bnd fun g=>P5_2 0 0 next now b a k g f h5) (P5_2 0 0 next now b a k g f h3)
theorem last_true (ho:PO h p qa qb) (hst:St F sz J vs) (hep:J.epoch.toNat≤1000) {now:PV} (hn:Pl now vs) (next:PV) (again:Int) :
  lastP (.ptr qb 0) (.ptr qa 0) (.ptr p.f 0) (.int .i64 again) now next (putF h p F)=some (.bool true,[]):=by
 obtain ⟨n,a1,a2⟩:=and_le again 511 (by omega)
 simp only [show ((511:Nat):Int)=511 from rfl] at a1
 have hF1:=pw_fq hst.fq (n:=(n:Int)) (by omega) (by omega)
 have r1:=restore_spec (F:=F) ho.fo 0
 have c1:=cut_spec (F:=pw F (-1)) ho.fo 0 (n:Int)
 rw [if_neg (by omega)] at c1
 have st1:St (pw F n) sz J vs:=hst.re hF1 rfl rfl
 obtain ⟨g,cs,q1,q2⟩:=open_spec_all (F:=pw F n) ho hF1 (base:=0) (Nat.zero_le _)
 unfold lastP
 rw [r1,bnd2_some,a1,Option.bnd_some,show putF h p { F with left:=-1,down:=false }=putF h p (pw F (-1)) from rfl,c1,bnd2_some,show ({ pw F (-1) with left:=(n:Int) }:Fl)=pw F n from rfl]
 rcases open_st st1 rfl (by omega) with ⟨F',J',vs',w1,w2,w3,w4,w5,w6⟩ | ⟨F',w1,w2,w3,w4⟩
 ·rw [w1] at q1 q2
  simp only at q1 q2
  obtain ⟨m2,js2,rfl⟩:=q2 J' vs' rfl
  rw [q1,bnd2_some,ex0,Option.bnd_some,ex1,Option.bnd_some,eq_i,Option.bnd_some,show ((0:Int) == 30)=false from rfl,condB_false]
  exact p52_true js2 w2 w3 (hn.of w5) next
 ·rw [w1] at q1 q2
  simp only at q1
  have hF2:=pw_fq w3.fq (n:=-1) (by omega) (by omega)
  have ho2:PO (setBx (ext h g) (size h) (.cells cs)) p qa qb:=(ho.ext g).self ⟨by have:=lt_of_box (box_of_get ho.pa.get);omega,by have:=lt_of_box (box_of_get ho.pb.get);omega⟩ _
  have r2:=restore_spec (F:=F') ho2.fo 0
  have st2:St (pw F' (-1)) sz J vs:=w3.re hF2 rfl rfl
  obtain ⟨g2,cs2,q3,q4⟩:=open_spec_all (F:=pw F' (-1)) ho2 hF2 (base:=0) (Nat.zero_le _)
  rw [q1,bnd2_some,ex0,Option.bnd_some,ex1,Option.bnd_some,eq_i,Option.bnd_some,show (((30:Nat):Int) == 30)=true from rfl,condB_true,show putJ (ext h g) p F' (size h) cs=putF (setBx (ext h g) (size h) (.cells cs)) p F' from rfl,r2,bnd2_some,
   show putF (setBx (ext h g) (size h) (.cells cs)) p { F' with left:=-1,down:=false }=putF (setBx (ext h g) (size h) (.cells cs)) p (pw F' (-1)) from rfl]
  rcases open_st st2 rfl (by omega) with ⟨F'',J'',vs'',y1,y2,y3,y4,y5,y6⟩ | ⟨F'',y1,y2,y3,y4⟩
  ·rw [y1] at q3 q4
   simp only at q3 q4
   obtain ⟨m2,js2,rfl⟩:=q4 J'' vs'' rfl
   rw [q3,bnd2_some,ex0,Option.bnd_some,ex1,Option.bnd_some]
   exact p52_true js2 y2 y3 (hn.of y5) next
  ·exact absurd ⟨rfl,rfl⟩ y4
end Go.Am.Ytlonabodghfjdaa
namespace Go.Am.Ytlonabodghfjdaa
set_option maxRecDepth 100000
set_option linter.unusedSimpArgs false
set_option linter.unusedVariables false
set_option linter.unusedSectionVars false
variable {hh:Hp} {p:FP} {F:Fl} {jb qa qb sz m n:Nat} {J:Jn} {vs:Vs}
structure Kp (hh:Hp) (p:FP) (F:Fl) (jb qa qb sz m:Nat) (J:Jn) (vs:Vs) (n:Nat):Prop where
 js:JS hh p F jb qa qb sz m J vs
 st:St F sz J vs
 er:A255 F (2 * J.now * F.sector+J.fin) (sz - J.fin)
 dn:F.down=false
 ep:J.epoch.toNat≤n
theorem Kp.ext (k:Kp hh p F jb qa qb sz m J vs n) (l:Hp):Kp (Go.Am.ext hh l) p F jb qa qb sz m J vs n:=⟨k.js.ext l,k.st,k.er,k.dn,k.ep⟩
theorem Kp.le {n':Nat} (k:Kp hh p F jb qa qb sz m J vs n) (h:n≤n'):Kp hh p F jb qa qb sz m J vs n':=⟨k.js,k.st,k.er,k.dn,by have:=k.ep;omega⟩
structure Out3 (hh:Hp) (p:FP) (F:Fl) (jb qa qb sz m:Nat) (J:Jn) (vs:Vs) (n:Nat) (c:CL→CL) (ok:Prop) (e:Nat) (F':Fl) (J':Jn) (m':Nat) (l:Hp):Prop where
 po:PO (setBx (Go.Am.ext hh l) jb (.cells (jC qa qb sz J' m'))) p qa qb
 jo:JOk (Go.Am.ext hh l) p jb qa qb
 or:(e≠0∧e≠30∧Kp (Go.Am.ext hh l) p F' jb qa qb sz m' J' vs n)∨(e=0∧ok∧∃ vs',Kp (Go.Am.ext hh l) p F' jb qa qb sz m' J' vs' (n+1)∧clOf vs'=c (clOf vs))∨(e=30∧ok∧St F' sz J vs)
theorem po_j {hh:Hp} (hj:JOk hh p jb qa qb) (cs:List PV):PO (setBx hh jb (.cells cs)) p qa qb:=⟨hj.fs cs,hj.qa' cs,hj.qb' cs⟩
theorem write_out (k:Kp hh p F jb qa qb sz m J vs n) (hn:n≤900) (r:Rc) (hr:r.ok) {vs':Vs} (hk:Keyed vs') (hsm:Small vs') (hcl:clOf vs'=apC (clOf vs) r) :
  ∃ e F' J' m',(F.writeJ sz J (bodyL (UInt8.ofNat r.1) (r.2.getD []) r.2.isNone) vs').1=e∧(F.writeJ sz J (bodyL (UInt8.ofNat r.1) (r.2.getD []) r.2.isNone) vs').2.1=F' ∧
   (match (F.writeJ sz J (bodyL (UInt8.ofNat r.1) (r.2.getD []) r.2.isNone) vs').2.2 with | none=>jC qa qb sz J m | some J'=>jC qa qb sz J' (size hh))=jC qa qb sz J' m' ∧
   Out3 hh p F jb qa qb sz m J vs n (fun c=>apC c r) True e F' J' m' [.map (ents vs')]:=by
 have hj:=k.js.ok.ext [.map (ents vs')]
 have hfin:=k.js.fin
 have hep:=k.ep
 obtain ⟨n1,n2,n3,n4⟩:=k.js.ok.new
 rcases write_st k.st k.er k.dn (by omega) hk hsm r hr hcl with ⟨_,w⟩ | ⟨F',J',w,w2,w3,w4,w5⟩ | ⟨F',w,w2,w3⟩
 ·rw [w]
  exact ⟨6,F,J,m,rfl,rfl,rfl,po_j hj _,hj,.inl ⟨by decide,by decide,k.ext _⟩⟩
 ·rw [w]
  obtain ⟨rs,_,_,_,hf,_⟩:=w2.row
  exact ⟨0,F',J',size hh,rfl,rfl,rfl,po_j hj _,hj,.inr (.inl ⟨rfl,trivial,vs',⟨⟨hj,(map_new (F:=F) k.js.ok [] _).1,⟨n1,n2,n3⟩,n4,hsm,hk,w2.fq,w2.now,hf⟩,w2,w3,w4,by omega⟩,hcl⟩)⟩
 ·rw [w]
  exact ⟨30,F',J,m,rfl,rfl,rfl,po_j hj _,hj,.inr (.inr ⟨rfl,trivial,w3⟩)⟩
theorem Kp.none (k:Kp hh p F jb qa qb sz m J vs n) {c:CL→CL} {ok:Prop} {e:Nat} (h1:e≠0) (h2:e≠30):Out3 hh p F jb qa qb sz m J vs n c ok e F J m []:=by
 have e0:Go.Am.ext hh []=hh:=by simp [Go.Am.ext]
 have hj:=k.js.ok.ext []
 exact ⟨po_j hj _,hj,.inl ⟨h1,h2,k.ext []⟩⟩
theorem fault_ne (k:Kp hh p F jb qa qb sz m J vs n) (key:Int) (len:Nat):faultN F key len≠30:=by
 unfold faultN
 rw [k.dn]
 simp only [Bool.false_eq_true,if_false]
 split
 ·decide
 ·split <;> decide
theorem fault_ok (k:Kp hh p F jb qa qb sz m J vs n) {key:Int} {len:Nat} (h:faultN F key len=0):0≤key∧key < 32∧len≤250:=by
 unfold faultN at h
 rw [k.dn] at h
 simp only [Bool.false_eq_true,if_false] at h
 split at h
 ·omega
 ·split at h <;> omega
theorem put_out (k:Kp hh p F jb qa qb sz m J vs n) (hn:n≤900) (key:Int) (v:Option (List UInt8)):∃ e F' J' m' l,
  CallA T 0 14 [.ptr jb 0,.int .i64 key,aV v] (putJ hh p F jb (jC qa qb sz J m))=some (.int .i64 (e:Nat),putJ (Go.Am.ext hh l) p F' jb (jC qa qb sz J' m')) ∧
  Out3 hh p F jb qa qb sz m J vs n (fun c=>insL c key.toNat (vB v)) (0≤key∧key < 32∧(vB v).length≤250) e F' J' m' l:=by
 have e0:Go.Am.ext hh []=hh:=by simp [Go.Am.ext]
 by_cases hf:faultN F key (vB v).length≠0
 ·have hp:=put_fault (F:=F) k.js 0 key (aV_bv v).len hf
  exact ⟨_,F,J,m,[],by rw [e0];exact hp,k.none hf (fault_ne k _ _)⟩
 have hf0:faultN F key (vB v).length=0:=by omega
 have hok:=fault_ok k hf0
 obtain ⟨q,rfl⟩ : ∃ q:Nat,key=q:=⟨key.toNat,by omega⟩
 simp only [Int.toNat_natCast]
 by_cases hs:∃ u,getV vs q=some u∧vB u=vB v
 ·obtain ⟨u,h1,h2⟩:=hs
  have hp:=put_same (F:=F) k.js 0 (q:Int) ((aV_bv v).rd (aV_nn v)) hf0 h1 h2
  have hj:=k.js.ok.ext []
  refine ⟨0,F,J,m,[],by rw [e0];exact hp,po_j hj _,hj,.inr (.inl ⟨rfl,hok,vs,(k.ext []).le (by omega),?_⟩)⟩
  have hi:=clOf_inc k.js.keyed
  refine inc_ext hi (inc_insL _ _ hi) fun j=>?_
  rw [lkp_insL _ _ _ _ hi,lkp_clOf k.js.keyed]
  split
  ·rename_i hq;subst hq;rw [h1];simp [h2]
  ·rfl
 ·have hp:=put_new (F:=F) k.js (Nat.zero_le _) (k:=q) (aV_bv v) (aV_nn v) hf0 fun u hu hc=>hs ⟨u,hu,hc⟩
  have hcl:vB (cl (aV v) (vB v))=vB v:=cl_B (aV_bv v)
  obtain ⟨e,F',J',m',w1,w2,w3,w4⟩:=write_out k hn (q,some (vB v)) ⟨by simp only;omega,hok.2.2⟩ (k.js.keyed.setV q (cl (aV v) (vB v))) (k.js.small.setV k.js.keyed (by omega) (by rw [hcl];exact hok.2.2)) (by rw [clOf_setV k.js.keyed,hcl];rfl)
  have hb:bodyL (UInt8.ofNat q) (vB v) false=bodyL (UInt8.ofNat ((q,some (vB v)):Rc).1) (((q,some (vB v)):Rc).2.getD []) ((q,some (vB v)):Rc).2.isNone:=rfl
  rw [←hb] at w1 w2 w3
  rw [w1,w2] at hp
  refine ⟨e,F',J',m',_,hp.trans (congrArg (fun x=>some (PV.int .i64 (e:Int),putJ (Go.Am.ext hh [.map (ents (setV vs q (cl (aV v) (vB v))))]) p F' jb x)) w3),w4.po,w4.jo,?_⟩
  rcases w4.or with h | ⟨h1,_,h3⟩ | ⟨h1,_,h3⟩
  ·exact .inl h
  ·exact .inr (.inl ⟨h1,hok,h3⟩)
  ·exact .inr (.inr ⟨h1,hok,h3⟩)
theorem drop_out (k:Kp hh p F jb qa qb sz m J vs n) (hn:n≤900) (key:Int):∃ e F' J' m' l,
  CallA T 0 23 [.ptr jb 0,.int .i64 key] (putJ hh p F jb (jC qa qb sz J m))=some (.int .i64 (e:Nat),putJ (Go.Am.ext hh l) p F' jb (jC qa qb sz J' m')) ∧
  Out3 hh p F jb qa qb sz m J vs n (fun c=>remL c key.toNat) (0≤key∧key < 32) e F' J' m' l:=by
 have e0:Go.Am.ext hh []=hh:=by simp [Go.Am.ext]
 have hp:=drop_spec (F:=F) k.js (Nat.zero_le _) key
 by_cases hf:faultN F key 0≠0
 ·rw [if_pos hf] at hp
  exact ⟨_,F,J,m,[],by rw [e0];exact hp,k.none hf (fault_ne k _ _)⟩
 rw [if_neg hf] at hp
 have hf0:faultN F key 0=0:=by omega
 have hok:=fault_ok k hf0
 by_cases hs:getV vs key=none
 ·rw [if_pos hs] at hp
  exact ⟨4,F,J,m,[],by rw [e0];exact hp,k.none (by decide) (by decide)⟩
 rw [if_neg hs] at hp
 obtain ⟨q,rfl⟩ : ∃ q:Nat,key=q:=⟨key.toNat,by omega⟩
 simp only [Int.toNat_natCast] at hp ⊢
 obtain ⟨e,F',J',m',w1,w2,w3,w4⟩:=write_out k hn (q,none) ⟨by simp only;omega,by simp⟩ (k.js.keyed.delV q) (k.js.small.delV q) (clOf_delV k.js.keyed q)
 have hb:bodyL (UInt8.ofNat q) [] true=bodyL (UInt8.ofNat ((q,none):Rc).1) (((q,none):Rc).2.getD []) ((q,none):Rc).2.isNone:=rfl
 rw [←hb] at w1 w2 w3
 rw [w1,w2] at hp
 refine ⟨e,F',J',m',_,hp.trans (congrArg (fun x=>some (PV.int .i64 (e:Int),putJ (Go.Am.ext hh [.map (ents (delV vs (q:Int)))]) p F' jb x)) w3),w4.po,w4.jo,?_⟩
 rcases w4.or with h | ⟨h1,_,h3⟩ | ⟨h1,_,h3⟩
 ·exact .inl h
 ·exact .inr (.inl ⟨h1,⟨hok.1,hok.2.1⟩,h3⟩)
 ·exact .inr (.inr ⟨h1,⟨hok.1,hok.2.1⟩,h3⟩)
/-! ### Behind a step -/
theorem p53_ok (k:Kp hh p F jb qa qb sz m J vs n) {V:PV} (hV:Pl V vs) (now ops len:PV) (again:Int) (i:Nat) (hi:i≤1000) {e:Nat} (he:e≠30) :
  P5_3 0 0 V now (.ptr qb 0) (.ptr qa 0) (.ptr p.f 0) (.int .i64 again) (.ptr jb 0) ops len (.int .i64 (i:Int)) (.int .i64 (e:Int)) (putJ hh p F jb (jC qa qb sz J m)) =
   P5_0 0 0 V (.ptr qb 0) (.ptr qa 0) (.ptr p.f 0) (.int .i64 again) (.int .i64 ((i+1:Nat):Int)) (.ptr jb 0) ops V len (putJ hh p F jb (jC qa qb sz J m)):=by
 have d1:((e:Int) == 30)=false:=by rw [beq_eq_false_iff_ne];omega
 have p1:=pairs_spec (F:=F) k.js 0
 have q1:=fun H=>eq_pl (h:=H) 0 k.js.keyed k.js.small (Pl.prs vs) hV
 have w1:IntKind.i64.wrap ((i:Int)+1)=((i+1:Nat):Int):=wr_a1 i (by omega)
 rw [P5_3_eq]
 generalize putJ hh p F jb (jC qa qb sz J m)=H at *
 simp only [d1,p1,q1,w1,↓evD,evU,evL,evM,Nat.reduceAdd,Nat.reduceSub,Nat.reduceMul,Nat.reduceLeDiff,Nat.reduceLT,Nat.reduceEqDiff,Nat.reduceBEq,reduceIte,reduceCtorEq,Int.reduceBEq,Int.reduceEq,Int.reduceLT,Int.reduceLE,Int.reduceGT,Int.reduceGE,Int.reduceAdd,Int.reduceSub,Int.reduceNeg,Int.reduceBNe,ite_true,ite_false,if_true,if_false,implies_true,forall_const]
theorem p53_down (V now b a f j ops len i:PV) (again:PV) (H:Hp):P5_3 0 0 V now b a f again j ops len i (.int .i64 30) H=lastP b a f again now V H:=by
 rw [P5_3_eq,eq_i,Option.bnd_some,show ((30:Int) == 30)=true from rfl,condB_true];rfl
end Go.Am.Ytlonabodghfjdaa
namespace Go.Am.Ytlonabodghfjdaa
set_option maxRecDepth 100000
set_option linter.unusedSimpArgs false
set_option linter.unusedVariables false
set_option linter.unusedSectionVars false
variable {hh:Hp} {p:FP} {F:Fl} {jb qa qb sz m n:Nat} {J:Jn} {vs:Vs}
theorem ins_pl (base:Nat) {h:Hp} {V:PV} (hV:Pl V vs) (hk:Keyed vs) (hs:Small vs) {key:Int} (h0:0≤key) (v:Option (List UInt8)) (hl:(vB v).length≤250):∃ V',(∀ h:Hp,CallA T base 22 [V,.int .i64 key,aV v] h=some (V',h))∧∀ vs',clOf vs'=insL (clOf vs) key.toNat (vB v)→Pl V' vs':=by
 obtain ⟨la,a1,a2⟩:=hV.ex
 obtain ⟨q,rfl⟩ : ∃ q:Nat,key=q:=⟨key.toNat,by omega⟩
 let x:Pr5:=⟨(q:Int),gD zF 1 (u8s (vB v)),vB v,Go.Am.Bv.done gzF (vB v)⟩
 refine ⟨_,fun h=>ins_spec (h:=h) a1 base x (fun H=>(aV_bv v).rd (aV_nn v)) rfl (by rw [len_cl a2];have:=hs.1;omega) (by show (vB v).length≤_;omega),fun vs' hc=>⟨_,(Lv.done gzP _).rl,?_⟩⟩
 rw [cL_ins x rfl la _ (clOf_inc hk) a2,hc];rfl
theorem rem_pl (base:Nat) {V:PV} (hV:Pl V vs) (hs:Small vs) {key:Int} (h0:0≤key):∃ V',(∀ h:Hp,CallA T base 24 [V,.int .i64 key] h=some (V',h))∧∀ vs',clOf vs'=remL (clOf vs) key.toNat→Pl V' vs':=by
 obtain ⟨la,a1,a2⟩:=hV.ex
 obtain ⟨q,rfl⟩ : ∃ q:Nat,key=q:=⟨key.toNat,by omega⟩
 refine ⟨_,fun h=>rem_spec (h:=h) a1 base (q:Int) (by rw [len_cl a2];have:=hs.1;omega),fun vs' hc=>⟨_,(Lv.done gzP _).rl,?_⟩⟩
 rw [cL_rem q la _ a2,hc];rfl
def Nx (qa qb jb:Nat) (again:Int) (ops len:PV) (i:Nat) (p:FP) (sz:Nat) (R:Option (PV × Hp)):Prop:=R=some (.bool true,[]) ∨
 ∃ hh F m J vs V,Kp hh p F jb qa qb sz m J vs (i+2)∧Pl V vs∧R=P5_0 0 0 V (.ptr qb 0) (.ptr qa 0) (.ptr p.f 0) (.int .i64 again) (.int .i64 ((i+1:Nat):Int)) (.ptr jb 0) ops V len (putJ hh p F jb (jC qa qb sz J m))
theorem step_put (o:OpL) {i:Nat} (hj:JOk hh p jb qa qb) (hi:i≤500) {V:PV} (hV:Pl V vs) (again:Int) (ops len v15 v61 v18:PV) (hkk:Kp (Go.Am.ext hh [.cells (opC o)]) p F jb qa qb sz m J vs (i+1)) :
  Nx qa qb jb again ops len i p sz (P5_1 0 0 (.bool true) V (.ptr qb 0) (.ptr qa 0) (.ptr p.f 0) (.int .i64 again) (.ptr jb 0) ops len (.int .i64 (i:Int)) (.ptr (size hh) 0) V v18 v61 (putJ (Go.Am.ext hh [.cells (opC o)]) p F jb (jC qa qb sz J m))):=by
 obtain ⟨e,F',J',m',l,c1,c2⟩:=put_out hkk (by omega) o.key o.val
 have o1:(opC o)[1]?=some (.int .i64 o.key):=rfl
 have o2:(opC o)[2]?=some (aV o.val):=rfl
 have ob1:∀ F cs,getBox (putJ (Go.Am.ext hh [.cells (opC o)]) p F jb cs) (size hh)=some (opC o):=fun F cs=>get_new hj _ _
 have ob2:∀ F cs,getBox (putJ (Go.Am.ext (Go.Am.ext hh [.cells (opC o)]) l) p F jb cs) (size hh)=some (opC o):=fun F cs=>box_keep hj
 generalize Go.Am.ext hh [.cells (opC o)]=h1 at *
 rcases c2.or with ⟨e1,e2,k2⟩ | ⟨rfl,⟨x1,x2,x3⟩,vs',k2,hc⟩ | ⟨rfl,⟨x1,x2,x3⟩,hst⟩
 ·right
  refine ⟨_,F',m',J',vs,V,k2.le (by omega),hV,?_⟩
  have:=p53_ok k2 hV V ops len again i (by omega) e2
  rw [←this,P5_1_eq]
  have d1:((e:Int) == 0)=false:=by rw [beq_eq_false_iff_ne];omega
  have d2:((e:Int) == 30)=false:=by rw [beq_eq_false_iff_ne];omega
  generalize Go.Am.ext h1 l=h2 at *
  simp only [ob1,o1,o2,c1,d1,d2,↓evD,evU,evL,evM,Nat.reduceAdd,Nat.reduceSub,Nat.reduceMul,Nat.reduceLeDiff,Nat.reduceLT,Nat.reduceEqDiff,Nat.reduceBEq,reduceIte,reduceCtorEq,Int.reduceBEq,Int.reduceEq,Int.reduceLT,Int.reduceLE,Int.reduceGT,Int.reduceGE,Int.reduceAdd,Int.reduceSub,Int.reduceNeg,Int.reduceBNe,ite_true,ite_false,if_true,if_false,implies_true,forall_const]
 ·right
  obtain ⟨V',a1,a2⟩:=ins_pl (h:=h1) 0 hV hkk.js.keyed hkk.js.small x1 o.val x3
  refine ⟨_,F',m',J',vs',V',k2,a2 vs' hc,?_⟩
  have:=p53_ok k2 (a2 vs' hc) V ops len again i (by omega) (e:=0) (by decide)
  rw [←this,P5_1_eq]
  have d1:(((0:Nat):Int) == 0)=true:=rfl
  generalize Go.Am.ext h1 l=h2 at *
  simp only [ob1,ob2,o1,o2,c1,d1,a1,↓evD,evU,evL,evM,Nat.reduceAdd,Nat.reduceSub,Nat.reduceMul,Nat.reduceLeDiff,Nat.reduceLT,Nat.reduceEqDiff,Nat.reduceBEq,reduceIte,reduceCtorEq,Int.reduceBEq,Int.reduceEq,Int.reduceLT,Int.reduceLE,Int.reduceGT,Int.reduceGE,Int.reduceAdd,Int.reduceSub,Int.reduceNeg,Int.reduceBNe,ite_true,ite_false,if_true,if_false,implies_true,forall_const]
 ·left
  obtain ⟨V',a1,a2⟩:=ins_pl (h:=h1) 0 hV hkk.js.keyed hkk.js.small x1 o.val x3
  have hl:=last_true c2.po hst (by have:=hkk.ep;omega) hV V' again
  rw [show putF (setBx (Go.Am.ext h1 l) jb (.cells (jC qa qb sz J' m'))) p F'=putJ (Go.Am.ext h1 l) p F' jb (jC qa qb sz J' m') from rfl] at hl
  rw [←p53_down V' V (.ptr qb 0) (.ptr qa 0) (.ptr p.f 0) (.ptr jb 0) ops len (.int .i64 (i:Int))] at hl
  rw [←hl,P5_1_eq]
  have d1:(((30:Nat):Int) == 0)=false:=rfl
  have d2:(((30:Nat):Int) == 30)=true:=rfl
  generalize Go.Am.ext h1 l=h2 at *
  simp only [ob1,ob2,o1,o2,c1,d1,d2,a1,show ((30:Nat):Int)=30 from rfl,↓evD,evU,evL,evM,Nat.reduceAdd,Nat.reduceSub,Nat.reduceMul,Nat.reduceLeDiff,Nat.reduceLT,Nat.reduceEqDiff,Nat.reduceBEq,reduceIte,reduceCtorEq,Int.reduceBEq,Int.reduceEq,Int.reduceLT,Int.reduceLE,Int.reduceGT,Int.reduceGE,Int.reduceAdd,Int.reduceSub,Int.reduceNeg,Int.reduceBNe,ite_true,ite_false,if_true,if_false,implies_true,forall_const]
theorem step_drop (o:OpL) {i:Nat} (hj:JOk hh p jb qa qb) (hi:i≤500) {V:PV} (hV:Pl V vs) (again:Int) (ops len:PV) (hkk:Kp (Go.Am.ext hh [.cells (opC o)]) p F jb qa qb sz m J vs (i+1)) :
  Nx qa qb jb again ops len i p sz (P5_1 0 0 (.bool false) V (.ptr qb 0) (.ptr qa 0) (.ptr p.f 0) (.int .i64 again) (.ptr jb 0) ops len (.int .i64 (i:Int)) (.ptr (size hh) 0) V (.int .i64 0) (.int .i64 2) (putJ (Go.Am.ext hh [.cells (opC o)]) p F jb (jC qa qb sz J m))):=by
 obtain ⟨e,F',J',m',l,c1,c2⟩:=drop_out hkk (by omega) o.key
 have o1:(opC o)[1]?=some (.int .i64 o.key):=rfl
 have ob1:∀ F cs,getBox (putJ (Go.Am.ext hh [.cells (opC o)]) p F jb cs) (size hh)=some (opC o):=fun F cs=>get_new hj _ _
 have ob2:∀ F cs,getBox (putJ (Go.Am.ext (Go.Am.ext hh [.cells (opC o)]) l) p F jb cs) (size hh)=some (opC o):=fun F cs=>box_keep hj
 have d0:((2:Int) == 2)=true:=rfl
 generalize Go.Am.ext hh [.cells (opC o)]=h1 at *
 rcases c2.or with ⟨e1,e2,k2⟩ | ⟨rfl,⟨x1,x2⟩,vs',k2,hc⟩ | ⟨rfl,⟨x1,x2⟩,hst⟩
 ·right
  refine ⟨_,F',m',J',vs,V,k2.le (by omega),hV,?_⟩
  have:=p53_ok k2 hV V ops len again i (by omega) e2
  rw [←this,P5_1_eq]
  have d1:((e:Int) == 0)=false:=by rw [beq_eq_false_iff_ne];omega
  have d2:((e:Int) == 30)=false:=by rw [beq_eq_false_iff_ne];omega
  generalize Go.Am.ext h1 l=h2 at *
  simp only [ob1,o1,c1,d0,d1,d2,↓evD,evU,evL,evM,Nat.reduceAdd,Nat.reduceSub,Nat.reduceMul,Nat.reduceLeDiff,Nat.reduceLT,Nat.reduceEqDiff,Nat.reduceBEq,reduceIte,reduceCtorEq,Int.reduceBEq,Int.reduceEq,Int.reduceLT,Int.reduceLE,Int.reduceGT,Int.reduceGE,Int.reduceAdd,Int.reduceSub,Int.reduceNeg,Int.reduceBNe,ite_true,ite_false,if_true,if_false,implies_true,forall_const]
 ·right
  obtain ⟨V',a1,a2⟩:=rem_pl 0 hV hkk.js.small x1
  refine ⟨_,F',m',J',vs',V',k2,a2 vs' hc,?_⟩
  have:=p53_ok k2 (a2 vs' hc) V ops len again i (by omega) (e:=0) (by decide)
  rw [←this,P5_1_eq]
  have d1:(((0:Nat):Int) == 0)=true:=rfl
  generalize Go.Am.ext h1 l=h2 at *
  simp only [ob1,ob2,o1,c1,d0,d1,a1,↓evD,evU,evL,evM,Nat.reduceAdd,Nat.reduceSub,Nat.reduceMul,Nat.reduceLeDiff,Nat.reduceLT,Nat.reduceEqDiff,Nat.reduceBEq,reduceIte,reduceCtorEq,Int.reduceBEq,Int.reduceEq,Int.reduceLT,Int.reduceLE,Int.reduceGT,Int.reduceGE,Int.reduceAdd,Int.reduceSub,Int.reduceNeg,Int.reduceBNe,ite_true,ite_false,if_true,if_false,implies_true,forall_const]
 ·left
  obtain ⟨V',a1,a2⟩:=rem_pl 0 hV hkk.js.small x1
  have hl:=last_true c2.po hst (by have:=hkk.ep;omega) hV V' again
  rw [show putF (setBx (Go.Am.ext h1 l) jb (.cells (jC qa qb sz J' m'))) p F'=putJ (Go.Am.ext h1 l) p F' jb (jC qa qb sz J' m') from rfl] at hl
  rw [←p53_down V' V (.ptr qb 0) (.ptr qa 0) (.ptr p.f 0) (.ptr jb 0) ops len (.int .i64 (i:Int))] at hl
  rw [←hl,P5_1_eq]
  have d1:(((30:Nat):Int) == 0)=false:=rfl
  have d2:(((30:Nat):Int) == 30)=true:=rfl
  generalize Go.Am.ext h1 l=h2 at *
  simp only [ob1,ob2,o1,c1,d0,d1,d2,a1,show ((30:Nat):Int)=30 from rfl,↓evD,evU,evL,evM,Nat.reduceAdd,Nat.reduceSub,Nat.reduceMul,Nat.reduceLeDiff,Nat.reduceLT,Nat.reduceEqDiff,Nat.reduceBEq,reduceIte,reduceCtorEq,Int.reduceBEq,Int.reduceEq,Int.reduceLT,Int.reduceLE,Int.reduceGT,Int.reduceGE,Int.reduceAdd,Int.reduceSub,Int.reduceNeg,Int.reduceBNe,ite_true,ite_false,if_true,if_false,implies_true,forall_const]
theorem step_none {i:Nat} (hi:i≤500) {V:PV} (hV:Pl V vs) (again:Int) (ops len v17:PV) {kind:Int} (h2:kind≠2) (hkk:Kp hh p F jb qa qb sz m J vs (i+1)) :
  Nx qa qb jb again ops len i p sz (P5_1 0 0 (.bool false) V (.ptr qb 0) (.ptr qa 0) (.ptr p.f 0) (.int .i64 again) (.ptr jb 0) ops len (.int .i64 (i:Int)) v17 V (.int .i64 0) (.int .i64 kind) (putJ hh p F jb (jC qa qb sz J m))):=by
 right
 refine ⟨_,F,m,J,vs,V,hkk.le (by omega),hV,?_⟩
 have:=p53_ok hkk hV V ops len again i (by omega) (e:=0) (by decide)
 rw [←this,P5_1_eq]
 have d0:(kind == 2)=false:=by simpa using h2
 generalize putJ hh p F jb (jC qa qb sz J m)=H at *
 simp only [d0,show ((0:Nat):Int)=0 from rfl,↓evD,evU,evL,evM,Nat.reduceAdd,Nat.reduceSub,Nat.reduceMul,Nat.reduceLeDiff,Nat.reduceLT,Nat.reduceEqDiff,Nat.reduceBEq,reduceIte,reduceCtorEq,Int.reduceBEq,Int.reduceEq,Int.reduceLT,Int.reduceLE,Int.reduceGT,Int.reduceGE,Int.reduceAdd,Int.reduceSub,Int.reduceNeg,Int.reduceBNe,ite_true,ite_false,if_true,if_false,implies_true,forall_const]
theorem keeps_step {ops:List OpL} {W:PV} (hW:Lv opV 3 W ops) {i:Nat} (hi:i < ops.length) (hi2:i≤500) {V:PV} (hV:Pl V vs) (again:Int) (k:Kp hh p F jb qa qb sz m J vs (i+1)) :
  Nx qa qb jb again W (.int .i64 (ops.length:Int)) i p sz (P5_0 0 0 V (.ptr qb 0) (.ptr qa 0) (.ptr p.f 0) (.int .i64 again) (.int .i64 (i:Int)) (.ptr jb 0) W V (.int .i64 (ops.length:Int)) (putJ hh p F jb (jC qa qb sz J m))):=by
 have hix:=ops_ix hW i hi
 generalize ops[i]=o at *
 have zb:getBox (putJ (Go.Am.ext hh [.cells [.int .i64 0,.int .i64 0,.nils]]) p F jb (jC qa qb sz J m)) (size hh)=some [.int .i64 0,.int .i64 0,.nils]:=get_new k.js.ok _ _
 have hst:=op_store o zb rfl
 rw [set_new k.js.ok] at hst
 have exz:=ext_putJ (F:=F) k.js.ok (jC qa qb sz J m) [.cells [.int .i64 0,.int .i64 0,.nils]]
 have szh:=size_putJ (F:=F) k.js.ok (jC qa qb sz J m)
 have ob1:∀ F cs,getBox (putJ (Go.Am.ext hh [.cells (opC o)]) p F jb cs) (size hh)=some (opC o):=fun F cs=>get_new k.js.ok _ _
 have o0:(opC o)[0]?=some (.int .i64 o.kind):=rfl
 have hlk:binOp .lss (.int .i64 (i:Int)) (.int .i64 (ops.length:Int))=some (.bool true):=by
  show some (PV.bool (decide ((i:Int) < (ops.length:Int))))=_
  rw [decide_eq_true (by omega)]
 have hld:loadV 1 false (.ptr (size hh) (0+0)) (putJ (Go.Am.ext hh [.cells (opC o)]) p F jb (jC qa qb sz J m))=some (.int .i64 o.kind):=by
  rw [loadV_ptr,ob1,Option.bnd_some,part,if_neg (by simp)];exact o0
 have hj:=k.js.ok
 have pre:P5_0 0 0 V (.ptr qb 0) (.ptr qa 0) (.ptr p.f 0) (.int .i64 again) (.int .i64 (i:Int)) (.ptr jb 0) W V (.int .i64 (ops.length:Int)) (putJ hh p F jb (jC qa qb sz J m))=_:=P5_0_eq 0 0 _ _ _ _ _ _ _ _ _ _ _
 rw [hlk,Option.bnd_some,condB_true,hix,Option.bnd_some,op_load,Option.bnd_some,allocK_eq,exz,szh,hst,Option.bnd_some,fieldAB_ptr,Option.bnd_some,hld,Option.bnd_some,eq_i o.kind 0,Option.bnd_some] at pre
 have k1:=k.ext [.cells (opC o)]
 by_cases c0:o.kind=0
 ·rw [show (o.kind == 0)=true by simpa using c0,condB_true] at pre
  rw [pre]
  exact step_put o hj hi2 hV again W _ V _ _ k1
 rw [show (o.kind == 0)=false by simpa using c0,condB_false,eq_i o.kind 1,Option.bnd_some] at pre
 by_cases c1:o.kind=1
 ·rw [show (o.kind == 1)=true by simpa using c1] at pre
  rw [pre]
  exact step_put o hj hi2 hV again W _ V _ _ k1
 rw [show (o.kind == 1)=false by simpa using c1] at pre
 rw [pre]
 by_cases c2:o.kind=2
 ·rw [c2];exact step_drop o hj hi2 hV again W _ k1
 ·exact step_none hi2 hV again W _ _ c2 k1
theorem keeps_loop {ops:List OpL} {W:PV} (hW:Lv opV 3 W ops) (hlen:ops.length≤40) (again:Int):∀ (n i:Nat) {hh:Hp} {F:Fl} {m:Nat} {J:Jn} {vs:Vs} {V:PV},i+n=ops.length→Kp hh p F jb qa qb sz m J vs (i+1)→Pl V vs →
  P5_0 0 0 V (.ptr qb 0) (.ptr qa 0) (.ptr p.f 0) (.int .i64 again) (.int .i64 (i:Int)) (.ptr jb 0) W V (.int .i64 (ops.length:Int)) (putJ hh p F jb (jC qa qb sz J m))=some (.bool true,[])
 | 0,i,hh,F,m,J,vs,V,hi,k,hV=>by
  have hlk:binOp .lss (.int .i64 (i:Int)) (.int .i64 (ops.length:Int))=some (.bool false):=by
   show some (PV.bool (decide ((i:Int) < (ops.length:Int))))=_
   rw [decide_eq_false (by omega)]
  have hl:=last_true (PO.of k.js (jC qa qb sz J m)) k.st (by have:=k.ep;omega) hV V again
  rw [P5_0_eq,hlk,Option.bnd_some,condB_false]
  exact hl
 | n+1,i,hh,F,m,J,vs,V,hi,k,hV=>by
  rcases keeps_step hW (by omega) (by omega) hV again k with h | ⟨hh',F',m',J',vs',V',k',hV',h⟩
  ·exact h
  ·rw [h]
   exact keeps_loop hW hlen again n (i+1) (by omega) k' hV'
theorem open_new2 (z:Int):∃ g F' J m,CallA T 0 10 [.ptr 3 0,.ptr 4 0] (ext [] (boxes0 (secN z) 0))=some (.tup [.ptr 5 0,.int .i64 0],putJ (ext (ext [] (boxes0 (secN z) 0)) g) (fp0 0) F' 5 (jC 3 4 (2 * secN z) J m)) ∧
  Kp (ext (ext [] (boxes0 (secN z) 0)) g) (fp0 0) F' 5 3 4 (2 * secN z) m J [] 1:=by
 obtain ⟨s1,s2⟩:=secN_in z
 have hF:=fq0 s1 s2
 have hh0:(headsM (fl0 (secN z)) 0 0#32).found=false:=by rw [heads0 s1]
 obtain ⟨_,q2⟩:=heads_all (fl0 (secN z))
 obtain ⟨_,q3⟩:=q2 hh0
 obtain ⟨F',J',m1,m2,m3,m4⟩:=move_st (J:=⟨1,0,0#32⟩) (vs:=[]) hF (nc0 _) (Nat.le_refl 1) (.inl q3) keyed_nil small_nil (by simp [needV];omega) (by decide)
 obtain ⟨_,_,v3,_⟩:=move_inv hF (J:=⟨1,0,0#32⟩) keyed_nil
 have hep:=(v3 J' (by rw [m1])).2.2.2.2
 have hop:(fl0 (secN z)).openJ (2 * secN z)=(0,F',some (J',[])):=by
  unfold Fl.openJ
  rw [if_neg (by simp [fl0]),heads0 s1]
  simp only [if_true,m1]
  rfl
 obtain ⟨g,cs,k1,k2⟩:=open_spec_all (F:=fl0 (secN z)) (po0 (secN z)) hF (base:=0) (Nat.zero_le _)
 rw [hop] at k1 k2
 simp only at k1 k2
 obtain ⟨m,js,rfl⟩:=k2 J' [] rfl
 have hself:ext [] (boxes0 (secN z) 0)=putF (ext [] (boxes0 (secN z) 0)) (fp0 0) (fl0 (secN z)):=fresh_putF [] (secN z) [.cells [.ptr (0+2) 0,.int .i64 0,.int .i64 2],.cells [.ptr (0+2) 0,.int .i64 2,.int .i64 2]]
 rw [←hself] at k1
 exact ⟨g,F',J',m,k1,js,m2,m3,m4,by rw [hep];decide⟩
theorem keeps_true (z cut again:Int) {ops:List OpL} {W:PV} (hW:Lv opV 3 W ops) (hn:ops.length≤9223372036854775807):CallA T 0 5 [.int .i64 z,W,.int .i64 cut,.int .i64 again] []=some (.bool true,[]):=by
 have ha:CallA T 0 7 [] []=some (.bool true,[]):=alive_spec
 have hsm:=small_spec (h:=[]) 0 hW hn
 have z0:size ([] : Hp)=0:=rfl
 rw [S5,z0]
 by_cases h1:z > 128
 ·have d1:decide (z > 128)=true:=by simpa using h1
  simp only [ha,d1,fin1,trunc0,↓evD,evU,evL,evM,Nat.reduceAdd,Nat.reduceSub,Nat.reduceMul,Nat.reduceLeDiff,Nat.reduceLT,Nat.reduceEqDiff,Nat.reduceBEq,reduceIte,reduceCtorEq,Int.reduceBEq,Int.reduceEq,Int.reduceLT,Int.reduceLE,Int.reduceGT,Int.reduceGE,Int.reduceAdd,Int.reduceSub,Int.reduceNeg,Int.reduceBNe,ite_true,ite_false,if_true,if_false,implies_true,forall_const]
 have d1:decide (z > 128)=false:=by simpa using h1
 by_cases h2:((ops.all fun o=>decide ((vB o.val).length≤300)) && decide (ops.length≤40))=true
 ·rw [h2] at hsm
  have hg:=groups_spec (h:=[]) 0 z
  obtain ⟨g,F',J,m,o1,o2⟩:=open_new2 z
  simp only [z0,Nat.zero_add] at hg
  rw [Bool.and_eq_true,decide_eq_true_eq,List.all_eq_true] at h2
  obtain ⟨n,a1,a2⟩:=and_le cut 4095 (by omega)
  simp only [show ((4095:Nat):Int)=4095 from rfl] at a1
  have hF1:=pw_fq o2.js.fl (n:=(n:Int)) (by omega) (by omega)
  have c1:=cut_spec (F:=F') (o2.js.ok.fs (jC 3 4 (2 * secN z) J m)) 0 (n:Int)
  rw [if_neg (by omega)] at c1
  have hpw:({ F' with left:=(n:Int) }:Fl)=pw F' n:=by
   have:=o2.dn
   cases F'
   simp only at this
   subst this
   rfl
  rw [hpw,show (fp0 0).f=2 from rfl] at c1
  have k1:Kp (ext (ext [] (boxes0 (secN z) 0)) g) (fp0 0) (pw F' n) 5 3 4 (2 * secN z) m J [] 1:=⟨o2.js.flash hF1,o2.st.re hF1 rfl rfl,o2.er,rfl,o2.ep⟩
  have hP:Pl zP []:=⟨[],rl_sl .full [],by simp [cL,cZ,clOf,keysN]⟩
  have hl:=keeps_loop (i:=0) hW h2.2 again ops.length (by omega) k1 hP
  have hb:buildSlV 2 true [(.int .i64 0),.nils] 0 []=some zP:=rfl
  simp only [show ((0:Nat):Int)=0 from rfl,show (fp0 0).f=2 from rfl] at hl
  simp only [show ∀ F,putF (setBx (ext (ext [] (boxes0 (secN z) 0)) g) 5 (.cells (jC 3 4 (2 * secN z) J m))) (fp0 0) F=putJ (ext (ext [] (boxes0 (secN z) 0)) g) (fp0 0) F 5 (jC 3 4 (2 * secN z) J m) from fun _=>rfl] at c1
  generalize putJ (ext (ext [] (boxes0 (secN z) 0)) g) (fp0 0) F' 5 (jC 3 4 (2 * secN z) J m)=HJ at *
  generalize putJ (ext (ext [] (boxes0 (secN z) 0)) g) (fp0 0) (pw F' n) 5 (jC 3 4 (2 * secN z) J m)=HK at *
  generalize ext [] (boxes0 (secN z) 0)=HG at *
  have n0:((0:Int) != 0)=false:=rfl
  rw [ha]
  simp only [bnd2_some,show unOp .not (.bool true)=some (.bool false) from rfl,Option.bnd_some,condB_false,show binOp .gtr (.int .i64 z) (.int .i64 128)=some (.bool (decide (z > 128))) from rfl,d1,wantB_bool,whenB_true,hsm,Bool.false_eq_true,if_false,hg,extractB_tup,List.getElem?_cons_zero,List.getElem?_cons_succ,o1,ne_i,n0,a1,c1,hb,hW.len,hl,↓evD,evU,evL,evM,Nat.reduceAdd,Nat.reduceSub,Nat.reduceMul,Nat.reduceLeDiff,Nat.reduceLT,Nat.reduceEqDiff,Nat.reduceBEq,reduceIte,reduceCtorEq,Int.reduceBEq,Int.reduceEq,Int.reduceLT,Int.reduceLE,Int.reduceGT,Int.reduceGE,Int.reduceAdd,Int.reduceSub,Int.reduceNeg,Int.reduceBNe,ite_true,ite_false,if_true,if_false,implies_true,forall_const]
 ·have h2':((ops.all fun o=>decide ((vB o.val).length≤300)) && decide (ops.length≤40))=false:=by simpa using h2
  rw [h2'] at hsm
  simp only [ha,d1,hsm,fin1,trunc0,↓evD,evU,evL,evM,Nat.reduceAdd,Nat.reduceSub,Nat.reduceMul,Nat.reduceLeDiff,Nat.reduceLT,Nat.reduceEqDiff,Nat.reduceBEq,reduceIte,reduceCtorEq,Int.reduceBEq,Int.reduceEq,Int.reduceLT,Int.reduceLE,Int.reduceGT,Int.reduceGE,Int.reduceAdd,Int.reduceSub,Int.reduceNeg,Int.reduceBNe,ite_true,ite_false,if_true,if_false,implies_true,forall_const]
end Go.Am.Ytlonabodghfjdaa
