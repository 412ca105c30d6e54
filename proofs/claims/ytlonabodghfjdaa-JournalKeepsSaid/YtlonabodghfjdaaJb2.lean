/- 'Am': the operations, one by one (fifth part): what is built, and append. | 'Am': the operations, one by one (sixth part): append. | 'Am': the operations, one by one (seventh part): the others. | 'Am': the operations, one by one (eighth part): texts and bytes, closures, slices that are made, copies, rounds through a text, type assertions. | 'Am': the operations, one by one (ninth part): maps; bytes that are copied. | 'Am': the operations, one by one (tenth part): slices that grow in their box. | 'Am': the operations together; regions, code, calls. | 'Am': regions, in their order or in whatever order. | 'Am': regions as a whole. | 'Am': code and calls: what the machine answers, the program answers. | 'Am': the theorem: what the machine answers, the program answers. | 'Am': a builder of texts: its check, and its text, as functions of the library.
   By the session's AI agent. -/
import Derived.Test.YtlonabodghfjdaaJb1
import Derived.Laws.IdiomStrings
import Derived.Laws.StructEq
import Derived.MapKept
import Derived.WideKeyRuns
import Derived.Orders
import Derived.LoopN
import Derived.Lib.Builder
import Derived.Lib.UnsafeStr
namespace Go.Am
open Go.RowKit (Below)
set_option linter.unusedVariables false
set_option linter.unusedSimpArgs false
set_option linter.unusedSectionVars false
theorem foldl_set (off:Nat):∀ (vs:List Value) (j0:Nat) (arr:Array Value),((vs.zipIdx j0).foldl (fun cs (x:Value × Nat)=>cs.setIfInBounds (off+x.2) x.1) arr).size=arr.size ∧
  ∀ q,((vs.zipIdx j0).foldl (fun cs (x:Value × Nat)=>cs.setIfInBounds (off+x.2) x.1) arr)[q]? =
   if off+j0≤q∧q < off+j0+vs.length∧q < arr.size then vs[q - (off+j0)]? else arr[q]?
 | [],j0,arr=>⟨rfl,fun q=>by simp;omega⟩
 | v :: vs,j0,arr=>by
  simp only [List.zipIdx_cons,List.foldl_cons]
  obtain ⟨h1,h2⟩:=foldl_set off vs (j0+1) (arr.setIfInBounds (off+j0) v)
  refine ⟨by rw [h1];simp,fun q=>?_⟩
  rw [h2,Array.size_setIfInBounds,List.length_cons]
  by_cases hq:q=off+j0
  ·subst hq
   rw [if_neg (by omega)]
   by_cases hlt:off+j0 < arr.size
   ·rw [if_pos (by omega)]
    simp [hlt]
   ·rw [if_neg (by omega)]
    simp [hlt]
  ·rw [Array.getElem?_setIfInBounds_ne (by omega)]
   by_cases hc:off+j0≤q∧q < off+j0+(vs.length+1)∧q < arr.size
   ·rw [if_pos (by omega),if_pos hc,show q - (off+j0)=(q - (off+(j0+1)))+1 by omega,List.getElem?_cons_succ]
   ·rw [if_neg (by omega),if_neg hc]
theorem put_cells (off:Nat) (vs arr:Array Value):(vs.zipIdx.foldl (fun cs (x:Value × Nat)=>cs.setIfInBounds (off+x.2) x.1) arr).size=arr.size ∧
  ∀ q,(vs.zipIdx.foldl (fun cs (x:Value × Nat)=>cs.setIfInBounds (off+x.2) x.1) arr)[q]?=if off≤q∧q < off+vs.size∧q < arr.size then vs[q - off]? else arr[q]?:=by
 have:=foldl_set off vs.toList 0 arr
 rw [←Array.foldl_toList,Array.toList_zipIdx]
 simpa using this
section
variable {N0:Nat} {P:Program} {w0:World} {g:G} {e:Env} {a:Act} {h:Hp} {w:World}
variable {o:Oper} {md:Nat} {orc:Orc} {base:Nat} {draw:Bool} {aop:AOp} {v:PV} {e':Env} {h':Hp} {gl:Globs} (hgl:GlobOk gl N0 w0)
include hgl
def Holds (N0:Nat) (g:G) (w:World) (sz:Nat) (es:List PV) (arr:Array Value):Prop :=
 arr.size=es.length * sz∧(∀ (i:Nat) (x:PV),es[i]?=some x→x.cells.length=sz) ∧
 ∀ (i j:Nat) (x y:PV),es[i]?=some x→x.cells[j]?=some y→RV N0 g w y (arr.getD (i * sz+j) Go.undef)
omit hgl in
theorem div_of {i j q sz:Nat} (hj:j < sz) (h1:i * sz≤q) (h2:q < i * sz+sz) {i':Nat} (hq:q=i' * sz+j):i'=i:=by
 rcases Nat.lt_trichotomy i i' with h | h | h
 ·have:=Nat.mul_le_mul_right sz h
  rw [Nat.succ_mul] at this
  omega
 ·exact h.symm
 ·have:=Nat.mul_le_mul_right sz h
  rw [Nat.succ_mul] at this
  omega
theorem fill_rv (k:Ok (N0:=N0) w0 g e a.tmps h w) {sz:Nat} (hpos:sz≠0):∀ (ps:List (Nat × Operand)) (ps':List (Nat × Opnd)) (l:List (Nat × PV)) (es es':List PV) (arr:Array Value),
  cPartsS gl ps=some ps'→evParts e ps'=some l→fillParts sz l es=some es'→Holds N0 g w sz es arr →
  ∃ arr',Instr.fill (fun i=>some (i * sz,sz)) arr (ps.map fun x=>(x.1,a.eval x.2))=some arr'∧Holds N0 g w sz es' arr'∧es'.length=es.length
 | [],ps',l,es,es',arr,h1,h2,h3,h4=>by
  simp [cPartsS] at h1;subst h1
  simp [evParts] at h2;subst h2
  simp [fillParts] at h3;subst h3
  exact ⟨arr,by simp [Instr.fill],h4,rfl⟩
 |(i,x) :: ps,ps',l,es,es',arr,h1,h2,h3,h4=>by
  simp only [cPartsS,Option.bind_eq_some_iff,Option.map_eq_some_iff] at h1
  obtain ⟨x',hx,ps1,hps,rfl⟩:=h1
  simp only [evParts,Option.bnd_eq_some_iff,Option.map_eq_some_iff] at h2
  obtain ⟨p,hp,l1,hl,rfl⟩:=h2
  simp only [fillParts] at h3
  split at h3
  ·rename_i hcond
   obtain ⟨hlen,hil,hscal⟩:=hcond
   have hr:=rv_strip (rv_ev hgl k hx hp)
   have hu:strip p≠.undef:=by intro hq;rw [hq] at hscal;simp [PV.cells,scalar] at hscal
   ·have hsz:(a.eval x).cells.size=sz:=by rw [(rv_cells hr hu).1,hlen]
    obtain ⟨g1,g2,g3⟩:=h4
    have hle:i * sz+sz≤arr.size:=by
     rw [g1]
     have:=Nat.mul_le_mul_right sz hil
     rwa [Nat.succ_mul] at this
    obtain ⟨c1,c2⟩:=put_cells (i * sz) (a.eval x).cells arr
    have hold:Holds N0 g w sz (es.set i (strip p)) ((a.eval x).cells.zipIdx.foldl (fun cs (x:Value × Nat)=>cs.setIfInBounds (i * sz+x.2) x.1) arr):=by
     refine ⟨by rw [c1,List.length_set];exact g1,?_,?_⟩
     ·intro i' y hy
      by_cases hii:i=i'
      ·subst hii;rw [List.getElem?_set_self hil] at hy;cases hy;exact hlen
      ·rw [List.getElem?_set_ne hii] at hy;exact g2 i' y hy
     ·intro i' j y z hy hz
      rw [Array.getD_eq_getD_getElem?,c2]
      by_cases hii:i=i'
      ·subst hii
       rw [List.getElem?_set_self hil] at hy
       cases hy
       have hj:j < sz:=by rw [←hlen];exact (List.getElem?_eq_some_iff.1 hz).1
       rw [if_pos (by omega),show i * sz+j - i * sz=j by omega,←Array.getD_eq_getD_getElem?]
       exact (rv_cells hr hu).2 j z hz
      ·rw [List.getElem?_set_ne hii] at hy
       have hj:j < sz:=by rw [←g2 i' y hy];exact (List.getElem?_eq_some_iff.1 hz).1
       rw [if_neg,←Array.getD_eq_getD_getElem?]
       ·exact g3 i' j y z hy hz
       ·rintro ⟨q1,q2,q3⟩
        rw [hsz] at q2
        exact hii (div_of hj q1 q2 rfl).symm
    obtain ⟨arr',f1,f2,f3⟩:=fill_rv k hpos ps ps1 l1 _ es' _ hps hl h3 hold
    refine ⟨arr',?_,f2,by rw [f3,List.length_set]⟩
    simp only [List.map_cons,Instr.fill]
    rw [if_neg]
    ·exact f1
    ·simp only [hsz,ne_eq,not_true_eq_false,Bool.or_eq_true,decide_eq_true_eq,false_or]
     simp
     omega
  ·cases h3
theorem g_buildSl (k:Ok (N0:=N0) w0 g e a.tmps h w) {t:TypeId} {len:Nat} {ps:Array (Nat × Operand)} (ho:o.op=.buildSlice t len ps) (hmd:md≠1) (hc:cOp P gl md o=some aop)
  (hs:step orc base draw aop e h=some (v,e',h')):Gives N0 P w0 g a w (execOp a.eval o) v e' h':=by
 simp only [cOp,ho,if_neg hmd] at hc
 split at hc
 ·rename_i el hu
  simp only [Option.bind_eq_some_iff] at hc
  obtain ⟨n,hn,gg,hg,z,hz,hc⟩:=hc
  split at hc
  ·rename_i hcond
   simp only [Bool.and_eq_true,decide_eq_true_eq,bne_iff_ne,ne_eq,beq_iff_eq,Bool.or_eq_true] at hcond
   obtain ⟨⟨⟨⟨hsmall,hn0⟩,hzl⟩,hzs⟩,hg1⟩:=hcond
   simp only [Option.map_eq_some_iff] at hc
   obtain ⟨ps',hps,rfl⟩:=hc
   simp only [step,Option.bnd_eq_some_iff,Option.some.injEq,Prod.mk.injEq] at hs
   obtain ⟨l,hl,es,hes,rfl,rfl,rfl⟩:=hs
   obtain ⟨i,u,hi,hiu,husz,hzr⟩:=rv_zero (N0:=N0) hz
   have hisz:i.size=n:=by simp only [sizeOf,Option.map_eq_some_iff] at hn;obtain ⟨i',h1,h2⟩:=hn;rw [hi] at h1;cases h1;exact h2
   -- what it begins with
   have hcells0:(if gg then PV.agg z else z.headD .undef).cells=z:=by
    cases gg with
    | true=>rfl
    | false =>
     have h1:n=1:=by simpa using hg1
     rw [h1] at hzl
     match z,hzl,hzs with
     | [x],_,hx =>
      simp only [List.all_cons,List.all_nil,Bool.and_true] at hx
      cases x <;> simp_all [PV.cells,scalar]
   let cells0:Array Value:=(Array.range (len * n)).map (u.cells[· % u.cells.size]!)
   have hH:Holds N0 g w n (List.replicate len (if gg then PV.agg z else z.headD .undef)) cells0:=by
    refine ⟨by simp [cells0],?_,?_⟩
    ·intro q x hx
     rw [List.getElem?_replicate] at hx
     split at hx
     ·cases hx;rw [hcells0,hzl]
     ·cases hx
    ·intro q j x y hx hy
     rw [List.getElem?_replicate] at hx
     split at hx
     ·rename_i hq
      cases hx
      rw [hcells0] at hy
      have hj:j < n:=by rw [←hzl];exact (List.getElem?_eq_some_iff.1 hy).1
      have hlt:q * n+j < len * n:=mul_lt_of hq hj
      have husz':u.cells.size=n:=by omega
      have hmod:(q * n+j) % u.cells.size=j:=by
       rw [husz',Nat.mul_comm,Nat.mul_add_mod,Nat.mod_eq_of_lt hj]
      have:=hzr g w j y hy
      have hval:cells0.getD (q * n+j) Go.undef=u.cells.getD j Go.undef:=by
       simp only [cells0,Array.getD_eq_getD_getElem?,Array.getElem?_map]
       rw [show (Array.range (len * n))[q * n+j]?=some (q * n+j) by simp [hlt]]
       simp only [Option.map_some,Option.getD_some]
       rw [hmod]
       have hj':j < u.cells.size:=by omega
       simp [hj']
      rw [hval];exact this
     ·cases hx
   obtain ⟨arr,f1,⟨f2,f3,f4⟩,f5⟩:=fill_rv hgl k hn0 ps.toList ps' l _ es cells0 hps hl hes hH
   have hlen:es.length=len:=by simpa using f5
   obtain ⟨g',hx',hok,hhw⟩:=ok_fixed k arr el (len * n) (w.alloc (.cells arr el)) (lo:=0) (hi:=0) (.inl rfl)
   refine ⟨_,.slice (some ⟨w.heap.size,0,none⟩) len len,_,g',?_,.inl rfl,hx',hok,?_⟩
   ·have hsm:¬ (len * n > 2 ^ 24):=by simp;omega
    have hparts:(ps.map fun (x:Nat × Operand)=>(x.1,a.eval x.2)).toList=ps.toList.map fun x=>(x.1,a.eval x.2):=by simp
    simp only [execOp,ho,Instr.buildSlice,Sem.run_bind,run_underlying hu,Result.andThen,run_sizeOf' hn,if_neg hsm,Sem.run_pure]
    by_cases h0:len * n=0
    ·have hl0:len=0:=by
      rcases Nat.mul_eq_zero.1 h0 with h' | h'
      ·exact h'
      ·exact (hn0 h').elim
     subst hl0
     have f1':Instr.fill (fun i=>some (i * n,n)) ((Array.range (0 * n)).map ((#[] : Array Value)[· % (#[] : Array Value).size]!)) (ps.toList.map fun x=>(x.1,a.eval x.2))=some arr:=by
      rw [←f1];congr 1;simp [cells0]
     simp only [if_pos h0,Sem.run_pure,Sem.run_bind,Result.andThen,hparts]
     simp only [f1',newRow,Sem.run_bind]
     simp
    ·simp only [if_neg h0,Sem.run_pure,Sem.run_bind,Result.andThen,run_zero hi hiu,hparts]
     have f1':Instr.fill (fun i=>some (i * n,n)) ((Array.range (len * n)).map (u.cells[· % u.cells.size]!)) (ps.toList.map fun x=>(x.1,a.eval x.2))=some arr:=f1
     simp only [f1',newRow]
     simp
   ·have:=RV.sl (N0:=N0) (g:=g') (w:=w.alloc (.cells arr el)) .full n es w.heap.size 0 len (fun i j=>arr.getD (i * n+j) Go.undef) (by omega) (fun _=>hlen.symm) f3 ?_ ?_ ?_ none (fun _=>rfl) (by intro t ht;cases ht)
    ·rw [hlen] at this;exact this
    ·intro i j hi' hj
     have hlt:i * n+j < arr.size:=by rw [f2];exact mul_lt_of hi' hj
     rw [Nat.zero_add,World.cell?_alloc_new]
     simp [Array.getD_eq_getD_getElem?,hlt]
    ·intro i j x y hx hy
     exact (f4 i j x y hx hy).mono hx'
    ·intro _
     exact .inr ⟨len * n,hhw,by rw [hlen];omega⟩
  ·cases hc
 ·cases hc
omit hgl in
theorem elem_of_scalar0 {x:PV} (hx:scalar x=true):x.cells=[x]:=by cases x <;> simp_all [PV.cells,scalar]
omit hgl in
theorem evParts_const {e:Env}:∀ {ps:List (Nat × Opnd)} {l:List (Nat × PV)},constParts ps=some l→evParts e ps=some l
 | [],l,h=>by simp only [constParts,Option.some.injEq] at h;subst h;rfl
 |(i,.tmp t) :: r,l,h=>by simp [constParts] at h
 |(i,.const v) :: r,l,h=>by
  simp only [constParts,Option.map_eq_some_iff] at h
  obtain ⟨l',h1,rfl⟩:=h
  simp only [evParts,ev,Option.bnd_some,evParts_const h1,Option.map_some]
theorem g_sliceBox (k:Ok (N0:=N0) w0 g e a.tmps h w) {t:TypeId} {len:Nat} {ps:Array (Nat × Operand)} (ho:o.op=.buildSlice t len ps) {el:TypeId} (hu:P.underlying t=some (.slice el)) (hn:sizeOf P el=some 1) {z:List PV} (hz:zeroOf P el=some z)
  {ps':List (Nat × Opnd)} (hps:cPartsS gl ps.toList=some ps') {l:List (Nat × PV)} (hlc:constParts ps'=some l) {es:List PV} (hes:fillParts 1 l (List.replicate len (z.headD .undef))=some es) (hl0:¬ len=0) (hsmall:len≤16777216) (hzl:z.length=1) (hzall:z.all scalar=true) (hall:es.all scalar=true)
  (hs:step orc base draw (.gen (.sliceBox es) []) e h=some (v,e',h')):Gives N0 P w0 g a w (execOp a.eval o) v e' h':=by
 simp only [step,evs,Option.bnd_some,genV,Option.some.injEq,Prod.mk.injEq] at hs
 obtain ⟨rfl,rfl,rfl⟩:=hs
 have hl:evParts e ps'=some l:=evParts_const hlc
 obtain ⟨z0,rfl⟩ : ∃ x,z=[x]:=by
  match z,hzl with
  | [x],_=>exact ⟨x,rfl⟩
 simp only [List.headD_cons] at hes
 obtain ⟨i,u,hi,hiu,husz,hzr⟩:=rv_zero (N0:=N0) hz
 have hisz:i.size=1:=by simp only [sizeOf,Option.map_eq_some_iff] at hn;obtain ⟨i',h1,h2⟩:=hn;rw [hi] at h1;cases h1;exact h2
 simp only [List.length_singleton] at husz
 have hzs:scalar z0=true:=by simpa using hzall
 have hcells0:z0.cells=[z0]:=elem_of_scalar0 hzs
 let cells0:Array Value:=(Array.range (len * 1)).map (u.cells[· % u.cells.size]!)
 have hH:Holds N0 g w 1 (List.replicate len z0) cells0:=by
  refine ⟨by simp [cells0],?_,?_⟩
  ·intro q x hx
   rw [List.getElem?_replicate] at hx
   split at hx
   ·cases hx;rw [hcells0];rfl
   ·cases hx
  ·intro q j x y hx hy
   rw [List.getElem?_replicate] at hx
   split at hx
   ·rename_i hq
    cases hx
    rw [hcells0] at hy
    have hj:j=0:=by have:=(List.getElem?_eq_some_iff.1 hy).1;simp at this;exact this
    subst hj
    have:=hzr g w 0 y (by simpa using hy)
    have hval:cells0.getD (q * 1+0) Go.undef=u.cells.getD 0 Go.undef:=by
     simp only [cells0,Array.getD_eq_getD_getElem?,Array.getElem?_map,Nat.mul_one,Nat.add_zero,husz,Nat.mod_one]
     rw [show (Array.range len)[q]?=some q by simp [hq]]
     simp [husz]
    rw [hval];exact this
   ·cases hx
 obtain ⟨arr,f1,⟨f2,f3,f4⟩,f5⟩:=fill_rv hgl k (by decide:(1:Nat)≠0) ps.toList ps' l _ es cells0 hps hl hes hH
 have hlen:es.length=len:=by simpa using f5
 obtain ⟨g',hx',hok,hgn,hι,hcp⟩:=ok_alloc k arr el es (by omega) (fun j x hx=>by
  have hsx:=List.all_eq_true.1 hall x (List.mem_of_getElem? hx)
  have:=f4 j 0 x x hx (by rw [elem_of_scalar0 hsx];rfl)
  simpa using this) (fun T' hq=>(nb_scalar hall 0 T' hq).elim) (lo:=0) (hi:=0) (fun hq=>(hq rfl).elim) (w1:=w.alloc (.cells arr el)) (.inl rfl)
 refine ⟨_,.slice (some ⟨w.heap.size,0,none⟩) len len,_,g',?_,.inl rfl,hx',hok,?_⟩
 ·have hsm:¬ (len * 1 > 2 ^ 24):=by simp;omega
  have hparts:(ps.map fun (x:Nat × Operand)=>(x.1,a.eval x.2)).toList=ps.toList.map fun x=>(x.1,a.eval x.2):=by simp
  simp only [execOp,ho,Instr.buildSlice,Sem.run_bind,run_underlying hu,Result.andThen,run_sizeOf' hn,if_neg hsm,Sem.run_pure]
  have h0:¬ (len * 1=0):=by omega
  simp only [if_neg h0,Sem.run_pure,Sem.run_bind,Result.andThen,run_zero hi hiu,hparts]
  have f1':Instr.fill (fun i=>some (i * 1,1)) ((Array.range (len * 1)).map (u.cells[· % u.cells.size]!)) (ps.toList.map fun x=>(x.1,a.eval x.2))=some arr:=f1
  simp only [f1',newRow]
  simp
 ·rw [hlen,←hι]
  exact .bsl true (size h) 0 len 1 len (by omega) (Nat.le_refl _) (fun _=>rfl) (by rw [hcp];omega)
omit hgl in
theorem setRange_get:∀ (vs:List PV) (cs:List PV) (off:Nat),(setRange cs off vs).length=cs.length∧∀ q,(setRange cs off vs)[q]?=if off≤q∧q < off+vs.length∧q < cs.length then vs[q - off]? else cs[q]?
 | [],cs,off=>⟨rfl,fun q=>by simp [setRange];omega⟩
 | v :: vs,cs,off=>by
  obtain ⟨h1,h2⟩:=setRange_get vs (cs.set off v) (off+1)
  refine ⟨by simp only [setRange];rw [h1,List.length_set],fun q=>?_⟩
  simp only [setRange]
  rw [h2,List.length_set,List.length_cons]
  by_cases hq:off=q
  ·subst hq
   rw [if_neg (by omega)]
   by_cases hlt:off < cs.length
   ·rw [if_pos (by omega),List.getElem?_set_self hlt];simp
   ·rw [if_neg (by omega),List.getElem?_eq_none (by rw [List.length_set];omega),List.getElem?_eq_none (by omega)]
  ·rw [List.getElem?_set_ne hq]
   by_cases hc:off≤q∧q < off+(vs.length+1)∧q < cs.length
   ·rw [if_pos (by omega),if_pos hc,show q - off=(q - (off+1))+1 by omega,List.getElem?_cons_succ]
   ·rw [if_neg (by omega),if_neg hc]
theorem fill_agg (k:Ok (N0:=N0) w0 g e a.tmps h w) {place:Nat→Option (Nat × Nat)}:∀ (ps:List (Nat × Operand)) (ps':List (Nat × Nat × Opnd)) (l:List (Nat × Nat × PV)) (cs cs':List PV) (arr:Array Value),
  (List.map Prod.fst ps).length=ps'.length→(∀ (j:Nat) (p:Nat × Operand) (p':Nat × Nat × Opnd),ps[j]?=some p→ps'[j]?=some p'→place p.1=some (p'.1,p'.2.1)∧cOpnd gl p.2=some p'.2.2) →
  evParts3 e ps'=some l→buildAgg l cs=some cs'→arr.size=cs.length→(∀ (q:Nat) (y:PV),cs[q]?=some y→RV N0 g w y (arr.getD q Go.undef)) →
  ∃ arr',Instr.fill place arr (ps.map fun x=>(x.1,a.eval x.2))=some arr'∧arr'.size=cs'.length∧cs'.length=cs.length∧∀ (q:Nat) (y:PV),cs'[q]?=some y→RV N0 g w y (arr'.getD q Go.undef)
 | [],ps',l,cs,cs',arr,h0,h1,h2,h3,h4,h5=>by
  have:ps'=[]:=by cases ps';rfl;simp at h0
  subst this
  simp [evParts3] at h2;subst h2
  simp [buildAgg] at h3;subst h3
  exact ⟨arr,by simp [Instr.fill],h4,rfl,h5⟩
 |(i,x) :: ps,[],l,cs,cs',arr,h0,h1,h2,h3,h4,h5=>by simp at h0
 |(i,x) :: ps,(off,n,x') :: ps',l,cs,cs',arr,h0,h1,h2,h3,h4,h5=>by
  obtain ⟨hpl,hx⟩:=h1 0 _ _ rfl rfl
  simp only [evParts3,Option.bnd_eq_some_iff,Option.map_eq_some_iff] at h2
  obtain ⟨p,hp,l1,hl,rfl⟩:=h2
  simp only [buildAgg] at h3
  split at h3
  ·rename_i hcond
   obtain ⟨hlen,hle,hscal⟩:=hcond
   have hr:=(rv_ev hgl k hx hp)
   have hu:p≠.undef:=by intro hq;rw [hq] at hscal;simp [PV.cells,scalar] at hscal
   obtain ⟨q1,q2⟩:=rv_cells hr hu
   obtain ⟨c1,c2⟩:=put_cells off (a.eval x).cells arr
   obtain ⟨s1,s2⟩:=setRange_get p.cells cs off
   have hsz:(a.eval x).cells.size=n:=by rw [q1,hlen]
   have hnew:∀ (q:Nat) (y:PV),(setRange cs off p.cells)[q]?=some y→RV N0 g w y (((a.eval x).cells.zipIdx.foldl (fun cs (x:Value × Nat)=>cs.setIfInBounds (off+x.2) x.1) arr).getD q Go.undef):=by
    intro q y hy
    rw [s2] at hy
    rw [Array.getD_eq_getD_getElem?,c2]
    by_cases hc:off≤q∧q < off+p.cells.length∧q < cs.length
    ·rw [if_pos hc] at hy
     rw [if_pos (by omega),←Array.getD_eq_getD_getElem?]
     exact q2 _ y hy
    ·rw [if_neg hc] at hy
     rw [if_neg (by omega),←Array.getD_eq_getD_getElem?]
     exact h5 q y hy
   obtain ⟨arr',f1,f2,f3,f4⟩:=fill_agg k ps ps' l1 _ cs' ((a.eval x).cells.zipIdx.foldl (fun cs (x:Value × Nat)=>cs.setIfInBounds (off+x.2) x.1) arr) (by simpa using h0)
    (fun j p p' hj hj'=>h1 (j+1) p p' (by simpa using hj) (by simpa using hj')) hl h3 (by rw [c1,s1,h4]) hnew
   refine ⟨arr',?_,f2,by rw [f3,s1],f4⟩
   simp only [List.map_cons,Instr.fill,hpl]
   rw [if_neg]
   ·exact f1
   ·simp only [hsz,ne_eq,not_true_eq_false,Bool.or_eq_true,decide_eq_true_eq,false_or]
    simp
    omega
  ·cases h3
omit hgl in
theorem mapM_get {α β:Type} (f:α→Option β):∀ (l:List α) (r:List β),l.mapM f=some r→∀ (i:Nat) (x:α),l[i]?=some x→f x=r[i]?
 | [],r,h,i,x,hx=>by simp at hx
 | y :: l,r,h,i,x,hx=>by
  simp only [List.mapM_cons,Option.bind_eq_bind,Option.pure_def,Option.bind_eq_some_iff] at h
  obtain ⟨b,hb,bs,hbs,hr⟩:=h
  simp only [Option.some.injEq] at hr
  subst hr
  cases i with
  | zero=>simp at hx;subst hx;simp [hb]
  | succ i=>simpa using mapM_get f l bs hbs i x (by simpa using hx)
omit hgl in
theorem cParts_get {fs:Array Field}:∀ (ps:List (Nat × Operand)) (ps':List (Nat × Nat × Opnd)),cParts P gl fs ps=some ps'→ps.length=ps'.length ∧
  ∀ (j:Nat) (p:Nat × Operand) (p':Nat × Nat × Opnd),ps[j]?=some p→ps'[j]?=some p'→(∃ f n,fs[p.1]?=some f∧sizeOf P f.type=some n∧p'.1=f.offset∧p'.2.1=n)∧cOpnd gl p.2=some p'.2.2
 | [],ps',h=>by simp [cParts] at h;subst h;exact ⟨rfl,fun j p p' hj=>by simp at hj⟩
 |(i,x) :: ps,ps',h=>by
  simp only [cParts,Option.bind_eq_some_iff,Option.map_eq_some_iff] at h
  obtain ⟨f,hf,n,hn,y,hy,r,hr,rfl⟩:=h
  obtain ⟨h1,h2⟩:=cParts_get ps r hr
  refine ⟨by simp [h1],fun j p p' hj hj'=>?_⟩
  cases j with
  | zero=>simp at hj hj';subst hj;subst hj';exact ⟨⟨f,n,hf,hn,rfl,rfl⟩,hy⟩
  | succ j=>exact h2 j p p' (by simpa using hj) (by simpa using hj')
omit hgl in
theorem cPartsA_get {n:Nat}:∀ (ps:List (Nat × Operand)) (ps':List (Nat × Nat × Opnd)),cPartsA P gl n ps=some ps'→ps.length=ps'.length ∧
  ∀ (j:Nat) (p:Nat × Operand) (p':Nat × Nat × Opnd),ps[j]?=some p→ps'[j]?=some p'→(p'.1=p.1 * n∧p'.2.1=n)∧cOpnd gl p.2=some p'.2.2
 | [],ps',h=>by simp [cPartsA] at h;subst h;exact ⟨rfl,fun j p p' hj=>by simp at hj⟩
 |(i,x) :: ps,ps',h=>by
  simp only [cPartsA,Option.bind_eq_some_iff,Option.map_eq_some_iff] at h
  obtain ⟨y,hy,r,hr,rfl⟩:=h
  obtain ⟨h1,h2⟩:=cPartsA_get ps r hr
  refine ⟨by simp [h1],fun j p p' hj hj'=>?_⟩
  cases j with
  | zero=>simp at hj hj';subst hj;subst hj';exact ⟨⟨rfl,rfl⟩,hy⟩
  | succ j=>exact h2 j p p' (by simpa using hj) (by simpa using hj')
theorem g_build (k:Ok (N0:=N0) w0 g e a.tmps h w) {t:TypeId} {ps:Array (Nat × Operand)} (ho:o.op=.build t ps) (hc:cOp P gl md o=some aop)
  (hs:step orc base draw aop e h=some (v,e',h')):Gives N0 P w0 g a w (execOp a.eval o) v e' h':=by
 simp only [cOp,ho,Option.bind_eq_some_iff] at hc
 obtain ⟨z,hz,hc⟩:=hc
 obtain ⟨i,u,hi,hiu,husz,hzr⟩:=rv_zero (N0:=N0) hz
 have fin:∀ (cells:Array Value) (cs:List PV),P.built t (ps.map fun (x:Nat × Operand)=>(x.1,a.eval x.2)).toList=some cells→cells.size=cs.length →
   (∀ (q:Nat) (y:PV),cs[q]?=some y→RV N0 g w y (cells.getD q Go.undef))→Gives N0 P w0 g a w (execOp a.eval o) (.agg cs) e h:=by
  intro cells cs hb h1 h2
  refine gives_pure k ?_ (.agg cs cells h1 h2)
  simp only [execOp,ho,Sem.run_bind]
  rw [show (ps.map fun (x:Nat × Operand)=>match x with | (i,x)=>(i,a.eval x))=ps.map fun (x:Nat × Operand)=>(x.1,a.eval x.2) from rfl,run_build w t _ cells hb]
  rfl
 have hparts:(ps.map fun (x:Nat × Operand)=>(x.1,a.eval x.2)).toList=ps.toList.map fun x=>(x.1,a.eval x.2):=by simp
 split at hc
 ·rename_i fs hu
  split at hc
  ·rename_i hpl
   simp only [Option.map_eq_some_iff] at hc
   obtain ⟨ps',hps,rfl⟩:=hc
   simp only [step,Option.bnd_eq_some_iff,Option.some.injEq,Prod.mk.injEq] at hs
   obtain ⟨l,hl,cs,hcs,rfl,rfl,rfl⟩:=hs
   obtain ⟨places,hplaces⟩:=Option.isSome_iff_exists.1 hpl
   obtain ⟨hlen,hget⟩:=cParts_get ps.toList ps' hps
   obtain ⟨arr,f1,f2,f3,f4⟩:=fill_agg (place:=fun i=>places.toArray[i]?) hgl k ps.toList ps' l z cs u.cells (by simpa using hlen)
    (fun j p p' hj hj'=>by
     obtain ⟨⟨f,n,hf,hn,e1,e2⟩,hx⟩:=hget j p p' hj hj'
     refine ⟨?_,hx⟩
     have:=mapM_get _ _ _ hplaces p.1 f (by simpa using hf)
     simp only [sizeOf,Option.map_eq_some_iff] at hn
     obtain ⟨i',hi',rfl⟩:=hn
     rw [hi'] at this
     simp only [Option.map_some] at this
     simp only [List.getElem?_toArray,←this,e1,e2]) hl hcs husz (hzr g w)
   refine fin arr cs ?_ f2 f4
   rw [hparts]
   simp only [Program.built,hi,hu,hiu,hplaces,f1]
  ·cases hc
 ·rename_i len el hu
  simp only [Option.bind_eq_some_iff,Option.map_eq_some_iff] at hc
  obtain ⟨n,hn,ps',hps,rfl⟩:=hc
  simp only [step,Option.bnd_eq_some_iff,Option.some.injEq,Prod.mk.injEq] at hs
  obtain ⟨l,hl,cs,hcs,rfl,rfl,rfl⟩:=hs
  obtain ⟨hlen,hget⟩:=cPartsA_get (P:=P) ps.toList ps' hps
  simp only [sizeOf,Option.map_eq_some_iff] at hn
  obtain ⟨ie,hie,rfl⟩:=hn
  obtain ⟨arr,f1,f2,f3,f4⟩:=fill_agg (place:=fun i=>some (i * ie.size,ie.size)) hgl k ps.toList ps' l z cs u.cells (by simpa using hlen)
   (fun j p p' hj hj'=>by
    obtain ⟨⟨e1,e2⟩,hx⟩:=hget j p p' hj hj'
    exact ⟨by rw [e1,e2],hx⟩) hl hcs husz (hzr g w)
  refine fin arr cs ?_ f2 f4
  rw [hparts]
  simp only [Program.built,hi,hu,hiu,hie,f1]
 ·cases hc
end
end Go.Am
namespace Go.Am
open Go.RowKit (Below)
set_option linter.unusedVariables false
set_option linter.unusedSimpArgs false
set_option linter.unusedSectionVars false
section
variable {N0:Nat} {P:Program} {w0:World} {g:G} {e:Env} {a:Act} {h:Hp} {w:World}
variable {o:Oper} {md:Nat} {orc:Orc} {base:Nat} {draw:Bool} {aop:AOp} {v:PV} {e':Env} {h':Hp} {gl:Globs} (hgl:GlobOk gl N0 w0)
include hgl
omit hgl in
theorem elem_of_scalar {x:PV} (hx:scalar x=true):x.cells=[x]:=by cases x <;> simp_all [PV.cells,scalar]
omit hgl in
theorem src_rv (k:Ok (N0:=N0) w0 g e a.tmps h w) {sz:Nat} (hpos:sz≠0) {u:PV} {A:Value} (hr:RV N0 g w u A) {xs:List PV} (hx:elems h u=some xs) (hs:xs.all (fun x=>x.cells.length == sz)=true) :
  (Builtin.lenOf A).run P w=.ok xs.length w∧∃ news:Array Value,(∀ w1:World,w1=w∨w1=w.drew→(Builtin.firstCells sz xs.length A).run P w1=.ok news w1)∧Holds N0 g w sz xs news:=by
 have hsz:∀ (i:Nat) (x:PV),xs[i]?=some x→x.cells.length=sz:=by
  intro i x hi
  have:=List.all_eq_true.1 hs x (List.mem_of_getElem? hi)
  simpa using this
 cases hr <;> simp only [elems] at hx <;> (try cases hx)
 case nils =>
  refine ⟨by simp [Builtin.lenOf],#[],fun w1 _=>by simp [Builtin.firstCells],by simp,by simp,by simp⟩
 case sl ow sz' c o' cap uu q7 q1 q2 q3 q4 q5 q6 q8 q9 =>
  refine ⟨by simp [Builtin.lenOf],((List.range (xs.length * sz)).map fun q=>uu (q / sz) (q % sz)).toArray,?_,by simp,hsz,?_⟩
  ·intro w1 hw1
   simp only [Builtin.firstCells]
   refine run_loadCells (P:=P) w1 ⟨c,o',q7⟩ _ (fun q=>uu (q / sz) (q % sz)) (fun q hq=>?_)
   obtain rfl:q7=none:=q8 (by rintro rfl;simp at hq)
   have hd:q / sz < xs.length:=Nat.div_lt_of_lt_mul (by rwa [Nat.mul_comm] at hq)
   have hm:q % sz < sz:=Nat.mod_lt _ (by omega)
   obtain ⟨x0,hx0⟩ : ∃ x,xs[q / sz]?=some x:=⟨_,List.getElem?_eq_getElem hd⟩
   have hszz:sz'=sz:=by rw [←q3 _ _ hx0,hsz _ _ hx0]
   subst hszz
   have:=q4 (q / sz') (q % sz') hd hm
   rw [show q / sz' * sz'+q % sz'=q by rw [Nat.mul_comm];exact Nat.div_add_mod q sz'] at this
   rw [add_addr]
   rcases hw1 with rfl | rfl
   ·exact this
   ·exact this
  ·intro i j x y hi hj
   have hil:i < xs.length:=(List.getElem?_eq_some_iff.1 hi).1
   have hjl:j < sz:=by rw [←hsz i x hi];exact (List.getElem?_eq_some_iff.1 hj).1
   have hlt:=mul_lt_of hil hjl
   have e1:(i * sz+j) / sz=i:=by rw [Nat.mul_comm,Nat.mul_add_div (by omega),Nat.div_eq_of_lt hjl,Nat.add_zero]
   have e2:(i * sz+j) % sz=j:=by rw [Nat.mul_comm,Nat.mul_add_mod,Nat.mod_eq_of_lt hjl]
   have:=q5 i j x y hi hj
   simpa [Array.getD_eq_getD_getElem?,hlt,e1,e2] using this
 case bsl fl b off len sz' cap hb hl hfl hcpb =>
  split at hx
  ·rename_i h1
   subst h1
   simp only [Option.bnd_eq_some_iff] at hx
   obtain ⟨cs,hcs,hx⟩:=hx
   split at hx
   ·rename_i hcond
    obtain ⟨hle,hsc⟩:=hcond
    simp only [Option.some.injEq] at hx
    subst hx
    obtain ⟨uu,u1,u2⟩:=box_cell k hcs
    have hlen:((cs.drop off).take len).length=len:=by simp;omega
    refine ⟨by rw [hlen];simp [Builtin.lenOf],?_⟩
    rcases Nat.eq_zero_or_pos len with h0 | hp
    ·subst h0
     exact ⟨#[],fun w1 _=>by simp [Builtin.firstCells,loadCells,loadCellsFrom],by simp,by simp,by simp⟩
    ·have h1:sz=1:=by
      have hoff:off < cs.length:=by omega
      have hget:((cs.drop off).take len)[0]?=some cs[off]:=by
       rw [List.getElem?_take,if_pos hp,List.getElem?_drop,Nat.add_zero,List.getElem?_eq_getElem hoff]
      have:=hsz 0 _ hget
      rw [elem_of_scalar] at this
      ·simpa using this.symm
      ·have hmem:cs[off]∈(cs.drop off).take len:=List.mem_of_getElem? (i:=0) (by rw [List.getElem?_take,if_pos hp,List.getElem?_drop,Nat.add_zero,List.getElem?_eq_getElem hoff])
       exact List.all_eq_true.1 hsc _ hmem
     subst h1
     refine ⟨((List.range len).map fun q=>uu (off+q)).toArray,?_,by simp [hlen],hsz,?_⟩
     ·intro w1 hw1
      simp only [Builtin.firstCells,hlen,Nat.mul_one]
      refine run_loadCells (P:=P) w1 ⟨g.ι b,off,none⟩ _ (fun q=>uu (off+q)) (fun q hq=>?_)
      rw [add_addr]
      have:=u1 (off+q) (by omega)
      rcases hw1 with rfl | rfl
      ·exact this
      ·exact this
     ·intro i j x y hi hj
      have hil:i < len:=by rw [←hlen];exact (List.getElem?_eq_some_iff.1 hi).1
      have hj0:j=0:=by have:=(List.getElem?_eq_some_iff.1 hj).1;have:=hsz i x hi;omega
      subst hj0
      have hc0:=hi
      have hmem:x∈(cs.drop off).take len:=List.mem_of_getElem? hc0
      have hsc0:=List.all_eq_true.1 hsc _ hmem
      rw [List.getElem?_take,if_pos hil,List.getElem?_drop] at hc0
      rw [elem_of_scalar hsc0] at hj
      simp only [List.getElem?_cons_zero,Option.some.injEq] at hj
      subst hj
      have:=u2 _ _ hc0
      simpa [Array.getD_eq_getD_getElem?,hil] using this
   ·cases hx
  ·cases hx
 case str l s hl =>
  have hls:l.length=s.size:=by rw [←hl];simp
  refine ⟨by simp [Builtin.lenOf,hls],s.data.map fun b=>.int .u8 b.toNat,?_,?_,hsz,?_⟩
  ·intro w1 _
   simp only [Builtin.firstCells,List.length_map,hls]
   have:(s.extract 0 s.size)=s:=by
    apply ByteArray.ext
    simp
   rw [this]
   simp
  ·rcases Nat.eq_zero_or_pos l.length with h0 | hp
   ·simp [←hls,h0]
   ·have:=hsz 0 (.int .u8 (l[0]).toNat) (by simp [hp])
    have h1:sz=1:=by simpa [PV.cells] using this.symm
    subst h1
    simp [hls]
  ·intro i j x y hi hj
   have hil:i < l.length:=by have:=(List.getElem?_eq_some_iff.1 hi).1;simpa using this
   have h1:=hsz i x hi
   simp only [List.getElem?_map,List.getElem?_eq_getElem hil,Option.map_some,Option.some.injEq] at hi
   subst hi
   simp only [PV.cells,List.length_singleton] at h1
   subst h1
   cases j with
   | zero =>
    simp [PV.cells] at hj
    subst hj
    have hget:s.data[i]?=some l[i]:=by
     rw [←Array.getElem?_toList,hl,List.getElem?_eq_getElem hil]
    simp only [Nat.mul_one,Nat.add_zero,Array.getD_eq_getD_getElem?,Array.getElem?_map,hget,Option.map_some,Option.getD_some]
    exact .int _ _
   | succ j=>simp [PV.cells] at hj
omit hgl in
theorem run_append_any {t u ty el:TypeId} {i:TypeInfo} {z:Value} (ht:P.underlying t=some (.slice el)) (hu:P.underlying u=some .string∨∃ el',P.underlying u=some (.slice el')) (hi:P.info? el=some i) (hz:i.zero=some z)
  (b:Option Addr) (sLen:Nat) (x:Value) (n:Nat) (hlen:(Builtin.lenOf x).run P w=.ok n w) (olds news:Array Value)
  (hold:∀ w1:World,w1=w∨w1=w.drew→(Builtin.firstCells i.size sLen (.slice b sLen sLen)).run P w1=.ok olds w1)
  (hnew:∀ w1:World,w1=w∨w1=w.drew→(Builtin.firstCells i.size n x).run P w1=.ok news w1)
  (hn:0 < n) (h63:((sLen+n:Nat):Int)≤9223372036854775807) (hfit:Builtin.nextslicecap (sLen+n) sLen * i.bytes≤281474976710656) :
  (Builtin.append_ #[t,u] ty #[.slice b sLen sLen,x]).run P w =
   .ok (.slice (some ⟨w.heap.size,0,none⟩) (sLen+n) (grownCap w (sLen+n) sLen el)) (w.drew.alloc (.cells (olds ++ news ++ Builtin.zeroCells z.cells (grownCap w (sLen+n) sLen el - (sLen+n))) el)):=by
 have hn':¬ (sLen+n≤sLen):=by omega
 have hn'':n≠0:=by omega
 have h63':¬ (9223372036854775807 < ((sLen:Int)+(n:Int))):=by omega
 have h48':¬ (281474976710656 < Builtin.nextslicecap (sLen+n) sLen * i.bytes):=by omega
 have h1:=hold w.drew (.inr rfl)
 have h2:=hnew w.drew (.inr rfl)
 rcases hu with hu | ⟨el',hu⟩ <;> simp [Builtin.append_,run_underlying ht,run_underlying hu,Go.sizeOf,typeInfo,zeroValue,hi,hz,hlen,hn',hn'',h63',h48',Question.forced,h1,h2,newRow,grownCap]
omit hgl in
theorem run_append_none {t u ty el:TypeId} {i:TypeInfo} (ht:P.underlying t=some (.slice el)) (hu:P.underlying u=some .string∨∃ el',P.underlying u=some (.slice el')) (hi:P.info? el=some i)
  (b:Option Addr) (sLen:Nat) (x:Value) (hlen:(Builtin.lenOf x).run P w=.ok 0 w) (news:Array Value) (hnews:news.size=0)
  (hnew:(Builtin.firstCells i.size 0 x).run P w=.ok news w):(Builtin.append_ #[t,u] ty #[.slice b sLen sLen,x]).run P w=.ok (.slice b sLen sLen) w:=by
 have h0:news=#[]:=Array.eq_empty_of_size_eq_zero hnews
 subst h0
 rcases hu with hu | ⟨el',hu⟩ <;> (cases b <;> simp [Builtin.append_,run_underlying ht,run_underlying hu,Go.sizeOf,typeInfo,hi,hlen,hnew,storeCells])
omit hgl in
theorem joined_rv {g':G} {w1:World} {sz:Nat} {es xs:List PV} {olds news us:Array Value} (hx1:Ext N0 g w g' w1) (hho:Holds N0 g w sz es olds) (hhn:Holds N0 g w sz xs news)
  (hus:∀ q,q < (es.length+xs.length) * sz→us.getD q Go.undef=(olds ++ news).getD q Go.undef) :
  (∀ (i:Nat) (x:PV),(es ++ strips xs)[i]?=some x→x.cells.length=sz) ∧
  ∀ (i j:Nat) (x y:PV),(es ++ strips xs)[i]?=some x→x.cells[j]?=some y→RV N0 g' w1 y (us.getD (i * sz+j) Go.undef):=by
 have hget:∀ (i:Nat) (x0:PV),(es ++ strips xs)[i]?=some x0→(i < es.length∧es[i]?=some x0)∨(es.length≤i∧∃ x1,xs[i - es.length]?=some x1∧x0=strip x1):=by
  intro i x0 hx
  by_cases hlt:i < es.length
  ·rw [List.getElem?_append_left hlt] at hx;exact .inl ⟨hlt,hx⟩
  ·rw [List.getElem?_append_right (by omega),strips_get,Option.map_eq_some_iff] at hx
   obtain ⟨x1,hx1,rfl⟩:=hx
   exact .inr ⟨by omega,x1,hx1,rfl⟩
 have hsz:∀ (i:Nat) (x:PV),(es ++ strips xs)[i]?=some x→x.cells.length=sz:=by
  intro i x0 hx
  rcases hget i x0 hx with ⟨_,hx'⟩ | ⟨_,x1,hx',rfl⟩
  ·exact hho.2.1 i x0 hx'
  ·rw [strip_cells];exact hhn.2.1 _ x1 hx'
 refine ⟨hsz,fun i j x0 y hx hy=>?_⟩
 have hj:j < sz:=by rw [←hsz i x0 hx];exact (List.getElem?_eq_some_iff.1 hy).1
 have e1:=hho.1
 have e2:=hhn.1
 rcases hget i x0 hx with ⟨hlt,hx'⟩ | ⟨hge,x1,hx',rfl⟩
 ·have h1:=mul_lt_of hlt hj
  have h2:es.length * sz≤(es.length+xs.length) * sz:=Nat.mul_le_mul_right _ (by omega)
  rw [hus _ (by omega),Array.getD_eq_getD_getElem?,Array.getElem?_append_left (by omega),←Array.getD_eq_getD_getElem?]
  exact (hho.2.2 i j x0 y hx' hy).mono hx1
 ·have hlt:i - es.length < xs.length:=(List.getElem?_eq_some_iff.1 hx').1
  have h1:(i - es.length) * sz+j < xs.length * sz:=mul_lt_of hlt hj
  have hge':es.length * sz≤i * sz:=Nat.mul_le_mul_right _ hge
  have hsub:i * sz+j - olds.size=(i - es.length) * sz+j:=by rw [e1,Nat.sub_mul];omega
  rw [hus _ (by rw [Nat.add_mul];rw [Nat.sub_mul] at h1;omega),Array.getD_eq_getD_getElem?,Array.getElem?_append_right (by omega),hsub,←Array.getD_eq_getD_getElem?]
  -- a cell without its token
  have hy':∃ y1,x1.cells[j]?=some y1∧y=strip y1:=by
   have one:∀ v:PV,(strip v).cells=[strip v]→v.cells=[v]→(strip v).cells[j]?=some y→∃ y1,v.cells[j]?=some y1∧y=strip y1:=by
    intro v a1 a2 a3
    rw [a1] at a3
    rw [a2]
    cases j with
    | zero=>simp at a3;exact ⟨v,rfl,a3.symm⟩
    | succ j=>simp at a3
   cases x1 with
   | agg cs =>
    simp only [strip,PV.cells,strips_get,Option.map_eq_some_iff] at hy
    obtain ⟨y1,q1,q2⟩:=hy
    exact ⟨y1,q1,q2.symm⟩
   | _=>exact one _ rfl rfl hy
  obtain ⟨y1,hy',rfl⟩:=hy'
  exact rv_strip ((hhn.2.2 _ j x1 y1 hx' hy').mono hx1)
omit hgl in
theorem append_none {t u ty el:TypeId} {i:TypeInfo} (ht:P.underlying t=some (.slice el)) (hu:P.underlying u=some .string∨∃ el',P.underlying u=some (.slice el')) (hi:P.info? el=some i)
  (b:Option Addr) (sLen cap:Nat) (hc:sLen≤cap) (x:Value) (hlen:(Builtin.lenOf x).run P w=.ok 0 w) (news:Array Value) (hnews:news.size=0)
  (hnew:(Builtin.firstCells i.size 0 x).run P w=.ok news w):(Builtin.append_ #[t,u] ty #[.slice b sLen cap,x]).run P w=.ok (.slice b sLen cap) w:=by
 have h0:news=#[]:=Array.eq_empty_of_size_eq_zero hnews
 subst h0
 rcases hu with hu | ⟨el',hu⟩ <;> (cases b <;> simp [Builtin.append_,run_underlying ht,run_underlying hu,Go.sizeOf,typeInfo,hi,hlen,hnew,storeCells,hc])
omit hgl in
theorem append_room {t u ty el:TypeId} {i:TypeInfo} (ht:P.underlying t=some (.slice el)) (hu:P.underlying u=some .string∨∃ el',P.underlying u=some (.slice el')) (hi:P.info? el=some i)
  (A:Addr) (sLen cap:Nat) (x:Value) (n:Nat) (hc:sLen+n≤cap) (hlen:(Builtin.lenOf x).run P w=.ok n w) (news:Array Value)
  (hnew:(Builtin.firstCells i.size n x).run P w=.ok news w) {w1:World} (hst:(storeCells (A.add (sLen * i.size)) news.toList).run P w=.ok () w1) :
  (Builtin.append_ #[t,u] ty #[.slice (some A) sLen cap,x]).run P w=.ok (.slice (some A) (sLen+n) cap) w1:=by
 rcases hu with hu | ⟨el',hu⟩ <;> simp [Builtin.append_,run_underlying ht,run_underlying hu,Go.sizeOf,typeInfo,hi,hlen,hnew,hst,hc]
omit hgl in
theorem append_grow {t u ty el:TypeId} {i:TypeInfo} {z:Value} (ht:P.underlying t=some (.slice el)) (hu:P.underlying u=some .string∨∃ el',P.underlying u=some (.slice el')) (hi:P.info? el=some i) (hz:i.zero=some z)
  (b:Option Addr) (sLen cap:Nat) (x:Value) (n:Nat) (hc:cap < sLen+n) (hlen:(Builtin.lenOf x).run P w=.ok n w) (olds news:Array Value)
  (hold:∀ w1:World,w1=w∨w1=w.drew→(Builtin.firstCells i.size sLen (.slice b sLen cap)).run P w1=.ok olds w1)
  (hnew:∀ w1:World,w1=w∨w1=w.drew→(Builtin.firstCells i.size n x).run P w1=.ok news w1)
  (h63:((sLen+n:Nat):Int)≤9223372036854775807) (hfit:Builtin.nextslicecap (sLen+n) cap * i.bytes≤281474976710656) :
  (Builtin.append_ #[t,u] ty #[.slice b sLen cap,x]).run P w =
   .ok (.slice (some ⟨w.heap.size,0,none⟩) (sLen+n) (grownCap w (sLen+n) cap el)) (w.drew.alloc (.cells (olds ++ news ++ Builtin.zeroCells z.cells (grownCap w (sLen+n) cap el - (sLen+n))) el)):=by
 have hn':¬ (sLen+n≤cap):=by omega
 have h63':¬ (9223372036854775807 < ((sLen:Int)+(n:Int))):=by omega
 have h48':¬ (281474976710656 < Builtin.nextslicecap (sLen+n) cap * i.bytes):=by omega
 have h1:=hold w.drew (.inr rfl)
 have h2:=hnew w.drew (.inr rfl)
 rcases hu with hu | ⟨el',hu⟩ <;> simp [Builtin.append_,run_underlying ht,run_underlying hu,Go.sizeOf,typeInfo,zeroValue,hi,hz,hlen,hn',h63',h48',Question.forced,h1,h2,newRow,grownCap]
omit hgl in
theorem store_raw {c off:Nat} {T:TypeId} {lo hi:Nat}:∀ (us:List Value) (i:Nat) (w:World) (arr:Array Value),w.heap[c]?=some (.cells arr T (lo,hi))→off+i+us.length≤arr.size→(lo < hi→hi≤off∨off+i+us.length≤lo) →
  (∀ u∈us,(∀ l,u≠.agg l)∧(∀ l,u≠.tuple l))→N0≤c →
  ∃ w1 arr',(storeCells ⟨c,off,none⟩ us i).run P w=.ok () w1∧w1.heap[c]?=some (.cells arr' T (lo,hi))∧arr'.size=arr.size∧w1.heap.size=w.heap.size∧(∀ d,d≠c→w1.heap[d]?=w.heap[d]?)∧Below N0 w w1 ∧
   ∀ q,arr'[q]?=if off+i≤q∧q < off+i+us.length then us[q - (off+i)]? else arr[q]?
 | [],i,w,arr,hw,hle,hfr,hu,hc=>⟨w,arr,by simp [storeCells],hw,rfl,rfl,fun _ _=>rfl,Below.refl _ _,fun q=>by rw [if_neg (by simp)]⟩
 | u :: us,i,w,arr,hw,hle,hfr,hu,hc=>by
  simp only [List.length_cons] at hle
  have hoff:off+i < arr.size:=by omega
  have hcell:w.cell? ⟨c,off+i,none⟩=some arr[off+i]:=by simp [World.cell?,hw,hoff]
  have hfz:w.frozen? ⟨c,off+i,none⟩=false:=by
   simp only [World.frozen?,hw]
   rw [Bool.and_eq_false_iff]
   by_cases hlh:lo < hi
   ·rcases hfr hlh with this | this
    ·right;simp;omega
    ·left;simp only [List.length_cons] at this;simp;omega
   ·by_cases h1:lo≤off+i
    ·right;simp;omega
    ·left;simp;omega
  have hset:(w.setCell ⟨c,off+i,none⟩ u).heap[c]?=some (.cells (arr.setIfInBounds (off+i) u) T (lo,hi)):=by
   simp only [World.setCell,Array.getElem?_modify,if_true,hw,Option.map_some,Option.isSome_none,Bool.false_eq_true,if_false]
  obtain ⟨w1,arr',h1,h2,h3,h4,h5,h6,h7⟩:=store_raw us (i+1) (w.setCell ⟨c,off+i,none⟩ u) (arr.setIfInBounds (off+i) u) hset (by simp;omega) (fun hlh=>(hfr hlh).imp id fun q=>by simp only [List.length_cons] at q;omega) (fun v hv=>hu v (by simp [hv])) hc
  refine ⟨w1,arr',?_,h2,by rw [h3];simp,by rw [h4];simp,fun d hd=>by rw [h5 d hd];exact Below.heap_setCell _ _ _ _ hd,((Below.refl N0 w).setCell hc _).trans h6,fun q=>?_⟩
  ·have hna:=hu u (by simp)
   have hst:(store (⟨c,off+i,none⟩ : Addr) u).run P w=.ok () (w.setCell ⟨c,off+i,none⟩ u):=by
    cases u with
    | agg l=>exact (hna.1 l rfl).elim
    | tuple l=>exact (hna.2 l rfl).elim
    | _=>simp [store,Sem.run,hcell,hfz]
   simp only [storeCells,add_addr,Sem.run_bind,hst,Result.andThen]
   exact h1
  ·rw [h7,List.length_cons]
   by_cases hq:q=off+i
   ·subst hq
    rw [if_neg (by omega),if_pos (by omega)]
    simp [hoff]
   ·by_cases hc2:off+i≤q∧q < off+i+(us.length+1)
    ·rw [if_pos (by omega),if_pos hc2,show q - (off+i)=(q - (off+(i+1)))+1 by omega,List.getElem?_cons_succ]
    ·rw [if_neg (by omega),if_neg hc2,Array.getElem?_setIfInBounds_ne (by omega)]
omit hgl in
theorem holds_of {sz:Nat} {es:List PV} {c o:Nat} {sp:Option Nat} {uu:Nat→Nat→Value} (hpos:sz≠0) (q3:∀ (i:Nat) (e:PV),es[i]?=some e→e.cells.length=sz)
  (q4:∀ i j,i < es.length→j < sz→w.cell? ⟨c,o+(i * sz+j),none⟩=some (uu i j)) (q5:∀ (i j:Nat) (e x:PV),es[i]?=some e→e.cells[j]?=some x→RV N0 g w x (uu i j)) (q8:es≠[]→sp=none) (len cap:Nat) :
  ∃ olds:Array Value,(∀ w1:World,w1=w∨w1=w.drew→(Builtin.firstCells sz es.length (.slice (some ⟨c,o,sp⟩) len cap)).run P w1=.ok olds w1)∧Holds N0 g w sz es olds∧∀ i j,i < es.length→j < sz→olds.getD (i * sz+j) Go.undef=uu i j:=by
 have val:∀ i j,i < es.length→j < sz→(((List.range (es.length * sz)).map fun q=>uu (q / sz) (q % sz)).toArray).getD (i * sz+j) Go.undef=uu i j:=by
  intro i j hil hjl
  have hlt:=mul_lt_of hil hjl
  have e1:(i * sz+j) / sz=i:=by rw [Nat.mul_comm,Nat.mul_add_div (by omega),Nat.div_eq_of_lt hjl,Nat.add_zero]
  have e2:(i * sz+j) % sz=j:=by rw [Nat.mul_comm,Nat.mul_add_mod,Nat.mod_eq_of_lt hjl]
  simp [Array.getD_eq_getD_getElem?,hlt,e1,e2]
 refine ⟨((List.range (es.length * sz)).map fun q=>uu (q / sz) (q % sz)).toArray,?_,⟨by simp,q3,?_⟩,val⟩
 ·intro w1 hw1
  simp only [Builtin.firstCells]
  refine run_loadCells (P:=P) w1 ⟨c,o,sp⟩ _ (fun q=>uu (q / sz) (q % sz)) (fun q hq=>?_)
  obtain rfl:sp=none:=q8 (by rintro rfl;simp at hq)
  have hd':q / sz < es.length:=Nat.div_lt_of_lt_mul (by rwa [Nat.mul_comm] at hq)
  have hm:q % sz < sz:=Nat.mod_lt _ (by omega)
  have:=q4 (q / sz) (q % sz) hd' hm
  rw [show q / sz * sz+q % sz=q by rw [Nat.mul_comm];exact Nat.div_add_mod q sz] at this
  rw [add_addr]
  rcases hw1 with rfl | rfl
  ·exact this
  ·exact this
 ·intro i j x0 y hi' hj
  have hil:i < es.length:=(List.getElem?_eq_some_iff.1 hi').1
  have hjl:j < sz:=by rw [←q3 i x0 hi'];exact (List.getElem?_eq_some_iff.1 hj).1
  rw [val i j hil hjl]
  exact q5 i j x0 y hi' hj
omit hgl in
theorem fresh_rv {g':G} {w1:World} {sz:Nat} {es xs:List PV} {olds news us:Array Value} {T:TypeId} (hx1:Ext N0 g w g' w1) (hho:Holds N0 g w sz es olds) (hhn:Holds N0 g w sz xs news) {rest:Array Value}
  (hus:us=olds ++ news ++ rest) (hw1:w1.heap[w.heap.size]?=some (.cells us T (0,0))) {m:Nat} (hhw:g'.hw w.heap.size=some m) (hm:(es.length+xs.length) * sz≤m) (ow:Own) (cap:Nat) (hcap:es.length+xs.length≤cap) (hnf:ow≠.full)
  (htk:∀ t,ow=.tok t→t < g'.n∧g'.tk t=⟨es.length+xs.length,w.heap.size,0,cap,sz⟩) :
  RV N0 g' w1 (.sl ow sz (es ++ strips xs)) (.slice (some ⟨w.heap.size,0,none⟩) (es.length+xs.length) cap):=by
 have e1:=hho.1
 have e2:=hhn.1
 have hlen2:(es ++ strips xs).length=es.length+xs.length:=by simp [strips_length]
 have husz:(es.length+xs.length) * sz≤us.size:=by
  simp only [hus,Array.size_append,e1,e2,Nat.add_mul];omega
 obtain ⟨j1,j2⟩:=joined_rv (us:=us) hx1 hho hhn (fun q hq=>by
  rw [hus,Array.getD_eq_getD_getElem?,Array.getElem?_append_left (by simp only [Array.size_append,e1,e2];rw [Nat.add_mul] at hq;exact hq),←Array.getD_eq_getD_getElem?])
 have:=RV.sl (N0:=N0) (g:=g') (w:=w1) ow sz (es ++ strips xs) w.heap.size 0 cap (fun i j=>us.getD (i * sz+j) Go.undef)
  (by omega) (fun h=>(hnf h).elim) j1 (fun i j hi' hj=>by
   rw [hlen2] at hi'
   have hlt:=mul_lt_of hi' hj
   rw [Nat.zero_add]
   have hq:i * sz+j < us.size:=by omega
   simp [World.cell?,hw1,Array.getD_eq_getD_getElem?,hq]) j2 (fun _=>.inr ⟨m,hhw,by rw [hlen2];omega⟩) none (fun _=>rfl)
  (fun t ht=>by
   obtain ⟨t1,t2⟩:=htk t ht
   rw [hlen2,t2]
   exact ⟨t1,Nat.le_refl _,fun _=>⟨rfl,rfl⟩⟩)
 rw [hlen2] at this
 exact this
omit hgl in
theorem grown_le (w:World) (need old:Nat) (el:TypeId):need≤grownCap w need old el:=by
 unfold grownCap
 simp only [Question.cut]
 omega
theorem append_args (k:Ok (N0:=N0) w0 g e a.tmps h w) {c:Go.Call} (ho:o.op=.call c) (hb:c.callee=.builtin .append) {s x:Operand} {t u:TypeId} (hargs:c.args=#[s,x]) (htys:c.argTypes=#[t,u])
  {sz:Nat} (hpos:sz≠0) {s' x':Opnd} (hs':cOpnd gl s=some s') (hx':cOpnd gl x=some x') {p q:PV} (hp:ev e s'=some p) (hq:ev e x'=some q) {xs:List PV} (hxs:elems h q=some xs) (hall:xs.all (fun x=>x.cells.length == sz)=true) :
  RV N0 g w p (a.eval s)∧(Builtin.lenOf (a.eval x)).run P w=.ok xs.length w∧(∃ news:Array Value,(∀ w1:World,w1=w∨w1=w.drew→(Builtin.firstCells sz xs.length (a.eval x)).run P w1=.ok news w1)∧Holds N0 g w sz xs news) ∧
  ∀ v w1,(Builtin.append_ #[t,u] o.type #[a.eval s,a.eval x]).run P w=.ok v w1→(execOp a.eval o).run P w=.ok (.value v) w1:=by
 have h1:=rv_ev hgl k hs' hp
 have h2:=rv_ev hgl k hx' hq
 obtain ⟨hlen,hnews⟩:=src_rv (P:=P) k hpos h2 hxs hall
 obtain ⟨cs,hrun⟩:=run_of_builtin (P:=P) (w:=w) (a:=a) ho hb
 rw [hargs,htys] at hrun
 simp only [builtin,List.map_toArray,List.map_cons,List.map_nil] at hrun
 refine ⟨h1,hlen,hnews,fun v w1 hr=>?_⟩
 rw [hrun]
 simp only [Sem.run_bind,hr,Result.andThen,Sem.run_pure]
theorem g_append (k:Ok (N0:=N0) w0 g e a.tmps h w) {c:Go.Call} (ho:o.op=.call c) (hb:c.callee=.builtin .append) {s x:Operand} {t u el:TypeId} (hargs:c.args=#[s,x]) (htys:c.argTypes=#[t,u])
  (ht:P.underlying t=some (.slice el)) (hu:P.underlying u=some .string∨∃ el',P.underlying u=some (.slice el')) {sz:Nat} (hsz:sizeOf P el=some sz) (hsm:smallBytes P el=true) (hpos:sz≠0) {z:List PV} (hz:zeroOf P el=some z) (hzl:z.length=sz)
  {s' x':Opnd} (hs':cOpnd gl s=some s') (hx':cOpnd gl x=some x')
  (hs:step orc base draw (.append sz s' x') e h=some (v,e',h')):Gives N0 P w0 g a w (execOp a.eval o) v e' h':=by
 simp only [step,Option.bnd_eq_some_iff] at hs
 obtain ⟨p,hp,q,hq,xs,hxs,hs⟩:=hs
 obtain ⟨i,zv,hi,hiz,hzsz,_⟩:=rv_zero (N0:=N0) hz
 have hisz:i.size=sz:=by simp only [sizeOf,Option.map_eq_some_iff] at hsz;obtain ⟨i',e1,e2⟩:=hsz;rw [hi] at e1;cases e1;exact e2
 have hbytes:i.bytes≤4096:=by simp only [smallBytes,hi,decide_eq_true_eq] at hsm;exact hsm
 split at hs
 ·rename_i hall
  obtain ⟨h1,hlen,⟨news,hnew,hold2⟩,hrun⟩:=append_args hgl k ho hb hargs htys hpos hs' hx' hp hq hxs hall
  have none_:∀ (b:Option Addr) (n cap:Nat),n≤cap→a.eval s=.slice b n cap→xs.length=0→(execOp a.eval o).run P w=.ok (.value (.slice b n cap)) w:=by
   intro b n cap hc hA hx0
   rw [hx0] at hlen hnew
   exact hrun _ _ (by rw [hA];exact append_none ht hu hi b n cap hc (a.eval x) hlen news (by rw [hold2.1,hx0,Nat.zero_mul]) (by rw [hisz];exact hnew w (.inl rfl)))
  have some_:∀ (b:Option Addr) (es:List PV) (olds:Array Value),a.eval s=.slice b es.length es.length→0 < xs.length→es.length+xs.length≤lim2 →
    (∀ w1:World,w1=w∨w1=w.drew→(Builtin.firstCells sz es.length (.slice b es.length es.length)).run P w1=.ok olds w1)→Holds N0 g w sz es olds →
    Gives N0 P w0 g a w (execOp a.eval o) (.sl .no sz (es ++ strips xs)) e h:=by
   intro b es olds hA hx0 hlim hfo hho
   unfold lim2 at hlim
   have hfit:Builtin.nextslicecap (es.length+xs.length) es.length * i.bytes≤281474976710656:=by
    apply growslice_fits (by omega)
    have:(es.length+xs.length) * i.bytes≤17179869184 * 4096:=Nat.mul_le_mul hlim hbytes
    omega
   have hr:=append_grow (ty:=o.type) ht hu hi hiz b es.length es.length (a.eval x) xs.length (by omega) hlen olds news (by rw [hisz];exact hfo) (by rw [hisz];exact hnew) (by omega) hfit
   obtain ⟨g',hx1,hok,hhw⟩:=ok_fixed k _ el ((es.length+xs.length) * sz) _ (lo:=0) (hi:=0) (.inr rfl)
   refine ⟨_,_,_,g',hrun _ _ (by rw [hA];exact hr),.inl rfl,hx1,hok,?_⟩
   exact fresh_rv hx1 hho hold2 rfl (MadeBy.at (.inr rfl)) hhw (Nat.le_refl _) .no _ (grown_le _ _ _ _) (by simp) (by simp)
  generalize hA:a.eval s=A at h1 none_ some_
  cases h1 <;> (try simp only at hs) <;> (try cases hs)
  case nils =>
   split at hs
   ·rename_i hl
    simp only [Option.some.injEq,Prod.mk.injEq] at hs
    obtain ⟨rfl,rfl,rfl⟩:=hs
    rcases Nat.eq_zero_or_pos xs.length with h0 | hp
    ·have:xs=[]:=List.eq_nil_of_length_eq_zero h0
     subst this
     simp only [List.isEmpty_nil,if_true]
     exact gives_pure k (none_ none 0 0 (Nat.le_refl _) rfl rfl) .nils
    ·have hne:xs.isEmpty=false:=by cases xs <;> simp at hp ⊢
     rw [hne]
     simp only [Bool.false_eq_true,if_false]
     have:=some_ none [] #[] rfl hp (by simpa using hl) (fun w1 _=>by simp [Builtin.firstCells]) ⟨by simp,by simp,by simp⟩
     simpa using this
   ·cases hs
  case sl ow sz' es c' o' cap uu q1 q2 q3 q4 q5 q6 q7 q8 q9 =>
   cases ow <;> (try simp only at hs) <;> (try cases hs)
   case full =>
    split at hs
    ·rename_i hl
     obtain ⟨rfl,hl⟩:=hl
     simp only [Option.some.injEq,Prod.mk.injEq] at hs
     obtain ⟨rfl,rfl,rfl⟩:=hs
     have hcap:=q2 rfl
     subst hcap
     rcases Nat.eq_zero_or_pos xs.length with h0 | hp
     ·have:xs=[]:=List.eq_nil_of_length_eq_zero h0
      subst this
      simp only [List.isEmpty_nil,if_true]
      exact gives_pure k (none_ _ es.length es.length (Nat.le_refl _) rfl rfl) (.sl .full sz' es c' o' es.length uu q1 q2 q3 q4 q5 q6 q7 q8 q9)
     ·have hne:xs.isEmpty=false:=by cases xs <;> simp at hp ⊢
      rw [hne]
      simp only [Bool.false_eq_true,if_false]
      obtain ⟨olds,hfo,hho,hval⟩:=holds_of (P:=P) (g:=g) (w:=w) hpos q3 q4 q5 q8 es.length es.length
      exact some_ _ es olds rfl hp hl hfo hho
    ·cases hs
 ·cases hs
theorem g_appendT (k:Ok (N0:=N0) w0 g e a.tmps h w) {c:Go.Call} (ho:o.op=.call c) (hb:c.callee=.builtin .append) {s x:Operand} {t u el:TypeId} (hargs:c.args=#[s,x]) (htys:c.argTypes=#[t,u])
  (ht:P.underlying t=some (.slice el)) (hu:P.underlying u=some .string∨∃ el',P.underlying u=some (.slice el')) {sz:Nat} (hsz:sizeOf P el=some sz) (hsm:smallBytes P el=true) (hpos:sz≠0) {z:List PV} (hz:zeroOf P el=some z) (hzl:z.length=sz)
  {s' x':Opnd} (hs':cOpnd gl s=some s') (hx':cOpnd gl x=some x')
  (hs:step orc base draw (.appendT el sz s' x') e h=some (v,e',h')):Gives N0 P w0 g a w (execOp a.eval o) v e' h':=by
 simp only [step,Option.bnd_eq_some_iff,Option.some.injEq,Prod.mk.injEq] at hs
 obtain ⟨p,hp,q,hq,xs,hxs,r,hs,rfl,rfl,rfl⟩:=hs
 obtain ⟨i,zv,hi,hiz,hzsz,_⟩:=rv_zero (N0:=N0) hz
 have hisz:i.size=sz:=by simp only [sizeOf,Option.map_eq_some_iff] at hsz;obtain ⟨i',e1,e2⟩:=hsz;rw [hi] at e1;cases e1;exact e2
 have hbytes:i.bytes≤4096:=by simp only [smallBytes,hi,decide_eq_true_eq] at hsm;exact hsm
 unfold growT at hs
 split at hs
 ·rename_i hfit0
  have hall:xs.all (fun x=>x.cells.length == sz)=true:=by
   rw [List.all_eq_true] at hfit0 ⊢
   intro x hx
   have:=hfit0 x hx
   simp only [fits,Bool.and_eq_true] at this
   exact this.1
  obtain ⟨h1,hlen,⟨news,hnew,hold2⟩,hrun⟩:=append_args hgl k ho hb hargs htys hpos hs' hx' hp hq hxs hall
  have none_:∀ (b:Option Addr) (n cap:Nat),n≤cap→a.eval s=.slice b n cap→xs.length=0→(execOp a.eval o).run P w=.ok (.value (.slice b n cap)) w:=by
   intro b n cap hc hA hx0
   rw [hx0] at hlen hnew
   exact hrun _ _ (by rw [hA];exact append_none ht hu hi b n cap hc (a.eval x) hlen news (by rw [hold2.1,hx0,Nat.zero_mul]) (by rw [hisz];exact hnew w (.inl rfl)))
  have hfit:∀ n cap,n+xs.length≤lim2→cap < n+xs.length→Builtin.nextslicecap (n+xs.length) cap * i.bytes≤281474976710656:=by
   intro n cap hlim hc
   unfold lim2 at hlim
   apply growslice_fits hc
   have:(n+xs.length) * i.bytes≤17179869184 * 4096:=Nat.mul_le_mul hlim hbytes
   omega
  have some_:∀ (b:Option Addr) (es:List PV) (olds:Array Value),a.eval s=.slice b es.length es.length→0 < xs.length→es.length+xs.length≤lim2 →
    (∀ w1:World,w1=w∨w1=w.drew→(Builtin.firstCells sz es.length (.slice b es.length es.length)).run P w1=.ok olds w1)→Holds N0 g w sz es olds →
    Gives N0 P w0 g a w (execOp a.eval o) (.sl (.tok (size h)) sz (es ++ strips xs)) e (ext h [.tok (es.length+xs.length) el]):=by
   intro b es olds hA hx0 hlim hfo hho
   have hr:=append_grow (ty:=o.type) ht hu hi hiz b es.length es.length (a.eval x) xs.length (by omega) hlen olds news (by rw [hisz];exact hfo) (by rw [hisz];exact hnew) (by unfold lim2 at hlim;omega) (hfit _ _ hlim (by omega))
   let cap:=grownCap w (es.length+xs.length) es.length el
   have hcap:es.length+xs.length≤cap:=grown_le _ _ _ _
   obtain ⟨g',hx1,hok,hn',_,hhw,htk,_⟩:=ok_newbox (cpv:=0) k (.inr rfl:MadeBy w _ (.cells (olds ++ news ++ Builtin.zeroCells zv.cells (cap - (es.length+xs.length))) el)) (.tok (es.length+xs.length) el) (some ((es.length+xs.length) * sz))
    ⟨es.length+xs.length,w.heap.size,0,cap,sz⟩ (fun n T hn=>⟨rfl,rfl⟩) (fun g' hx1 hι hhw htk _=>by
     simp only [BoxOk,htk]
     refine ⟨trivial,hcap,ok_size k,by rw [hhw,Nat.zero_add],trivial,_,0,0,MadeBy.at (.inr rfl),?_,Nat.zero_le _⟩
     have e1:=hho.1
     have e2:=hold2.1
     have e3:(Builtin.zeroCells zv.cells (cap - (es.length+xs.length))).size=(cap - (es.length+xs.length)) * zv.cells.size:=by simp [Builtin.zeroCells]
     have e4:zv.cells.size=sz:=by rw [hzsz,hzl]
     simp only [Array.size_append,e1,e2,e3,e4,Nat.zero_add]
     rw [←Nat.add_mul,←Nat.add_mul]
     apply Nat.mul_le_mul_right
     omega)
   refine ⟨_,_,_,g',hrun _ _ (by rw [hA];exact hr),.inl rfl,hx1,hok,?_⟩
   exact fresh_rv hx1 hho hold2 rfl (MadeBy.at (.inr rfl)) hhw (Nat.le_refl _) (.tok (size h)) _ hcap (by simp) (fun t ht'=>by cases ht';exact ⟨by rw [hn'];omega,htk⟩)
  generalize hA:a.eval s=A at h1 none_ some_ hrun
  cases h1 <;> (try simp only at hs) <;> (try cases hs)
  case nils =>
   split at hs
   ·rename_i hl
    simp only [Option.some.injEq] at hs
    subst hs
    rcases Nat.eq_zero_or_pos xs.length with h0 | hp
    ·have:xs=[]:=List.eq_nil_of_length_eq_zero h0
     subst this
     simp only [List.isEmpty_nil,if_true]
     exact gives_pure k (none_ none 0 0 (Nat.le_refl _) rfl rfl) .nils
    ·have hne:xs.isEmpty=false:=by cases xs <;> simp at hp ⊢
     rw [hne]
     simp only [Bool.false_eq_true,if_false]
     have:=some_ none [] #[] rfl hp (by simpa using hl) (fun w1 _=>by simp [Builtin.firstCells]) ⟨by simp,by simp,by simp⟩
     simpa using this
   ·cases hs
  case sl ow sz' es c' o' cap uu q1 q2 q3 q4 q5 q6 q7 q8 q9 =>
   cases ow <;> (try simp only at hs) <;> (try cases hs)
   case full =>
    split at hs
    ·rename_i hl
     obtain ⟨rfl,hl⟩:=hl
     simp only [Option.some.injEq] at hs
     subst hs
     have hcap:=q2 rfl
     subst hcap
     rcases Nat.eq_zero_or_pos xs.length with h0 | hp
     ·have:xs=[]:=List.eq_nil_of_length_eq_zero h0
      subst this
      simp only [List.isEmpty_nil,if_true]
      exact gives_pure k (none_ _ es.length es.length (Nat.le_refl _) rfl rfl) (.sl .full sz' es c' o' es.length uu q1 q2 q3 q4 q5 q6 q7 q8 q9)
     ·have hne:xs.isEmpty=false:=by cases xs <;> simp at hp ⊢
      rw [hne]
      simp only [Bool.false_eq_true,if_false]
      obtain ⟨olds,hfo,hho,hval⟩:=holds_of (P:=P) (g:=g) (w:=w) hpos q3 q4 q5 q8 es.length es.length
      exact some_ _ es olds rfl hp hl hfo hho
    ·cases hs
   case tok tb =>
    simp only [Option.bnd_eq_some_iff] at hs
    obtain ⟨n,hn,hs⟩:=hs
    split at hs
    ·rename_i hl
     obtain ⟨rfl,rfl,hl⟩:=hl
     simp only [Option.some.injEq] at hs
     subst hs
     obtain ⟨t1,t2,t3⟩:=q9 tb rfl
     have hbx:=box_of_tok hn
     have hb0:=k.box tb _ hbx
     simp only [BoxOk] at hb0
     obtain ⟨b1,b2,b3,b4,b8,arr,lo,hi',b5,b6,b7⟩:=hb0
     obtain ⟨t4,rfl⟩:=t3 b1
     rw [t4] at b1 b2 b3 b4 b5 b6 b7 b8
     simp only at b1 b2 b3 b4 b5 b6 b7 b8
     have hblk:blk g tb (.tok es.length el)=c':=by simp only [blk,t4]
     obtain ⟨olds,hfo,hho,hval⟩:=holds_of (P:=P) (g:=g) (w:=w) hpos q3 q4 q5 q8 es.length cap
     have hcsz:=(blk_lt k hbx).2
     rw [hblk] at hcsz
     by_cases hroom:es.length+xs.length≤cap
     ·-- in place
      have hmul:(es.length+xs.length) * sz'≤cap * sz':=Nat.mul_le_mul_right _ hroom
      rw [Nat.add_mul] at hmul
      have e2:=hold2.1
      obtain ⟨w1,arr',s1,s2,s3,s4,s5,s6,s7⟩:=store_raw (P:=P) (N0:=N0) (off:=o'+es.length * sz') news.toList 0 w arr b5 (by simp only [Array.length_toList,e2];omega) (fun _=>.inl b7) (fun y hy=>by
       obtain ⟨j,hj⟩:=List.mem_iff_getElem?.1 hy
       have hjl:j < xs.length * sz':=by rw [←e2,←Array.length_toList];exact (List.getElem?_eq_some_iff.1 hj).1
       have hdj:j / sz' < xs.length:=Nat.div_lt_of_lt_mul (by rwa [Nat.mul_comm] at hjl)
       have hmj:j % sz' < sz':=Nat.mod_lt _ (by omega)
       obtain ⟨x0,hx0⟩ : ∃ x0,xs[j / sz']?=some x0:=⟨_,List.getElem?_eq_getElem hdj⟩
       have hf:=List.all_eq_true.1 hfit0 x0 (List.mem_of_getElem? hx0)
       simp only [fits,Bool.and_eq_true,beq_iff_eq] at hf
       obtain ⟨y0,hy0⟩ : ∃ y0,x0.cells[j % sz']?=some y0:=⟨_,List.getElem?_eq_getElem (by omega)⟩
       have hsc:=List.all_eq_true.1 hf.2 y0 (List.mem_of_getElem? hy0)
       have hrv:=hold2.2.2 (j / sz') (j % sz') x0 y0 hx0 hy0
       rw [show j / sz' * sz'+j % sz'=j by rw [Nat.mul_comm];exact Nat.div_add_mod j sz'] at hrv
       have hyv:news.getD j Go.undef=y:=by
        rw [Array.getElem?_toList] at hj
        rw [Array.getD_eq_getD_getElem?,hj];rfl
       rw [hyv] at hrv
       constructor
       ·intro l hq;subst hq;cases hrv;simp [scalar] at hsc;simp [scalar] at hsc
       ·intro l hq;subst hq;cases hrv;simp [scalar] at hsc;simp [scalar] at hsc) b3
      have hr:=append_room (ty:=o.type) ht hu hi ⟨c',o',none⟩ es.length cap (a.eval x) xs.length hroom hlen news (by rw [hisz];exact hnew w (.inl rfl)) (w1:=w1) (by rw [hisz,add_addr];exact s1)
      let g':G:={ g with hw:=fun d=>if d=c' then some (o'+(es.length+xs.length) * sz') else g.hw d,tk:=fun d=>if d=tb then ⟨es.length+xs.length,c',o',cap,sz'⟩ else g.tk d }
      have ghw:g'.hw c'=some (o'+(es.length+xs.length) * sz'):=by show (if c'=c' then _ else _)=_;rw [if_pos rfl]
      have ghwo:∀ d,d≠c'→g'.hw d=g.hw d:=fun d hd=>by show (if d=c' then _ else _)=_;rw [if_neg hd]
      have gtk:g'.tk tb=⟨es.length+xs.length,c',o',cap,sz'⟩:=by show (if tb=tb then _ else _)=_;rw [if_pos rfl]
      have gtko:∀ d,d≠tb→g'.tk d=g.tk d:=fun d hd=>by show (if d=tb then _ else _)=_;rw [if_neg hd]
      have hcell:∀ q,(q < o'+es.length * sz'∨o'+(es.length+xs.length) * sz'≤q)→w1.cell? ⟨c',q,none⟩=w.cell? ⟨c',q,none⟩:=by
       intro q hq
       simp only [World.cell?,s2,b5,s7,Option.isSome_none,Bool.false_eq_true,if_false]
       rw [if_neg]
       simp only [Array.length_toList,e2]
       rw [Nat.add_mul] at hq
       omega
      have hx1:Ext N0 g w g' w1:=by
       refine ⟨Nat.le_refl _,fun _ _=>rfl,fun d m hm=>?_,fun d m q hm hq=>?_,fun d q hd=>?_,fun d hd=>?_,fun _ _=>rfl⟩
       ·by_cases hd:d=c'
        ·subst hd
         rw [b4] at hm
         cases hm
         exact ⟨_,ghw,by rw [Nat.add_mul];omega⟩
        ·exact ⟨m,by rw [ghwo d hd];exact hm,Nat.le_refl _⟩
       ·by_cases hd:d=c'
        ·subst hd
         rw [b4] at hm
         cases hm
         exact hcell q (.inl hq)
        ·simp only [World.cell?,s5 d hd]
       ·simp only [World.cell?,s5 d (by omega)]
       ·by_cases hd2:d=tb
        ·subst hd2
         rw [gtk,t4]
         refine ⟨by simp,fun hq=>?_⟩
         simp only [Nat.add_eq_left] at hq
         simp only [hq,Nat.add_zero]
        ·rw [gtko d hd2];exact ⟨Nat.le_refl _,fun _=>rfl⟩
      have hok:Ok (N0:=N0) w0 g' e a.tmps (setBx h tb (.tok (es.length+xs.length) el)) w1:=by
       refine ok_setbox k hbx hx1 rfl s6 (.inl (by rw [hblk];simp only [blk,gtk])) (fun d _ hd=>?_) gtko ?_ (fun d m hm=>?_)
       ·rw [hblk] at hd;exact ⟨s5 d hd,ghwo d hd⟩
       ·simp only [BoxOk,gtk]
        exact ⟨trivial,hroom,b3,ghw,b8,arr',lo,hi',s2,by rw [s3];exact b6,by rw [Nat.add_mul];omega⟩
       ·by_cases hd:d=c'
        ·subst hd;exact ⟨b3,by rw [s4];exact hcsz⟩
        ·rw [ghwo d hd] at hm
         have:=k.arr d m hm
         exact ⟨this.1,by rw [s4];exact this.2⟩
      refine ⟨_,_,w1,g',hrun _ _ hr,.inl rfl,hx1,hok,?_⟩
      have hlen2:(es ++ strips xs).length=es.length+xs.length:=by simp [strips_length]
      obtain ⟨j1,j2⟩:=joined_rv (us:=olds ++ news) hx1 hho hold2 (fun q _=>rfl)
      have:=RV.sl (N0:=N0) (g:=g') (w:=w1) (.tok tb) sz' (es ++ strips xs) c' o' cap (fun i j=>(olds ++ news).getD (i * sz'+j) Go.undef)
       (by rw [hlen2];exact hroom) (by simp) j1 (fun i j hi1 hj=>by
        rw [hlen2] at hi1
        have hlt:=mul_lt_of hi1 hj
        have e1:=hho.1
        by_cases hio:i < es.length
        ·have hlt2:=mul_lt_of hio hj
         rw [hcell _ (.inl (by omega)),q4 i j hio hj,Array.getD_eq_getD_getElem?,Array.getElem?_append_left (by omega),←Array.getD_eq_getD_getElem?]
         rw [hval i j hio hj]
        ·have hge:es.length * sz'≤i * sz':=Nat.mul_le_mul_right _ (by omega)
         rw [Nat.add_mul] at hlt
         simp only [World.cell?,s2,s7,Array.length_toList,e2,Option.isSome_none,Bool.false_eq_true,if_false]
         rw [if_pos (by omega),Array.getElem?_toList,Array.getD_eq_getD_getElem?,Array.getElem?_append_right (by omega),show o'+(i * sz'+j) - (o'+es.length * sz'+0)=i * sz'+j - olds.size by omega]
         have:i * sz'+j - olds.size < news.size:=by omega
         simp [this]) j2 (fun _=>.inr ⟨_,ghw,by rw [hlen2];exact Nat.le_refl _⟩) none (fun _=>rfl)
       (fun t ht'=>by
        cases ht'
        rw [hlen2,gtk]
        exact ⟨t1,Nat.le_refl _,fun _=>⟨rfl,rfl⟩⟩)
      rw [hlen2] at this
      exact this
     ·-- a new array
      have hr:=append_grow (ty:=o.type) ht hu hi hiz (some ⟨c',o',none⟩) es.length cap (a.eval x) xs.length (by omega) hlen olds news (by rw [hisz];exact hfo) (by rw [hisz];exact hnew) (by unfold lim2 at hl;omega) (hfit _ _ hl (by omega))
      let ncap:=grownCap w (es.length+xs.length) cap el
      have hcap:es.length+xs.length≤ncap:=grown_le _ _ _ _
      let us:Array Value:=olds ++ news ++ Builtin.zeroCells zv.cells (ncap - (es.length+xs.length))
      have hm:MadeBy w (w.drew.alloc (.cells us el)) (.cells us el):=.inr rfl
      let g':G:={ g with hw:=fun d=>if d=w.heap.size then some ((es.length+xs.length) * sz') else g.hw d,tk:=fun d=>if d=tb then ⟨es.length+xs.length,w.heap.size,0,ncap,sz'⟩ else g.tk d }
      have ghw:g'.hw w.heap.size=some ((es.length+xs.length) * sz'):=by show (if w.heap.size=w.heap.size then _ else _)=_;rw [if_pos rfl]
      have ghwo:∀ d,d≠w.heap.size→g'.hw d=g.hw d:=fun d hd=>by show (if d=w.heap.size then _ else _)=_;rw [if_neg hd]
      have gtk:g'.tk tb=⟨es.length+xs.length,w.heap.size,0,ncap,sz'⟩:=by show (if tb=tb then _ else _)=_;rw [if_pos rfl]
      have gtko:∀ d,d≠tb→g'.tk d=g.tk d:=fun d hd=>by show (if d=tb then _ else _)=_;rw [if_neg hd]
      have hN:=ok_size k
      have hx1:Ext N0 g w g' (w.drew.alloc (.cells us el)):=by
       refine ⟨Nat.le_refl _,fun _ _=>rfl,fun d m hm'=>⟨m,?_,Nat.le_refl _⟩,fun d m q hm' hq=>hm.cell (k.arr d m hm').2 q,fun d q hd=>hm.cell (by omega) q,fun d hd=>?_,fun _ _=>rfl⟩
       ·rw [ghwo d (by have:=(k.arr d m hm').2;omega)];exact hm'
       ·by_cases hd2:d=tb
        ·subst hd2
         rw [gtk,t4]
         refine ⟨by simp,fun hq=>?_⟩
         simp only [Nat.add_eq_left] at hq
         omega
        ·rw [gtko d hd2];exact ⟨Nat.le_refl _,fun _=>rfl⟩
      have husz:0+ncap * sz'≤us.size:=by
       have e1:=hho.1
       have e2:=hold2.1
       have e3:(Builtin.zeroCells zv.cells (ncap - (es.length+xs.length))).size=(ncap - (es.length+xs.length)) * zv.cells.size:=by simp [Builtin.zeroCells]
       have e4:zv.cells.size=sz':=by rw [hzsz,hzl]
       simp only [us,Array.size_append,e1,e2,e3,e4,Nat.zero_add]
       rw [←Nat.add_mul,←Nat.add_mul]
       apply Nat.mul_le_mul_right
       omega
      have hok:Ok (N0:=N0) w0 g' e a.tmps (setBx h tb (.tok (es.length+xs.length) el)) (w.drew.alloc (.cells us el)):=by
       refine ok_setbox k hbx hx1 rfl (hm.below hN) (.inr (by simp only [blk,gtk];exact Nat.le_refl _)) (fun d hd1 hd=>⟨hm.lt hd1,ghwo d (by omega)⟩) gtko ?_ (fun d m hm'=>?_)
       ·simp only [BoxOk,gtk]
        exact ⟨trivial,hcap,hN,by rw [ghw,Nat.zero_add],trivial,us,0,0,hm.at,husz,Nat.zero_le _⟩
       ·by_cases hd:d=w.heap.size
        ·subst hd;exact ⟨hN,by rw [hm.size];omega⟩
        ·rw [ghwo d hd] at hm'
         have:=k.arr d m hm'
         exact ⟨this.1,by rw [hm.size];omega⟩
      refine ⟨_,_,_,g',hrun _ _ hr,.inl rfl,hx1,hok,?_⟩
      exact fresh_rv hx1 hho hold2 rfl hm.at ghw (Nat.le_refl _) (.tok tb) _ hcap (by simp) (fun t ht'=>by cases ht';exact ⟨t1,gtk⟩)
    ·cases hs
 ·cases hs
end
end Go.Am
namespace Go.Am
open Go.RowKit (Below)
set_option linter.unusedVariables false
set_option linter.unusedSimpArgs false
set_option linter.unusedSectionVars false
section
variable {N0:Nat} {P:Program} {w0:World} {g:G} {e:Env} {a:Act} {h:Hp} {w:World}
variable {o:Oper} {md:Nat} {orc:Orc} {base:Nat} {draw:Bool} {aop:AOp} {v:PV} {e':Env} {h':Hp} {gl:Globs} (hgl:GlobOk gl N0 w0)
include hgl
omit hgl in
theorem ext_drew (g:G) (w:World):Ext N0 g w g w.drew:=⟨Nat.le_refl _,fun _ _=>rfl,fun c m h=>⟨m,h,Nat.le_refl _⟩,fun _ _ _ _ _=>rfl,fun _ _ _=>rfl,fun _ _=>⟨Nat.le_refl _,fun _=>rfl⟩,fun _ _=>rfl⟩
omit hgl in
theorem ok_drew (k:Ok (N0:=N0) w0 g e a.tmps h w):Ok (N0:=N0) w0 g e a.tmps h w.drew :=
 k.world (ext_drew g w) rfl ((Below.refl _ _).drew) (fun _ _ _ _=>⟨rfl,rfl⟩) (fun _ _=>rfl) k.arr
theorem g_appendBox (k:Ok (N0:=N0) w0 g e a.tmps h w) {c:Go.Call} (ho:o.op=.call c) (hb:c.callee=.builtin .append) {s x:Operand} {t u el:TypeId} (hargs:c.args=#[s,x]) (htys:c.argTypes=#[t,u])
  (ht:P.underlying t=some (.slice el)) (hu:P.underlying u=some .string∨∃ el',P.underlying u=some (.slice el')) {sz:Nat} (hsz:sizeOf P el=some sz) (hsm:smallBytes P el=true) (hpos:sz≠0) {z:List PV} (hz:zeroOf P el=some z) (hzl:z.length=sz)
  {s' x':Opnd} (hs':cOpnd gl s=some s') (hx':cOpnd gl x=some x')
  (hs:step orc base draw (.appendBox sz s' x') e h=some (v,e',h')):Gives N0 P w0 g a w (execOp a.eval o) v e' h':=by
 simp only [step,Option.bnd_eq_some_iff] at hs
 obtain ⟨p,hp,q,hq,xs,hxs,es,hes,hs⟩:=hs
 obtain ⟨i,zv,hi,hiz,hzsz,_⟩:=rv_zero (N0:=N0) hz
 have hisz:i.size=sz:=by simp only [sizeOf,Option.map_eq_some_iff] at hsz;obtain ⟨i',e1,e2⟩:=hsz;rw [hi] at e1;cases e1;exact e2
 have hbytes:i.bytes≤4096:=by simp only [smallBytes,hi,decide_eq_true_eq] at hsm;exact hsm
 split at hs
 ·rename_i hx0
  subst hx0
  simp only [Option.some.injEq,Prod.mk.injEq] at hs
  obtain ⟨rfl,rfl,rfl⟩:=hs
  obtain ⟨h1,hlen,⟨news,hnew,hold2⟩,hrun⟩:=append_args (P:=P) hgl k ho hb hargs htys hpos hs' hx' hp hq hxs rfl
  obtain ⟨b,n,cap,hc,hA⟩ : ∃ b n cap,n≤cap∧a.eval s=.slice b n cap:=by
   generalize a.eval s=A at h1
   unfold fullEs at hes
   cases h1 <;> (try simp only at hes) <;> (try cases hes)
   case nils=>exact ⟨none,0,0,Nat.le_refl _,rfl⟩
   case sl ow sz' es' c' o' cap uu q1 q2 q3 q4 q5 q6 q7 q8 q9=>exact ⟨_,_,_,q1,rfl⟩
   case bsl f b off len sz' cap q1 q2 q3 q4=>exact ⟨_,_,_,q2,rfl⟩
  have hr0:=hrun (.slice b n cap) w (by rw [hA];exact append_none ht hu hi b n cap hc (a.eval x) hlen news (by rw [hold2.1];simp) (by rw [hisz];exact hnew w (.inl rfl)))
  exact gives_pure k hr0 (by rw [←hA];exact h1)
 split at hs
 ·rename_i hxne hall
  obtain ⟨hs1,hall,halle,hlim,hscal,hscale⟩:=hall
  have hx0:0 < xs.length:=List.length_pos_iff.2 hxne
  simp only [Option.some.injEq,Prod.mk.injEq] at hs
  obtain ⟨rfl,rfl,rfl⟩:=hs
  obtain ⟨h1,hlen,⟨news,hnew,hold2⟩,hrun⟩:=append_args (P:=P) hgl k ho hb hargs htys hpos hs' hx' hp hq hxs hall
  unfold lim2 at hlim
  have hel:elems h p=some es:=by
   unfold fullEs at hes
   split at hes
   ·cases hes;rfl
   ·cases hes;rfl
   ·exact hes
   ·cases hes
  obtain ⟨hlen0,olds,hfo,hho⟩:=src_rv (P:=P) k hpos h1 hel halle
  obtain ⟨b,hA⟩ : ∃ b,a.eval s=.slice b es.length es.length:=by
   generalize a.eval s=A at h1 hlen0
   unfold fullEs at hes
   cases h1 <;> (try simp only at hes) <;> (try cases hes)
   case nils=>exact ⟨none,rfl⟩
   case sl ow sz' es' c' o' cap uu q1 q2 q3 q4 q5 q6 q7 q8 q9 =>
    cases ow <;> (try simp only at hes) <;> (try cases hes)
    have:=q2 rfl
    subst this
    exact ⟨_,rfl⟩
   case bsl f b off len sz' cap q1 q2 q3 q4 =>
    cases f <;> (try simp only at hes) <;> (try cases hes)
    have:=q3 rfl
    subst this
    have hl:es.length=cap:=by
     simp only [elems] at hes
     split at hes
     ·simp only [Option.bnd_eq_some_iff] at hes
      obtain ⟨cs,_,hes⟩:=hes
      split at hes
      ·rename_i hc
       cases hes
       rw [List.length_take,List.length_drop];omega
      ·cases hes
     ·cases hes
    exact ⟨_,by rw [hl]⟩
  have hfit:Builtin.nextslicecap (es.length+xs.length) es.length * i.bytes≤281474976710656:=by
   apply growslice_fits (by omega)
   have:(es.length+xs.length) * i.bytes≤17179869184 * 4096:=Nat.mul_le_mul (by omega) hbytes
   omega
  rw [hA] at hfo
  have hr:=append_grow (ty:=o.type) ht hu hi hiz b es.length es.length (a.eval x) xs.length (by omega) hlen olds news (by rw [hisz];exact hfo) (by rw [hisz];exact hnew) (by omega) hfit
  let us:Array Value:=olds ++ news ++ Builtin.zeroCells zv.cells (grownCap w (es.length+xs.length) es.length el - (es.length+xs.length))
  have hcap:es.length+xs.length≤grownCap w (es.length+xs.length) es.length el:=grown_le _ _ _ _
  have e2:=hold2.1
  have e1:=hho.1
  rw [hs1,Nat.mul_one] at e2 e1
  obtain ⟨g',hx1,hok,hn,hι,hcp⟩:=ok_alloc k us el (es ++ xs) (by simp only [us,Array.size_append,e2,e1,List.length_append];omega) (fun j y hc0=>by
   have hj:j < es.length+xs.length:=by have:=(List.getElem?_eq_some_iff.1 hc0).1;rwa [List.length_append] at this
   by_cases hjl:j < es.length
   ·rw [List.getElem?_append_left hjl] at hc0
    have hval:us.getD j Go.undef=olds.getD j Go.undef:=by
     simp only [us,Array.getD_eq_getD_getElem?]
     rw [Array.append_assoc,Array.getElem?_append_left (by rw [e1];exact hjl)]
    rw [hval]
    have hcell:y.cells=[y]:=elem_of_scalar (List.all_eq_true.1 hscale y (List.mem_of_getElem? hc0))
    have:=hho.2.2 j 0 y y hc0 (by rw [hcell];rfl)
    rw [hs1,Nat.mul_one,Nat.add_zero] at this
    exact this
   ·rw [List.getElem?_append_right (by omega)] at hc0
    have hval:us.getD j Go.undef=news.getD (j - es.length) Go.undef:=by
     simp only [us,Array.getD_eq_getD_getElem?]
     rw [Array.append_assoc,Array.getElem?_append_right (by rw [e1];omega),Array.getElem?_append_left (by rw [e1,e2];omega),e1]
    rw [hval]
    have hcell:y.cells=[y]:=elem_of_scalar (List.all_eq_true.1 hscal y (List.mem_of_getElem? hc0))
    have:=hold2.2.2 (j - es.length) 0 y y hc0 (by rw [hcell];rfl)
    rw [hs1,Nat.mul_one,Nat.add_zero] at this
    exact this) (fun T' hT=>by
     have hall2:(es ++ xs).all scalar=true:=by rw [List.all_append,hscale,hscal];rfl
     exact (nb_scalar hall2 0 T' hT).elim) (lo:=0) (hi:=0) (by simp) (.inr rfl)
  refine ⟨_,.slice (some ⟨w.heap.size,0,none⟩) (es.length+xs.length) (grownCap w (es.length+xs.length) es.length el),_,g',?_,.inl rfl,hx1,hok,?_⟩
  ·exact hrun _ _ (by rw [hA];exact hr)
  ·have:=RV.bsl (N0:=N0) (g:=g') (w:=w.drew.alloc (.cells us el)) false (size h) 0 (es.length+xs.length) sz (grownCap w (es.length+xs.length) es.length el) (by omega) hcap (by simp) (by rw [hcp,hs1];simp only [us,Array.size_append,e1,e2,Builtin.zeroCells,Array.size_map,Array.size_range];rw [hzsz,hzl,hs1];omega)
   rw [hι] at this
   exact this
 ·cases hs
theorem g_mkif (k:Ok (N0:=N0) w0 g e a.tmps h w) {t:TypeId} {x:Operand} (ho:o.op=.makeInterface t x) (hc:cOp P gl md o=some aop)
  (hs:step orc base draw aop e h=some (v,e',h')):Gives N0 P w0 g a w (execOp a.eval o) v e' h':=by
 simp only [cOp,ho] at hc
 split at hc
 ·cases hc
 ·rename_i d hd hu
  simp only [Option.map_eq_some_iff] at hc
  obtain ⟨x',hx,rfl⟩:=hc
  simp only [step,Option.bnd_eq_some_iff,Option.some.injEq,Prod.mk.injEq] at hs
  obtain ⟨p,hp,rfl,rfl,rfl⟩:=hs
  refine gives_pure k ?_ (.iface t _ _ ((rv_ev hgl k hx hp)))
  have hrun:(Instr.makeInterface t (a.eval x)).run P w=.ok (.iface t (a.eval x)) w:=by
   unfold Instr.makeInterface
   simp only [Sem.run_bind,run_underlying hu,Result.andThen]
   cases d <;> first | rfl | exact (hd _ rfl).elim
  simp only [execOp,ho,Sem.run_bind,hrun,Result.andThen,Sem.run_pure]
 ·cases hc
omit hgl in
theorem run_part {t:TypeId} {n:Nat} {gg:Bool} (hn:sizeOf P t=some n) (hg:aggOf P t=some gg) {us:Array Value} {cs:List PV} (hs:us.size=cs.length) (hr:∀ (j:Nat) (x:PV),cs[j]?=some x→RV N0 g w x (us.getD j Go.undef))
  {off:Nat} {r:PV} (hp:part cs off n gg=some r):∃ u,(Go.part t us off).run P w=.ok u w∧RV N0 g w r u:=by
 unfold Go.part
 simp only [Sem.run_bind,run_isAgg' hg,Result.andThen]
 cases gg with
 | true =>
  simp only [part,if_true] at hp ⊢
  split at hp
  ·rename_i hle
   simp only [Option.some.injEq] at hp
   subst hp
   refine ⟨.agg (us.extract off (off+n)),by simp only [Sem.run_bind,run_sizeOf' hn,Result.andThen,Sem.run_pure],.agg _ _ (by simp;omega) fun j x hx=>?_⟩
   have hy:=hx
   have hj:j < n:=by
    rcases Nat.lt_or_ge j n with h' | h'
    ·exact h'
    ·rw [List.getElem?_eq_none (by simp;omega)] at hy;cases hy
   rw [List.getElem?_take,if_pos hj,List.getElem?_drop] at hy
   have:=hr _ _ hy
   have e1:(us.extract off (off+n)).getD j Go.undef=us.getD (off+j) Go.undef:=by
    simp only [Array.getD_eq_getD_getElem?,Array.getElem?_extract]
    rw [if_pos (by omega)]
   rw [e1];exact this
  ·cases hp
 | false =>
  simp only [part,Bool.false_eq_true,if_false] at hp ⊢
  have hy:=hp
  have hlt:off < us.size:=by rw [hs];exact (List.getElem?_eq_some_iff.1 hy).1
  have e1:us[off]?=some (us.getD off Go.undef):=by simp [Array.getD_eq_getD_getElem?,hlt]
  exact ⟨us.getD off Go.undef,by rw [e1];rfl,hr _ _ hy⟩
theorem g_field (k:Ok (N0:=N0) w0 g e a.tmps h w) {t:TypeId} {x:Operand} {f:Nat} (ho:o.op=.field t x f) (hc:cOp P gl md o=some aop)
  (hs:step orc base draw aop e h=some (v,e',h')):Gives N0 P w0 g a w (execOp a.eval o) v e' h':=by
 simp only [cOp,ho] at hc
 split at hc
 ·rename_i fs hu
  simp only [Option.bind_eq_some_iff,Option.map_eq_some_iff] at hc
  obtain ⟨fd,hfd,n,hn,gg,hg,x',hx,rfl⟩:=hc
  simp only [step,Option.bnd_eq_some_iff] at hs
  obtain ⟨p,hp,hs⟩:=hs
  have h1:=rv_ev hgl k hx hp
  generalize hA:a.eval x=A at h1
  cases h1 <;> (try simp only at hs) <;> (try cases hs)
  rename_i cs us hsz hr
  simp only [Option.bnd_eq_some_iff,Option.some.injEq,Prod.mk.injEq] at hs
  obtain ⟨r,hr',rfl,rfl,rfl⟩:=hs
  obtain ⟨u,hu1,hu2⟩:=run_part (P:=P) hn hg hsz hr hr'
  refine gives_pure k ?_ hu2
  simp only [execOp,ho,hA,Instr.field,asAgg,Sem.run_bind,run_underlying hu,Result.andThen,hfd,Sem.run_pure,hu1]
 ·cases hc
theorem g_idx (k:Ok (N0:=N0) w0 g e a.tmps h w) {t:TypeId} {x y:Operand} (ho:o.op=.index t x y) (hc:cOp P gl md o=some aop)
  (hs:step orc base draw aop e h=some (v,e',h')):Gives N0 P w0 g a w (execOp a.eval o) v e' h':=by
 simp only [cOp,ho] at hc
 split at hc
 ·rename_i hu
  simp only [Option.bind_eq_some_iff,Option.map_eq_some_iff] at hc
  obtain ⟨x',hx,y',hy,rfl⟩:=hc
  simp only [step,Option.bnd_eq_some_iff] at hs
  obtain ⟨p,hp,q,hq,hs⟩:=hs
  have h1:=rv_ev hgl k hx hp
  have h2:=rv_ev hgl k hy hq
  generalize hA:a.eval x=A at h1
  generalize hB:a.eval y=B at h2
  cases h1 <;> (try simp only at hs) <;> (try cases hs)
  rename_i l s hl
  simp only [Option.bnd_eq_some_iff,Option.some.injEq,Prod.mk.injEq] at hs
  obtain ⟨i,hi,c,hc,rfl,rfl,rfl⟩:=hs
  obtain ⟨kk,m,rfl,h0,hm,hmi⟩:=ix_rv h2 hi
  refine gives_pure k ?_ (.int _ _)
  have hget:s[m.toNat]?=some c:=by
   rw [hmi,←hc,←hl,Array.getElem?_toList]
   by_cases hq:i < s.size
   ·rw [getElem?_pos s i hq,getElem?_pos s.data i hq];rfl
   ·rw [getElem?_neg s i hq,getElem?_neg s.data i hq]
  simp only [execOp,ho,hA,hB,Instr.index,asIntOf,Sem.run_bind,Sem.run_pure,Result.andThen,run_underlying hu,if_pos h0,hget]
 ·rename_i len el hu
  simp only [Option.bind_eq_some_iff,Option.map_eq_some_iff] at hc
  obtain ⟨n,hn,gg,hg,x',hx,y',hy,rfl⟩:=hc
  simp only [step,Option.bnd_eq_some_iff] at hs
  obtain ⟨p,hp,q,hq,hs⟩:=hs
  have h1:=rv_ev hgl k hx hp
  have h2:=rv_ev hgl k hy hq
  generalize hA:a.eval x=A at h1
  generalize hB:a.eval y=B at h2
  cases h1 <;> (try simp only at hs) <;> (try cases hs)
  rename_i cs us hsz hr
  simp only [Option.bnd_eq_some_iff,Option.some.injEq,Prod.mk.injEq] at hs
  obtain ⟨i,hi,r,hr',rfl,rfl,rfl⟩:=hs
  obtain ⟨kk,m,rfl,h0,hm,hmi⟩:=ix_rv h2 hi
  obtain ⟨u,hu1,hu2⟩:=run_part (P:=P) hn hg hsz hr hr'
  refine gives_pure k ?_ hu2
  rw [←hmi] at hu1
  simp only [execOp,ho,hA,hB,Instr.index,asIntOf,Sem.run_bind,Sem.run_pure,Result.andThen,run_underlying hu,if_pos (And.intro h0 hm),run_sizeOf' hn,hu1]
 ·cases hc
end
end Go.Am
namespace Go.Am
open Go.RowKit (Below)
set_option linter.unusedVariables false
set_option linter.unusedSimpArgs false
set_option linter.unusedSectionVars false
set_option maxRecDepth 20000
section
variable {N0:Nat} {P:Program} {w0:World} {g:G} {e:Env} {a:Act} {h:Hp} {w:World}
variable {o:Oper} {md:Nat} {orc:Orc} {base:Nat} {draw:Bool} {aop:AOp} {v:PV} {e':Env} {h':Hp} {gl:Globs} (hgl:GlobOk gl N0 w0)
theorem bytes_get (s:ByteArray) (n:Nat):∀ j,j < s.data.toList.length→(bytesRow s n)[j]?=some (.int .u8 ((s.data.toList[j]?.getD 0).toNat:Int)):=by
 intro j hj
 unfold bytesRow
 rw [Array.getElem?_append_left (by simpa using hj)]
 have hj':j < s.data.size:=by simpa using hj
 have hq:s.data[j]?=some s.data[j]:=Array.getElem?_eq_getElem hj'
 simp [hq]
include hgl
theorem g_strBytes (k:Ok (N0:=N0) w0 g e a.tmps h w) {s d el:TypeId} {x:Operand} (ho:o.op=.convert s d x) (hs0:P.underlying s=some .string) (hd:P.underlying d=some (.slice el)) (hel:P.underlying el=some (.int .u8))
  {x':Opnd} (hx:cOpnd gl x=some x') {bx:Bool} (hs:step orc base draw (.strBytes bx x') e h=some (v,e',h')):Gives N0 P w0 g a w (execOp a.eval o) v e' h':=by
 simp only [step,Option.bnd_eq_some_iff] at hs
 obtain ⟨p,hp,hs⟩:=hs
 have h1:=rv_ev hgl k hx hp
 generalize hA:a.eval x=A at h1
 cases h1 <;> (try simp only at hs) <;> (try cases hs)
 rename_i l q hl
 split at hs
 ·rename_i hlim
  have hlen:l.length=q.size:=by rw [←hl];simp
  have hrun:=run_bytes_of_string (P:=P) w s d el q hs0 hd hel
  have hex:(execOp a.eval o).run P w=.ok (.value (.slice (some ⟨w.heap.size,0,none⟩) q.size (grownCap w q.size 0 el)))
   (w.drew.alloc (.cells (bytesRow q (grownCap w q.size 0 el)) el ((bytesRow q (grownCap w q.size 0 el)).size,(bytesRow q (grownCap w q.size 0 el)).size+1))):=by
   simp only [execOp,ho,hA,Sem.run_bind,hrun,Result.andThen,Sem.run_pure]
  have hcap:q.size≤grownCap w q.size 0 el:=grown_le _ _ _ _
  have hget:∀ j,j < l.length→(bytesRow q (grownCap w q.size 0 el))[j]?=some (.int .u8 ((l[j]?.getD 0).toNat:Int)):=by
   intro j hj
   have:=bytes_get q (grownCap w q.size 0 el) j (by rw [hl];exact hj)
   rw [hl] at this
   exact this
  have hsz:l.length≤(bytesRow q (grownCap w q.size 0 el)).size:=by
   rw [hlen];unfold bytesRow;simp
  cases bx with
  | true =>
   simp only [if_true,Option.some.injEq,Prod.mk.injEq] at hs
   obtain ⟨rfl,rfl,rfl⟩:=hs
   obtain ⟨g',hx1,hok,hn',hι,hcp'⟩:=ok_alloc k _ el (l.map fun c=>.int .u8 c.toNat) (by simpa using hsz) (fun j y hy=>by
    rw [List.getElem?_map,Option.map_eq_some_iff] at hy
    obtain ⟨c,hc,rfl⟩:=hy
    have hj:j < l.length:=(List.getElem?_eq_some_iff.1 hc).1
    rw [Array.getD_eq_getD_getElem?,hget j hj,hc]
    exact .int _ _) (fun T' hT=>by rw [List.getElem?_map,Option.map_eq_some_iff] at hT;obtain ⟨c,_,hc⟩:=hT;cases hc) (fun _=>Nat.le_refl _) (.inr rfl)
   refine ⟨_,_,_,g',hex,.inl rfl,hx1,hok,?_⟩
   rw [←hlen,←hι]
   exact .bsl false (size h) 0 l.length 1 _ (by omega) (by rw [hlen];exact hcap) (by simp) (by rw [hcp',hlen];unfold bytesRow;simp;omega)
  | false =>
   simp only [Bool.false_eq_true,if_false,Option.some.injEq,Prod.mk.injEq] at hs
   obtain ⟨rfl,rfl,rfl⟩:=hs
   obtain ⟨g',hx1,hok,hhw⟩:=ok_fixed k _ el l.length _ (.inr rfl)
   refine ⟨_,_,_,g',hex,.inl rfl,hx1,hok,?_⟩
   have hm:MadeBy w _ (.cells (bytesRow q (grownCap w q.size 0 el)) el ((bytesRow q (grownCap w q.size 0 el)).size,(bytesRow q (grownCap w q.size 0 el)).size+1)):=.inr rfl
   have:=RV.sl (N0:=N0) (g:=g') (w:=w.drew.alloc (.cells (bytesRow q (grownCap w q.size 0 el)) el ((bytesRow q (grownCap w q.size 0 el)).size,(bytesRow q (grownCap w q.size 0 el)).size+1))) .no 1 (l.map fun c=>.int .u8 c.toNat) w.heap.size 0 (grownCap w q.size 0 el)
    (fun i j=>.int .u8 ((l[i]?.getD 0).toNat:Int)) (by simp [hlen];exact hcap) (by simp) (fun i y hy=>by
     rw [List.getElem?_map,Option.map_eq_some_iff] at hy
     obtain ⟨c,hc,rfl⟩:=hy;rfl) (fun i j hi hj=>by
     obtain rfl:j=0:=by omega
     simp only [List.length_map] at hi
     simp only [World.cell?,hm.at,Nat.mul_one,Nat.add_zero,Nat.zero_add,Option.isSome_none,Bool.false_eq_true,if_false]
     exact hget i hi) (fun i j y z hy hz=>by
     rw [List.getElem?_map,Option.map_eq_some_iff] at hy
     obtain ⟨c,hc,rfl⟩:=hy
     cases j with
     | zero=>simp [PV.cells] at hz;subst hz;rw [hc];exact .int _ _
     | succ j=>simp [PV.cells] at hz) (fun _=>.inr ⟨_,hhw,by simp⟩) none (fun _=>rfl) (by simp)
   simp only [List.length_map,hlen] at this
   exact this
 ·cases hs
omit hgl in
theorem bytesOf_all:∀ (es:List PV) (l:List UInt8),bytesOf es=some l→es.length=l.length∧∀ (j:Nat) (x:PV),es[j]?=some x→∃ n,x=.int .u8 n∧l[j]?=some (UInt8.ofNat n.toNat)
 | [],l,h=>by simp [bytesOf] at h;subst h;exact ⟨rfl,fun j x hx=>by simp at hx⟩
 | x :: es,l,h=>by
  unfold bytesOf at h
  split at h
  ·cases ‹_ :: _=_›
  ·rename_i n r heq
   cases heq
   simp only [Option.map_eq_some_iff] at h
   obtain ⟨l',h1,rfl⟩:=h
   obtain ⟨q1,q2⟩:=bytesOf_all es l' h1
   refine ⟨by simp [q1],fun j y hy=>?_⟩
   cases j with
   | zero=>simp at hy;subst hy;exact ⟨n,rfl,rfl⟩
   | succ j=>simpa using q2 j y (by simpa using hy)
  ·cases h
theorem g_bytesStr (k:Ok (N0:=N0) w0 g e a.tmps h w) {s d el:TypeId} {x:Operand} (ho:o.op=.convert s d x) (hs0:P.underlying s=some (.slice el)) (hel:P.underlying el=some (.int .u8)) (hd:P.underlying d=some .string)
  {x':Opnd} (hx:cOpnd gl x=some x') (hs:step orc base draw (.bytesStr x') e h=some (v,e',h')):Gives N0 P w0 g a w (execOp a.eval o) v e' h':=by
 simp only [step,Option.bnd_eq_some_iff] at hs
 obtain ⟨p,hp,hs⟩:=hs
 have h1:=rv_ev hgl k hx hp
 obtain ⟨es,hes,l,hl,rfl,rfl,rfl⟩ : ∃ es,elems h p=some es∧∃ l,bytesOf es=some l∧.str l=v∧e=e'∧h=h':=by
  cases p <;> first | (simp only at hs;cases hs;done) | (simp only [Option.bnd_eq_some_iff,Option.some.injEq,Prod.mk.injEq] at hs;obtain ⟨es,q1,l,q2,q3,q4,q5⟩:=hs;exact ⟨es,q1,l,q2,q3,q4,q5⟩)
 have hnstr:∀ s,p≠.str s:=by intro s hq;subst hq;simp at hs
 obtain ⟨l1,l2⟩:=bytesOf_all es l hl
 have hall:es.all (fun x=>x.cells.length == 1)=true:=by
  rw [List.all_eq_true]
  intro y hy
  obtain ⟨j,hj⟩:=List.mem_iff_getElem?.1 hy
  obtain ⟨n,rfl,_⟩:=l2 j y hj
  rfl
 obtain ⟨hlen,news,hnew,hH⟩:=src_rv (P:=P) k (sz:=1) (by omega) h1 hes hall
 have hnv:∀ j,j < es.length→∃ n:Int,news.getD j Go.undef=.int .u8 n∧l[j]?=some (UInt8.ofNat n.toNat):=by
  intro j hj
  obtain ⟨n,hn,hln⟩:=l2 j es[j] (List.getElem?_eq_getElem hj)
  have:=hH.2.2 j 0 es[j] (.int .u8 n) (List.getElem?_eq_getElem hj) (by rw [hn];rfl)
  rw [Nat.mul_one,Nat.add_zero] at this
  exact ⟨n,rv_int this,hln⟩
 have hnsz:news.size=es.length:=by have:=hH.1;omega
 let ns:List Int:=(List.range es.length).map fun j=>match news.getD j Go.undef with | .int _ n=>n | _=>0
 have hns:(ns.map (Value.int .u8)).toArray=news:=by
  apply Array.ext_getElem?
  intro j
  by_cases hj:j < es.length
  ·obtain ⟨n,q1,_⟩:=hnv j hj
   have q2:news[j]?=some (.int .u8 n):=by
    have:j < news.size:=by omega
    rw [Array.getD_eq_getD_getElem?,Array.getElem?_eq_getElem this] at q1
    rw [Array.getElem?_eq_getElem this]
    simpa using q1
   simp [ns,hj,q2,Array.getD_eq_getD_getElem?]
  ·rw [Array.getElem?_eq_none (by simp [ns];omega),Array.getElem?_eq_none (by omega)]
 have hfold:∀ (ns:List Int) (r:ByteArray),(ns.foldl (fun r n=>r.push (UInt8.ofNat n.toNat)) r).data.toList=r.data.toList ++ ns.map fun n=>UInt8.ofNat n.toNat:=by
  intro ns
  induction ns with
  | nil=>intro r;simp
  | cons n ns ih=>intro r;simp only [List.foldl_cons,ih,List.map_cons];simp [ByteArray.push]
 have hres:ns.map (fun n=>UInt8.ofNat n.toNat)=l:=by
  apply List.ext_getElem?
  intro j
  by_cases hj:j < es.length
  ·obtain ⟨n,q1,q2⟩:=hnv j hj
   simp only [ns,List.map_map,List.getElem?_map,List.getElem?_range hj,Option.map_some,Function.comp,q1,q2]
  ·rw [List.getElem?_eq_none (by simp [ns];omega),List.getElem?_eq_none (by omega)]
 have fin:∀ (A:Option Addr) (len cap:Nat),a.eval x=.slice A len cap→Gives N0 P w0 g a w (execOp a.eval o) (.str l) e h:=by
  intro A len cap hA
  have hc:=run_convert_bytes_string (P:=P) w s d el A len cap hs0 hel hd
  rw [hA] at hlen hnew
  have hlen':len=es.length:=by simpa [Builtin.lenOf] using hlen
  subst hlen'
  cases A with
  | none =>
   have hn0:=hnew w (.inl rfl)
   simp only [Builtin.firstCells,Sem.run_pure,Result.ok.injEq] at hn0
   have hz:es.length=0:=by rw [←hnsz,←hn0.1];rfl
   have hl0:l=[]:=List.eq_nil_of_length_eq_zero (by omega)
   refine gives_pure (u:=.string .empty) k ?_ (.str _ _ (by rw [hl0];rfl))
   simp only [execOp,ho,hA,Sem.run_bind,hc,Result.andThen,Sem.run_pure,Conv.bytesToString]
  | some A =>
   have hn0:=hnew w (.inl rfl)
   simp only [Builtin.firstCells,Nat.mul_one] at hn0
   rw [←hns] at hn0
   have hb:=run_bytesToString (P:=P) w A es.length cap ns hn0
   refine gives_pure (u:=.string (ns.foldl (fun r n=>r.push (UInt8.ofNat n.toNat)) ByteArray.empty)) k ?_ (.str _ _ ?_)
   ·simp only [execOp,ho,hA,Sem.run_bind,hc,hb,Result.andThen,Sem.run_pure]
   ·rw [hfold,hres];simp
 generalize hA:a.eval x=A at h1
 cases h1 <;> simp only [elems] at hes <;> (try cases hes)
 case nils=>exact fin _ _ _ hA
 case sl=>exact fin _ _ _ hA
 case bsl=>exact fin _ _ _ hA
 case str=>exact (hnstr _ rfl).elim
theorem g_mkfn (k:Ok (N0:=N0) w0 g e a.tmps h w) {f:FuncId} {first cap:Array Operand} (ho:o.op=.makeFunc (.func f) first cap) (hf:first.size=0) {xs:List Opnd} (hx:cOpnds gl cap.toList=some xs)
  (hs:step orc base draw (.mkfn f xs) e h=some (v,e',h')):Gives N0 P w0 g a w (execOp a.eval o) v e' h':=by
 simp only [step,Option.bnd_eq_some_iff,Option.some.injEq,Prod.mk.injEq] at hs
 obtain ⟨vs,hvs,rfl,rfl,rfl⟩:=hs
 obtain ⟨h1,h2⟩:=rv_evs hgl k hx hvs
 have hfe:first=#[]:=Array.eq_empty_of_size_eq_zero hf
 refine gives_pure (u:=.func (.func f) #[] (cap.map a.eval)) k ?_ (.fn f vs _ (by simpa using h1) fun j x hx=>?_)
 ·simp only [execOp,ho,Instr.makeFunc,hfe,Sem.run_bind,Sem.run_pure,Result.andThen,Array.map_empty]
 ·have:=h2 j x hx
  simpa [List.getD_eq_getElem?_getD,Array.getD_eq_getD_getElem?] using this
omit hgl in
theorem rep_get (z:List PV):∀ (n j:Nat),(List.flatten (List.replicate n z))[j]?=if j < n * z.length then z[j % z.length]? else none
 | 0,j=>by simp
 | n+1,j=>by
  rw [List.replicate_succ,List.flatten_cons]
  by_cases hj:j < z.length
  ·rw [List.getElem?_append_left hj,if_pos (by rw [Nat.succ_mul];omega),Nat.mod_eq_of_lt hj]
  ·rw [List.getElem?_append_right (by omega),rep_get z n,Nat.succ_mul]
   by_cases hk:j - z.length < n * z.length
   ·have e:=Nat.mod_eq_sub_mod (show j ≥ z.length by omega)
    rw [if_pos hk,if_pos (by omega),e]
   ·rw [if_neg hk,if_neg (by omega)]
theorem g_makeSl (k:Ok (N0:=N0) w0 g e a.tmps h w) {t el:TypeId} {len cap:Operand} (ho:o.op=.makeSlice t len cap) (ht:P.underlying t=some (.slice el)) {sz:Nat} (hsz:sizeOf P el=some sz) (hsm:smallBytes P el=true) (hpos:sz≠0)
  {z:List PV} (hz:zeroOf P el=some z) (hzl:z.length=sz) {gg:Bool} {l' c':Opnd} (hl:cOpnd gl len=some l') (hc:cOpnd gl cap=some c')
  (hs:step orc base draw (.makeSl el z gg l' c') e h=some (v,e',h')):Gives N0 P w0 g a w (execOp a.eval o) v e' h':=by
 simp only [step,Option.bnd_eq_some_iff] at hs
 obtain ⟨p,hp,q,hq,n,hn,hs⟩:=hs
 have h1:=rv_ev hgl k hl hp
 have h2:=rv_ev hgl k hc hq
 obtain ⟨i,zv,hi,hiz,hzsz,hzr⟩:=rv_zero (N0:=N0) hz
 have hisz:i.size=sz:=by simp only [sizeOf,Option.map_eq_some_iff] at hsz;obtain ⟨i',e1,e2⟩:=hsz;rw [hi] at e1;cases e1;exact e2
 have hbytes:i.bytes≤4096:=by simp only [smallBytes,hi,decide_eq_true_eq] at hsm;exact hsm
 generalize hA:a.eval len=A at h1
 generalize hB:a.eval cap=B at h2
 cases h1 <;> cases h2 <;> simp only [makeN] at hn <;> (try cases hn)
 rename_i k1 l k2 c
 split at hn
 ·rename_i hb
  obtain ⟨b1,b2,b3⟩:=hb
  simp only [Option.some.injEq] at hn
  subst hn
  unfold lim2 at b3
  let us:Array Value:=(Array.range (c.toNat * i.size)).map (zv.cells[· % zv.cells.size]!)
  have huz:zv.cells.size=sz:=by rw [hzsz,hzl]
  have hrun:(execOp a.eval o).run P w=.ok (.value (.slice (some ⟨w.heap.size,0,none⟩) l.toNat c.toNat)) (w.alloc (.cells us el)):=by
   have w1:IntKind.i64.wrap l=l:=by rw [IntKind.wrap_i64];omega
   have w2:IntKind.i64.wrap c=c:=by rw [IntKind.wrap_i64];omega
   have hbig':¬ (281474976710656 < (i.bytes:Int) * c):=by
    have hcc:c=(c.toNat:Int):=by omega
    have:i.bytes * c.toNat≤4096 * 17179869184:=Nat.mul_le_mul hbytes (by omega)
    rw [hcc]
    have h3:((i.bytes * c.toNat:Nat):Int)≤((4096 * 17179869184:Nat):Int):=Int.ofNat_le.2 this
    rw [Int.natCast_mul] at h3
    generalize (i.bytes:Int) * (c.toNat:Int)=z at *
    omega
   have c0:¬ c < 0:=by omega
   have l0:¬ l < 0:=by omega
   have lc:¬ l > c:=by omega
   have lc':¬ c < l:=by omega
   by_cases h0:c.toNat * i.size=0
   ·have hr0:Array.range 0=#[]:=rfl
    have hu:us=#[]:=by simp [us,h0,hr0]
    simp [execOp,ho,hA,hB,Instr.makeSlice,run_underlying ht,typeInfo,hi,asInt,asIntOf,w1,w2,hbig',c0,l0,lc',Go.sizeOf,h0,newRow,hu,hr0]
   ·simp [execOp,ho,hA,hB,Instr.makeSlice,run_underlying ht,typeInfo,hi,asInt,asIntOf,w1,w2,hbig',c0,l0,lc',Go.sizeOf,h0,newRow,zeroValue,hiz,us]
  have hum:us.size=c.toNat * sz:=by simp [us,hisz]
  have hug:∀ j,j < c.toNat * sz→us.getD j Go.undef=zv.cells.getD (j % sz) Go.undef:=by
   intro j hj
   have hm:j % sz < sz:=Nat.mod_lt _ (by omega)
   have hq:(Array.range (c.toNat * i.size))[j]?=some j:=by simp [hisz,hj]
   simp only [us,Array.getD_eq_getD_getElem?,Array.getElem?_map,hq,Option.map_some,Option.getD_some,huz]
   have:j % sz < zv.cells.size:=by omega
   simp [this]
  simp only at hs
  split at hs
  ·rename_i heq
   simp only [Option.some.injEq,Prod.mk.injEq] at hs
   obtain ⟨rfl,rfl,rfl⟩:=hs
   obtain ⟨g',hx1,hok,hn',hι,hcp'⟩:=ok_alloc k us el (List.flatten (List.replicate l.toNat z)) (by simp [hum,hzl,heq]) (fun j y hy=>by
    rw [rep_get,hzl] at hy
    split at hy
    ·rename_i hj
     rw [hug j (by rw [←heq];exact hj)]
     exact hzr g w _ y hy
    ·cases hy) (fun T' hT=>by
    rw [rep_get] at hT
    split at hT
    ·exact (zero_nb hz _ T' hT).elim
    ·cases hT) (lo:=0) (hi:=0) (by simp) (.inl rfl)
   refine ⟨_,_,_,g',hrun,.inl rfl,hx1,hok,?_⟩
   rw [←hι,hzl]
   exact .bsl true (size h) 0 l.toNat sz _ (by omega) (by omega) (fun _=>heq.symm) (by rw [hcp',hum];omega)
  ·rename_i hne
   split at hs
   ·rename_i h0
    simp only [Option.some.injEq,Prod.mk.injEq] at hs
    obtain ⟨rfl,rfl,rfl⟩:=hs
    have hm:MadeBy w (w.alloc (.cells us el)) (.cells us el):=.inl rfl
    obtain ⟨g',hx1,hok,hn',_,hhw,htk,_⟩:=ok_newbox (cpv:=0) k hm (.tok 0 el) (some 0) ⟨0,w.heap.size,0,c.toNat,sz⟩ (fun n T hn=>⟨rfl,rfl⟩) (fun g' hx1 hι hhw htk _=>by
     simp only [BoxOk,htk]
     exact ⟨trivial,Nat.zero_le _,ok_size k,by rw [hhw];simp,trivial,us,0,0,hm.at,by rw [hum];simp,Nat.zero_le _⟩)
    refine ⟨_,_,_,g',hrun,.inl rfl,hx1,hok,?_⟩
    rw [h0,hzl]
    exact RV.sl (N0:=N0) (g:=g') (.tok (size h)) sz [] w.heap.size 0 c.toNat (fun _ _=>Go.undef) (by simp) (by simp) (by simp) (by simp) (by simp) (by simp) none (by simp)
     (fun t ht'=>by cases ht';rw [htk];exact ⟨by rw [hn'];omega,Nat.le_refl _,fun _=>⟨rfl,rfl⟩⟩)
   ·cases hs
 ·cases hn
theorem g_range (k:Ok (N0:=N0) w0 g e a.tmps h w) {t:TypeId} {x:Operand} (ho:o.op=.range t x) (ht:P.underlying t=some .string) {x':Opnd} (hx:cOpnd gl x=some x')
  (hs:step orc base draw (.range x') e h=some (v,e',h')):Gives N0 P w0 g a w (execOp a.eval o) v e' h':=by
 simp only [step,Option.bnd_eq_some_iff] at hs
 obtain ⟨p,hp,hs⟩:=hs
 have h1:=rv_ev hgl k hx hp
 generalize hA:a.eval x=A at h1
 cases h1 <;> (try simp only at hs) <;> (try cases hs)
 rename_i s q hq
 have hm:MadeBy w (w.alloc (.stringIter q 0)) (.stringIter q 0):=.inl rfl
 obtain ⟨g',hx1,hok,hn,hι,_,_,_⟩:=ok_newbox (cpv:=0) k hm (.iter s 0) none default (fun n T hn=>by cases hn) (fun g' hx1 hι hhw htk _=>⟨by rw [hι];exact ok_size k,by rw [hι];exact hhw,q,hq,by rw [hι];exact hm.at⟩)
 refine ⟨_,.pointer (some ⟨w.heap.size,0,none⟩),_,g',?_,.inl rfl,hx1,hok,?_⟩
 ·simp [execOp,ho,hA,Instr.range,run_underlying ht]
 ·rw [←hι];exact .it _ (by omega)
theorem g_next (k:Ok (N0:=N0) w0 g e a.tmps h w) {x:Operand} (ho:o.op=.next x true) {x':Opnd} (hx:cOpnd gl x=some x')
  (hs:step orc base draw (.next x') e h=some (v,e',h')):Gives N0 P w0 g a w (execOp a.eval o) v e' h':=by
 simp only [step,Option.bnd_eq_some_iff] at hs
 obtain ⟨p,hp,hs⟩:=hs
 have h1:=rv_ev hgl k hx hp
 generalize hA:a.eval x=A at h1
 cases h1 <;> (try simp only at hs) <;> (try cases hs)
 rename_i b hb
 simp only [Option.bnd_eq_some_iff] at hs
 obtain ⟨⟨s,pos⟩,hit,hs⟩:=hs
 have hbx:=box_of_iter hit
 have hk:=k.box b _ hbx
 simp only [BoxOk] at hk
 obtain ⟨k1,k2,s',k3,k4⟩:=hk
 have hsz:s.length=s'.size:=by rw [←k3];simp
 have hsb:s'=⟨s.toArray⟩:=by apply ByteArray.ext;rw [←k3]
 have hget:(getObj (g.ι b)).run P w=.ok (.stringIter s' pos) w:=by simp [getObj,Sem.run,k4]
 split at hs
 ·rename_i hlt
  simp only [Option.some.injEq,Prod.mk.injEq] at hs
  obtain ⟨rfl,rfl,rfl⟩:=hs
  have hr:runeAt s pos=Utf8.decode s' pos:=by unfold runeAt;rw [hsb]
  let w1:World:={ w with heap:=w.heap.setIfInBounds (g.ι b) (.stringIter s' (pos+(Utf8.decode s' pos).2)) }
  have hset:(setObj (g.ι b) (.stringIter s' (pos+(Utf8.decode s' pos).2))).run P w=.ok () w1:=by
   simp only [setObj,Sem.run,k4]
   rfl
  have hheap:∀ c,c≠g.ι b→w1.heap[c]?=w.heap[c]?:=fun c hc=>by
   show (w.heap.setIfInBounds _ _)[c]?=_
   rw [Array.getElem?_setIfInBounds_ne (fun hq=>hc hq.symm)]
  have hat:w1.heap[g.ι b]?=some (.stringIter s' (pos+(Utf8.decode s' pos).2)):=by
   have:=(Array.getElem?_eq_some_iff.1 k4).1
   show (w.heap.setIfInBounds _ _)[g.ι b]?=_
   simp [this]
  have hcell:∀ c o,w1.cell? ⟨c,o,none⟩=w.cell? ⟨c,o,none⟩:=by
   intro c o
   by_cases hc:c=g.ι b
   ·subst hc;simp only [World.cell?,hat,k4]
   ·simp only [World.cell?,hheap c hc]
  have hx1:Ext N0 g w g w1:=⟨Nat.le_refl _,fun _ _=>rfl,fun c m hm=>⟨m,hm,Nat.le_refl _⟩,fun c m o _ _=>hcell c o,fun c o _=>hcell c o,fun t ht=>⟨Nat.le_refl _,fun _=>rfl⟩,fun _ _=>rfl⟩
  have hbl:Below N0 w w1:=⟨rfl,rfl,rfl,by show _≤(w.heap.setIfInBounds _ _).size;simp,fun c hc=>hheap c (by omega)⟩
  have hok:Ok (N0:=N0) w0 g e a.tmps (setBx h b (.iter s (pos+(runeAt s pos).2))) w1:=by
   refine ok_setbox k hbx hx1 rfl hbl (.inl rfl) (fun c _ hc=>⟨hheap c hc,rfl⟩) (fun _ _=>rfl) ⟨k1,k2,s',k3,by rw [hat,hr]⟩ (fun c m hm=>?_)
   have:=k.arr c m hm
   exact ⟨this.1,by show _ < (w.heap.setIfInBounds _ _).size;simp;exact this.2⟩
  refine ⟨_,.tuple #[.bool true,goInt pos,.int .i32 (Utf8.decode s' pos).1],w1,g,?_,.inl rfl,hx1,hok,?_⟩
  ·rw [hsz] at hlt
   simp [execOp,ho,hA,Instr.next,hget,hlt,hset]
  ·rw [hr]
   refine .tup _ _ rfl fun j y hy=>?_
   match j with
   | 0=>simp at hy;subst hy;exact .bool _
   | 1=>simp at hy;subst hy;exact .int _ _
   | 2=>simp at hy;subst hy;exact .int _ _
   | j+3=>simp at hy
 ·rename_i hlt
  simp only [Option.some.injEq,Prod.mk.injEq] at hs
  obtain ⟨rfl,rfl,rfl⟩:=hs
  refine gives_pure (u:=.tuple #[.bool false]) k ?_ (.tup _ _ rfl fun j y hy=>?_)
  ·rw [hsz] at hlt
   simp [execOp,ho,hA,Instr.next,hget,hlt]
  ·match j with
   | 0=>simp at hy;subst hy;exact .bool _
   | j+1=>simp at hy
theorem g_tassert (k:Ok (N0:=N0) w0 g e a.tmps h w) {x:Operand} {xt t:TypeId} {ok:Bool} (ho:o.op=.typeAssert x xt t ok) {d:TypeDesc} (hu:P.underlying t=some d) (hd:∀ ms,d≠.interface ms)
  {z:PV} (hz:zeroV P t=some z) {x':Opnd} (hx:cOpnd gl x=some x')
  (hs:step orc base draw (.tassert t ok z x') e h=some (v,e',h')):Gives N0 P w0 g a w (execOp a.eval o) v e' h':=by
 simp only [step,Option.bnd_eq_some_iff] at hs
 obtain ⟨p,hp,hs⟩:=hs
 have h1:=rv_ev hgl k hx hp
 obtain ⟨u,hzu,hzr⟩ : ∃ u,(zeroValue t).run P w=.ok u w∧RV N0 g w z u:=by
  unfold zeroV at hz
  simp only [Option.bind_eq_some_iff] at hz
  obtain ⟨u,⟨i,hi,hu'⟩,hy⟩:=hz
  exact ⟨u,run_zero hi hu' w,rv_const u z hy⟩
 have fails:ok=true→(Instr.typeAssert (a.eval x) xt t true).run P w=.ok (.tuple #[u,.bool false]) w→Gives N0 P w0 g a w (execOp a.eval o) (.tup [z,.bool false]) e h:=by
  rintro rfl hrun
  refine gives_pure k (u:=.tuple #[u,.bool false]) ?_ (.tup _ _ rfl fun j y hy=>?_)
  ·simp only [execOp,ho,Sem.run_bind,hrun,Result.andThen,Sem.run_pure]
  ·match j with
   | 0=>cases hy;exact hzr
   | 1=>cases hy;exact .bool _
   | j+2=>simp at hy
 generalize hA:a.eval x=A at h1 fails
 cases h1 <;> (try simp only at hs) <;> (try cases hs)
 case iface t' pp U hr =>
  split at hs
  ·rename_i heq
   subst heq
   have hrun:∀ b,(Instr.typeAssert (.iface t' U) xt t' b).run P w=.ok (if b then .tuple #[U,.bool true] else U) w:=by
    intro b
    unfold Instr.typeAssert
    simp only [Sem.run_bind,run_underlying hu,Result.andThen]
    cases d <;> first | exact (hd _ rfl).elim | (simp only [if_true,Sem.run_pure])
   cases ok with
   | true =>
    simp only [if_true,Option.some.injEq,Prod.mk.injEq] at hs
    obtain ⟨rfl,rfl,rfl⟩:=hs
    refine gives_pure k (u:=.tuple #[U,.bool true]) ?_ (.tup _ _ rfl fun j y hy=>?_)
    ·simp only [execOp,ho,hA,Sem.run_bind,hrun,Result.andThen,Sem.run_pure,if_true]
    ·match j with
     | 0=>cases hy;exact hr
     | 1=>cases hy;exact .bool _
     | j+2=>simp at hy
   | false =>
    simp only [Bool.false_eq_true,if_false,Option.some.injEq,Prod.mk.injEq] at hs
    obtain ⟨rfl,rfl,rfl⟩:=hs
    refine gives_pure k (u:=U) ?_ hr
    simp only [execOp,ho,hA,Sem.run_bind,hrun,Result.andThen,Sem.run_pure,Bool.false_eq_true,if_false]
  ·rename_i hne
   cases ok with
   | true =>
    simp only [if_true,Option.some.injEq,Prod.mk.injEq] at hs
    obtain ⟨rfl,rfl,rfl⟩:=hs
    refine fails rfl ?_
    unfold Instr.typeAssert
    simp only [Sem.run_bind,run_underlying hu,Result.andThen]
    cases d <;> first | exact (hd _ rfl).elim | (simp only [if_neg hne,if_true,Sem.run_bind,hzu,Result.andThen,Sem.run_pure])
   | false=>simp at hs
 case nilif =>
  cases ok with
  | true =>
   simp only [if_true,Option.some.injEq,Prod.mk.injEq] at hs
   obtain ⟨rfl,rfl,rfl⟩:=hs
   refine fails rfl ?_
   unfold Instr.typeAssert
   simp only [Sem.run_bind,run_underlying hu,Result.andThen]
   cases d <;> first | exact (hd _ rfl).elim | (simp only [if_true,Sem.run_bind,hzu,Result.andThen,Sem.run_pure])
  | false=>simp at hs
omit hgl in
theorem agg_of_kind {t:TypeId} {kd:Nat} (h:kindK P t=some kd):aggOf P t=some false:=by
 unfold kindK at h
 unfold aggOf
 split at h <;> first | (rename_i hu _;rw [hu]) | cases h
omit hgl in
theorem eqCell_rv {d:Nat} {t:TypeId} {kd:Nat} (h:kindK P t=some kd) {x y:PV} {U V:Value} (r1:RV N0 g w x U) (r2:RV N0 g w y V) {b:Bool} (hb:eqCell kd x y=some b):(Op.equalIn (d+1) t U V).run P w=.ok b w:=by
 unfold kindK at h
 split at h
 ·rename_i hu _
  simp only [Option.some.injEq] at h
  subst h
  cases r1 <;> cases r2 <;> simp only [eqCell] at hb <;> (try cases hb)
  exact run_equalIn_bool' w d _ _ _ hu
 ·rename_i kk hu _
  simp only [Option.some.injEq] at h
  subst h
  cases r1 <;> cases r2 <;> simp only [eqCell] at hb <;> (try cases hb)
  split at hb
  ·rename_i hk
   subst hk
   simp only [Option.some.injEq] at hb
   subst hb
   exact run_equalIn_int w d _ _ _ _ _ hu
  ·cases hb
 ·rename_i hu _
  simp only [Option.some.injEq] at h
  subst h
  cases r1 <;> cases r2 <;> simp only [eqCell] at hb <;> (try cases hb)
  rename_i l1 q1 h1 l2 q2 h2
  rw [run_equalIn_string w d t _ _ hu,ByteArray.toList_eq,ByteArray.toList_eq,h1,h2]
 ·cases h
omit hgl in
theorem eqFields_rv {d:Nat} {us vs:Array Value} {cs ds:List PV} (hus:us.size=cs.length) (hvs:vs.size=ds.length) (hu:∀ (j:Nat) (x:PV),cs[j]?=some x→RV N0 g w x (us.getD j Go.undef)) (hv:∀ (j:Nat) (x:PV),ds[j]?=some x→RV N0 g w x (vs.getD j Go.undef)) :
  ∀ (fl:List Field) (off:Nat) (ks:List Nat),flatK P off fl=some ks→∀ b,eqCells ks (cs.drop off) (ds.drop off)=some b→(Op.eqFields (d+1) us vs fl).run P w=.ok b w
 | [],off,ks,hf,b,hb=>by
  simp only [flatK,Option.some.injEq] at hf
  subst hf
  cases hcd:cs.drop off <;> cases hdd:ds.drop off <;> rw [hcd,hdd] at hb <;> simp [eqCells] at hb
  subst hb;rfl
 | f :: fl,off,ks,hf,b,hb=>by
  simp only [flatK] at hf
  split at hf
  ·rename_i hc
   simp only [Bool.and_eq_true,beq_iff_eq,bne_iff_ne,ne_eq] at hc
   obtain ⟨h1,h2⟩:=hc
   simp only [Option.bind_eq_some_iff,Option.map_eq_some_iff] at hf
   obtain ⟨kd,hkd,ks',hks,rfl⟩:=hf
   cases hcd:cs.drop off with
   | nil=>rw [hcd] at hb;simp [eqCells] at hb
   | cons x xs =>
    cases hdd:ds.drop off with
    | nil=>rw [hcd,hdd] at hb;simp [eqCells] at hb
    | cons y ys =>
     rw [hcd,hdd] at hb
     simp only [eqCells,Option.bnd_eq_some_iff,Option.some.injEq] at hb
     obtain ⟨b1,hb1,b2,hb2,rfl⟩:=hb
     have hx:cs[off]?=some x:=by have:=List.getElem?_drop (xs:=cs) (i:=off) (j:=0);rw [hcd] at this;simpa using this.symm
     have hy:ds[off]?=some y:=by have:=List.getElem?_drop (xs:=ds) (i:=off) (j:=0);rw [hdd] at this;simpa using this.symm
     have l1:off < us.size:=by rw [hus];exact (List.getElem?_eq_some_iff.1 hx).1
     have l2:off < vs.size:=by rw [hvs];exact (List.getElem?_eq_some_iff.1 hy).1
     have x1:us[off]?=some (us.getD off Go.undef):=by simp [Array.getD_eq_getD_getElem?,l1]
     have y1:vs[off]?=some (vs.getD off Go.undef):=by simp [Array.getD_eq_getD_getElem?,l2]
     have ih:=eqFields_rv (d:=d) hus hvs hu hv fl (off+1) ks' hks b2 (by
      rw [show cs.drop (off+1)=xs by rw [←List.drop_drop,hcd];rfl,show ds.drop (off+1)=ys by rw [←List.drop_drop,hdd];rfl];exact hb2)
     have hag:=agg_of_kind hkd
     have hpart:∀ (W:Array Value) (V:Value),W[off]?=some V→(Go.part f.type W f.offset).run P w=.ok V w:=by
      intro W V hV
      unfold Go.part
      simp only [Sem.run_bind,run_isAgg' hag,Result.andThen,Bool.false_eq_true,if_false,h1,hV]
      rfl
     have heq:=eqCell_rv (d:=d) hkd (hu off x hx) (hv off y hy) hb1
     simp only [Op.eqFields,ne_eq,h2,not_false_eq_true,if_true,Sem.run_bind,hpart us _ x1,hpart vs _ y1,Result.andThen,heq]
     cases b1 with
     | true=>simpa using ih
     | false=>simp
  ·cases hf
theorem g_eqv (k:Ok (N0:=N0) w0 g e a.tmps h w) {op:BinOp} {t t':TypeId} {x y:Operand} {fs:Array Field} {ks:List Nat} (ho:o.op=.binOp op t x y t') (hu:P.underlying t=some (.struct fs)) (hop:isEq op=true) (hst:P.stoodInHeld t=false) (hgt:P.eqGuardType P.depth t=false)
  (hfl:flatK P 0 fs.toList=some ks) {x' y':Opnd} (hx:cOpnd gl x=some x') (hy:cOpnd gl y=some y')
  (hs:step orc base draw (.eqv (isNeq op) ks x' y') e h=some (v,e',h')):Gives N0 P w0 g a w (execOp a.eval o) v e' h':=by
 simp only [step,Option.bnd_eq_some_iff] at hs
 obtain ⟨p,hp,q,hq,hs⟩:=hs
 have h1:=rv_ev hgl k hx hp
 have h2:=rv_ev hgl k hy hq
 generalize hA:a.eval x=A at h1
 generalize hB:a.eval y=B at h2
 cases h1 <;> (try simp only at hs) <;> (try cases hs)
 rename_i cs us hus hru
 cases h2 <;> (try simp only at hs) <;> (try cases hs)
 rename_i ds vs hvs hrv
 simp only [Option.bnd_eq_some_iff,Option.some.injEq,Prod.mk.injEq] at hs
 obtain ⟨b,hb,rfl,rfl,rfl⟩:=hs
 have hfo:P.fieldsOf t=fs:=by simp [Program.fieldsOf,hu]
 have heq:(Op.equalIn 10000 t (.agg us) (.agg vs)).run P w=.ok b w:=by
  rw [run_equalIn_struct w 9999 t us vs (by rw [hfo];exact hu) hst,hfo]
  exact eqFields_rv (d:=9998) hus hvs hru hrv fs.toList 0 ks hfl b (by simpa using hb)
 refine gives_pure k ?_ (.bool _)
 have hg:=run_eqGuard_agg (P:=P) w op t x y us vs hgt
 cases op <;> simp only [isEq] at hop <;> (try cases hop)
 ·simp only [execOp,ho,hA,hB,Sem.run_bind,hg,Result.andThen,run_eql_struct,heq,isNeq,Bool.false_eq_true,if_false,Sem.run_pure]
 ·simp only [execOp,ho,hA,hB,Sem.run_bind,hg,Result.andThen,run_neq_struct,heq,isNeq,if_true,Sem.run_pure]
end
end Go.Am
namespace Go.Am
open Go.RowKit (Below)
set_option linter.unusedVariables false
set_option linter.unusedSimpArgs false
set_option linter.unusedSectionVars false
set_option maxRecDepth 20000
section
variable {N0:Nat} {P:Program} {w0:World} {g:G} {e:Env} {a:Act} {h:Hp} {w:World}
variable {o:Oper} {md:Nat} {orc:Orc} {base:Nat} {draw:Bool} {aop:AOp} {v:PV} {e':Env} {h':Hp} {gl:Globs}
def EntRel (N0:Nat) (g:G) (w:World) (es:List (PV × PV)) (l:List MapEntry):Prop :=
 l.length=es.length∧∀ (i:Nat) (x:PV × PV),es[i]?=some x→∃ y,l[i]?=some y∧x.1≠.undef∧x.2≠.undef∧RV N0 g w x.1 y.key∧RV N0 g w x.2 y.val
theorem entries_rv (k:Ok (N0:=N0) w0 g e a.tmps h w) {m:PV} {M:Value} (hr:RV N0 g w m M) {es:List (PV × PV)} (hm:entriesOf h m=some es) :
  (m=.nilm∧M=.map none∧es=[])∨∃ b ea clock,m=.mref b∧M=.map (some (g.ι b))∧getMap h b=some es∧w.heap[g.ι b]?=some (.map ea clock)∧EntRel N0 g w es ea.toList∧Go.MapKept.Stamped ea clock:=by
 cases hr <;> simp only [entriesOf] at hm <;> (try cases hm)
 ·exact .inl ⟨rfl,rfl,rfl⟩
 ·rename_i b hb
  right
  obtain ⟨_,_,ea,cl,h3,h4,hst,h5⟩:=k.box b _ (box_of_map hm)
  refine ⟨b,ea,cl,rfl,rfl,hm,h3,⟨by simpa using h4,fun i x hx=>?_⟩,hst⟩
  obtain ⟨y,hy,q⟩:=h5 i x hx
  exact ⟨y,by simpa using hy,q⟩
/-! ### Keys -/
theorem eqCell_same {kd:Nat} {x y:PV} {U V:Value} (r1:RV N0 g w x U) (r2:RV N0 g w y V) (hb:eqCell kd x y=some true):U=V∧∀ n,Instr.sameBits n U U=true:=by
 rcases kd with _ | _ | _ | kd
 all_goals (cases r1 <;> simp only [eqCell] at hb <;> (try cases hb))
 all_goals (cases r2 <;> simp only [eqCell] at hb <;> (try cases hb))
 ·simp only [Option.some.injEq,beq_iff_eq] at hb;subst hb;exact ⟨rfl,fun n=>by simp [Instr.sameBits]⟩
 ·split at hb
  ·rename_i hk;subst hk
   simp only [Option.some.injEq,beq_iff_eq] at hb;subst hb;exact ⟨rfl,fun n=>by simp [Instr.sameBits]⟩
  ·cases hb
 ·rename_i l1 q1 h1 l2 q2 h2
  simp only [Option.some.injEq,beq_iff_eq] at hb
  subst hb
  have:q1=q2:=by
   have:=Array.toList_inj.1 (h1.trans h2.symm)
   cases q1;cases q2;simp only at this;rw [this]
  subst this
  exact ⟨rfl,fun n=>by simp [Instr.sameBits,Go.MapKept.bytes_beq]⟩
theorem eqCell_ne {kd:Nat} {x y:PV} {U V:Value} (r1:RV N0 g w x U) (r2:RV N0 g w y V) (hb:eqCell kd x y=some false):U≠V:=by
 rcases kd with _ | _ | _ | kd
 all_goals (cases r1 <;> simp only [eqCell] at hb <;> (try cases hb))
 all_goals (cases r2 <;> simp only [eqCell] at hb <;> (try cases hb))
 ·simp only [Option.some.injEq,beq_eq_false_iff_ne,ne_eq] at hb
  intro hq;cases hq;exact hb rfl
 ·split at hb
  ·simp only [Option.some.injEq,beq_eq_false_iff_ne,ne_eq] at hb
   intro hq;cases hq;exact hb rfl
  ·cases hb
 ·rename_i l1 q1 h1 l2 q2 h2
  simp only [Option.some.injEq,beq_eq_false_iff_ne,ne_eq] at hb
  intro hq;cases hq;exact hb (h1.symm.trans h2)
theorem eqCells_ne:∀ (ks:List Nat) (cs ds:List PV) (U V:List Value),U.length=cs.length→V.length=ds.length→(∀ (j:Nat) (x:PV),cs[j]?=some x→RV N0 g w x (U.getD j Go.undef)) →
  (∀ (j:Nat) (x:PV),ds[j]?=some x→RV N0 g w x (V.getD j Go.undef))→eqCells ks cs ds=some false→U≠V
 | [],[],[],U,V,hU,hV,_,_,h=>by simp [eqCells] at h
 | k :: ks,c :: cs,d :: ds,U,V,hU,hV,hu,hv,hb=>by
  cases U with
  | nil=>simp at hU
  | cons u U =>
   cases V with
   | nil=>simp at hV
   | cons v V =>
    simp only [eqCells,Option.bnd_eq_some_iff,Option.some.injEq,Bool.and_eq_false_iff] at hb
    obtain ⟨b1,hb1,b2,hb2,hb⟩:=hb
    rcases hb with rfl | rfl
    ·have:=eqCell_ne (hu 0 c rfl) (hv 0 d rfl) hb1
     intro hq;cases hq;exact this rfl
    ·have:=eqCells_ne ks cs ds U V (by simpa using hU) (by simpa using hV) (fun j x hx=>by simpa using hu (j+1) x (by simpa using hx)) (fun j x hx=>by simpa using hv (j+1) x (by simpa using hx)) hb2
     intro hq;cases hq;exact this rfl
 | [],_ :: _,_,_,_,_,_,_,_,h=>by simp [eqCells] at h
 | [],[],_ :: _,_,_,_,_,_,_,h=>by simp [eqCells] at h
 | _ :: _,[],_,_,_,_,_,_,_,h=>by simp [eqCells] at h
 | _ :: _,_ :: _,[],_,_,_,_,_,_,h=>by simp [eqCells] at h
theorem eqCells_same:∀ (ks:List Nat) (cs ds:List PV) (U V:List Value),U.length=cs.length→V.length=ds.length→(∀ (j:Nat) (x:PV),cs[j]?=some x→RV N0 g w x (U.getD j Go.undef)) →
  (∀ (j:Nat) (x:PV),ds[j]?=some x→RV N0 g w x (V.getD j Go.undef))→eqCells ks cs ds=some true→U=V∧∀ n,((U.zip U).all fun p=>Instr.sameBits n p.1 p.2)=true
 | [],[],[],U,V,hU,hV,_,_,_=>by
  have h1:=List.length_eq_zero_iff.1 hU
  have h2:=List.length_eq_zero_iff.1 hV
  subst h1;subst h2;exact ⟨rfl,fun n=>rfl⟩
 | k :: ks,c :: cs,d :: ds,U,V,hU,hV,hu,hv,hb=>by
  cases U with
  | nil=>simp at hU
  | cons u U =>
   cases V with
   | nil=>simp at hV
   | cons v V =>
    simp only [eqCells,Option.bnd_eq_some_iff,Option.some.injEq,Bool.and_eq_true] at hb
    obtain ⟨b1,hb1,b2,hb2,rfl,rfl⟩:=hb
    obtain ⟨e1,e2⟩:=eqCell_same (hu 0 c rfl) (hv 0 d rfl) hb1
    obtain ⟨e3,e4⟩:=eqCells_same ks cs ds U V (by simpa using hU) (by simpa using hV) (fun j x hx=>by simpa using hu (j+1) x (by simpa using hx)) (fun j x hx=>by simpa using hv (j+1) x (by simpa using hx)) hb2
    simp only [List.getD_cons_zero] at e1 e2
    subst e1;subst e3
    exact ⟨rfl,fun n=>by simp only [List.zip_cons_cons,List.all_cons,Bool.and_eq_true];exact ⟨e2 n,e4 n⟩⟩
 | [],_ :: _,_,_,_,_,_,_,_,h=>by simp [eqCells] at h
 | [],[],_ :: _,_,_,_,_,_,_,h=>by simp [eqCells] at h
 | _ :: _,[],_,_,_,_,_,_,_,h=>by simp [eqCells] at h
 | _ :: _,_ :: _,[],_,_,_,_,_,_,h=>by simp [eqCells] at h
theorem checkKey_kind {t:TypeId} {kd:Nat} (hk:kindK P t=some kd) (em:Bool) (n:Nat) (V:Value):(Instr.checkKey em (n+1) t V).run P w=.ok () w:=by
 unfold kindK at hk
 split at hk <;> first
  |(rename_i hu _;simp [Instr.checkKey,run_underlying hu,Result.andThen])
  | cases hk
theorem checkKey_fields {em:Bool} {n:Nat} {us:Array Value}:∀ (fl:List Field) (off:Nat) (ks:List Nat),flatK P off fl=some ks→off+ks.length≤us.size →
  (forIn fl PUnit.unit (fun (f:Field) (_:PUnit)=>(do
    if f.name≠"_" then do
     let x ←Go.part f.type us f.offset
     Instr.checkKey em (n+1) f.type x
     pure (ForInStep.yield PUnit.unit)
    else pure (ForInStep.yield PUnit.unit):Sem (ForInStep PUnit)))).run P w=.ok PUnit.unit w
 | [],off,ks,hf,hl=>by simp
 | f :: fl,off,ks,hf,hl=>by
  simp only [flatK] at hf
  split at hf
  ·rename_i hc
   simp only [Bool.and_eq_true,beq_iff_eq,bne_iff_ne,ne_eq] at hc
   obtain ⟨h1,h2⟩:=hc
   simp only [Option.bind_eq_some_iff,Option.map_eq_some_iff] at hf
   obtain ⟨kd,hkd,ks',hks,rfl⟩:=hf
   simp only [List.length_cons] at hl
   have hag:=agg_of_kind hkd
   have hx:us[off]?=some us[off]:=Array.getElem?_eq_getElem (by omega)
   have hpart:(Go.part f.type us f.offset).run P w=.ok us[off] w:=by
    unfold Go.part
    simp only [Sem.run_bind,run_isAgg' hag,Result.andThen,Bool.false_eq_true,if_false,h1,hx]
    rfl
   have ih:=checkKey_fields (em:=em) (n:=n) (us:=us) fl (off+1) ks' hks (by omega)
   simp only [List.forIn_cons,ne_eq,h2,not_false_eq_true,if_true,Sem.run_bind,hpart,Result.andThen,checkKey_kind hkd,Sem.run_pure]
   exact ih
  ·cases hf
theorem keyK_struct {kt:TypeId} {ks:List Nat} {fs:Array Field} (hu:P.underlying kt=some (.struct fs)) {agg:Bool} (hK:keyK P kt=some (ks,agg)):flatK P 0 fs.toList=some ks∧agg=true∧P.stoodInHeld kt=false:=by
 unfold keyK at hK
 rw [hu] at hK
 simp only at hK
 split at hK
 ·cases hK
 ·rename_i hs
  simp only [Option.map_eq_some_iff,Prod.mk.injEq] at hK
  obtain ⟨ks',h1,rfl,rfl⟩:=hK
  exact ⟨h1,rfl,by simpa using hs⟩
theorem keyK_scalar {kt:TypeId} {ks:List Nat} (hn:∀ fs,P.underlying kt≠some (.struct fs)) {agg:Bool} (hK:keyK P kt=some (ks,agg)):∃ kd,kindK P kt=some kd∧ks=[kd]∧agg=false:=by
 unfold keyK at hK
 split at hK
 ·rename_i fs hu;exact (hn fs hu).elim
 ·simp only [Option.map_eq_some_iff,Prod.mk.injEq] at hK
  obtain ⟨kd,h1,h2,h3⟩:=hK
  exact ⟨kd,h1,h2.symm,h3.symm⟩
theorem run_check {kt:TypeId} {ks:List Nat} {agg:Bool} (hK:keyK P kt=some (ks,agg)) {x:PV} {X:Value} (hr:RV N0 g w x X) (hk:keyOk ks agg x=true) (em:Bool):(Instr.checkKey em 10000 kt X).run P w=.ok () w:=by
 by_cases hs:∃ fs,P.underlying kt=some (.struct fs)
 ·obtain ⟨fs,hu⟩:=hs
  obtain ⟨hf,rfl,_⟩:=keyK_struct hu hK
  cases hr <;> simp only [keyOk] at hk <;> (try (simp at hk;done))
  rename_i cs us hsz hrr
  simp only [Bool.true_and,beq_iff_eq] at hk
  have:=checkKey_fields (P:=P) (w:=w) (em:=em) (n:=9998) (us:=us) fs.toList 0 ks hf (by omega)
  unfold Instr.checkKey
  simp only [Sem.run_bind,run_underlying hu,Result.andThen]
  rw [←Array.forIn_toList,this]
  rfl
 ·have hn:∀ fs,P.underlying kt≠some (.struct fs):=fun fs hq=>hs ⟨fs,hq⟩
  obtain ⟨kd,h1,rfl,rfl⟩:=keyK_scalar hn hK
  exact checkKey_kind h1 em 9999 X
def Found (l:List MapEntry) (i:Nat) (X:Value):Option Nat→Option (Nat × Value)→Prop
 | none,a=>a=none∧∀ y∈l,y.key≠X
 | some j,a=>∃ y,i≤j∧l[j - i]?=some y∧a=some (j,y.val)∧X=y.key∧Instr.sameBits 10000 X X=true
theorem found_cons {y:MapEntry} {l:List MapEntry} {i:Nat} {X:Value} {r:Option Nat} {a:Option (Nat × Value)} (hy:X≠y.key) (hf:Found l (i+1) X r a):Found (y :: l) i X r a:=by
 cases r with
 | none =>
  refine ⟨hf.1,fun z hz=>?_⟩
  rcases List.mem_cons.1 hz with rfl | hz
  ·exact fun hq=>hy hq.symm
  ·exact hf.2 z hz
 | some j =>
  obtain ⟨z,h1,h2,h3⟩:=hf
  refine ⟨z,by omega,?_,h3⟩
  rw [show j - i=(j - (i+1))+1 by omega,List.getElem?_cons_succ]
  exact h2
theorem entRel_cons {e:PV × PV} {es:List (PV × PV)} {l:List MapEntry} (hl:EntRel N0 g w (e :: es) l):∃ y r,l=y :: r∧RV N0 g w e.1 y.key∧RV N0 g w e.2 y.val∧EntRel N0 g w es r:=by
 cases l with
 | nil=>simp [EntRel] at hl
 | cons y r =>
  obtain ⟨y',hy,_,_,h1,h2⟩:=hl.2 0 e rfl
  simp only [List.getElem?_cons_zero,Option.some.injEq] at hy
  subst hy
  exact ⟨y,r,rfl,h1,h2,by simpa using hl.1,fun i x hx=>by simpa using hl.2 (i+1) x (by simpa using hx)⟩
theorem sameNow_rv {kt:TypeId} {d:TypeDesc} {kd:Nat} (hu:P.underlying kt=some d) (hk:kindK P kt=some kd) {x y:PV} {U V:Value} (r1:RV N0 g w x U) (r2:RV N0 g w y V) {b:Bool} (hb:eqCell kd x y=some b):Instr.sameNow d U V=some b:=by
 unfold kindK at hk
 rw [hu] at hk
 split at hk <;> (try cases hk)
 all_goals (rename_i hd _;cases hd)
 all_goals (cases r1 <;> simp only [eqCell] at hb <;> (try cases hb))
 all_goals (cases r2 <;> simp only [eqCell] at hb <;> (try cases hb))
 ·simp [Instr.sameNow]
 ·split at hb
  ·rename_i hq;subst hq
   simp only [Option.some.injEq] at hb;subst hb
   simp [Instr.sameNow]
  ·cases hb
 ·rename_i l1 q1 h1 l2 q2 h2
  simp only [Instr.sameNow,Option.some.injEq]
  subst h1;subst h2
  rw [Bool.eq_iff_iff,Go.MapKept.bytes_beq,beq_iff_eq]
  constructor
  ·rintro rfl;rfl
  ·intro hq
   have:=Array.toList_inj.1 hq
   cases q1;cases q2;simp only at this;rw [this]
theorem find_scalar {kt:TypeId} {d:TypeDesc} {kd:Nat} (hu:P.underlying kt=some d) (hk:kindK P kt=some kd) {x:PV} {X:Value} (hr:RV N0 g w x X) :
  ∀ (es:List (PV × PV)) (l:List MapEntry) (i:Nat) (r:Option Nat),EntRel N0 g w es l→findM [kd] false x es i=some r→∃ a,Instr.findNow d X l i=some a∧Found l i X r a
 | [],l,i,r,hl,hf=>by
  simp only [findM,Option.some.injEq] at hf
  subst hf
  have:=List.length_eq_zero_iff.1 hl.1
  subst this
  exact ⟨none,rfl,rfl,fun y hy=>by cases hy⟩
 | e :: es,l,i,r,hl,hf=>by
  obtain ⟨y,l',rfl,h1,h2,h3⟩:=entRel_cons hl
  simp only [findM,eqKey,List.headD_cons,Option.bnd_eq_some_iff] at hf
  obtain ⟨b,hb,hf⟩:=hf
  have hs:=sameNow_rv hu hk hr h1 hb
  cases b with
  | true =>
   simp only [if_true,Option.some.injEq] at hf
   subst hf
   obtain ⟨q1,q2⟩:=eqCell_same hr h1 hb
   exact ⟨some (i,y.val),by simp only [Instr.findNow,hs],y,Nat.le_refl _,by simp,rfl,q1,q2 _⟩
  | false =>
   simp only [Bool.false_eq_true,if_false] at hf
   obtain ⟨a,ha,hfa⟩:=find_scalar hu hk hr es l' (i+1) r h3 hf
   exact ⟨a,by simp only [Instr.findNow,hs,ha],found_cons (eqCell_ne hr h1 hb) hfa⟩
theorem find_struct {kt:TypeId} {fs:Array Field} {ks:List Nat} (hu:P.underlying kt=some (.struct fs)) (hf0:flatK P 0 fs.toList=some ks) (hst:P.stoodInHeld kt=false) {x:PV} {X:Value} (hr:RV N0 g w x X) :
  ∀ (es:List (PV × PV)) (l:List MapEntry) (i:Nat) (r:Option Nat),EntRel N0 g w es l→findM ks true x es i=some r→∃ a,(Instr.findAsking kt X l i).run P w=.ok a w∧Found l i X r a
 | [],l,i,r,hl,hf=>by
  simp only [findM,Option.some.injEq] at hf
  subst hf
  have:=List.length_eq_zero_iff.1 hl.1
  subst this
  exact ⟨none,rfl,rfl,fun y hy=>by cases hy⟩
 | e :: es,l,i,r,hl,hf=>by
  obtain ⟨y,l',rfl,h1,h2,h3⟩:=entRel_cons hl
  simp only [findM,Option.bnd_eq_some_iff] at hf
  obtain ⟨b,hb,hf⟩:=hf
  unfold eqKey at hb
  split at hb
  ·rename_i cs ds _ he
   generalize hek:e.1=e1 at h1 he
   subst he
   generalize hY:y.key=Y at h1
   cases hr with
   | agg _ us hus hru =>
    cases h1 with
    | agg _ vs hvs hrv =>
     have hfo:P.fieldsOf kt=fs:=by simp [Program.fieldsOf,hu]
     have heq:(Op.equal kt (.agg us) (.agg vs)).run P w=.ok b w:=by
      show (Op.equalIn 10000 kt (.agg us) (.agg vs)).run P w=.ok b w
      rw [run_equalIn_struct w 9999 kt us vs (by rw [hfo];exact hu) hst,hfo]
      exact eqFields_rv (d:=9998) hus hvs hru hrv fs.toList 0 ks hf0 b (by simpa using hb)
     cases b with
     | true =>
      simp only [if_true,Option.some.injEq] at hf
      subst hf
      obtain ⟨q1,q2⟩:=eqCells_same ks cs ds us.toList vs.toList (by simpa using hus) (by simpa using hvs) (fun j x hx=>by have:=hru j x hx;simpa [Array.getD_eq_getD_getElem?,List.getD_eq_getElem?_getD] using this)
       (fun j x hx=>by have:=hrv j x hx;simpa [Array.getD_eq_getD_getElem?,List.getD_eq_getElem?_getD] using this) hb
      have huv:us=vs:=Array.toList_inj.1 q1
      subst huv
      refine ⟨some (i,y.val),by simp only [Instr.findAsking,hY,Sem.run_bind,heq,Result.andThen,if_true,Sem.run_pure],y,Nat.le_refl _,by simp,rfl,hY.symm,?_⟩
      simp only [Instr.sameBits,beq_self_eq_true,Bool.true_and]
      have:=q2 9999
      simpa using this
     | false =>
      simp only [Bool.false_eq_true,if_false] at hf
      obtain ⟨a,ha,hfa⟩:=find_struct hu hf0 hst (RV.agg cs us hus hru) es l' (i+1) r h3 hf
      have hne:=eqCells_ne ks cs ds us.toList vs.toList (by simpa using hus) (by simpa using hvs) (fun j x hx=>by have:=hru j x hx;simpa [Array.getD_eq_getD_getElem?,List.getD_eq_getElem?_getD] using this)
       (fun j x hx=>by have:=hrv j x hx;simpa [Array.getD_eq_getD_getElem?,List.getD_eq_getElem?_getD] using this) hb
      exact ⟨a,by simp only [Instr.findAsking,hY,Sem.run_bind,heq,Result.andThen,Bool.false_eq_true,if_false,ha],found_cons (by rw [hY];intro hq;cases hq;exact hne rfl) hfa⟩
  ·exact absurd ‹true=false› (by decide)
  ·cases hb
theorem run_find {kt:TypeId} {ks:List Nat} {agg:Bool} (hK:keyK P kt=some (ks,agg)) {x:PV} {X:Value} (hr:RV N0 g w x X) {es:List (PV × PV)} {l:List MapEntry} {r:Option Nat} (hl:EntRel N0 g w es l) (hf:findM ks agg x es 0=some r) :
  ∃ a,(Instr.findKey kt X l).run P w=.ok a w∧Found l 0 X r a:=by
 by_cases hs:∃ fs,P.underlying kt=some (.struct fs)
 ·obtain ⟨fs,hu⟩:=hs
  obtain ⟨hf0,rfl,hst⟩:=keyK_struct hu hK
  obtain ⟨a,h1,h2⟩:=find_struct hu hf0 hst hr es l 0 r hl hf
  exact ⟨a,by rw [run_findKey_eq _ (by rw [hu])];exact h1,h2⟩
 ·have hn:∀ fs,P.underlying kt≠some (.struct fs):=fun fs hq=>hs ⟨fs,hq⟩
  obtain ⟨kd,h1,rfl,rfl⟩:=keyK_scalar hn hK
  have:∃ d,P.underlying kt=some d:=by
   cases hu:P.underlying kt with
   | some d=>exact ⟨d,rfl⟩
   | none=>unfold kindK at h1;rw [hu] at h1;simp at h1
  obtain ⟨d,hu⟩:=this
  obtain ⟨a,h2,h3⟩:=find_scalar hu h1 hr es l 0 r hl hf
  exact ⟨a,Go.MapKept.run_findKey hu h2,h3⟩
theorem ok_setmap (k:Ok (N0:=N0) w0 g e a.tmps h w) {b:Nat} {es es':List (PV × PV)} (hb:getMap h b=some es) {ea ea':Array MapEntry} {cl cl':Nat} (hw:w.heap[g.ι b]?=some (.map ea cl)) (hr:EntRel N0 g w es' ea'.toList) (hst:Go.MapKept.Stamped ea' cl') :
  Ext N0 g w g { w with heap:=w.heap.setIfInBounds (g.ι b) (.map ea' cl') }∧Ok (N0:=N0) w0 g e a.tmps (setBx h b (.map es')) { w with heap:=w.heap.setIfInBounds (g.ι b) (.map ea' cl') }:=by
 obtain ⟨k1,k2,_⟩:=k.box b _ (box_of_map hb)
 let w1:World:={ w with heap:=w.heap.setIfInBounds (g.ι b) (.map ea' cl') }
 have hheap:∀ c,c≠g.ι b→w1.heap[c]?=w.heap[c]?:=fun c hc=>by
  show (w.heap.setIfInBounds _ _)[c]?=_
  rw [Array.getElem?_setIfInBounds_ne (fun hq=>hc hq.symm)]
 have hat:w1.heap[g.ι b]?=some (.map ea' cl'):=by
  have:=(Array.getElem?_eq_some_iff.1 hw).1
  show (w.heap.setIfInBounds _ _)[g.ι b]?=_
  simp [this]
 have hcell:∀ c o,w1.cell? ⟨c,o,none⟩=w.cell? ⟨c,o,none⟩:=by
  intro c o
  by_cases hc:c=g.ι b
  ·subst hc;simp only [World.cell?,hat,hw]
  ·simp only [World.cell?,hheap c hc]
 have hx1:Ext N0 g w g w1:=⟨Nat.le_refl _,fun _ _=>rfl,fun c m hm=>⟨m,hm,Nat.le_refl _⟩,fun c m o _ _=>hcell c o,fun c o _=>hcell c o,fun t ht=>⟨Nat.le_refl _,fun _=>rfl⟩,fun _ _=>rfl⟩
 have hbl:Below N0 w w1:=⟨rfl,rfl,rfl,by show _≤(w.heap.setIfInBounds _ _).size;simp,fun c hc=>hheap c (by omega)⟩
 refine ⟨hx1,?_⟩
 refine ok_setbox k (box_of_map hb) hx1 rfl hbl (.inl rfl) (fun c _ hc=>⟨hheap c hc,rfl⟩) (fun _ _=>rfl) ⟨k1,k2,ea',cl',hat,by simpa using hr.1,hst,fun i x hx=>?_⟩ (fun c m hm=>?_)
 ·obtain ⟨y,hy,q1,q2,q3,q4⟩:=hr.2 i x hx
  exact ⟨y,by simpa using hy,q1,q2,q3.mono hx1,q4.mono hx1⟩
 ·have:=k.arr c m hm
  exact ⟨this.1,by show _ < (w.heap.setIfInBounds _ _).size;simp;exact this.2⟩
theorem scalar_ne {v:PV} (hs:v.cells.all scalar=true):strip v≠.undef:=by
 intro hq
 cases v <;> simp [strip] at hq
 simp [PV.cells,scalar] at hs
theorem entRel_upd {es:List (PV × PV)} {ea:Array MapEntry} (hr:EntRel N0 g w es ea.toList) {i:Nat} {y:MapEntry} (hy:ea[i]?=some y) {k v:PV} {K V:Value} (hk:RV N0 g w k K) (hv:RV N0 g w v V) (h1:k≠.undef) (h2:v≠.undef) (f:MapEntry→MapEntry) (hf:(f y).key=K∧(f y).val=V) :
  EntRel N0 g w (es.set i (k,v)) (ea.modify i f).toList:=by
 refine ⟨by have:=hr.1;simp at this ⊢;exact this,fun j x hx=>?_⟩
 by_cases hij:i=j
 ·subst hij
  have hlt:i < es.length:=by have:=(List.getElem?_eq_some_iff.1 hx).1;simpa using this
  rw [List.getElem?_set_self hlt] at hx
  simp only [Option.some.injEq] at hx
  subst hx
  exact ⟨f y,by simp [Array.getElem?_modify,hy],h1,h2,by rw [hf.1];exact hk,by rw [hf.2];exact hv⟩
 ·rw [List.getElem?_set_ne hij] at hx
  obtain ⟨z,hz,q⟩:=hr.2 j x hx
  exact ⟨z,by simpa [Array.getElem?_modify,hij] using hz,q⟩
theorem entRel_push {es:List (PV × PV)} {ea:Array MapEntry} (hr:EntRel N0 g w es ea.toList) {k v:PV} {y:MapEntry} (hk:RV N0 g w k y.key) (hv:RV N0 g w v y.val) (h1:k≠.undef) (h2:v≠.undef) :
  EntRel N0 g w (es ++ [(k,v)]) (ea.push y).toList:=by
 have hl:=hr.1
 refine ⟨by simp at hl ⊢;exact hl,fun j x hx=>?_⟩
 rw [Array.toList_push]
 by_cases hj:j < es.length
 ·rw [List.getElem?_append_left hj] at hx
  obtain ⟨z,hz,q⟩:=hr.2 j x hx
  exact ⟨z,by rw [List.getElem?_append_left (by omega)];exact hz,q⟩
 ·have:j=es.length:=by have:=(List.getElem?_eq_some_iff.1 hx).1;simp at this;omega
  subst this
  simp at hx
  subst hx
  exact ⟨y,by rw [←hl];simp,h1,h2,hk,hv⟩
theorem entRel_erase {es:List (PV × PV)} {ea:Array MapEntry} (hr:EntRel N0 g w es ea.toList) (i:Nat):EntRel N0 g w (es.eraseIdx i) (ea.eraseIdxIfInBounds i).toList:=by
 have hl:=hr.1
 have he:(ea.eraseIdxIfInBounds i).toList=ea.toList.eraseIdx i:=by
  unfold Array.eraseIdxIfInBounds
  split
  ·simp only [Array.toList_eraseIdx]
  ·rw [List.eraseIdx_of_length_le (by simp;omega)]
 rw [he]
 refine ⟨by rw [List.length_eraseIdx,List.length_eraseIdx,hl],fun j x hx=>?_⟩
 rw [List.getElem?_eraseIdx] at hx ⊢
 split at hx
 ·rename_i hlt;rw [if_pos hlt];exact hr.2 j x hx
 ·rename_i hlt;rw [if_neg hlt];exact hr.2 (j+1) x hx
section
variable (hgl:GlobOk gl N0 w0)
include hgl
omit hgl in
theorem g_makeMap (k:Ok (N0:=N0) w0 g e a.tmps h w) {t:TypeId} (ho:o.op=.makeMap t none) (hs:step orc base draw (.gen .makeMap []) e h=some (v,e',h')):Gives N0 P w0 g a w (execOp a.eval o) v e' h':=by
 simp only [step,evs,Option.bnd_some,genV,Option.some.injEq,Prod.mk.injEq] at hs
 obtain ⟨rfl,rfl,rfl⟩:=hs
 have hm:MadeBy w (w.alloc (.map #[] 0)) (.map #[] 0):=.inl rfl
 obtain ⟨g',hx1,hok,hn,hι,_,_,_⟩:=ok_newbox (cpv:=0) k hm (.map []) none default (fun n T hn=>by cases hn) (fun g' hx1 hι hhw htk _=>⟨by rw [hι];exact ok_size k,by rw [hι];exact hhw,#[],0,by rw [hι];exact hm.at,rfl,Go.MapKept.stamped_empty 0,fun i x hx=>by simp at hx⟩)
 refine ⟨_,.map (some w.heap.size),_,g',?_,.inl rfl,hx1,hok,?_⟩
 ·simp [execOp,ho,Instr.makeMap]
 ·rw [←hι];exact .mref _ (by omega)
theorem g_mapLen (k:Ok (N0:=N0) w0 g e a.tmps h w) {c:Go.Call} (ho:o.op=.call c) (hb:c.callee=.builtin .len) {x:Operand} {t kt et:TypeId} {x':Opnd} (hargs:c.args=#[x]) (htys:c.argTypes=#[t]) (hu:P.underlying t=some (.map kt et)) (hx:cOpnd gl x=some x')
  (hs:step orc base draw (.gen .mapLen [x']) e h=some (v,e',h')):Gives N0 P w0 g a w (execOp a.eval o) v e' h':=by
 obtain ⟨cs,hrun⟩:=run_of_builtin (P:=P) (w:=w) (a:=a) ho hb
 simp only [step,evs,Option.bnd_eq_some_iff,Option.some.injEq,Prod.mk.injEq] at hs
 obtain ⟨vs,⟨p,hp,_,rfl,rfl⟩,r,hr,rfl,rfl,rfl⟩:=hs
 simp only [genV,Option.bnd_eq_some_iff,Option.some.injEq] at hr
 obtain ⟨es,hes,rfl⟩:=hr
 have h1:=rv_ev hgl k hx hp
 generalize hA:a.eval x=A at h1
 rcases entries_rv k h1 hes with ⟨rfl,rfl,rfl⟩ | ⟨b,ea,cl,rfl,rfl,hg,hw,hrel,hstp⟩
 ·refine gives_pure (u:=goInt 0) k ?_ (.int _ _)
  rw [hrun,hargs,htys]
  simp only [builtin,List.map_toArray,List.map_cons,List.map_nil,hA,Builtin.len_]
  simp [run_underlying hu]
 ·refine gives_pure (u:=goInt ea.size) k ?_ ?_
  ·rw [hrun,hargs,htys]
   simp only [builtin,List.map_toArray,List.map_cons,List.map_nil,hA,Builtin.len_]
   simp [run_underlying hu,Go.MapKept.run_getObj_map hw]
  ·have:es.length=ea.size:=by have:=hrel.1;simp at this;omega
   rw [this];exact .int _ _
theorem g_lookup (k:Ok (N0:=N0) w0 g e a.tmps h w) {t kt et:TypeId} {m x:Operand} {ok:Bool} (ho:o.op=.lookup t m x ok) (hu:P.underlying t=some (.map kt et)) {ks:List Nat} {agg:Bool} (hK:keyK P kt=some (ks,agg)) {z:PV} (hz:zeroV P et=some z)
  {m' x':Opnd} (hm:cOpnd gl m=some m') (hx:cOpnd gl x=some x') (hs:step orc base draw (.gen (.lookup ks agg z ok) [m',x']) e h=some (v,e',h')):Gives N0 P w0 g a w (execOp a.eval o) v e' h':=by
 simp only [step,evs,Option.bnd_eq_some_iff,Option.some.injEq,Prod.mk.injEq] at hs
 obtain ⟨vs,⟨p,hp,_,⟨q,hq,_,rfl,rfl⟩,rfl⟩,r,hr,rfl,rfl,rfl⟩:=hs
 simp only [genV,Option.bnd_eq_some_iff] at hr
 obtain ⟨es,hes,hr⟩:=hr
 split at hr
 ·rename_i hko
  simp only [Option.bnd_eq_some_iff,Option.some.injEq] at hr
  obtain ⟨i,hi,r2,hr2,rfl⟩:=hr
  have h1:=rv_ev hgl k hm hp
  have h2:=rv_ev hgl k hx hq
  generalize hA:a.eval m=A at h1
  generalize hB:a.eval x=B at h2
  unfold zeroV at hz
  simp only [Option.bind_eq_some_iff] at hz
  obtain ⟨zv,⟨inf,hinf,hzv⟩,hz⟩:=hz
  have hzr:RV N0 g w z zv:=rv_const _ _ hz
  have hzrun:=run_zero hinf hzv w
  have fin:∀ (V:Value) (bb:Bool) (s:Sem Value),(Instr.lookup t A B ok).run P w=.ok (if ok then .tuple #[V,.bool bb] else V) w→RV N0 g w r2.1 V→r2.2=bb→Gives N0 P w0 g a w (execOp a.eval o) (if ok then .tup [r2.1,.bool r2.2] else r2.1) e h:=by
   intro V bb _ hrun hV hbb
   refine gives_pure (u:=if ok then .tuple #[V,.bool bb] else V) k ?_ ?_
   ·simp only [execOp,ho,hA,hB,Sem.run_bind,hrun,Result.andThen,Sem.run_pure]
   ·cases ok with
    | false=>simpa using hV
    | true =>
     simp only [if_true]
     refine .tup _ _ rfl fun j y hy=>?_
     match j with
     | 0=>simp at hy;subst hy;simpa using hV
     | 1=>simp at hy;subst hy;rw [hbb];exact .bool _
     | j+2=>simp at hy
  rcases entries_rv k h1 hes with ⟨rfl,rfl,rfl⟩ | ⟨b,ea,cl,rfl,rfl,hg,hw,hrel,hstp⟩
  ·simp only [findM,Option.some.injEq] at hi
   subst hi
   simp only [lookM,Option.some.injEq] at hr2
   subst hr2
   have hck:=run_check hK h2 hko true
   obtain ⟨av,ha,hfa⟩:=run_find (es:=[]) (l:=[]) hK h2 ⟨rfl,fun i x hx=>by simp at hx⟩ (r:=none) rfl
   simp only [Found] at hfa
   obtain ⟨rfl,_⟩:=hfa
   refine fin zv false (pure B) ?_ hzr rfl
   simp [Instr.lookup,run_underlying hu,hck,ha,hzrun]
  ·obtain ⟨av,ha,hfa⟩:=run_find hK h2 hrel hi
   have hck:=run_check hK h2 hko ea.isEmpty
   cases i with
   | none =>
    simp only [lookM,Option.some.injEq] at hr2
    subst hr2
    simp only [Found] at hfa
    obtain ⟨rfl,_⟩:=hfa
    refine fin zv false (pure B) ?_ hzr rfl
    simp [Instr.lookup,run_underlying hu,Go.MapKept.run_getObj_map hw,hck,ha,hzrun]
   | some i =>
    simp only [lookM,Option.bnd_eq_some_iff,Option.some.injEq] at hr2
    obtain ⟨en,hen,rfl⟩:=hr2
    obtain ⟨y,_,hy,rfl,_,_⟩:=hfa
    obtain ⟨y',hy',_,_,_,hv⟩:=hrel.2 i en hen
    rw [Nat.sub_zero] at hy
    rw [hy] at hy'
    cases hy'
    refine fin y.val true (pure B) ?_ hv rfl
    simp [Instr.lookup,run_underlying hu,Go.MapKept.run_getObj_map hw,hck,ha]
 ·cases hr
theorem g_mapUpd (k:Ok (N0:=N0) w0 g e a.tmps h w) {t kt et:TypeId} {m x y:Operand} (ho:o.op=.mapUpdate t m x y∨o.op=.insert t m x y) (hu:P.underlying t=some (.map kt et)) {ks:List Nat} {agg:Bool} (hK:keyK P kt=some (ks,agg))
  {m' x' y':Opnd} (hm:cOpnd gl m=some m') (hx:cOpnd gl x=some x') (hy:cOpnd gl y=some y') (hs:step orc base draw (.gen (.mapUpd ks agg) [m',x',y']) e h=some (v,e',h')):Gives N0 P w0 g a w (execOp a.eval o) v e' h':=by
 simp only [step,evs,Option.bnd_eq_some_iff,Option.some.injEq,Prod.mk.injEq] at hs
 obtain ⟨vs,⟨p,hp,_,⟨q,hq,_,⟨u,hu2,_,rfl,rfl⟩,rfl⟩,rfl⟩,r,hr,rfl,rfl,rfl⟩:=hs
 simp only [genV] at hr
 split at hr
 ·rename_i b
  simp only [Option.bnd_eq_some_iff] at hr
  obtain ⟨es,hes,hr⟩:=hr
  split at hr
  ·rename_i hcond
   obtain ⟨hko,hsk,hsv,_⟩:=hcond
   simp only [Option.bnd_eq_some_iff,Option.some.injEq] at hr
   obtain ⟨i,hi,rfl⟩:=hr
   have h1:=rv_ev hgl k hm hp
   have h2:=rv_ev hgl k hx hq
   have h3:=rv_ev hgl k hy hu2
   generalize hA:a.eval m=A at h1
   generalize hB:a.eval x=B at h2
   generalize hC:a.eval y=C at h3
   rcases entries_rv k h1 (es:=es) (by simpa [entriesOf] using hes) with ⟨hq,_⟩ | ⟨b',ea,cl,hbb,rfl,hg,hw,hrel,hstp⟩
   ·cases hq
   cases hbb
   obtain ⟨av,ha,hfa⟩:=run_find hK h2 hrel hi
   have hck:=run_check hK h2 hko false
   have hex:∀ w',(Instr.mapUpdate t (.map (some (g.ι b))) B C).run P w=.ok () w'→(execOp a.eval o).run P w=.ok .skip w':=by
    intro w' hrun
    rcases ho with ho | ho <;> simp only [execOp,ho,hA,hB,hC,Sem.run_bind,hrun,Result.andThen,Sem.run_pure]
   cases i with
   | none =>
    simp only [Found] at hfa
    obtain ⟨rfl,hnk⟩:=hfa
    obtain ⟨x1,x2⟩:=ok_setmap (cl':=cl+1) k hes hw (entRel_push (y:={ key:=B,val:=C,born:=cl }) hrel (rv_strip h2) (rv_strip h3) (scalar_ne hsk) (scalar_ne hsv)) (Go.MapKept.stamped_push hstp hnk)
    refine ⟨.skip,Go.undef,_,g,hex _ ?_,.inr ⟨rfl,rfl⟩,x1,x2,.undef _ (by intro b;simp [Go.undef])⟩
    simp [Instr.mapUpdate,run_underlying hu,Go.MapKept.run_getObj_map hw,hck,ha,Go.MapKept.run_setObj_map _ hw]
   | some i =>
    obtain ⟨z,_,hz,rfl,hkey,hsame⟩:=hfa
    rw [Nat.sub_zero,Array.getElem?_toList] at hz
    obtain ⟨x1,x2⟩:=ok_setmap (cl':=cl) k hes hw (entRel_upd hrel hz (rv_strip h2) (rv_strip h3) (scalar_ne hsk) (scalar_ne hsv) (fun e=>{ e with key:=B,val:=C }) ⟨rfl,rfl⟩) (Go.MapKept.stamped_modify hstp i _ (fun _ _=>rfl) (fun e _ hei=>by rw [hz] at hei;cases hei;exact hkey))
    refine ⟨.skip,Go.undef,_,g,hex _ ?_,.inr ⟨rfl,rfl⟩,x1,x2,.undef _ (by intro b;simp [Go.undef])⟩
    have hstay:(Instr.keyThatStays z.key B).run P w=.ok B w:=by
     rw [←hkey]
     simp [Instr.keyThatStays,hsame]
    simp [Instr.mapUpdate,run_underlying hu,Go.MapKept.run_getObj_map hw,hck,ha,hz,hstay,Go.MapKept.run_setObj_map _ hw]
  ·cases hr
 ·cases hr
theorem g_mapDel (k:Ok (N0:=N0) w0 g e a.tmps h w) {c:Go.Call} (ho:o.op=.call c) (hb:c.callee=.builtin .delete) {m x:Operand} {t ty kt et:TypeId} {m' x':Opnd} (hargs:c.args=#[m,x]) (htys:c.argTypes=#[t,ty]) (hu:P.underlying t=some (.map kt et)) {ks:List Nat} {agg:Bool} (hK:keyK P kt=some (ks,agg))
  (hm:cOpnd gl m=some m') (hx:cOpnd gl x=some x') (hs:step orc base draw (.gen (.mapDel ks agg) [m',x']) e h=some (v,e',h')):Gives N0 P w0 g a w (execOp a.eval o) v e' h':=by
 obtain ⟨cs,hrun⟩:=run_of_builtin (P:=P) (w:=w) (a:=a) ho hb
 simp only [step,evs,Option.bnd_eq_some_iff,Option.some.injEq,Prod.mk.injEq] at hs
 obtain ⟨vs,⟨p,hp,_,⟨q,hq,_,rfl,rfl⟩,rfl⟩,r,hr,rfl,rfl,rfl⟩:=hs
 have h1:=rv_ev hgl k hm hp
 have h2:=rv_ev hgl k hx hq
 generalize hA:a.eval m=A at h1
 generalize hB:a.eval x=B at h2
 have tup0:∀ w':World,RV N0 g w' (.tup []) (.tuple #[]):=fun w'=>.tup _ _ rfl fun j y hy=>by simp at hy
 simp only [genV] at hr
 split at hr
 ·split at hr
  ·rename_i hko
   simp only [Option.some.injEq] at hr
   subst hr
   cases h1
   have hck:=run_check hK h2 hko true
   refine gives_pure (u:=.tuple #[]) k ?_ (tup0 w)
   rw [hrun,hargs,htys]
   simp only [builtin,List.map_toArray,List.map_cons,List.map_nil,hA,hB,Builtin.delete_]
   simp [run_underlying hu,hck]
  ·cases hr
 ·rename_i b
  simp only [Option.bnd_eq_some_iff] at hr
  obtain ⟨es,hes,hr⟩:=hr
  split at hr
  ·rename_i hko
   simp only [Option.bnd_eq_some_iff,Option.some.injEq] at hr
   obtain ⟨i,hi,rfl⟩:=hr
   rcases entries_rv k h1 (es:=es) (by simpa [entriesOf] using hes) with ⟨hq,_⟩ | ⟨b',ea,cl,hbb,rfl,hg,hw,hrel,hstp⟩
   ·cases hq
   cases hbb
   obtain ⟨av,ha,hfa⟩:=run_find hK h2 hrel hi
   have hck:=run_check hK h2 hko ea.isEmpty
   cases i with
   | none =>
    simp only [Found] at hfa
    obtain ⟨rfl,_⟩:=hfa
    obtain ⟨x1,x2⟩:=ok_setmap (cl':=cl) k hes hw hrel hstp
    refine ⟨_,.tuple #[],_,g,?_,.inl rfl,x1,x2,tup0 _⟩
    rw [hrun,hargs,htys]
    simp only [builtin,List.map_toArray,List.map_cons,List.map_nil,hA,hB,Builtin.delete_]
    simp [run_underlying hu,Go.MapKept.run_getObj_map hw,hck,ha,Go.MapKept.run_setObj_map _ hw]
   | some i =>
    obtain ⟨z,_,hz,rfl,hkey,hsame⟩:=hfa
    obtain ⟨x1,x2⟩:=ok_setmap (cl':=cl) k hes hw (entRel_erase hrel i) (Go.MapKept.stamped_erase hstp i)
    refine ⟨_,.tuple #[],_,g,?_,.inl rfl,x1,x2,tup0 _⟩
    rw [hrun,hargs,htys]
    simp only [builtin,List.map_toArray,List.map_cons,List.map_nil,hA,hB,Builtin.delete_]
    simp [run_underlying hu,Go.MapKept.run_getObj_map hw,hck,ha,Go.MapKept.run_setObj_map _ hw]
  ·cases hr
 ·cases hr
end
theorem src_take (k:Ok (N0:=N0) w0 g e a.tmps h w) {u:PV} {A:Value} (hr:RV N0 g w u A) {xs:List PV} (hx:elems h u=some xs) (hs:xs.all (fun x=>x.cells.length == 1)=true) {n:Nat} (hn:n≤xs.length) :
  ∃ news:Array Value,(Builtin.firstCells 1 n A).run P w=.ok news w∧Holds N0 g w 1 (xs.take n) news:=by
 have hs':(xs.take n).all (fun x=>x.cells.length == 1)=true:=by
  rw [List.all_eq_true] at hs ⊢
  exact fun x hx=>hs x (List.mem_of_mem_take hx)
 have hlen:(xs.take n).length=n:=by simp;omega
 cases hr <;> simp only [elems] at hx <;> (try cases hx)
 case nils =>
  have:n=0:=by simpa using hn
  subst this
  exact ⟨#[],by simp [Builtin.firstCells],by simp,by simp,by simp⟩
 case sl ow sz c o' cap uu q7 q1 q2 q3 q4 q5 q6 q8 q9 =>
  have hr':RV N0 g w (.sl .no sz (xs.take n)) (.slice (some ⟨c,o',q7⟩) (xs.take n).length cap):=by
   refine .sl .no sz (xs.take n) c o' cap uu (by rw [hlen];omega) (by simp) (fun i e he=>?_) (fun i j hi hj=>q4 i j (by rw [hlen] at hi;omega) hj) (fun i j e x he hx=>?_) (fun hne=>?_) q7 (fun hne=>q8 ?_) (by simp)
   ·rw [List.getElem?_take] at he;split at he
    ·exact q3 i e he
    ·cases he
   ·rw [List.getElem?_take] at he;split at he
    ·exact q5 i j e x he hx
    ·cases he
   ·have:xs≠[]:=by rintro rfl;simp at hne
    rcases q6 this with h1 | ⟨m,h1,h2⟩
    ·exact .inl h1
    ·refine .inr ⟨m,h1,?_⟩
     have:=Nat.mul_le_mul_right sz hn
     rw [hlen];omega
   ·rintro rfl;simp at hne
  obtain ⟨_,news,h1,h2⟩:=src_rv (P:=P) k (by decide:(1:Nat)≠0) hr' (xs:=xs.take n) rfl hs'
  refine ⟨news,?_,h2⟩
  have:=h1 w (.inl rfl)
  rw [hlen] at this
  exact this
 case bsl fl b off len sz cap hb hl hfl hcpb =>
  split at hx
  ·rename_i h1
   subst h1
   simp only [Option.bnd_eq_some_iff] at hx
   obtain ⟨cs,hcs,hx⟩:=hx
   split at hx
   ·rename_i hcond
    obtain ⟨hle,hsc⟩:=hcond
    simp only [Option.some.injEq] at hx
    subst hx
    have hl':n≤len:=by simp at hn;omega
    have hr':RV N0 g w (.bsl false b off n 1) (.slice (some ⟨g.ι b,off,none⟩) n cap):=.bsl false b off n 1 cap hb (by omega) (by simp) hcpb
    have he:elems h (.bsl false b off n 1)=some (((cs.drop off).take len).take n):=by
     simp only [elems,if_true,Option.bnd_eq_some_iff]
     refine ⟨cs,hcs,?_⟩
     rw [List.take_take,Nat.min_eq_left hl',if_pos]
     refine ⟨by omega,?_⟩
     rw [List.all_eq_true] at hsc ⊢
     intro x hx
     refine hsc x ?_
     rw [show (cs.drop off).take n=((cs.drop off).take len).take n by rw [List.take_take,Nat.min_eq_left hl']] at hx
     exact List.mem_of_mem_take hx
    obtain ⟨_,news,h1,h2⟩:=src_rv (P:=P) k (by decide:(1:Nat)≠0) hr' he hs'
    refine ⟨news,?_,h2⟩
    have:=h1 w (.inl rfl)
    rw [hlen] at this
    exact this
   ·cases hx
  ·cases hx
 case str l s hl =>
  have hr':RV N0 g w (.str (l.take n)) (.string ⟨(l.take n).toArray⟩):=.str _ _ (by simp)
  have he:elems h (.str (l.take n))=some ((l.map fun c=>PV.int .u8 c.toNat).take n):=by simp [elems]
  obtain ⟨_,news,h1,h2⟩:=src_rv (P:=P) k (by decide:(1:Nat)≠0) hr' he hs'
  refine ⟨news,?_,h2⟩
  have:=h1 w (.inl rfl)
  rw [hlen] at this
  rw [←this]
  have hd:(s.extract 0 n).data=((⟨(l.take n).toArray⟩ : ByteArray).extract 0 n).data:=by
   subst hl
   simp only [ByteArray.data_extract]
   apply Array.toList_inj.1
   simp [List.take_take]
  simp only [Builtin.firstCells,hd]
section
variable (hgl:GlobOk gl N0 w0)
include hgl
theorem g_copy (k:Ok (N0:=N0) w0 g e a.tmps h w) {c:Go.Call} (ho:o.op=.call c) (hb:c.callee=.builtin .copy) {d x:Operand} {t ty el:TypeId} {d' x':Opnd} (hargs:c.args=#[d,x]) (htys:c.argTypes=#[t,ty]) (hu:P.underlying t=some (.slice el)) (hsz:sizeOf P el=some 1)
  (hd:cOpnd gl d=some d') (hx:cOpnd gl x=some x') (hs:step orc base draw (.copyB d' x') e h=some (v,e',h')):Gives N0 P w0 g a w (execOp a.eval o) v e' h':=by
 obtain ⟨cs0,hrun⟩:=run_of_builtin (P:=P) (w:=w) (a:=a) ho hb
 simp only [step,Option.bnd_eq_some_iff] at hs
 obtain ⟨p,hp,q,hq,xs,hxs,hs⟩:=hs
 have h1:=rv_ev hgl k hd hp
 have h2:=rv_ev hgl k hx hq
 generalize hA:a.eval d=A at h1
 generalize hB:a.eval x=B at h2
 have hrun2:∀ w' n,(Builtin.copy_ #[t,ty] o.type #[A,B]).run P w=.ok (goInt n) w'→(execOp a.eval o).run P w=.ok (.value (goInt n)) w':=by
  intro w' n hr
  rw [hrun,hargs,htys]
  simp only [builtin,List.map_toArray,List.map_cons,List.map_nil,hA,hB,Sem.run_bind,hr,Result.andThen,Sem.run_pure]
 have len1:∀ xs:List PV,xs.all scalar=true→xs.all (fun x=>x.cells.length == 1)=true:=by
  intro xs hsc
  rw [List.all_eq_true] at hsc ⊢
  intro x hx
  rw [elem_of_scalar (hsc x hx)];rfl
 have elemsSc:xs.all scalar=true→(Builtin.lenOf B).run P w=.ok xs.length w:=fun hsc=>(src_rv (P:=P) k (by decide:(1:Nat)≠0) h2 hxs (len1 _ hsc)).1
 cases h1 <;> (try simp only at hs) <;> (try cases hs)
 case nils =>
  have hlen:∃ n,(Builtin.lenOf B).run P w=.ok n w∧(Builtin.firstCells 1 0 B).run P w=.ok #[] w:=by
   cases h2 <;> simp only [elems] at hxs <;> (try cases hxs)
   all_goals exact ⟨_,rfl,by simp [Builtin.firstCells,loadCells,loadCellsFrom]⟩
  obtain ⟨n,hl,hf⟩:=hlen
  refine gives_pure (u:=goInt 0) k (hrun2 _ _ ?_) (.int _ _)
  simp [Builtin.copy_,run_underlying hu,hl,run_sizeOf' hsz,hf]
 case bsl fl b off len sz cap hb' hl hfl hcpb =>
  simp only [Option.bnd_eq_some_iff] at hs
  obtain ⟨cs,hcs,hs⟩:=hs
  split at hs
  ·rename_i hcond
   obtain ⟨rfl,hle,hsc,_⟩:=hcond
   simp only [Option.some.injEq,Prod.mk.injEq] at hs
   obtain ⟨rfl,rfl,rfl⟩:=hs
   have hL:=elemsSc hsc
   have hmin:min xs.length len≤xs.length:=Nat.min_le_left _ _
   obtain ⟨news,hf,hns,_,hnr⟩:=src_take (P:=P) k h2 hxs (len1 _ hsc) hmin
   have htk:xs.take (min xs.length len)=xs.take len:=by
    rcases Nat.le_total xs.length len with hq | hq
    ·rw [Nat.min_eq_left hq,List.take_of_length_le hq,List.take_of_length_le (Nat.le_refl _)]
    ·rw [Nat.min_eq_right hq]
   rw [htk] at hns hnr
   have hsc':(xs.take len).all scalar=true:=by
    rw [List.all_eq_true] at hsc ⊢
    exact fun x hx=>hsc x (List.mem_of_mem_take hx)
   obtain ⟨w',hst,hext,hok⟩:=store_row (P:=P) (b:=b) (off:=off) news.toList (xs.take len) 0 h w cs k hcs (by simpa using hns) (by simp;omega) hsc' (fun j y hy=>by
    have hmem:=List.all_eq_true.1 hsc' _ (List.mem_of_getElem? hy)
    have:=hnr j 0 y y hy (by rw [elem_of_scalar hmem];rfl)
    simpa [Array.getD_eq_getD_getElem?,List.getD_eq_getElem?_getD] using this)
   refine ⟨_,goInt (min xs.length len:Nat),w',g,hrun2 _ _ ?_,.inl rfl,hext,by simpa using hok,.int _ _⟩
   have hmm:Nat.min xs.length len=min xs.length len:=rfl
   simp [Builtin.copy_,run_underlying hu,hL,run_sizeOf' hsz,hf,hst,hmm]
  ·cases hs
end
theorem ok_mark (k:Ok (N0:=N0) w0 g e a.tmps h w) {b:Nat} {cs:List PV} (hb:getBox h b=some cs) :
  ∃ n w',(∃ T,w.shape? (g.ι b)=some (T,n))∧w.freeze ⟨g.ι b,n,none⟩ 1=w'∧Ext N0 g w g w'∧Ok (N0:=N0) w0 g e a.tmps h w':=by
 obtain ⟨q1,q2,arr,T,lo,hi,q3,q6,q4,q8,q5⟩:=k.cells hb
 refine ⟨arr.size,_,⟨T,by simp [World.shape?,q3]⟩,rfl,?_⟩
 generalize hw1:w.freeze ⟨g.ι b,arr.size,none⟩ 1=w1
 have hheap:∀ c,c≠g.ι b→w1.heap[c]?=w.heap[c]?:=fun c hc=>by
  rw [←hw1];unfold World.freeze
  rw [if_neg (by decide)]
  simp only [Array.getElem?_modify]
  rw [if_neg (fun hq=>hc hq.symm)]
 have hat:∃ lo' hi',w1.heap[g.ι b]?=some (.cells arr T (lo',hi'))∧(lo'≠hi'→arr.size≤lo'):=by
  rw [←hw1];unfold World.freeze
  rw [if_neg (by decide)]
  simp only [Array.getElem?_modify,if_true,q3,Option.map_some]
  by_cases hq:lo == hi
  ·rw [if_pos hq];exact ⟨_,_,rfl,fun _=>Nat.le_refl _⟩
  ·rw [if_neg hq]
   have:=q6 (by simpa using hq)
   exact ⟨_,_,rfl,fun _=>by omega⟩
 obtain ⟨lo',hi',hat1,hat2⟩:=hat
 have hcell:∀ c o,w1.cell? ⟨c,o,none⟩=w.cell? ⟨c,o,none⟩:=by
  intro c o
  by_cases hc:c=g.ι b
  ·subst hc;simp only [World.cell?,hat1,q3]
  ·simp only [World.cell?,hheap c hc]
 have hx:Ext N0 g w g w1:=⟨Nat.le_refl _,fun _ _=>rfl,fun c m hm=>⟨m,hm,Nat.le_refl _⟩,fun c m o _ _=>hcell c o,fun c o _=>hcell c o,fun t ht=>⟨Nat.le_refl _,fun _=>rfl⟩,fun _ _=>rfl⟩
 have hsize:w1.heap.size=w.heap.size:=by
  rw [←hw1];unfold World.freeze
  rw [if_neg (by decide)];simp
 have hbl:Below N0 w w1:=⟨by rw [←hw1];unfold World.freeze;rw [if_neg (by decide)],by rw [←hw1];unfold World.freeze;rw [if_neg (by decide)],by rw [←hw1];unfold World.freeze;rw [if_neg (by decide)],by omega,fun c hc=>hheap c (by omega)⟩
 refine ⟨hx,?_⟩
 have hok:=ok_setbox (y:=.cells cs) k (box_of_get hb) hx rfl hbl (.inl rfl) (fun c _ hc=>⟨hheap c hc,rfl⟩) (fun _ _=>rfl) ⟨q1,q2,arr,T,lo',hi',hat1,hat2,q4,q8,fun j x hj=>(q5 j x hj).mono hx⟩ (fun c m hm=>by
  have:=k.arr c m hm
  exact ⟨this.1,by omega⟩)
 rwa [setBx_self (box_of_get hb)] at hok
theorem g_mark {gl:Globs} (hgl:GlobOk gl N0 w0) (k:Ok (N0:=N0) w0 g e a.tmps h w) {s el:TypeId} {x:Operand} (ho:o.op=.convert s s x) (hu:P.underlying s=some (.slice el)) (he:P.underlying el=some (.int .u8)) {x':Opnd} (hx:cOpnd gl x=some x')
  (hs:step orc base draw (.gen .mark [x']) e h=some (v,e',h')):Gives N0 P w0 g a w (execOp a.eval o) v e' h':=by
 simp only [step,evs,Option.bnd_eq_some_iff,Option.some.injEq,Prod.mk.injEq] at hs
 obtain ⟨vs,⟨p,hp,_,rfl,rfl⟩,r,hr,rfl,rfl,rfl⟩:=hs
 simp only [genV] at hr
 split at hr
 ·rename_i f b off len sz
  simp only [Option.bnd_eq_some_iff,Option.some.injEq] at hr
  obtain ⟨cs,hcs,rfl⟩:=hr
  have h1:=rv_ev hgl k hx hp
  generalize hA:a.eval x=A at h1
  cases h1
  rename_i cap hb hl hfull hcpb
  obtain ⟨n,w1,⟨T,hsh⟩,hfr,hext,hok⟩:=ok_mark k hcs
  have hrun:(convert s s (.slice (some ⟨g.ι b,off,none⟩) len cap)).run P w=.ok (.slice (some ⟨g.ι b,off,none⟩) len cap) w1:=by
   rw [←hfr]
   simp [convert,run_underlying hu,run_underlying he,markStringish,hsh]
  refine ⟨_,.slice (some ⟨g.ι b,off,none⟩) len cap,w1,g,?_,.inl rfl,hext,hok,.bsl f b off len sz cap hb hl hfull hcpb⟩
  simp only [execOp,ho,hA,Sem.run_bind,hrun,Result.andThen,Sem.run_pure]
 ·cases hr
end
end Go.Am
namespace Go.Am
open Go.RowKit (Below)
set_option linter.unusedVariables false
set_option linter.unusedSimpArgs false
set_option linter.unusedSectionVars false
section
variable {N0:Nat} {P:Program} {w0:World} {g:G} {e:Env} {a:Act} {h:Hp} {w:World}
variable {o:Oper} {orc:Orc} {base:Nat} {draw:Bool} {v:PV} {e':Env} {h':Hp} {gl:Globs}
theorem flat_get {sz:Nat}:∀ (es:List PV),(∀ x∈es,x.cells.length=sz)→(es.flatMap PV.cells).length=es.length * sz ∧
  ∀ (q:Nat) (y:PV),(es.flatMap PV.cells)[q]?=some y→∃ (i j:Nat) (x:PV),es[i]?=some x∧x.cells[j]?=some y∧q=i * sz+j
 | [],_=>⟨by simp,fun q y hy=>by simp at hy⟩
 | x :: es,hx=>by
  obtain ⟨h1,h2⟩:=flat_get es fun y hy=>hx y (by simp [hy])
  have hl:=hx x (by simp)
  refine ⟨by rw [List.flatMap_cons,List.length_append,h1,hl,List.length_cons,Nat.succ_mul];omega,fun q y hy=>?_⟩
  rw [List.flatMap_cons] at hy
  by_cases hq:q < x.cells.length
  ·rw [List.getElem?_append_left hq] at hy
   exact ⟨0,q,x,rfl,hy,by omega⟩
  ·rw [List.getElem?_append_right (by omega)] at hy
   obtain ⟨i,j,x',a1,a2,a3⟩:=h2 _ y hy
   exact ⟨i+1,j,x',by simpa using a1,a2,by rw [Nat.succ_mul];omega⟩
def Flat (N0:Nat) (g:G) (w:World) (cs:List PV) (us:Array Value):Prop:=us.size=cs.length∧∀ (j:Nat) (x:PV),cs[j]?=some x→RV N0 g w x (us.getD j Go.undef)
theorem flat_of {sz:Nat} {es:List PV} {us:Array Value} (hh:Holds N0 g w sz es us):Flat N0 g w (es.flatMap PV.cells) us:=by
 obtain ⟨f1,f2⟩:=flat_get (sz:=sz) es fun x hx=>by
  obtain ⟨i,hi⟩:=List.getElem?_of_mem hx
  exact hh.2.1 i x hi
 refine ⟨by rw [f1,hh.1],fun q y hy=>?_⟩
 obtain ⟨i,j,x,a1,a2,rfl⟩:=f2 q y hy
 exact hh.2.2 i j x y a1 a2
theorem flat_app {cs ds:List PV} {us vs:Array Value} (h1:Flat N0 g w cs us) (h2:Flat N0 g w ds vs):Flat N0 g w (cs ++ ds) (us ++ vs):=by
 refine ⟨by simp [h1.1,h2.1],fun j x hx=>?_⟩
 rw [Array.getD_eq_getD_getElem?]
 by_cases hj:j < cs.length
 ·rw [List.getElem?_append_left hj] at hx
  rw [Array.getElem?_append_left (by rw [h1.1];exact hj),←Array.getD_eq_getD_getElem?]
  exact h1.2 j x hx
 ·rw [List.getElem?_append_right (by omega)] at hx
  rw [Array.getElem?_append_right (by rw [h1.1];omega),←Array.getD_eq_getD_getElem?,h1.1]
  exact h2.2 _ x hx
theorem flat_val {cs:List PV} {us:Array Value} (hf:Flat N0 g w cs us) (hs:cs.all scalar=true):∀ u∈us.toList,(∀ l,u≠.agg l)∧(∀ l,u≠.tuple l):=by
 intro u hu
 obtain ⟨j,hj⟩:=List.getElem?_of_mem hu
 rw [Array.getElem?_toList] at hj
 have hjl:j < cs.length:=by rw [←hf.1];exact (Array.getElem?_eq_some_iff.1 hj).1
 have hsc:=List.all_eq_true.1 hs _ (List.getElem_mem hjl)
 have hrv:=hf.2 j _ (List.getElem?_eq_getElem hjl)
 rw [Array.getD_eq_getD_getElem?,hj,Option.getD_some] at hrv
 generalize cs[j]=y at hrv hsc
 constructor
 ·intro l hq;subst hq;cases hrv;simp [scalar] at hsc;simp [scalar] at hsc
 ·intro l hq;subst hq;cases hrv;simp [scalar] at hsc;simp [scalar] at hsc
theorem all_flat {sz:Nat} {xs:List PV} (hf:xs.all (fits sz)=true):xs.all (fun x=>x.cells.length == sz)=true∧(xs.flatMap PV.cells).all scalar=true:=by
 rw [List.all_eq_true] at hf
 constructor
 ·rw [List.all_eq_true]
  intro x hx
  have:=hf x hx
  simp only [fits,Bool.and_eq_true] at this
  exact this.1
 ·rw [List.all_eq_true]
  intro y hy
  obtain ⟨x,hx,hy⟩:=List.mem_flatMap.1 hy
  have:=hf x hx
  simp only [fits,Bool.and_eq_true] at this
  exact List.all_eq_true.1 this.2 y hy
theorem g_appK (hgl:GlobOk gl N0 w0) (k:Ok (N0:=N0) w0 g e a.tmps h w) {c:Go.Call} (ho:o.op=.call c) (hb:c.callee=.builtin .append) {s x:Operand} {t u el:TypeId} (hargs:c.args=#[s,x]) (htys:c.argTypes=#[t,u])
  (ht:P.underlying t=some (.slice el)) (hu:P.underlying u=some .string∨∃ el',P.underlying u=some (.slice el')) {sz:Nat} (hsz:sizeOf P el=some sz) (hsm:smallBytes P el=true) (hpos:sz≠0) {z:List PV} (hz:zeroOf P el=some z) (hzl:z.length=sz)
  {s' x':Opnd} (hs':cOpnd gl s=some s') (hx':cOpnd gl x=some x')
  (hs:step orc base draw (.gen (.appK sz) [s',x']) e h=some (v,e',h')):Gives N0 P w0 g a w (execOp a.eval o) v e' h':=by
 simp only [step,evs,Option.bnd_eq_some_iff,Option.some.injEq,Prod.mk.injEq] at hs
 obtain ⟨_,⟨p,hp,_,⟨q,hq,_,rfl,rfl⟩,rfl⟩,r,hr,rfl,rfl,rfl⟩:=hs
 simp only [genV,Option.bnd_eq_some_iff] at hr
 obtain ⟨xs,hxs,l,hl,hr⟩:=hr
 obtain ⟨i,zv,hi,hiz,hzsz,_⟩:=rv_zero (N0:=N0) hz
 have hisz:i.size=sz:=by simp only [sizeOf,Option.map_eq_some_iff] at hsz;obtain ⟨i',e1,e2⟩:=hsz;rw [hi] at e1;cases e1;exact e2
 have hbytes:i.bytes≤4096:=by simp only [smallBytes,hi,decide_eq_true_eq] at hsm;exact hsm
 split at hr
 ·rename_i hx0
  subst hx0
  simp only [Option.some.injEq] at hr
  subst hr
  obtain ⟨h1,hlen,⟨news,hnew,hold2⟩,hrun⟩:=append_args (P:=P) hgl k ho hb hargs htys hpos hs' hx' hp hq hxs rfl
  obtain ⟨b,n,cap,hc,hA⟩ : ∃ b n cap,n≤cap∧a.eval s=.slice b n cap:=by
   generalize a.eval s=A at h1
   unfold leftK at hl
   cases h1 <;> (try simp only at hl) <;> (try (cases hl;done))
   case nils=>exact ⟨none,0,0,Nat.le_refl _,rfl⟩
   case sl ow sz' es' c' o' cap uu q1 q2 q3 q4 q5 q6 q7 q8 q9=>exact ⟨_,_,_,q1,rfl⟩
   case bsl f b off len sz' cap q1 q2 q3 q4=>exact ⟨_,_,_,q2,rfl⟩
  have hr0:=hrun (.slice b n cap) w (by rw [hA];exact append_none ht hu hi b n cap hc (a.eval x) hlen news (by rw [hold2.1];simp) (by rw [hisz];exact hnew w (.inl rfl)))
  exact gives_pure k hr0 (by rw [←hA];exact h1)
 ·rename_i hxne
  split at hr
  ·rename_i hall
   obtain ⟨hfits,hlim,hlsc⟩:=hall
   obtain ⟨hall,hxsc⟩:=all_flat hfits
   have hx0:0 < xs.length:=List.length_pos_iff.2 hxne
   simp only [Option.some.injEq] at hr
   subst hr
   obtain ⟨h1,hlen,⟨news,hnew,hold2⟩,hrun⟩:=append_args (P:=P) hgl k ho hb hargs htys hpos hs' hx' hp hq hxs hall
   have hfn:=flat_of hold2
   unfold lim2 at hlim
   have hsz2:size l.2.2=size h:=(leftK_grows (base:=0) hl).2
   -- where there is no room
   have grown:∀ (bb:Option Addr) (cap:Nat) (olds:Array Value),a.eval s=.slice bb l.1 cap→cap < l.1+xs.length→l.2.1.length=l.1 * sz→Flat N0 g w l.2.1 olds →
     (∀ w1:World,w1=w∨w1=w.drew→(Builtin.firstCells sz l.1 (.slice bb l.1 cap)).run P w1=.ok olds w1)→Ok (N0:=N0) w0 g e a.tmps l.2.2 w →
     Gives N0 P w0 g a w (execOp a.eval o) (.bsl false (size h) 0 (l.1+xs.length) sz) e (ext l.2.2 [.cells (l.2.1 ++ xs.flatMap PV.cells)]):=by
    intro bb cap olds hA hcap hll hfo hold k2
    have hfit:Builtin.nextslicecap (l.1+xs.length) cap * i.bytes≤281474976710656:=by
     apply growslice_fits hcap
     have:(l.1+xs.length) * i.bytes≤17179869184 * 4096:=Nat.mul_le_mul hlim hbytes
     omega
    have hr:=append_grow (ty:=o.type) ht hu hi hiz bb l.1 cap (a.eval x) xs.length hcap hlen olds news (by rw [hisz];exact hold) (by rw [hisz];exact hnew) (by omega) hfit
    have hcp2:l.1+xs.length≤grownCap w (l.1+xs.length) cap el:=grown_le _ _ _ _
    have hflat:=flat_app hfo hfn
    let us:Array Value:=olds ++ news ++ Builtin.zeroCells zv.cells (grownCap w (l.1+xs.length) cap el - (l.1+xs.length))
    have husz:us.size=grownCap w (l.1+xs.length) cap el * sz:=by
     simp only [us,Array.size_append,hfo.1,hll,hold2.1,Builtin.zeroCells,Array.size_map,Array.size_range]
     rw [hzsz,hzl,←Nat.add_mul,←Nat.add_mul]
     congr 1
     omega
    obtain ⟨g',hx1,hok,hn,hι,hcp⟩:=ok_alloc k2 us el (l.2.1 ++ xs.flatMap PV.cells) (by rw [←hflat.1];simp only [us,Array.size_append];omega) (fun j y hy=>by
     have hj:j < (olds ++ news).size:=by rw [hflat.1];exact (List.getElem?_eq_some_iff.1 hy).1
     have:=hflat.2 j y hy
     rw [Array.getD_eq_getD_getElem?] at this ⊢
     simp only [us]
     rw [Array.getElem?_append_left hj]
     exact this) (fun T' hT=>by
      have hall2:(l.2.1 ++ xs.flatMap PV.cells).all scalar=true:=by rw [List.all_append,hlsc,hxsc];rfl
      exact (nb_scalar hall2 0 T' hT).elim) (lo:=0) (hi:=0) (by simp) (.inr rfl)
    refine ⟨_,.slice (some ⟨w.heap.size,0,none⟩) (l.1+xs.length) (grownCap w (l.1+xs.length) cap el),_,g',?_,.inl rfl,hx1,hok,?_⟩
    ·exact hrun _ _ (by rw [hA];exact hr)
    ·have:=RV.bsl (N0:=N0) (g:=g') (w:=w.drew.alloc (.cells us el)) false (size l.2.2) 0 (l.1+xs.length) sz (grownCap w (l.1+xs.length) cap el) (by omega) hcp2 (by simp) (by rw [hcp,husz];omega)
     rw [hι,hsz2] at this
     exact this
   unfold leftK at hl
   generalize hA:a.eval s=A at h1 grown hrun
   cases h1 <;> (try simp only at hl) <;> (try (cases hl;done))
   case nils =>
    simp only [Option.some.injEq] at hl
    subst hl
    exact grown none 0 #[] rfl (by simpa using hx0) (by simp) ⟨by simp,fun j x hx=>by simp at hx⟩ (fun w1 _=>by simp [Builtin.firstCells]) k
   case sl ow sz' es c' o' cap uu q1 q2 q3 q4 q5 q6 q7 q8 q9 =>
    cases ow <;> (try simp only at hl) <;> (try (cases hl;done))
    case full =>
     split at hl
     ·rename_i hsz'
      subst hsz'
      simp only [Option.some.injEq] at hl
      subst hl
      have hcap:=q2 rfl
      subst hcap
      obtain ⟨olds,hfo,hho,hval⟩:=holds_of (P:=P) (g:=g) (w:=w) hpos q3 q4 q5 q8 es.length es.length
      exact grown _ es.length olds rfl (by omega) (flat_get es fun x hx=>by obtain ⟨i,hi⟩:=List.getElem?_of_mem hx;exact q3 i x hi).1 (flat_of hho) hfo k
     ·cases hl
   case bsl f b off len sz' cap hb' hlc hfull hcpb =>
    simp only [Option.bnd_eq_some_iff] at hl
    obtain ⟨cs,hcs,hl⟩:=hl
    split at hl
    ·rename_i hcond
     obtain ⟨rfl,rfl,hle⟩:=hcond
     simp only [Option.some.injEq] at hl
     subst hl
     obtain ⟨b1,b2,arr,T,lo,hi',b3,b4,⟨b5,b6⟩,b7,b8⟩:=k.cells hcs
     have hlt:len * sz'≤arr.size:=by omega
     have hll:(cs.take (len * sz')).length=len * sz':=by rw [List.length_take];omega
     have hcell:∀ j,j < len * sz'→w.cell? ⟨g.ι b,j,none⟩=some (arr.getD j Go.undef):=by
      intro j hj
      have:j < arr.size:=by omega
      simp [World.cell?,b3,Array.getD_eq_getD_getElem?,this]
     obtain ⟨olds,ho1,ho2,ho3⟩ : ∃ olds:Array Value,olds.size=len * sz'∧(∀ j,j < len * sz'→olds.getD j Go.undef=arr.getD j Go.undef) ∧
       ∀ w1:World,w1=w∨w1=w.drew→(Builtin.firstCells sz' len (.slice (some ⟨g.ι b,0,none⟩) len cap)).run P w1=.ok olds w1:=by
      refine ⟨((List.range (len * sz')).map fun q=>arr.getD q Go.undef).toArray,by simp,fun j hj=>by simp [Array.getD_eq_getD_getElem?,hj],fun w1 hw1=>?_⟩
      simp only [Builtin.firstCells]
      refine run_loadCells (P:=P) w1 ⟨g.ι b,0,none⟩ _ (fun q=>arr.getD q Go.undef) (fun q hq=>?_)
      rw [add_addr,Nat.zero_add]
      rcases hw1 with rfl | rfl
      ·exact hcell q hq
      ·exact hcell q hq
     have hfo:Flat N0 g w (cs.take (len * sz')) olds:=by
      refine ⟨by rw [ho1,hll],fun j x hx=>?_⟩
      have hj:j < len * sz':=by rw [←hll];exact (List.getElem?_eq_some_iff.1 hx).1
      rw [ho2 j hj]
      rw [List.getElem?_take,if_pos hj] at hx
      exact b8 j x hx
     have hι:=(k.box b _ (box_of_get hcs)).blk
     have hιsz:g.ι b < w.heap.size:=hι.2
     by_cases hroom:len+xs.length≤cap
     ·-- in place
      have hmul:(len+xs.length) * sz'≤cap * sz':=Nat.mul_le_mul_right _ hroom
      rw [Nat.add_mul] at hmul
      have e2:=hold2.1
      have hfit2:len * sz'+news.toList.length≤arr.size:=by rw [Array.length_toList,e2];omega
      obtain ⟨w1,arr',s1,s2,s3,s4,s5,s6,s7⟩:=store_raw (P:=P) (N0:=N0) (off:=len * sz') news.toList 0 w arr b3 (by omega) (fun hlh=>.inr (by have:=b4 (Nat.ne_of_lt hlh);omega)) (flat_val hfn hxsc) b1
      have hr:=append_room (ty:=o.type) ht hu hi ⟨g.ι b,0,none⟩ len cap (a.eval x) xs.length hroom hlen news (by rw [hisz];exact hnew w (.inl rfl)) (w1:=w1) (by rw [hisz,add_addr,Nat.zero_add];exact s1)
      have hx1:Ext N0 g w g w1:=by
       refine ⟨Nat.le_refl _,fun _ _=>rfl,fun d m hm=>⟨m,hm,Nat.le_refl _⟩,fun d m q hm _=>?_,fun d q hd=>?_,fun _ _=>⟨Nat.le_refl _,fun _=>rfl⟩,fun _ _=>rfl⟩
       ·have hd:d≠g.ι b:=by rintro rfl;rw [b2] at hm;cases hm
        simp only [World.cell?,s5 d hd]
       ·simp only [World.cell?,s5 d (by omega)]
      have k1:Ok (N0:=N0) w0 g e a.tmps (setBx h b .dead) w1 :=
       ok_setbox k (box_of_get hcs) hx1 rfl s6 (.inl rfl) (fun d _ hd=>⟨s5 d hd,rfl⟩) (fun _ _=>rfl) ⟨b1,by rw [s4];exact hιsz⟩ (fun d m hm=>by have:=k.arr d m hm;exact ⟨this.1,by rw [s4];exact this.2⟩)
      have hlt':b < size h:=lt_of_box (box_of_get hcs)
      obtain ⟨g',hx2,hok,hn,hι2,hcp2,_,_⟩:=ok_addbox k1 (c:=g.ι b) (cs:=cs.take (len * sz') ++ xs.flatMap PV.cells) (cpv:=g.cp b) (fun d y hy hyd hq=>by
       by_cases hdb:d=b
       ·subst hdb
        rw [box_set_eq hlt'] at hy
        cases hy
        exact hyd rfl
       ·rw [box_set_ne (fun q=>hdb q.symm)] at hy
        exact hdb (k.inj d b y _ hy (box_of_get hcs) hyd (by simp) hq)) (fun g' hx2 hι2 hhw2 hcp2=>by
       have hlen2:(cs.take (len * sz') ++ xs.flatMap PV.cells).length=len * sz'+xs.length * sz':=by rw [List.length_append,hll,←hfn.1,e2]
       refine ⟨by rw [hι2];exact b1,by rw [hι2,hhw2];exact b2,arr',T,lo,hi',by rw [hι2];exact s2,by rw [s3];exact b4,⟨by rw [hlen2,s3];omega,by rw [hcp2,s3];exact b6⟩,fun T' hT=>?_,fun j y hy=>?_⟩
       ·have hall2:(cs.take (len * sz') ++ xs.flatMap PV.cells).all scalar=true:=by rw [List.all_append,hlsc,hxsc];rfl
        exact (nb_scalar hall2 0 T' hT).elim
       ·have hxx:=hx1.trans hx2
        have hj:j < len * sz'+xs.length * sz':=by rw [←hlen2];exact (List.getElem?_eq_some_iff.1 hy).1
        rw [Array.getD_eq_getD_getElem?,s7]
        by_cases hjl:j < len * sz'
        ·rw [if_neg (by omega)]
         rw [List.getElem?_append_left (by rw [hll];exact hjl),List.getElem?_take,if_pos hjl] at hy
         rw [←Array.getD_eq_getD_getElem?]
         exact (b8 j y hy).mono hxx
        ·rw [if_pos (by rw [Array.length_toList,e2];omega)]
         rw [List.getElem?_append_right (by rw [hll];omega),hll] at hy
         rw [Nat.add_zero,Array.getElem?_toList,←Array.getD_eq_getD_getElem?]
         exact (hfn.2 _ y hy).mono hxx)
      rw [size_setBx] at hι2 hn hcp2
      refine ⟨_,.slice (some ⟨g.ι b,0,none⟩) (len+xs.length) cap,w1,g',hrun _ _ hr,.inl rfl,hx1.trans hx2,hok,?_⟩
      have:=RV.bsl (N0:=N0) (g:=g') (w:=w1) false (size h) 0 (len+xs.length) sz' cap (by omega) hroom (by simp) (by rw [hcp2];exact hcpb)
      rw [hι2] at this
      exact this
     ·-- a new array
      have k2:Ok (N0:=N0) w0 g e a.tmps (setBx h b .dead) w :=
       ok_setbox k (box_of_get hcs) (Ext.refl _ _ _) rfl (Below.refl _ _) (.inl rfl) (fun d _ _=>⟨rfl,rfl⟩) (fun _ _=>rfl) ⟨b1,hιsz⟩ k.arr
      exact grown _ cap olds rfl (by omega) hll hfo ho3 k2
    ·cases hl
  ·cases hr
end
end Go.Am
namespace Go.Am
open Go.RowKit (Below)
set_option linter.unusedVariables false
set_option linter.unusedSimpArgs false
set_option linter.unusedSectionVars false
section
variable {N0:Nat} {P:Program} {w0:World} {g:G} {e:Env} {a:Act} {h:Hp} {w:World}
variable {o:Oper} {md:Nat} {orc:Orc} {base:Nat} {draw:Bool} {aop:AOp} {v:PV} {e':Env} {h':Hp} {gl:Globs} (hgl:GlobOk gl N0 w0)
include hgl
theorem g_toInt (k:Ok (N0:=N0) w0 g e a.tmps h w) {s d:TypeId} {x:Operand} {j kk:IntKind} (ho:o.op=.convert s d x) (hs0:P.underlying s=some (.int j)) (hd:P.underlying d=some (.int kk)) {x':Opnd} (hx:cOpnd gl x=some x')
  (hs:step orc base draw (.toInt kk x') e h=some (v,e',h')):Gives N0 P w0 g a w (execOp a.eval o) v e' h':=by
 simp only [step,Option.bnd_eq_some_iff] at hs
 obtain ⟨p,hp,hs⟩:=hs
 have h1:=rv_ev hgl k hx hp
 generalize hA:a.eval x=A at h1
 cases h1 <;> (try simp only at hs) <;> (try cases hs)
 rename_i q n
 refine gives_pure k ?_ (.int _ _)
 have hrun:(convert s d (.int q n)).run P w=.ok (.int kk (kk.wrap n)) w:=by
  simp only [convert,Sem.run_bind,run_underlying hs0,run_underlying hd,Result.andThen,Conv.intToInt,Sem.run_pure]
 simp only [execOp,ho,hA,Sem.run_bind,hrun,Result.andThen,Sem.run_pure]
theorem g_all (k:Ok (N0:=N0) w0 g e a.tmps h w) (hc:cOp P gl md o=some aop) (hn:isCall aop=false)
  (hs:step orc base draw aop e h=some (v,e',h')):Gives N0 P w0 g a w (execOp a.eval o) v e' h':=by
 cases ho:o.op with
 | move x=>exact g_mov hgl k (.inl ho) hc hs
 | assign x=>exact g_mov hgl k (.inr ho) hc hs
 | pick c x y=>exact g_pick hgl k ho hc hs
 | alloc t=>exact g_alloc hgl k ho hc hs
 | box t x=>exact g_box hgl k ho hc hs
 | build t ps=>exact g_build hgl k ho hc hs
 | buildSlice t l ps =>
  by_cases hmd:md=1
  ·simp only [cOp,ho,hmd,if_true] at hc
   split at hc
   ·rename_i el hu
    split at hc
    ·rename_i hsz
     simp only [Option.bind_eq_some_iff] at hc
     obtain ⟨z,hz,lp,hlp,lc,hlc,cs,hcs,hc⟩:=hc
     split at hc
     ·rename_i hcond
      simp only [Bool.and_eq_true,decide_eq_true_eq,beq_iff_eq,ne_eq] at hcond
      cases hc
      exact g_sliceBox hgl k ho hu hsz hz hlp hlc hcs hcond.1.1.1.1 hcond.1.1.1.2 hcond.1.1.2 hcond.1.2 hcond.2 hs
     ·cases hc
    ·cases hc
   ·cases hc
  ·exact g_buildSl hgl k ho hmd hc hs
 | load t x=>exact g_load hgl k ho hc hs
 | store t x y=>exact g_store hgl k ho hc hs
 | nilCheck x=>exact g_nilck hgl k ho hc hs
 | binOp op t x y t' =>
  simp only [cOp,ho] at hc
  split at hc
  ·simp only [Option.bind_eq_some_iff,Option.map_eq_some_iff] at hc
   obtain ⟨x',hx,y',hy,rfl⟩:=hc
   exact g_bin hgl k ho ⟨x',y',hx,hy,rfl⟩ hs
  ·simp only [Option.bind_eq_some_iff,Option.map_eq_some_iff] at hc
   obtain ⟨x',hx,y',hy,rfl⟩:=hc
   exact g_bin hgl k ho ⟨x',y',hx,hy,rfl⟩ hs
  ·rename_i hu
   split at hc
   ·rename_i hop
    simp only [Bool.and_eq_true,Bool.not_eq_true'] at hop
    simp only [Option.bind_eq_some_iff,Option.map_eq_some_iff] at hc
    obtain ⟨ks,hks,x',hx,y',hy,rfl⟩:=hc
    exact g_eqv hgl k ho hu hop.1.1 hop.1.2 hop.2 hks hx hy hs
   ·cases hc
  ·rename_i hu
   split at hc
   ·rename_i hop
    simp only [Option.bind_eq_some_iff,Option.map_eq_some_iff] at hc
    obtain ⟨x',hx,y',hy,rfl⟩:=hc
    exact g_binB hgl k ho hu hop ⟨x',y',hx,hy,rfl⟩ hs
   ·cases hc
  ·rename_i d hu _ _ _ _
   split at hc
   ·rename_i hop
    simp only [Option.bind_eq_some_iff] at hc
    obtain ⟨kd,hkd,hc⟩:=hc
    split at hc
    ·rename_i hny
     simp only [Option.map_eq_some_iff] at hc
     obtain ⟨x',hx,rfl⟩:=hc
     exact g_isnil hgl k ho ‹P.underlying t=some _› hop hkd (.inl ⟨hny,x',hx,rfl⟩) hs
    ·split at hc
     ·rename_i hnx
      simp only [Option.map_eq_some_iff] at hc
      obtain ⟨y',hy,rfl⟩:=hc
      exact g_isnil hgl k ho ‹P.underlying t=some _› hop hkd (.inr ⟨hnx,y',hy,rfl⟩) hs
     ·cases hc
   ·cases hc
  ·cases hc
 | unOp op t x=>exact g_un hgl k ho hc hs
 | convert s d x =>
  simp only [cOp,ho] at hc
  split at hc
  ·simp only [Option.map_eq_some_iff] at hc
   obtain ⟨x',hx,rfl⟩:=hc
   exact g_toInt hgl k ho ‹P.underlying s=_› ‹P.underlying d=_› hx hs
  ·simp only [Option.map_eq_some_iff] at hc
   obtain ⟨x',hx,rfl⟩:=hc
   have hus:=‹P.underlying s=_›
   have hud:=‹P.underlying d=_›
   simp only [step,Option.bnd_eq_some_iff,Option.some.injEq,Prod.mk.injEq] at hs
   obtain ⟨p,hp,r,hr,rfl,rfl,rfl⟩:=hs
   have h1:=rv_ev hgl k hx hp
   generalize hA:a.eval x=A at h1
   cases h1 <;> simp only [sliceOf] at hr
   case str l q hl =>
    simp [bd,Option.bnd] at hr
    subst hr
    refine gives_pure k ?_ (.str _ _ hl)
    have hrun:(convert s d (.string q)).run P w=.ok (.string q) w:=by
     simp only [convert,Sem.run_bind,run_underlying hus,run_underlying hud,Result.andThen,Sem.run_pure]
    simp only [execOp,ho,hA,Sem.run_bind,hrun,Result.andThen,Sem.run_pure]
   all_goals (simp at hr)
  ·split at hc
   ·simp only [Option.map_eq_some_iff] at hc
    obtain ⟨x',hx,rfl⟩:=hc
    exact g_strBytes hgl k ho ‹P.underlying s=_› ‹P.underlying d=_› ‹P.underlying _=some (.int .u8)› hx hs
   ·cases hc
  ·split at hc
   ·simp only [Option.map_eq_some_iff] at hc
    obtain ⟨x',hx,rfl⟩:=hc
    exact g_bytesStr hgl k ho ‹P.underlying s=_› ‹P.underlying _=some (.int .u8)› ‹P.underlying d=_› hx hs
   ·cases hc
  ·split at hc
   ·rename_i hsd
    simp only [Bool.and_eq_true,decide_eq_true_eq,beq_iff_eq] at hsd
    obtain ⟨rfl,rfl⟩:=hsd
    split at hc
    ·simp only [Option.map_eq_some_iff] at hc
     obtain ⟨x',hx,rfl⟩:=hc
     exact g_mark hgl k ho ‹P.underlying s=_› ‹P.underlying _=some (.int .u8)› hx hs
    ·cases hc
   ·cases hc
  ·cases hc
 | makeMap t r =>
  cases r <;> simp only [cOp,ho] at hc <;> (try cases hc)
  exact g_makeMap k ho hs
 | lookup t m x ok =>
  simp only [cOp,ho] at hc
  split at hc
  ·rename_i kt et hu
   simp only [Option.bind_eq_some_iff,Option.map_eq_some_iff] at hc
   obtain ⟨⟨ks,agg⟩,hK,z,hz,m',hm,x',hx,rfl⟩:=hc
   exact g_lookup hgl k ho hu hK hz hm hx hs
  ·cases hc
 | mapUpdate t m x y =>
  simp only [cOp,ho] at hc
  split at hc
  ·rename_i kt et hu
   simp only [Option.bind_eq_some_iff,Option.map_eq_some_iff] at hc
   obtain ⟨⟨ks,agg⟩,hK,m',hm,x',hx,y',hy,rfl⟩:=hc
   exact g_mapUpd hgl k (.inl ho) hu hK hm hx hy hs
  ·cases hc
 | insert t m x y =>
  simp only [cOp,ho] at hc
  split at hc
  ·rename_i kt et hu
   simp only [Option.bind_eq_some_iff,Option.map_eq_some_iff] at hc
   obtain ⟨⟨ks,agg⟩,hK,m',hm,x',hx,y',hy,rfl⟩:=hc
   exact g_mapUpd hgl k (.inr ho) hu hK hm hx hy hs
  ·cases hc
 | makeFunc f first cap =>
  cases f <;> simp only [cOp,ho] at hc <;> (try cases hc)
  split at hc
  ·rename_i hf
   simp only [Option.map_eq_some_iff] at hc
   obtain ⟨xs,hxs,rfl⟩:=hc
   exact g_mkfn hgl k ho hf hxs hs
  ·cases hc
 | makeSlice t len cap =>
  simp only [cOp,ho] at hc
  split at hc
  ·rename_i el hu
   simp only [Option.bind_eq_some_iff] at hc
   obtain ⟨nn,hnn,gg,hg,z,hz,hc⟩:=hc
   split at hc
   ·rename_i hcond
    simp only [Bool.and_eq_true,bne_iff_ne,ne_eq,beq_iff_eq] at hcond
    obtain ⟨⟨⟨⟨hsm,hn0⟩,hzl⟩,hzs⟩,hg1⟩:=hcond
    simp only [Option.bind_eq_some_iff,Option.map_eq_some_iff] at hc
    obtain ⟨l',hl,c',hcc,rfl⟩:=hc
    exact g_makeSl hgl k ho hu hnn hsm hn0 hz hzl hl hcc hs
   ·cases hc
  ·cases hc
 | range t x =>
  simp only [cOp,ho] at hc
  split at hc
  ·simp only [Option.map_eq_some_iff] at hc
   obtain ⟨x',hx,rfl⟩:=hc
   exact g_range hgl k ho ‹_› hx hs
  ·cases hc
 | next x b =>
  simp only [cOp,ho] at hc
  split at hc
  ·rename_i hb
   subst hb
   simp only [Option.map_eq_some_iff] at hc
   obtain ⟨x',hx,rfl⟩:=hc
   exact g_next hgl k ho hx hs
  ·cases hc
 | typeAssert x xt t ok =>
  simp only [cOp,ho] at hc
  split at hc
  ·cases hc
  ·rename_i d hd hu
   simp only [Option.bind_eq_some_iff,Option.map_eq_some_iff] at hc
   obtain ⟨z,hz,x',hx,rfl⟩:=hc
   exact g_tassert hgl k ho hu (fun ms hq=>by subst hq;exact hd _ rfl) hz hx hs
  ·cases hc
 | makeInterface t x=>exact g_mkif hgl k ho hc hs
 | slice t x lo hi mx=>exact g_slice hgl k ho hc hs
 | fieldAddr t x f=>exact g_fieldA hgl k ho hc hs
 | field t x f=>exact g_field hgl k ho hc hs
 | indexAddr t x y=>exact g_idxA hgl k ho hc hs
 | index t x y=>exact g_idx hgl k ho hc hs
 | extract x i=>exact g_extract hgl k ho hc hs
 | call c =>
  have hc':cCall P gl md c o.type=some aop:=by simpa only [cOp,ho] using hc
  cases hcal:c.callee with
  | value f =>
   simp only [cCall,hcal] at hc'
   cases f <;> simp only at hc' <;> (try cases hc')
   all_goals
    simp only [Option.map_eq_some_iff] at hc'
    obtain ⟨xs,_,rfl⟩:=hc'
    simp [isCall] at hn
  | invoke r m=>simp only [cCall,hcal] at hc';cases hc'
  | builtin b =>
   cases b <;> (try (simp only [cCall,hcal] at hc';cases hc';done))
   case len=>exact g_len hgl k ho hcal hc' (fun x t kt et x' hargs htys hu hx ha=>by subst ha;exact g_mapLen hgl k ho hcal hargs htys hu hx hs) hs
   case copy =>
    simp only [cCall,hcal] at hc'
    split at hc'
    ·rename_i d x t ty hax hat
     split at hc'
     ·rename_i el hu
      split at hc'
      ·rename_i hsz
       simp only [Option.bind_eq_some_iff,Option.map_eq_some_iff] at hc'
       obtain ⟨x',hx,d',hd,rfl⟩:=hc'
       exact g_copy hgl k ho hcal (by rw [←Array.toList_inj,hax]) (by rw [←Array.toList_inj,hat]) hu hsz hd hx hs
      ·cases hc'
     ·cases hc'
    ·cases hc'
   case delete =>
    simp only [cCall,hcal] at hc'
    split at hc'
    ·rename_i m x t ty hax hat
     split at hc'
     ·rename_i kt et hu
      simp only [Option.bind_eq_some_iff,Option.map_eq_some_iff] at hc'
      obtain ⟨⟨ks,agg⟩,hK,m',hm,x',hx,rfl⟩:=hc'
      exact g_mapDel hgl k ho hcal (by rw [←Array.toList_inj,hax]) (by rw [←Array.toList_inj,hat]) hu hK hm hx hs
     ·cases hc'
    ·cases hc'
   case max =>
    simp only [cCall,hcal,Option.map_eq_some_iff] at hc'
    obtain ⟨xs,hxs,rfl⟩:=hc'
    exact g_minmax (mx:=true) hgl k ho hcal ⟨xs,hxs,rfl⟩ hs
   case min =>
    simp only [cCall,hcal,Option.map_eq_some_iff] at hc'
    obtain ⟨xs,hxs,rfl⟩:=hc'
    exact g_minmax (mx:=false) hgl k ho hcal ⟨xs,hxs,rfl⟩ hs
   case append =>
    simp only [cCall,hcal] at hc'
    split at hc'
    ·rename_i s x t u hax hat
     have hargs:c.args=#[s,x]:=by rw [←Array.toList_inj,hax]
     have htys:c.argTypes=#[t,u]:=by rw [←Array.toList_inj,hat]
     have fin:∀ el,P.underlying t=some (.slice el)→(P.underlying u=some .string∨∃ el',P.underlying u=some (.slice el')) →
       ((sizeOf P el).bind fun sz=>if (smallBytes P el && sz != 0 && (zeroOf P el).any (fun z=>z.length == sz))=true then (cOpnd gl x).bind fun x'=>(cOpnd gl s).map fun s'=>if md=1 then AOp.appendBox sz s' x' else if md=2 then AOp.append sz s' x' else if md=3 then AOp.gen (.appK sz) [s',x'] else AOp.appendT el sz s' x' else none)=some aop →
       Gives N0 P w0 g a w (execOp a.eval o) v e' h':=by
      intro el ht hu hq
      simp only [Option.bind_eq_some_iff] at hq
      obtain ⟨sz,hsz,hq⟩:=hq
      split at hq
      ·rename_i hcond
       simp only [Bool.and_eq_true,bne_iff_ne,ne_eq] at hcond
       obtain ⟨⟨hsm,hpos⟩,hz⟩:=hcond
       obtain ⟨z,hz,hzl⟩ : ∃ z,zeroOf P el=some z∧z.length=sz:=by
        cases hq0:zeroOf P el with
        | none=>rw [hq0] at hz;simp at hz
        | some z=>rw [hq0] at hz;simp at hz;exact ⟨z,rfl,hz⟩
       simp only [Option.bind_eq_some_iff,Option.map_eq_some_iff] at hq
       obtain ⟨x',hx,s',hs',rfl⟩:=hq
       by_cases h1:md=1
       ·rw [if_pos h1] at hs
        exact g_appendBox hgl k ho hcal hargs htys ht hu hsz hsm hpos hz hzl hs' hx hs
       ·rw [if_neg h1] at hs
        by_cases h2:md=2
        ·rw [if_pos h2] at hs
         exact g_append hgl k ho hcal hargs htys ht hu hsz hsm hpos hz hzl hs' hx hs
        ·rw [if_neg h2] at hs
         by_cases h3:md=3
         ·rw [if_pos h3] at hs
          exact g_appK hgl k ho hcal hargs htys ht hu hsz hsm hpos hz hzl hs' hx hs
         rw [if_neg h3] at hs
         exact g_appendT hgl k ho hcal hargs htys ht hu hsz hsm hpos hz hzl hs' hx hs
      ·cases hq
     split at hc'
     ·exact fin _ ‹P.underlying t=_› (.inr ⟨_,‹P.underlying u=_›⟩) hc'
     ·exact fin _ ‹P.underlying t=_› (.inl ‹P.underlying u=_›) hc'
     ·cases hc'
    ·cases hc'
 | _=>simp only [cOp,ho] at hc;cases hc
end
end Go.Am
namespace Go.Am
open Go.RowKit (Below)
set_option linter.unusedVariables false
set_option linter.unusedSimpArgs false
set_option linter.unusedSectionVars false
section
variable {N0:Nat} {P:Program} {w0:World} {g:G} {e:Env} {a:Act} {h:Hp} {w:World} {gl:Globs} {ds:List Deferred}
abbrev OkH (N0:Nat) (w0:World) (g:G) (h:Hp) (w:World):Prop:=Ok (N0:=N0) w0 g [] #[] h w
theorem Ok.heap {tm:Array Value} (k:Ok (N0:=N0) w0 g e tm h w):OkH N0 w0 g h w:=⟨k.n,k.hN,k.below,k.inj,k.box,k.arr,fun t v hv=>by simp [look] at hv⟩
theorem Ok.frame {tm:Array Value} {g':G} {h':Hp} {w':World} (k:Ok (N0:=N0) w0 g e tm h w) (k':OkH N0 w0 g' h' w') (x:Ext N0 g w g' w'):Ok (N0:=N0) w0 g' e tm h' w' :=
 ⟨k'.n,k'.hN,k'.below,k'.inj,k'.box,k'.arr,fun t v hv=>(k.env t v hv).mono x⟩
def Ansr (P:Program) (f:FuncId) (us:Array Value) (w:World) (R:Ending→World→Prop):Prop :=
 ((callFunc f us).run P w=.ok (.enter f us) w∧Calls P f us w R)∨∃ v w',(callFunc f us).run P w=.ok (.value v) w'∧R (.returned v) w'
theorem Ansr.mono {P:Program} {f:FuncId} {us:Array Value} {w:World} {R R':Ending→World→Prop} (h:Ansr P f us w R) (hm:∀ e w',R e w'→R' e w'):Ansr P f us w R':=by
 rcases h with ⟨h1,h2⟩ | ⟨v,w',h1,h2⟩
 ·exact .inl ⟨h1,h2.mono hm⟩
 ·exact .inr ⟨v,w',h1,hm _ _ h2⟩
theorem Ansr.calls {P:Program} {f:FuncId} {us:Array Value} {w:World} {R:Ending→World→Prop} (h:Ansr P f us w R) (he:(callFunc f us).run P w=.ok (.enter f us) w):Calls P f us w R:=by
 rcases h with ⟨h1,h2⟩ | ⟨v,w',h1,h2⟩
 ·exact h2
 ·rw [he] at h1;cases h1
def OrcSim (N0:Nat) (P:Program) (w0:World) (base:Nat) (orc:Orc):Prop:=∀ f vs h r h',orc f vs h=some (r,h')→base≤size h→∀ (g:G) (us:Array Value) (w:World),OkH N0 w0 g h w→us.size=vs.length →
 (∀ (j:Nat) (x:PV),vs[j]?=some x→RV N0 g w x (us.getD j Go.undef)) →
  Ansr P f us w fun en w'=>∃ u g',en=.returned u∧Ext N0 g w g' w'∧OkH N0 w0 g' h' w'∧RV N0 g' w' r u
structure Made (P:Program) (gl:Globs) (nt:Nat) (ops:Array Oper) (o:Oper) (ao:AOper):Prop where
 op:∃ box,cOpS P gl box o=some (uq ao.op)
 guard:cGuard ops o.guard=some ao.guard
 dst:ao.dst=o.dst
 ok:okDst nt o.dst=true
 call:isCall ao.op=true→isCallOp o.op=true
theorem uq_self {a:AOp} (h:notQ a=true):uq a=a:=by
 cases a <;> first | rfl | (simp [notQ] at h)
noncomputable def uqO:AOp→Orc→Orc
 | .callQ _ _,orc=>orcQ orc
 | _,orc=>orc
theorem step_uq {orc:Orc} {base:Nat} {op:AOp} {e:Env} {h:Hp} {x:PV × Env × Hp} {draw:Bool} (hs:step orc base draw op e h=some x):step (uqO op orc) base draw (uq op) e h=some x:=by
 cases op <;> try exact hs
 case loadN t n g a =>
  simp only [step,Option.bnd_eq_some_iff] at hs
  obtain ⟨q,_,v,hv,hs⟩:=hs
  simp only [uq,step,Option.bnd_eq_some_iff]
  refine ⟨v,hv,?_⟩
  split at hs
  ·split at hs
   ·cases hs
   ·exact Option.bnd_eq_some_iff.1 hs |>.elim fun cs h=>Option.bnd_eq_some_iff.2 ⟨cs,h⟩
  ·exact hs
  ·cases hs
 case storeN t n a y =>
  simp only [step,Option.bnd_eq_some_iff] at hs
  obtain ⟨q,_,v,hv,u,hu,hs⟩:=hs
  simp only [uq,step,Option.bnd_eq_some_iff]
  refine ⟨v,hv,u,hu,?_⟩
  split at hs
  ·split at hs
   ·exact Option.bnd_eq_some_iff.1 hs |>.elim fun cs h=>Option.bnd_eq_some_iff.2 ⟨cs,h⟩
   ·cases hs
  ·cases hs
 rename_i f xs
 simp only [step,Option.bnd_eq_some_iff] at hs
 obtain ⟨vs,h1,r,h2,h3⟩:=hs
 simp only [uq,uqO,step,Option.bnd_eq_some_iff]
 refine ⟨vs,h1,r,h2,?_⟩
 split at h3
 ·rename_i hq
  cases h3
  cases draw
  ·simp [hq]
  ·simp [hq]
 ·cases h3
theorem cOps_made {an:Ann} {nt id:Nat} {ops:Array Oper}:∀ (l:List Oper) (i:Nat) (r:List AOper),cOps P gl an nt id ops i l=some r→r.length=l.length∧∀ (j:Nat) (o:Oper),l[j]?=some o→∃ ao,r[j]?=some ao∧Made P gl nt ops o ao
 | [],i,r,hr=>by simp [cOps] at hr;subst hr;exact ⟨rfl,fun j o ho=>by simp at ho⟩
 | o :: l,i,r,hr=>by
  simp only [cOps,Option.bind_eq_some_iff] at hr
  obtain ⟨ao,h1,gd,h2,hr⟩:=hr
  split at hr
  ·rename_i hcond
   simp only [Bool.and_eq_true] at hcond
   simp only [Option.map_eq_some_iff] at hr
   obtain ⟨r',hr',rfl⟩:=hr
   obtain ⟨e1,e2⟩:=cOps_made l (i+1) r' hr'
   refine ⟨by simp [e1],fun j o' ho'=>?_⟩
   cases j with
   | zero=>simp at ho';subst ho';exact ⟨_,rfl,⟨_,by rw [uq_self hcond.2];exact h1⟩,h2,rfl,hcond.1.1,fun hq=>by have:=hcond.1.2;rw [hq] at this;simpa using this⟩
   | succ j=>simpa using e2 j o' (by simpa using ho')
  ·cases hr
theorem rv_undef_not {u:Value} (hr:RV N0 g w .undef u):True:=trivial
theorem isCall_uq {a:AOp} (h:isCall (uq a)=true):isCall a=true:=by cases a <;> simp_all [uq,isCall]
theorem sim_op (hgl:GlobOk gl N0 w0) (k:Ok (N0:=N0) w0 g e a.tmps h w) {nt:Nat} {ops:Array Oper} {o:Oper} {ao:AOper} (hm:Made P gl nt ops o ao) (hsz:nt≤a.tmps.size) (hd:a.defers=ds) {orc:Orc} {base:Nat} {draw:Bool} (horc:OrcSim N0 P w0 base orc) (horcq:OrcSim N0 P w0 base (orcQ orc)) (hbs:base≤size h)
  {v:PV} {e':Env} {h':Hp} (hs:step orc base draw ao.op e h=some (v,e',h')) {K:Act→World→Prop} {Q:Exit→Act→World→Prop}
  (hK:∀ g' a' w',Ext N0 g w g' w'→Ok (N0:=N0) w0 g' (putD e' ao.dst v) a'.tmps h' w'→nt≤a'.tmps.size→a'.defers=ds→K a' w'):o.wp P a w K Q:=by
 obtain ⟨box,hc⟩:=hm.op
 have hc:cOp P gl box o=some (uq ao.op):=by
  simp only [cOpS,Option.some.injEq] at hc
  cases hq:cOp P gl box o with
  | some x=>rw [hq] at hc;simpa using hc
  | none =>
   rw [hq,Option.getD_none] at hc
   have:ao.op=.stuck:=by
    cases hop:ao.op <;> rw [hop] at hc <;> simp [uq] at hc
   rw [this] at hs
   simp [step] at hs
 have he':e'=e:=step_env orc base draw (op:=ao.op) _ hs
 subst he'
 replace hs:=step_uq hs
 have horc0:OrcSim N0 P w0 base (uqO ao.op orc):=by
  cases ao.op <;> first | exact horc | exact horcq
 generalize uqO ao.op orc=orc at hs horc0
 clear horc horcq
 have horc:=horc0
 have fin:∀ (g':G) (w':World) (u:Value),Ext N0 g w g' w'→Ok (N0:=N0) w0 g' e' a.tmps h' w'→RV N0 g' w' v u→K (a.put o.dst u) w':=by
  intro g' w' u hx hok hr
  have hdst:=hm.dst
  have hokd:=hm.ok
  cases hod:o.dst with
  | none =>
   rw [hod] at hdst
   refine hK g' _ w' hx ?_ hsz hd
   rw [hdst];exact hok
  | some d =>
   rw [hod] at hdst hokd
   simp only [okDst,decide_eq_true_eq] at hokd
   refine hK g' _ w' hx ?_ (by simp only [Act.put,Array.size_setIfInBounds];exact hsz) hd
   rw [hdst]
   exact hok.put (Nat.lt_of_lt_of_le hokd hsz) hr
 by_cases hcall:isCall (uq ao.op)=false
 ·obtain ⟨nx,u,w',g',hrun,hnx,hx,hok,hr⟩:=g_all hgl k hc hcall hs
  unfold Oper.wp
  rw [hrun]
  rcases hnx with rfl | ⟨rfl,rfl⟩
  ·exact fin g' w' u hx hok hr
  ·exact fin g' w' _ hx hok hr
 ·have hcall':isCall (uq ao.op)=true:=by simpa using hcall
  cases ho:o.op with
  | call c =>
   have hc':cCall P gl box c o.type=some (uq ao.op):=by simpa only [cOp,ho] using hc
   have hexec:execOp a.eval o=(do let d ←resolve a.eval c o.type;invoke d.target d.args):=by simp only [execOp,ho]
   have call:∀ (f:FuncId) (vs:List PV) (us:Array Value) (r:PV × Hp),orc f vs h=some r→us.size=vs.length→(∀ (j:Nat) (x:PV),vs[j]?=some x→RV N0 g w x (us.getD j Go.undef)) →
     (execOp a.eval o).run P w=(callFunc f us).run P w→v=r.1→h'=r.2→o.wp P a w K Q:=by
    intro f vs us r hr hl hrel hrun hv hh
    rcases horc f vs h r.1 r.2 hr hbs g us w k.heap hl hrel with ⟨h1,h2⟩ | ⟨u,w',h1,u',g',hq,hx,hok,hru⟩
    case inr =>
     cases hq
     unfold Oper.wp
     rw [hrun,h1]
     refine fin g' w' u hx (k.frame ?_ hx) (by rw [hv];exact hru)
     rw [hh];exact hok
    unfold Oper.wp
    rw [hrun,h1,Oper.upon_enter]
    refine h2.mono fun en w' hen=>?_
    obtain ⟨u,g',rfl,hx,hok,hru⟩:=hen
    refine fin g' w' u hx (k.frame ?_ hx) (by rw [hv];exact hru)
    rw [hh];exact hok
   cases hcal:c.callee with
   | value fo =>
    simp only [cCall,hcal] at hc'
    cases fo <;> simp only at hc' <;> (try cases hc')
    case tmp t =>
     simp only [Option.map_eq_some_iff] at hc'
     obtain ⟨xs,hxs,hao⟩:=hc'
     rw [←hao] at hs
     simp only [step,Option.bnd_eq_some_iff] at hs
     obtain ⟨p,hp,hs⟩:=hs
     have hrp:=rv_ev hgl k (o:=.tmp t) rfl hp
     generalize hA:a.eval (.tmp t)=A at hrp
     cases hrp <;> simp only at hs <;> (try cases hs)
     rename_i f cap us hsz' hrc
     simp only [Option.bnd_eq_some_iff] at hs
     obtain ⟨vs,hvs,r,hr,hs⟩:=hs
     obtain ⟨l1,l2⟩:=rv_evs hgl k hxs hvs
     have hs':v=r.1∧h'=r.2:=by
      split at hs
      ·split at hs
       ·rename_i hq
        simp only [Option.some.injEq,Prod.mk.injEq] at hs
        exact ⟨hs.1.symm,by rw [hq];exact hs.2.2.symm⟩
       ·cases hs
      ·simp only [Option.some.injEq,Prod.mk.injEq] at hs
       exact ⟨hs.1.symm,hs.2.2.symm⟩
     have ls:c.args.size=vs.length:=by rw [←Array.length_toList];exact l1
     refine call f (vs ++ cap) (c.args.map a.eval ++ us) r hr (by simp [ls,hsz']) ?_ ?_ hs'.1 hs'.2
     ·intro j x hx
      by_cases hj:j < vs.length
      ·rw [List.getElem?_append_left hj] at hx
       have:=l2 j x hx
       rw [Array.getD_eq_getD_getElem?,Array.getElem?_append_left (by simp;omega)]
       simpa [List.getD_eq_getElem?_getD] using this
      ·rw [List.getElem?_append_right (by omega)] at hx
       have:=hrc _ x hx
       rw [Array.getD_eq_getD_getElem?,Array.getElem?_append_right (by simp;omega)]
       simpa [Array.getD_eq_getD_getElem?,ls] using this
     ·rw [hexec]
      simp only [resolve,hcal,hA,Deferred.ofValue,Sem.run_bind,Sem.run_pure,Result.andThen,invoke]
      simp
    case func f =>
     simp only [Option.map_eq_some_iff] at hc'
     obtain ⟨xs,hxs,hao⟩:=hc'
     rw [←hao] at hs
     simp only [step,Option.bnd_eq_some_iff] at hs
     obtain ⟨vs,hvs,r,hr,hs⟩:=hs
     obtain ⟨l1,l2⟩:=rv_evs hgl k hxs hvs
     have hs':v=r.1∧h'=r.2:=by
      split at hs
      ·split at hs
       ·rename_i hq
        simp only [Option.some.injEq,Prod.mk.injEq] at hs
        exact ⟨hs.1.symm,by rw [hq];exact hs.2.2.symm⟩
       ·cases hs
      ·simp only [Option.some.injEq,Prod.mk.injEq] at hs
       exact ⟨hs.1.symm,hs.2.2.symm⟩
     refine call f vs (c.args.map a.eval) r hr (by simp [←l1]) ?_ ?_ hs'.1 hs'.2
     ·intro j x hx
      have:=l2 j x hx
      simpa [List.getD_eq_getElem?_getD,Array.getD_eq_getD_getElem?] using this
     ·rw [hexec]
      simp only [resolve,hcal,Act.eval,Deferred.ofValue,Sem.run_bind,Sem.run_pure,Result.andThen,invoke]
      simp
   | invoke r m=>simp only [cCall,hcal] at hc';cases hc'
   | builtin b =>
    exfalso
    simp only [cCall,hcal] at hc'
    cases b <;> simp only at hc' <;> (try (cases hc';done))
    case len=>
     split at hc'
     ·split at hc' <;> first | (simp only [Option.map_eq_some_iff] at hc';obtain ⟨_,_,hq⟩:=hc';rw [←hq] at hcall';simp [isCall] at hcall') | cases hc'
     ·cases hc'
    case max=>simp only [Option.map_eq_some_iff] at hc';obtain ⟨_,_,hq⟩:=hc';rw [←hq] at hcall';simp [isCall] at hcall'
    case min=>simp only [Option.map_eq_some_iff] at hc';obtain ⟨_,_,hq⟩:=hc';rw [←hq] at hcall';simp [isCall] at hcall'
    case copy =>
     split at hc'
     ·split at hc'
      ·split at hc'
       ·simp only [Option.bind_eq_some_iff,Option.map_eq_some_iff] at hc'
        obtain ⟨_,_,_,_,hq⟩:=hc'
        rw [←hq] at hcall'
        simp [isCall] at hcall'
       ·cases hc'
      ·cases hc'
     ·cases hc'
    case delete =>
     split at hc'
     ·split at hc'
      ·simp only [Option.bind_eq_some_iff,Option.map_eq_some_iff] at hc'
       obtain ⟨_,_,_,_,_,_,hq⟩:=hc'
       rw [←hq] at hcall'
       simp [isCall] at hcall'
      ·cases hc'
     ·cases hc'
    case append =>
     split at hc'
     ·split at hc'
      all_goals first
       | cases hc'
       |(simp only [Option.bind_eq_some_iff] at hc'
         obtain ⟨sz,_,hc'⟩:=hc'
         split at hc'
         ·simp only [Option.bind_eq_some_iff,Option.map_eq_some_iff] at hc'
          obtain ⟨_,_,_,_,hq⟩:=hc'
          rw [←hq] at hcall'
          (repeat' split at hcall') <;> simp [isCall] at hcall'
         ·cases hc')
     ·cases hc'
  | _ =>
   exfalso
   have:=hm.call (isCall_uq hcall')
   rw [ho] at this
   simp [isCallOp] at this
end
end Go.Am
namespace Go.Am
open Go.RowKit (Below)
set_option linter.unusedVariables false
set_option linter.unusedSimpArgs false
set_option linter.unusedSectionVars false
section
variable {N0:Nat} {P:Program} {w0:World} {g:G} {e:Env} {a:Act} {h:Hp} {w:World} {gl:Globs} {ds:List Deferred}
theorem look_lt {tm:Array Value} (k:Ok (N0:=N0) w0 g e tm h w) {t:Nat} {b:Bool} (hl:look e t=some (.bool b)):tm[t]?=some (.bool b):=by
 have hr:=k.env t _ hl
 have:=rv_bool hr
 rw [Array.getD_eq_getD_getElem?] at this
 cases hq:tm[t]? with
 | none=>rw [hq] at this;simp [Go.undef] at this
 | some u=>rw [hq] at this;simpa using this
theorem wanted_rv (k:Ok (N0:=N0) w0 g e a.tmps h w) {ops:Array Oper} {o:Oper} {gd:Option (Nat × Bool)} (hg:cGuard ops o.guard=some gd) {b:Bool} (hw:wanted e gd=some b) :
  Region.wanted o (yielded ops a.tmps)=b:=by
 cases hog:o.guard with
 | none =>
  rw [hog] at hg
  simp only [cGuard,Option.some.injEq] at hg
  subst hg
  simp only [wanted,Option.some.injEq] at hw
  subst hw
  simp [Region.wanted,hog]
 | some q =>
  obtain ⟨j,want⟩:=q
  rw [hog] at hg
  simp only [cGuard,Option.map_eq_some_iff] at hg
  obtain ⟨d,hd,rfl⟩:=hg
  simp only [wanted,Option.bnd_eq_some_iff] at hw
  obtain ⟨v,hv,hw⟩:=hw
  cases v <;> simp only at hw <;> (try cases hw)
  case some.bool.refl b' =>
   have hy:yielded ops a.tmps j=some b':=by
    unfold yielded
    rw [hd]
    simp only [Option.bind_some,look_lt k hv]
   simp only [Region.wanted,hog,hy]
   cases b' <;> cases want <;> rfl
  case some.undef.refl =>
   have hr:=k.env d _ hv
   cases hr with
   | undef u hu =>
    simp only [Region.wanted,hog]
    have:∀ b',yielded ops a.tmps j≠some b':=by
     intro b' hq
     unfold yielded at hq
     rw [hd] at hq
     simp only [Option.bind_some] at hq
     split at hq
     ·rename_i b2 heq
      refine hu b2 ?_
      rw [Array.getD_eq_getD_getElem?,heq];rfl
     ·cases hq
    cases hq:yielded ops a.tmps j with
    | none=>rfl
    | some b'=>exact (this b' hq).elim
theorem quieten_get {ops:Array Oper} {l:List AOper}:∀ (r:List AOper) (i:Nat),(quieten ops l i r).length=r.length∧∀ (j:Nat) (x:AOper),r[j]?=some x→∃ y,(quieten ops l i r)[j]?=some y∧(y=x∨∃ f xs,x.op=.call f xs∧y={ x with op:=.callQ f xs })
 | [],i=>⟨rfl,fun j x hx=>by simp at hx⟩
 | x :: r,i=>by
  obtain ⟨h1,h2⟩:=quieten_get (ops:=ops) (l:=l) r (i+1)
  refine ⟨by simp [quieten,h1],fun j y hy=>?_⟩
  cases j with
  | zero =>
   simp at hy
   subst hy
   refine ⟨_,rfl,?_⟩
   split
   ·rename_i f xs hq
    split
    ·exact .inl rfl
    ·exact .inr ⟨f,xs,hq,rfl⟩
   ·exact .inl rfl
  | succ j=>simpa [quieten] using h2 j y (by simpa using hy)
theorem hush_get {an:Ann} {id:Nat} {ops:Array Oper}:∀ (r:List AOper) (i:Nat),(hush an id ops i r).length=r.length∧∀ (j:Nat) (x:AOper),r[j]?=some x→∃ y,(hush an id ops i r)[j]?=some y∧(y=x∨∃ f xs,x.op=.call f xs∧y={ x with op:=.callQ f xs })
 | [],i=>⟨rfl,fun j x hx=>by simp at hx⟩
 | x :: r,i=>by
  obtain ⟨h1,h2⟩:=hush_get (an:=an) (id:=id) (ops:=ops) r (i+1)
  refine ⟨by simp [hush,h1],fun j y hy=>?_⟩
  cases j with
  | zero =>
   simp at hy
   subst hy
   refine ⟨_,rfl,?_⟩
   split
   ·rename_i f xs hq
    split
    ·exact .inr ⟨f,xs,hq,rfl⟩
    ·exact .inl rfl
   ·exact .inl rfl
  | succ j=>simpa [hush] using h2 j y (by simpa using hy)
theorem made_quiet {nt:Nat} {ops:Array Oper} {o:Oper} {x y:AOper} (hm:Made P gl nt ops o x) (h:y=x∨∃ f xs,x.op=.call f xs∧y={ x with op:=.callQ f xs }):Made P gl nt ops o y:=by
 rcases h with rfl | ⟨f,xs,hq,rfl⟩
 ·exact hm
 ·obtain ⟨h1,h2,h3,h4,h6⟩:=hm
  exact ⟨by rw [hq] at h1;exact h1,h2,h3,h4,fun _=>h6 (by rw [hq];rfl)⟩
theorem uq_part (t:Nat) (a:AOp):uq (partOp t a)=uq a:=by cases a <;> rfl
theorem isCall_part (t:Nat) (a:AOp):isCall (partOp t a)=isCall a:=by cases a <;> rfl
theorem made_parts {an:Ann} {id nt:Nat} {ops:Array Oper} {l:List AOper} (h:∀ (j:Nat) (o:Oper),ops[j]?=some o→∃ ao,l[j]?=some ao∧Made P gl nt ops o ao) :
  (partOps an id l).length=l.length∧∀ (j:Nat) (o:Oper),ops[j]?=some o→∃ ao,(partOps an id l)[j]?=some ao∧Made P gl nt ops o ao:=by
 unfold partOps
 split
 ·exact ⟨rfl,h⟩
 ·rename_i t _
  refine ⟨by simp,fun j o ho=>?_⟩
  obtain ⟨ao,h1,h2⟩:=h j o ho
  exact ⟨{ ao with op:=partOp t ao.op },by simp [h1],⟨by simp only [uq_part];exact h2.op,h2.guard,h2.dst,h2.ok,by simp only [isCall_part];exact h2.call⟩⟩
theorem sim_one (hgl:GlobOk gl N0 w0) (k:Ok (N0:=N0) w0 g e a.tmps h w) {nt:Nat} {ops:Array Oper} {i:Nat} {o:Oper} {ao:AOper} (hio:ops[i]?=some o) (hm:Made P gl nt ops o ao) (hsz:nt≤a.tmps.size) (hd:a.defers=ds) {orc:Orc} {base:Nat} {draw:Bool}
  (horc:OrcSim N0 P w0 base orc) (horcq:OrcSim N0 P w0 base (orcQ orc)) (hbs:base≤size h) {e':Env} {h':Hp} (hs:exec1 orc base draw ao e h=some (e',h')) {K:Act→World→Prop} {Q:Exit→Act→World→Prop}
  (hK:∀ g' a' w',Ext N0 g w g' w'→Ok (N0:=N0) w0 g' e' a'.tmps h' w'→nt≤a'.tmps.size→a'.defers=ds→K a' w'):wpOp P ops Q i K a w:=by
 unfold exec1 at hs
 simp only [Option.bnd_eq_some_iff] at hs
 obtain ⟨b,hb,hs⟩:=hs
 unfold wpOp
 rw [hio]
 simp only [wanted_rv k hm.guard hb]
 cases b with
 | true =>
  simp only [if_true,Option.bnd_eq_some_iff,Option.some.injEq,Prod.mk.injEq] at hs ⊢
  obtain ⟨⟨v,e1,h1⟩,hst,rfl,rfl⟩:=hs
  exact .inl (sim_op hgl k hm hsz hd horc horcq hbs hst hK)
 | false =>
  simp only [Bool.false_eq_true,if_false,Option.some.injEq,Prod.mk.injEq] at hs ⊢
  obtain ⟨rfl,rfl⟩:=hs
  have hdst:=hm.dst
  have hokd:=hm.ok
  cases hod:o.dst with
  | none =>
   rw [hod] at hdst
   refine hK g _ w (Ext.refl _ _ _) ?_ hsz hd
   rw [hdst];exact k
  | some d =>
   rw [hod] at hdst hokd
   simp only [okDst,decide_eq_true_eq] at hokd
   refine hK g _ w (Ext.refl _ _ _) ?_ (by simp only [Act.put,Array.size_setIfInBounds];exact hsz) hd
   rw [hdst]
   exact k.put (Nat.lt_of_lt_of_le hokd hsz) (.undef _ (by intro b;simp [Go.undef]))
theorem sim_ops (hgl:GlobOk gl N0 w0) {nt:Nat} {ops:Array Oper} {aops:List AOper} (hmade:∀ (j:Nat) (o:Oper),ops[j]?=some o→∃ ao,aops[j]?=some ao∧Made P gl nt ops o ao) {orc:Orc} {base:Nat} {draw:Bool} (horc:OrcSim N0 P w0 base orc) (horcq:OrcSim N0 P w0 base (orcQ orc))
  (hgrow:∀ h f vs r,base≤size h→orc f vs h=some r→Grows base h r.2) {Q:Exit→Act→World→Prop} {e':Env} {h':Hp}:∀ (l:List Nat) (g:G) (e:Env) (a:Act) (h:Hp) (w:World),(∀ i∈l,i < ops.size)→aops.length=ops.size →
  Ok (N0:=N0) w0 g e a.tmps h w→nt≤a.tmps.size→a.defers=ds→base≤size h→execOps orc base draw (l.map fun i=>aops.getD i ⟨none,none,.alloc []⟩) e h=some (e',h') →
  (∀ g' a' w',Ext N0 g w g' w'→Ok (N0:=N0) w0 g' e' a'.tmps h' w'→nt≤a'.tmps.size→a'.defers=ds→Q .normal a' w')→wpOps P ops Q l a w
 | [],g,e,a,h,w,hl,hlen,k,hsz,hd,hbs,hs,hQ=>by
  simp only [List.map_nil,execOps,Option.some.injEq,Prod.mk.injEq] at hs
  obtain ⟨rfl,rfl⟩:=hs
  exact hQ g a w (Ext.refl _ _ _) k hsz hd
 | i :: l,g,e,a,h,w,hl,hlen,k,hsz,hd,hbs,hs,hQ=>by
  have hi:i < ops.size:=hl i (by simp)
  obtain ⟨ao,hao,hm⟩:=hmade i ops[i] (by simp [hi])
  rw [List.map_cons,execOps_eq,Option.bnd_eq_some_iff] at hs
  obtain ⟨⟨e1,h1⟩,hs1,hs2⟩:=hs
  rw [List.getD_eq_getElem?_getD,hao,Option.getD_some] at hs1
  rw [wpOps_cons]
  refine sim_one hgl k (by simp [hi]) hm hsz hd horc horcq hbs hs1 fun g1 a1 w1 hx1 k1 hsz1 hd1=>?_
  have hg1:Grows base h h1:=by
   have:=execOps_grows (draw:=draw) hgrow [ao] e h hbs (e1,h1) (by rw [execOps_eq,hs1];rfl)
   exact this
  exact sim_ops hgl hmade horc horcq hgrow l g1 e1 a1 h1 w1 (fun j hj=>hl j (by simp [hj])) hlen k1 hsz1 hd1 (Nat.le_trans hbs hg1.1) hs2 fun g' a' w' hx'=>hQ g' a' w' (hx1.trans hx')
/-! ### Whatever order -/
def Down (ops:Array Oper) (listed:Array Bool):Prop:=∀ i,listed.getD i false=true→∀ m∈dirsAt ops i,listed.getD m false=true
theorem ordB_listed {ops:Array Oper} {listed:Array Bool} (hd:Down ops listed):∀ (n y i:Nat),ordB ops n y i=true→(∀ m∈dirsAt ops i,listed.getD m false=true)→listed.getD y false=true
 | 0,y,i,h,_=>by simp [ordB] at h
 | n+1,y,i,h,hi=>by
  simp only [ordB,List.any_eq_true,Bool.or_eq_true,beq_iff_eq] at h
  obtain ⟨m,hm,h⟩:=h
  rcases h with rfl | h
  ·exact hi m hm
  ·exact ordB_listed hd n y m h (hd m (hi m hm))
theorem ready_iff {ops:Array Oper} {listed:Array Bool} {i:Nat} (hi:i∈Region.ready .any ops listed):i < ops.size∧listed.getD i true=false∧∀ m∈dirsAt ops i,listed.getD m false=true:=by
 unfold Region.ready at hi
 simp only [List.mem_filter,List.mem_range,Bool.and_eq_true,Bool.not_eq_true'] at hi
 obtain ⟨h1,h2,h3⟩:=hi
 refine ⟨h1,h2,fun m hm=>?_⟩
 simp only [dirsAt,dirs,Array.getElem?_eq_getElem h1,Option.map_some,Option.getD_some,List.mem_filterMap] at hm h3
 obtain ⟨ed,hed,hm⟩:=hm
 split at hm
 ·rename_i hb
  simp only [Option.some.injEq] at hm
  subst hm
  have:=(Array.all_eq_true_iff_forall_mem.1 h3) ed (by simpa using hed)
  simpa [hb] using this
 ·cases hm
theorem ready_of {ops:Array Oper} {listed:Array Bool} {i:Nat} (h1:i < ops.size) (h2:listed.getD i true=false) (h3:∀ m∈dirsAt ops i,listed.getD m false=true):i∈Region.ready .any ops listed:=by
 unfold Region.ready
 simp only [List.mem_filter,List.mem_range,Bool.and_eq_true,Bool.not_eq_true']
 refine ⟨h1,h2,?_⟩
 simp only [Array.getElem?_eq_getElem h1,Option.map_some,Option.getD_some]
 rw [Array.all_eq_true_iff_forall_mem]
 intro ed hed
 cases hb:Region.binds .any ed with
 | false=>simp
 | true =>
  have:=h3 ed.on (by
   simp only [dirsAt,dirs,Array.getElem?_eq_getElem h1,Option.map_some,Option.getD_some,List.mem_filterMap]
   exact ⟨ed,by simpa using hed,by simp [hb]⟩)
  simpa using this
def rest (n:Nat) (listed:Array Bool):List Nat:=(List.range n).filter fun i=>!listed.getD i true
theorem split_rest {n:Nat} {listed:Array Bool} {i:Nat} (hi:i < n) (hl:listed.getD i true=false) (hs:listed.size=n):∃ l1 l2,rest n listed=l1 ++ i :: l2∧(∀ y∈l1,y < i∧listed.getD y true=false)∧rest n (listed.setIfInBounds i true)=l1 ++ l2:=by
 have hr:List.range n=List.range i ++ i :: (List.range' (i+1) (n - (i+1))):=by
  rw [List.range_eq_range',List.range_eq_range',show n=i+((n - (i+1))+1) by omega,←List.range'_append]
  simp [List.range'_succ]
  omega
 refine ⟨(List.range i).filter fun j=>!listed.getD j true,(List.range' (i+1) (n - (i+1))).filter fun j=>!listed.getD j true,?_,?_,?_⟩
 ·unfold rest
  rw [hr,List.filter_append,List.filter_cons,if_pos (by simp [hl])]
 ·intro y hy
  simp only [List.mem_filter,List.mem_range,Bool.not_eq_true'] at hy
  exact hy
 ·have hne:∀ j,j≠i→(listed.setIfInBounds i true).getD j true=listed.getD j true:=by
   intro j hj
   simp [Array.getD_eq_getD_getElem?,Array.getElem?_setIfInBounds,Ne.symm hj]
  unfold rest
  rw [hr,List.filter_append,List.filter_cons,if_neg (by simp [Array.getD_eq_getD_getElem?,hs,hi])]
  congr 1
  ·apply List.filter_congr
   intro j hj
   rw [hne j (by simp at hj;omega)]
  ·apply List.filter_congr
   intro j hj
   rw [hne j (by simp [List.mem_range'] at hj;omega)]
theorem sim_draw (hgl:GlobOk gl N0 w0) {nt:Nat} {ops:Array Oper} {aops:List AOper} (hmade:∀ (j:Nat) (o:Oper),ops[j]?=some o→∃ ao,aops[j]?=some ao∧Made P gl nt ops o ao) (hlen:aops.length=ops.size) {draw:Bool} (hdraw:drawOk draw ops aops=true) {orc:Orc} {base:Nat}
  (horc:OrcSim N0 P w0 base orc) (horcq:OrcSim N0 P w0 base (orcQ orc)) (hgrow:∀ h f vs r,base≤size h→orc f vs h=some r→Grows base h r.2) {Q:Exit→Act→World→Prop} {e9:Env} {h':Hp} :
  ∀ (fuel:Nat) (listed:Array Bool) (g:G) (e:Env) (a:Act) (h:Hp) (w:World),listed.size=ops.size→Down ops listed→(rest ops.size listed).length≤fuel →
  Ok (N0:=N0) w0 g e a.tmps h w→nt≤a.tmps.size→a.defers=ds→base≤size h →
  (∃ e',Eqv e9 e'∧execOps orc base draw ((rest ops.size listed).map fun i=>aops.getD i ⟨none,none,.alloc []⟩) e h=some (e',h')) →
  (∀ g' a' w' e',Eqv e9 e'→Ext N0 g w g' w'→Ok (N0:=N0) w0 g' e' a'.tmps h' w'→nt≤a'.tmps.size→a'.defers=ds→Q .normal a' w')→wpAny P .any ops Q fuel listed a w:=by
 simp only [drawOk,List.all_eq_true,List.mem_range,Bool.and_eq_true,decide_eq_true_eq] at hdraw
 -- where nothing is ready nothing is left
 have none_left:∀ listed:Array Bool,listed.size=ops.size→Region.ready .any ops listed=[]→rest ops.size listed=[]:=by
  intro listed hs hr
  have:∀ i,i < ops.size→listed.getD i true=true:=by
   intro i
   induction i using Nat.strongRecOn with
   | _ i ih =>
    intro hi
    cases hq:listed.getD i true with
    | true=>rfl
    | false =>
     have:i∈Region.ready .any ops listed:=ready_of hi hq fun m hm=>by
      have hlt:=(hdraw i (by omega)).1 m hm
      have:=ih m hlt (by omega)
      have hms:m < listed.size:=by omega
      simpa [Array.getD_eq_getD_getElem?,hms] using this
     rw [hr] at this
     cases this
  unfold rest
  rw [List.filter_eq_nil_iff]
  intro i hi
  simp only [List.mem_range] at hi
  simp [this i hi]
 have done:∀ (listed:Array Bool) (g:G) (e:Env) (a:Act) (h:Hp) (w:World),listed.size=ops.size→Region.ready .any ops listed=[]→Ok (N0:=N0) w0 g e a.tmps h w→nt≤a.tmps.size→a.defers=ds →
   (∃ e',Eqv e9 e'∧execOps orc base draw ((rest ops.size listed).map fun i=>aops.getD i ⟨none,none,.alloc []⟩) e h=some (e',h')) →
   (∀ g' a' w' e',Eqv e9 e'→Ext N0 g w g' w'→Ok (N0:=N0) w0 g' e' a'.tmps h' w'→nt≤a'.tmps.size→a'.defers=ds→Q .normal a' w')→Q .normal a w:=by
  rintro listed g e a h w hs hr k hsz hd ⟨e',he',hx⟩ hQ
  rw [none_left listed hs hr] at hx
  simp only [List.map_nil,execOps,Option.some.injEq,Prod.mk.injEq] at hx
  obtain ⟨rfl,rfl⟩:=hx
  exact hQ g a w e he' (Ext.refl _ _ _) k hsz hd
 intro fuel
 induction fuel with
 | zero =>
  intro listed g e a h w hs hdown hfuel k hsz hd hbs hx hQ
  have hrest:rest ops.size listed=[]:=List.eq_nil_of_length_eq_zero (by omega)
  have hr:Region.ready .any ops listed=[]:=by
   cases hq:Region.ready .any ops listed with
   | nil=>rfl
   | cons i l =>
    obtain ⟨h1,h2,_⟩:=ready_iff (ops:=ops) (listed:=listed) (i:=i) (by rw [hq];simp)
    have:i∈rest ops.size listed:=by
     unfold rest
     rw [List.mem_filter]
     exact ⟨List.mem_range.2 h1,by rw [h2];rfl⟩
    rw [hrest] at this
    cases this
  exact ⟨hr,done listed g e a h w hs hr k hsz hd hx hQ⟩
 | succ fuel ih =>
  intro listed g e a h w hs hdown hfuel k hsz hd hbs hx hQ
  refine ⟨fun hr=>done listed g e a h w hs hr k hsz hd hx hQ,fun i hi=>?_⟩
  obtain ⟨h1,h2,h3⟩:=ready_iff hi
  obtain ⟨l1,l2,r1,r2,r3⟩:=split_rest h1 h2 hs
  obtain ⟨e',he',hx⟩:=hx
  have hget:∀ j,j < ops.size→∃ ao,aops[j]?=some ao∧aops.getD j ⟨none,none,.alloc []⟩=ao:=by
   intro j hj
   obtain ⟨ao,q1,q2⟩:=hmade j ops[j] (by simp [hj])
   exact ⟨ao,q1,by rw [List.getD_eq_getElem?_getD,q1];rfl⟩
  have hrestlt:∀ j∈rest ops.size listed,j < ops.size:=by
   intro j hj
   unfold rest at hj
   simp at hj
   exact hj.1
  rw [r1] at hx hrestlt
  rw [List.map_append,List.map_cons] at hx
  obtain ⟨aoi,a1,a2⟩:=hget i h1
  have hap:∀ y∈(l1.map fun i=>aops.getD i ⟨none,none,.alloc []⟩),apartB draw y (aops.getD i ⟨none,none,.alloc []⟩)=true:=by
   intro y hy
   simp only [List.mem_map] at hy
   obtain ⟨j,hj,rfl⟩:=hy
   obtain ⟨q1,q2⟩:=r2 j hj
   have hp:=(hdraw i (by omega)).2 j q1
   unfold pairOk at hp
   obtain ⟨aoj,b1,b2⟩:=hget j (by omega)
   rw [b1,a1] at hp
   simp only [Bool.or_eq_true] at hp
   rw [b2,a2]
   rcases hp with hp | hp
   ·exact hp
   ·exfalso
    have:=ordB_listed hdown _ _ _ hp h3
    have hjs:j < listed.size:=by omega
    simp [Array.getD_eq_getD_getElem?,hjs] at this q2
    rw [this] at q2
    cases q2
  obtain ⟨e2,he2,hx2⟩:=swap_front _ hap hx
  rw [execOps_eq,Option.bnd_eq_some_iff] at hx2
  obtain ⟨⟨e3,h3'⟩,hx3,hx4⟩:=hx2
  rw [a2] at hx3
  have hio:ops[i]?=some ops[i]:=by simp [h1]
  obtain ⟨ao',c1,hm⟩:=hmade i ops[i] hio
  rw [a1] at c1
  cases c1
  refine sim_one hgl k hio hm hsz hd horc horcq hbs hx3 fun g1 w1a w1 hx1 k1 hsz1 hd1=>?_
  have hg1:Grows base h h3':=by
   have:=execOps_grows (draw:=draw) hgrow [aoi] e h hbs (e3,h3') (by rw [execOps_eq,hx3];rfl)
   exact this
  refine ih (listed.setIfInBounds i true) g1 e3 w1a h3' w1 (by simp [hs]) ?_ ?_ k1 hsz1 hd1 (Nat.le_trans hbs hg1.1) ⟨e2,he'.trans he2,?_⟩ fun g' a' w' e' q1 q2=>hQ g' a' w' e' q1 (hx1.trans q2)
  ·intro j hj m hm'
   by_cases hji:i=j
   ·subst hji
    have:=h3 m hm'
    by_cases hmi:i=m
    ·subst hmi;simp [Array.getD_eq_getD_getElem?,hs,h1]
    ·simpa [Array.getD_eq_getD_getElem?,Array.getElem?_setIfInBounds,hmi] using this
   ·have hj':listed.getD j false=true:=by simpa [Array.getD_eq_getD_getElem?,Array.getElem?_setIfInBounds,hji] using hj
    have:=hdown j hj' m hm'
    by_cases hmi:i=m
    ·subst hmi;simp [Array.getD_eq_getD_getElem?,hs,h1]
    ·simpa [Array.getD_eq_getD_getElem?,Array.getElem?_setIfInBounds,hmi] using this
  ·rw [r3]
   rw [r1] at hfuel
   simp only [List.length_append,List.length_cons] at hfuel ⊢
   omega
  ·rw [r3,List.map_append];exact hx4
end
end Go.Am
namespace Go.Am
open Go.RowKit (Below)
set_option linter.unusedVariables false
set_option linter.unusedSimpArgs false
set_option linter.unusedSectionVars false
def PrimOk (P:Program) (I:Nat→World→Prop) (f:Nat) (pg:List PV→Hp→Option (PV × Option (Nat × List PV))):Prop:=∀ vs h r,pg vs h=some r→∀ (N0:Nat) (w0:World) (g:G) (us:Array Value) (w:World),I N0 w0→OkH N0 w0 g h w→us.size=vs.length →
 (∀ (j:Nat) (x:PV),vs[j]?=some x→RV N0 g w x (us.getD j Go.undef))→(callFunc f us).run P w=.ok (.enter f us) w ∧
  Calls P f us w fun en w'=>∃ u g',en=.returned u∧Ext N0 g w g' w'∧OkH N0 w0 g' (primHeap h r.2) w'∧RV N0 g' w' r.1 u
def PrimNOk (P:Program) (I:Nat→World→Prop) (f:Nat) (pg:List PV→Hp→Option (PV × List Box)):Prop:=∀ vs h r,pg vs h=some r→∀ (N0:Nat) (w0:World) (g:G) (us:Array Value) (w:World),I N0 w0→OkH N0 w0 g h w→us.size=vs.length →
 (∀ (j:Nat) (x:PV),vs[j]?=some x→RV N0 g w x (us.getD j Go.undef)) →
  Ansr P f us w fun en w'=>∃ u g',en=.returned u∧Ext N0 g w g' w'∧OkH N0 w0 g' (ext h r.2) w'∧RV N0 g' w' r.1 u
def TableOk (P:Program) (gl:Globs) (I:Nat→World→Prop) (T:Table):Prop:=∀ f it,T f=some it→match it with
 | .code fn=>∃ an fn0,P.funcs[f]?=some fn0∧cFn P gl an fn0=some fn
 | .prim pg=>PrimOk P I f pg
 | .primN pg=>PrimNOk P I f pg
def exitOf:AEx→Exit
 | .norm=>.normal
 | .exit i=>.exit i
 | .ret=>.ret
theorem wp_cond_eq {P:Program} {Q:Exit→Act→World→Prop} {a:Act} {w:World} {c:Operand} {x y:Code} {t:Bool} (hc:a.eval c=.bool t) (h:(if t then x else y).wp P Q a w):(Code.cond c x y).wp P Q a w:=wp_cond hc h
section
variable {N0:Nat} {P:Program} {w0:World}
theorem rv_below {g:G} {w:World} {v:PV} {u:Value} (h:RV N0 g w v u):below g.n v=true:=by
 induction h with
 | undef u hu=>rfl
 | bool b=>rfl
 | int k n=>rfl
 | str l s h=>rfl
 | nilp=>rfl
 | bnil t=>rfl
 | ptr b off h=>simpa [below] using h
 | ep cs off c o u hc hr hf ih=>simp only [below];exact belows_of ih
 | nils=>rfl
 | sl ow sz es c o cap u hl hfull hsz hc hr hf sp hsp htk ih =>
  simp only [below,Bool.and_eq_true]
  refine ⟨?_,belows_of fun i e he=>?_⟩
  ·cases ow with
   | tok t=>simpa [Own.below] using (htk t rfl).1
   | _=>rfl
  have:∀ (j:Nat) (x:PV),e.cells[j]?=some x→below g.n x=true:=fun j x hx=>ih i j e x he hx
  cases e with
  | agg cs=>simp only [below];exact belows_of this
  | _=>exact this 0 _ rfl
 | bsl f b off len sz cap h hl hfull=>simpa [below] using h
 | nilif=>rfl
 | iface t v u _ ih=>simpa [below] using ih
 | nilf=>rfl
 | fn f cap us hs _ ih=>simp only [below];exact belows_of ih
 | agg cs us hs _ ih=>simp only [below];exact belows_of ih
 | tup cs us hs _ ih=>simp only [below];exact belows_of ih
 | it b h=>simpa [below] using h
 | nilm=>rfl
 | mref b h=>simpa [below] using h
def Gone (g:G) (h:Hp) (n:Nat) (kb:Option Nat) (c:Nat):Prop:=∃ b cs,n≤b∧kb≠some b∧getBox h b=some cs∧g.ι b=c
def blkSize (w:World) (c:Nat):Nat:=match w.heap[c]? with
 | some (.cells arr _ _)=>arr.size
 | _=>0
open Classical in
noncomputable def hwEnd (g:G) (h:Hp) (w:World) (n:Nat) (kb:Option Nat) (c:Nat):Option Nat :=
 if Gone g h n kb c then some (blkSize w c) else g.hw c
theorem hwEnd_old {g:G} {h:Hp} {w:World} (k:OkH N0 w0 g h w) {n:Nat} {kb:Option Nat} {c m:Nat} (hm:g.hw c=some m):hwEnd g h w n kb c=some m:=by
 unfold hwEnd
 rw [if_neg];exact hm
 rintro ⟨b,cs,_,_,hb,rfl⟩
 rw [(k.cells hb).2.1] at hm
 cases hm
theorem hwEnd_box {g:G} {h:Hp} {w:World} (k:OkH N0 w0 g h w) {n:Nat} {kb:Option Nat} {b:Nat} {x:Box} (hb:box? h b=some x) (hn:b < n∨kb=some b) (hxd:x≠.dead:=by simp):hwEnd g h w n kb (blk g b x)=g.hw (blk g b x):=by
 unfold hwEnd
 rw [if_neg]
 rintro ⟨b',cs,h1,h2,h3,h4⟩
 have:=k.inj b' b (.cells cs) x (box_of_get h3) hb (by simp) hxd h4
 subst this
 rcases hn with hn | hn
 ·omega
 ·exact h2 hn
theorem hwEnd_gone {g:G} {h:Hp} {w:World} {n:Nat} {kb:Option Nat} {b:Nat} {cs:List PV} (h1:n≤b) (h2:kb≠some b) (h3:getBox h b=some cs):hwEnd g h w n kb (g.ι b)=some (blkSize w (g.ι b)):=by
 unfold hwEnd
 rw [if_pos ⟨b,cs,h1,h2,h3,rfl⟩]
noncomputable def gEnd (g:G) (h:Hp) (w:World) (n:Nat) (kb:Option Nat):G:={ g with hw:=hwEnd g h w n kb }
theorem ext_hwEnd {g:G} {h:Hp} {w:World} (k:OkH N0 w0 g h w) (n:Nat) (kb:Option Nat):Ext N0 g w (gEnd g h w n kb) w :=
 ⟨Nat.le_refl _,fun _ _=>rfl,fun c m hm=>⟨m,hwEnd_old k hm,Nat.le_refl _⟩,fun _ _ _ _ _=>rfl,fun _ _ _=>rfl,fun _ _=>⟨Nat.le_refl _,fun _=>rfl⟩,fun _ _=>rfl⟩
theorem ext_fewer {g g':G} {w w':World} (x:Ext N0 g w g' w') {n:Nat} (hn:g.n≤n):Ext N0 g w { g' with n:=n } w':=⟨hn,x.ι,x.hw,x.cell,x.old,x.tk,x.cp⟩
theorem arr_hwEnd {g:G} {h:Hp} {w:World} (k:OkH N0 w0 g h w) {n:Nat} {kb:Option Nat}:∀ c m,hwEnd g h w n kb c=some m→N0≤c∧c < w.heap.size:=by
 intro c m hm
 unfold hwEnd at hm
 split at hm
 ·rename_i hg
  obtain ⟨b,cs,_,_,hb,rfl⟩:=hg
  exact (k.box b _ (box_of_get hb)).blk
 ·exact k.arr c m hm
theorem ok_trunc {g:G} {h1:Hp} {w:World} (k:OkH N0 w0 g h1 w) {n:Nat} (hn:n≤size h1) (hclo:Clo n h1):OkH N0 w0 { gEnd g h1 w n none with n:=n } (trunc h1 n) w:=by
 have hget:∀ b x,box? (trunc h1 n) b=some x→b < n∧box? h1 b=some x:=by
  intro b x hx
  have hb:b < n:=by
   rcases Nat.lt_or_ge b n with h' | h'
   ·exact h'
   ·rw [box_trunc_none h'] at hx;cases hx
  rw [box_trunc hb] at hx
  exact ⟨hb,hx⟩
 refine ⟨by rw [size_trunc hn],k.hN,k.below,fun b c x y hx hy hdx hdy he=>?_,fun b x hx=>?_,arr_hwEnd k,fun t v hv=>by simp [look] at hv⟩
 ·exact k.inj b c x y (hget b x hx).2 (hget c y hy).2 hdx hdy (by cases x <;> cases y <;> exact he)
 ·obtain ⟨hb,hx'⟩:=hget b x hx
  have hbx:=k.box b x hx'
  by_cases hxd:x=.dead
  ·subst hxd;exact hbx
  have hhw:=hwEnd_box k (n:=n) (kb:=none) hx' (.inl hb) hxd
  cases x with
  | dead=>exact (hxd rfl).elim
  | cells cs =>
   obtain ⟨q1,q2,arr,T,lo,hi,q3,q6,q4,q8,q5⟩:=hbx
   refine ⟨q1,hhw.trans q2,arr,T,lo,hi,q3,q6,q4,q8,fun j x hx2=>?_⟩
   exact rv_fewer ((q5 j x hx2).mono (ext_hwEnd k n none)) (hclo b _ hb hx' x (List.mem_of_getElem? hx2))
  | tok m T =>
   obtain ⟨q1,q2,q3,q4,q5⟩:=hbx
   exact ⟨q1,q2,q3,hhw.trans q4,q5⟩
  | iter s p =>
   obtain ⟨q1,q2,q3⟩:=hbx
   exact ⟨q1,hhw.trans q2,q3⟩
  | map es =>
   obtain ⟨q1,q2,ea,cl,q3,q4,qs,q5⟩:=hbx
   refine ⟨q1,hhw.trans q2,ea,cl,q3,q4,qs,fun i x hx2=>?_⟩
   obtain ⟨y,y1,y2,y3,y4,y5⟩:=q5 i x hx2
   have hmem:=List.mem_of_getElem? hx2
   exact ⟨y,y1,y2,y3,rv_fewer (y4.mono (ext_hwEnd k n none)) (hclo b _ hb hx' _ (List.mem_flatMap.2 ⟨x,hmem,by simp⟩)),rv_fewer (y5.mono (ext_hwEnd k n none)) (hclo b _ hb hx' _ (List.mem_flatMap.2 ⟨x,hmem,by simp⟩))⟩
theorem ok_trunc1 {g:G} {h1:Hp} {w:World} (k:OkH N0 w0 g h1 w) {n:Nat} (hn:n≤size h1) (hclo:Clo n h1) {b:Nat} (hb:n≤b) {x:Box} (hx:box? h1 b=some x) (hxd:x≠.dead) (hbel:∀ v∈vals x,Go.Am.below n v=true) :
  OkH N0 w0 { gEnd g h1 w n (some b) with n:=n+1,ι:=fun i=>if i=n then g.ι b else g.ι i,tk:=fun i=>if i=n then g.tk b else g.tk i,cp:=fun i=>if i=n then g.cp b else g.cp i } (ext (trunc h1 n) [x]) w:=by
 have hst:size (trunc h1 n)=n:=size_trunc hn
 have hget:∀ c y,box? (ext (trunc h1 n) [x]) c=some y→(c < n∧box? h1 c=some y)∨(c=n∧y=x):=by
  intro c y hy
  by_cases hc:c < n
  ·rw [box_ext_lt (by rw [hst];exact hc),box_trunc hc] at hy
   exact .inl ⟨hc,hy⟩
  ·right
   have hlt:=lt_of_box hy
   rw [size_ext,hst] at hlt
   simp only [List.length_singleton] at hlt
   have hcn:c=n:=by omega
   subst hcn
   rw [box_ext_at hst] at hy
   cases hy
   exact ⟨rfl,rfl⟩
 let g':G:={ gEnd g h1 w n (some b) with n:=n+1,ι:=fun i=>if i=n then g.ι b else g.ι i,tk:=fun i=>if i=n then g.tk b else g.tk i,cp:=fun i=>if i=n then g.cp b else g.cp i }
 have hblk:∀ c y,c < n→blk g' c y=blk g c y:=by
  intro c y hc
  have e1:g'.ι c=g.ι c:=by show (if c=n then _ else _)=_;rw [if_neg (by omega)]
  have e2:g'.tk c=g.tk c:=by show (if c=n then _ else _)=_;rw [if_neg (by omega)]
  cases y <;> simp only [blk,e1,e2]
 have hblkn:blk g' n x=blk g b x:=by
  have e1:g'.ι n=g.ι b:=by show (if n=n then _ else _)=_;rw [if_pos rfl]
  have e2:g'.tk n=g.tk b:=by show (if n=n then _ else _)=_;rw [if_pos rfl]
  cases x <;> simp only [blk,e1,e2]
 have hrv:∀ (v:PV) (u:Value),RV N0 g w v u→Go.Am.below n v=true→RV N0 g' w v u:=by
  intro v u hv hbl
  have h2:=rv_fewer (hv.mono (ext_hwEnd k n (some b))) hbl
  have hxx:Ext N0 { gEnd g h1 w n (some b) with n:=n } w g' w:=by
   refine ⟨Nat.le_succ n,fun c hc=>?_,fun c m hm=>⟨m,hm,Nat.le_refl _⟩,fun _ _ _ _ _=>rfl,fun _ _ _=>rfl,fun t ht=>?_,fun c hc=>?_⟩
   ·have hc':c < n:=hc
    show (if c=n then _ else _)=_;rw [if_neg (by omega)];rfl
   ·have ht':t < n:=ht
    have e2:g'.tk t=g.tk t:=by show (if t=n then _ else _)=_;rw [if_neg (by omega)]
    rw [e2];exact ⟨Nat.le_refl _,fun _=>rfl⟩
   ·have hc':c < n:=hc
    show (if c=n then _ else _)=_;rw [if_neg (by omega)];rfl
  exact h2.mono hxx
 refine ⟨by rw [size_ext,hst];rfl,k.hN,k.below,fun c d y z hy hz hdy hdz he=>?_,fun c y hy=>?_,arr_hwEnd k,fun t v hv=>by simp [look] at hv⟩
 ·rcases hget c y hy with ⟨h2,h3⟩ | ⟨h2,h3⟩
  ·rcases hget d z hz with ⟨h4,h5⟩ | ⟨h4,h5⟩
   ·have he':blk g' c y=blk g' d z:=he
    rw [hblk c y h2,hblk d z h4] at he'
    exact k.inj c d y z h3 h5 hdy hdz he'
   ·subst h4;subst h5
    have he':blk g' c y=blk g' d z:=he
    rw [hblk c y h2,hblkn] at he'
    have:=k.inj c b y z h3 hx hdy hdz he'
    omega
  ·subst h2;subst h3
   rcases hget d z hz with ⟨h4,h5⟩ | ⟨h4,h5⟩
   ·have he':blk g' c y=blk g' d z:=he
    rw [hblk d z h4,hblkn] at he'
    have:=k.inj b d y z hx h5 hdy hdz he'
    omega
   ·exact h4.symm
 ·show BoxOk N0 g' w c y
  rcases hget c y hy with ⟨h2,h3⟩ | ⟨h2,h3⟩
  ·have hbx:=k.box c y h3
   have e3:g'.cp c=g.cp c:=by show (if c=n then _ else _)=_;rw [if_neg (by omega)]
   have e1:g'.ι c=g.ι c:=by show (if c=n then _ else _)=_;rw [if_neg (by omega)]
   have e2:g'.tk c=g.tk c:=by show (if c=n then _ else _)=_;rw [if_neg (by omega)]
   by_cases hyd:y=.dead
   ·subst hyd;exact ⟨by rw [e1];exact hbx.1,by rw [e1];exact hbx.2⟩
   have hhw:=hwEnd_box k (n:=n) (kb:=some b) h3 (.inl h2) hyd
   cases y with
   | dead=>exact (hyd rfl).elim
   | cells cs =>
    obtain ⟨q1,q2,arr,T,lo,hi,q3,q6,q4,q8,q5⟩:=hbx
    refine ⟨by rw [e1];exact q1,by rw [e1];exact hhw.trans q2,arr,T,lo,hi,by rw [e1];exact q3,q6,by rw [e3];exact q4,q8,fun j x hx2=>?_⟩
    exact hrv _ _ (q5 j x hx2) (hclo c _ h2 h3 x (List.mem_of_getElem? hx2))
   | tok m T =>
    simp only [BoxOk,e2]
    obtain ⟨q1,q2,q3,q4,q5⟩:=hbx
    exact ⟨q1,q2,q3,hhw.trans q4,q5⟩
   | iter s p =>
    obtain ⟨q1,q2,s',q3,q4⟩:=hbx
    exact ⟨by rw [e1];exact q1,by rw [e1];exact hhw.trans q2,s',q3,by rw [e1];exact q4⟩
   | map es =>
    obtain ⟨q1,q2,ea,cl,q3,q4,qs,q5⟩:=hbx
    refine ⟨by rw [e1];exact q1,by rw [e1];exact hhw.trans q2,ea,cl,by rw [e1];exact q3,q4,qs,fun i x hx2=>?_⟩
    obtain ⟨y,y1,y2,y3,y4,y5⟩:=q5 i x hx2
    have hmem:=List.mem_of_getElem? hx2
    exact ⟨y,y1,y2,y3,hrv _ _ y4 (hclo c _ h2 h3 _ (List.mem_flatMap.2 ⟨x,hmem,by simp⟩)),hrv _ _ y5 (hclo c _ h2 h3 _ (List.mem_flatMap.2 ⟨x,hmem,by simp⟩))⟩
  ·subst h2;subst h3
   have hbx:=k.box b y hx
   have hhw:=hwEnd_box k (n:=c) (kb:=some b) hx (.inr rfl) hxd
   have e3:g'.cp c=g.cp b:=by show (if c=c then _ else _)=_;rw [if_pos rfl]
   have e1:g'.ι c=g.ι b:=by show (if c=c then _ else _)=_;rw [if_pos rfl]
   have e2:g'.tk c=g.tk b:=by show (if c=c then _ else _)=_;rw [if_pos rfl]
   cases y with
   | dead=>exact (hxd rfl).elim
   | cells cs =>
    obtain ⟨q1,q2,arr,T,lo,hi,q3,q6,q4,q8,q5⟩:=hbx
    refine ⟨by rw [e1];exact q1,by rw [e1];exact hhw.trans q2,arr,T,lo,hi,by rw [e1];exact q3,q6,by rw [e3];exact q4,q8,fun j x hx2=>?_⟩
    exact hrv _ _ (q5 j x hx2) (hbel x (List.mem_of_getElem? hx2))
   | tok m T =>
    simp only [BoxOk,e2]
    obtain ⟨q1,q2,q3,q4,q5⟩:=hbx
    exact ⟨q1,q2,q3,hhw.trans q4,q5⟩
   | iter s p =>
    obtain ⟨q1,q2,s',q3,q4⟩:=hbx
    exact ⟨by rw [e1];exact q1,by rw [e1];exact hhw.trans q2,s',q3,by rw [e1];exact q4⟩
   | map es =>
    obtain ⟨q1,q2,ea,cl,q3,q4,qs,q5⟩:=hbx
    refine ⟨by rw [e1];exact q1,by rw [e1];exact hhw.trans q2,ea,cl,by rw [e1];exact q3,q4,qs,fun i x hx2=>?_⟩
    obtain ⟨y,y1,y2,y3,y4,y5⟩:=q5 i x hx2
    have hmem:=List.mem_of_getElem? hx2
    exact ⟨y,y1,y2,y3,hrv _ _ y4 (hbel _ (List.mem_flatMap.2 ⟨x,hmem,by simp⟩)),hrv _ _ y5 (hbel _ (List.mem_flatMap.2 ⟨x,hmem,by simp⟩))⟩
theorem chunks_get (sz:Nat):∀ (n:Nat) (cs:List PV),(chunks sz true n cs).length=n∧∀ (i:Nat) (x:PV),(chunks sz true n cs)[i]?=some x→i < n∧x=.agg ((cs.drop (i * sz)).take sz)
 | 0,cs=>⟨rfl,fun i x h=>by simp [chunks] at h⟩
 | n+1,cs=>by
  obtain ⟨h1,h2⟩:=chunks_get sz n (cs.drop sz)
  refine ⟨by simp [chunks,h1],fun i x h=>?_⟩
  cases i with
  | zero=>simp [chunks] at h;subst h;exact ⟨by omega,by simp⟩
  | succ i =>
   simp only [chunks,List.getElem?_cons_succ] at h
   obtain ⟨q1,q2⟩:=h2 i x h
   refine ⟨by omega,?_⟩
   rw [q2,List.drop_drop,Nat.succ_mul]
   congr 3
   omega
theorem frz_rv {g:G} {h:Hp} {w:World} (k:OkH N0 w0 g h w) {n:Nat} {v:PV} {u:Value} (hr:RV N0 g w v u):∀ v',frz n h v=some v'→RV N0 (gEnd g h w n none) w v' u:=by
 have hx:=ext_hwEnd k n none
 have many:∀ (cs:List PV) (us:Array Value),(∀ (j:Nat) (x:PV),cs[j]?=some x→∀ x',frz n h x=some x'→RV N0 (gEnd g h w n none) w x' (us.getD j Go.undef))→∀ cs',frzs n h cs=some cs' →
   cs'.length=cs.length∧∀ (j:Nat) (x:PV),cs'[j]?=some x→RV N0 (gEnd g h w n none) w x (us.getD j Go.undef):=by
  intro cs us
  have:∀ (cs:List PV) (o:Nat),(∀ (j:Nat) (x:PV),cs[j]?=some x→∀ x',frz n h x=some x'→RV N0 (gEnd g h w n none) w x' (us.getD (o+j) Go.undef))→∀ cs',frzs n h cs=some cs' →
    cs'.length=cs.length∧∀ (j:Nat) (x:PV),cs'[j]?=some x→RV N0 (gEnd g h w n none) w x (us.getD (o+j) Go.undef):=by
   intro cs
   induction cs with
   | nil=>intro o _ cs' hc;simp only [frzs,Option.some.injEq] at hc;subst hc;exact ⟨rfl,fun j x hx=>by simp at hx⟩
   | cons c cs ih =>
    intro o hj cs' hc
    simp only [frzs,Option.bnd_eq_some_iff,Option.some.injEq] at hc
    obtain ⟨c',hc',cs2,hcs2,rfl⟩:=hc
    obtain ⟨l1,l2⟩:=ih (o+1) (fun j x hx x' hx'=>by rw [show o+1+j=o+(j+1) by omega];exact hj (j+1) x (by simpa using hx) x' hx') cs2 hcs2
    refine ⟨by simp [l1],fun j x hx=>?_⟩
    cases j with
    | zero=>simp at hx;subst hx;exact hj 0 c rfl _ hc'
    | succ j=>have:=l2 j x (by simpa using hx);rw [show o+(j+1)=o+1+j by omega];exact this
  intro hj cs' hc
  have:=this cs 0 (fun j x hx=>by rw [Nat.zero_add];exact hj j x hx) cs' hc
  exact ⟨this.1,fun j x hx=>by have h2:=this.2 j x hx;rwa [Nat.zero_add] at h2⟩
 induction hr with
 | sl ow sz es c o cap uu q1 q2 q3 q4 q5 q6 sp q8 q9 ih =>
  intro v' hv
  simp only [frz,Option.some.injEq] at hv
  subst hv
  exact rv_strip ((RV.sl ow sz es c o cap uu q1 q2 q3 q4 q5 q6 sp q8 q9).mono hx)
 | bsl f b off len sz cap hb hl hfull hcpb =>
  intro v' hv
  simp only [frz] at hv
  split at hv
  ·simp only [Option.some.injEq] at hv
   subst hv
   exact (RV.bsl f b off len sz cap hb hl hfull hcpb).mono hx
  ·rename_i hge
   simp only [Option.bnd_eq_some_iff,Option.some.injEq] at hv
   obtain ⟨cs,hcs,es,hes,rfl⟩:=hv
   obtain ⟨r1,r2,arr,T,lo,hi,r3,r6,⟨r4,_⟩,r8,r5⟩:=k.cells hcs
   have hgone:=hwEnd_gone (g:=g) (w:=w) (kb:=none) (show n≤b by omega) (by simp) hcs
   have hbs:blkSize w (g.ι b)=arr.size:=by simp [blkSize,r3]
   rw [hbs] at hgone
   have fin:∀ (es:List PV),es.length=len→(∀ (i:Nat) (e:PV),es[i]?=some e→e.cells.length=sz)→(∀ (i j:Nat) (e x:PV),es[i]?=some e→e.cells[j]?=some x→∃ y,cs[off+(i * sz+j)]?=some y∧x=strip y) →
     (es≠[]→off+len * sz≤cs.length)→RV N0 (gEnd g h w n none) w (.sl (if f then .full else .no) sz es) (.slice (some ⟨g.ι b,off,none⟩) len cap):=by
    intro es e1 e2 e3 e4
    have:=RV.sl (N0:=N0) (g:=gEnd g h w n none) (w:=w) (if f then .full else .no) sz es (g.ι b) off cap (fun i j=>arr.getD (off+(i * sz+j)) Go.undef) (by omega) (fun hf=>by
     cases f with
     | true=>rw [e1];exact hfull rfl
     | false=>simp at hf) e2 (fun i j hi hj=>by
     have hne:es≠[]:=by rintro rfl;simp at hi
     have hlt:=mul_lt_of (show i < len by omega) hj
     have:=e4 hne
     have hq:off+(i * sz+j) < arr.size:=by omega
     simp [World.cell?,r3,Array.getD_eq_getD_getElem?,hq]) (fun i j e x he hx2=>by
     obtain ⟨y,hy,rfl⟩:=e3 i j e x he hx2
     exact rv_strip ((r5 _ y hy).mono hx)) (fun hne=>.inr ⟨arr.size,hgone,by have:=e4 hne;rw [e1];omega⟩) none (fun _=>rfl) (by intro t ht;split at ht <;> cases ht)
    rw [e1] at this
    exact this
   unfold elemsOf at hes
   split at hes
   ·rename_i h1
    subst h1
    split at hes
    ·rename_i hcond
     obtain ⟨c1,c2⟩:=hcond
     simp only [Option.some.injEq] at hes
     subst hes
     simp only [List.length_drop] at c1
     have hg:∀ (i:Nat) (e:PV),(strips ((cs.drop off).take len))[i]?=some e→i < len∧∃ y,cs[off+i]?=some y∧e=strip y∧scalar y=true:=by
      intro i e he
      rw [strips_get,Option.map_eq_some_iff] at he
      obtain ⟨y,hy,rfl⟩:=he
      have hmem:=List.mem_of_getElem? hy
      have hi:i < len:=by have:=(List.getElem?_eq_some_iff.1 hy).1;simp at this;omega
      rw [List.getElem?_take,if_pos hi,List.getElem?_drop] at hy
      exact ⟨hi,y,hy,rfl,List.all_eq_true.1 c2 y hmem⟩
     refine fin _ (by rw [strips_length];simp;omega) (fun i e he=>?_) (fun i j e x he hx2=>?_) (fun hne=>?_)
     ·obtain ⟨_,y,_,rfl,hs⟩:=hg i e he
      rw [strip_cells,elem_of_scalar hs];rfl
     ·obtain ⟨_,y,hy,rfl,hs⟩:=hg i e he
      rw [elem_of_scalar (by rw [scalar_strip];exact hs)] at hx2
      cases j with
      | zero=>simp at hx2;subst hx2;exact ⟨y,by simpa using hy,rfl⟩
      | succ j=>simp at hx2
     ·have:len≠0:=by rintro rfl;exact hne (by simp [strips])
      omega
    ·cases hes
   ·rename_i h1
    split at hes
    ·rename_i hle
     obtain ⟨hs0,hle⟩:=hle
     simp only [Option.some.injEq] at hes
     subst hes
     rw [List.length_drop] at hle
     obtain ⟨g1,g2⟩:=chunks_get sz len (strips (cs.drop off))
     have hlen:∀ i,i < len→(((strips (cs.drop off)).drop (i * sz)).take sz).length=sz:=by
      intro i hi
      have:=Nat.mul_le_mul_right sz hi
      rw [Nat.succ_mul] at this
      simp [strips_length];omega
     refine fin _ g1 (fun i e he=>?_) (fun i j e x he hx2=>?_) (fun hne=>?_)
     ·obtain ⟨hi,rfl⟩:=g2 i e he
      exact hlen i hi
     ·obtain ⟨hi,rfl⟩:=g2 i e he
      simp only [PV.cells] at hx2
      have hj:j < sz:=by have:=(List.getElem?_eq_some_iff.1 hx2).1;rw [hlen i hi] at this;exact this
      rw [List.getElem?_take,if_pos hj,List.getElem?_drop,strips_get,Option.map_eq_some_iff] at hx2
      obtain ⟨y,hy,rfl⟩:=hx2
      rw [List.getElem?_drop] at hy
      exact ⟨y,hy,rfl⟩
     ·by_cases h0:len=0
      ·exfalso;apply hne;exact List.eq_nil_of_length_eq_zero (by rw [g1];exact h0)
      ·have:0 < len * sz:=Nat.mul_pos (by omega) (by omega)
       omega
    ·cases hes
 | agg cs us hs hr ih =>
  intro v' hv
  simp only [frz,Option.bnd_eq_some_iff,Option.some.injEq] at hv
  obtain ⟨cs',hcs',rfl⟩:=hv
  obtain ⟨l1,l2⟩:=many cs us ih cs' hcs'
  exact .agg cs' us (by omega) l2
 | tup cs us hs hr ih =>
  intro v' hv
  simp only [frz,Option.bnd_eq_some_iff,Option.some.injEq] at hv
  obtain ⟨cs',hcs',rfl⟩:=hv
  obtain ⟨l1,l2⟩:=many cs us ih cs' hcs'
  exact .tup cs' us (by omega) l2
 | iface t v u h ih =>
  intro v' hv
  simp only [frz,Option.bnd_eq_some_iff,Option.some.injEq] at hv
  obtain ⟨x,hx',rfl⟩:=hv
  exact .iface t x u (ih x hx')
 | undef u hu=>intro v' hv;simp only [frz,Option.some.injEq] at hv;subst hv;exact .undef u hu
 | bool b=>intro v' hv;simp only [frz,Option.some.injEq] at hv;subst hv;exact .bool b
 | int k n=>intro v' hv;simp only [frz,Option.some.injEq] at hv;subst hv;exact .int k n
 | str l s h=>intro v' hv;simp only [frz,Option.some.injEq] at hv;subst hv;exact .str l s h
 | nilp=>intro v' hv;simp only [frz,Option.some.injEq] at hv;subst hv;exact .nilp
 | bnil t=>intro v' hv;simp only [frz,Option.some.injEq] at hv;subst hv;exact .bnil t
 | ptr b off h=>intro v' hv;simp only [frz,Option.some.injEq] at hv;subst hv;exact (RV.ptr b off h).mono hx
 | ep cs off c o u hc hr hf ih=>intro v' hv;simp only [frz,Option.some.injEq] at hv;subst hv;exact (RV.ep cs off c o u hc hr hf).mono hx
 | nils=>intro v' hv;simp only [frz,Option.some.injEq] at hv;subst hv;exact .nils
 | nilif=>intro v' hv;simp only [frz,Option.some.injEq] at hv;subst hv;exact .nilif
 | nilf=>intro v' hv;simp only [frz,Option.some.injEq] at hv;subst hv;exact .nilf
 | fn f cap us hs hr ih=>intro v' hv;simp only [frz,Option.some.injEq] at hv;subst hv;exact (RV.fn f cap us hs hr).mono hx
 | it b h=>intro v' hv;simp only [frz,Option.some.injEq] at hv;subst hv;exact (RV.it b h).mono hx
 | nilm=>intro v' hv;simp only [frz,Option.some.injEq] at hv;subst hv;exact .nilm
 | mref b h=>intro v' hv;simp only [frz,Option.some.injEq] at hv;subst hv;exact (RV.mref b h).mono hx
theorem clo_of {g:G} {h:Hp} {w:World} (k:OkH N0 w0 g h w):Clo (size h) h:=by
 intro b y hb hy x hx
 rw [←k.n]
 have hk:=k.box b y hy
 cases y with
 | cells cs =>
  obtain ⟨_,_,arr,T,lo,hi,_,_,_,_,q5⟩:=hk
  obtain ⟨j,hj⟩:=List.getElem?_of_mem (show x∈cs from hx)
  exact rv_below (q5 j x hj)
 | map es =>
  obtain ⟨_,_,ea,cl,_,_,_,q5⟩:=hk
  obtain ⟨e,he,hxe⟩:=List.mem_flatMap.1 (show x∈es.flatMap fun e=>[e.1,e.2] from hx)
  obtain ⟨i,hi⟩:=List.getElem?_of_mem he
  obtain ⟨z,_,_,_,r1,r2⟩:=q5 i e hi
  simp only [List.mem_cons,List.not_mem_nil,or_false] at hxe
  rcases hxe with rfl | rfl
  ·exact rv_below r1
  ·exact rv_below r2
 | tok n T=>cases hx
 | iter s p=>cases hx
 | dead=>cases hx
theorem look_params:∀ (vs:List PV) (i t:Nat),look (params i vs) t=if i≤t then vs[t - i]? else none
 | [],i,t=>by simp [params,look]
 | v :: vs,i,t=>by
  simp only [params,look,look_params vs (i+1) t]
  by_cases h1:i=t
  ·subst h1;simp
  ·by_cases h2:i≤t
   ·rw [if_neg h1,if_pos (by omega),if_pos h2,show t - i=(t - (i+1))+1 by omega,List.getElem?_cons_succ]
   ·rw [if_neg h1,if_neg (by omega),if_neg h2]
def resOne (tm:Array Value):ResultVar→Sem Value
 | .tmp t=>pure (tm.getD t Go.undef)
 | .cell x t=>do loadVar t (←asAddr (tm.getD x Go.undef))
theorem result_rv {g:G} {e:Env} {a:Act} {h:Hp} {w:World} (k:Ok (N0:=N0) w0 g e a.tmps h w) {rv:ResultVar} {rs:List (Nat × Option (Nat × Bool))} (hc:cResults P [rv]=some rs) {vs:List PV} (hr:resultsOf e h rs=some vs) :
  ∃ v u,vs=[v]∧(resOne a.tmps rv).run P w=.ok u w∧RV N0 g w v u:=by
 have fin:∀ v u,RV N0 g w v u→RV N0 g w v u:=fun v u hv=>hv
 cases rv with
 | tmp t =>
  simp only [cResults,Option.map_some,Option.some.injEq] at hc
  subst hc
  simp only [resultsOf,resultOf,Option.bnd_eq_some_iff,Option.some.injEq] at hr
  obtain ⟨v,hv,_,rfl,rfl⟩:=hr
  exact ⟨_,_,rfl,rfl,fin _ _ (k.env t v hv)⟩
 | cell x t =>
  simp only [cResults,Option.bind_eq_some_iff,Option.map_some] at hc
  obtain ⟨n,hn,gg,hg,hc⟩:=hc
  split at hc
  ·rename_i hcond
   simp only [Option.some.injEq] at hc
   subst hc
   simp only [resultsOf,resultOf,Option.bnd_eq_some_iff,Option.some.injEq] at hr
   obtain ⟨r,⟨p,hp,hr⟩,_,rfl,rfl⟩:=hr
   have hrp:=k.env x p hp
   generalize hA:a.tmps.getD x Go.undef=A at hrp
   cases hrp <;> simp only at hr <;> (try cases hr)
   rename_i b off hb
   simp only [Option.bnd_eq_some_iff] at hr
   obtain ⟨cs,hcs,hr⟩:=hr
   obtain ⟨u,h1,h2⟩:=box_cell k hcs
   obtain ⟨v,hv1,hv2⟩:=load_row1 (P:=P) (o:=0) hn hg (c:=g.ι b) (cs:=cs) (u:=u) (off:=off) (fun j hj=>by rw [Nat.zero_add];exact h1 j hj) h2 (m:=n) (fun _=>rfl) hr
   rw [Nat.zero_add] at hv1
   exact ⟨_,v,rfl,by simp only [resOne,hA,asAddr,Sem.run_bind,Sem.run_pure,Result.andThen,hv1],fin _ _ hv2⟩
  ·cases hc
theorem results_rv {g:G} {e:Env} {a:Act} {h:Hp} {w:World} (k:Ok (N0:=N0) w0 g e a.tmps h w):∀ (rvs:List ResultVar) (rs:List (Nat × Option (Nat × Bool))) (vs:List PV),cResults P rvs=some rs→resultsOf e h rs=some vs →
  ∃ us:List Value,(rvs.mapM (resOne a.tmps)).run P w=.ok us w∧us.length=vs.length∧∀ (j:Nat) (x:PV),vs[j]?=some x→RV N0 g w x (us.getD j Go.undef)
 | [],rs,vs,hc,hr=>by
  simp [cResults] at hc;subst hc
  simp [resultsOf] at hr;subst hr
  exact ⟨[],by simp,rfl,fun j x hx=>by simp at hx⟩
 | rv :: rvs,rs,vs,hc,hr=>by
  have hsplit:∃ r1 rs',cResults P [rv]=some [r1]∧cResults P rvs=some rs'∧rs=r1 :: rs':=by
   cases rv with
   | tmp t =>
    simp only [cResults,Option.map_eq_some_iff] at hc
    obtain ⟨rs',h1,rfl⟩:=hc
    exact ⟨(t,none),rs',rfl,h1,rfl⟩
   | cell x t =>
    simp only [cResults,Option.bind_eq_some_iff] at hc
    obtain ⟨n,hn,gg,hg,hc⟩:=hc
    split at hc
    ·rename_i hcond
     simp only [Option.map_eq_some_iff] at hc
     obtain ⟨rs',h1,rfl⟩:=hc
     exact ⟨(x,some (n,gg)),rs',by simp only [cResults,hn,hg,Option.bind_some,if_pos hcond,Option.map_some],h1,rfl⟩
    ·cases hc
  obtain ⟨r1,rs',hc1,hc2,rfl⟩:=hsplit
  simp only [resultsOf,Option.bnd_eq_some_iff,Option.some.injEq] at hr
  obtain ⟨v,hv,vs',hvs',rfl⟩:=hr
  obtain ⟨v',u,hv',hu,hru⟩:=result_rv (P:=P) k hc1 (vs:=[v]) (by simp only [resultsOf,hv,Option.bnd])
  simp only [List.cons.injEq,and_true] at hv'
  subst hv'
  obtain ⟨us,h1,h2,h3⟩:=results_rv k rvs rs' vs' hc2 hvs'
  refine ⟨u :: us,?_,by simp [h2],fun j x hx=>?_⟩
  ·simp only [List.mapM_cons,Sem.run_bind]
   rw [hu]
   simp only [Result.andThen]
   rw [h1]
   simp only [Result.andThen,Sem.run_pure]
  ·cases j with
   | zero=>simp at hx;subst hx;simpa using hru
   | succ j=>simpa using h3 j x (by simpa using hx)
theorem results_run {g:G} {e:Env} {a:Act} {h:Hp} {w:World} (k:Ok (N0:=N0) w0 g e a.tmps h w) {fn:Func} {rs:List (Nat × Option (Nat × Bool))} {vs:List PV} (hc:cResults P fn.results.toList=some rs) (hr:resultsOf e h rs=some vs) :
  ∃ u,(results fn a.tmps).run P w=.ok u w∧RV N0 g w (result1 vs) u:=by
 obtain ⟨us,h1,h2,h3⟩:=results_rv k fn.results.toList rs vs hc hr
 have hrun:(results fn a.tmps).run P w=.ok (if hs:us.toArray.size=1 then us.toArray[0] else .tuple us.toArray) w:=by
  have hq:results fn a.tmps=(do let vs ←fn.results.mapM (resOne a.tmps);pure (if h:vs.size=1 then vs[0] else .tuple vs)):=rfl
  rw [hq,Array.mapM_eq_mapM_toList]
  simp [h1]
 refine ⟨_,hrun,?_⟩
 match vs,us,h2,h3 with
 | [],[],_,_=>exact .tup [] #[] rfl (fun j x hx=>by simp at hx)
 | [v],[u],_,h3=>simpa [result1] using h3 0 v rfl
 | v :: v' :: vs,u :: u' :: us,h2,h3 =>
  rw [dif_neg (by simp)]
  refine .tup (v :: v' :: vs) (u :: u' :: us).toArray (by simpa using h2) fun j x hx=>?_
  simpa [List.getD_eq_getElem?_getD,Array.getD_eq_getD_getElem?] using h3 j x hx
end
end Go.Am
namespace Go.Am
open Go.RowKit (Below)
set_option linter.unusedVariables false
set_option linter.unusedSimpArgs false
set_option linter.unusedSectionVars false
section
variable {N0:Nat} {P:Program} {w0:World} {gl:Globs}
def SimTo (N0:Nat) (P:Program) (w0:World) (nt:Nat) (e:Env) (h:Hp) (x:AEx) (e':Env) (h':Hp) (W:(Exit→Act→World→Prop)→Act→World→Prop):Prop :=
 ∀ ⦃ds:List Deferred⦄ (g:G) (a:Act) (w:World),Ok (N0:=N0) w0 g e a.tmps h w→nt≤a.tmps.size→a.defers=ds→∀ Q:Exit→Act→World→Prop,
  (∀ g' a' w',Ext N0 g w g' w'→Ok (N0:=N0) w0 g' e' a'.tmps h' w'→nt≤a'.tmps.size→a'.defers=ds→Q (exitOf x) a' w')→W Q a w
def SimC (gl:Globs) (N0:Nat) (P:Program) (w0:World) (T:Table) (n:Nat):Prop:=∀ (c:Code) (ac:ACode) (an:Ann) (nt base:Nat) (kp:List Nat) (e:Env) (h:Hp) (x:AEx) (e':Env) (h':Hp),
 cCode P gl an nt c=some ac→exec T n (setKeep kp ac) base e h=some (x,e',h')→base≤size h→SimTo N0 P w0 nt e h x e' h' fun Q=>c.wp P Q
def SimL (gl:Globs) (N0:Nat) (P:Program) (w0:World) (T:Table) (n:Nat):Prop:=∀ (c:Code) (ac:ACode) (an:Ann) (nt base:Nat) (kp:List Nat) (e:Env) (h:Hp) (x:AEx) (e':Env) (h':Hp),
 cCode P gl an nt c=some ac→exec T n (.loop (setKeep kp ac)) base e h=some (x,e',h')→base≤size h→SimTo N0 P w0 nt e h x e' h' fun Q=>Code.rounds P c Q n
theorem orcQ_sim {base:Nat} {orc:Orc} (horc:OrcSim N0 P w0 base orc):OrcSim N0 P w0 base (orcQ orc):=by
 intro f vs h r h' hs hb g us w k hl hrel
 simp only [orcQ,Option.bnd_eq_some_iff] at hs
 obtain ⟨⟨r1,h1⟩,hs,hf⟩:=hs
 have hc:=horc f vs h r1 h1 hs hb g us w k hl hrel
 unfold forget at hf
 split at hf
 ·rename_i hq
  simp only at hq
  subst hq
  cases hf
  exact hc
 ·simp only [Option.bnd_eq_some_iff] at hf
  obtain ⟨v,hv,hf⟩:=hf
  split at hf
  ·rename_i hcond
   obtain ⟨hbl,hle,htr⟩:=hcond
   cases hf
   refine hc.mono fun en w' hen=>?_
   obtain ⟨u,g',rfl,hx,hok,hr⟩:=hen
   have hclo:Clo (size h) h1:=by
    intro b cs hlt hcs
    refine clo_of k b cs hlt ?_
    rw [←htr,box_trunc hlt]
    exact hcs
   have hr2:=frz_rv hok (n:=size h) hr _ hv
   refine ⟨u,{ gEnd g' h1 w' (size h) none with n:=size h },rfl,?_,?_,rv_fewer hr2 hbl⟩
   ·exact ext_fewer (hx.trans (ext_hwEnd hok (size h) none)) (by rw [k.n];exact Nat.le_refl _)
   ·have:=ok_trunc hok hle hclo
    rw [htr] at this
    exact this
  ·cases hf
theorem stuck_exec {T:Table} {n base:Nat} {kp:List Nat} {e:Env} {h:Hp} {x:AEx × Env × Hp} (hs:exec T n (setKeep kp stuckC) base e h=some x):False:=by
 cases n with
 | zero=>simp [exec] at hs
 | succ n=>simp [stuckC,setKeep,exec,execOps,wanted,step,Option.bnd] at hs
theorem sim_region (hgl:GlobOk gl N0 w0) {I:Nat→World→Prop} (hI:I N0 w0) {T:Table} (hT:TableOk P gl I T) {n:Nat} (hF:∀ base,OrcSim N0 P w0 base (call T n base)) {id:Nat} {ops:Array Oper} {draw:Bool} {ac:ACode} {an:Ann} {nt base:Nat} {kp:List Nat} {e:Env} {h:Hp} {x:AEx} {e':Env} {h':Hp}
  (hc:cCode P gl an nt (.region id ops draw)=some ac) (hs:exec T (n+1) (setKeep kp ac) base e h=some (x,e',h')) (hb:base≤size h) :
  SimTo N0 P w0 nt e h x e' h' fun Q=>(Code.region id ops draw).wp P Q:=by
 intro ds g a w k hsz hd Q hQ
 simp only [cCode,Option.bind_eq_some_iff] at hc
 obtain ⟨l,hl,hc⟩:=hc
 obtain ⟨h1,h2⟩:=cOps_made ops.toList 0 l hl
 have hmade:∀ (j:Nat) (o:Oper),ops[j]?=some o→∃ ao,l[j]?=some ao∧Made P gl nt ops o ao:=fun j o ho=>h2 j o (by simpa using ho)
 have hlen:l.length=ops.size:=by rw [h1];simp
 have hmade':∀ (j:Nat) (o:Oper),ops[j]?=some o→∃ ao,(hush an id ops 0 l)[j]?=some ao∧Made P gl nt ops o ao:=by
  intro j o ho
  obtain ⟨ao,q1,q2⟩:=hmade j o ho
  obtain ⟨y,q3,q4⟩:=(hush_get (an:=an) (id:=id) (ops:=ops) l 0).2 j ao q1
  exact ⟨y,q3,made_quiet q2 q4⟩
 have hlen':(hush an id ops 0 l).length=ops.size:=by rw [(hush_get l 0).1];exact hlen
 replace hmade:=hmade'
 replace hlen:=hlen'
 clear hmade' hlen' h1 h2 hl
 generalize hush an id ops 0 l=l at *
 have hgrow:∀ h f vs r,base≤size h→call T n base f vs h=some r→Grows base h r.2:=fun h f vs r hb hr=>(grows_all n).2 base f vs h hb r hr
 have hall:(List.range ops.size).map (fun i=>l.getD i ⟨none,none,.alloc []⟩)=l:=by
  apply List.ext_getElem?
  intro j
  by_cases hj:j < ops.size
  ·have hj':j < l.length:=by omega
   simp [hj,hj',List.getD_eq_getElem?_getD]
  ·simp [hj];omega
 have run:∀ (dr:Bool),exec T (n+1) (.ops l dr kp) base e h=some (x,e',h')→∃ e1,execOps (call T n base) base dr l e h=some (e1,h')∧x=.norm∧e'=prune kp e1:=by
  intro dr hx
  rw [exec] at hx
  simp only [Option.bnd_eq_some_iff,Option.some.injEq,Prod.mk.injEq] at hx
  obtain ⟨⟨e1,h1⟩,q1,rfl,rfl,rfl⟩:=hx
  exact ⟨e1,q1,rfl,rfl⟩
 have prune_eqv:∀ (e1 e2:Env),Eqv e1 e2→∀ ts,prune ts e1=prune ts e2:=by
  intro e1 e2 he ts
  induction ts with
  | nil=>rfl
  | cons t ts ih=>simp only [prune,he t,ih]
 cases draw with
 | false =>
  simp only [Bool.false_eq_true,if_false,Option.some.injEq] at hc
  subst hc
  obtain ⟨e1,q1,rfl,rfl⟩:=run false hs
  refine wp_region (sim_ops hgl hmade (hF base) (orcQ_sim (hF base)) hgrow (List.range ops.size) g e a h w (fun i hi=>List.mem_range.1 hi) hlen k hsz hd hb (by rw [hall];exact q1) fun g' a' w' hx hk hs' hd'=>?_)
  exact hQ g' a' w' hx (hk.sub (fun t v hv=>look_prune kp e1 t v hv)) hs' hd'
 | true =>
  simp only [if_true] at hc
  split at hc
  ·rename_i hfol
   split at hc
   ·rename_i hdr
    simp only [Option.some.injEq] at hc
    subst hc
    obtain ⟨hl1,hl2⟩:=quieten_get (ops:=ops) (l:=l) l 0
    have hmade2:∀ (j:Nat) (o:Oper),ops[j]?=some o→∃ ao,(quieten ops l 0 l)[j]?=some ao∧Made P gl nt ops o ao:=by
     intro j o ho
     obtain ⟨ao,q1,q2⟩:=hmade j o ho
     obtain ⟨y,q3,q4⟩:=hl2 j ao q1
     exact ⟨y,q3,made_quiet q2 q4⟩
    have hmadep:=made_parts (an:=an) (id:=id) hmade2
    have hlen2:(partOps an id (quieten ops l 0 l)).length=ops.size:=by rw [hmadep.1,hl1];exact hlen
    replace hmade2:=hmadep.2
    clear hmadep hl2 hl1
    generalize partOps an id (quieten ops l 0 l)=l2 at *
    have hall2:(List.range ops.size).map (fun i=>l2.getD i ⟨none,none,.alloc []⟩)=l2:=by
     apply List.ext_getElem?
     intro j
     by_cases hj:j < ops.size
     ·have hj':j < l2.length:=by omega
      simp [hj,hj',List.getD_eq_getElem?_getD]
     ·simp [hj];omega
    rw [setKeep,exec] at hs
    simp only [Option.bnd_eq_some_iff,Option.some.injEq,Prod.mk.injEq] at hs
    obtain ⟨⟨e1,h1⟩,q1,rfl,rfl,rfl⟩:=hs
    refine wp_region_any hfol ?_
    have hrest:rest ops.size (Array.replicate ops.size false)=List.range ops.size:=by
     unfold rest
     rw [List.filter_eq_self]
     intro i hi
     simp at hi
     simp [Array.getD_eq_getD_getElem?,hi]
    have kd:Ok (N0:=N0) w0 g e a.tmps h w.drew:=ok_drew k
    refine sim_draw hgl hmade2 hlen2 hdr (hF base) (orcQ_sim (hF base)) hgrow (e9:=e1) ops.size (Array.replicate ops.size false) g e a h w.drew (by simp) ?_ (by rw [hrest];simp) kd hsz hd hb ⟨e1,Eqv.refl _,by rw [hrest,hall2];exact q1⟩ fun g' a' w' e2 he2 hx hk hs' hd'=>?_
    ·intro i hi m hm
     exfalso
     by_cases hlt:i < ops.size
     ·simp [Array.getD_eq_getD_getElem?,hlt] at hi
     ·simp [Array.getD_eq_getD_getElem?,hlt] at hi
    ·refine hQ g' a' w' ((ext_drew g w).trans hx) ?_ hs' hd'
     rw [prune_eqv e1 e2 he2]
     exact hk.sub (fun t v hv=>look_prune kp e2 t v hv)
   ·simp only [Option.some.injEq] at hc;subst hc;exact (stuck_exec hs).elim
  ·simp only [Option.some.injEq] at hc;subst hc;exact (stuck_exec hs).elim
theorem ext_kept {g g1:G} {h h1:Hp} {w w1:World} (k:OkH N0 w0 g h w) (k1:OkH N0 w0 g1 h1 w1) (hx:Ext N0 g w g1 w1) (n b:Nat) (hn:n=size h:=by rfl) :
  Ext N0 g w { gEnd g1 h1 w1 n (some b) with n:=n+1,ι:=fun i=>if i=n then g1.ι b else g1.ι i,tk:=fun i=>if i=n then g1.tk b else g1.tk i,cp:=fun i=>if i=n then g1.cp b else g1.cp i } w1:=by
 have hh:=hx.trans (ext_hwEnd k1 n (some b))
 have hgn:=k.n
 refine ⟨by show g.n≤n+1;omega,fun c hc=>?_,hh.hw,hh.cell,hh.old,fun t ht=>?_,fun c hc=>?_⟩
 ·show (if c=n then _ else _)=_
  rw [if_neg (by omega)];exact hx.ι c hc
 ·show (g.tk t).e≤(if t=n then _ else _:Tk).e∧((if t=n then _ else _:Tk).e=_→(if t=n then _ else _:Tk)=_)
  rw [if_neg (by omega)];exact hx.tk t ht
 ·show (if c=n then _ else _)=_
  rw [if_neg (by omega)];exact hx.cp c hc
theorem rv_moved {g1:G} {h1:Hp} {w1:World} (k1:OkH N0 w0 g1 h1 w1) {n b:Nat} {v:PV} {u:Value} (hr:RV N0 g1 w1 v u) (hb:below n v=true) :
  RV N0 { gEnd g1 h1 w1 n (some b) with n:=n+1,ι:=fun i=>if i=n then g1.ι b else g1.ι i,tk:=fun i=>if i=n then g1.tk b else g1.tk i,cp:=fun i=>if i=n then g1.cp b else g1.cp i } w1 v u:=by
 have h2:=rv_fewer (hr.mono (ext_hwEnd k1 n (some b))) hb
 have hxx:Ext N0 { gEnd g1 h1 w1 n (some b) with n:=n } w1 { gEnd g1 h1 w1 n (some b) with n:=n+1,ι:=fun i=>if i=n then g1.ι b else g1.ι i,tk:=fun i=>if i=n then g1.tk b else g1.tk i,cp:=fun i=>if i=n then g1.cp b else g1.cp i } w1:=by
  refine ⟨Nat.le_succ n,fun c hc=>?_,fun c m hm=>⟨m,hm,Nat.le_refl _⟩,fun _ _ _ _ _=>rfl,fun _ _ _=>rfl,fun t ht=>?_,fun c hc=>?_⟩
  ·have hc':c < n:=hc
   show (if c=n then _ else _)=_;rw [if_neg (by omega)];rfl
  ·have ht':t < n:=ht
   show (g1.tk t).e≤(if t=n then _ else _:Tk).e∧((if t=n then _ else _:Tk).e=_→(if t=n then _ else _:Tk)=_)
   rw [if_neg (by omega)];exact ⟨Nat.le_refl _,fun _=>rfl⟩
  ·have hc':c < n:=hc
   show (if c=n then _ else _)=_;rw [if_neg (by omega)];rfl
 exact h2.mono hxx
theorem rv_tok_moved {g1:G} {h1:Hp} {w1:World} (k1:OkH N0 w0 g1 h1 w1) {n t:Nat} (hn:n≤t) {sz:Nat} {es:List PV} {u:Value} (hb:belows n es=true) (hr:RV N0 g1 w1 (.sl (.tok t) sz es) u) :
  RV N0 { gEnd g1 h1 w1 n (some t) with n:=n+1,ι:=fun i=>if i=n then g1.ι t else g1.ι i,tk:=fun i=>if i=n then g1.tk t else g1.tk i,cp:=fun i=>if i=n then g1.cp t else g1.cp i } w1 (.sl (.tok n) sz es) u:=by
 have hno:RV N0 g1 w1 (.sl .no sz es) u:=by have:=rv_strip hr;simpa [strip,Own.strip] using this
 have h2:=rv_moved (n:=n) (b:=t) k1 hno (by simp only [below,Own.below,Bool.true_and];exact hb)
 cases hr with
 | sl _ _ _ c o cap uu q1 q2 q3 q4 q5 q6 sp q8 q9 =>
  generalize hU:Value.slice (some ⟨c,o,sp⟩) es.length cap=U at h2
  cases h2 with
  | sl _ _ _ c' o' cap' uu' p1 p2 p3 p4 p5 p6 sp' p8 p9 =>
   cases hU
   refine .sl _ sz es c o cap uu' p1 (by simp) p3 p4 p5 p6 sp p8 fun t' ht'=>?_
   cases ht'
   obtain ⟨r1,r2,r3⟩:=q9 t rfl
   refine ⟨Nat.lt_succ_self n,?_⟩
   show es.length≤(if n=n then _ else _:Tk).e∧((if n=n then _ else _:Tk).e=_→(if n=n then _ else _:Tk)=_∧_)
   rw [if_pos rfl]
   exact ⟨r2,r3⟩
theorem frzs_rv {g:G} {h:Hp} {w:World} (k:OkH N0 w0 g h w) {n:Nat}:∀ {vs:List PV} {us:List Value},(∀ (j:Nat) (x:PV),vs[j]?=some x→RV N0 g w x (us.getD j Go.undef))→∀ vs',frzs n h vs=some vs' →
  vs'.length=vs.length∧∀ (j:Nat) (x:PV),vs'[j]?=some x→RV N0 (gEnd g h w n none) w x (us.getD j Go.undef)
 | [],us,hr,vs',hv=>by simp only [frzs,Option.some.injEq] at hv;subst hv;exact ⟨rfl,fun j x hx=>by simp at hx⟩
 | v :: vs,us,hr,vs',hv=>by
  simp only [frzs,Option.bnd_eq_some_iff,Option.some.injEq] at hv
  obtain ⟨v',hv',vs2,hvs2,rfl⟩:=hv
  obtain ⟨l1,l2⟩:=frzs_rv k (us:=us.drop 1) (fun j x hx=>by
   have:=hr (j+1) x (by simpa using hx)
   rw [List.getD_eq_getElem?_getD] at this ⊢
   rwa [List.getElem?_drop,Nat.add_comm]) vs2 hvs2
  refine ⟨by simp [l1],fun j x hx=>?_⟩
  cases j with
  | zero=>simp at hx;subst hx;exact frz_rv k (hr 0 v rfl) _ hv'
  | succ j =>
   have:=l2 j x (by simpa using hx)
   rw [List.getD_eq_getElem?_getD] at this ⊢
   rwa [List.getElem?_drop,Nat.add_comm] at this
theorem result1_rv {g:G} {w:World}:∀ {vs:List PV} {us:List Value},us.length=vs.length→(∀ (j:Nat) (x:PV),vs[j]?=some x→RV N0 g w x (us.getD j Go.undef))→RV N0 g w (result1 vs) (if hs:us.toArray.size=1 then us.toArray[0] else .tuple us.toArray)
 | [],[],_,_=>.tup [] #[] rfl (fun j x hx=>by simp at hx)
 | [v],[u],_,h3=>by simpa [result1] using h3 0 v rfl
 | v :: v' :: vs,u :: u' :: us,h2,h3=>by
  rw [dif_neg (by simp)]
  refine .tup (v :: v' :: vs) (u :: u' :: us).toArray (by simpa using h2) fun j x hx=>?_
  simpa [List.getD_eq_getElem?_getD,Array.getD_eq_getD_getElem?] using h3 j x hx
 | [],u :: us,h,_=>by simp at h
 | [v],[],h,_=>by simp at h
 | [v],u :: u' :: us,h,_=>by simp at h
 | v :: v' :: vs,[],h,_=>by simp at h
 | v :: v' :: vs,[u],h,_=>by simp at h
theorem results_list {g:G} {e:Env} {a:Act} {h:Hp} {w:World} (k:Ok (N0:=N0) w0 g e a.tmps h w) {fn:Func} {rs:List (Nat × Option (Nat × Bool))} {vs:List PV} (hc:cResults P fn.results.toList=some rs) (hr:resultsOf e h rs=some vs) :
  ∃ us:List Value,(results fn a.tmps).run P w=.ok (if hs:us.toArray.size=1 then us.toArray[0] else .tuple us.toArray) w∧us.length=vs.length∧∀ (j:Nat) (x:PV),vs[j]?=some x→RV N0 g w x (us.getD j Go.undef):=by
 obtain ⟨us,h1,h2,h3⟩:=results_rv k fn.results.toList rs vs hc hr
 refine ⟨us,?_,h2,h3⟩
 have hq:results fn a.tmps=(do let vs ←fn.results.mapM (resOne a.tmps);pure (if h:vs.size=1 then vs[0] else .tuple vs)):=rfl
 rw [hq,Array.mapM_eq_mapM_toList]
 simp [h1]
theorem sim_step (hgl:GlobOk gl N0 w0) {I:Nat→World→Prop} (hI:I N0 w0) {T:Table} (hT:TableOk P gl I T) (n:Nat) (hC:SimC gl N0 P w0 T n) (hL:SimL gl N0 P w0 T n) (hF:∀ base,OrcSim N0 P w0 base (call T n base)) :
  SimC gl N0 P w0 T (n+1)∧SimL gl N0 P w0 T (n+1)∧∀ base,OrcSim N0 P w0 base (call T (n+1) base):=by
 have hgrow:=fun c base e h hb=>(grows_all (T:=T) n).1 c base e h hb
 have hL1:SimL gl N0 P w0 T (n+1):=by
  intro c ac an nt base kp e h x e' h' hc hs hb ds g a w k hsz hd Q hQ
  rw [exec] at hs
  simp only [Option.bnd_eq_some_iff] at hs
  obtain ⟨⟨x1,e1,h1⟩,hs1,hs2⟩:=hs
  have hg:=hgrow _ base e h hb _ hs1
  show c.wp P (Exit.then (Code.rounds P c Q n) Q) a w
  refine hC c ac an nt base kp e h x1 e1 h1 hc hs1 hb g a w k hsz hd _ fun g1 a1 w1 hx1 k1 hsz1 hd1=>?_
  cases x1 with
  | norm =>
   exact hL c ac an nt base kp e1 h1 x e' h' hc hs2 (Nat.le_trans hb hg.1) g1 a1 w1 k1 hsz1 hd1 Q fun g' a' w' hx'=>hQ g' a' w' (hx1.trans hx')
  | exit i =>
   simp only [Option.some.injEq,Prod.mk.injEq] at hs2
   obtain ⟨rfl,rfl,rfl⟩:=hs2
   exact hQ g1 a1 w1 hx1 k1 hsz1 hd1
  | ret =>
   simp only [Option.some.injEq,Prod.mk.injEq] at hs2
   obtain ⟨rfl,rfl,rfl⟩:=hs2
   exact hQ g1 a1 w1 hx1 k1 hsz1 hd1
 refine ⟨?_,hL1,?_⟩
 ·intro c ac an nt base kp e h x e' h' hc hs hb
  cases c with
  | skip =>
   simp only [cCode,Option.some.injEq] at hc
   subst hc
   intro ds g a w k hsz hd Q hQ
   simp only [setKeep,exec,Option.some.injEq,Prod.mk.injEq] at hs
   obtain ⟨rfl,rfl,rfl⟩:=hs
   exact wp_skip (hQ g a w (Ext.refl _ _ _) k hsz hd)
  | exit id =>
   simp only [cCode,Option.some.injEq] at hc
   subst hc
   intro ds g a w k hsz hd Q hQ
   simp only [setKeep,exec,Option.some.injEq,Prod.mk.injEq] at hs
   obtain ⟨rfl,rfl,rfl⟩:=hs
   exact wp_exit (hQ g a w (Ext.refl _ _ _) k hsz hd)
  | ret =>
   simp only [cCode,Option.some.injEq] at hc
   subst hc
   intro ds g a w k hsz hd Q hQ
   simp only [setKeep,exec,Option.some.injEq,Prod.mk.injEq] at hs
   obtain ⟨rfl,rfl,rfl⟩:=hs
   exact wp_ret (hQ g a w (Ext.refl _ _ _) k hsz hd)
  | region id ops draw=>exact sim_region hgl hI hT hF hc hs hb
  | seq c1 c2 =>
   simp only [cCode,Option.bind_eq_some_iff,Option.map_eq_some_iff] at hc
   obtain ⟨a1,ha1,a2,ha2,rfl⟩:=hc
   intro ds g a w k hsz hd Q hQ
   simp only [setKeep] at hs
   rw [exec] at hs
   simp only [Option.bnd_eq_some_iff] at hs
   obtain ⟨⟨x1,e1,h1⟩,hs1,hs2⟩:=hs
   have hg:=hgrow _ base e h hb _ hs1
   refine wp_seq (hC c1 a1 an nt base kp e h x1 e1 h1 ha1 hs1 hb g a w k hsz hd _ fun g1 a1' w1 hx1 k1 hsz1 hd1=>?_)
   cases x1 with
   | norm =>
    exact hC c2 a2 an nt base kp e1 h1 x e' h' ha2 hs2 (Nat.le_trans hb hg.1) g1 a1' w1 k1 hsz1 hd1 Q fun g' a' w' hx'=>hQ g' a' w' (hx1.trans hx')
   | exit i =>
    simp only [Option.some.injEq,Prod.mk.injEq] at hs2
    obtain ⟨rfl,rfl,rfl⟩:=hs2
    exact hQ g1 a1' w1 hx1 k1 hsz1 hd1
   | ret =>
    simp only [Option.some.injEq,Prod.mk.injEq] at hs2
    obtain ⟨rfl,rfl,rfl⟩:=hs2
    exact hQ g1 a1' w1 hx1 k1 hsz1 hd1
  | cond c c1 c2 =>
   simp only [cCode,Option.bind_eq_some_iff,Option.map_eq_some_iff] at hc
   obtain ⟨c',hc',a1,ha1,a2,ha2,rfl⟩:=hc
   intro ds g a w k hsz hd Q hQ
   simp only [setKeep] at hs
   rw [exec] at hs
   simp only [Option.bnd_eq_some_iff] at hs
   obtain ⟨v,hv,hs⟩:=hs
   rw [condB_some] at hs
   rcases hs with ⟨rfl,hs⟩ | ⟨rfl,hs⟩
   ·exact wp_cond_true (rv_bool (rv_ev hgl k hc' hv)) (hC c1 a1 an nt base kp e h x e' h' ha1 hs hb g a w k hsz hd Q hQ)
   ·exact wp_cond_false (rv_bool (rv_ev hgl k hc' hv)) (hC c2 a2 an nt base kp e h x e' h' ha2 hs hb g a w k hsz hd Q hQ)
  | block id c1 =>
   simp only [cCode,Option.map_eq_some_iff] at hc
   obtain ⟨a1,ha1,rfl⟩:=hc
   intro ds g a w k hsz hd Q hQ
   simp only [setKeep] at hs
   rw [exec] at hs
   simp only [Option.bnd_eq_some_iff] at hs
   obtain ⟨⟨x1,e1,h1⟩,hs1,hs2⟩:=hs
   refine wp_block (hC c1 a1 an nt base kp e h x1 e1 h1 ha1 hs1 hb g a w k hsz hd _ fun g1 a1' w1 hx1 k1 hsz1 hd1=>?_)
   cases x1 with
   | norm =>
    simp only [Option.some.injEq,Prod.mk.injEq] at hs2
    obtain ⟨rfl,rfl,rfl⟩:=hs2
    exact hQ g1 a1' w1 hx1 k1 hsz1 hd1
   | exit i =>
    simp only at hs2
    show (if i=id then Q .normal a1' w1 else Q (.exit i) a1' w1)
    split at hs2
    ·rename_i hi
     simp only [Option.some.injEq,Prod.mk.injEq] at hs2
     obtain ⟨rfl,rfl,rfl⟩:=hs2
     rw [if_pos hi]
     exact hQ g1 a1' w1 hx1 k1 hsz1 hd1
    ·rename_i hi
     simp only [Option.some.injEq,Prod.mk.injEq] at hs2
     obtain ⟨rfl,rfl,rfl⟩:=hs2
     rw [if_neg hi]
     exact hQ g1 a1' w1 hx1 k1 hsz1 hd1
   | ret =>
    simp only [Option.some.injEq,Prod.mk.injEq] at hs2
    obtain ⟨rfl,rfl,rfl⟩:=hs2
    exact hQ g1 a1' w1 hx1 k1 hsz1 hd1
  | loop c1 =>
   simp only [cCode,Option.map_eq_some_iff] at hc
   obtain ⟨a1,ha1,rfl⟩:=hc
   intro ds g a w k hsz hd Q hQ
   exact wp_loop_rounds (n+1) (hL1 c1 a1 an nt base kp e h x e' h' ha1 hs hb g a w k hsz hd Q hQ)
  | scope c1=>simp only [cCode,Option.some.injEq] at hc;subst hc;exact (stuck_exec hs).elim
  | rangeFunc _ _ _ _=>simp only [cCode,Option.some.injEq] at hc;subst hc;exact (stuck_exec hs).elim
  | label _=>simp only [cCode,Option.some.injEq] at hc;subst hc;exact (stuck_exec hs).elim
  | goto _=>simp only [cCode,Option.some.injEq] at hc;subst hc;exact (stuck_exec hs).elim
  | refuse _=>simp only [cCode,Option.some.injEq] at hc;subst hc;exact (stuck_exec hs).elim
 ·intro base f vs h r h' hs hb g us w k hlen hrel
  rw [call] at hs
  cases hf:T f with
  | none=>rw [hf] at hs;cases hs
  | some it =>
   rw [hf] at hs
   cases it with
   | prim pg =>
    simp only [Option.bnd_eq_some_iff] at hs
    obtain ⟨⟨v,m⟩,hv,hs⟩:=hs
    have hq:=hT f _ hf vs h (v,m) hv N0 w0 g us w hI k hlen hrel
    cases m with
    | none =>
     simp only [primEnd,Option.some.injEq,Prod.mk.injEq] at hs
     obtain ⟨rfl,rfl⟩:=hs
     exact .inl hq
    | some q =>
     obtain ⟨b,cs⟩:=q
     simp only [primEnd] at hs
     split at hs
     ·simp only [Option.some.injEq,Prod.mk.injEq] at hs
      obtain ⟨rfl,rfl⟩:=hs
      exact .inl hq
     ·cases hs
   | primN pg =>
    simp only [Option.bnd_eq_some_iff,Option.some.injEq,Prod.mk.injEq] at hs
    obtain ⟨⟨v,m⟩,hv,rfl,rfl⟩:=hs
    exact hT f _ hf vs h (v,m) hv N0 w0 g us w hI k hlen hrel
   | code fn =>
    simp only [Option.bnd_eq_some_iff] at hs
    obtain ⟨⟨x1,e1,h1⟩,hs1,hs2⟩:=hs
    obtain ⟨an,fn0,hfn,hcf⟩:=hT f _ hf
    simp only [cFn,Option.bind_eq_some_iff] at hcf
    obtain ⟨c,hbody,rs,hrs,ac,hac,hcf⟩:=hcf
    split at hcf
    ·rename_i hcond
     simp only [Option.some.injEq] at hcf
     subst hcf
     simp only at hs1 hs2
     refine .inl ⟨?_,calls_of_wp hfn hbody ?_⟩
     ·have hname:(fn0.name == "runtime.NumGoroutine")=false:=by simpa using hcond.2
      simp only [callFunc,Sem.run_bind,program,Sem.run,hfn,hname,hbody,Bool.false_eq_true,if_false,Option.isNone_some,Result.andThen,Sem.run_pure]
     ·have hbase:(if an.keep then base else size h)≤size h:=by split <;> omega
      have hle:base≤(if an.keep then base else size h):=by split <;> omega
      have kparams:Ok (N0:=N0) w0 g (params 0 vs) (us ++ Array.replicate (fn0.ntmps - us.size) Go.undef) h w:=⟨k.n,k.hN,k.below,k.inj,k.box,k.arr,fun t v hv=>by
       rw [look_params,if_pos (Nat.zero_le _),Nat.sub_zero] at hv
       have hlt:t < us.size:=by rw [hlen];exact (List.getElem?_eq_some_iff.1 hv).1
       have:=hrel t v hv
       rw [Array.getD_eq_getD_getElem?,Array.getElem?_append_left hlt,←Array.getD_eq_getD_getElem?]
       exact this⟩
      have hgr:=hgrow _ _ (params 0 vs) h hbase _ hs1
      refine hC c ac an fn0.ntmps _ _ (params 0 vs) h x1 e1 h1 hac hs1 hbase g { tmps:=us ++ Array.replicate (fn0.ntmps - us.size) Go.undef,defers:=[] } w kparams (by simp;omega) rfl _ fun g1 a1 w1 hx1 k1 hsz1 hd1=>?_
      have hfin:finish { results:=rs,body:=setKeep (dedup (readsC ac ++ rs.map (·.1))) ac,keep:=an.keep,own:=an.own } (size h) e1 h1=some (r,h'):=by
       cases x1 with
       | exit i=>cases hs2
       | norm=>exact hs2
       | ret=>exact hs2
      have hpost:∃ v,(results fn0 a1.tmps).run P w1=.ok v w1∧∃ u g',Ending.returned v=.returned u∧Ext N0 g w g' w1∧OkH N0 w0 g' h' w1∧RV N0 g' w1 r u:=by
       unfold finish at hfin
       simp only [Option.bnd_eq_some_iff] at hfin
       obtain ⟨vs',hvs',hfin⟩:=hfin
       obtain ⟨us',hu,hsz',hru⟩:=results_list k1 hrs hvs'
       refine ⟨_,hu,(if hs:us'.toArray.size=1 then us'.toArray[0] else .tuple us'.toArray),?_⟩
       by_cases hkeep:an.keep=true
       ·rw [if_pos hkeep] at hfin
        simp only [Option.some.injEq,Prod.mk.injEq] at hfin
        obtain ⟨rfl,rfl⟩:=hfin
        exact ⟨g1,rfl,hx1,k1.heap,result1_rv hsz' hru⟩
       ·rw [if_neg hkeep] at hfin hgr
        have hkg:=k.n
        have hclo:=hgr.2 _ (Nat.le_refl _) (clo_of k)
        have hst:size h≤size h1:=hgr.1
        -- the plain end
        have plain:∀ vs2,frzs (size h) h1 vs'=some vs2→belows (size h) vs2=true→(r,h')=(result1 vs2,trunc h1 (size h))→∃ g',Ending.returned (if hs:us'.toArray.size=1 then us'.toArray[0] else .tuple us'.toArray)=.returned (if hs:us'.toArray.size=1 then us'.toArray[0] else .tuple us'.toArray)∧Ext N0 g w g' w1∧OkH N0 w0 g' h' w1∧RV N0 g' w1 r (if hs:us'.toArray.size=1 then us'.toArray[0] else .tuple us'.toArray):=by
         intro vs2 h2 h3 h4
         cases h4
         obtain ⟨l1,l2⟩:=frzs_rv k1.heap hru vs2 h2
         refine ⟨{ gEnd g1 h1 w1 (size h) none with n:=size h },rfl,ext_fewer (hx1.trans (ext_hwEnd k1.heap (size h) none)) (by rw [hkg];exact Nat.le_refl _),ok_trunc k1.heap hst hclo,result1_rv (by omega) fun j x hx=>?_⟩
         exact rv_fewer (l2 j x hx) (belows_mem' h3 j x hx)
        split at hfin
        ·simp only [Option.bnd_eq_some_iff,Option.some.injEq,Prod.mk.injEq] at hfin
         obtain ⟨⟨vs2,h2⟩,hown,rfl,rfl⟩:=hfin
         unfold ownEnd at hown
         split at hown
         ·-- a token's slice
          rename_i t sz es vr
          split at hown
          ·rename_i hcond
           obtain ⟨hb1,hb2⟩:=hcond
           split at hown
           ·rename_i hlt
            simp only [Option.some.injEq,Prod.mk.injEq] at hown
            obtain ⟨rfl,rfl⟩:=hown
            refine ⟨{ gEnd g1 h1 w1 (size h) none with n:=size h },rfl,ext_fewer (hx1.trans (ext_hwEnd k1.heap (size h) none)) (by rw [hkg];exact Nat.le_refl _),ok_trunc k1.heap hst hclo,result1_rv hsz' fun j x hx=>?_⟩
            refine rv_fewer ((hru j x hx).mono (ext_hwEnd k1.heap (size h) none)) ?_
            cases j with
            | zero=>simp at hx;subst hx;simp only [below,Own.below,Bool.and_eq_true,decide_eq_true_eq];exact ⟨hlt,hb1⟩
            | succ j=>exact belows_mem' hb2 j x (by simpa using hx)
           ·rename_i hge
            simp only [Option.bnd_eq_some_iff,Option.some.injEq,Prod.mk.injEq] at hown
            obtain ⟨n0,hn0,rfl,rfl⟩:=hown
            have hbx:=box_of_tok hn0
            refine ⟨_,rfl,?_,ok_trunc1 k1.heap hst hclo (by omega) hbx (by simp) (by intro v hq;cases hq),result1_rv (by simpa using hsz') fun j x hx=>?_⟩
            ·exact ext_kept k.heap k1.heap hx1 (size h) t
            ·cases j with
             | zero =>
              simp at hx;subst hx
              have h0:=hru 0 _ rfl
              exact rv_tok_moved k1.heap (by omega) hb1 h0
             | succ j =>
              exact rv_moved k1.heap (hru (j+1) x (by simpa using hx)) (belows_mem' hb2 j x (by simpa using hx))
          ·cases hown
         ·-- a box's slice
          rename_i fl b off len sz vr
          split at hown
          ·rename_i hlt
           split at hown
           ·rename_i hb2
            simp only [Option.some.injEq,Prod.mk.injEq] at hown
            obtain ⟨rfl,rfl⟩:=hown
            refine ⟨{ gEnd g1 h1 w1 (size h) none with n:=size h },rfl,ext_fewer (hx1.trans (ext_hwEnd k1.heap (size h) none)) (by rw [hkg];exact Nat.le_refl _),ok_trunc k1.heap hst hclo,result1_rv hsz' fun j x hx=>?_⟩
            refine rv_fewer ((hru j x hx).mono (ext_hwEnd k1.heap (size h) none)) ?_
            cases j with
            | zero=>simp at hx;subst hx;simpa [below] using hlt
            | succ j=>exact belows_mem' hb2 j x (by simpa using hx)
           ·cases hown
          ·rename_i hge
           simp only [Option.bnd_eq_some_iff] at hown
           obtain ⟨cs,hcs,hown⟩:=hown
           split at hown
           ·rename_i hcond
            obtain ⟨hb2,hb3⟩:=hcond
            simp only [Option.some.injEq,Prod.mk.injEq] at hown
            obtain ⟨rfl,rfl⟩:=hown
            have hbx:=box_of_get hcs
            refine ⟨_,rfl,?_,ok_trunc1 k1.heap hst hclo (by omega) hbx (by simp) (fun v hv=>let ⟨j,hj⟩:=List.getElem?_of_mem (show v∈cs from hv);belows_mem' hb3 j v hj),result1_rv (by simpa using hsz') fun j x hx=>?_⟩
            ·exact ext_kept k.heap k1.heap hx1 (size h) b
            ·cases j with
             | zero =>
              simp at hx;subst hx
              have h0:=hru 0 _ rfl
              generalize us'.getD 0 Go.undef=U at h0
              cases h0
              rename_i cap hb hl hfull hcpb
              have:=RV.bsl (N0:=N0) (g:={ gEnd g1 h1 w1 (size h) (some b) with n:=size h+1,ι:=fun i=>if i=size h then g1.ι b else g1.ι i,tk:=fun i=>if i=size h then g1.tk b else g1.tk i,cp:=fun i=>if i=size h then g1.cp b else g1.cp i }) (w:=w1) fl (size h) off len sz cap (Nat.lt_succ_self _) hl hfull (by show _≤(if size h=size h then _ else _);rw [if_pos rfl];exact hcpb)
              simpa using this
             | succ j =>
              exact rv_moved k1.heap (hru (j+1) x (by simpa using hx)) (belows_mem' hb2 j x (by simpa using hx))
           ·cases hown
         ·simp only [Option.bnd_eq_some_iff] at hown
          obtain ⟨vs3,h3,hown⟩:=hown
          split at hown
          ·rename_i hb
           simp only [Option.some.injEq,Prod.mk.injEq] at hown
           obtain ⟨rfl,rfl⟩:=hown
           exact plain _ h3 hb rfl
          ·cases hown
        ·simp only [Option.bnd_eq_some_iff] at hfin
         obtain ⟨vs2,h2,hfin⟩:=hfin
         split at hfin
         ·rename_i hb
          simp only [Option.some.injEq,Prod.mk.injEq] at hfin
          obtain ⟨rfl,rfl⟩:=hfin
          exact plain _ h2 hb rfl
         ·cases hfin
      cases x1 with
      | exit i=>cases hs2
      | norm=>exact ⟨hd1,hpost⟩
      | ret=>exact ⟨hd1,hpost⟩
    ·cases hcf
theorem sim_all (hgl:GlobOk gl N0 w0) {I:Nat→World→Prop} (hI:I N0 w0) {T:Table} (hT:TableOk P gl I T):∀ n,SimC gl N0 P w0 T n∧SimL gl N0 P w0 T n∧∀ base,OrcSim N0 P w0 base (call T n base)
 | 0=>⟨fun _ _ _ _ _ _ _ _ _ _ _ _ hs=>by simp [exec] at hs,fun _ _ _ _ _ _ _ _ _ _ _ _ hs=>by simp [exec] at hs,fun _ _ _ _ _ _ hs=>by simp [call] at hs⟩
 | n+1=>let ⟨a,b,c⟩:=sim_all hgl hI hT n;sim_step hgl hI hT n a b c
theorem enters_cFn {gl:Globs} {an:Ann} {f:Nat} {fn0:Func} {F:AFn} (hfn:P.funcs[f]?=some fn0) (hcf:cFn P gl an fn0=some F) (us:Array Value) (w:World):(callFunc f us).run P w=.ok (.enter f us) w:=by
 simp only [cFn,Option.bind_eq_some_iff] at hcf
 obtain ⟨c,hbody,rs,hrs,ac,hac,hcf⟩:=hcf
 split at hcf
 ·rename_i hcond
  have hname:(fn0.name == "runtime.NumGoroutine")=false:=by simpa using hcond.2
  simp only [callFunc,Sem.run_bind,program,Sem.run,hfn,hname,hbody,Bool.false_eq_true,if_false,Option.isNone_some,Result.andThen,Sem.run_pure]
 ·cases hcf
theorem sound {gl:Globs} {I:Nat→World→Prop} {T:Table} (hT:TableOk P gl I T) {f:Nat} {vs:List PV} {r:PV} {h':Hp} (hs:CallA T 0 f vs []=some (r,h')) (w:World) (hgl:GlobOk gl w.heap.size w) (hI:I w.heap.size w) (us:Array Value) (hlen:us.size=vs.length)
  (hrel:∀ (j:Nat) (x:PV),vs[j]?=some x→RV w.heap.size { ι:=id,n:=0,hw:=fun _=>none } w x (us.getD j Go.undef)) (hen:(callFunc f us).run P w=.ok (.enter f us) w) :
  Calls P f us w fun en w'=>∃ u g',en=.returned u∧RV w.heap.size g' w' r u∧Below w.heap.size w w':=by
 obtain ⟨n,hn⟩:=CallA_iff.1 hs
 have k0:OkH w.heap.size w { ι:=id,n:=0,hw:=fun _=>none } [] w:=by
  exact ⟨rfl,rfl,Below.refl _ _,fun b c x y hx=>by simp [box?] at hx,fun b cs hb=>by simp [box?] at hb,fun c m hm=>by simp at hm,fun t v hv=>by simp [look] at hv⟩
 refine ((((sim_all (N0:=w.heap.size) (w0:=w) hgl hI hT n).2.2 0) f vs [] r h' hn (Nat.zero_le _) _ us w k0 hlen hrel).calls hen).mono fun en w' hen=>?_
 obtain ⟨u,g',h1,h2,h3,h4⟩:=hen
 exact ⟨u,g',h1,h4,h3.below⟩
end
end Go.Am
namespace Go.Am
open Go.RowKit (Below)
set_option linter.unusedVariables false
set_option linter.unusedSimpArgs false
set_option linter.unusedSectionVars false
noncomputable def pCopyCheck (T:Nat):List PV→Hp→Option (PV × Option (Nat × List PV))
 | [.ptr b 0],h=>(getBox h b).bnd fun cs=>match cs with
  | [.bnil T',y]=>if T'=T then some (.tup [],some (b,[.ptr b 0,y])) else none
  | [.ptr b' 0,y]=>if b'=b then some (.tup [],none) else none
  | _=>none
 | _,_=>none
theorem enters_of {P:Program} {f:FuncId} {fn:Func} {c:Code} (hf:P.funcs[f]?=some fn) (hname:(fn.name == "runtime.NumGoroutine")=false) (hb:fn.body=some c) (us:Array Value) (w:World):(callFunc f us).run P w=.ok (.enter f us) w:=by
 have h1:fn.name≠"runtime.NumGoroutine":=by simpa using hname
 simp [callFunc,hf,h1,hb,mark]
def u8s (l:List UInt8):List PV:=l.map fun c=>.int .u8 c.toNat
noncomputable def pString (T5:Nat):List PV→Hp→Option (PV × Option (Nat × List PV))
 | [.ptr b 0],h=>(getBox h b).bnd fun cs=>match cs with
  | [_,.nils]=>some (.str [],none)
  | [_,.sl (.tok t) 1 es]=>(getTok h t).bnd fun n=>if n=(es.length,T5)∧es≠[]∧es.length≤lim2 then (bytesOf es).bnd fun l=>if es=u8s l then some (.str l,none) else none else none
  | _=>none
 | _,_=>none
section
variable {N0:Nat} {P:Program} {I:Nat→World→Prop} {w0:World} {g:G} {e:Env} {a:Act} {h:Hp} {w:World}
theorem freeze_heap (w:World) (c n:Nat) (d:Nat) (hd:d≠c):(w.freeze ⟨c,0,none⟩ n).heap[d]?=w.heap[d]?:=by
 unfold World.freeze
 split
 ·rfl
 ·simp only [Array.getElem?_modify]
  rw [if_neg (fun hq=>hd hq.symm)]
theorem ok_freeze (k:Ok (N0:=N0) w0 g e a.tmps h w) {t n T:Nat} (ht:getTok h t=some (n,T)) (hsz:(g.tk t).sz=1) (hn:n≠0) :
  Ext N0 g w g (w.freeze ⟨(g.tk t).c,0,none⟩ n)∧Ok (N0:=N0) w0 g e a.tmps h (w.freeze ⟨(g.tk t).c,0,none⟩ n):=by
 have hbx:=box_of_tok ht
 have hb0:=k.box t _ hbx
 simp only [BoxOk] at hb0
 obtain ⟨b1,b2,b3,b4,b8,arr,lo,hi,b5,b6,b7⟩:=hb0
 generalize hc:(g.tk t).c=c at *
 have hheap:∀ d,d≠c→(w.freeze ⟨c,0,none⟩ n).heap[d]?=w.heap[d]?:=fun d hd=>freeze_heap w c n d hd
 have hat:∃ lo' hi',(w.freeze ⟨c,0,none⟩ n).heap[c]?=some (.cells arr T (lo',hi'))∧hi'≤n:=by
  unfold World.freeze
  rw [if_neg hn]
  rw [b8,hsz] at b7
  simp only [Array.getElem?_modify,if_true,b5,Option.map_some]
  by_cases hq:lo == hi
  ·rw [if_pos hq];exact ⟨0,0+n,rfl,by omega⟩
  ·rw [if_neg hq]
   exact ⟨min lo 0,max hi (0+n),rfl,by omega⟩
 obtain ⟨lo',hi',hat1,hat2⟩:=hat
 have hcell:∀ d o,(w.freeze ⟨c,0,none⟩ n).cell? ⟨d,o,none⟩=w.cell? ⟨d,o,none⟩:=by
  intro d o
  by_cases hd:d=c
  ·subst hd;simp only [World.cell?,hat1,b5]
  ·simp only [World.cell?,hheap d hd]
 have hx:Ext N0 g w g (w.freeze ⟨c,0,none⟩ n):=⟨Nat.le_refl _,fun _ _=>rfl,fun d m hm=>⟨m,hm,Nat.le_refl _⟩,fun d m o _ _=>hcell d o,fun d o _=>hcell d o,fun _ _=>⟨Nat.le_refl _,fun _=>rfl⟩,fun _ _=>rfl⟩
 have hsize:(w.freeze ⟨c,0,none⟩ n).heap.size=w.heap.size:=by
  unfold World.freeze
  split
  ·rfl
  ·simp
 refine ⟨hx,?_⟩
 have hok:=ok_setbox (y:=.tok n T) k hbx hx rfl (Go.Lib.below_freeze (Below.refl _ _) b3 n) (.inl rfl) (fun d _ hd=>⟨hheap d (by simpa only [blk,hc] using hd),rfl⟩) (fun _ _=>rfl) ?_ (fun d m hm=>?_)
 ·rwa [setBx_self hbx] at hok
 ·simp only [BoxOk,hc]
  exact ⟨b1,b2,b3,b4,b8,arr,lo',hi',hat1,b6,by rw [b8,hsz];omega⟩
 ·have:=k.arr d m hm
  exact ⟨this.1,by rw [hsize];exact this.2⟩
theorem primOk_copyCheck {f T:Nat} (henter:∀ us w,(callFunc f us).run P w=.ok (.enter f us) w)
  (hused:∀ b w,w.cell? ⟨b,0,none⟩=some (.pointer (some ⟨b,0,none⟩))→Calls P f #[.pointer (some ⟨b,0,none⟩)] w fun e w'=>e=.returned (.tuple #[])∧w'=w)
  (hfresh:∀ b w,w.cell? ⟨b,0,none⟩=some (.pointer none)→w.shape? b=some (T,2)→w.frozen? ⟨b,0,none⟩=false →
   Calls P f #[.pointer (some ⟨b,0,none⟩)] w fun e w'=>e=.returned (.tuple #[])∧w'=w.setCell ⟨b,0,none⟩ (.pointer (some ⟨b,0,none⟩))):PrimOk P I f (pCopyCheck T):=by
 intro vs h r hr N0 w0 g us w hI k hlen hrel
 refine ⟨henter us w,?_⟩
 unfold pCopyCheck at hr
 split at hr
 ·rename_i b
  obtain ⟨u,rfl⟩ : ∃ u,us=#[u]:=by
   cases us with | mk l=>match l,hlen with
    | [u],_=>exact ⟨u,rfl⟩
  have h0:=hrel 0 _ rfl
  simp only [Array.getD_eq_getD_getElem?,List.getElem?_toArray,List.getElem?_cons_zero,Option.getD_some] at h0
  cases h0
  rename_i hb
  simp only [Option.bnd_eq_some_iff] at hr
  obtain ⟨cs,hcs,hr⟩:=hr
  obtain ⟨u,hu1,hu2⟩:=box_cell (a:=⟨#[],[]⟩) k hcs
  obtain ⟨q1,q2,arr,T0,lo,hi,q3,q6,q4,q8,q5⟩:=k.cells hcs
  split at hr
  ·rename_i T' y
   split at hr
   ·rename_i hT
    subst hT
    simp only [Option.some.injEq] at hr
    subst hr
    obtain ⟨rfl,hsz⟩:=q8 _ rfl
    obtain ⟨x,hx0,hfz,hext,hok⟩:=ok_write (a:=⟨#[],[]⟩) k hcs (off:=0) (by simp) (v:=.ptr b 0) (.ptr b 0 hb) (by simp)
    have c0:w.cell? ⟨g.ι b,0,none⟩=some (.pointer none):=by
     rw [hu1 0 (by simp)]
     have:=hu2 0 _ rfl
     generalize u 0=U at this
     cases this;rfl
    refine (hfresh (g.ι b) w c0 (by simp [World.shape?,q3,hsz]) hfz).mono fun en w' hen=>?_
    obtain ⟨rfl,rfl⟩:=hen
    exact ⟨_,g,rfl,hext,hok,.tup [] #[] rfl (fun j x hx=>by simp at hx)⟩
   ·cases hr
  ·rename_i b' y
   split at hr
   ·rename_i hbb
    subst hbb
    simp only [Option.some.injEq] at hr
    subst hr
    have c0:w.cell? ⟨g.ι b',0,none⟩=some (.pointer (some ⟨g.ι b',0,none⟩)):=by
     rw [hu1 0 (by simp)]
     have:=hu2 0 _ rfl
     generalize u 0=U at this
     cases this;rfl
    refine (hused (g.ι b') w c0).mono fun en w' hen=>?_
    obtain ⟨rfl,rfl⟩:=hen
    exact ⟨_,g,rfl,Ext.refl _ _ _,k,.tup [] #[] rfl (fun j x hx=>by simp at hx)⟩
   ·cases hr
  ·cases hr
 ·cases hr
theorem u8s_get (l:List UInt8) (j:Nat):(u8s l)[j]?=(l[j]?).map fun c=>.int .u8 c.toNat:=by simp [u8s]
theorem primOk_string {f T5:Nat} (henter:∀ us w,(callFunc f us).run P w=.ok (.enter f us) w)
  (hnil:∀ b w,w.cell? ⟨b,1,none⟩=some (.slice none 0 0)→Calls P f #[.pointer (some ⟨b,0,none⟩)] w fun e w'=>e=.returned (.string ⟨#[]⟩)∧w'=w.drew)
  (hrow:∀ b c cap cells (l:List UInt8) w,w.cell? ⟨b,1,none⟩=some (.slice (some ⟨c,0,none⟩) l.length cap)→l≠[]→l.length≤cap→w.shape? c=some (T5,cells)→l.length≤cells→l.length≤17179869184 →
   (∀ j x,l[j]?=some x→w.cell? ((⟨c,0,none⟩ : Addr).add j)=some (.int .u8 x.toNat)) →
   Calls P f #[.pointer (some ⟨b,0,none⟩)] w fun e w'=>e=.returned (.string ⟨l.toArray⟩)∧w'=w.drew.freeze ⟨c,0,none⟩ l.length):PrimOk P I f (pString T5):=by
 intro vs h r hr N0 w0 g us w hI k hlen hrel
 refine ⟨henter us w,?_⟩
 unfold pString at hr
 split at hr
 ·rename_i b
  obtain ⟨u,rfl⟩ : ∃ u,us=#[u]:=by
   cases us with | mk l=>match l,hlen with
    | [u],_=>exact ⟨u,rfl⟩
  have h0:=hrel 0 _ rfl
  simp only [Array.getD_eq_getD_getElem?,List.getElem?_toArray,List.getElem?_cons_zero,Option.getD_some] at h0
  cases h0
  rename_i hb
  simp only [Option.bnd_eq_some_iff] at hr
  obtain ⟨cs,hcs,hr⟩:=hr
  obtain ⟨u,hu1,hu2⟩:=box_cell (a:=⟨#[],[]⟩) k hcs
  split at hr
  ·rename_i y
   simp only [Option.some.injEq] at hr
   subst hr
   have c1:w.cell? ⟨g.ι b,1,none⟩=some (.slice none 0 0):=by
    rw [hu1 1 (by simp)]
    have:=hu2 1 _ rfl
    generalize u 1=U at this
    cases this;rfl
   refine (hnil (g.ι b) w c1).mono fun en w' hen=>?_
   obtain ⟨rfl,rfl⟩:=hen
   exact ⟨_,g,rfl,ext_drew g w,ok_drew (a:=⟨#[],[]⟩) k,.str _ _ rfl⟩
  ·rename_i y t es
   simp only [Option.bnd_eq_some_iff] at hr
   obtain ⟨n,hn,hr⟩:=hr
   split at hr
   ·rename_i hc
    obtain ⟨rfl,hne,hlim⟩:=hc
    simp only [Option.bnd_eq_some_iff] at hr
    obtain ⟨l,hl,hr⟩:=hr
    split at hr
    ·rename_i hes
     simp only [Option.some.injEq] at hr
     subst hr
     have c1:=hu1 1 (by simp)
     have hrv:=hu2 1 _ rfl
     generalize u 1=U at hrv c1
     cases hrv
     rename_i c o cap uu sp p1 p5 p7 p2 p3 p4 p6 p8
     have hb0:=k.box t _ (box_of_tok hn)
     simp only [BoxOk] at hb0
     obtain ⟨b1,b2,b3,b4,b8,arr,lo,hi,b5,b6,b7⟩:=hb0
     obtain ⟨t1,t2,t3⟩:=p8 t rfl
     obtain ⟨t4,rfl⟩:=t3 b1
     have hll:es.length=l.length:=by rw [hes];simp [u8s]
     have hl0:l≠[]:=by rintro rfl;rw [hes] at hne;simp [u8s] at hne
     rw [t4] at b8 b5 b6
     simp only at b8 b5 b6
     subst b8
     rw [hll] at c1 p1
     unfold lim2 at hlim
     refine (hrow (g.ι b) c cap arr.size l w c1 hl0 p1 (by simp [World.shape?,b5]) (by omega) (by omega) fun j x hx=>?_).mono fun en w' hen=>?_
     ·have hj:j < l.length:=(List.getElem?_eq_some_iff.1 hx).1
      rw [add_addr,Nat.zero_add]
      have:=p4 j 0 (by omega) (by omega)
      rw [Nat.mul_one,Nat.add_zero,Nat.zero_add] at this
      rw [this]
      have hr:=p5 j 0 (.int .u8 x.toNat) (.int .u8 x.toNat) (by rw [hes,u8s_get,hx];rfl) rfl
      generalize uu j 0=V at hr
      cases hr;rfl
     ·obtain ⟨rfl,rfl⟩:=hen
      have kd:OkH N0 w0 g h w.drew:=ok_drew (a:=⟨#[],[]⟩) k
      have hfr:=ok_freeze (a:=⟨#[],[]⟩) kd hn (by rw [t4]) (by rw [hll];simpa using hl0)
      rw [t4] at hfr
      simp only [hll] at hfr
      exact ⟨_,g,rfl,(ext_drew g w).trans hfr.1,hfr.2,.str _ _ rfl⟩
    ·cases hr
   ·cases hr
  ·cases hr
 ·cases hr
theorem ok_below (k:OkH N0 w0 g h w) {w':World} (hb:Below w.heap.size w w'):Ext N0 g w g w'∧OkH N0 w0 g h w':=by
 have hN:=ok_size k
 have hcell:∀ c o,c < w.heap.size→w'.cell? ⟨c,o,none⟩=w.cell? ⟨c,o,none⟩:=fun c o hc=>below_cell hb hc o
 have hx:Ext N0 g w g w':=⟨Nat.le_refl _,fun _ _=>rfl,fun c m hm=>⟨m,hm,Nat.le_refl _⟩,fun c m o hm _=>hcell c o (k.arr c m hm).2,fun c o hc=>hcell c o (by omega),fun _ _=>⟨Nat.le_refl _,fun _=>rfl⟩,fun _ _=>rfl⟩
 refine ⟨hx,k.world hx rfl (hb.mono hN) (fun b bx hbx _=>⟨hb.block _ (blk_lt (a:=⟨#[],[]⟩) k hbx).2,rfl⟩) (fun _ _=>rfl) fun c m hm=>?_⟩
 have:=k.arr c m hm
 exact ⟨this.1,Nat.lt_of_lt_of_le this.2 hb.size⟩
theorem primOk_flat {f:Nat} {pg:List PV→Option PV} (henter:∀ us w,(callFunc f us).run P w=.ok (.enter f us) w)
  (hc:∀ vs r,pg vs=some r→∀ (N0:Nat) (w0:World) (g:G) (us:Array Value) (w:World),I N0 w0→Below N0 w0 w→us.size=vs.length→(∀ (j:Nat) (x:PV),vs[j]?=some x→RV N0 g w x (us.getD j Go.undef)) →
   Calls P f us w fun e w'=>∃ u,e=.returned u∧Below w.heap.size w w'∧∀ g w,RV N0 g w r u):PrimOk P I f (fun vs h=>(pg vs).map fun r=>(r,none)):=by
 intro vs h r hr N0 w0 g us w hI k hlen hrel
 refine ⟨henter us w,?_⟩
 simp only [Option.map_eq_some_iff] at hr
 obtain ⟨r',hr',rfl⟩:=hr
 refine (hc vs r' hr' N0 w0 g us w hI k.below hlen hrel).mono fun en w' hen=>?_
 obtain ⟨u,rfl,hb,hv⟩:=hen
 obtain ⟨hx,hok⟩:=ok_below k hb
 exact ⟨u,g,rfl,hx,hok,hv _ _⟩
end
end Go.Am
