/- 'Am': the operations, one by one (sixth part): append. | 'Am': the operations, one by one (seventh part): the others. | 'Am': the operations, one by one (eighth part): texts and bytes, closures, slices that are made, copies, rounds through a text, type assertions. | 'Am': the operations, one by one (ninth part): maps; bytes that are copied. | 'Am': the operations, one by one (tenth part): slices that grow in their box. | 'Am': the operations together; regions, code, calls. | 'Am': regions, in their order or in whatever order. | 'Am': regions as a whole. | 'Am': code and calls: what the machine answers, the program answers. | 'Am': the theorem: what the machine answers, the program answers. | 'Am': a builder of texts: its check, and its text, as functions of the pT. | 'Am': functions of the pT over maps: a copy of a map; a YO keys in order. | 'Am': what a bK takes of a new map box, of its need, of a new cX. uk. | 'Am': functions of the pT that look at their arguments alone: how tv are taken; strings.Nb. | amL of both kinds together. | aoI Jp equations. By the session's AI agent. | The machine's code as plain functions of what yP in its slots: each operation hands on what it gives.
   By the session's AI agent. -/
import Derived.Test.YtmmjmkjoflfpmaaGreatDoorT51
import Derived.Laws.IdiomStrings
import Derived.Laws.StructEq
import Derived.ChangeKeysEq
import Derived.MapKept
import Derived.WideKeyRuns
import Derived.Orders
import Derived.LoopN
import Derived.Lib.Builder
import Derived.Lib.UnsafeStr
import Derived.Shelf.SlIterI.Sorted
import Derived.Shelf.SlMaps.Clone
import Derived.Laws.IdiomRangeMap
import Derived.Lib.MakeNoZero
import Derived.Shelf.Strings.Trim
import Derived.IntWalk
set_option linter.unusedSectionVars false
set_option linter.unusedSimpArgs false
set_option linter.unusedVariables false
set_option maxRecDepth 20000
namespace Go.Am
open Go.RowKit (Below)
section
variable {N0:Nat} {P:Program} {w0:World} {g:G} {e:Env} {a:Act} {h:Hp} {w:World}
variable {o:Oper} {md:Nat} {orc:iG} {base:Nat} {draw:Bool} {aop:iP} {v:PV} {e':Env} {h':Hp} {gl:cR} (hgl:dR gl N0 w0)
include hgl
omit hgl in
theorem dW {x:PV} (hx:scalar x=true):x.cells=[x]:=by cases x<;>simp_all [PV.cells,scalar]
omit hgl in
theorem qZ (k:Ok (N0:=N0) w0 g e a.tmps h w) {sz:Nat} (hpos:sz≠0) {u:PV} {A:Value} (hr:RV N0 g w u A) {xs:List PV} (hx:elems h u=some xs) (hs:xs.all (fun x=>x.cells.length == sz)=true) :
  (Builtin.lenOf A).run P w=.ok xs.length w∧∃ news:Array Value,(∀ w1:World,w1=w∨w1=w.drew→(Builtin.firstCells sz xs.length A).run P w1=.ok news w1)∧Holds N0 g w sz xs news:=by
 have hsz:∀ (i:Nat) (x:PV),xs[i]?=some x→x.cells.length=sz:=by
  intro i x hi;have:=List.all_eq_true.1 hs x (List.mem_of_getElem? hi);simpa using this
 cases hr<;>simp only[elems]at hx<;>(try cases hx)
 case bg =>
  refine⟨by simp[Builtin.lenOf],#[],fun w1 _=>by simp[Builtin.firstCells],by simp,by simp,by simp⟩
 case sl ow sz' c o' cap uu q7 q1 q2 q3 q4 q5 q6 q8 q9 =>
  refine⟨by simp[Builtin.lenOf],((List.range (xs.length*sz)).map fun q=>uu (q / sz) (q % sz)).toArray,?_,by simp,hsz,?_⟩
  ·intro w1 hw1
   simp only[Builtin.firstCells];refine run_loadCells (P:=P) w1 ⟨c,o',q7⟩ _ (fun q=>uu (q / sz) (q % sz)) (fun q hq=>?_);obtain rfl:q7=none:=q8 (by rintro rfl;simp at hq);have hd:q / sz<xs.length:=Nat.div_lt_of_lt_mul (by rwa [Nat.mul_comm]at hq);have hm:q % sz<sz:=Nat.mod_lt _ (by omega);obtain⟨x0,hx0⟩ : ∃ x,xs[q / sz]?=some x:=⟨_,List.getElem?_eq_getElem hd⟩;have hszz:sz'=sz:=by rw[←q3 _ _ hx0,hsz _ _ hx0]
   subst hszz;have:=q4 (q / sz') (q % sz') hd hm;rw[show q / sz'*sz'+q % sz'=q by rw[Nat.mul_comm];exact Nat.div_add_mod q sz']at this;rw[dN];rcases hw1 with rfl | rfl
   ·exact this
   ·exact this
  ·intro i j x y hi hj
   have hil:i<xs.length:=(List.getElem?_eq_some_iff.1 hi).1;have hjl:j<sz:=by rw[←hsz i x hi];exact(List.getElem?_eq_some_iff.1 hj).1
   have hlt:=fH hil hjl;have e1:(i*sz+j) / sz=i:=by rw[Nat.mul_comm,Nat.mul_add_div (by omega),Nat.div_eq_of_lt hjl,Nat.add_zero]
   have e2:(i*sz+j) % sz=j:=by rw[Nat.mul_comm,Nat.mul_add_mod,Nat.mod_eq_of_lt hjl]
   have:=q5 i j x y hi hj;simpa[Array.getD_eq_getD_getElem?,hlt,e1,e2] using this
 case bX fl b off len sz' cap hb hl hfl hcpb =>
  split at hx
  ·rename_i h1
   subst h1;simp only[Option.aa]at hx;obtain⟨cs,hcs,hx⟩:=hx;split at hx
   ·rename_i hcond
    obtain⟨hle,hsc⟩:=hcond;simp only[Option.some.injEq]at hx;subst hx;obtain⟨uu,u1,u2⟩:=si k hcs;have hlen:((cs.drop off).take len).length=len:=by simp;omega
    refine⟨by rw[hlen];simp[Builtin.lenOf],?_⟩;rcases Nat.eq_zero_or_pos len with h0 | hp
    ·subst h0
     exact⟨#[],fun w1 _=>by simp[Builtin.firstCells,loadCells,loadCellsFrom],by simp,by simp,by simp⟩
    ·have h1:sz=1:=by
      have hoff:off<cs.length:=by omega
      have hget:((cs.drop off).take len)[0]?=some cs[off]:=by
       rw[List.getElem?_take,if_pos hp,List.getElem?_drop,Nat.add_zero,List.getElem?_eq_getElem hoff]
      have:=hsz 0 _ hget;rw[dW]at this
      ·simpa using this.symm
      ·have hmem:cs[off]∈(cs.drop off).take len:=List.mem_of_getElem? (i:=0) (by rw[List.getElem?_take,if_pos hp,List.getElem?_drop,Nat.add_zero,List.getElem?_eq_getElem hoff])
       exact List.all_eq_true.1 hsc _ hmem
     subst h1;refine⟨((List.range len).map fun q=>uu (off+q)).toArray,?_,by simp[hlen],hsz,?_⟩
     ·intro w1 hw1
      simp only[Builtin.firstCells,hlen,Nat.mul_one];refine run_loadCells (P:=P) w1 ⟨g.ι b,off,none⟩ _ (fun q=>uu (off+q)) (fun q hq=>?_);rw[dN];have:=u1 (off+q) (by omega);rcases hw1 with rfl | rfl
      ·exact this
      ·exact this
     ·intro i j x y hi hj
      have hil:i<len:=by rw[←hlen];exact(List.getElem?_eq_some_iff.1 hi).1
      have hj0:j=0:=by have:=(List.getElem?_eq_some_iff.1 hj).1;have:=hsz i x hi;omega
      subst hj0;have hc0:=hi;have hmem:x∈(cs.drop off).take len:=List.mem_of_getElem? hc0;have hsc0:=List.all_eq_true.1 hsc _ hmem;rw[List.getElem?_take,if_pos hil,List.getElem?_drop]at hc0;rw[dW hsc0]at hj;simp only[List.getElem?_cons_zero,Option.some.injEq]at hj;subst hj;have:=u2 _ _ hc0;simpa[Array.getD_eq_getD_getElem?,hil] using this
   ·cases hx
  ·cases hx
 case str l s hl =>
  have hls:l.length=s.size:=by rw[←hl];simp
  refine⟨by simp[Builtin.lenOf,hls],s.data.map fun b=>.int .u8 b.toNat,?_,?_,hsz,?_⟩
  ·intro w1 _
   simp only[Builtin.firstCells,List.length_map,hls];have:(s.extract 0 s.size)=s:=by
    apply ByteArray.ext;simp
   rw[this];simp
  ·rcases Nat.eq_zero_or_pos l.length with h0 | hp
   ·simp[←hls,h0]
   ·have:=hsz 0 (.int .u8 (l[0]).toNat) (by simp[hp])
    have h1:sz=1:=by simpa[PV.cells] using this.symm
    subst h1;simp[hls]
  ·intro i j x y hi hj
   have hil:i<l.length:=by have:=(List.getElem?_eq_some_iff.1 hi).1;simpa using this
   have h1:=hsz i x hi;simp only[List.getElem?_map,List.getElem?_eq_getElem hil,Option.map_some,Option.some.injEq]at hi;subst hi;simp only[PV.cells,List.length_singleton]at h1;subst h1;cases j with
   | zero =>
    simp[PV.cells]at hj;subst hj;have hget:s.data[i]?=some l[i]:=by
     rw[←Array.getElem?_toList,hl,List.getElem?_eq_getElem hil]
    simp only[Nat.mul_one,Nat.add_zero,Array.getD_eq_getD_getElem?,Array.getElem?_map,hget,Option.map_some,Option.getD_some];exact .int _ _
   | succ j=>simp[PV.cells]at hj
omit hgl in
theorem BZ {g':G} {w1:World} {sz:Nat} {es xs:List PV} {olds news us:Array Value} (hx1:Ext N0 g w g' w1) (hho:Holds N0 g w sz es olds) (hhn:Holds N0 g w sz xs news)
  (hus:∀ q,q<(es.length+xs.length)*sz→us.getD q Go.undef=(olds++news).getD q Go.undef) :
  (∀ (i:Nat) (x:PV),(es++aO xs)[i]?=some x→x.cells.length=sz) ∧
  ∀ (i j:Nat) (x y:PV),(es++aO xs)[i]?=some x→x.cells[j]?=some y→RV N0 g' w1 y (us.getD (i*sz+j) Go.undef):=by
 have hget:∀ (i:Nat) (x0:PV),(es++aO xs)[i]?=some x0→(i<es.length∧es[i]?=some x0)∨(es.length≤i∧∃ x1,xs[i-es.length]?=some x1∧x0=strip x1):=by
  intro i x0 hx
  by_cases hlt:i<es.length
  ·rw[List.getElem?_append_left hlt]at hx;exact .inl ⟨hlt,hx⟩
  ·rw[List.getElem?_append_right (by omega),jy,Option.map_eq_some_iff]at hx
   obtain⟨x1,hx1,rfl⟩:=hx;exact .inr ⟨by omega,x1,hx1,rfl⟩
 have hsz:∀ (i:Nat) (x:PV),(es++aO xs)[i]?=some x→x.cells.length=sz:=by
  intro i x0 hx;rcases hget i x0 hx with⟨_,hx'⟩ | ⟨_,x1,hx',rfl⟩
  ·exact hho.2.1 i x0 hx'
  ·rw[uF];exact hhn.2.1 _ x1 hx'
 refine⟨hsz,fun i j x0 y hx hy=>?_⟩;have hj:j<sz:=by rw[←hsz i x0 hx];exact(List.getElem?_eq_some_iff.1 hy).1
 have e1:=hho.1;have e2:=hhn.1;rcases hget i x0 hx with⟨hlt,hx'⟩ | ⟨hge,x1,hx',rfl⟩
 ·have h1:=fH hlt hj
  have h2:es.length*sz≤(es.length+xs.length)*sz:=Nat.mul_le_mul_right _ (by omega);rw[hus _ (by omega),Array.getD_eq_getD_getElem?,Array.getElem?_append_left (by omega),←Array.getD_eq_getD_getElem?];exact(hho.2.2 i j x0 y hx' hy).mono hx1
 ·have hlt:i-es.length<xs.length:=(List.getElem?_eq_some_iff.1 hx').1
  have h1:(i-es.length)*sz+j<xs.length*sz:=fH hlt hj;have hge':es.length*sz≤i*sz:=Nat.mul_le_mul_right _ hge;have hsub:i*sz+j-olds.size=(i-es.length)*sz+j:=by rw[e1,Nat.sub_mul];omega
  rw[hus _ (by rw[Nat.add_mul];rw[Nat.sub_mul]at h1;omega),Array.getD_eq_getD_getElem?,Array.getElem?_append_right (by omega),hsub,←Array.getD_eq_getD_getElem?]
  -- a cell without its token
  have hy':∃ y1,x1.cells[j]?=some y1∧y=strip y1:=by
   have one:∀ v:PV,(strip v).cells=[strip v]→v.cells=[v]→(strip v).cells[j]?=some y→∃ y1,v.cells[j]?=some y1∧y=strip y1:=by
    intro v a1 a2 a3;rw[a1]at a3;rw[a2];cases j with
    | zero=>simp at a3;exact⟨v,rfl,a3.symm⟩
    | succ j=>simp at a3
   cases x1 with
   | agg cs =>
    simp only[strip,PV.cells,jy,Option.map_eq_some_iff]at hy;obtain⟨y1,q1,q2⟩:=hy;exact⟨y1,q1,q2.symm⟩
   | _=>exact one _ rfl rfl hy
  obtain⟨y1,hy',rfl⟩:=hy';exact iz ((hhn.2.2 _ j x1 y1 hx' hy').mono hx1)
omit hgl in
theorem mh {t u ty el:TypeId} {i:TypeInfo} (ht:P.underlying t=some (.slice el)) (hu:P.underlying u=some .string∨∃ el',P.underlying u=some (.slice el')) (hi:P.info? el=some i)
  (b:Option Addr) (sLen cap:Nat) (hc:sLen≤cap) (x:Value) (hlen:(Builtin.lenOf x).run P w=.ok 0 w) (news:Array Value) (hnews:news.size=0)
  (hnew:(Builtin.firstCells i.size 0 x).run P w=.ok news w):(Builtin.append_ #[t,u] ty #[.slice b sLen cap,x]).run P w=.ok (.slice b sLen cap) w:=by
 have h0:news=#[]:=Array.eq_empty_of_size_eq_zero hnews;subst h0;rcases hu with hu | ⟨el',hu⟩<;>(cases b<;>simp[Builtin.append_,run_underlying ht,run_underlying hu,Go.sizeOf,typeInfo,hi,hlen,hnew,storeCells,hc])
omit hgl in
theorem uJ {t u ty el:TypeId} {i:TypeInfo} (ht:P.underlying t=some (.slice el)) (hu:P.underlying u=some .string∨∃ el',P.underlying u=some (.slice el')) (hi:P.info? el=some i)
  (A:Addr) (sLen cap:Nat) (x:Value) (n:Nat) (hc:sLen+n≤cap) (hlen:(Builtin.lenOf x).run P w=.ok n w) (news:Array Value)
  (hnew:(Builtin.firstCells i.size n x).run P w=.ok news w) {w1:World} (hst:(storeCells (A.add (sLen*i.size)) news.toList).run P w=.ok () w1) :
  (Builtin.append_ #[t,u] ty #[.slice (some A) sLen cap,x]).run P w=.ok (.slice (some A) (sLen+n) cap) w1:=by
 rcases hu with hu | ⟨el',hu⟩<;>simp[Builtin.append_,run_underlying ht,run_underlying hu,Go.sizeOf,typeInfo,hi,hlen,hnew,hst,hc]
omit hgl in
theorem jQ {t u ty el:TypeId} {i:TypeInfo} {z:Value} (ht:P.underlying t=some (.slice el)) (hu:P.underlying u=some .string∨∃ el',P.underlying u=some (.slice el')) (hi:P.info? el=some i) (hz:i.zero=some z)
  (b:Option Addr) (sLen cap:Nat) (x:Value) (n:Nat) (hc:cap<sLen+n) (hlen:(Builtin.lenOf x).run P w=.ok n w) (olds news:Array Value)
  (hold:∀ w1:World,w1=w∨w1=w.drew→(Builtin.firstCells i.size sLen (.slice b sLen cap)).run P w1=.ok olds w1)
  (hnew:∀ w1:World,w1=w∨w1=w.drew→(Builtin.firstCells i.size n x).run P w1=.ok news w1)
  (h63:((sLen+n:Nat):Int)≤9223372036854775807) (hfit:Builtin.nextslicecap (sLen+n) cap*i.bytes≤281474976710656) :
  (Builtin.append_ #[t,u] ty #[.slice b sLen cap,x]).run P w =
   .ok (.slice (some ⟨w.heap.size,0,none⟩) (sLen+n) (grownCap w (sLen+n) cap el)) (w.drew.alloc (.cells (olds++news++Builtin.zeroCells z.cells (grownCap w (sLen+n) cap el-(sLen+n))) el)):=by
 have hn':¬ (sLen+n≤cap):=by omega
 have h63':¬ (9223372036854775807<((sLen:Int)+(n:Int))):=by omega
 have h48':¬ (281474976710656<Builtin.nextslicecap (sLen+n) cap*i.bytes):=by omega
 have h1:=hold w.drew (.inr rfl);have h2:=hnew w.drew (.inr rfl);rcases hu with hu | ⟨el',hu⟩<;>simp[Builtin.append_,run_underlying ht,run_underlying hu,Go.sizeOf,typeInfo,zeroValue,hi,hz,hlen,hn',h63',h48',Question.forced,h1,h2,newRow,grownCap]
omit hgl in
theorem tI {c off:Nat} {T:TypeId} {lo hi:Nat}:∀ (us:List Value) (i:Nat) (w:World) (arr:Array Value),w.heap[c]?=some (.cells arr T (lo,hi))→off+i+us.length≤arr.size→(lo<hi→hi≤off∨off+i+us.length≤lo) →
  (∀ u∈us,(∀ l,u≠.agg l)∧(∀ l,u≠.tuple l))→N0≤c →
  ∃ w1 arr',(storeCells ⟨c,off,none⟩ us i).run P w=.ok () w1∧w1.heap[c]?=some (.cells arr' T (lo,hi))∧arr'.size=arr.size∧w1.heap.size=w.heap.size∧(∀ d,d≠c→w1.heap[d]?=w.heap[d]?)∧Below N0 w w1 ∧
   ∀ q,arr'[q]?=if off+i≤q∧q<off+i+us.length then us[q-(off+i)]? else arr[q]?
 | [],i,w,arr,hw,hle,hfr,hu,hc=>⟨w,arr,by simp[storeCells],hw,rfl,rfl,fun _ _=>rfl,Below.refl _ _,fun q=>by rw[if_neg (by simp)]⟩
 | u::us,i,w,arr,hw,hle,hfr,hu,hc=>by
  simp only[List.length_cons]at hle;have hoff:off+i<arr.size:=by omega
  have hcell:w.cell? ⟨c,off+i,none⟩=some arr[off+i]:=by simp[World.cell?,hw,hoff]
  have hfz:w.frozen? ⟨c,off+i,none⟩=false:=by
   simp only[World.frozen?,hw];rw[Bool.and_eq_false_iff]
   by_cases hlh:lo<hi
   ·rcases hfr hlh with this | this
    ·right;simp;omega
    ·left;simp only[List.length_cons]at this;simp;omega
   ·by_cases h1:lo≤off+i
    ·right;simp;omega
    ·left;simp;omega
  have hset:(w.setCell ⟨c,off+i,none⟩ u).heap[c]?=some (.cells (arr.setIfInBounds (off+i) u) T (lo,hi)):=by
   simp only[World.setCell,Array.getElem?_modify,if_true,hw,Option.map_some,Option.isSome_none,Bool.false_eq_true,if_false]
  obtain⟨w1,arr',h1,h2,h3,h4,h5,h6,h7⟩:=tI us (i+1) (w.setCell ⟨c,off+i,none⟩ u) (arr.setIfInBounds (off+i) u) hset (by simp;omega) (fun hlh=>(hfr hlh).imp id fun q=>by simp only[List.length_cons]at q;omega) (fun v hv=>hu v (by simp[hv])) hc;refine⟨w1,arr',?_,h2,by rw[h3];simp,by rw[h4];simp,fun d hd=>by rw[h5 d hd];exact Below.heap_setCell _ _ _ _ hd,((Below.refl N0 w).setCell hc _).trans h6,fun q=>?_⟩
  ·have hna:=hu u (by simp)
   have hst:(store (⟨c,off+i,none⟩ : Addr) u).run P w=.ok () (w.setCell ⟨c,off+i,none⟩ u):=by
    cases u with
    | agg l=>exact(hna.1 l rfl).elim
    | tuple l=>exact(hna.2 l rfl).elim
    | _=>simp[store,Sem.run,hcell,hfz]
   simp only[storeCells,dN,Sem.run_bind,hst,Result.andThen];exact h1
  ·rw[h7,List.length_cons]
   by_cases hq:q=off+i
   ·subst hq
    rw[if_neg (by omega),if_pos (by omega)];simp[hoff]
   ·by_cases hc2:off+i≤q∧q<off+i+(us.length+1)
    ·rw[if_pos (by omega),if_pos hc2,show q-(off+i)=(q-(off+(i+1)))+1 by omega,List.getElem?_cons_succ]
    ·rw[if_neg (by omega),if_neg hc2,Array.getElem?_setIfInBounds_ne (by omega)]
omit hgl in
theorem holds_of {sz:Nat} {es:List PV} {c o:Nat} {sp:Option Nat} {uu:Nat→Nat→Value} (hpos:sz≠0) (q3:∀ (i:Nat) (e:PV),es[i]?=some e→e.cells.length=sz)
  (q4:∀ i j,i<es.length→j<sz→w.cell? ⟨c,o+(i*sz+j),none⟩=some (uu i j)) (q5:∀ (i j:Nat) (e x:PV),es[i]?=some e→e.cells[j]?=some x→RV N0 g w x (uu i j)) (q8:es≠[]→sp=none) (len cap:Nat) :
  ∃ olds:Array Value,(∀ w1:World,w1=w∨w1=w.drew→(Builtin.firstCells sz es.length (.slice (some ⟨c,o,sp⟩) len cap)).run P w1=.ok olds w1)∧Holds N0 g w sz es olds∧∀ i j,i<es.length→j<sz→olds.getD (i*sz+j) Go.undef=uu i j:=by
 have val:∀ i j,i<es.length→j<sz→(((List.range (es.length*sz)).map fun q=>uu (q / sz) (q % sz)).toArray).getD (i*sz+j) Go.undef=uu i j:=by
  intro i j hil hjl;have hlt:=fH hil hjl;have e1:(i*sz+j) / sz=i:=by rw[Nat.mul_comm,Nat.mul_add_div (by omega),Nat.div_eq_of_lt hjl,Nat.add_zero]
  have e2:(i*sz+j) % sz=j:=by rw[Nat.mul_comm,Nat.mul_add_mod,Nat.mod_eq_of_lt hjl]
  simp[Array.getD_eq_getD_getElem?,hlt,e1,e2]
 refine⟨((List.range (es.length*sz)).map fun q=>uu (q / sz) (q % sz)).toArray,?_,⟨by simp,q3,?_⟩,val⟩
 ·intro w1 hw1
  simp only[Builtin.firstCells];refine run_loadCells (P:=P) w1 ⟨c,o,sp⟩ _ (fun q=>uu (q / sz) (q % sz)) (fun q hq=>?_);obtain rfl:sp=none:=q8 (by rintro rfl;simp at hq);have hd':q / sz<es.length:=Nat.div_lt_of_lt_mul (by rwa [Nat.mul_comm]at hq);have hm:q % sz<sz:=Nat.mod_lt _ (by omega);have:=q4 (q / sz) (q % sz) hd' hm;rw[show q / sz*sz+q % sz=q by rw[Nat.mul_comm];exact Nat.div_add_mod q sz]at this;rw[dN];rcases hw1 with rfl | rfl
  ·exact this
  ·exact this
 ·intro i j x0 y hi' hj
  have hil:i<es.length:=(List.getElem?_eq_some_iff.1 hi').1;have hjl:j<sz:=by rw[←q3 i x0 hi'];exact(List.getElem?_eq_some_iff.1 hj).1
  rw[val i j hil hjl];exact q5 i j x0 y hi' hj
omit hgl in
theorem zF {g':G} {w1:World} {sz:Nat} {es xs:List PV} {olds news us:Array Value} {T:TypeId} (hx1:Ext N0 g w g' w1) (hho:Holds N0 g w sz es olds) (hhn:Holds N0 g w sz xs news) {rest:Array Value}
  (hus:us=olds++news++rest) (hw1:w1.heap[w.heap.size]?=some (.cells us T (0,0))) {m:Nat} (hhw:g'.hw w.heap.size=some m) (hm:(es.length+xs.length)*sz≤m) (ow:Own) (cap:Nat) (hcap:es.length+xs.length≤cap) (hnf:ow≠.full)
  (htk:∀ t,ow=.tok t→t<g'.n∧g'.tk t=⟨es.length+xs.length,w.heap.size,0,cap,sz⟩) :
  RV N0 g' w1 (.sl ow sz (es++aO xs)) (.slice (some ⟨w.heap.size,0,none⟩) (es.length+xs.length) cap):=by
 have e1:=hho.1;have e2:=hhn.1;have hlen2:(es++aO xs).length=es.length+xs.length:=by simp[aan]
 have husz:(es.length+xs.length)*sz≤us.size:=by
  simp only[hus,Array.size_append,e1,e2,Nat.add_mul];omega
 obtain⟨j1,j2⟩:=BZ (us:=us) hx1 hho hhn (fun q hq=>by
  rw[hus,Array.getD_eq_getD_getElem?,Array.getElem?_append_left (by simp only[Array.size_append,e1,e2];rw[Nat.add_mul]at hq;exact hq),←Array.getD_eq_getD_getElem?])
 have:=RV.sl (N0:=N0) (g:=g') (w:=w1) ow sz (es++aO xs) w.heap.size 0 cap (fun i j=>us.getD (i*sz+j) Go.undef)
  (by omega) (fun h=>(hnf h).elim) j1 (fun i j hi' hj=>by
   rw[hlen2]at hi';have hlt:=fH hi' hj;rw[Nat.zero_add];have hq:i*sz+j<us.size:=by omega
   simp[World.cell?,hw1,Array.getD_eq_getD_getElem?,hq]) j2 (fun _=>.inr ⟨m,hhw,by rw[hlen2];omega⟩) none (fun _=>rfl)
  (fun t ht=>by
   obtain⟨t1,t2⟩:=htk t ht;rw[hlen2,t2];exact⟨t1,Nat.le_refl _,fun _=>⟨rfl,rfl⟩⟩)
 rw[hlen2]at this;exact this
omit hgl in
theorem mT (w:World) (need old:Nat) (el:TypeId):need≤grownCap w need old el:=by
 unfold grownCap;simp only[Question.cut];omega
theorem iR (k:Ok (N0:=N0) w0 g e a.tmps h w) {c:Go.Call} (ho:o.op=.call c) (hb:c.callee=.builtin .append) {s x:Operand} {t u:TypeId} (hargs:c.args=#[s,x]) (htys:c.argTypes=#[t,u])
  {sz:Nat} (hpos:sz≠0) {s' x':bH} (hs':aU gl s=some s') (hx':aU gl x=some x') {p q:PV} (hp:ev e s'=some p) (hq:ev e x'=some q) {xs:List PV} (hxs:elems h q=some xs) (hall:xs.all (fun x=>x.cells.length == sz)=true) :
  RV N0 g w p (a.eval s)∧(Builtin.lenOf (a.eval x)).run P w=.ok xs.length w∧(∃ news:Array Value,(∀ w1:World,w1=w∨w1=w.drew→(Builtin.firstCells sz xs.length (a.eval x)).run P w1=.ok news w1)∧Holds N0 g w sz xs news) ∧
  ∀ v w1,(Builtin.append_ #[t,u] o.type #[a.eval s,a.eval x]).run P w=.ok v w1→(execOp a.eval o).run P w=.ok (.value v) w1:=by
 have h1:=bT hgl k hs' hp;have h2:=bT hgl k hx' hq;obtain⟨hlen,hnews⟩:=qZ (P:=P) k hpos h2 hxs hall;obtain⟨cs,hrun⟩:=fJ (P:=P) (w:=w) (a:=a) ho hb;rw[hargs,htys]at hrun;simp only[builtin,List.map_toArray,List.map_cons,List.map_nil]at hrun;refine⟨h1,hlen,hnews,fun v w1 hr=>?_⟩;rw[hrun];simp only[Sem.run_bind,hr,Result.andThen,Sem.run_pure]
theorem Pv (k:Ok (N0:=N0) w0 g e a.tmps h w) {c:Go.Call} (ho:o.op=.call c) (hb:c.callee=.builtin .append) {s x:Operand} {t u el:TypeId} (hargs:c.args=#[s,x]) (htys:c.argTypes=#[t,u])
  (ht:P.underlying t=some (.slice el)) (hu:P.underlying u=some .string∨∃ el',P.underlying u=some (.slice el')) {sz:Nat} (hsz:sizeOf P el=some sz) (hsm:dQ P el=true) (hpos:sz≠0) {z:List PV} (hz:zeroOf P el=some z) (hzl:z.length=sz)
  {s' x':bH} (hs':aU gl s=some s') (hx':aU gl x=some x')
  (hs:step orc base draw (.append sz s' x') e h=some (v,e',h')):cm N0 P w0 g a w (execOp a.eval o) v e' h':=by
 simp only[step,Option.aa]at hs;obtain⟨p,hp,q,hq,xs,hxs,hs⟩:=hs;obtain⟨i,zv,hi,hiz,hzsz,_⟩:=kJ (N0:=N0) hz;have hisz:i.size=sz:=by simp only[sizeOf,Option.map_eq_some_iff]at hsz;obtain⟨i',e1,e2⟩:=hsz;rw[hi]at e1;cases e1;exact e2
 have hbytes:i.bytes≤4096:=by simp only[dQ,hi,decide_eq_true_eq]at hsm;exact hsm
 split at hs
 ·rename_i hall
  obtain⟨h1,hlen,⟨news,hnew,hold2⟩,hrun⟩:=iR hgl k ho hb hargs htys hpos hs' hx' hp hq hxs hall;have none_:∀ (b:Option Addr) (n cap:Nat),n≤cap→a.eval s=.slice b n cap→xs.length=0→(execOp a.eval o).run P w=.ok (.value (.slice b n cap)) w:=by
   intro b n cap hc hA hx0;rw[hx0]at hlen hnew;exact hrun _ _ (by rw[hA];exact mh ht hu hi b n cap hc (a.eval x) hlen news (by rw[hold2.1,hx0,Nat.zero_mul]) (by rw[hisz];exact hnew w (.inl rfl)))
  have some_:∀ (b:Option Addr) (es:List PV) (olds:Array Value),a.eval s=.slice b es.length es.length→0<xs.length→es.length+xs.length≤gA →
    (∀ w1:World,w1=w∨w1=w.drew→(Builtin.firstCells sz es.length (.slice b es.length es.length)).run P w1=.ok olds w1)→Holds N0 g w sz es olds →
    cm N0 P w0 g a w (execOp a.eval o) (.sl .no sz (es++aO xs)) e h:=by
   intro b es olds hA hx0 hlim hfo hho;unfold gA at hlim;have hfit:Builtin.nextslicecap (es.length+xs.length) es.length*i.bytes≤281474976710656:=by
    apply growslice_fits (by omega);have:(es.length+xs.length)*i.bytes≤17179869184*4096:=Nat.mul_le_mul hlim hbytes;omega
   have hr:=jQ (ty:=o.type) ht hu hi hiz b es.length es.length (a.eval x) xs.length (by omega) hlen olds news (by rw[hisz];exact hfo) (by rw[hisz];exact hnew) (by omega) hfit;obtain⟨g',hx1,hok,hhw⟩:=zy k _ el ((es.length+xs.length)*sz) _ (lo:=0) (hi:=0) (.inr rfl);refine⟨_,_,_,g',hrun _ _ (by rw[hA];exact hr),.inl rfl,hx1,hok,?_⟩;exact zF hx1 hho hold2 rfl (eO.at (.inr rfl)) hhw (Nat.le_refl _) .no _ (mT _ _ _ _) (by simp) (by simp)
  generalize hA:a.eval s=A at h1 none_ some_;cases h1<;>(try simp only at hs)<;>(try cases hs)
  case bg =>
   split at hs
   ·rename_i hl
    simp only[Option.some.injEq,Prod.mk.injEq]at hs;obtain⟨rfl,rfl,rfl⟩:=hs;rcases Nat.eq_zero_or_pos xs.length with h0 | hp
    ·have:xs=[]:=List.eq_nil_of_length_eq_zero h0
     subst this;simp only[List.isEmpty_nil,if_true];exact aI k (none_ none 0 0 (Nat.le_refl _) rfl rfl) .bg
    ·have hne:xs.isEmpty=false:=by cases xs<;>simp at hp ⊢
     rw[hne];simp only[Bool.false_eq_true,if_false];have:=some_ none [] #[] rfl hp (by simpa using hl) (fun w1 _=>by simp[Builtin.firstCells]) ⟨by simp,by simp,by simp⟩;simpa using this
   ·cases hs
  case sl ow sz' es c' o' cap uu q1 q2 q3 q4 q5 q6 q7 q8 q9 =>
   cases ow<;>(try simp only at hs)<;>(try cases hs)
   case full =>
    split at hs
    ·rename_i hl
     obtain⟨rfl,hl⟩:=hl;simp only[Option.some.injEq,Prod.mk.injEq]at hs;obtain⟨rfl,rfl,rfl⟩:=hs;have hcap:=q2 rfl;subst hcap;rcases Nat.eq_zero_or_pos xs.length with h0 | hp
     ·have:xs=[]:=List.eq_nil_of_length_eq_zero h0
      subst this;simp only[List.isEmpty_nil,if_true];exact aI k (none_ _ es.length es.length (Nat.le_refl _) rfl rfl) (.sl .full sz' es c' o' es.length uu q1 q2 q3 q4 q5 q6 q7 q8 q9)
     ·have hne:xs.isEmpty=false:=by cases xs<;>simp at hp ⊢
      rw[hne];simp only[Bool.false_eq_true,if_false];obtain⟨olds,hfo,hho,hval⟩:=holds_of (P:=P) (g:=g) (w:=w) hpos q3 q4 q5 q8 es.length es.length;exact some_ _ es olds rfl hp hl hfo hho
    ·cases hs
 ·cases hs
theorem MW (k:Ok (N0:=N0) w0 g e a.tmps h w) {c:Go.Call} (ho:o.op=.call c) (hb:c.callee=.builtin .append) {s x:Operand} {t u el:TypeId} (hargs:c.args=#[s,x]) (htys:c.argTypes=#[t,u])
  (ht:P.underlying t=some (.slice el)) (hu:P.underlying u=some .string∨∃ el',P.underlying u=some (.slice el')) {sz:Nat} (hsz:sizeOf P el=some sz) (hsm:dQ P el=true) (hpos:sz≠0) {z:List PV} (hz:zeroOf P el=some z) (hzl:z.length=sz)
  {s' x':bH} (hs':aU gl s=some s') (hx':aU gl x=some x')
  (hs:step orc base draw (.iC el sz s' x') e h=some (v,e',h')):cm N0 P w0 g a w (execOp a.eval o) v e' h':=by
 simp only[step,Option.aa,Option.some.injEq,Prod.mk.injEq]at hs;obtain⟨p,hp,q,hq,xs,hxs,r,hs,rfl,rfl,rfl⟩:=hs;obtain⟨i,zv,hi,hiz,hzsz,_⟩:=kJ (N0:=N0) hz;have hisz:i.size=sz:=by simp only[sizeOf,Option.map_eq_some_iff]at hsz;obtain⟨i',e1,e2⟩:=hsz;rw[hi]at e1;cases e1;exact e2
 have hbytes:i.bytes≤4096:=by simp only[dQ,hi,decide_eq_true_eq]at hsm;exact hsm
 unfold gr at hs;split at hs
 ·rename_i hfit0
  have hall:xs.all (fun x=>x.cells.length == sz)=true:=by
   rw[List.all_eq_true]at hfit0 ⊢;intro x hx;have:=hfit0 x hx;simp only[fits,Bool.and_eq_true]at this;exact this.1
  obtain⟨h1,hlen,⟨news,hnew,hold2⟩,hrun⟩:=iR hgl k ho hb hargs htys hpos hs' hx' hp hq hxs hall;have none_:∀ (b:Option Addr) (n cap:Nat),n≤cap→a.eval s=.slice b n cap→xs.length=0→(execOp a.eval o).run P w=.ok (.value (.slice b n cap)) w:=by
   intro b n cap hc hA hx0;rw[hx0]at hlen hnew;exact hrun _ _ (by rw[hA];exact mh ht hu hi b n cap hc (a.eval x) hlen news (by rw[hold2.1,hx0,Nat.zero_mul]) (by rw[hisz];exact hnew w (.inl rfl)))
  have hfit:∀ n cap,n+xs.length≤gA→cap<n+xs.length→Builtin.nextslicecap (n+xs.length) cap*i.bytes≤281474976710656:=by
   intro n cap hlim hc;unfold gA at hlim;apply growslice_fits hc;have:(n+xs.length)*i.bytes≤17179869184*4096:=Nat.mul_le_mul hlim hbytes;omega
  have some_:∀ (b:Option Addr) (es:List PV) (olds:Array Value),a.eval s=.slice b es.length es.length→0<xs.length→es.length+xs.length≤gA →
    (∀ w1:World,w1=w∨w1=w.drew→(Builtin.firstCells sz es.length (.slice b es.length es.length)).run P w1=.ok olds w1)→Holds N0 g w sz es olds →
    cm N0 P w0 g a w (execOp a.eval o) (.sl (.tok (size h)) sz (es++aO xs)) e (ext h [.tok (es.length+xs.length) el]):=by
   intro b es olds hA hx0 hlim hfo hho;have hr:=jQ (ty:=o.type) ht hu hi hiz b es.length es.length (a.eval x) xs.length (by omega) hlen olds news (by rw[hisz];exact hfo) (by rw[hisz];exact hnew) (by unfold gA at hlim;omega) (hfit _ _ hlim (by omega))
   let cap:=grownCap w (es.length+xs.length) es.length el
   have hcap:es.length+xs.length≤cap:=mT _ _ _ _;obtain⟨g',hx1,hok,hn',_,hhw,htk,_⟩:=kV (cpv:=0) k (.inr rfl:eO w _ (.cells (olds++news++Builtin.zeroCells zv.cells (cap-(es.length+xs.length))) el)) (.tok (es.length+xs.length) el) (some ((es.length+xs.length)*sz))
    ⟨es.length+xs.length,w.heap.size,0,cap,sz⟩ (fun n T hn=>⟨rfl,rfl⟩) (fun g' hx1 hι hhw htk _=>by
     simp only[iZ,htk];refine⟨trivial,hcap,iE k,by rw[hhw,Nat.zero_add],trivial,_,0,0,eO.at (.inr rfl),?_,Nat.zero_le _⟩;have e1:=hho.1;have e2:=hold2.1;have e3:(Builtin.zeroCells zv.cells (cap-(es.length+xs.length))).size=(cap-(es.length+xs.length))*zv.cells.size:=by simp[Builtin.zeroCells]
     have e4:zv.cells.size=sz:=by rw[hzsz,hzl]
     simp only[Array.size_append,e1,e2,e3,e4,Nat.zero_add];rw[←Nat.add_mul,←Nat.add_mul];apply Nat.mul_le_mul_right;omega)
   refine⟨_,_,_,g',hrun _ _ (by rw[hA];exact hr),.inl rfl,hx1,hok,?_⟩;exact zF hx1 hho hold2 rfl (eO.at (.inr rfl)) hhw (Nat.le_refl _) (.tok (size h)) _ hcap (by simp) (fun t ht'=>by cases ht';exact⟨by rw[hn'];omega,htk⟩)
  generalize hA:a.eval s=A at h1 none_ some_ hrun;cases h1<;>(try simp only at hs)<;>(try cases hs)
  case bg =>
   split at hs
   ·rename_i hl
    simp only[Option.some.injEq]at hs;subst hs;rcases Nat.eq_zero_or_pos xs.length with h0 | hp
    ·have:xs=[]:=List.eq_nil_of_length_eq_zero h0
     subst this;simp only[List.isEmpty_nil,if_true];exact aI k (none_ none 0 0 (Nat.le_refl _) rfl rfl) .bg
    ·have hne:xs.isEmpty=false:=by cases xs<;>simp at hp ⊢
     rw[hne];simp only[Bool.false_eq_true,if_false];have:=some_ none [] #[] rfl hp (by simpa using hl) (fun w1 _=>by simp[Builtin.firstCells]) ⟨by simp,by simp,by simp⟩;simpa using this
   ·cases hs
  case sl ow sz' es c' o' cap uu q1 q2 q3 q4 q5 q6 q7 q8 q9 =>
   cases ow<;>(try simp only at hs)<;>(try cases hs)
   case full =>
    split at hs
    ·rename_i hl
     obtain⟨rfl,hl⟩:=hl;simp only[Option.some.injEq]at hs;subst hs;have hcap:=q2 rfl;subst hcap;rcases Nat.eq_zero_or_pos xs.length with h0 | hp
     ·have:xs=[]:=List.eq_nil_of_length_eq_zero h0
      subst this;simp only[List.isEmpty_nil,if_true];exact aI k (none_ _ es.length es.length (Nat.le_refl _) rfl rfl) (.sl .full sz' es c' o' es.length uu q1 q2 q3 q4 q5 q6 q7 q8 q9)
     ·have hne:xs.isEmpty=false:=by cases xs<;>simp at hp ⊢
      rw[hne];simp only[Bool.false_eq_true,if_false];obtain⟨olds,hfo,hho,hval⟩:=holds_of (P:=P) (g:=g) (w:=w) hpos q3 q4 q5 q8 es.length es.length;exact some_ _ es olds rfl hp hl hfo hho
    ·cases hs
   case tok tb =>
    simp only[Option.aa]at hs;obtain⟨n,hn,hs⟩:=hs;split at hs
    ·rename_i hl
     obtain⟨rfl,rfl,hl⟩:=hl;simp only[Option.some.injEq]at hs;subst hs;obtain⟨t1,t2,t3⟩:=q9 tb rfl;have hbx:=k9 hn;have hb0:=k.box tb _ hbx;simp only[iZ]at hb0;obtain⟨b1,b2,b3,b4,b8,arr,lo,hi',b5,b6,b7⟩:=hb0;obtain⟨t4,rfl⟩:=t3 b1;rw[t4]at b1 b2 b3 b4 b5 b6 b7 b8;simp only at b1 b2 b3 b4 b5 b6 b7 b8;have hblk:blk g tb (.tok es.length el)=c':=by simp only[blk,t4]
     obtain⟨olds,hfo,hho,hval⟩:=holds_of (P:=P) (g:=g) (w:=w) hpos q3 q4 q5 q8 es.length cap;have hcsz:=(lF k hbx).2;rw[hblk]at hcsz
     by_cases hroom:es.length+xs.length≤cap
     ·-- in place
      have hmul:(es.length+xs.length)*sz'≤cap*sz':=Nat.mul_le_mul_right _ hroom;rw[Nat.add_mul]at hmul;have e2:=hold2.1;obtain⟨w1,arr',s1,s2,s3,s4,s5,s6,s7⟩:=tI (P:=P) (N0:=N0) (off:=o'+es.length*sz') news.toList 0 w arr b5 (by simp only[Array.length_toList,e2];omega) (fun _=>.inl b7) (fun y hy=>by
       obtain⟨j,hj⟩:=List.mem_iff_getElem?.1 hy;have hjl:j<xs.length*sz':=by rw[←e2,←Array.length_toList];exact(List.getElem?_eq_some_iff.1 hj).1
       have hdj:j / sz'<xs.length:=Nat.div_lt_of_lt_mul (by rwa [Nat.mul_comm]at hjl);have hmj:j % sz'<sz':=Nat.mod_lt _ (by omega);obtain⟨x0,hx0⟩ : ∃ x0,xs[j / sz']?=some x0:=⟨_,List.getElem?_eq_getElem hdj⟩;have hf:=List.all_eq_true.1 hfit0 x0 (List.mem_of_getElem? hx0);simp only[fits,Bool.and_eq_true,beq_iff_eq]at hf;obtain⟨y0,hy0⟩ : ∃ y0,x0.cells[j % sz']?=some y0:=⟨_,List.getElem?_eq_getElem (by omega)⟩;have hsc:=List.all_eq_true.1 hf.2 y0 (List.mem_of_getElem? hy0);have hrv:=hold2.2.2 (j / sz') (j % sz') x0 y0 hx0 hy0;rw[show j / sz'*sz'+j % sz'=j by rw[Nat.mul_comm];exact Nat.div_add_mod j sz']at hrv;have hyv:news.getD j Go.undef=y:=by
        rw[Array.getElem?_toList]at hj;rw[Array.getD_eq_getD_getElem?,hj];rfl
       rw[hyv]at hrv;constructor
       ·intro l hq;subst hq;cases hrv;simp[scalar]at hsc;simp[scalar]at hsc
       ·intro l hq;subst hq;cases hrv;simp[scalar]at hsc;simp[scalar]at hsc) b3
      have hr:=uJ (ty:=o.type) ht hu hi ⟨c',o',none⟩ es.length cap (a.eval x) xs.length hroom hlen news (by rw[hisz];exact hnew w (.inl rfl)) (w1:=w1) (by rw[hisz,dN];exact s1)
      let g':G:={ g with hw:=fun d=>if d=c' then some (o'+(es.length+xs.length)*sz') else g.hw d,tk:=fun d=>if d=tb then⟨es.length+xs.length,c',o',cap,sz'⟩ else g.tk d }
      have ghw:g'.hw c'=some (o'+(es.length+xs.length)*sz'):=by show(if c'=c' then _ else _)=_;rw[if_pos rfl]
      have ghwo:∀ d,d≠c'→g'.hw d=g.hw d:=fun d hd=>by show(if d=c' then _ else _)=_;rw[if_neg hd]
      have gtk:g'.tk tb=⟨es.length+xs.length,c',o',cap,sz'⟩:=by show(if tb=tb then _ else _)=_;rw[if_pos rfl]
      have gtko:∀ d,d≠tb→g'.tk d=g.tk d:=fun d hd=>by show(if d=tb then _ else _)=_;rw[if_neg hd]
      have hcell:∀ q,(q<o'+es.length*sz'∨o'+(es.length+xs.length)*sz'≤q)→w1.cell? ⟨c',q,none⟩=w.cell? ⟨c',q,none⟩:=by
       intro q hq;simp only[World.cell?,s2,b5,s7,Option.isSome_none,Bool.false_eq_true,if_false];rw[if_neg];simp only[Array.length_toList,e2];rw[Nat.add_mul]at hq;omega
      have hx1:Ext N0 g w g' w1:=by
       refine⟨Nat.le_refl _,fun _ _=>rfl,fun d m hm=>?_,fun d m q hm hq=>?_,fun d q hd=>?_,fun d hd=>?_,fun _ _=>rfl⟩
       ·by_cases hd:d=c'
        ·subst hd
         rw[b4]at hm;cases hm;exact⟨_,ghw,by rw[Nat.add_mul];omega⟩
        ·exact⟨m,by rw[ghwo d hd];exact hm,Nat.le_refl _⟩
       ·by_cases hd:d=c'
        ·subst hd
         rw[b4]at hm;cases hm;exact hcell q (.inl hq)
        ·simp only[World.cell?,s5 d hd]
       ·simp only[World.cell?,s5 d (by omega)]
       ·by_cases hd2:d=tb
        ·subst hd2
         rw[gtk,t4];refine⟨by simp,fun hq=>?_⟩;simp only[Nat.add_eq_left]at hq;simp only[hq,Nat.add_zero]
        ·rw[gtko d hd2];exact⟨Nat.le_refl _,fun _=>rfl⟩
      have hok:Ok (N0:=N0) w0 g' e a.tmps (aC h tb (.tok (es.length+xs.length) el)) w1:=by
       refine gS k hbx hx1 rfl s6 (.inl (by rw[hblk];simp only[blk,gtk])) (fun d _ hd=>?_) gtko ?_ (fun d m hm=>?_)
       ·rw[hblk]at hd;exact⟨s5 d hd,ghwo d hd⟩
       ·simp only[iZ,gtk]
        exact⟨trivial,hroom,b3,ghw,b8,arr',lo,hi',s2,by rw[s3];exact b6,by rw[Nat.add_mul];omega⟩
       ·by_cases hd:d=c'
        ·subst hd;exact⟨b3,by rw[s4];exact hcsz⟩
        ·rw[ghwo d hd]at hm
         have:=k.arr d m hm;exact⟨this.1,by rw[s4];exact this.2⟩
      refine⟨_,_,w1,g',hrun _ _ hr,.inl rfl,hx1,hok,?_⟩;have hlen2:(es++aO xs).length=es.length+xs.length:=by simp[aan]
      obtain⟨j1,j2⟩:=BZ (us:=olds++news) hx1 hho hold2 (fun q _=>rfl);have:=RV.sl (N0:=N0) (g:=g') (w:=w1) (.tok tb) sz' (es++aO xs) c' o' cap (fun i j=>(olds++news).getD (i*sz'+j) Go.undef)
       (by rw[hlen2];exact hroom) (by simp) j1 (fun i j hi1 hj=>by
        rw[hlen2]at hi1;have hlt:=fH hi1 hj;have e1:=hho.1
        by_cases hio:i<es.length
        ·have hlt2:=fH hio hj
         rw[hcell _ (.inl (by omega)),q4 i j hio hj,Array.getD_eq_getD_getElem?,Array.getElem?_append_left (by omega),←Array.getD_eq_getD_getElem?];rw[hval i j hio hj]
        ·have hge:es.length*sz'≤i*sz':=Nat.mul_le_mul_right _ (by omega)
         rw[Nat.add_mul]at hlt;simp only[World.cell?,s2,s7,Array.length_toList,e2,Option.isSome_none,Bool.false_eq_true,if_false];rw[if_pos (by omega),Array.getElem?_toList,Array.getD_eq_getD_getElem?,Array.getElem?_append_right (by omega),show o'+(i*sz'+j)-(o'+es.length*sz'+0)=i*sz'+j-olds.size by omega];have:i*sz'+j-olds.size<news.size:=by omega
         simp[this]) j2 (fun _=>.inr ⟨_,ghw,by rw[hlen2];exact Nat.le_refl _⟩) none (fun _=>rfl)
       (fun t ht'=>by
        cases ht';rw[hlen2,gtk];exact⟨t1,Nat.le_refl _,fun _=>⟨rfl,rfl⟩⟩)
      rw[hlen2]at this;exact this
     ·-- a new array
      have hr:=jQ (ty:=o.type) ht hu hi hiz (some ⟨c',o',none⟩) es.length cap (a.eval x) xs.length (by omega) hlen olds news (by rw[hisz];exact hfo) (by rw[hisz];exact hnew) (by unfold gA at hl;omega) (hfit _ _ hl (by omega))
      let ncap:=grownCap w (es.length+xs.length) cap el
      have hcap:es.length+xs.length≤ncap:=mT _ _ _ _
      let us:Array Value:=olds++news++Builtin.zeroCells zv.cells (ncap-(es.length+xs.length))
      have hm:eO w (w.drew.alloc (.cells us el)) (.cells us el):=.inr rfl
      let g':G:={ g with hw:=fun d=>if d=w.heap.size then some ((es.length+xs.length)*sz') else g.hw d,tk:=fun d=>if d=tb then⟨es.length+xs.length,w.heap.size,0,ncap,sz'⟩ else g.tk d }
      have ghw:g'.hw w.heap.size=some ((es.length+xs.length)*sz'):=by show(if w.heap.size=w.heap.size then _ else _)=_;rw[if_pos rfl]
      have ghwo:∀ d,d≠w.heap.size→g'.hw d=g.hw d:=fun d hd=>by show(if d=w.heap.size then _ else _)=_;rw[if_neg hd]
      have gtk:g'.tk tb=⟨es.length+xs.length,w.heap.size,0,ncap,sz'⟩:=by show(if tb=tb then _ else _)=_;rw[if_pos rfl]
      have gtko:∀ d,d≠tb→g'.tk d=g.tk d:=fun d hd=>by show(if d=tb then _ else _)=_;rw[if_neg hd]
      have hN:=iE k;have hx1:Ext N0 g w g' (w.drew.alloc (.cells us el)):=by
       refine⟨Nat.le_refl _,fun _ _=>rfl,fun d m hm'=>⟨m,?_,Nat.le_refl _⟩,fun d m q hm' hq=>hm.cell (k.arr d m hm').2 q,fun d q hd=>hm.cell (by omega) q,fun d hd=>?_,fun _ _=>rfl⟩
       ·rw[ghwo d (by have:=(k.arr d m hm').2;omega)];exact hm'
       ·by_cases hd2:d=tb
        ·subst hd2
         rw[gtk,t4];refine⟨by simp,fun hq=>?_⟩;simp only[Nat.add_eq_left]at hq;omega
        ·rw[gtko d hd2];exact⟨Nat.le_refl _,fun _=>rfl⟩
      have husz:0+ncap*sz'≤us.size:=by
       have e1:=hho.1;have e2:=hold2.1;have e3:(Builtin.zeroCells zv.cells (ncap-(es.length+xs.length))).size=(ncap-(es.length+xs.length))*zv.cells.size:=by simp[Builtin.zeroCells]
       have e4:zv.cells.size=sz':=by rw[hzsz,hzl]
       simp only[us,Array.size_append,e1,e2,e3,e4,Nat.zero_add];rw[←Nat.add_mul,←Nat.add_mul];apply Nat.mul_le_mul_right;omega
      have hok:Ok (N0:=N0) w0 g' e a.tmps (aC h tb (.tok (es.length+xs.length) el)) (w.drew.alloc (.cells us el)):=by
       refine gS k hbx hx1 rfl (hm.below hN) (.inr (by simp only[blk,gtk];exact Nat.le_refl _)) (fun d hd1 hd=>⟨hm.lt hd1,ghwo d (by omega)⟩) gtko ?_ (fun d m hm'=>?_)
       ·simp only[iZ,gtk]
        exact⟨trivial,hcap,hN,by rw[ghw,Nat.zero_add],trivial,us,0,0,hm.at,husz,Nat.zero_le _⟩
       ·by_cases hd:d=w.heap.size
        ·subst hd;exact⟨hN,by rw[hm.size];omega⟩
        ·rw[ghwo d hd]at hm'
         have:=k.arr d m hm';exact⟨this.1,by rw[hm.size];omega⟩
      refine⟨_,_,_,g',hrun _ _ hr,.inl rfl,hx1,hok,?_⟩;exact zF hx1 hho hold2 rfl hm.at ghw (Nat.le_refl _) (.tok tb) _ hcap (by simp) (fun t ht'=>by cases ht';exact⟨t1,gtk⟩)
    ·cases hs
 ·cases hs
end
end Go.Am
namespace Go.Am
open Go.RowKit (Below)
section
variable {N0:Nat} {P:Program} {w0:World} {g:G} {e:Env} {a:Act} {h:Hp} {w:World}
variable {o:Oper} {md:Nat} {orc:iG} {base:Nat} {draw:Bool} {aop:iP} {v:PV} {e':Env} {h':Hp} {gl:cR} (hgl:dR gl N0 w0)
include hgl
omit hgl in
theorem Fo (g:G) (w:World):Ext N0 g w g w.drew:=⟨Nat.le_refl _,fun _ _=>rfl,fun c m h=>⟨m,h,Nat.le_refl _⟩,fun _ _ _ _ _=>rfl,fun _ _ _=>rfl,fun _ _=>⟨Nat.le_refl _,fun _=>rfl⟩,fun _ _=>rfl⟩
omit hgl in
theorem SO (k:Ok (N0:=N0) w0 g e a.tmps h w):Ok (N0:=N0) w0 g e a.tmps h w.drew :=
 k.world (Fo g w) rfl ((Below.refl _ _).drew) (fun _ _ _ _=>⟨rfl,rfl⟩) (fun _ _=>rfl) k.arr
theorem Fp (k:Ok (N0:=N0) w0 g e a.tmps h w) {c:Go.Call} (ho:o.op=.call c) (hb:c.callee=.builtin .append) {s x:Operand} {t u el:TypeId} (hargs:c.args=#[s,x]) (htys:c.argTypes=#[t,u])
  (ht:P.underlying t=some (.slice el)) (hu:P.underlying u=some .string∨∃ el',P.underlying u=some (.slice el')) {sz:Nat} (hsz:sizeOf P el=some sz) (hsm:dQ P el=true) (hpos:sz≠0) {z:List PV} (hz:zeroOf P el=some z) (hzl:z.length=sz)
  {s' x':bH} (hs':aU gl s=some s') (hx':aU gl x=some x')
  (hs:step orc base draw (.fD sz s' x') e h=some (v,e',h')):cm N0 P w0 g a w (execOp a.eval o) v e' h':=by
 simp only[step,Option.aa]at hs;obtain⟨p,hp,q,hq,xs,hxs,es,hes,hs⟩:=hs;obtain⟨i,zv,hi,hiz,hzsz,_⟩:=kJ (N0:=N0) hz;have hisz:i.size=sz:=by simp only[sizeOf,Option.map_eq_some_iff]at hsz;obtain⟨i',e1,e2⟩:=hsz;rw[hi]at e1;cases e1;exact e2
 have hbytes:i.bytes≤4096:=by simp only[dQ,hi,decide_eq_true_eq]at hsm;exact hsm
 split at hs
 ·rename_i hx0
  subst hx0;simp only[Option.some.injEq,Prod.mk.injEq]at hs;obtain⟨rfl,rfl,rfl⟩:=hs;obtain⟨h1,hlen,⟨news,hnew,hold2⟩,hrun⟩:=iR (P:=P) hgl k ho hb hargs htys hpos hs' hx' hp hq hxs rfl;obtain⟨b,n,cap,hc,hA⟩ : ∃ b n cap,n≤cap∧a.eval s=.slice b n cap:=by
   generalize a.eval s=A at h1;unfold tu at hes;cases h1<;>(try simp only at hes)<;>(try cases hes)
   case bg=>exact⟨none,0,0,Nat.le_refl _,rfl⟩
   case sl ow sz' es' c' o' cap uu q1 q2 q3 q4 q5 q6 q7 q8 q9=>exact⟨_,_,_,q1,rfl⟩
   case bX f b off len sz' cap q1 q2 q3 q4=>exact⟨_,_,_,q2,rfl⟩
  have hr0:=hrun (.slice b n cap) w (by rw[hA];exact mh ht hu hi b n cap hc (a.eval x) hlen news (by rw[hold2.1];simp) (by rw[hisz];exact hnew w (.inl rfl)));exact aI k hr0 (by rw[←hA];exact h1)
 split at hs
 ·rename_i hxne hall
  obtain⟨hs1,hall,halle,hlim,hscal,hscale⟩:=hall;have hx0:0<xs.length:=List.length_pos_iff.2 hxne;simp only[Option.some.injEq,Prod.mk.injEq]at hs;obtain⟨rfl,rfl,rfl⟩:=hs;obtain⟨h1,hlen,⟨news,hnew,hold2⟩,hrun⟩:=iR (P:=P) hgl k ho hb hargs htys hpos hs' hx' hp hq hxs hall;unfold gA at hlim;have hel:elems h p=some es:=by
   unfold tu at hes;split at hes
   ·cases hes;rfl
   ·cases hes;rfl
   ·exact hes
   ·cases hes
  obtain⟨hlen0,olds,hfo,hho⟩:=qZ (P:=P) k hpos h1 hel halle;obtain⟨b,hA⟩ : ∃ b,a.eval s=.slice b es.length es.length:=by
   generalize a.eval s=A at h1 hlen0;unfold tu at hes;cases h1<;>(try simp only at hes)<;>(try cases hes)
   case bg=>exact⟨none,rfl⟩
   case sl ow sz' es' c' o' cap uu q1 q2 q3 q4 q5 q6 q7 q8 q9 =>
    cases ow<;>(try simp only at hes)<;>(try cases hes)
    have:=q2 rfl;subst this;exact⟨_,rfl⟩
   case bX f b off len sz' cap q1 q2 q3 q4 =>
    cases f<;>(try simp only at hes)<;>(try cases hes)
    have:=q3 rfl;subst this;have hl:es.length=cap:=by
     simp only[elems]at hes;split at hes
     ·simp only[Option.aa]at hes
      obtain⟨cs,_,hes⟩:=hes;split at hes
      ·rename_i hc
       cases hes;rw[List.length_take,List.length_drop];omega
      ·cases hes
     ·cases hes
    exact⟨_,by rw[hl]⟩
  have hfit:Builtin.nextslicecap (es.length+xs.length) es.length*i.bytes≤281474976710656:=by
   apply growslice_fits (by omega);have:(es.length+xs.length)*i.bytes≤17179869184*4096:=Nat.mul_le_mul (by omega) hbytes;omega
  rw[hA]at hfo;have hr:=jQ (ty:=o.type) ht hu hi hiz b es.length es.length (a.eval x) xs.length (by omega) hlen olds news (by rw[hisz];exact hfo) (by rw[hisz];exact hnew) (by omega) hfit
  let us:Array Value:=olds++news++Builtin.zeroCells zv.cells (grownCap w (es.length+xs.length) es.length el-(es.length+xs.length))
  have hcap:es.length+xs.length≤grownCap w (es.length+xs.length) es.length el:=mT _ _ _ _;have e2:=hold2.1;have e1:=hho.1;rw[hs1,Nat.mul_one]at e2 e1;obtain⟨g',hx1,hok,hn,hι,hcp⟩:=jP k us el (es++xs) (by simp only[us,Array.size_append,e2,e1,List.length_append];omega) (fun j y hc0=>by
   have hj:j<es.length+xs.length:=by have:=(List.getElem?_eq_some_iff.1 hc0).1;rwa [List.length_append]at this
   by_cases hjl:j<es.length
   ·rw[List.getElem?_append_left hjl]at hc0
    have hval:us.getD j Go.undef=olds.getD j Go.undef:=by
     simp only[us,Array.getD_eq_getD_getElem?];rw[Array.append_assoc,Array.getElem?_append_left (by rw[e1];exact hjl)]
    rw[hval];have hcell:y.cells=[y]:=dW (List.all_eq_true.1 hscale y (List.mem_of_getElem? hc0));have:=hho.2.2 j 0 y y hc0 (by rw[hcell];rfl);rw[hs1,Nat.mul_one,Nat.add_zero]at this;exact this
   ·rw[List.getElem?_append_right (by omega)]at hc0
    have hval:us.getD j Go.undef=news.getD (j-es.length) Go.undef:=by
     simp only[us,Array.getD_eq_getD_getElem?];rw[Array.append_assoc,Array.getElem?_append_right (by rw[e1];omega),Array.getElem?_append_left (by rw[e1,e2];omega),e1]
    rw[hval];have hcell:y.cells=[y]:=dW (List.all_eq_true.1 hscal y (List.mem_of_getElem? hc0));have:=hold2.2.2 (j-es.length) 0 y y hc0 (by rw[hcell];rfl);rw[hs1,Nat.mul_one,Nat.add_zero]at this;exact this) (fun T' hT=>by
     have hall2:(es++xs).all scalar=true:=by rw[List.all_append,hscale,hscal];rfl
     exact(mR hall2 0 T' hT).elim) (lo:=0) (hi:=0) (by simp) (.inr rfl)
  refine⟨_,.slice (some ⟨w.heap.size,0,none⟩) (es.length+xs.length) (grownCap w (es.length+xs.length) es.length el),_,g',?_,.inl rfl,hx1,hok,?_⟩
  ·exact hrun _ _ (by rw[hA];exact hr)
  ·have:=RV.bX (N0:=N0) (g:=g') (w:=w.drew.alloc (.cells us el)) false (size h) 0 (es.length+xs.length) sz (grownCap w (es.length+xs.length) es.length el) (by omega) hcap (by simp) (by rw[hcp,hs1];simp only[us,Array.size_append,e1,e2,Builtin.zeroCells,Array.size_map,Array.size_range];rw[hzsz,hzl,hs1];omega)
   rw[hι]at this;exact this
 ·cases hs
theorem Vt (k:Ok (N0:=N0) w0 g e a.tmps h w) {t:TypeId} {x:Operand} (ho:o.op=.makeInterface t x) (hc:jO P gl md o=some aop)
  (hs:step orc base draw aop e h=some (v,e',h')):cm N0 P w0 g a w (execOp a.eval o) v e' h':=by
 simp only[jO,ho]at hc;split at hc
 ·cases hc
 ·rename_i d hd hu
  simp only[Option.map_eq_some_iff]at hc;obtain⟨x',hx,rfl⟩:=hc;simp only[step,Option.aa,Option.some.injEq,Prod.mk.injEq]at hs;obtain⟨p,hp,rfl,rfl,rfl⟩:=hs;refine aI k ?_ (.iface t _ _ ((bT hgl k hx hp)));have hrun:(Instr.makeInterface t (a.eval x)).run P w=.ok (.iface t (a.eval x)) w:=by
   unfold Instr.makeInterface;simp only[Sem.run_bind,run_underlying hu,Result.andThen];cases d<;>first | rfl | exact(hd _ rfl).elim
  simp only[execOp,ho,Sem.run_bind,hrun,Result.andThen,Sem.run_pure]
 ·cases hc
omit hgl in
theorem Fs {t:TypeId} {n:Nat} {gg:Bool} (hn:sizeOf P t=some n) (hg:mP P t=some gg) {us:Array Value} {cs:List PV} (hs:us.size=cs.length) (hr:∀ (j:Nat) (x:PV),cs[j]?=some x→RV N0 g w x (us.getD j Go.undef))
  {off:Nat} {r:PV} (hp:part cs off n gg=some r):∃ u,(Go.part t us off).run P w=.ok u w∧RV N0 g w r u:=by
 unfold Go.part;simp only[Sem.run_bind,lG hg,Result.andThen];cases gg with
 | true =>
  simp only[part,if_true]at hp ⊢;split at hp
  ·rename_i hle
   simp only[Option.some.injEq]at hp;subst hp;refine⟨.agg (us.extract off (off+n)),by simp only[Sem.run_bind,cZ hn,Result.andThen,Sem.run_pure],.agg _ _ (by simp;omega) fun j x hx=>?_⟩;have hy:=hx;have hj:j<n:=by
    rcases Nat.lt_or_ge j n with h' | h'
    ·exact h'
    ·rw[List.getElem?_eq_none (by simp;omega)]at hy;cases hy
   rw[List.getElem?_take,if_pos hj,List.getElem?_drop]at hy;have:=hr _ _ hy;have e1:(us.extract off (off+n)).getD j Go.undef=us.getD (off+j) Go.undef:=by
    simp only[Array.getD_eq_getD_getElem?,Array.getElem?_extract];rw[if_pos (by omega)]
   rw[e1];exact this
  ·cases hp
 | false =>
  simp only[part,Bool.false_eq_true,if_false]at hp ⊢;have hy:=hp;have hlt:off<us.size:=by rw[hs];exact(List.getElem?_eq_some_iff.1 hy).1
  have e1:us[off]?=some (us.getD off Go.undef):=by simp[Array.getD_eq_getD_getElem?,hlt]
  exact⟨us.getD off Go.undef,by rw[e1];rfl,hr _ _ hy⟩
theorem SP (k:Ok (N0:=N0) w0 g e a.tmps h w) {t:TypeId} {x:Operand} {f:Nat} (ho:o.op=.field t x f) (hc:jO P gl md o=some aop)
  (hs:step orc base draw aop e h=some (v,e',h')):cm N0 P w0 g a w (execOp a.eval o) v e' h':=by
 simp only[jO,ho]at hc;split at hc
 ·rename_i fs hu
  simp only[Option.bind_eq_some_iff,Option.map_eq_some_iff]at hc;obtain⟨fd,hfd,n,hn,gg,hg,x',hx,rfl⟩:=hc;simp only[step,Option.aa]at hs;obtain⟨p,hp,hs⟩:=hs;have h1:=bT hgl k hx hp;generalize hA:a.eval x=A at h1;cases h1<;>(try simp only at hs)<;>(try cases hs)
  rename_i cs us hsz hr;simp only[Option.aa,Option.some.injEq,Prod.mk.injEq]at hs;obtain⟨r,hr',rfl,rfl,rfl⟩:=hs;obtain⟨u,hu1,hu2⟩:=Fs (P:=P) hn hg hsz hr hr';refine aI k ?_ hu2;simp only[execOp,ho,hA,Instr.field,asAgg,Sem.run_bind,run_underlying hu,Result.andThen,hfd,Sem.run_pure,hu1]
 ·cases hc
theorem YI (k:Ok (N0:=N0) w0 g e a.tmps h w) {t:TypeId} {x y:Operand} (ho:o.op=.index t x y) (hc:jO P gl md o=some aop)
  (hs:step orc base draw aop e h=some (v,e',h')):cm N0 P w0 g a w (execOp a.eval o) v e' h':=by
 simp only[jO,ho]at hc;split at hc
 ·rename_i hu
  simp only[Option.bind_eq_some_iff,Option.map_eq_some_iff]at hc;obtain⟨x',hx,y',hy,rfl⟩:=hc;simp only[step,Option.aa]at hs;obtain⟨p,hp,q,hq,hs⟩:=hs;have h1:=bT hgl k hx hp;have h2:=bT hgl k hy hq;generalize hA:a.eval x=A at h1;generalize hB:a.eval y=B at h2;cases h1<;>(try simp only at hs)<;>(try cases hs)
  rename_i l s hl;simp only[Option.aa,Option.some.injEq,Prod.mk.injEq]at hs;obtain⟨i,hi,c,hc,rfl,rfl,rfl⟩:=hs;obtain⟨kk,m,rfl,h0,hm,hmi⟩:=BV h2 hi;refine aI k ?_ (.int _ _);have hget:s[m.toNat]?=some c:=by
   rw[hmi,←hc,←hl,Array.getElem?_toList]
   by_cases hq:i<s.size
   ·rw[getElem?_pos s i hq,getElem?_pos s.data i hq];rfl
   ·rw[getElem?_neg s i hq,getElem?_neg s.data i hq]
  simp only[execOp,ho,hA,hB,Instr.index,asIntOf,Sem.run_bind,Sem.run_pure,Result.andThen,run_underlying hu,if_pos h0,hget]
 ·rename_i len el hu
  simp only[Option.bind_eq_some_iff,Option.map_eq_some_iff]at hc;obtain⟨n,hn,gg,hg,x',hx,y',hy,rfl⟩:=hc;simp only[step,Option.aa]at hs;obtain⟨p,hp,q,hq,hs⟩:=hs;have h1:=bT hgl k hx hp;have h2:=bT hgl k hy hq;generalize hA:a.eval x=A at h1;generalize hB:a.eval y=B at h2;cases h1<;>(try simp only at hs)<;>(try cases hs)
  rename_i cs us hsz hr;simp only[Option.aa,Option.some.injEq,Prod.mk.injEq]at hs;obtain⟨i,hi,r,hr',rfl,rfl,rfl⟩:=hs;obtain⟨kk,m,rfl,h0,hm,hmi⟩:=BV h2 hi;obtain⟨u,hu1,hu2⟩:=Fs (P:=P) hn hg hsz hr hr';refine aI k ?_ hu2;rw[←hmi]at hu1;simp only[execOp,ho,hA,hB,Instr.index,asIntOf,Sem.run_bind,Sem.run_pure,Result.andThen,run_underlying hu,if_pos (And.intro h0 hm),cZ hn,hu1]
 ·cases hc
end
end Go.Am
namespace Go.Am
open Go.RowKit (Below)
section
variable {N0:Nat} {P:Program} {w0:World} {g:G} {e:Env} {a:Act} {h:Hp} {w:World}
variable {o:Oper} {md:Nat} {orc:iG} {base:Nat} {draw:Bool} {aop:iP} {v:PV} {e':Env} {h':Hp} {gl:cR} (hgl:dR gl N0 w0)
theorem MX (s:ByteArray) (n:Nat):∀ j,j<s.data.toList.length→(bytesRow s n)[j]?=some (.int .u8 ((s.data.toList[j]?.getD 0).toNat:Int)):=by
 intro j hj;unfold bytesRow;rw[Array.getElem?_append_left (by simpa using hj)];have hj':j<s.data.size:=by simpa using hj
 have hq:s.data[j]?=some s.data[j]:=Array.getElem?_eq_getElem hj';simp[hq]
include hgl
theorem Ja (k:Ok (N0:=N0) w0 g e a.tmps h w) {s d el:TypeId} {x:Operand} (ho:o.op=.convert s d x) (hs0:P.underlying s=some .string) (hd:P.underlying d=some (.slice el)) (hel:P.underlying el=some (.int .u8))
  {x':bH} (hx:aU gl x=some x') {bx:Bool} (hs:step orc base draw (.ir bx x') e h=some (v,e',h')):cm N0 P w0 g a w (execOp a.eval o) v e' h':=by
 simp only[step,Option.aa]at hs;obtain⟨p,hp,hs⟩:=hs;have h1:=bT hgl k hx hp;generalize hA:a.eval x=A at h1;cases h1<;>(try simp only at hs)<;>(try cases hs)
 rename_i l q hl;split at hs
 ·rename_i hlim
  have hlen:l.length=q.size:=by rw[←hl];simp
  have hrun:=run_bytes_of_string (P:=P) w s d el q hs0 hd hel;have hex:(execOp a.eval o).run P w=.ok (.value (.slice (some ⟨w.heap.size,0,none⟩) q.size (grownCap w q.size 0 el)))
   (w.drew.alloc (.cells (bytesRow q (grownCap w q.size 0 el)) el ((bytesRow q (grownCap w q.size 0 el)).size,(bytesRow q (grownCap w q.size 0 el)).size+1))):=by
   simp only[execOp,ho,hA,Sem.run_bind,hrun,Result.andThen,Sem.run_pure]
  have hcap:q.size≤grownCap w q.size 0 el:=mT _ _ _ _;have hget:∀ j,j<l.length→(bytesRow q (grownCap w q.size 0 el))[j]?=some (.int .u8 ((l[j]?.getD 0).toNat:Int)):=by
   intro j hj;have:=MX q (grownCap w q.size 0 el) j (by rw[hl];exact hj);rw[hl]at this;exact this
  have hsz:l.length≤(bytesRow q (grownCap w q.size 0 el)).size:=by
   rw[hlen];unfold bytesRow;simp
  cases bx with
  | true =>
   simp only[if_true,Option.some.injEq,Prod.mk.injEq]at hs;obtain⟨rfl,rfl,rfl⟩:=hs;obtain⟨g',hx1,hok,hn',hι,hcp'⟩:=jP k _ el (l.map fun c=>.int .u8 c.toNat) (by simpa using hsz) (fun j y hy=>by
    rw[List.getElem?_map,Option.map_eq_some_iff]at hy;obtain⟨c,hc,rfl⟩:=hy;have hj:j<l.length:=(List.getElem?_eq_some_iff.1 hc).1;rw[Array.getD_eq_getD_getElem?,hget j hj,hc];exact .int _ _) (fun T' hT=>by rw[List.getElem?_map,Option.map_eq_some_iff]at hT;obtain⟨c,_,hc⟩:=hT;cases hc) (fun _=>Nat.le_refl _) (.inr rfl)
   refine⟨_,_,_,g',hex,.inl rfl,hx1,hok,?_⟩;rw[←hlen,←hι];exact .bX false (size h) 0 l.length 1 _ (by omega) (by rw[hlen];exact hcap) (by simp) (by rw[hcp',hlen];unfold bytesRow;simp;omega)
  | false =>
   simp only[Bool.false_eq_true,if_false,Option.some.injEq,Prod.mk.injEq]at hs;obtain⟨rfl,rfl,rfl⟩:=hs;obtain⟨g',hx1,hok,hhw⟩:=zy k _ el l.length _ (.inr rfl);refine⟨_,_,_,g',hex,.inl rfl,hx1,hok,?_⟩;have hm:eO w _ (.cells (bytesRow q (grownCap w q.size 0 el)) el ((bytesRow q (grownCap w q.size 0 el)).size,(bytesRow q (grownCap w q.size 0 el)).size+1)):=.inr rfl;have:=RV.sl (N0:=N0) (g:=g') (w:=w.drew.alloc (.cells (bytesRow q (grownCap w q.size 0 el)) el ((bytesRow q (grownCap w q.size 0 el)).size,(bytesRow q (grownCap w q.size 0 el)).size+1))) .no 1 (l.map fun c=>.int .u8 c.toNat) w.heap.size 0 (grownCap w q.size 0 el)
    (fun i j=>.int .u8 ((l[i]?.getD 0).toNat:Int)) (by simp[hlen];exact hcap) (by simp) (fun i y hy=>by
     rw[List.getElem?_map,Option.map_eq_some_iff]at hy;obtain⟨c,hc,rfl⟩:=hy;rfl) (fun i j hi hj=>by
     obtain rfl:j=0:=by omega
     simp only[List.length_map]at hi;simp only[World.cell?,hm.at,Nat.mul_one,Nat.add_zero,Nat.zero_add,Option.isSome_none,Bool.false_eq_true,if_false];exact hget i hi) (fun i j y z hy hz=>by
     rw[List.getElem?_map,Option.map_eq_some_iff]at hy;obtain⟨c,hc,rfl⟩:=hy;cases j with
     | zero=>simp[PV.cells]at hz;subst hz;rw[hc];exact .int _ _
     | succ j=>simp[PV.cells]at hz) (fun _=>.inr ⟨_,hhw,by simp⟩) none (fun _=>rfl) (by simp)
   simp only[List.length_map,hlen]at this;exact this
 ·cases hs
omit hgl in
theorem uK:∀ (es:List PV) (l:List UInt8),bytesOf es=some l→es.length=l.length∧∀ (j:Nat) (x:PV),es[j]?=some x→∃ n,x=.int .u8 n∧l[j]?=some (UInt8.ofNat n.toNat)
 | [],l,h=>by simp[bytesOf]at h;subst h;exact⟨rfl,fun j x hx=>by simp at hx⟩
 | x::es,l,h=>by
  unfold bytesOf at h;split at h
  ·cases ‹_::_=_›
  ·rename_i n r heq
   cases heq;simp only[Option.map_eq_some_iff]at h;obtain⟨l',h1,rfl⟩:=h;obtain⟨q1,q2⟩:=uK es l' h1;refine⟨by simp[q1],fun j y hy=>?_⟩;cases j with
   | zero=>simp at hy;subst hy;exact⟨n,rfl,rfl⟩
   | succ j=>simpa using q2 j y (by simpa using hy)
  ·cases h
theorem Jb (k:Ok (N0:=N0) w0 g e a.tmps h w) {s d el:TypeId} {x:Operand} (ho:o.op=.convert s d x) (hs0:P.underlying s=some (.slice el)) (hel:P.underlying el=some (.int .u8)) (hd:P.underlying d=some .string)
  {x':bH} (hx:aU gl x=some x') (hs:step orc base draw (.iu x') e h=some (v,e',h')):cm N0 P w0 g a w (execOp a.eval o) v e' h':=by
 simp only[step,Option.aa]at hs;obtain⟨p,hp,hs⟩:=hs;have h1:=bT hgl k hx hp;obtain⟨es,hes,l,hl,rfl,rfl,rfl⟩ : ∃ es,elems h p=some es∧∃ l,bytesOf es=some l∧.str l=v∧e=e'∧h=h':=by
  cases p<;>first | (simp only at hs;cases hs;done) | (simp only[Option.aa,Option.some.injEq,Prod.mk.injEq]at hs;obtain⟨es,q1,l,q2,q3,q4,q5⟩:=hs;exact⟨es,q1,l,q2,q3,q4,q5⟩)
 have hnstr:∀ s,p≠.str s:=by intro s hq;subst hq;simp at hs
 obtain⟨l1,l2⟩:=uK es l hl;have hall:es.all (fun x=>x.cells.length == 1)=true:=by
  rw[List.all_eq_true];intro y hy;obtain⟨j,hj⟩:=List.mem_iff_getElem?.1 hy;obtain⟨n,rfl,_⟩:=l2 j y hj;rfl
 obtain⟨hlen,news,hnew,hH⟩:=qZ (P:=P) k (sz:=1) (by omega) h1 hes hall;have hnv:∀ j,j<es.length→∃ n:Int,news.getD j Go.undef=.int .u8 n∧l[j]?=some (UInt8.ofNat n.toNat):=by
  intro j hj;obtain⟨n,hn,hln⟩:=l2 j es[j] (List.getElem?_eq_getElem hj);have:=hH.2.2 j 0 es[j] (.int .u8 n) (List.getElem?_eq_getElem hj) (by rw[hn];rfl);rw[Nat.mul_one,Nat.add_zero]at this;exact⟨n,Vl this,hln⟩
 have hnsz:news.size=es.length:=by have:=hH.1;omega
 let ns:List Int:=(List.range es.length).map fun j=>match news.getD j Go.undef with | .int _ n=>n | _=>0
 have hns:(ns.map (Value.int .u8)).toArray=news:=by
  apply Array.ext_getElem?;intro j
  by_cases hj:j<es.length
  ·obtain⟨n,q1,_⟩:=hnv j hj
   have q2:news[j]?=some (.int .u8 n):=by
    have:j<news.size:=by omega
    rw[Array.getD_eq_getD_getElem?,Array.getElem?_eq_getElem this]at q1;rw[Array.getElem?_eq_getElem this];simpa using q1
   simp[ns,hj,q2,Array.getD_eq_getD_getElem?]
  ·rw[Array.getElem?_eq_none (by simp[ns];omega),Array.getElem?_eq_none (by omega)]
 have hfold:∀ (ns:List Int) (r:ByteArray),(ns.foldl (fun r n=>r.push (UInt8.ofNat n.toNat)) r).data.toList=r.data.toList++ns.map fun n=>UInt8.ofNat n.toNat:=by
  intro ns
  induction ns with
  | nil=>intro r;simp
  | cons n ns ih=>intro r;simp only[List.foldl_cons,ih,List.map_cons];simp[ByteArray.push]
 have hres:ns.map (fun n=>UInt8.ofNat n.toNat)=l:=by
  apply List.ext_getElem?;intro j
  by_cases hj:j<es.length
  ·obtain⟨n,q1,q2⟩:=hnv j hj
   simp only[ns,List.map_map,List.getElem?_map,List.getElem?_range hj,Option.map_some,Function.comp,q1,q2]
  ·rw[List.getElem?_eq_none (by simp[ns];omega),List.getElem?_eq_none (by omega)]
 have fin:∀ (A:Option Addr) (len cap:Nat),a.eval x=.slice A len cap→cm N0 P w0 g a w (execOp a.eval o) (.str l) e h:=by
  intro A len cap hA;have hc:=run_convert_bytes_string (P:=P) w s d el A len cap hs0 hel hd;rw[hA]at hlen hnew;have hlen':len=es.length:=by simpa[Builtin.lenOf] using hlen
  subst hlen';cases A with
  | none =>
   have hn0:=hnew w (.inl rfl);simp only[Builtin.firstCells,Sem.run_pure,Result.ok.injEq]at hn0;have hz:es.length=0:=by rw[←hnsz,←hn0.1];rfl
   have hl0:l=[]:=List.eq_nil_of_length_eq_zero (by omega);refine aI (u:=.string .empty) k ?_ (.str _ _ (by rw[hl0];rfl));simp only[execOp,ho,hA,Sem.run_bind,hc,Result.andThen,Sem.run_pure,Conv.bytesToString]
  | some A =>
   have hn0:=hnew w (.inl rfl);simp only[Builtin.firstCells,Nat.mul_one]at hn0;rw[←hns]at hn0;have hb:=run_bytesToString (P:=P) w A es.length cap ns hn0;refine aI (u:=.string (ns.foldl (fun r n=>r.push (UInt8.ofNat n.toNat)) ByteArray.empty)) k ?_ (.str _ _ ?_)
   ·simp only[execOp,ho,hA,Sem.run_bind,hc,hb,Result.andThen,Sem.run_pure]
   ·rw[hfold,hres];simp
 generalize hA:a.eval x=A at h1;cases h1<;>simp only[elems]at hes<;>(try cases hes)
 case bg=>exact fin _ _ _ hA
 case sl=>exact fin _ _ _ hA
 case bX=>exact fin _ _ _ hA
 case str=>exact(hnstr _ rfl).elim
theorem Vu (k:Ok (N0:=N0) w0 g e a.tmps h w) {f:FuncId} {first cap:Array Operand} (ho:o.op=.makeFunc (.func f) first cap) (hf:first.size=0) {xs:List bH} (hx:lB gl cap.toList=some xs)
  (hs:step orc base draw (.HV f xs) e h=some (v,e',h')):cm N0 P w0 g a w (execOp a.eval o) v e' h':=by
 simp only[step,Option.aa,Option.some.injEq,Prod.mk.injEq]at hs;obtain⟨vs,hvs,rfl,rfl,rfl⟩:=hs;obtain⟨h1,h2⟩:=zC hgl k hx hvs;have hfe:first=#[]:=Array.eq_empty_of_size_eq_zero hf;refine aI (u:=.func (.func f) #[] (cap.map a.eval)) k ?_ (.fn f vs _ (by simpa using h1) fun j x hx=>?_)
 ·simp only[execOp,ho,Instr.makeFunc,hfe,Sem.run_bind,Sem.run_pure,Result.andThen,Array.map_empty]
 ·have:=h2 j x hx
  simpa[List.getD_eq_getElem?_getD,Array.getD_eq_getD_getElem?] using this
omit hgl in
theorem Di (z:List PV):∀ (n j:Nat),(List.flatten (List.replicate n z))[j]?=if j<n*z.length then z[j % z.length]? else none
 | 0,j=>by simp
 | n+1,j=>by
  rw[List.replicate_succ,List.flatten_cons]
  by_cases hj:j<z.length
  ·rw[List.getElem?_append_left hj,if_pos (by rw[Nat.succ_mul];omega),Nat.mod_eq_of_lt hj]
  ·rw[List.getElem?_append_right (by omega),Di z n,Nat.succ_mul]
   by_cases hk:j-z.length<n*z.length
   ·have e:=Nat.mod_eq_sub_mod (show j≥z.length by omega)
    rw[if_pos hk,if_pos (by omega),e]
   ·rw[if_neg hk,if_neg (by omega)]
theorem Pw (k:Ok (N0:=N0) w0 g e a.tmps h w) {t el:TypeId} {len cap:Operand} (ho:o.op=.makeSlice t len cap) (ht:P.underlying t=some (.slice el)) {sz:Nat} (hsz:sizeOf P el=some sz) (hsm:dQ P el=true) (hpos:sz≠0)
  {z:List PV} (hz:zeroOf P el=some z) (hzl:z.length=sz) {gg:Bool} {l' c':bH} (hl:aU gl len=some l') (hc:aU gl cap=some c')
  (hs:step orc base draw (.mD el z gg l' c') e h=some (v,e',h')):cm N0 P w0 g a w (execOp a.eval o) v e' h':=by
 simp only[step,Option.aa]at hs;obtain⟨p,hp,q,hq,n,hn,hs⟩:=hs;have h1:=bT hgl k hl hp;have h2:=bT hgl k hc hq;obtain⟨i,zv,hi,hiz,hzsz,hzr⟩:=kJ (N0:=N0) hz;have hisz:i.size=sz:=by simp only[sizeOf,Option.map_eq_some_iff]at hsz;obtain⟨i',e1,e2⟩:=hsz;rw[hi]at e1;cases e1;exact e2
 have hbytes:i.bytes≤4096:=by simp only[dQ,hi,decide_eq_true_eq]at hsm;exact hsm
 generalize hA:a.eval len=A at h1;generalize hB:a.eval cap=B at h2;cases h1<;>cases h2<;>simp only[KP]at hn<;>(try cases hn)
 rename_i k1 l k2 c;split at hn
 ·rename_i hb
  obtain⟨b1,b2,b3⟩:=hb;simp only[Option.some.injEq]at hn;subst hn;unfold gA at b3
  let us:Array Value:=(Array.range (c.toNat*i.size)).map (zv.cells[· % zv.cells.size]!)
  have huz:zv.cells.size=sz:=by rw[hzsz,hzl]
  have hrun:(execOp a.eval o).run P w=.ok (.value (.slice (some ⟨w.heap.size,0,none⟩) l.toNat c.toNat)) (w.alloc (.cells us el)):=by
   have w1:IntKind.i64.wrap l=l:=by rw[IntKind.wrap_i64];omega
   have w2:IntKind.i64.wrap c=c:=by rw[IntKind.wrap_i64];omega
   have hbig':¬ (281474976710656<(i.bytes:Int)*c):=by
    have hcc:c=(c.toNat:Int):=by omega
    have:i.bytes*c.toNat≤4096*17179869184:=Nat.mul_le_mul hbytes (by omega);rw[hcc];have h3:((i.bytes*c.toNat:Nat):Int)≤((4096*17179869184:Nat):Int):=Int.ofNat_le.2 this;rw[Int.natCast_mul]at h3;generalize (i.bytes:Int)*(c.toNat:Int)=z at *;omega
   have c0:¬ c<0:=by omega
   have l0:¬ l<0:=by omega
   have lc:¬ l > c:=by omega
   have lc':¬ c<l:=by omega
   by_cases h0:c.toNat*i.size=0
   ·have hr0:Array.range 0=#[]:=rfl
    have hu:us=#[]:=by simp[us,h0,hr0]
    simp[execOp,ho,hA,hB,Instr.makeSlice,run_underlying ht,typeInfo,hi,asInt,asIntOf,w1,w2,hbig',c0,l0,lc',Go.sizeOf,h0,newRow,hu,hr0]
   ·simp[execOp,ho,hA,hB,Instr.makeSlice,run_underlying ht,typeInfo,hi,asInt,asIntOf,w1,w2,hbig',c0,l0,lc',Go.sizeOf,h0,newRow,zeroValue,hiz,us]
  have hum:us.size=c.toNat*sz:=by simp[us,hisz]
  have hug:∀ j,j<c.toNat*sz→us.getD j Go.undef=zv.cells.getD (j % sz) Go.undef:=by
   intro j hj;have hm:j % sz<sz:=Nat.mod_lt _ (by omega);have hq:(Array.range (c.toNat*i.size))[j]?=some j:=by simp[hisz,hj]
   simp only[us,Array.getD_eq_getD_getElem?,Array.getElem?_map,hq,Option.map_some,Option.getD_some,huz];have:j % sz<zv.cells.size:=by omega
   simp[this]
  simp only at hs;split at hs
  ·rename_i heq
   simp only[Option.some.injEq,Prod.mk.injEq]at hs;obtain⟨rfl,rfl,rfl⟩:=hs;obtain⟨g',hx1,hok,hn',hι,hcp'⟩:=jP k us el (List.flatten (List.replicate l.toNat z)) (by simp[hum,hzl,heq]) (fun j y hy=>by
    rw[Di,hzl]at hy;split at hy
    ·rename_i hj
     rw[hug j (by rw[←heq];exact hj)];exact hzr g w _ y hy
    ·cases hy) (fun T' hT=>by
    rw[Di]at hT;split at hT
    ·exact(K1 hz _ T' hT).elim
    ·cases hT) (lo:=0) (hi:=0) (by simp) (.inl rfl)
   refine⟨_,_,_,g',hrun,.inl rfl,hx1,hok,?_⟩;rw[←hι,hzl];exact .bX true (size h) 0 l.toNat sz _ (by omega) (by omega) (fun _=>heq.symm) (by rw[hcp',hum];omega)
  ·rename_i hne
   split at hs
   ·rename_i h0
    simp only[Option.some.injEq,Prod.mk.injEq]at hs;obtain⟨rfl,rfl,rfl⟩:=hs;have hm:eO w (w.alloc (.cells us el)) (.cells us el):=.inl rfl;obtain⟨g',hx1,hok,hn',_,hhw,htk,_⟩:=kV (cpv:=0) k hm (.tok 0 el) (some 0) ⟨0,w.heap.size,0,c.toNat,sz⟩ (fun n T hn=>⟨rfl,rfl⟩) (fun g' hx1 hι hhw htk _=>by
     simp only[iZ,htk];exact⟨trivial,Nat.zero_le _,iE k,by rw[hhw];simp,trivial,us,0,0,hm.at,by rw[hum];simp,Nat.zero_le _⟩)
    refine⟨_,_,_,g',hrun,.inl rfl,hx1,hok,?_⟩;rw[h0,hzl];exact RV.sl (N0:=N0) (g:=g') (.tok (size h)) sz [] w.heap.size 0 c.toNat (fun _ _=>Go.undef) (by simp) (by simp) (by simp) (by simp) (by simp) (by simp) none (by simp)
     (fun t ht'=>by cases ht';rw[htk];exact⟨by rw[hn'];omega,Nat.le_refl _,fun _=>⟨rfl,rfl⟩⟩)
   ·cases hs
 ·cases hn
theorem SQ (k:Ok (N0:=N0) w0 g e a.tmps h w) {t:TypeId} {x:Operand} (ho:o.op=.range t x) (ht:P.underlying t=some .string) {x':bH} (hx:aU gl x=some x')
  (hs:step orc base draw (.range x') e h=some (v,e',h')):cm N0 P w0 g a w (execOp a.eval o) v e' h':=by
 simp only[step,Option.aa]at hs;obtain⟨p,hp,hs⟩:=hs;have h1:=bT hgl k hx hp;generalize hA:a.eval x=A at h1;cases h1<;>(try simp only at hs)<;>(try cases hs)
 rename_i s q hq;have hm:eO w (w.alloc (.stringIter q 0)) (.stringIter q 0):=.inl rfl;obtain⟨g',hx1,hok,hn,hι,_,_,_⟩:=kV (cpv:=0) k hm (.iter s 0) none default (fun n T hn=>by cases hn) (fun g' hx1 hι hhw htk _=>⟨by rw[hι];exact iE k,by rw[hι];exact hhw,q,hq,by rw[hι];exact hm.at⟩);refine⟨_,.pointer (some ⟨w.heap.size,0,none⟩),_,g',?_,.inl rfl,hx1,hok,?_⟩
 ·simp[execOp,ho,hA,Instr.range,run_underlying ht]
 ·rw[←hι];exact .it _ (by omega)
theorem Vv (k:Ok (N0:=N0) w0 g e a.tmps h w) {x:Operand} (ho:o.op=.next x true) {x':bH} (hx:aU gl x=some x')
  (hs:step orc base draw (.next x') e h=some (v,e',h')):cm N0 P w0 g a w (execOp a.eval o) v e' h':=by
 simp only[step,Option.aa]at hs;obtain⟨p,hp,hs⟩:=hs;have h1:=bT hgl k hx hp;generalize hA:a.eval x=A at h1;cases h1<;>(try simp only at hs)<;>(try cases hs)
 rename_i b hb;simp only[Option.aa]at hs;obtain⟨⟨s,pos⟩,hit,hs⟩:=hs;have hbx:=uv hit;have hk:=k.box b _ hbx;simp only[iZ]at hk;obtain⟨k1,k2,s',k3,k4⟩:=hk;have hsz:s.length=s'.size:=by rw[←k3];simp
 have hsb:s'=⟨s.toArray⟩:=by apply ByteArray.ext;rw[←k3]
 have hget:(getObj (g.ι b)).run P w=.ok (.stringIter s' pos) w:=by simp[getObj,Sem.run,k4]
 split at hs
 ·rename_i hlt
  simp only[Option.some.injEq,Prod.mk.injEq]at hs;obtain⟨rfl,rfl,rfl⟩:=hs;have hr:iF s pos=Utf8.decode s' pos:=by unfold iF;rw[hsb]
  let w1:World:={ w with heap:=w.heap.setIfInBounds (g.ι b) (.stringIter s' (pos+(Utf8.decode s' pos).2)) }
  have hset:(setObj (g.ι b) (.stringIter s' (pos+(Utf8.decode s' pos).2))).run P w=.ok () w1:=by
   simp only[setObj,Sem.run,k4];rfl
  have hheap:∀ c,c≠g.ι b→w1.heap[c]?=w.heap[c]?:=fun c hc=>by
   show(w.heap.setIfInBounds _ _)[c]?=_;rw[Array.getElem?_setIfInBounds_ne (fun hq=>hc hq.symm)]
  have hat:w1.heap[g.ι b]?=some (.stringIter s' (pos+(Utf8.decode s' pos).2)):=by
   have:=(Array.getElem?_eq_some_iff.1 k4).1;show(w.heap.setIfInBounds _ _)[g.ι b]?=_;simp[this]
  have hcell:∀ c o,w1.cell? ⟨c,o,none⟩=w.cell? ⟨c,o,none⟩:=by
   intro c o
   by_cases hc:c=g.ι b
   ·subst hc;simp only[World.cell?,hat,k4]
   ·simp only[World.cell?,hheap c hc]
  have hx1:Ext N0 g w g w1:=⟨Nat.le_refl _,fun _ _=>rfl,fun c m hm=>⟨m,hm,Nat.le_refl _⟩,fun c m o _ _=>hcell c o,fun c o _=>hcell c o,fun t ht=>⟨Nat.le_refl _,fun _=>rfl⟩,fun _ _=>rfl⟩;have hbl:Below N0 w w1:=⟨rfl,rfl,rfl,by show _≤(w.heap.setIfInBounds _ _).size;simp,fun c hc=>hheap c (by omega)⟩;have hok:Ok (N0:=N0) w0 g e a.tmps (aC h b (.iter s (pos+(iF s pos).2))) w1:=by
   refine gS k hbx hx1 rfl hbl (.inl rfl) (fun c _ hc=>⟨hheap c hc,rfl⟩) (fun _ _=>rfl) ⟨k1,k2,s',k3,by rw[hat,hr]⟩ (fun c m hm=>?_);have:=k.arr c m hm;exact⟨this.1,by show _<(w.heap.setIfInBounds _ _).size;simp;exact this.2⟩
  refine⟨_,.tuple #[.bool true,goInt pos,.int .i32 (Utf8.decode s' pos).1],w1,g,?_,.inl rfl,hx1,hok,?_⟩
  ·rw[hsz]at hlt
   simp[execOp,ho,hA,Instr.next,hget,hlt,hset]
  ·rw[hr]
   refine .cF _ _ rfl fun j y hy=>?_
   match j with
   | 0=>simp at hy;subst hy;exact .bool _
   | 1=>simp at hy;subst hy;exact .int _ _
   | 2=>simp at hy;subst hy;exact .int _ _
   | j+3=>simp at hy
 ·rename_i hlt
  simp only[Option.some.injEq,Prod.mk.injEq]at hs;obtain⟨rfl,rfl,rfl⟩:=hs;refine aI (u:=.tuple #[.bool false]) k ?_ (.cF _ _ rfl fun j y hy=>?_)
  ·rw[hsz]at hlt
   simp[execOp,ho,hA,Instr.next,hget,hlt]
  ·match j with
   | 0=>simp at hy;subst hy;exact .bool _
   | j+1=>simp at hy
theorem MY (k:Ok (N0:=N0) w0 g e a.tmps h w) {x:Operand} {xt t:TypeId} {ok:Bool} (ho:o.op=.typeAssert x xt t ok) {d:TypeDesc} (hu:P.underlying t=some d) (hd:∀ ms,d≠.interface ms)
  {z:PV} (hz:zeroV P t=some z) {x':bH} (hx:aU gl x=some x')
  (hs:step orc base draw (.kC t ok z x') e h=some (v,e',h')):cm N0 P w0 g a w (execOp a.eval o) v e' h':=by
 simp only[step,Option.aa]at hs;obtain⟨p,hp,hs⟩:=hs;have h1:=bT hgl k hx hp;obtain⟨u,hzu,hzr⟩ : ∃ u,(zeroValue t).run P w=.ok u w∧RV N0 g w z u:=by
  unfold zeroV at hz;simp only[Option.bind_eq_some_iff]at hz;obtain⟨u,⟨i,hi,hu'⟩,hy⟩:=hz;exact⟨u,oU hi hu' w,oQ u z hy⟩
 have fails:ok=true→(Instr.typeAssert (a.eval x) xt t true).run P w=.ok (.tuple #[u,.bool false]) w→cm N0 P w0 g a w (execOp a.eval o) (.cF [z,.bool false]) e h:=by
  rintro rfl hrun;refine aI k (u:=.tuple #[u,.bool false]) ?_ (.cF _ _ rfl fun j y hy=>?_)
  ·simp only[execOp,ho,Sem.run_bind,hrun,Result.andThen,Sem.run_pure]
  ·match j with
   | 0=>cases hy;exact hzr
   | 1=>cases hy;exact .bool _
   | j+2=>simp at hy
 generalize hA:a.eval x=A at h1 fails;cases h1<;>(try simp only at hs)<;>(try cases hs)
 case iface t' pp U hr =>
  split at hs
  ·rename_i heq
   subst heq;have hrun:∀ b,(Instr.typeAssert (.iface t' U) xt t' b).run P w=.ok (if b then .tuple #[U,.bool true] else U) w:=by
    intro b;unfold Instr.typeAssert;simp only[Sem.run_bind,run_underlying hu,Result.andThen];cases d<;>first | exact(hd _ rfl).elim | (simp only[if_true,Sem.run_pure])
   cases ok with
   | true =>
    simp only[if_true,Option.some.injEq,Prod.mk.injEq]at hs;obtain⟨rfl,rfl,rfl⟩:=hs;refine aI k (u:=.tuple #[U,.bool true]) ?_ (.cF _ _ rfl fun j y hy=>?_)
    ·simp only[execOp,ho,hA,Sem.run_bind,hrun,Result.andThen,Sem.run_pure,if_true]
    ·match j with
     | 0=>cases hy;exact hr
     | 1=>cases hy;exact .bool _
     | j+2=>simp at hy
   | false =>
    simp only[Bool.false_eq_true,if_false,Option.some.injEq,Prod.mk.injEq]at hs;obtain⟨rfl,rfl,rfl⟩:=hs;refine aI k (u:=U) ?_ hr;simp only[execOp,ho,hA,Sem.run_bind,hrun,Result.andThen,Sem.run_pure,Bool.false_eq_true,if_false]
  ·rename_i hne
   cases ok with
   | true =>
    simp only[if_true,Option.some.injEq,Prod.mk.injEq]at hs;obtain⟨rfl,rfl,rfl⟩:=hs;refine fails rfl ?_;unfold Instr.typeAssert;simp only[Sem.run_bind,run_underlying hu,Result.andThen];cases d<;>first | exact(hd _ rfl).elim | (simp only[if_neg hne,if_true,Sem.run_bind,hzu,Result.andThen,Sem.run_pure])
   | false=>simp at hs
 case dJ =>
  cases ok with
  | true =>
   simp only[if_true,Option.some.injEq,Prod.mk.injEq]at hs;obtain⟨rfl,rfl,rfl⟩:=hs;refine fails rfl ?_;unfold Instr.typeAssert;simp only[Sem.run_bind,run_underlying hu,Result.andThen];cases d<;>first | exact(hd _ rfl).elim | (simp only[if_true,Sem.run_bind,hzu,Result.andThen,Sem.run_pure])
  | false=>simp at hs
omit hgl in
theorem oW {t:TypeId} {kd:Nat} (h:jr P t=some kd):mP P t=some false:=by
 unfold jr at h;unfold mP;split at h<;>first | (rename_i hu _;rw[hu]) | cases h
omit hgl in
theorem B3 {d:Nat} {t:TypeId} {kd:Nat} (h:jr P t=some kd) {x y:PV} {U V:Value} (r1:RV N0 g w x U) (r2:RV N0 g w y V) {b:Bool} (hb:fF kd x y=some b):(Op.equalIn (d+1) t U V).run P w=.ok b w:=by
 unfold jr at h;split at h
 ·rename_i hu _
  simp only[Option.some.injEq]at h;subst h;cases r1<;>cases r2<;>simp only[fF]at hb<;>(try cases hb)
  exact run_equalIn_bool' w d _ _ _ hu
 ·rename_i kk hu _
  simp only[Option.some.injEq]at h;subst h;cases r1<;>cases r2<;>simp only[fF]at hb<;>(try cases hb)
  split at hb
  ·rename_i hk
   subst hk;simp only[Option.some.injEq]at hb;subst hb;exact run_equalIn_int w d _ _ _ _ _ hu
  ·cases hb
 ·rename_i hu _
  simp only[Option.some.injEq]at h;subst h;cases r1<;>cases r2<;>simp only[fF]at hb<;>(try cases hb)
  rename_i l1 q1 h1 l2 q2 h2;rw[run_equalIn_string w d t _ _ hu,ByteArray.toList_eq,ByteArray.toList_eq,h1,h2]
 ·cases h
omit hgl in
theorem oX {d:Nat} {us vs:Array Value} {cs ds:List PV} (hus:us.size=cs.length) (hvs:vs.size=ds.length) (hu:∀ (j:Nat) (x:PV),cs[j]?=some x→RV N0 g w x (us.getD j Go.undef)) (hv:∀ (j:Nat) (x:PV),ds[j]?=some x→RV N0 g w x (vs.getD j Go.undef)) :
  ∀ (fl:List Field) (off:Nat) (ks:List Nat),oM P off fl=some ks→∀ b,cy ks (cs.drop off) (ds.drop off)=some b→(Op.eqFields (d+1) us vs fl).run P w=.ok b w
 | [],off,ks,hf,b,hb=>by
  simp only[oM,Option.some.injEq]at hf;subst hf;cases hcd:cs.drop off<;>cases hdd:ds.drop off<;>rw[hcd,hdd]at hb<;>simp[cy]at hb
  subst hb;rfl
 | f::fl,off,ks,hf,b,hb=>by
  simp only[oM]at hf;split at hf
  ·rename_i hc
   simp only[Bool.and_eq_true,beq_iff_eq,bne_iff_ne,ne_eq]at hc;obtain⟨h1,h2⟩:=hc;simp only[Option.bind_eq_some_iff,Option.map_eq_some_iff]at hf;obtain⟨kd,hkd,ks',hks,rfl⟩:=hf;cases hcd:cs.drop off with
   | nil=>rw[hcd]at hb;simp[cy]at hb
   | cons x xs =>
    cases hdd:ds.drop off with
    | nil=>rw[hcd,hdd]at hb;simp[cy]at hb
    | cons y ys =>
     rw[hcd,hdd]at hb;simp only[cy,Option.aa,Option.some.injEq]at hb;obtain⟨b1,hb1,b2,hb2,rfl⟩:=hb;have hx:cs[off]?=some x:=by have:=List.getElem?_drop (xs:=cs) (i:=off) (j:=0);rw[hcd]at this;simpa using this.symm
     have hy:ds[off]?=some y:=by have:=List.getElem?_drop (xs:=ds) (i:=off) (j:=0);rw[hdd]at this;simpa using this.symm
     have l1:off<us.size:=by rw[hus];exact(List.getElem?_eq_some_iff.1 hx).1
     have l2:off<vs.size:=by rw[hvs];exact(List.getElem?_eq_some_iff.1 hy).1
     have x1:us[off]?=some (us.getD off Go.undef):=by simp[Array.getD_eq_getD_getElem?,l1]
     have y1:vs[off]?=some (vs.getD off Go.undef):=by simp[Array.getD_eq_getD_getElem?,l2]
     have ih:=oX (d:=d) hus hvs hu hv fl (off+1) ks' hks b2 (by
      rw[show cs.drop (off+1)=xs by rw[←List.drop_drop,hcd];rfl,show ds.drop (off+1)=ys by rw[←List.drop_drop,hdd];rfl];exact hb2)
     have hag:=oW hkd;have hpart:∀ (W:Array Value) (V:Value),W[off]?=some V→(Go.part f.type W f.offset).run P w=.ok V w:=by
      intro W V hV;unfold Go.part;simp only[Sem.run_bind,lG hag,Result.andThen,Bool.false_eq_true,if_false,h1,hV];rfl
     have heq:=B3 (d:=d) hkd (hu off x hx) (hv off y hy) hb1;simp only[Op.eqFields,ne_eq,h2,not_false_eq_true,if_true,Sem.run_bind,hpart us _ x1,hpart vs _ y1,Result.andThen,heq];cases b1 with
     | true=>simpa using ih
     | false=>simp
  ·cases hf
theorem YJ (k:Ok (N0:=N0) w0 g e a.tmps h w) {op:BinOp} {t t':TypeId} {x y:Operand} {fs:Array Field} {ks:List Nat} (ho:o.op=.binOp op t x y t') (hu:P.underlying t=some (.struct fs)) (hop:isEq op=true) (hst:P.stoodInHeld t=false) (hgt:P.eqGuardType P.depth t=false)
  (hfl:oM P 0 fs.toList=some ks) {x' y':bH} (hx:aU gl x=some x') (hy:aU gl y=some y')
  (hs:step orc base draw (.eqv (gX op) ks x' y') e h=some (v,e',h')):cm N0 P w0 g a w (execOp a.eval o) v e' h':=by
 simp only[step,Option.aa]at hs;obtain⟨p,hp,q,hq,hs⟩:=hs;have h1:=bT hgl k hx hp;have h2:=bT hgl k hy hq;generalize hA:a.eval x=A at h1;generalize hB:a.eval y=B at h2;cases h1<;>(try simp only at hs)<;>(try cases hs)
 rename_i cs us hus hru;cases h2<;>(try simp only at hs)<;>(try cases hs)
 rename_i ds vs hvs hrv;simp only[Option.aa,Option.some.injEq,Prod.mk.injEq]at hs;obtain⟨b,hb,rfl,rfl,rfl⟩:=hs;have hfo:P.fieldsOf t=fs:=by simp[Program.fieldsOf,hu]
 have heq:(Op.equalIn 10000 t (.agg us) (.agg vs)).run P w=.ok b w:=by
  rw[run_equalIn_struct w 9999 t us vs (by rw[hfo];exact hu) hst,hfo];exact oX (d:=9998) hus hvs hru hrv fs.toList 0 ks hfl b (by simpa using hb)
 refine aI k ?_ (.bool _);have hg:=run_eqGuard_agg (P:=P) w op t x y us vs hgt;cases op<;>simp only[isEq]at hop<;>(try cases hop)
 ·simp only[execOp,ho,hA,hB,Sem.run_bind,hg,Result.andThen,run_eql_struct,heq,gX,Bool.false_eq_true,if_false,Sem.run_pure]
 ·simp only[execOp,ho,hA,hB,Sem.run_bind,hg,Result.andThen,run_neq_struct,heq,gX,if_true,Sem.run_pure]
omit hgl in
theorem zG {d:Nat} {el:TypeId} {kd:Nat} (hkd:jr P el=some kd) {us vs:Array Value} {cs ds:List PV} (hus:us.size=cs.length) (hvs:vs.size=ds.length) (hu:∀ (j:Nat) (x:PV),cs[j]?=some x→RV N0 g w x (us.getD j Go.undef)) (hv:∀ (j:Nat) (x:PV),ds[j]?=some x→RV N0 g w x (vs.getD j Go.undef)) :
  ∀ (m off:Nat) (b:Bool),cy (List.replicate m kd) (cs.drop off) (ds.drop off)=some b→(Op.eqItems (d+1) el 1 us vs (List.range' off m)).run P w=.ok b w
 | 0,off,b,hb=>by
  cases hcd:cs.drop off<;>cases hdd:ds.drop off<;>rw[hcd,hdd]at hb<;>simp[cy]at hb
  subst hb;rfl
 | m+1,off,b,hb=>by
  rw[List.replicate_succ]at hb;cases hcd:cs.drop off with
  | nil=>rw[hcd]at hb;simp[cy]at hb
  | cons x xs =>
   cases hdd:ds.drop off with
   | nil=>rw[hcd,hdd]at hb;simp[cy]at hb
   | cons y ys =>
    rw[hcd,hdd]at hb;simp only[cy,Option.aa,Option.some.injEq]at hb;obtain⟨b1,hb1,b2,hb2,rfl⟩:=hb;have hx:cs[off]?=some x:=by have:=List.getElem?_drop (xs:=cs) (i:=off) (j:=0);rw[hcd]at this;simpa using this.symm
    have hy:ds[off]?=some y:=by have:=List.getElem?_drop (xs:=ds) (i:=off) (j:=0);rw[hdd]at this;simpa using this.symm
    have l1:off<us.size:=by rw[hus];exact(List.getElem?_eq_some_iff.1 hx).1
    have l2:off<vs.size:=by rw[hvs];exact(List.getElem?_eq_some_iff.1 hy).1
    have x1:us[off]?=some (us.getD off Go.undef):=by simp[Array.getD_eq_getD_getElem?,l1]
    have y1:vs[off]?=some (vs.getD off Go.undef):=by simp[Array.getD_eq_getD_getElem?,l2]
    have ih:=zG (d:=d) hkd hus hvs hu hv m (off+1) b2 (by
     rw[show cs.drop (off+1)=xs by rw[←List.drop_drop,hcd];rfl,show ds.drop (off+1)=ys by rw[←List.drop_drop,hdd];rfl];exact hb2)
    have hag:=oW hkd;have hpart:∀ (W:Array Value) (V:Value),W[off]?=some V→(Go.part el W (off*1)).run P w=.ok V w:=by
     intro W V hV;unfold Go.part;simp only[Sem.run_bind,lG hag,Result.andThen,Bool.false_eq_true,if_false,Nat.mul_one,hV];rfl
    have heq:=B3 (d:=d) hkd (hu off x hx) (hv off y hy) hb1;rw[List.range'_succ];simp only[Op.eqItems,Sem.run_bind,hpart us _ x1,hpart vs _ y1,Result.andThen,heq];cases b1 with
    | true=>simpa using ih
    | false=>simp
omit hgl in
theorem MZ {t:TypeId} {kd:Nat} (h:jr P t=some kd):∃ i,P.info? t=some i∧P.cellsOf t=1:=by
 unfold jr at h;have:sizeOf P t=some 1:=by split at h<;>first | assumption | cases h
 simp only[sizeOf,Option.map_eq_some_iff]at this;obtain⟨i,hi,h1⟩:=this;exact⟨i,hi,by simp[Program.cellsOf,hi,h1]⟩
theorem Vw (k:Ok (N0:=N0) w0 g e a.tmps h w) {op:BinOp} {t t' el:TypeId} {n kd:Nat} {x y:Operand} (ho:o.op=.binOp op t x y t') (hu:P.underlying t=some (.array n el)) (hop:isEq op=true) (hgt:P.eqGuardType P.depth t=false) (hn:n≠0)
  (hkd:jr P el=some kd) {i:TypeInfo} (hi:P.info? el=some i) (hc1:P.cellsOf el=1) {x' y':bH} (hx:aU gl x=some x') (hy:aU gl y=some y')
  (hs:step orc base draw (.eqv (gX op) (List.replicate n kd) x' y') e h=some (v,e',h')):cm N0 P w0 g a w (execOp a.eval o) v e' h':=by
 simp only[step,Option.aa]at hs;obtain⟨p,hp,q,hq,hs⟩:=hs;have h1:=bT hgl k hx hp;have h2:=bT hgl k hy hq;generalize hA:a.eval x=A at h1;generalize hB:a.eval y=B at h2;cases h1<;>(try simp only at hs)<;>(try cases hs)
 rename_i cs us hus hru;cases h2<;>(try simp only at hs)<;>(try cases hs)
 rename_i ds vs hvs hrv;simp only[Option.aa,Option.some.injEq,Prod.mk.injEq]at hs;obtain⟨b,hb,rfl,rfl,rfl⟩:=hs;have heq:(Op.equalIn 10000 t (.agg us) (.agg vs)).run P w=.ok b w:=by
  rw[show(10000:Nat)=9999+1 from rfl,run_equalIn_array w 9999 us vs hu hi,hc1,List.range_eq_range'];exact zG (d:=9998) hkd hus hvs hru hrv n 0 b (by simpa using hb)
 refine aI k ?_ (.bool _);have hg:=run_eqGuard_agg (P:=P) w op t x y us vs hgt;cases op<;>simp only[isEq]at hop<;>(try cases hop)
 ·simp only[execOp,ho,hA,hB,Sem.run_bind,hg,Result.andThen,run_eql_struct,heq,gX,Bool.false_eq_true,if_false,Sem.run_pure]
 ·simp only[execOp,ho,hA,hB,Sem.run_bind,hg,Result.andThen,run_neq_struct,heq,gX,if_true,Sem.run_pure]
end
end Go.Am
namespace Go.Am
open Go.RowKit (Below)
section
variable {N0:Nat} {P:Program} {w0:World} {g:G} {e:Env} {a:Act} {h:Hp} {w:World}
variable {o:Oper} {md:Nat} {orc:iG} {base:Nat} {draw:Bool} {aop:iP} {v:PV} {e':Env} {h':Hp} {gl:cR}
def jc (N0:Nat) (g:G) (w:World) (es:List (PV × PV)) (l:List MapEntry):Prop :=
 l.length=es.length∧∀ (i:Nat) (x:PV × PV),es[i]?=some x→∃ y,l[i]?=some y∧x.1≠.undef∧x.2≠.undef∧RV N0 g w x.1 y.key∧RV N0 g w x.2 y.val
theorem iK (k:Ok (N0:=N0) w0 g e a.tmps h w) {m:PV} {M:Value} (hr:RV N0 g w m M) {es:List (PV × PV)} (hm:entriesOf h m=some es) :
  (m=.gu∧M=.map none∧es=[])∨∃ b ea clock,m=.eL b∧M=.map (some (g.ι b))∧bR h b=some es∧w.heap[g.ι b]?=some (.map ea clock)∧jc N0 g w es ea.toList∧Go.MapKept.Stamped ea clock:=by
 cases hr<;>simp only[entriesOf]at hm<;>(try cases hm)
 ·exact .inl ⟨rfl,rfl,rfl⟩
 ·rename_i b hb
  right;obtain⟨_,_,ea,cl,h3,h4,hst,h5⟩:=k.box b _ (lg hm);refine⟨b,ea,cl,rfl,rfl,hm,h3,⟨by simpa using h4,fun i x hx=>?_⟩,hst⟩;obtain⟨y,hy,q⟩:=h5 i x hx;exact⟨y,by simpa using hy,q⟩
/-! ### Keys -/
theorem uL {kd:Nat} {x y:PV} {U V:Value} (r1:RV N0 g w x U) (r2:RV N0 g w y V) (hb:fF kd x y=some true):U=V∧∀ n,Instr.sameBits n U U=true:=by
 rcases kd with _ | _ | _ | kd
 all_goals (cases r1<;>simp only[fF]at hb<;>(try cases hb))
 all_goals (cases r2<;>simp only[fF]at hb<;>(try cases hb))
 ·simp only[Option.some.injEq,beq_iff_eq]at hb;subst hb;exact⟨rfl,fun n=>by simp[Instr.sameBits]⟩
 ·split at hb
  ·rename_i hk;subst hk
   simp only[Option.some.injEq,beq_iff_eq]at hb;subst hb;exact⟨rfl,fun n=>by simp[Instr.sameBits]⟩
  ·cases hb
 ·rename_i l1 q1 h1 l2 q2 h2
  simp only[Option.some.injEq,beq_iff_eq]at hb;subst hb;have:q1=q2:=by
   have:=Array.toList_inj.1 (h1.trans h2.symm);cases q1;cases q2;simp only at this;rw[this]
  subst this;exact⟨rfl,fun n=>by simp[Instr.sameBits,Go.MapKept.bytes_beq]⟩
theorem B4 {kd:Nat} {x y:PV} {U V:Value} (r1:RV N0 g w x U) (r2:RV N0 g w y V) (hb:fF kd x y=some false):U≠V:=by
 rcases kd with _ | _ | _ | kd
 all_goals (cases r1<;>simp only[fF]at hb<;>(try cases hb))
 all_goals (cases r2<;>simp only[fF]at hb<;>(try cases hb))
 ·simp only[Option.some.injEq,beq_eq_false_iff_ne,ne_eq]at hb
  intro hq;cases hq;exact hb rfl
 ·split at hb
  ·simp only[Option.some.injEq,beq_eq_false_iff_ne,ne_eq]at hb
   intro hq;cases hq;exact hb rfl
  ·cases hb
 ·rename_i l1 q1 h1 l2 q2 h2
  simp only[Option.some.injEq,beq_eq_false_iff_ne,ne_eq]at hb;intro hq;cases hq;exact hb (h1.symm.trans h2)
theorem zH:∀ (ks:List Nat) (cs ds:List PV) (U V:List Value),U.length=cs.length→V.length=ds.length→(∀ (j:Nat) (x:PV),cs[j]?=some x→RV N0 g w x (U.getD j Go.undef)) →
  (∀ (j:Nat) (x:PV),ds[j]?=some x→RV N0 g w x (V.getD j Go.undef))→cy ks cs ds=some false→U≠V
 | [],[],[],U,V,hU,hV,_,_,h=>by simp[cy]at h
 | k::ks,c::cs,d::ds,U,V,hU,hV,hu,hv,hb=>by
  cases U with
  | nil=>simp at hU
  | cons u U =>
   cases V with
   | nil=>simp at hV
   | cons v V =>
    simp only[cy,Option.aa,Option.some.injEq,Bool.and_eq_false_iff]at hb;obtain⟨b1,hb1,b2,hb2,hb⟩:=hb;rcases hb with rfl | rfl
    ·have:=B4 (hu 0 c rfl) (hv 0 d rfl) hb1
     intro hq;cases hq;exact this rfl
    ·have:=zH ks cs ds U V (by simpa using hU) (by simpa using hV) (fun j x hx=>by simpa using hu (j+1) x (by simpa using hx)) (fun j x hx=>by simpa using hv (j+1) x (by simpa using hx)) hb2
     intro hq;cases hq;exact this rfl
 | [],_::_,_,_,_,_,_,_,_,h=>by simp[cy]at h
 | [],[],_::_,_,_,_,_,_,_,h=>by simp[cy]at h
 | _::_,[],_,_,_,_,_,_,_,h=>by simp[cy]at h
 | _::_,_::_,[],_,_,_,_,_,_,h=>by simp[cy]at h
theorem sr:∀ (ks:List Nat) (cs ds:List PV) (U V:List Value),U.length=cs.length→V.length=ds.length→(∀ (j:Nat) (x:PV),cs[j]?=some x→RV N0 g w x (U.getD j Go.undef)) →
  (∀ (j:Nat) (x:PV),ds[j]?=some x→RV N0 g w x (V.getD j Go.undef))→cy ks cs ds=some true→U=V∧∀ n,((U.zip U).all fun p=>Instr.sameBits n p.1 p.2)=true
 | [],[],[],U,V,hU,hV,_,_,_=>by
  have h1:=List.length_eq_zero_iff.1 hU;have h2:=List.length_eq_zero_iff.1 hV;subst h1;subst h2;exact⟨rfl,fun n=>rfl⟩
 | k::ks,c::cs,d::ds,U,V,hU,hV,hu,hv,hb=>by
  cases U with
  | nil=>simp at hU
  | cons u U =>
   cases V with
   | nil=>simp at hV
   | cons v V =>
    simp only[cy,Option.aa,Option.some.injEq,Bool.and_eq_true]at hb;obtain⟨b1,hb1,b2,hb2,rfl,rfl⟩:=hb;obtain⟨e1,e2⟩:=uL (hu 0 c rfl) (hv 0 d rfl) hb1;obtain⟨e3,e4⟩:=sr ks cs ds U V (by simpa using hU) (by simpa using hV) (fun j x hx=>by simpa using hu (j+1) x (by simpa using hx)) (fun j x hx=>by simpa using hv (j+1) x (by simpa using hx)) hb2;simp only[List.getD_cons_zero]at e1 e2;subst e1;subst e3;exact⟨rfl,fun n=>by simp only[List.zip_cons_cons,List.all_cons,Bool.and_eq_true];exact⟨e2 n,e4 n⟩⟩
 | [],_::_,_,_,_,_,_,_,_,h=>by simp[cy]at h
 | [],[],_::_,_,_,_,_,_,_,h=>by simp[cy]at h
 | _::_,[],_,_,_,_,_,_,_,h=>by simp[cy]at h
 | _::_,_::_,[],_,_,_,_,_,_,h=>by simp[cy]at h
theorem qE {t:TypeId} {kd:Nat} (hk:jr P t=some kd) (em:Bool) (n:Nat) (V:Value):(Instr.checkKey em (n+1) t V).run P w=.ok () w:=by
 unfold jr at hk;split at hk<;>first
  |(rename_i hu _;simp[Instr.checkKey,run_underlying hu,Result.andThen])
  | cases hk
theorem oe {em:Bool} {n:Nat} {us:Array Value}:∀ (fl:List Field) (off:Nat) (ks:List Nat),oM P off fl=some ks→off+ks.length≤us.size →
  (forIn fl PUnit.unit (fun(f:Field) (_:PUnit)=>(do
    if f.name≠"_" then do
     let x ←Go.part f.type us f.offset
     Instr.checkKey em (n+1) f.type x
     pure (ForInStep.yield PUnit.unit)
    else pure (ForInStep.yield PUnit.unit):Sem (ForInStep PUnit)))).run P w=.ok PUnit.unit w
 | [],off,ks,hf,hl=>by simp
 | f::fl,off,ks,hf,hl=>by
  simp only[oM]at hf;split at hf
  ·rename_i hc
   simp only[Bool.and_eq_true,beq_iff_eq,bne_iff_ne,ne_eq]at hc;obtain⟨h1,h2⟩:=hc;simp only[Option.bind_eq_some_iff,Option.map_eq_some_iff]at hf;obtain⟨kd,hkd,ks',hks,rfl⟩:=hf;simp only[List.length_cons]at hl;have hag:=oW hkd;have hx:us[off]?=some us[off]:=Array.getElem?_eq_getElem (by omega);have hpart:(Go.part f.type us f.offset).run P w=.ok us[off] w:=by
    unfold Go.part;simp only[Sem.run_bind,lG hag,Result.andThen,Bool.false_eq_true,if_false,h1,hx];rfl
   have ih:=oe (em:=em) (n:=n) (us:=us) fl (off+1) ks' hks (by omega);simp only[List.forIn_cons,ne_eq,h2,not_false_eq_true,if_true,Sem.run_bind,hpart,Result.andThen,qE hkd,Sem.run_pure];exact ih
  ·cases hf
theorem uM {kt:TypeId} {ks:List Nat} {fs:Array Field} (hu:P.underlying kt=some (.struct fs)) {agg:Bool} (hK:vL P kt=some (ks,agg)):oM P 0 fs.toList=some ks∧agg=true∧P.stoodInHeld kt=false:=by
 unfold vL at hK;rw[hu]at hK;simp only at hK;split at hK
 ·cases hK
 ·rename_i hs
  simp only[Option.map_eq_some_iff,Prod.mk.injEq]at hK;obtain⟨ks',h1,rfl,rfl⟩:=hK;exact⟨h1,rfl,by simpa using hs⟩
theorem uN {kt:TypeId} {ks:List Nat} (hn:∀ fs,P.underlying kt≠some (.struct fs)) {agg:Bool} (hK:vL P kt=some (ks,agg)):∃ kd,jr P kt=some kd∧ks=[kd]∧agg=false:=by
 unfold vL at hK;split at hK
 ·rename_i fs hu;exact(hn fs hu).elim
 ·simp only[Option.map_eq_some_iff,Prod.mk.injEq]at hK
  obtain⟨kd,h1,h2,h3⟩:=hK;exact⟨kd,h1,h2.symm,h3.symm⟩
theorem mU {kt:TypeId} {ks:List Nat} {agg:Bool} (hK:vL P kt=some (ks,agg)) {x:PV} {X:Value} (hr:RV N0 g w x X) (hk:nY ks agg x=true) (em:Bool):(Instr.checkKey em 10000 kt X).run P w=.ok () w:=by
 by_cases hs:∃ fs,P.underlying kt=some (.struct fs)
 ·obtain⟨fs,hu⟩:=hs
  obtain⟨hf,rfl,_⟩:=uM hu hK;cases hr<;>simp only[nY]at hk<;>(try (simp at hk;done))
  rename_i cs us hsz hrr;simp only[Bool.true_and,beq_iff_eq]at hk;have:=oe (P:=P) (w:=w) (em:=em) (n:=9998) (us:=us) fs.toList 0 ks hf (by omega);unfold Instr.checkKey;simp only[Sem.run_bind,run_underlying hu,Result.andThen];rw[←Array.forIn_toList,this];rfl
 ·have hn:∀ fs,P.underlying kt≠some (.struct fs):=fun fs hq=>hs ⟨fs,hq⟩
  obtain⟨kd,h1,rfl,rfl⟩:=uN hn hK;exact qE h1 em 9999 X
def Found (l:List MapEntry) (i:Nat) (X:Value):Option Nat→Option (Nat × Value)→Prop
 | none,a=>a=none∧∀ y∈l,y.key≠X
 | some j,a=>∃ y,i≤j∧l[j-i]?=some y∧a=some (j,y.val)∧X=y.key∧Instr.sameBits 10000 X X=true
theorem zI {y:MapEntry} {l:List MapEntry} {i:Nat} {X:Value} {r:Option Nat} {a:Option (Nat × Value)} (hy:X≠y.key) (hf:Found l (i+1) X r a):Found (y::l) i X r a:=by
 cases r with
 | none =>
  refine⟨hf.1,fun z hz=>?_⟩;rcases List.mem_cons.1 hz with rfl | hz
  ·exact fun hq=>hy hq.symm
  ·exact hf.2 z hz
 | some j =>
  obtain⟨z,h1,h2,h3⟩:=hf;refine⟨z,by omega,?_,h3⟩;rw[show j-i=(j-(i+1))+1 by omega,List.getElem?_cons_succ];exact h2
theorem uO {e:PV × PV} {es:List (PV × PV)} {l:List MapEntry} (hl:jc N0 g w (e::es) l):∃ y r,l=y::r∧RV N0 g w e.1 y.key∧RV N0 g w e.2 y.val∧jc N0 g w es r:=by
 cases l with
 | nil=>simp[jc]at hl
 | cons y r =>
  obtain⟨y',hy,_,_,h1,h2⟩:=hl.2 0 e rfl;simp only[List.getElem?_cons_zero,Option.some.injEq]at hy;subst hy;exact⟨y,r,rfl,h1,h2,by simpa using hl.1,fun i x hx=>by simpa using hl.2 (i+1) x (by simpa using hx)⟩
theorem Jc {kt:TypeId} {d:TypeDesc} {kd:Nat} (hu:P.underlying kt=some d) (hk:jr P kt=some kd) {x y:PV} {U V:Value} (r1:RV N0 g w x U) (r2:RV N0 g w y V) {b:Bool} (hb:fF kd x y=some b):Instr.sameNow d U V=some b:=by
 unfold jr at hk;rw[hu]at hk;split at hk<;>(try cases hk)
 all_goals (rename_i hd _;cases hd)
 all_goals (cases r1<;>simp only[fF]at hb<;>(try cases hb))
 all_goals (cases r2<;>simp only[fF]at hb<;>(try cases hb))
 ·simp[Instr.sameNow]
 ·split at hb
  ·rename_i hq;subst hq
   simp only[Option.some.injEq]at hb;subst hb;simp[Instr.sameNow]
  ·cases hb
 ·rename_i l1 q1 h1 l2 q2 h2
  simp only[Instr.sameNow,Option.some.injEq];subst h1;subst h2;rw[Bool.eq_iff_iff,Go.MapKept.bytes_beq,beq_iff_eq];constructor
  ·rintro rfl;rfl
  ·intro hq
   have:=Array.toList_inj.1 hq;cases q1;cases q2;simp only at this;rw[this]
theorem uP {kt:TypeId} {d:TypeDesc} {kd:Nat} (hu:P.underlying kt=some d) (hk:jr P kt=some kd) {x:PV} {X:Value} (hr:RV N0 g w x X) :
  ∀ (es:List (PV × PV)) (l:List MapEntry) (i:Nat) (r:Option Nat),jc N0 g w es l→jL [kd] false x es i=some r→∃ a,Instr.findNow d X l i=some a∧Found l i X r a
 | [],l,i,r,hl,hf=>by
  simp only[jL,Option.some.injEq]at hf;subst hf;have:=List.length_eq_zero_iff.1 hl.1;subst this;exact⟨none,rfl,rfl,fun y hy=>by cases hy⟩
 | e::es,l,i,r,hl,hf=>by
  obtain⟨y,l',rfl,h1,h2,h3⟩:=uO hl;simp only[jL,KR,List.headD_cons,Option.aa]at hf;obtain⟨b,hb,hf⟩:=hf;have hs:=Jc hu hk hr h1 hb;cases b with
  | true =>
   simp only[if_true,Option.some.injEq]at hf;subst hf;obtain⟨q1,q2⟩:=uL hr h1 hb;exact⟨some (i,y.val),by simp only[Instr.findNow,hs],y,Nat.le_refl _,by simp,rfl,q1,q2 _⟩
  | false =>
   simp only[Bool.false_eq_true,if_false]at hf;obtain⟨a,ha,hfa⟩:=uP hu hk hr es l' (i+1) r h3 hf;exact⟨a,by simp only[Instr.findNow,hs,ha],zI (B4 hr h1 hb) hfa⟩
theorem uQ {kt:TypeId} {fs:Array Field} {ks:List Nat} (hu:P.underlying kt=some (.struct fs)) (hf0:oM P 0 fs.toList=some ks) (hst:P.stoodInHeld kt=false) {x:PV} {X:Value} (hr:RV N0 g w x X) :
  ∀ (es:List (PV × PV)) (l:List MapEntry) (i:Nat) (r:Option Nat),jc N0 g w es l→jL ks true x es i=some r→∃ a,(Instr.findAsking kt X l i).run P w=.ok a w∧Found l i X r a
 | [],l,i,r,hl,hf=>by
  simp only[jL,Option.some.injEq]at hf;subst hf;have:=List.length_eq_zero_iff.1 hl.1;subst this;exact⟨none,rfl,rfl,fun y hy=>by cases hy⟩
 | e::es,l,i,r,hl,hf=>by
  obtain⟨y,l',rfl,h1,h2,h3⟩:=uO hl;simp only[jL,Option.aa]at hf;obtain⟨b,hb,hf⟩:=hf;unfold KR at hb;split at hb
  ·rename_i cs ds _ he
   generalize hek:e.1=e1 at h1 he;subst he;generalize hY:y.key=Y at h1;cases hr with
   | agg _ us hus hru =>
    cases h1 with
    | agg _ vs hvs hrv =>
     have hfo:P.fieldsOf kt=fs:=by simp[Program.fieldsOf,hu]
     have heq:(Op.equal kt (.agg us) (.agg vs)).run P w=.ok b w:=by
      show(Op.equalIn 10000 kt (.agg us) (.agg vs)).run P w=.ok b w;rw[run_equalIn_struct w 9999 kt us vs (by rw[hfo];exact hu) hst,hfo];exact oX (d:=9998) hus hvs hru hrv fs.toList 0 ks hf0 b (by simpa using hb)
     cases b with
     | true =>
      simp only[if_true,Option.some.injEq]at hf;subst hf;obtain⟨q1,q2⟩:=sr ks cs ds us.toList vs.toList (by simpa using hus) (by simpa using hvs) (fun j x hx=>by have:=hru j x hx;simpa[Array.getD_eq_getD_getElem?,List.getD_eq_getElem?_getD] using this)
       (fun j x hx=>by have:=hrv j x hx;simpa[Array.getD_eq_getD_getElem?,List.getD_eq_getElem?_getD] using this) hb
      have huv:us=vs:=Array.toList_inj.1 q1;subst huv;refine⟨some (i,y.val),by simp only[Instr.findAsking,hY,Sem.run_bind,heq,Result.andThen,if_true,Sem.run_pure],y,Nat.le_refl _,by simp,rfl,hY.symm,?_⟩;simp only[Instr.sameBits,beq_self_eq_true,Bool.true_and];have:=q2 9999;simpa using this
     | false =>
      simp only[Bool.false_eq_true,if_false]at hf;obtain⟨a,ha,hfa⟩:=uQ hu hf0 hst (RV.agg cs us hus hru) es l' (i+1) r h3 hf;have hne:=zH ks cs ds us.toList vs.toList (by simpa using hus) (by simpa using hvs) (fun j x hx=>by have:=hru j x hx;simpa[Array.getD_eq_getD_getElem?,List.getD_eq_getElem?_getD] using this)
       (fun j x hx=>by have:=hrv j x hx;simpa[Array.getD_eq_getD_getElem?,List.getD_eq_getElem?_getD] using this) hb
      exact⟨a,by simp only[Instr.findAsking,hY,Sem.run_bind,heq,Result.andThen,Bool.false_eq_true,if_false,ha],zI (by rw[hY];intro hq;cases hq;exact hne rfl) hfa⟩
  ·exact absurd ‹true=false› (by decide)
  ·cases hb
theorem su {kt:TypeId} {ks:List Nat} {agg:Bool} (hK:vL P kt=some (ks,agg)) {x:PV} {X:Value} (hr:RV N0 g w x X) {es:List (PV × PV)} {l:List MapEntry} {r:Option Nat} (hl:jc N0 g w es l) (hf:jL ks agg x es 0=some r) :
  ∃ a,(Instr.findKey kt X l).run P w=.ok a w∧Found l 0 X r a:=by
 by_cases hs:∃ fs,P.underlying kt=some (.struct fs)
 ·obtain⟨fs,hu⟩:=hs
  obtain⟨hf0,rfl,hst⟩:=uM hu hK;obtain⟨a,h1,h2⟩:=uQ hu hf0 hst hr es l 0 r hl hf;exact⟨a,by rw[run_findKey_eq _ (by rw[hu])];exact h1,h2⟩
 ·have hn:∀ fs,P.underlying kt≠some (.struct fs):=fun fs hq=>hs ⟨fs,hq⟩
  obtain⟨kd,h1,rfl,rfl⟩:=uN hn hK;have:∃ d,P.underlying kt=some d:=by
   cases hu:P.underlying kt with
   | some d=>exact⟨d,rfl⟩
   | none=>unfold jr at h1;rw[hu]at h1;simp at h1
  obtain⟨d,hu⟩:=this;obtain⟨a,h2,h3⟩:=uP hu h1 hr es l 0 r hl hf;exact⟨a,Go.MapKept.run_findKey hu h2,h3⟩
theorem pY (k:Ok (N0:=N0) w0 g e a.tmps h w) {b:Nat} {es es':List (PV × PV)} (hb:bR h b=some es) {ea ea':Array MapEntry} {cl cl':Nat} (hw:w.heap[g.ι b]?=some (.map ea cl)) (hr:jc N0 g w es' ea'.toList) (hst:Go.MapKept.Stamped ea' cl') :
  Ext N0 g w g { w with heap:=w.heap.setIfInBounds (g.ι b) (.map ea' cl') }∧Ok (N0:=N0) w0 g e a.tmps (aC h b (.map es')) { w with heap:=w.heap.setIfInBounds (g.ι b) (.map ea' cl') }:=by
 obtain⟨k1,k2,_⟩:=k.box b _ (lg hb)
 let w1:World:={ w with heap:=w.heap.setIfInBounds (g.ι b) (.map ea' cl') }
 have hheap:∀ c,c≠g.ι b→w1.heap[c]?=w.heap[c]?:=fun c hc=>by
  show(w.heap.setIfInBounds _ _)[c]?=_;rw[Array.getElem?_setIfInBounds_ne (fun hq=>hc hq.symm)]
 have hat:w1.heap[g.ι b]?=some (.map ea' cl'):=by
  have:=(Array.getElem?_eq_some_iff.1 hw).1;show(w.heap.setIfInBounds _ _)[g.ι b]?=_;simp[this]
 have hcell:∀ c o,w1.cell? ⟨c,o,none⟩=w.cell? ⟨c,o,none⟩:=by
  intro c o
  by_cases hc:c=g.ι b
  ·subst hc;simp only[World.cell?,hat,hw]
  ·simp only[World.cell?,hheap c hc]
 have hx1:Ext N0 g w g w1:=⟨Nat.le_refl _,fun _ _=>rfl,fun c m hm=>⟨m,hm,Nat.le_refl _⟩,fun c m o _ _=>hcell c o,fun c o _=>hcell c o,fun t ht=>⟨Nat.le_refl _,fun _=>rfl⟩,fun _ _=>rfl⟩;have hbl:Below N0 w w1:=⟨rfl,rfl,rfl,by show _≤(w.heap.setIfInBounds _ _).size;simp,fun c hc=>hheap c (by omega)⟩;refine⟨hx1,?_⟩;refine gS k (lg hb) hx1 rfl hbl (.inl rfl) (fun c _ hc=>⟨hheap c hc,rfl⟩) (fun _ _=>rfl) ⟨k1,k2,ea',cl',hat,by simpa using hr.1,hst,fun i x hx=>?_⟩ (fun c m hm=>?_)
 ·obtain⟨y,hy,q1,q2,q3,q4⟩:=hr.2 i x hx
  exact⟨y,by simpa using hy,q1,q2,q3.mono hx1,q4.mono hx1⟩
 ·have:=k.arr c m hm
  exact⟨this.1,by show _<(w.heap.setIfInBounds _ _).size;simp;exact this.2⟩
theorem pZ {v:PV} (hs:v.cells.all scalar=true):strip v≠.undef:=by
 intro hq;cases v<;>simp[strip]at hq
 simp[PV.cells,scalar]at hs
theorem Jd {es:List (PV × PV)} {ea:Array MapEntry} (hr:jc N0 g w es ea.toList) {i:Nat} {y:MapEntry} (hy:ea[i]?=some y) {k v:PV} {K V:Value} (hk:RV N0 g w k K) (hv:RV N0 g w v V) (h1:k≠.undef) (h2:v≠.undef) (f:MapEntry→MapEntry) (hf:(f y).key=K∧(f y).val=V) :
  jc N0 g w (es.set i (k,v)) (ea.modify i f).toList:=by
 refine⟨by have:=hr.1;simp at this ⊢;exact this,fun j x hx=>?_⟩
 by_cases hij:i=j
 ·subst hij
  have hlt:i<es.length:=by have:=(List.getElem?_eq_some_iff.1 hx).1;simpa using this
  rw[List.getElem?_set_self hlt]at hx;simp only[Option.some.injEq]at hx;subst hx;exact⟨f y,by simp[Array.getElem?_modify,hy],h1,h2,by rw[hf.1];exact hk,by rw[hf.2];exact hv⟩
 ·rw[List.getElem?_set_ne hij]at hx
  obtain⟨z,hz,q⟩:=hr.2 j x hx;exact⟨z,by simpa[Array.getElem?_modify,hij] using hz,q⟩
theorem Ft {es:List (PV × PV)} {ea:Array MapEntry} (hr:jc N0 g w es ea.toList) {k v:PV} {y:MapEntry} (hk:RV N0 g w k y.key) (hv:RV N0 g w v y.val) (h1:k≠.undef) (h2:v≠.undef) :
  jc N0 g w (es++[(k,v)]) (ea.push y).toList:=by
 have hl:=hr.1;refine⟨by simp at hl ⊢;exact hl,fun j x hx=>?_⟩;rw[Array.toList_push]
 by_cases hj:j<es.length
 ·rw[List.getElem?_append_left hj]at hx
  obtain⟨z,hz,q⟩:=hr.2 j x hx;exact⟨z,by rw[List.getElem?_append_left (by omega)];exact hz,q⟩
 ·have:j=es.length:=by have:=(List.getElem?_eq_some_iff.1 hx).1;simp at this;omega
  subst this;simp at hx;subst hx;exact⟨y,by rw[←hl];simp,h1,h2,hk,hv⟩
theorem Dj {es:List (PV × PV)} {ea:Array MapEntry} (hr:jc N0 g w es ea.toList) (i:Nat):jc N0 g w (es.eraseIdx i) (ea.eraseIdxIfInBounds i).toList:=by
 have hl:=hr.1;have he:(ea.eraseIdxIfInBounds i).toList=ea.toList.eraseIdx i:=by
  unfold Array.eraseIdxIfInBounds;split
  ·simp only[Array.toList_eraseIdx]
  ·rw[List.eraseIdx_of_length_le (by simp;omega)]
 rw[he];refine⟨by rw[List.length_eraseIdx,List.length_eraseIdx,hl],fun j x hx=>?_⟩;rw[List.getElem?_eraseIdx]at hx ⊢;split at hx
 ·rename_i hlt;rw[if_pos hlt];exact hr.2 j x hx
 ·rename_i hlt;rw[if_neg hlt];exact hr.2 (j+1) x hx
section
variable (hgl:dR gl N0 w0)
include hgl
omit hgl in
theorem M0 (k:Ok (N0:=N0) w0 g e a.tmps h w) {t:TypeId} (ho:o.op=.makeMap t none) (hs:step orc base draw (.gen .makeMap []) e h=some (v,e',h')):cm N0 P w0 g a w (execOp a.eval o) v e' h':=by
 simp only[step,nA,Option.ag,cV,Option.some.injEq,Prod.mk.injEq]at hs;obtain⟨rfl,rfl,rfl⟩:=hs;have hm:eO w (w.alloc (.map #[] 0)) (.map #[] 0):=.inl rfl;obtain⟨g',hx1,hok,hn,hι,_,_,_⟩:=kV (cpv:=0) k hm (.map []) none default (fun n T hn=>by cases hn) (fun g' hx1 hι hhw htk _=>⟨by rw[hι];exact iE k,by rw[hι];exact hhw,#[],0,by rw[hι];exact hm.at,rfl,Go.MapKept.stamped_empty 0,fun i x hx=>by simp at hx⟩);refine⟨_,.map (some w.heap.size),_,g',?_,.inl rfl,hx1,hok,?_⟩
 ·simp[execOp,ho,Instr.makeMap]
 ·rw[←hι];exact .eL _ (by omega)
theorem Px (k:Ok (N0:=N0) w0 g e a.tmps h w) {c:Go.Call} (ho:o.op=.call c) (hb:c.callee=.builtin .len) {x:Operand} {t kt et:TypeId} {x':bH} (hargs:c.args=#[x]) (htys:c.argTypes=#[t]) (hu:P.underlying t=some (.map kt et)) (hx:aU gl x=some x')
  (hs:step orc base draw (.gen .tq [x']) e h=some (v,e',h')):cm N0 P w0 g a w (execOp a.eval o) v e' h':=by
 obtain⟨cs,hrun⟩:=fJ (P:=P) (w:=w) (a:=a) ho hb;simp only[step,nA,Option.aa,Option.some.injEq,Prod.mk.injEq]at hs;obtain⟨vs,⟨p,hp,_,rfl,rfl⟩,r,hr,rfl,rfl,rfl⟩:=hs;simp only[cV,Option.aa,Option.some.injEq]at hr;obtain⟨es,hes,rfl⟩:=hr;have h1:=bT hgl k hx hp;generalize hA:a.eval x=A at h1;rcases iK k h1 hes with⟨rfl,rfl,rfl⟩ | ⟨b,ea,cl,rfl,rfl,hg,hw,hrel,hstp⟩
 ·refine aI (u:=goInt 0) k ?_ (.int _ _)
  rw[hrun,hargs,htys];simp only[builtin,List.map_toArray,List.map_cons,List.map_nil,hA,Builtin.len_];simp[run_underlying hu]
 ·refine aI (u:=goInt ea.size) k ?_ ?_
  ·rw[hrun,hargs,htys]
   simp only[builtin,List.map_toArray,List.map_cons,List.map_nil,hA,Builtin.len_];simp[run_underlying hu,Go.MapKept.run_getObj_map hw]
  ·have:es.length=ea.size:=by have:=hrel.1;simp at this;omega
   rw[this];exact .int _ _
theorem Py (k:Ok (N0:=N0) w0 g e a.tmps h w) {t kt et:TypeId} {m x:Operand} {ok:Bool} (ho:o.op=.lookup t m x ok) (hu:P.underlying t=some (.map kt et)) {ks:List Nat} {agg:Bool} (hK:vL P kt=some (ks,agg)) {z:PV} (hz:zeroV P et=some z)
  {m' x':bH} (hm:aU gl m=some m') (hx:aU gl x=some x') (hs:step orc base draw (.gen (.lookup ks agg z ok) [m',x']) e h=some (v,e',h')):cm N0 P w0 g a w (execOp a.eval o) v e' h':=by
 simp only[step,nA,Option.aa,Option.some.injEq,Prod.mk.injEq]at hs;obtain⟨vs,⟨p,hp,_,⟨q,hq,_,rfl,rfl⟩,rfl⟩,r,hr,rfl,rfl,rfl⟩:=hs;simp only[cV,Option.aa]at hr;obtain⟨es,hes,hr⟩:=hr;split at hr
 ·rename_i hko
  simp only[Option.aa,Option.some.injEq]at hr;obtain⟨i,hi,r2,hr2,rfl⟩:=hr;have h1:=bT hgl k hm hp;have h2:=bT hgl k hx hq;generalize hA:a.eval m=A at h1;generalize hB:a.eval x=B at h2;unfold zeroV at hz;simp only[Option.bind_eq_some_iff]at hz;obtain⟨zv,⟨inf,hinf,hzv⟩,hz⟩:=hz;have hzr:RV N0 g w z zv:=oQ _ _ hz;have hzrun:=oU hinf hzv w;have fin:∀ (V:Value) (bb:Bool) (s:Sem Value),(Instr.lookup t A B ok).run P w=.ok (if ok then .tuple #[V,.bool bb] else V) w→RV N0 g w r2.1 V→r2.2=bb→cm N0 P w0 g a w (execOp a.eval o) (if ok then .cF [r2.1,.bool r2.2] else r2.1) e h:=by
   intro V bb _ hrun hV hbb;refine aI (u:=if ok then .tuple #[V,.bool bb] else V) k ?_ ?_
   ·simp only[execOp,ho,hA,hB,Sem.run_bind,hrun,Result.andThen,Sem.run_pure]
   ·cases ok with
    | false=>simpa using hV
    | true =>
     simp only[if_true];refine .cF _ _ rfl fun j y hy=>?_
     match j with
     | 0=>simp at hy;subst hy;simpa using hV
     | 1=>simp at hy;subst hy;rw[hbb];exact .bool _
     | j+2=>simp at hy
  rcases iK k h1 hes with⟨rfl,rfl,rfl⟩ | ⟨b,ea,cl,rfl,rfl,hg,hw,hrel,hstp⟩
  ·simp only[jL,Option.some.injEq]at hi
   subst hi;simp only[BL,Option.some.injEq]at hr2;subst hr2;have hck:=mU hK h2 hko true;obtain⟨av,ha,hfa⟩:=su (es:=[]) (l:=[]) hK h2 ⟨rfl,fun i x hx=>by simp at hx⟩ (r:=none) rfl;simp only[Found]at hfa;obtain⟨rfl,_⟩:=hfa;refine fin zv false (pure B) ?_ hzr rfl;simp[Instr.lookup,run_underlying hu,hck,ha,hzrun]
  ·obtain⟨av,ha,hfa⟩:=su hK h2 hrel hi
   have hck:=mU hK h2 hko ea.isEmpty;cases i with
   | none =>
    simp only[BL,Option.some.injEq]at hr2;subst hr2;simp only[Found]at hfa;obtain⟨rfl,_⟩:=hfa;refine fin zv false (pure B) ?_ hzr rfl;simp[Instr.lookup,run_underlying hu,Go.MapKept.run_getObj_map hw,hck,ha,hzrun]
   | some i =>
    simp only[BL,Option.aa,Option.some.injEq]at hr2;obtain⟨en,hen,rfl⟩:=hr2;obtain⟨y,_,hy,rfl,_,_⟩:=hfa;obtain⟨y',hy',_,_,_,hv⟩:=hrel.2 i en hen;rw[Nat.sub_zero]at hy;rw[hy]at hy';cases hy';refine fin y.val true (pure B) ?_ hv rfl;simp[Instr.lookup,run_underlying hu,Go.MapKept.run_getObj_map hw,hck,ha]
 ·cases hr
theorem Fu (k:Ok (N0:=N0) w0 g e a.tmps h w) {t kt et:TypeId} {m x y:Operand} (ho:o.op=.mapUpdate t m x y∨o.op=.insert t m x y) (hu:P.underlying t=some (.map kt et)) {ks:List Nat} {agg:Bool} (hK:vL P kt=some (ks,agg))
  {m' x' y':bH} (hm:aU gl m=some m') (hx:aU gl x=some x') (hy:aU gl y=some y') (hs:step orc base draw (.gen (.CS ks agg) [m',x',y']) e h=some (v,e',h')):cm N0 P w0 g a w (execOp a.eval o) v e' h':=by
 simp only[step,nA,Option.aa,Option.some.injEq,Prod.mk.injEq]at hs;obtain⟨vs,⟨p,hp,_,⟨q,hq,_,⟨u,hu2,_,rfl,rfl⟩,rfl⟩,rfl⟩,r,hr,rfl,rfl,rfl⟩:=hs;simp only[cV]at hr;split at hr
 ·rename_i b
  simp only[Option.aa]at hr;obtain⟨es,hes,hr⟩:=hr;split at hr
  ·rename_i hcond
   obtain⟨hko,hsk,hsv,_⟩:=hcond;simp only[Option.aa,Option.some.injEq]at hr;obtain⟨i,hi,rfl⟩:=hr;have h1:=bT hgl k hm hp;have h2:=bT hgl k hx hq;have h3:=bT hgl k hy hu2;generalize hA:a.eval m=A at h1;generalize hB:a.eval x=B at h2;generalize hC:a.eval y=C at h3;rcases iK k h1 (es:=es) (by simpa[entriesOf] using hes) with⟨hq,_⟩ | ⟨b',ea,cl,hbb,rfl,hg,hw,hrel,hstp⟩
   ·cases hq
   cases hbb;obtain⟨av,ha,hfa⟩:=su hK h2 hrel hi;have hck:=mU hK h2 hko false;have hex:∀ w',(Instr.mapUpdate t (.map (some (g.ι b))) B C).run P w=.ok () w'→(execOp a.eval o).run P w=.ok .skip w':=by
    intro w' hrun;rcases ho with ho | ho<;>simp only[execOp,ho,hA,hB,hC,Sem.run_bind,hrun,Result.andThen,Sem.run_pure]
   cases i with
   | none =>
    simp only[Found]at hfa;obtain⟨rfl,hnk⟩:=hfa;obtain⟨x1,x2⟩:=pY (cl':=cl+1) k hes hw (Ft (y:={ key:=B,val:=C,born:=cl }) hrel (iz h2) (iz h3) (pZ hsk) (pZ hsv)) (Go.MapKept.stamped_push hstp hnk);refine⟨.skip,Go.undef,_,g,hex _ ?_,.inr ⟨rfl,rfl⟩,x1,x2,.undef _ (by intro b;simp[Go.undef])⟩;simp[Instr.mapUpdate,run_underlying hu,Go.MapKept.run_getObj_map hw,hck,ha,Go.MapKept.run_setObj_map _ hw]
   | some i =>
    obtain⟨z,_,hz,rfl,hkey,hsame⟩:=hfa;rw[Nat.sub_zero,Array.getElem?_toList]at hz;obtain⟨x1,x2⟩:=pY (cl':=cl) k hes hw (Jd hrel hz (iz h2) (iz h3) (pZ hsk) (pZ hsv) (fun e=>{ e with key:=B,val:=C }) ⟨rfl,rfl⟩) (Go.MapKept.stamped_modify hstp i _ (fun _ _=>rfl) (fun e _ hei=>by rw[hz]at hei;cases hei;exact hkey));refine⟨.skip,Go.undef,_,g,hex _ ?_,.inr ⟨rfl,rfl⟩,x1,x2,.undef _ (by intro b;simp[Go.undef])⟩;have hstay:(Instr.keyThatStays z.key B).run P w=.ok B w:=by
     rw[←hkey];simp[Instr.keyThatStays,hsame]
    simp[Instr.mapUpdate,run_underlying hu,Go.MapKept.run_getObj_map hw,hck,ha,hz,hstay,Go.MapKept.run_setObj_map _ hw]
  ·cases hr
 ·cases hr
theorem Pz (k:Ok (N0:=N0) w0 g e a.tmps h w) {c:Go.Call} (ho:o.op=.call c) (hb:c.callee=.builtin .delete) {m x:Operand} {t ty kt et:TypeId} {m' x':bH} (hargs:c.args=#[m,x]) (htys:c.argTypes=#[t,ty]) (hu:P.underlying t=some (.map kt et)) {ks:List Nat} {agg:Bool} (hK:vL P kt=some (ks,agg))
  (hm:aU gl m=some m') (hx:aU gl x=some x') (hs:step orc base draw (.gen (.CT ks agg) [m',x']) e h=some (v,e',h')):cm N0 P w0 g a w (execOp a.eval o) v e' h':=by
 obtain⟨cs,hrun⟩:=fJ (P:=P) (w:=w) (a:=a) ho hb;simp only[step,nA,Option.aa,Option.some.injEq,Prod.mk.injEq]at hs;obtain⟨vs,⟨p,hp,_,⟨q,hq,_,rfl,rfl⟩,rfl⟩,r,hr,rfl,rfl,rfl⟩:=hs;have h1:=bT hgl k hm hp;have h2:=bT hgl k hx hq;generalize hA:a.eval m=A at h1;generalize hB:a.eval x=B at h2;have tup0:∀ w':World,RV N0 g w' (.cF []) (.tuple #[]):=fun w'=>.cF _ _ rfl fun j y hy=>by simp at hy
 simp only[cV]at hr;split at hr
 ·split at hr
  ·rename_i hko
   simp only[Option.some.injEq]at hr;subst hr;cases h1;have hck:=mU hK h2 hko true;refine aI (u:=.tuple #[]) k ?_ (tup0 w);rw[hrun,hargs,htys];simp only[builtin,List.map_toArray,List.map_cons,List.map_nil,hA,hB,Builtin.delete_];simp[run_underlying hu,hck]
  ·cases hr
 ·rename_i b
  simp only[Option.aa]at hr;obtain⟨es,hes,hr⟩:=hr;split at hr
  ·rename_i hko
   simp only[Option.aa,Option.some.injEq]at hr;obtain⟨i,hi,rfl⟩:=hr;rcases iK k h1 (es:=es) (by simpa[entriesOf] using hes) with⟨hq,_⟩ | ⟨b',ea,cl,hbb,rfl,hg,hw,hrel,hstp⟩
   ·cases hq
   cases hbb;obtain⟨av,ha,hfa⟩:=su hK h2 hrel hi;have hck:=mU hK h2 hko ea.isEmpty;cases i with
   | none =>
    simp only[Found]at hfa;obtain⟨rfl,_⟩:=hfa;obtain⟨x1,x2⟩:=pY (cl':=cl) k hes hw hrel hstp;refine⟨_,.tuple #[],_,g,?_,.inl rfl,x1,x2,tup0 _⟩;rw[hrun,hargs,htys];simp only[builtin,List.map_toArray,List.map_cons,List.map_nil,hA,hB,Builtin.delete_];simp[run_underlying hu,Go.MapKept.run_getObj_map hw,hck,ha,Go.MapKept.run_setObj_map _ hw]
   | some i =>
    obtain⟨z,_,hz,rfl,hkey,hsame⟩:=hfa;obtain⟨x1,x2⟩:=pY (cl':=cl) k hes hw (Dj hrel i) (Go.MapKept.stamped_erase hstp i);refine⟨_,.tuple #[],_,g,?_,.inl rfl,x1,x2,tup0 _⟩;rw[hrun,hargs,htys];simp only[builtin,List.map_toArray,List.map_cons,List.map_nil,hA,hB,Builtin.delete_];simp[run_underlying hu,Go.MapKept.run_getObj_map hw,hck,ha,Go.MapKept.run_setObj_map _ hw]
  ·cases hr
 ·cases hr
end
theorem PA (k:Ok (N0:=N0) w0 g e a.tmps h w) {u:PV} {A:Value} (hr:RV N0 g w u A) {xs:List PV} (hx:elems h u=some xs) (hs:xs.all (fun x=>x.cells.length == 1)=true) {n:Nat} (hn:n≤xs.length) :
  ∃ news:Array Value,(Builtin.firstCells 1 n A).run P w=.ok news w∧Holds N0 g w 1 (xs.take n) news:=by
 have hs':(xs.take n).all (fun x=>x.cells.length == 1)=true:=by
  rw[List.all_eq_true]at hs ⊢;exact fun x hx=>hs x (List.mem_of_mem_take hx)
 have hlen:(xs.take n).length=n:=by simp;omega
 cases hr<;>simp only[elems]at hx<;>(try cases hx)
 case bg =>
  have:n=0:=by simpa using hn
  subst this;exact⟨#[],by simp[Builtin.firstCells],by simp,by simp,by simp⟩
 case sl ow sz c o' cap uu q7 q1 q2 q3 q4 q5 q6 q8 q9 =>
  have hr':RV N0 g w (.sl .no sz (xs.take n)) (.slice (some ⟨c,o',q7⟩) (xs.take n).length cap):=by
   refine .sl .no sz (xs.take n) c o' cap uu (by rw[hlen];omega) (by simp) (fun i e he=>?_) (fun i j hi hj=>q4 i j (by rw[hlen]at hi;omega) hj) (fun i j e x he hx=>?_) (fun hne=>?_) q7 (fun hne=>q8 ?_) (by simp)
   ·rw[List.getElem?_take]at he;split at he
    ·exact q3 i e he
    ·cases he
   ·rw[List.getElem?_take]at he;split at he
    ·exact q5 i j e x he hx
    ·cases he
   ·have:xs≠[]:=by rintro rfl;simp at hne
    rcases q6 this with h1 | ⟨m,h1,h2⟩
    ·exact .inl h1
    ·refine .inr ⟨m,h1,?_⟩
     have:=Nat.mul_le_mul_right sz hn;rw[hlen];omega
   ·rintro rfl;simp at hne
  obtain⟨_,news,h1,h2⟩:=qZ (P:=P) k (by decide:(1:Nat)≠0) hr' (xs:=xs.take n) rfl hs';refine⟨news,?_,h2⟩;have:=h1 w (.inl rfl);rw[hlen]at this;exact this
 case bX fl b off len sz cap hb hl hfl hcpb =>
  split at hx
  ·rename_i h1
   subst h1;simp only[Option.aa]at hx;obtain⟨cs,hcs,hx⟩:=hx;split at hx
   ·rename_i hcond
    obtain⟨hle,hsc⟩:=hcond;simp only[Option.some.injEq]at hx;subst hx;have hl':n≤len:=by simp at hn;omega
    have hr':RV N0 g w (.bX false b off n 1) (.slice (some ⟨g.ι b,off,none⟩) n cap):=.bX false b off n 1 cap hb (by omega) (by simp) hcpb;have he:elems h (.bX false b off n 1)=some (((cs.drop off).take len).take n):=by
     simp only[elems,if_true,Option.aa];refine⟨cs,hcs,?_⟩;rw[List.take_take,Nat.min_eq_left hl',if_pos];refine⟨by omega,?_⟩;rw[List.all_eq_true]at hsc ⊢;intro x hx;refine hsc x ?_;rw[show(cs.drop off).take n=((cs.drop off).take len).take n by rw[List.take_take,Nat.min_eq_left hl']]at hx;exact List.mem_of_mem_take hx
    obtain⟨_,news,h1,h2⟩:=qZ (P:=P) k (by decide:(1:Nat)≠0) hr' he hs';refine⟨news,?_,h2⟩;have:=h1 w (.inl rfl);rw[hlen]at this;exact this
   ·cases hx
  ·cases hx
 case str l s hl =>
  have hr':RV N0 g w (.str (l.take n)) (.string ⟨(l.take n).toArray⟩):=.str _ _ (by simp);have he:elems h (.str (l.take n))=some ((l.map fun c=>PV.int .u8 c.toNat).take n):=by simp[elems]
  obtain⟨_,news,h1,h2⟩:=qZ (P:=P) k (by decide:(1:Nat)≠0) hr' he hs';refine⟨news,?_,h2⟩;have:=h1 w (.inl rfl);rw[hlen]at this;rw[←this];have hd:(s.extract 0 n).data=((⟨(l.take n).toArray⟩ : ByteArray).extract 0 n).data:=by
   subst hl;simp only[ByteArray.data_extract];apply Array.toList_inj.1;simp[List.take_take]
  simp only[Builtin.firstCells,hd]
section
variable (hgl:dR gl N0 w0)
include hgl
theorem Vx (k:Ok (N0:=N0) w0 g e a.tmps h w) {c:Go.Call} (ho:o.op=.call c) (hb:c.callee=.builtin .copy) {d x:Operand} {t ty el:TypeId} {d' x':bH} (hargs:c.args=#[d,x]) (htys:c.argTypes=#[t,ty]) (hu:P.underlying t=some (.slice el)) (hsz:sizeOf P el=some 1)
  (hd:aU gl d=some d') (hx:aU gl x=some x') (hs:step orc base draw (.oC d' x') e h=some (v,e',h')):cm N0 P w0 g a w (execOp a.eval o) v e' h':=by
 obtain⟨cs0,hrun⟩:=fJ (P:=P) (w:=w) (a:=a) ho hb;simp only[step,Option.aa]at hs;obtain⟨p,hp,q,hq,xs,hxs,hs⟩:=hs;have h1:=bT hgl k hd hp;have h2:=bT hgl k hx hq;generalize hA:a.eval d=A at h1;generalize hB:a.eval x=B at h2;have hrun2:∀ w' n,(Builtin.copy_ #[t,ty] o.type #[A,B]).run P w=.ok (goInt n) w'→(execOp a.eval o).run P w=.ok (.value (goInt n)) w':=by
  intro w' n hr;rw[hrun,hargs,htys];simp only[builtin,List.map_toArray,List.map_cons,List.map_nil,hA,hB,Sem.run_bind,hr,Result.andThen,Sem.run_pure]
 have len1:∀ xs:List PV,xs.all scalar=true→xs.all (fun x=>x.cells.length == 1)=true:=by
  intro xs hsc;rw[List.all_eq_true]at hsc ⊢;intro x hx;rw[dW (hsc x hx)];rfl
 have elemsSc:xs.all scalar=true→(Builtin.lenOf B).run P w=.ok xs.length w:=fun hsc=>(qZ (P:=P) k (by decide:(1:Nat)≠0) h2 hxs (len1 _ hsc)).1
 cases h1<;>(try simp only at hs)<;>(try cases hs)
 case bg =>
  have hlen:∃ n,(Builtin.lenOf B).run P w=.ok n w∧(Builtin.firstCells 1 0 B).run P w=.ok #[] w:=by
   cases h2<;>simp only[elems]at hxs<;>(try cases hxs)
   all_goals exact⟨_,rfl,by simp[Builtin.firstCells,loadCells,loadCellsFrom]⟩
  obtain⟨n,hl,hf⟩:=hlen;refine aI (u:=goInt 0) k (hrun2 _ _ ?_) (.int _ _);simp[Builtin.copy_,run_underlying hu,hl,cZ hsz,hf]
 case bX fl b off len sz cap hb' hl hfl hcpb =>
  simp only[Option.aa]at hs;obtain⟨cs,hcs,hs⟩:=hs;split at hs
  ·rename_i hcond
   obtain⟨rfl,hle,hsc,_⟩:=hcond;simp only[Option.some.injEq,Prod.mk.injEq]at hs;obtain⟨rfl,rfl,rfl⟩:=hs;have hL:=elemsSc hsc;have hmin:min xs.length len≤xs.length:=Nat.min_le_left _ _;obtain⟨news,hf,hns,_,hnr⟩:=PA (P:=P) k h2 hxs (len1 _ hsc) hmin;have htk:xs.take (min xs.length len)=xs.take len:=by
    rcases Nat.le_total xs.length len with hq | hq
    ·rw[Nat.min_eq_left hq,List.take_of_length_le hq,List.take_of_length_le (Nat.le_refl _)]
    ·rw[Nat.min_eq_right hq]
   rw[htk]at hns hnr;have hsc':(xs.take len).all scalar=true:=by
    rw[List.all_eq_true]at hsc ⊢;exact fun x hx=>hsc x (List.mem_of_mem_take hx)
   obtain⟨w',hst,hext,hok⟩:=tH (P:=P) (b:=b) (off:=off) news.toList (xs.take len) 0 h w cs k hcs (by simpa using hns) (by simp;omega) hsc' (fun j y hy=>by
    have hmem:=List.all_eq_true.1 hsc' _ (List.mem_of_getElem? hy);have:=hnr j 0 y y hy (by rw[dW hmem];rfl);simpa[Array.getD_eq_getD_getElem?,List.getD_eq_getElem?_getD] using this)
   refine⟨_,goInt (min xs.length len:Nat),w',g,hrun2 _ _ ?_,.inl rfl,hext,by simpa using hok,.int _ _⟩;have hmm:Nat.min xs.length len=min xs.length len:=rfl;simp[Builtin.copy_,run_underlying hu,hL,cZ hsz,hf,hst,hmm]
  ·cases hs
end
theorem SR (k:Ok (N0:=N0) w0 g e a.tmps h w) {b:Nat} {cs:List PV} (hb:ay h b=some cs) :
  ∃ n w',(∃ T,w.shape? (g.ι b)=some (T,n))∧w.freeze ⟨g.ι b,n,none⟩ 1=w'∧Ext N0 g w g w'∧Ok (N0:=N0) w0 g e a.tmps h w':=by
 obtain⟨q1,q2,arr,T,lo,hi,q3,q6,q4,q8,q5⟩:=k.cells hb;refine⟨arr.size,_,⟨T,by simp[World.shape?,q3]⟩,rfl,?_⟩;generalize hw1:w.freeze ⟨g.ι b,arr.size,none⟩ 1=w1;have hheap:∀ c,c≠g.ι b→w1.heap[c]?=w.heap[c]?:=fun c hc=>by
  rw[←hw1];unfold World.freeze;rw[if_neg (by decide)];simp only[Array.getElem?_modify];rw[if_neg (fun hq=>hc hq.symm)]
 have hat:∃ lo' hi',w1.heap[g.ι b]?=some (.cells arr T (lo',hi'))∧(lo'≠hi'→arr.size≤lo'):=by
  rw[←hw1];unfold World.freeze;rw[if_neg (by decide)];simp only[Array.getElem?_modify,if_true,q3,Option.map_some]
  by_cases hq:lo == hi
  ·rw[if_pos hq];exact⟨_,_,rfl,fun _=>Nat.le_refl _⟩
  ·rw[if_neg hq]
   have:=q6 (by simpa using hq);exact⟨_,_,rfl,fun _=>by omega⟩
 obtain⟨lo',hi',hat1,hat2⟩:=hat;have hcell:∀ c o,w1.cell? ⟨c,o,none⟩=w.cell? ⟨c,o,none⟩:=by
  intro c o
  by_cases hc:c=g.ι b
  ·subst hc;simp only[World.cell?,hat1,q3]
  ·simp only[World.cell?,hheap c hc]
 have hx:Ext N0 g w g w1:=⟨Nat.le_refl _,fun _ _=>rfl,fun c m hm=>⟨m,hm,Nat.le_refl _⟩,fun c m o _ _=>hcell c o,fun c o _=>hcell c o,fun t ht=>⟨Nat.le_refl _,fun _=>rfl⟩,fun _ _=>rfl⟩;have hsize:w1.heap.size=w.heap.size:=by
  rw[←hw1];unfold World.freeze;rw[if_neg (by decide)];simp
 have hbl:Below N0 w w1:=⟨by rw[←hw1];unfold World.freeze;rw[if_neg (by decide)],by rw[←hw1];unfold World.freeze;rw[if_neg (by decide)],by rw[←hw1];unfold World.freeze;rw[if_neg (by decide)],by omega,fun c hc=>hheap c (by omega)⟩;refine⟨hx,?_⟩;have hok:=gS (y:=.cells cs) k (bq hb) hx rfl hbl (.inl rfl) (fun c _ hc=>⟨hheap c hc,rfl⟩) (fun _ _=>rfl) ⟨q1,q2,arr,T,lo',hi',hat1,hat2,q4,q8,fun j x hj=>(q5 j x hj).mono hx⟩ (fun c m hm=>by
  have:=k.arr c m hm;exact⟨this.1,by omega⟩)
 rwa [jv (bq hb)]at hok
theorem Vy {gl:cR} (hgl:dR gl N0 w0) (k:Ok (N0:=N0) w0 g e a.tmps h w) {s el:TypeId} {x:Operand} (ho:o.op=.convert s s x) (hu:P.underlying s=some (.slice el)) (he:P.underlying el=some (.int .u8)) {x':bH} (hx:aU gl x=some x')
  (hs:step orc base draw (.gen .mark [x']) e h=some (v,e',h')):cm N0 P w0 g a w (execOp a.eval o) v e' h':=by
 simp only[step,nA,Option.aa,Option.some.injEq,Prod.mk.injEq]at hs;obtain⟨vs,⟨p,hp,_,rfl,rfl⟩,r,hr,rfl,rfl,rfl⟩:=hs;simp only[cV]at hr;split at hr
 ·rename_i f b off len sz
  simp only[Option.aa,Option.some.injEq]at hr;obtain⟨cs,hcs,rfl⟩:=hr;have h1:=bT hgl k hx hp;generalize hA:a.eval x=A at h1;cases h1;rename_i cap hb hl hfull hcpb;obtain⟨n,w1,⟨T,hsh⟩,hfr,hext,hok⟩:=SR k hcs;have hrun:(convert s s (.slice (some ⟨g.ι b,off,none⟩) len cap)).run P w=.ok (.slice (some ⟨g.ι b,off,none⟩) len cap) w1:=by
   rw[←hfr];simp[convert,run_underlying hu,run_underlying he,markStringish,hsh]
  refine⟨_,.slice (some ⟨g.ι b,off,none⟩) len cap,w1,g,?_,.inl rfl,hext,hok,.bX f b off len sz cap hb hl hfull hcpb⟩;simp only[execOp,ho,hA,Sem.run_bind,hrun,Result.andThen,Sem.run_pure]
 ·cases hr
end
end Go.Am
namespace Go.Am
open Go.RowKit (Below)
section
variable {N0:Nat} {P:Program} {w0:World} {g:G} {e:Env} {a:Act} {h:Hp} {w:World}
variable {o:Oper} {orc:iG} {base:Nat} {draw:Bool} {v:PV} {e':Env} {h':Hp} {gl:cR}
theorem zJ {sz:Nat}:∀ (es:List PV),(∀ x∈es,x.cells.length=sz)→(es.flatMap PV.cells).length=es.length*sz ∧
  ∀ (q:Nat) (y:PV),(es.flatMap PV.cells)[q]?=some y→∃ (i j:Nat) (x:PV),es[i]?=some x∧x.cells[j]?=some y∧q=i*sz+j
 | [],_=>⟨by simp,fun q y hy=>by simp at hy⟩
 | x::es,hx=>by
  obtain⟨h1,h2⟩:=zJ es fun y hy=>hx y (by simp[hy])
  have hl:=hx x (by simp);refine⟨by rw[List.flatMap_cons,List.length_append,h1,hl,List.length_cons,Nat.succ_mul];omega,fun q y hy=>?_⟩;rw[List.flatMap_cons]at hy
  by_cases hq:q<x.cells.length
  ·rw[List.getElem?_append_left hq]at hy
   exact⟨0,q,x,rfl,hy,by omega⟩
  ·rw[List.getElem?_append_right (by omega)]at hy
   obtain⟨i,j,x',a1,a2,a3⟩:=h2 _ y hy;exact⟨i+1,j,x',by simpa using a1,a2,by rw[Nat.succ_mul];omega⟩
def Flat (N0:Nat) (g:G) (w:World) (cs:List PV) (us:Array Value):Prop:=us.size=cs.length∧∀ (j:Nat) (x:PV),cs[j]?=some x→RV N0 g w x (us.getD j Go.undef)
theorem K4 {sz:Nat} {es:List PV} {us:Array Value} (hh:Holds N0 g w sz es us):Flat N0 g w (es.flatMap PV.cells) us:=by
 obtain⟨f1,f2⟩:=zJ (sz:=sz) es fun x hx=>by
  obtain⟨i,hi⟩:=List.getElem?_of_mem hx;exact hh.2.1 i x hi
 refine⟨by rw[f1,hh.1],fun q y hy=>?_⟩;obtain⟨i,j,x,a1,a2,rfl⟩:=f2 q y hy;exact hh.2.2 i j x y a1 a2
theorem PB {cs ds:List PV} {us vs:Array Value} (h1:Flat N0 g w cs us) (h2:Flat N0 g w ds vs):Flat N0 g w (cs++ds) (us++vs):=by
 refine⟨by simp[h1.1,h2.1],fun j x hx=>?_⟩;rw[Array.getD_eq_getD_getElem?]
 by_cases hj:j<cs.length
 ·rw[List.getElem?_append_left hj]at hx
  rw[Array.getElem?_append_left (by rw[h1.1];exact hj),←Array.getD_eq_getD_getElem?];exact h1.2 j x hx
 ·rw[List.getElem?_append_right (by omega)]at hx
  rw[Array.getElem?_append_right (by rw[h1.1];omega),←Array.getD_eq_getD_getElem?,h1.1];exact h2.2 _ x hx
theorem PC {cs:List PV} {us:Array Value} (hf:Flat N0 g w cs us) (hs:cs.all scalar=true):∀ u∈us.toList,(∀ l,u≠.agg l)∧(∀ l,u≠.tuple l):=by
 intro u hu;obtain⟨j,hj⟩:=List.getElem?_of_mem hu;rw[Array.getElem?_toList]at hj;have hjl:j<cs.length:=by rw[←hf.1];exact(Array.getElem?_eq_some_iff.1 hj).1
 have hsc:=List.all_eq_true.1 hs _ (List.getElem_mem hjl);have hrv:=hf.2 j _ (List.getElem?_eq_getElem hjl);rw[Array.getD_eq_getD_getElem?,hj,Option.getD_some]at hrv;generalize cs[j]=y at hrv hsc;constructor
 ·intro l hq;subst hq;cases hrv;simp[scalar]at hsc;simp[scalar]at hsc
 ·intro l hq;subst hq;cases hrv;simp[scalar]at hsc;simp[scalar]at hsc
theorem PD {sz:Nat} {xs:List PV} (hf:xs.all (fits sz)=true):xs.all (fun x=>x.cells.length == sz)=true∧(xs.flatMap PV.cells).all scalar=true:=by
 rw[List.all_eq_true]at hf;constructor
 ·rw[List.all_eq_true]
  intro x hx;have:=hf x hx;simp only[fits,Bool.and_eq_true]at this;exact this.1
 ·rw[List.all_eq_true]
  intro y hy;obtain⟨x,hx,hy⟩:=List.mem_flatMap.1 hy;have:=hf x hx;simp only[fits,Bool.and_eq_true]at this;exact List.all_eq_true.1 this.2 y hy
theorem Vz (hgl:dR gl N0 w0) (k:Ok (N0:=N0) w0 g e a.tmps h w) {c:Go.Call} (ho:o.op=.call c) (hb:c.callee=.builtin .append) {s x:Operand} {t u el:TypeId} (hargs:c.args=#[s,x]) (htys:c.argTypes=#[t,u])
  (ht:P.underlying t=some (.slice el)) (hu:P.underlying u=some .string∨∃ el',P.underlying u=some (.slice el')) {sz:Nat} (hsz:sizeOf P el=some sz) (hsm:dQ P el=true) (hpos:sz≠0) {z:List PV} (hz:zeroOf P el=some z) (hzl:z.length=sz)
  {s' x':bH} (hs':aU gl s=some s') (hx':aU gl x=some x')
  (hs:step orc base draw (.gen (.vJ sz) [s',x']) e h=some (v,e',h')):cm N0 P w0 g a w (execOp a.eval o) v e' h':=by
 simp only[step,nA,Option.aa,Option.some.injEq,Prod.mk.injEq]at hs;obtain⟨_,⟨p,hp,_,⟨q,hq,_,rfl,rfl⟩,rfl⟩,r,hr,rfl,rfl,rfl⟩:=hs;simp only[cV,Option.aa]at hr;obtain⟨xs,hxs,l,hl,hr⟩:=hr;obtain⟨i,zv,hi,hiz,hzsz,_⟩:=kJ (N0:=N0) hz;have hisz:i.size=sz:=by simp only[sizeOf,Option.map_eq_some_iff]at hsz;obtain⟨i',e1,e2⟩:=hsz;rw[hi]at e1;cases e1;exact e2
 have hbytes:i.bytes≤4096:=by simp only[dQ,hi,decide_eq_true_eq]at hsm;exact hsm
 split at hr
 ·rename_i hx0
  subst hx0;simp only[Option.some.injEq]at hr;subst hr;obtain⟨h1,hlen,⟨news,hnew,hold2⟩,hrun⟩:=iR (P:=P) hgl k ho hb hargs htys hpos hs' hx' hp hq hxs rfl;obtain⟨b,n,cap,hc,hA⟩ : ∃ b n cap,n≤cap∧a.eval s=.slice b n cap:=by
   generalize a.eval s=A at h1;unfold oG at hl;cases h1<;>(try simp only at hl)<;>(try (cases hl;done))
   case bg=>exact⟨none,0,0,Nat.le_refl _,rfl⟩
   case sl ow sz' es' c' o' cap uu q1 q2 q3 q4 q5 q6 q7 q8 q9=>exact⟨_,_,_,q1,rfl⟩
   case bX f b off len sz' cap q1 q2 q3 q4=>exact⟨_,_,_,q2,rfl⟩
  have hr0:=hrun (.slice b n cap) w (by rw[hA];exact mh ht hu hi b n cap hc (a.eval x) hlen news (by rw[hold2.1];simp) (by rw[hisz];exact hnew w (.inl rfl)));exact aI k hr0 (by rw[←hA];exact h1)
 ·rename_i hxne
  split at hr
  ·rename_i hall
   obtain⟨hfits,hlim,hlsc⟩:=hall;obtain⟨hall,hxsc⟩:=PD hfits;have hx0:0<xs.length:=List.length_pos_iff.2 hxne;simp only[Option.some.injEq]at hr;subst hr;obtain⟨h1,hlen,⟨news,hnew,hold2⟩,hrun⟩:=iR (P:=P) hgl k ho hb hargs htys hpos hs' hx' hp hq hxs hall;have hfn:=K4 hold2;unfold gA at hlim;have hsz2:size l.2.2=size h:=(uD (base:=0) hl).2
   -- where there is no room
   have grown:∀ (bb:Option Addr) (cap:Nat) (olds:Array Value),a.eval s=.slice bb l.1 cap→cap<l.1+xs.length→l.2.1.length=l.1*sz→Flat N0 g w l.2.1 olds →
     (∀ w1:World,w1=w∨w1=w.drew→(Builtin.firstCells sz l.1 (.slice bb l.1 cap)).run P w1=.ok olds w1)→Ok (N0:=N0) w0 g e a.tmps l.2.2 w →
     cm N0 P w0 g a w (execOp a.eval o) (.bX false (size h) 0 (l.1+xs.length) sz) e (ext l.2.2 [.cells (l.2.1++xs.flatMap PV.cells)]):=by
    intro bb cap olds hA hcap hll hfo hold k2;have hfit:Builtin.nextslicecap (l.1+xs.length) cap*i.bytes≤281474976710656:=by
     apply growslice_fits hcap;have:(l.1+xs.length)*i.bytes≤17179869184*4096:=Nat.mul_le_mul hlim hbytes;omega
    have hr:=jQ (ty:=o.type) ht hu hi hiz bb l.1 cap (a.eval x) xs.length hcap hlen olds news (by rw[hisz];exact hold) (by rw[hisz];exact hnew) (by omega) hfit;have hcp2:l.1+xs.length≤grownCap w (l.1+xs.length) cap el:=mT _ _ _ _;have hflat:=PB hfo hfn
    let us:Array Value:=olds++news++Builtin.zeroCells zv.cells (grownCap w (l.1+xs.length) cap el-(l.1+xs.length))
    have husz:us.size=grownCap w (l.1+xs.length) cap el*sz:=by
     simp only[us,Array.size_append,hfo.1,hll,hold2.1,Builtin.zeroCells,Array.size_map,Array.size_range];rw[hzsz,hzl,←Nat.add_mul,←Nat.add_mul];congr 1;omega
    obtain⟨g',hx1,hok,hn,hι,hcp⟩:=jP k2 us el (l.2.1++xs.flatMap PV.cells) (by rw[←hflat.1];simp only[us,Array.size_append];omega) (fun j y hy=>by
     have hj:j<(olds++news).size:=by rw[hflat.1];exact(List.getElem?_eq_some_iff.1 hy).1
     have:=hflat.2 j y hy;rw[Array.getD_eq_getD_getElem?]at this ⊢;simp only[us];rw[Array.getElem?_append_left hj];exact this) (fun T' hT=>by
      have hall2:(l.2.1++xs.flatMap PV.cells).all scalar=true:=by rw[List.all_append,hlsc,hxsc];rfl
      exact(mR hall2 0 T' hT).elim) (lo:=0) (hi:=0) (by simp) (.inr rfl)
    refine⟨_,.slice (some ⟨w.heap.size,0,none⟩) (l.1+xs.length) (grownCap w (l.1+xs.length) cap el),_,g',?_,.inl rfl,hx1,hok,?_⟩
    ·exact hrun _ _ (by rw[hA];exact hr)
    ·have:=RV.bX (N0:=N0) (g:=g') (w:=w.drew.alloc (.cells us el)) false (size l.2.2) 0 (l.1+xs.length) sz (grownCap w (l.1+xs.length) cap el) (by omega) hcp2 (by simp) (by rw[hcp,husz];omega)
     rw[hι,hsz2]at this;exact this
   unfold oG at hl;generalize hA:a.eval s=A at h1 grown hrun;cases h1<;>(try simp only at hl)<;>(try (cases hl;done))
   case bg =>
    simp only[Option.some.injEq]at hl;subst hl;exact grown none 0 #[] rfl (by simpa using hx0) (by simp) ⟨by simp,fun j x hx=>by simp at hx⟩ (fun w1 _=>by simp[Builtin.firstCells]) k
   case sl ow sz' es c' o' cap uu q1 q2 q3 q4 q5 q6 q7 q8 q9 =>
    cases ow<;>(try simp only at hl)<;>(try (cases hl;done))
    case full =>
     split at hl
     ·rename_i hsz'
      subst hsz';simp only[Option.some.injEq]at hl;subst hl;have hcap:=q2 rfl;subst hcap;obtain⟨olds,hfo,hho,hval⟩:=holds_of (P:=P) (g:=g) (w:=w) hpos q3 q4 q5 q8 es.length es.length;exact grown _ es.length olds rfl (by omega) (zJ es fun x hx=>by obtain⟨i,hi⟩:=List.getElem?_of_mem hx;exact q3 i x hi).1 (K4 hho) hfo k
     ·cases hl
   case bX f b off len sz' cap hb' hlc hfull hcpb =>
    simp only[Option.aa]at hl;obtain⟨cs,hcs,hl⟩:=hl;split at hl
    ·rename_i hcond
     obtain⟨rfl,rfl,hle⟩:=hcond;simp only[Option.some.injEq]at hl;subst hl;obtain⟨b1,b2,arr,T,lo,hi',b3,b4,⟨b5,b6⟩,b7,b8⟩:=k.cells hcs;have hlt:len*sz'≤arr.size:=by omega
     have hll:(cs.take (len*sz')).length=len*sz':=by rw[List.length_take];omega
     have hcell:∀ j,j<len*sz'→w.cell? ⟨g.ι b,j,none⟩=some (arr.getD j Go.undef):=by
      intro j hj;have:j<arr.size:=by omega
      simp[World.cell?,b3,Array.getD_eq_getD_getElem?,this]
     obtain⟨olds,ho1,ho2,ho3⟩ : ∃ olds:Array Value,olds.size=len*sz'∧(∀ j,j<len*sz'→olds.getD j Go.undef=arr.getD j Go.undef) ∧
       ∀ w1:World,w1=w∨w1=w.drew→(Builtin.firstCells sz' len (.slice (some ⟨g.ι b,0,none⟩) len cap)).run P w1=.ok olds w1:=by
      refine⟨((List.range (len*sz')).map fun q=>arr.getD q Go.undef).toArray,by simp,fun j hj=>by simp[Array.getD_eq_getD_getElem?,hj],fun w1 hw1=>?_⟩;simp only[Builtin.firstCells];refine run_loadCells (P:=P) w1 ⟨g.ι b,0,none⟩ _ (fun q=>arr.getD q Go.undef) (fun q hq=>?_);rw[dN,Nat.zero_add];rcases hw1 with rfl | rfl
      ·exact hcell q hq
      ·exact hcell q hq
     have hfo:Flat N0 g w (cs.take (len*sz')) olds:=by
      refine⟨by rw[ho1,hll],fun j x hx=>?_⟩;have hj:j<len*sz':=by rw[←hll];exact(List.getElem?_eq_some_iff.1 hx).1
      rw[ho2 j hj];rw[List.getElem?_take,if_pos hj]at hx;exact b8 j x hx
     have hι:=(k.box b _ (bq hcs)).blk;have hιsz:g.ι b<w.heap.size:=hι.2
     by_cases hroom:len+xs.length≤cap
     ·-- in place
      have hmul:(len+xs.length)*sz'≤cap*sz':=Nat.mul_le_mul_right _ hroom;rw[Nat.add_mul]at hmul;have e2:=hold2.1;have hfit2:len*sz'+news.toList.length≤arr.size:=by rw[Array.length_toList,e2];omega
      obtain⟨w1,arr',s1,s2,s3,s4,s5,s6,s7⟩:=tI (P:=P) (N0:=N0) (off:=len*sz') news.toList 0 w arr b3 (by omega) (fun hlh=>.inr (by have:=b4 (Nat.ne_of_lt hlh);omega)) (PC hfn hxsc) b1;have hr:=uJ (ty:=o.type) ht hu hi ⟨g.ι b,0,none⟩ len cap (a.eval x) xs.length hroom hlen news (by rw[hisz];exact hnew w (.inl rfl)) (w1:=w1) (by rw[hisz,dN,Nat.zero_add];exact s1);have hx1:Ext N0 g w g w1:=by
       refine⟨Nat.le_refl _,fun _ _=>rfl,fun d m hm=>⟨m,hm,Nat.le_refl _⟩,fun d m q hm _=>?_,fun d q hd=>?_,fun _ _=>⟨Nat.le_refl _,fun _=>rfl⟩,fun _ _=>rfl⟩
       ·have hd:d≠g.ι b:=by rintro rfl;rw[b2]at hm;cases hm
        simp only[World.cell?,s5 d hd]
       ·simp only[World.cell?,s5 d (by omega)]
      have k1:Ok (N0:=N0) w0 g e a.tmps (aC h b .dead) w1 :=
       gS k (bq hcs) hx1 rfl s6 (.inl rfl) (fun d _ hd=>⟨s5 d hd,rfl⟩) (fun _ _=>rfl) ⟨b1,by rw[s4];exact hιsz⟩ (fun d m hm=>by have:=k.arr d m hm;exact⟨this.1,by rw[s4];exact this.2⟩)
      have hlt':b<size h:=bw (bq hcs);obtain⟨g',hx2,hok,hn,hι2,hcp2,_,_⟩:=pX k1 (c:=g.ι b) (cs:=cs.take (len*sz')++xs.flatMap PV.cells) (cpv:=g.cp b) (fun d y hy hyd hq=>by
       by_cases hdb:d=b
       ·subst hdb
        rw[cM hlt']at hy;cases hy;exact hyd rfl
       ·rw[cN (fun q=>hdb q.symm)]at hy
        exact hdb (k.inj d b y _ hy (bq hcs) hyd (by simp) hq)) (fun g' hx2 hι2 hhw2 hcp2=>by
       have hlen2:(cs.take (len*sz')++xs.flatMap PV.cells).length=len*sz'+xs.length*sz':=by rw[List.length_append,hll,←hfn.1,e2]
       refine⟨by rw[hι2];exact b1,by rw[hι2,hhw2];exact b2,arr',T,lo,hi',by rw[hι2];exact s2,by rw[s3];exact b4,⟨by rw[hlen2,hcp2];omega,by rw[hcp2,s3];exact b6⟩,fun T' hT=>?_,fun j y hy=>?_⟩
       ·have hall2:(cs.take (len*sz')++xs.flatMap PV.cells).all scalar=true:=by rw[List.all_append,hlsc,hxsc];rfl
        exact(mR hall2 0 T' hT).elim
       ·have hxx:=hx1.trans hx2
        have hj:j<len*sz'+xs.length*sz':=by rw[←hlen2];exact(List.getElem?_eq_some_iff.1 hy).1
        rw[Array.getD_eq_getD_getElem?,s7]
        by_cases hjl:j<len*sz'
        ·rw[if_neg (by omega)]
         rw[List.getElem?_append_left (by rw[hll];exact hjl),List.getElem?_take,if_pos hjl]at hy;rw[←Array.getD_eq_getD_getElem?];exact(b8 j y hy).mono hxx
        ·rw[if_pos (by rw[Array.length_toList,e2];omega)]
         rw[List.getElem?_append_right (by rw[hll];omega),hll]at hy;rw[Nat.add_zero,Array.getElem?_toList,←Array.getD_eq_getD_getElem?];exact(hfn.2 _ y hy).mono hxx)
      rw[aJ]at hι2 hn hcp2;refine⟨_,.slice (some ⟨g.ι b,0,none⟩) (len+xs.length) cap,w1,g',hrun _ _ hr,.inl rfl,hx1.trans hx2,hok,?_⟩;have:=RV.bX (N0:=N0) (g:=g') (w:=w1) false (size h) 0 (len+xs.length) sz' cap (by omega) hroom (by simp) (by rw[hcp2];exact hcpb);rw[hι2]at this;exact this
     ·-- a new array
      have k2:Ok (N0:=N0) w0 g e a.tmps (aC h b .dead) w :=
       gS k (bq hcs) (Ext.refl _ _ _) rfl (Below.refl _ _) (.inl rfl) (fun d _ _=>⟨rfl,rfl⟩) (fun _ _=>rfl) ⟨b1,hιsz⟩ k.arr
      exact grown _ cap olds rfl (by omega) hll hfo ho3 k2
    ·cases hl
  ·cases hr
end
end Go.Am
namespace Go.Am
open Go.RowKit (Below)
section
variable {N0:Nat} {P:Program} {w0:World} {g:G} {e:Env} {a:Act} {h:Hp} {w:World}
variable {o:Oper} {md:Nat} {orc:iG} {base:Nat} {draw:Bool} {aop:iP} {v:PV} {e':Env} {h':Hp} {gl:cR} (hgl:dR gl N0 w0)
include hgl
theorem SS (k:Ok (N0:=N0) w0 g e a.tmps h w) {s d:TypeId} {x:Operand} {j kk:IntKind} (ho:o.op=.convert s d x) (hs0:P.underlying s=some (.int j)) (hd:P.underlying d=some (.int kk)) {x':bH} (hx:aU gl x=some x')
  (hs:step orc base draw (.toInt kk x') e h=some (v,e',h')):cm N0 P w0 g a w (execOp a.eval o) v e' h':=by
 simp only[step,Option.aa]at hs;obtain⟨p,hp,hs⟩:=hs;have h1:=bT hgl k hx hp;generalize hA:a.eval x=A at h1;cases h1<;>(try simp only at hs)<;>(try cases hs)
 rename_i q n;refine aI k ?_ (.int _ _);have hrun:(convert s d (.int q n)).run P w=.ok (.int kk (kk.wrap n)) w:=by
  simp only[convert,Sem.run_bind,run_underlying hs0,run_underlying hd,Result.andThen,Conv.intToInt,Sem.run_pure]
 simp only[execOp,ho,hA,Sem.run_bind,hrun,Result.andThen,Sem.run_pure]
theorem YK (k:Ok (N0:=N0) w0 g e a.tmps h w) (hc:jO P gl md o=some aop) (hn:fU aop=false)
  (hs:step orc base draw aop e h=some (v,e',h')):cm N0 P w0 g a w (execOp a.eval o) v e' h':=by
 cases ho:o.op with
 | move x=>exact Uv hgl k (.inl ho) hc hs
 | assign x=>exact Uv hgl k (.inr ho) hc hs
 | pick c x y=>exact Vm hgl k ho hc hs
 | alloc t=>exact SJ hgl k ho hc hs
 | box t x=>exact YD hgl k ho hc hs
 | build t ps=>exact SN hgl k ho hc hs
 | buildSlice t l ps =>
  by_cases hmd:md=1
  ·simp only[jO,ho,hmd,if_true]at hc
   split at hc
   ·rename_i el hu
    split at hc
    ·rename_i hsz
     simp only[Option.bind_eq_some_iff]at hc;obtain⟨z,hz,lp,hlp,lc,hlc,cs,hcs,hc⟩:=hc;split at hc
     ·rename_i hcond
      simp only[Bool.and_eq_true,decide_eq_true_eq,beq_iff_eq,ne_eq]at hcond;cases hc;exact I9 hgl k ho hu hsz hz hlp hlc hcs hcond.1.1.1.1 hcond.1.1.1.2 hcond.1.1.2 hcond.1.2 hcond.2 hs
     ·cases hc
    ·cases hc
   ·cases hc
  ·exact MV hgl k ho hmd hc hs
 | load t x=>exact Vn hgl k ho hc hs
 | store t x y=>exact SK hgl k ho hc hs
 | nilCheck x=>exact SL hgl k ho hc hs
 | binOp op t x y t' =>
  simp only[jO,ho]at hc;split at hc
  ·simp only[Option.bind_eq_some_iff,Option.map_eq_some_iff]at hc
   obtain⟨x',hx,y',hy,rfl⟩:=hc;exact Uw hgl k ho ⟨x',y',hx,hy,rfl⟩ hs
  ·simp only[Option.bind_eq_some_iff,Option.map_eq_some_iff]at hc
   obtain⟨x',hx,y',hy,rfl⟩:=hc;exact Uw hgl k ho ⟨x',y',hx,hy,rfl⟩ hs
  ·rename_i hu
   split at hc
   ·rename_i hop
    simp only[Bool.and_eq_true,Bool.not_eq_true']at hop;simp only[Option.bind_eq_some_iff,Option.map_eq_some_iff]at hc;obtain⟨ks,hks,x',hx,y',hy,rfl⟩:=hc;exact YJ hgl k ho hu hop.1.1 hop.1.2 hop.2 hks hx hy hs
   ·cases hc
  ·rename_i hu
   split at hc
   ·rename_i hop
    simp only[Bool.and_eq_true,Bool.not_eq_true',bne_iff_ne,ne_eq]at hop;simp only[Option.bind_eq_some_iff,Option.map_eq_some_iff]at hc;obtain⟨kd,hkd,x',hx,y',hy,rfl⟩:=hc;obtain⟨i,hi,hc1⟩:=MZ hkd;exact Vw hgl k ho hu hop.1.1 hop.1.2 hop.2 hkd hi hc1 hx hy hs
   ·cases hc
  ·rename_i hu
   split at hc
   ·rename_i hop
    simp only[Option.bind_eq_some_iff,Option.map_eq_some_iff]at hc;obtain⟨x',hx,y',hy,rfl⟩:=hc;exact Vo hgl k ho hu hop ⟨x',y',hx,hy,rfl⟩ hs
   ·cases hc
  ·rename_i d hu _ _ _ _ _
   split at hc
   ·rename_i hop
    simp only[Option.bind_eq_some_iff]at hc;obtain⟨kd,hkd,hc⟩:=hc;split at hc
    ·rename_i hny
     simp only[Option.map_eq_some_iff]at hc;obtain⟨x',hx,rfl⟩:=hc;exact K2 hgl k ho ‹P.underlying t=some _› hop hkd (.inl ⟨hny,x',hx,rfl⟩) hs
    ·split at hc
     ·rename_i hnx
      simp only[Option.map_eq_some_iff]at hc;obtain⟨y',hy,rfl⟩:=hc;exact K2 hgl k ho ‹P.underlying t=some _› hop hkd (.inr ⟨hnx,y',hy,rfl⟩) hs
     ·cases hc
   ·cases hc
  ·cases hc
 | unOp op t x=>exact acQ hgl k ho hc hs
 | convert s d x =>
  simp only[jO,ho]at hc;split at hc
  ·simp only[Option.map_eq_some_iff]at hc
   obtain⟨x',hx,rfl⟩:=hc;exact SS hgl k ho ‹P.underlying s=_› ‹P.underlying d=_› hx hs
  ·simp only[Option.map_eq_some_iff]at hc
   obtain⟨x',hx,rfl⟩:=hc;have hus:=‹P.underlying s=_›;have hud:=‹P.underlying d=_›;simp only[step,Option.aa,Option.some.injEq,Prod.mk.injEq]at hs;obtain⟨p,hp,r,hr,rfl,rfl,rfl⟩:=hs;have h1:=bT hgl k hx hp;generalize hA:a.eval x=A at h1;cases h1<;>simp only[iD]at hr
   case str l q hl =>
    simp[bd,Option.ah]at hr;subst hr;refine aI k ?_ (.str _ _ hl);have hrun:(convert s d (.string q)).run P w=.ok (.string q) w:=by
     simp only[convert,Sem.run_bind,run_underlying hus,run_underlying hud,Result.andThen,Sem.run_pure]
    simp only[execOp,ho,hA,Sem.run_bind,hrun,Result.andThen,Sem.run_pure]
   all_goals (simp at hr)
  ·split at hc
   ·simp only[Option.map_eq_some_iff]at hc
    obtain⟨x',hx,rfl⟩:=hc;exact Ja hgl k ho ‹P.underlying s=_› ‹P.underlying d=_› ‹P.underlying _=some (.int .u8)› hx hs
   ·cases hc
  ·split at hc
   ·simp only[Option.map_eq_some_iff]at hc
    obtain⟨x',hx,rfl⟩:=hc;exact Jb hgl k ho ‹P.underlying s=_› ‹P.underlying _=some (.int .u8)› ‹P.underlying d=_› hx hs
   ·cases hc
  ·split at hc
   ·rename_i hsd
    simp only[Bool.and_eq_true,decide_eq_true_eq,beq_iff_eq]at hsd;obtain⟨rfl,rfl⟩:=hsd;split at hc
    ·simp only[Option.map_eq_some_iff]at hc
     obtain⟨x',hx,rfl⟩:=hc;exact Vy hgl k ho ‹P.underlying s=_› ‹P.underlying _=some (.int .u8)› hx hs
    ·cases hc
   ·cases hc
  ·cases hc
 | makeMap t r =>
  cases r<;>simp only[jO,ho]at hc<;>(try cases hc)
  exact M0 k ho hs
 | lookup t m x ok =>
  simp only[jO,ho]at hc;split at hc
  ·rename_i kt et hu
   simp only[Option.bind_eq_some_iff,Option.map_eq_some_iff]at hc;obtain⟨⟨ks,agg⟩,hK,z,hz,m',hm,x',hx,rfl⟩:=hc;exact Py hgl k ho hu hK hz hm hx hs
  ·cases hc
 | mapUpdate t m x y =>
  simp only[jO,ho]at hc;split at hc
  ·rename_i kt et hu
   simp only[Option.bind_eq_some_iff,Option.map_eq_some_iff]at hc;obtain⟨⟨ks,agg⟩,hK,m',hm,x',hx,y',hy,rfl⟩:=hc;exact Fu hgl k (.inl ho) hu hK hm hx hy hs
  ·cases hc
 | insert t m x y =>
  simp only[jO,ho]at hc;split at hc
  ·rename_i kt et hu
   simp only[Option.bind_eq_some_iff,Option.map_eq_some_iff]at hc;obtain⟨⟨ks,agg⟩,hK,m',hm,x',hx,y',hy,rfl⟩:=hc;exact Fu hgl k (.inr ho) hu hK hm hx hy hs
  ·cases hc
 | makeFunc f first cap =>
  cases f<;>simp only[jO,ho]at hc<;>(try cases hc)
  split at hc
  ·rename_i hf
   simp only[Option.map_eq_some_iff]at hc;obtain⟨xs,hxs,rfl⟩:=hc;exact Vu hgl k ho hf hxs hs
  ·cases hc
 | makeSlice t len cap =>
  simp only[jO,ho]at hc;split at hc
  ·rename_i el hu
   simp only[Option.bind_eq_some_iff]at hc;obtain⟨nn,hnn,gg,hg,z,hz,hc⟩:=hc;split at hc
   ·rename_i hcond
    simp only[Bool.and_eq_true,bne_iff_ne,ne_eq,beq_iff_eq]at hcond;obtain⟨⟨⟨⟨hsm,hn0⟩,hzl⟩,hzs⟩,hg1⟩:=hcond;simp only[Option.bind_eq_some_iff,Option.map_eq_some_iff]at hc;obtain⟨l',hl,c',hcc,rfl⟩:=hc;exact Pw hgl k ho hu hnn hsm hn0 hz hzl hl hcc hs
   ·cases hc
  ·cases hc
 | range t x =>
  simp only[jO,ho]at hc;split at hc
  ·simp only[Option.map_eq_some_iff]at hc
   obtain⟨x',hx,rfl⟩:=hc;exact SQ hgl k ho ‹_› hx hs
  ·cases hc
 | next x b =>
  simp only[jO,ho]at hc;split at hc
  ·rename_i hb
   subst hb;simp only[Option.map_eq_some_iff]at hc;obtain⟨x',hx,rfl⟩:=hc;exact Vv hgl k ho hx hs
  ·cases hc
 | typeAssert x xt t ok =>
  simp only[jO,ho]at hc;split at hc
  ·cases hc
  ·rename_i d hd hu
   simp only[Option.bind_eq_some_iff,Option.map_eq_some_iff]at hc;obtain⟨z,hz,x',hx,rfl⟩:=hc;exact MY hgl k ho hu (fun ms hq=>by subst hq;exact hd _ rfl) hz hx hs
  ·cases hc
 | makeInterface t x=>exact Vt hgl k ho hc hs
 | slice t x lo hi mx=>exact SM hgl k ho hc hs
 | fieldAddr t x f=>exact Pr hgl k ho hc hs
 | field t x f=>exact SP hgl k ho hc hs
 | indexAddr t x y=>exact Vp hgl k ho hc hs
 | index t x y=>exact YI hgl k ho hc hs
 | extract x i=>exact MU hgl k ho hc hs
 | call c =>
  have hc':kA P gl md c o.type=some aop:=by simpa only[jO,ho] using hc
  cases hcal:c.callee with
  | value f =>
   simp only[kA,hcal]at hc';cases f<;>simp only at hc'<;>(try cases hc')
   all_goals
    simp only[Option.map_eq_some_iff]at hc';obtain⟨xs,_,rfl⟩:=hc';simp[fU]at hn
  | invoke r m=>simp only[kA,hcal]at hc';cases hc'
  | builtin b =>
   cases b<;>(try (simp only[kA,hcal]at hc';cases hc';done))
   case len=>exact YE hgl k ho hcal hc' (fun x t kt et x' hargs htys hu hx ha=>by subst ha;exact Px hgl k ho hcal hargs htys hu hx hs) hs
   case copy =>
    simp only[kA,hcal]at hc';split at hc'
    ·rename_i d x t ty hax hat
     split at hc'
     ·rename_i el hu
      split at hc'
      ·rename_i hsz
       simp only[Option.bind_eq_some_iff,Option.map_eq_some_iff]at hc';obtain⟨x',hx,d',hd,rfl⟩:=hc';exact Vx hgl k ho hcal (by rw[←Array.toList_inj,hax]) (by rw[←Array.toList_inj,hat]) hu hsz hd hx hs
      ·cases hc'
     ·cases hc'
    ·cases hc'
   case delete =>
    simp only[kA,hcal]at hc';split at hc'
    ·rename_i m x t ty hax hat
     split at hc'
     ·rename_i kt et hu
      simp only[Option.bind_eq_some_iff,Option.map_eq_some_iff]at hc';obtain⟨⟨ks,agg⟩,hK,m',hm,x',hx,rfl⟩:=hc';exact Pz hgl k ho hcal (by rw[←Array.toList_inj,hax]) (by rw[←Array.toList_inj,hat]) hu hK hm hx hs
     ·cases hc'
    ·cases hc'
   case max =>
    simp only[kA,hcal,Option.map_eq_some_iff]at hc';obtain⟨xs,hxs,rfl⟩:=hc';exact Fk (mx:=true) hgl k ho hcal ⟨xs,hxs,rfl⟩ hs
   case min =>
    simp only[kA,hcal,Option.map_eq_some_iff]at hc';obtain⟨xs,hxs,rfl⟩:=hc';exact Fk (mx:=false) hgl k ho hcal ⟨xs,hxs,rfl⟩ hs
   case append =>
    simp only[kA,hcal]at hc';split at hc'
    ·rename_i s x t u hax hat
     have hargs:c.args=#[s,x]:=by rw[←Array.toList_inj,hax]
     have htys:c.argTypes=#[t,u]:=by rw[←Array.toList_inj,hat]
     have fin:∀ el,P.underlying t=some (.slice el)→(P.underlying u=some .string∨∃ el',P.underlying u=some (.slice el')) →
       ((sizeOf P el).bind fun sz=>if(dQ P el&&sz != 0&&(zeroOf P el).any (fun z=>z.length == sz))=true then(aU gl x).bind fun x'=>(aU gl s).map fun s'=>if md=1 then iP.fD sz s' x' else if md=2 then iP.append sz s' x' else if md=3 then iP.gen (.vJ sz) [s',x'] else iP.iC el sz s' x' else none)=some aop →
       cm N0 P w0 g a w (execOp a.eval o) v e' h':=by
      intro el ht hu hq;simp only[Option.bind_eq_some_iff]at hq;obtain⟨sz,hsz,hq⟩:=hq;split at hq
      ·rename_i hcond
       simp only[Bool.and_eq_true,bne_iff_ne,ne_eq]at hcond;obtain⟨⟨hsm,hpos⟩,hz⟩:=hcond;obtain⟨z,hz,hzl⟩ : ∃ z,zeroOf P el=some z∧z.length=sz:=by
        cases hq0:zeroOf P el with
        | none=>rw[hq0]at hz;simp at hz
        | some z=>rw[hq0]at hz;simp at hz;exact⟨z,rfl,hz⟩
       simp only[Option.bind_eq_some_iff,Option.map_eq_some_iff]at hq;obtain⟨x',hx,s',hs',rfl⟩:=hq
       by_cases h1:md=1
       ·rw[if_pos h1]at hs
        exact Fp hgl k ho hcal hargs htys ht hu hsz hsm hpos hz hzl hs' hx hs
       ·rw[if_neg h1]at hs
        by_cases h2:md=2
        ·rw[if_pos h2]at hs
         exact Pv hgl k ho hcal hargs htys ht hu hsz hsm hpos hz hzl hs' hx hs
        ·rw[if_neg h2]at hs
         by_cases h3:md=3
         ·rw[if_pos h3]at hs
          exact Vz hgl k ho hcal hargs htys ht hu hsz hsm hpos hz hzl hs' hx hs
         rw[if_neg h3]at hs;exact MW hgl k ho hcal hargs htys ht hu hsz hsm hpos hz hzl hs' hx hs
      ·cases hq
     split at hc'
     ·exact fin _ ‹P.underlying t=_› (.inr ⟨_,‹P.underlying u=_›⟩) hc'
     ·exact fin _ ‹P.underlying t=_› (.inl ‹P.underlying u=_›) hc'
     ·cases hc'
    ·cases hc'
 | _=>simp only[jO,ho]at hc;cases hc
end
end Go.Am
namespace Go.Am
open Go.RowKit (Below)
section
variable {N0:Nat} {P:Program} {w0:World} {g:G} {e:Env} {a:Act} {h:Hp} {w:World} {gl:cR} {ds:List Deferred}
abbrev ox (N0:Nat) (w0:World) (g:G) (h:Hp) (w:World):Prop:=Ok (N0:=N0) w0 g [] #[] h w
theorem Ok.heap {tm:Array Value} (k:Ok (N0:=N0) w0 g e tm h w):ox N0 w0 g h w:=⟨k.n,k.hN,k.below,k.inj,k.box,k.arr,fun t v hv=>by simp[look]at hv⟩
theorem Ok.frame {tm:Array Value} {g':G} {h':Hp} {w':World} (k:Ok (N0:=N0) w0 g e tm h w) (k':ox N0 w0 g' h' w') (x:Ext N0 g w g' w'):Ok (N0:=N0) w0 g' e tm h' w' :=
 ⟨k'.n,k'.hN,k'.below,k'.inj,k'.box,k'.arr,fun t v hv=>(k.env t v hv).mono x⟩
def Fv (P:Program) (f:FuncId) (us:Array Value) (w:World) (R:Ending→World→Prop):Prop :=
 ((callFunc f us).run P w=.ok (.enter f us) w∧Calls P f us w R)∨∃ v w',(callFunc f us).run P w=.ok (.value v) w'∧R (.returned v) w'
theorem Fv.mono {P:Program} {f:FuncId} {us:Array Value} {w:World} {R R':Ending→World→Prop} (h:Fv P f us w R) (hm:∀ e w',R e w'→R' e w'):Fv P f us w R':=by
 rcases h with⟨h1,h2⟩ | ⟨v,w',h1,h2⟩
 ·exact .inl ⟨h1,h2.mono hm⟩
 ·exact .inr ⟨v,w',h1,hm _ _ h2⟩
theorem Fv.calls {P:Program} {f:FuncId} {us:Array Value} {w:World} {R:Ending→World→Prop} (h:Fv P f us w R) (he:(callFunc f us).run P w=.ok (.enter f us) w):Calls P f us w R:=by
 rcases h with⟨h1,h2⟩ | ⟨v,w',h1,h2⟩
 ·exact h2
 ·rw[he]at h1;cases h1
def gF (N0:Nat) (P:Program) (w0:World) (base:Nat) (orc:iG):Prop:=∀ f vs h r h',orc f vs h=some (r,h')→base≤size h→∀ (g:G) (us:Array Value) (w:World),ox N0 w0 g h w→us.size=vs.length →
 (∀ (j:Nat) (x:PV),vs[j]?=some x→RV N0 g w x (us.getD j Go.undef)) →
  Fv P f us w fun en w'=>∃ u g',en=.returned u∧Ext N0 g w g' w'∧ox N0 w0 g' h' w'∧RV N0 g' w' r u
structure Made (P:Program) (gl:cR) (nt:Nat) (ops:Array Oper) (o:Oper) (ao:cq):Prop where
 op:∃ box,Vc P gl box o=some (uq ao.op)
 guard:zf ops o.guard=some ao.guard
 dst:ao.dst=o.dst
 ok:KZ nt o.dst=true
 call:fU ao.op=true→ze o.op=true
theorem SU {a:iP} (h:Vb a=true):uq a=a:=by
 cases a<;>first | rfl | (simp[Vb]at h)
noncomputable def X3:iP→iG→iG
 | .jm _ _,orc=>gv orc
 | _,orc=>orc
theorem SV {orc:iG} {base:Nat} {op:iP} {e:Env} {h:Hp} {x:PV × Env × Hp} {draw:Bool} (hs:step orc base draw op e h=some x):step (X3 op orc) base draw (uq op) e h=some x:=by
 cases op<;>try exact hs
 case gy t n g a =>
  simp only[step,Option.aa]at hs;obtain⟨q,_,v,hv,hs⟩:=hs;simp only[uq,step,Option.aa];refine⟨v,hv,?_⟩;split at hs
  ·split at hs
   ·cases hs
   ·exact Option.aa.1 hs |>.elim fun cs h=>Option.aa.2 ⟨cs,h⟩
  ·exact hs
  ·cases hs
 case fR t n a y =>
  simp only[step,Option.aa]at hs;obtain⟨q,_,v,hv,u,hu,hs⟩:=hs;simp only[uq,step,Option.aa];refine⟨v,hv,u,hu,?_⟩;split at hs
  ·split at hs
   ·exact Option.aa.1 hs |>.elim fun cs h=>Option.aa.2 ⟨cs,h⟩
   ·cases hs
  ·cases hs
 case fE k n g a =>
  simp only[step,Option.aa]at hs;obtain⟨v,hv,hs⟩:=hs;simp only[uq,step,Option.aa];refine⟨v,hv,?_⟩;split at hs
  ·split at hs
   ·exact Option.aa.1 hs |>.elim fun cs h=>Option.aa.2 ⟨cs,h⟩
   ·cases hs
  ·exact hs
  ·cases hs
 case iW k f xs =>
  simp only[step,oH,Option.aa]at hs;obtain⟨vs,h1,r,⟨y,h2,h4⟩,h3⟩:=hs;simp only[uq,X3,step,Option.aa];split at h4
  ·simp only[Option.some.injEq]at h4
   subst h4;exact⟨vs,h1,y,h2,h3⟩
  ·cases h4
 case qQ k g xs =>
  simp only[step,rQ,Option.aa]at hs;obtain⟨vs,h1,r,⟨y,h2,h4⟩,h3⟩:=hs;simp only[uq,X3,step,Option.aa];split at h4
  ·simp only[Option.some.injEq]at h4
   subst h4;exact⟨vs,h1,y,h2,h3⟩
  ·cases h4
 rename_i f xs;simp only[step,Option.aa]at hs;obtain⟨vs,h1,r,h2,h3⟩:=hs;simp only[uq,X3,step,Option.aa];refine⟨vs,h1,r,h2,?_⟩;split at h3
 ·rename_i hq
  cases h3;cases draw
  ·simp[hq]
  ·simp[hq]
 ·cases h3
theorem B5 {an:De} {nt id:Nat} {ops:Array Oper}:∀ (l:List Oper) (i:Nat) (r:List cq),Pa P gl an nt id ops i l=some r→r.length=l.length∧∀ (j:Nat) (o:Oper),l[j]?=some o→∃ ao,r[j]?=some ao∧Made P gl nt ops o ao
 | [],i,r,hr=>by simp[Pa]at hr;subst hr;exact⟨rfl,fun j o ho=>by simp at ho⟩
 | o::l,i,r,hr=>by
  simp only[Pa,Option.bind_eq_some_iff]at hr;obtain⟨ao,h1,gd,h2,hr⟩:=hr;split at hr
  ·rename_i hcond
   simp only[Bool.and_eq_true]at hcond;simp only[Option.map_eq_some_iff]at hr;obtain⟨r',hr',rfl⟩:=hr;obtain⟨e1,e2⟩:=B5 l (i+1) r' hr';refine⟨by simp[e1],fun j o' ho'=>?_⟩;cases j with
   | zero=>simp at ho';subst ho';exact⟨_,rfl,⟨_,by rw[SU hcond.2];exact h1⟩,h2,rfl,hcond.1.1,fun hq=>by have:=hcond.1.2;rw[hq]at this;simpa using this⟩
   | succ j=>simpa using e2 j o' (by simpa using ho')
  ·cases hr
theorem M1 {a:iP} (h:fU (uq a)=true):fU a=true:=by cases a<;>simp_all [uq,fU]
theorem VA (hgl:dR gl N0 w0) (k:Ok (N0:=N0) w0 g e a.tmps h w) {nt:Nat} {ops:Array Oper} {o:Oper} {ao:cq} (hm:Made P gl nt ops o ao) (hsz:nt≤a.tmps.size) (hd:a.defers=ds) {orc:iG} {base:Nat} {draw:Bool} (horc:gF N0 P w0 base orc) (horcq:gF N0 P w0 base (gv orc)) (hbs:base≤size h)
  {v:PV} {e':Env} {h':Hp} (hs:step orc base draw ao.op e h=some (v,e',h')) {K:Act→World→Prop} {Q:Exit→Act→World→Prop}
  (hK:∀ g' a' w',Ext N0 g w g' w'→Ok (N0:=N0) w0 g' (dI e' ao.dst v) a'.tmps h' w'→nt≤a'.tmps.size→a'.defers=ds→K a' w'):o.wp P a w K Q:=by
 obtain⟨box,hc⟩:=hm.op;have hc:jO P gl box o=some (uq ao.op):=by
  simp only[Vc,Option.some.injEq]at hc;cases hq:jO P gl box o with
  | some x=>rw[hq]at hc;simpa using hc
  | none =>
   rw[hq,Option.getD_none]at hc;have:ao.op=.stuck:=by
    cases hop:ao.op<;>rw[hop]at hc<;>simp[uq]at hc
   rw[this]at hs;simp[step]at hs
 have he':e'=e:=zl orc base draw (op:=ao.op) _ hs;subst he'
 replace hs:=SV hs
 have horc0:gF N0 P w0 base (X3 ao.op orc):=by
  cases ao.op<;>first | exact horc | exact horcq
 generalize X3 ao.op orc=orc at hs horc0;clear horc horcq;have horc:=horc0;have fin:∀ (g':G) (w':World) (u:Value),Ext N0 g w g' w'→Ok (N0:=N0) w0 g' e' a.tmps h' w'→RV N0 g' w' v u→K (a.put o.dst u) w':=by
  intro g' w' u hx hok hr;have hdst:=hm.dst;have hokd:=hm.ok;cases hod:o.dst with
  | none =>
   rw[hod]at hdst;refine hK g' _ w' hx ?_ hsz hd;rw[hdst];exact hok
  | some d =>
   rw[hod]at hdst hokd;simp only[KZ,decide_eq_true_eq]at hokd;refine hK g' _ w' hx ?_ (by simp only[Act.put,Array.size_setIfInBounds];exact hsz) hd;rw[hdst];exact hok.put (Nat.lt_of_lt_of_le hokd hsz) hr
 by_cases hcall:fU (uq ao.op)=false
 ·obtain⟨nx,u,w',g',hrun,hnx,hx,hok,hr⟩:=YK hgl k hc hcall hs
  unfold Oper.wp;rw[hrun];rcases hnx with rfl | ⟨rfl,rfl⟩
  ·exact fin g' w' u hx hok hr
  ·exact fin g' w' _ hx hok hr
 ·have hcall':fU (uq ao.op)=true:=by simpa using hcall
  cases ho:o.op with
  | call c =>
   have hc':kA P gl box c o.type=some (uq ao.op):=by simpa only[jO,ho] using hc
   have hexec:execOp a.eval o=(do let d ←resolve a.eval c o.type;invoke d.target d.args):=by simp only[execOp,ho]
   have call:∀ (f:FuncId) (vs:List PV) (us:Array Value) (r:PV × Hp),orc f vs h=some r→us.size=vs.length→(∀ (j:Nat) (x:PV),vs[j]?=some x→RV N0 g w x (us.getD j Go.undef)) →
     (execOp a.eval o).run P w=(callFunc f us).run P w→v=r.1→h'=r.2→o.wp P a w K Q:=by
    intro f vs us r hr hl hrel hrun hv hh;rcases horc f vs h r.1 r.2 hr hbs g us w k.heap hl hrel with⟨h1,h2⟩ | ⟨u,w',h1,u',g',hq,hx,hok,hru⟩
    case inr =>
     cases hq;unfold Oper.wp;rw[hrun,h1];refine fin g' w' u hx (k.frame ?_ hx) (by rw[hv];exact hru);rw[hh];exact hok
    unfold Oper.wp;rw[hrun,h1,Oper.upon_enter];refine h2.mono fun en w' hen=>?_
    obtain⟨u,g',rfl,hx,hok,hru⟩:=hen;refine fin g' w' u hx (k.frame ?_ hx) (by rw[hv];exact hru);rw[hh];exact hok
   cases hcal:c.callee with
   | value fo =>
    simp only[kA,hcal]at hc';cases fo<;>simp only at hc'<;>(try cases hc')
    case tmp t =>
     simp only[Option.map_eq_some_iff]at hc';obtain⟨xs,hxs,hao⟩:=hc';rw[←hao]at hs;simp only[step,Option.aa]at hs;obtain⟨p,hp,hs⟩:=hs;have hrp:=bT hgl k (o:=.tmp t) rfl hp;generalize hA:a.eval (.tmp t)=A at hrp;cases hrp<;>simp only at hs<;>(try cases hs)
     rename_i f cap us hsz' hrc;simp only[Option.aa]at hs;obtain⟨vs,hvs,r,hr,hs⟩:=hs;obtain⟨l1,l2⟩:=zC hgl k hxs hvs;have hs':v=r.1∧h'=r.2:=by
      split at hs
      ·split at hs
       ·rename_i hq
        simp only[Option.some.injEq,Prod.mk.injEq]at hs;exact⟨hs.1.symm,by rw[hq];exact hs.2.2.symm⟩
       ·cases hs
      ·simp only[Option.some.injEq,Prod.mk.injEq]at hs
       exact⟨hs.1.symm,hs.2.2.symm⟩
     have ls:c.args.size=vs.length:=by rw[←Array.length_toList];exact l1
     refine call f (vs++cap) (c.args.map a.eval++us) r hr (by simp[ls,hsz']) ?_ ?_ hs'.1 hs'.2
     ·intro j x hx
      by_cases hj:j<vs.length
      ·rw[List.getElem?_append_left hj]at hx
       have:=l2 j x hx;rw[Array.getD_eq_getD_getElem?,Array.getElem?_append_left (by simp;omega)];simpa[List.getD_eq_getElem?_getD] using this
      ·rw[List.getElem?_append_right (by omega)]at hx
       have:=hrc _ x hx;rw[Array.getD_eq_getD_getElem?,Array.getElem?_append_right (by simp;omega)];simpa[Array.getD_eq_getD_getElem?,ls] using this
     ·rw[hexec]
      simp only[resolve,hcal,hA,Deferred.ofValue,Sem.run_bind,Sem.run_pure,Result.andThen,invoke];simp
    case func f =>
     simp only[Option.map_eq_some_iff]at hc';obtain⟨xs,hxs,hao⟩:=hc';rw[←hao]at hs;simp only[step,Option.aa]at hs;obtain⟨vs,hvs,r,hr,hs⟩:=hs;obtain⟨l1,l2⟩:=zC hgl k hxs hvs;have hs':v=r.1∧h'=r.2:=by
      split at hs
      ·split at hs
       ·rename_i hq
        simp only[Option.some.injEq,Prod.mk.injEq]at hs;exact⟨hs.1.symm,by rw[hq];exact hs.2.2.symm⟩
       ·cases hs
      ·simp only[Option.some.injEq,Prod.mk.injEq]at hs
       exact⟨hs.1.symm,hs.2.2.symm⟩
     refine call f vs (c.args.map a.eval) r hr (by simp[←l1]) ?_ ?_ hs'.1 hs'.2
     ·intro j x hx
      have:=l2 j x hx;simpa[List.getD_eq_getElem?_getD,Array.getD_eq_getD_getElem?] using this
     ·rw[hexec]
      simp only[resolve,hcal,Act.eval,Deferred.ofValue,Sem.run_bind,Sem.run_pure,Result.andThen,invoke];simp
   | invoke r m=>simp only[kA,hcal]at hc';cases hc'
   | builtin b =>
    exfalso;simp only[kA,hcal]at hc';cases b<;>simp only at hc'<;>(try (cases hc';done))
    case len=>
     split at hc'
     ·split at hc'<;>first | (simp only[Option.map_eq_some_iff]at hc';obtain⟨_,_,hq⟩:=hc';rw[←hq]at hcall';simp[fU]at hcall') | cases hc'
     ·cases hc'
    case max=>simp only[Option.map_eq_some_iff]at hc';obtain⟨_,_,hq⟩:=hc';rw[←hq]at hcall';simp[fU]at hcall'
    case min=>simp only[Option.map_eq_some_iff]at hc';obtain⟨_,_,hq⟩:=hc';rw[←hq]at hcall';simp[fU]at hcall'
    case copy =>
     split at hc'
     ·split at hc'
      ·split at hc'
       ·simp only[Option.bind_eq_some_iff,Option.map_eq_some_iff]at hc'
        obtain⟨_,_,_,_,hq⟩:=hc';rw[←hq]at hcall';simp[fU]at hcall'
       ·cases hc'
      ·cases hc'
     ·cases hc'
    case delete =>
     split at hc'
     ·split at hc'
      ·simp only[Option.bind_eq_some_iff,Option.map_eq_some_iff]at hc'
       obtain⟨_,_,_,_,_,_,hq⟩:=hc';rw[←hq]at hcall';simp[fU]at hcall'
      ·cases hc'
     ·cases hc'
    case append =>
     split at hc'
     ·split at hc'
      all_goals first
       | cases hc'
       |(simp only[Option.bind_eq_some_iff]at hc'
         obtain⟨sz,_,hc'⟩:=hc';split at hc'
         ·simp only[Option.bind_eq_some_iff,Option.map_eq_some_iff]at hc'
          obtain⟨_,_,_,_,hq⟩:=hc';rw[←hq]at hcall'
          (repeat' split at hcall')<;>simp[fU]at hcall'
         ·cases hc')
     ·cases hc'
  | _ =>
   exfalso;have:=hm.call (M1 hcall');rw[ho]at this;simp[ze]at this
end
end Go.Am
namespace Go.Am
open Go.RowKit (Below)
section
variable {N0:Nat} {P:Program} {w0:World} {g:G} {e:Env} {a:Act} {h:Hp} {w:World} {gl:cR} {ds:List Deferred}
theorem SW {tm:Array Value} (k:Ok (N0:=N0) w0 g e tm h w) {t:Nat} {b:Bool} (hl:look e t=some (.bool b)):tm[t]?=some (.bool b):=by
 have hr:=k.env t _ hl;have:=kI hr;rw[Array.getD_eq_getD_getElem?]at this;cases hq:tm[t]? with
 | none=>rw[hq]at this;simp[Go.undef]at this
 | some u=>rw[hq]at this;simpa using this
theorem M3 (k:Ok (N0:=N0) w0 g e a.tmps h w) {ops:Array Oper} {o:Oper} {gd:Option (Nat × Bool)} (hg:zf ops o.guard=some gd) {b:Bool} (hw:wanted e gd=some b) :
  Region.wanted o (yielded ops a.tmps)=b:=by
 cases hog:o.guard with
 | none =>
  rw[hog]at hg;simp only[zf,Option.some.injEq]at hg;subst hg;simp only[wanted,Option.some.injEq]at hw;subst hw;simp[Region.wanted,hog]
 | some q =>
  obtain⟨j,want⟩:=q;rw[hog]at hg;simp only[zf,Option.map_eq_some_iff]at hg;obtain⟨d,hd,rfl⟩:=hg;simp only[wanted,Option.aa]at hw;obtain⟨v,hv,hw⟩:=hw;cases v<;>simp only at hw<;>(try cases hw)
  case some.bool.refl b' =>
   have hy:yielded ops a.tmps j=some b':=by
    unfold yielded;rw[hd];simp only[Option.bind_some,SW k hv]
   simp only[Region.wanted,hog,hy];cases b'<;>cases want<;>rfl
  case some.undef.refl =>
   have hr:=k.env d _ hv;cases hr with
   | undef u hu =>
    simp only[Region.wanted,hog];have:∀ b',yielded ops a.tmps j≠some b':=by
     intro b' hq;unfold yielded at hq;rw[hd]at hq;simp only[Option.bind_some]at hq;split at hq
     ·rename_i b2 heq
      refine hu b2 ?_;rw[Array.getD_eq_getD_getElem?,heq];rfl
     ·cases hq
    cases hq:yielded ops a.tmps j with
    | none=>rfl
    | some b'=>exact(this b' hq).elim
theorem uR {dn:Nat} {ops:Array Oper} {l:List cq}:∀ (r:List cq) (i:Nat),(kF dn ops l i r).length=r.length∧∀ (j:Nat) (x:cq),r[j]?=some x→∃ y,(kF dn ops l i r)[j]?=some y∧(y=x∨∃ f xs,x.op=.call f xs∧y={ x with op:=.jm f xs })
 | [],i=>⟨rfl,fun j x hx=>by simp at hx⟩
 | x::r,i=>by
  obtain⟨h1,h2⟩:=uR (dn:=dn) (ops:=ops) (l:=l) r (i+1);refine⟨by simp[kF,h1],fun j y hy=>?_⟩;cases j with
  | zero =>
   simp at hy;subst hy;refine⟨_,rfl,?_⟩;split
   ·rename_i f xs hq
    split
    ·exact .inl rfl
    ·exact .inr ⟨f,xs,hq,rfl⟩
   ·exact .inl rfl
  | succ j=>simpa[kF] using h2 j y (by simpa using hy)
theorem zK {an:De} {id:Nat} {ops:Array Oper}:∀ (r:List cq) (i:Nat),(zh an id ops i r).length=r.length∧∀ (j:Nat) (x:cq),r[j]?=some x→∃ y,(zh an id ops i r)[j]?=some y∧(y=x∨∃ f xs,x.op=.call f xs∧y={ x with op:=.jm f xs })
 | [],i=>⟨rfl,fun j x hx=>by simp at hx⟩
 | x::r,i=>by
  obtain⟨h1,h2⟩:=zK (an:=an) (id:=id) (ops:=ops) r (i+1);refine⟨by simp[zh,h1],fun j y hy=>?_⟩;cases j with
  | zero =>
   simp at hy;subst hy;refine⟨_,rfl,?_⟩;split
   ·rename_i f xs hq
    split
    ·exact .inr ⟨f,xs,hq,rfl⟩
    ·exact .inl rfl
   ·exact .inl rfl
  | succ j=>simpa[zh] using h2 j y (by simpa using hy)
theorem zL {nt:Nat} {ops:Array Oper} {o:Oper} {x y:cq} (hm:Made P gl nt ops o x) (h:y=x∨∃ f xs,x.op=.call f xs∧y={ x with op:=.jm f xs }):Made P gl nt ops o y:=by
 rcases h with rfl | ⟨f,xs,hq,rfl⟩
 ·exact hm
 ·obtain⟨h1,h2,h3,h4,h6⟩:=hm
  exact⟨by rw[hq]at h1;exact h1,h2,h3,h4,fun _=>h6 (by rw[hq];rfl)⟩
theorem SX (t:Nat) (a:iP):uq (tC t a)=uq a:=by
 cases a<;>first | rfl | (simp only[tC];split<;>rfl)
theorem Fw (t:Nat) (a:iP):fU (tC t a)=fU a:=by
 cases a<;>first | rfl | (simp only[tC];split<;>rfl)
theorem Je {an:De} {id nt:Nat} {ops:Array Oper} {l:List cq} (h:∀ (j:Nat) (o:Oper),ops[j]?=some o→∃ ao,l[j]?=some ao∧Made P gl nt ops o ao) :
  (pV an id l).length=l.length∧∀ (j:Nat) (o:Oper),ops[j]?=some o→∃ ao,(pV an id l)[j]?=some ao∧Made P gl nt ops o ao:=by
 unfold pV;split
 ·exact⟨rfl,h⟩
 ·rename_i t _
  refine⟨by simp,fun j o ho=>?_⟩;obtain⟨ao,h1,h2⟩:=h j o ho;exact⟨{ ao with op:=tC t ao.op },by simp[h1],⟨by simp only[SX];exact h2.op,h2.guard,h2.dst,h2.ok,by simp only[Fw];exact h2.call⟩⟩
theorem Jf (t:Nat) (a:iP):fU (BU t a)=fU a:=by
 cases a<;>first | rfl | (simp only[BU];split<;>rfl)
theorem SY (t:Nat) (a:iP):uq (BU t a)=uq a:=by
 cases a<;>first | rfl | (simp only[BU];split<;>rfl)
theorem M4 {an:De} {id nt:Nat} {ops:Array Oper} {l:List cq} (h:∀ (j:Nat) (o:Oper),ops[j]?=some o→∃ ao,l[j]?=some ao∧Made P gl nt ops o ao) :
  (qU an id l).length=l.length∧∀ (j:Nat) (o:Oper),ops[j]?=some o→∃ ao,(qU an id l)[j]?=some ao∧Made P gl nt ops o ao:=by
 unfold qU;split
 ·exact⟨rfl,h⟩
 ·rename_i t _
  refine⟨by simp,fun j o ho=>?_⟩;obtain⟨ao,h1,h2⟩:=h j o ho;exact⟨{ ao with op:=BU t ao.op },by simp[h1],⟨by simp only[SY];exact h2.op,h2.guard,h2.dst,h2.ok,by simp only[Jf];exact h2.call⟩⟩
theorem K5 (hgl:dR gl N0 w0) (k:Ok (N0:=N0) w0 g e a.tmps h w) {nt:Nat} {ops:Array Oper} {i:Nat} {o:Oper} {ao:cq} (hio:ops[i]?=some o) (hm:Made P gl nt ops o ao) (hsz:nt≤a.tmps.size) (hd:a.defers=ds) {orc:iG} {base:Nat} {draw:Bool}
  (horc:gF N0 P w0 base orc) (horcq:gF N0 P w0 base (gv orc)) (hbs:base≤size h) {e':Env} {h':Hp} (hs:ei orc base draw ao e h=some (e',h')) {K:Act→World→Prop} {Q:Exit→Act→World→Prop}
  (hK:∀ g' a' w',Ext N0 g w g' w'→Ok (N0:=N0) w0 g' e' a'.tmps h' w'→nt≤a'.tmps.size→a'.defers=ds→K a' w'):wpOp P ops Q i K a w:=by
 unfold ei at hs;simp only[Option.aa]at hs;obtain⟨b,hb,hs⟩:=hs;unfold wpOp;rw[hio];simp only[M3 k hm.guard hb];cases b with
 | true =>
  simp only[if_true,Option.aa,Option.some.injEq,Prod.mk.injEq]at hs ⊢;obtain⟨⟨v,e1,h1⟩,hst,rfl,rfl⟩:=hs;exact .inl (VA hgl k hm hsz hd horc horcq hbs hst hK)
 | false =>
  simp only[Bool.false_eq_true,if_false,Option.some.injEq,Prod.mk.injEq]at hs ⊢;obtain⟨rfl,rfl⟩:=hs;have hdst:=hm.dst;have hokd:=hm.ok;cases hod:o.dst with
  | none =>
   rw[hod]at hdst;refine hK g _ w (Ext.refl _ _ _) ?_ hsz hd;rw[hdst];exact k
  | some d =>
   rw[hod]at hdst hokd;simp only[KZ,decide_eq_true_eq]at hokd;refine hK g _ w (Ext.refl _ _ _) ?_ (by simp only[Act.put,Array.size_setIfInBounds];exact hsz) hd;rw[hdst];exact k.put (Nat.lt_of_lt_of_le hokd hsz) (.undef _ (by intro b;simp[Go.undef]))
theorem K6 (hgl:dR gl N0 w0) {nt:Nat} {ops:Array Oper} {aops:List cq} (hmade:∀ (j:Nat) (o:Oper),ops[j]?=some o→∃ ao,aops[j]?=some ao∧Made P gl nt ops o ao) {orc:iG} {base:Nat} {draw:Bool} (horc:gF N0 P w0 base orc) (horcq:gF N0 P w0 base (gv orc))
  (hgrow:∀ h f vs r,base≤size h→orc f vs h=some r→bC base h r.2) {Q:Exit→Act→World→Prop} {e':Env} {h':Hp}:∀ (l:List Nat) (g:G) (e:Env) (a:Act) (h:Hp) (w:World),(∀ i∈l,i<ops.size)→aops.length=ops.size →
  Ok (N0:=N0) w0 g e a.tmps h w→nt≤a.tmps.size→a.defers=ds→base≤size h→bU orc base draw (l.map fun i=>aops.getD i ⟨none,none,.alloc []⟩) e h=some (e',h') →
  (∀ g' a' w',Ext N0 g w g' w'→Ok (N0:=N0) w0 g' e' a'.tmps h' w'→nt≤a'.tmps.size→a'.defers=ds→Q .normal a' w')→wpOps P ops Q l a w
 | [],g,e,a,h,w,hl,hlen,k,hsz,hd,hbs,hs,hQ=>by
  simp only[List.map_nil,bU,Option.some.injEq,Prod.mk.injEq]at hs;obtain⟨rfl,rfl⟩:=hs;exact hQ g a w (Ext.refl _ _ _) k hsz hd
 | i::l,g,e,a,h,w,hl,hlen,k,hsz,hd,hbs,hs,hQ=>by
  have hi:i<ops.size:=hl i (by simp);obtain⟨ao,hao,hm⟩:=hmade i ops[i] (by simp[hi]);rw[List.map_cons,eN,Option.aa]at hs;obtain⟨⟨e1,h1⟩,hs1,hs2⟩:=hs;rw[List.getD_eq_getElem?_getD,hao,Option.getD_some]at hs1;rw[wpOps_cons];refine K5 hgl k (by simp[hi]) hm hsz hd horc horcq hbs hs1 fun g1 a1 w1 hx1 k1 hsz1 hd1=>?_
  have hg1:bC base h h1:=by
   have:=jH (draw:=draw) hgrow [ao] e h hbs (e1,h1) (by rw[eN,hs1];rfl);exact this
  exact K6 hgl hmade horc horcq hgrow l g1 e1 a1 h1 w1 (fun j hj=>hl j (by simp[hj])) hlen k1 hsz1 hd1 (Nat.le_trans hbs hg1.1) hs2 fun g' a' w' hx'=>hQ g' a' w' (hx1.trans hx')
/-! ### Whatever order -/
def Down (ops:Array Oper) (listed:Array Bool):Prop:=∀ i,listed.getD i false=true→∀ m∈oO ops i,listed.getD m false=true
theorem uS {ops:Array Oper} {listed:Array Bool} (hd:Down ops listed):∀ (n y i:Nat),Pd ops n y i=true→(∀ m∈oO ops i,listed.getD m false=true)→listed.getD y false=true
 | 0,y,i,h,_=>by simp[Pd]at h
 | n+1,y,i,h,hi=>by
  simp only[Pd,List.any_eq_true,Bool.or_eq_true,beq_iff_eq]at h;obtain⟨m,hm,h⟩:=h;rcases h with rfl | h
  ·exact hi m hm
  ·exact uS hd n y m h (hd m (hi m hm))
theorem B6 {ops:Array Oper} {listed:Array Bool} {i:Nat} (hi:i∈Region.ready .any ops listed):i<ops.size∧listed.getD i true=false∧∀ m∈oO ops i,listed.getD m false=true:=by
 unfold Region.ready at hi;simp only[List.mem_filter,List.mem_range,Bool.and_eq_true,Bool.not_eq_true']at hi;obtain⟨h1,h2,h3⟩:=hi;refine⟨h1,h2,fun m hm=>?_⟩;simp only[oO,Vd,Array.getElem?_eq_getElem h1,Option.map_some,Option.getD_some,List.mem_filterMap]at hm h3;obtain⟨ed,hed,hm⟩:=hm;split at hm
 ·rename_i hb
  simp only[Option.some.injEq]at hm;subst hm;have:=(Array.all_eq_true_iff_forall_mem.1 h3) ed (by simpa using hed);simpa[hb] using this
 ·cases hm
theorem PE {ops:Array Oper} {listed:Array Bool} {i:Nat} (h1:i<ops.size) (h2:listed.getD i true=false) (h3:∀ m∈oO ops i,listed.getD m false=true):i∈Region.ready .any ops listed:=by
 unfold Region.ready;simp only[List.mem_filter,List.mem_range,Bool.and_eq_true,Bool.not_eq_true'];refine⟨h1,h2,?_⟩;simp only[Array.getElem?_eq_getElem h1,Option.map_some,Option.getD_some];rw[Array.all_eq_true_iff_forall_mem];intro ed hed;cases hb:Region.binds .any ed with
 | false=>simp
 | true =>
  have:=h3 ed.on (by
   simp only[oO,Vd,Array.getElem?_eq_getElem h1,Option.map_some,Option.getD_some,List.mem_filterMap];exact⟨ed,by simpa using hed,by simp[hb]⟩)
  simpa using this
def rest (n:Nat) (listed:Array Bool):List Nat:=(List.range n).filter fun i=>!listed.getD i true
theorem Jg {n:Nat} {listed:Array Bool} {i:Nat} (hi:i<n) (hl:listed.getD i true=false) (hs:listed.size=n):∃ l1 l2,rest n listed=l1++i::l2∧(∀ y∈l1,y<i∧listed.getD y true=false)∧rest n (listed.setIfInBounds i true)=l1++l2:=by
 have hr:List.range n=List.range i++i::(List.range' (i+1) (n-(i+1))):=by
  rw[List.range_eq_range',List.range_eq_range',show n=i+((n-(i+1))+1) by omega,←List.range'_append];simp[List.range'_succ];omega
 refine⟨(List.range i).filter fun j=>!listed.getD j true,(List.range' (i+1) (n-(i+1))).filter fun j=>!listed.getD j true,?_,?_,?_⟩
 ·unfold rest
  rw[hr,List.filter_append,List.filter_cons,if_pos (by simp[hl])]
 ·intro y hy
  simp only[List.mem_filter,List.mem_range,Bool.not_eq_true']at hy;exact hy
 ·have hne:∀ j,j≠i→(listed.setIfInBounds i true).getD j true=listed.getD j true:=by
   intro j hj;simp[Array.getD_eq_getD_getElem?,Array.getElem?_setIfInBounds,Ne.symm hj]
  unfold rest;rw[hr,List.filter_append,List.filter_cons,if_neg (by simp[Array.getD_eq_getD_getElem?,hs,hi])];congr 1
  ·apply List.filter_congr
   intro j hj;rw[hne j (by simp at hj;omega)]
  ·apply List.filter_congr
   intro j hj;rw[hne j (by simp[List.mem_range']at hj;omega)]
theorem PF {dn:Nat} (hgl:dR gl N0 w0) {nt:Nat} {ops:Array Oper} {aops:List cq} (hmade:∀ (j:Nat) (o:Oper),ops[j]?=some o→∃ ao,aops[j]?=some ao∧Made P gl nt ops o ao) (hlen:aops.length=ops.size) {draw:Bool} (hdraw:I0 dn draw ops aops=true) {orc:iG} {base:Nat}
  (horc:gF N0 P w0 base orc) (horcq:gF N0 P w0 base (gv orc)) (hgrow:∀ h f vs r,base≤size h→orc f vs h=some r→bC base h r.2) {Q:Exit→Act→World→Prop} {e9:Env} {h':Hp} :
  ∀ (fuel:Nat) (listed:Array Bool) (g:G) (e:Env) (a:Act) (h:Hp) (w:World),listed.size=ops.size→Down ops listed→(rest ops.size listed).length≤fuel →
  Ok (N0:=N0) w0 g e a.tmps h w→nt≤a.tmps.size→a.defers=ds→base≤size h →
  (∃ e',qw e9 e'∧bU orc base draw ((rest ops.size listed).map fun i=>aops.getD i ⟨none,none,.alloc []⟩) e h=some (e',h')) →
  (∀ g' a' w' e',qw e9 e'→Ext N0 g w g' w'→Ok (N0:=N0) w0 g' e' a'.tmps h' w'→nt≤a'.tmps.size→a'.defers=ds→Q .normal a' w')→wpAny P .any ops Q fuel listed a w:=by
 simp only[I0,List.all_eq_true,List.mem_range,Bool.and_eq_true,decide_eq_true_eq]at hdraw
 -- where nothing is ready nothing is left
 have none_left:∀ listed:Array Bool,listed.size=ops.size→Region.ready .any ops listed=[]→rest ops.size listed=[]:=by
  intro listed hs hr;have:∀ i,i<ops.size→listed.getD i true=true:=by
   intro i
   induction i using Nat.strongRecOn with
   | _ i ih =>
    intro hi;cases hq:listed.getD i true with
    | true=>rfl
    | false =>
     have:i∈Region.ready .any ops listed:=PE hi hq fun m hm=>by
      have hlt:=(hdraw i (by omega)).1 m hm;have:=ih m hlt (by omega);have hms:m<listed.size:=by omega
      simpa[Array.getD_eq_getD_getElem?,hms] using this
     rw[hr]at this;cases this
  unfold rest;rw[List.filter_eq_nil_iff];intro i hi;simp only[List.mem_range]at hi;simp[this i hi]
 have done:∀ (listed:Array Bool) (g:G) (e:Env) (a:Act) (h:Hp) (w:World),listed.size=ops.size→Region.ready .any ops listed=[]→Ok (N0:=N0) w0 g e a.tmps h w→nt≤a.tmps.size→a.defers=ds →
   (∃ e',qw e9 e'∧bU orc base draw ((rest ops.size listed).map fun i=>aops.getD i ⟨none,none,.alloc []⟩) e h=some (e',h')) →
   (∀ g' a' w' e',qw e9 e'→Ext N0 g w g' w'→Ok (N0:=N0) w0 g' e' a'.tmps h' w'→nt≤a'.tmps.size→a'.defers=ds→Q .normal a' w')→Q .normal a w:=by
  rintro listed g e a h w hs hr k hsz hd ⟨e',he',hx⟩ hQ;rw[none_left listed hs hr]at hx;simp only[List.map_nil,bU,Option.some.injEq,Prod.mk.injEq]at hx;obtain⟨rfl,rfl⟩:=hx;exact hQ g a w e he' (Ext.refl _ _ _) k hsz hd
 intro fuel
 induction fuel with
 | zero =>
  intro listed g e a h w hs hdown hfuel k hsz hd hbs hx hQ;have hrest:rest ops.size listed=[]:=List.eq_nil_of_length_eq_zero (by omega);have hr:Region.ready .any ops listed=[]:=by
   cases hq:Region.ready .any ops listed with
   | nil=>rfl
   | cons i l =>
    obtain⟨h1,h2,_⟩:=B6 (ops:=ops) (listed:=listed) (i:=i) (by rw[hq];simp);have:i∈rest ops.size listed:=by
     unfold rest;rw[List.mem_filter];exact⟨List.mem_range.2 h1,by rw[h2];rfl⟩
    rw[hrest]at this;cases this
  exact⟨hr,done listed g e a h w hs hr k hsz hd hx hQ⟩
 | succ fuel ih =>
  intro listed g e a h w hs hdown hfuel k hsz hd hbs hx hQ;refine⟨fun hr=>done listed g e a h w hs hr k hsz hd hx hQ,fun i hi=>?_⟩;obtain⟨h1,h2,h3⟩:=B6 hi;obtain⟨l1,l2,r1,r2,r3⟩:=Jg h1 h2 hs;obtain⟨e',he',hx⟩:=hx;have hget:∀ j,j<ops.size→∃ ao,aops[j]?=some ao∧aops.getD j ⟨none,none,.alloc []⟩=ao:=by
   intro j hj;obtain⟨ao,q1,q2⟩:=hmade j ops[j] (by simp[hj]);exact⟨ao,q1,by rw[List.getD_eq_getElem?_getD,q1];rfl⟩
  have hrestlt:∀ j∈rest ops.size listed,j<ops.size:=by
   intro j hj;unfold rest at hj;simp at hj;exact hj.1
  rw[r1]at hx hrestlt;rw[List.map_append,List.map_cons]at hx;obtain⟨aoi,a1,a2⟩:=hget i h1;have hap:∀ y∈(l1.map fun i=>aops.getD i ⟨none,none,.alloc []⟩),zj draw y (aops.getD i ⟨none,none,.alloc []⟩)=true:=by
   intro y hy;simp only[List.mem_map]at hy;obtain⟨j,hj,rfl⟩:=hy;obtain⟨q1,q2⟩:=r2 j hj;have hp:=(hdraw i (by omega)).2 j q1;unfold IZ at hp;obtain⟨aoj,b1,b2⟩:=hget j (by omega);rw[b1,a1]at hp;simp only[Bool.or_eq_true]at hp;rw[b2,a2];rcases hp with hp | hp
   ·exact hp
   ·exfalso
    have:=uS hdown _ _ _ hp h3;have hjs:j<listed.size:=by omega
    simp[Array.getD_eq_getD_getElem?,hjs]at this q2;rw[this]at q2;cases q2
  obtain⟨e2,he2,hx2⟩:=zo _ hap hx;rw[eN,Option.aa]at hx2;obtain⟨⟨e3,h3'⟩,hx3,hx4⟩:=hx2;rw[a2]at hx3;have hio:ops[i]?=some ops[i]:=by simp[h1]
  obtain⟨ao',c1,hm⟩:=hmade i ops[i] hio;rw[a1]at c1;cases c1;refine K5 hgl k hio hm hsz hd horc horcq hbs hx3 fun g1 w1a w1 hx1 k1 hsz1 hd1=>?_
  have hg1:bC base h h3':=by
   have:=jH (draw:=draw) hgrow [aoi] e h hbs (e3,h3') (by rw[eN,hx3];rfl);exact this
  refine ih (listed.setIfInBounds i true) g1 e3 w1a h3' w1 (by simp[hs]) ?_ ?_ k1 hsz1 hd1 (Nat.le_trans hbs hg1.1) ⟨e2,he'.trans he2,?_⟩ fun g' a' w' e' q1 q2=>hQ g' a' w' e' q1 (hx1.trans q2)
  ·intro j hj m hm'
   by_cases hji:i=j
   ·subst hji
    have:=h3 m hm'
    by_cases hmi:i=m
    ·subst hmi;simp[Array.getD_eq_getD_getElem?,hs,h1]
    ·simpa[Array.getD_eq_getD_getElem?,Array.getElem?_setIfInBounds,hmi] using this
   ·have hj':listed.getD j false=true:=by simpa[Array.getD_eq_getD_getElem?,Array.getElem?_setIfInBounds,hji] using hj
    have:=hdown j hj' m hm'
    by_cases hmi:i=m
    ·subst hmi;simp[Array.getD_eq_getD_getElem?,hs,h1]
    ·simpa[Array.getD_eq_getD_getElem?,Array.getElem?_setIfInBounds,hmi] using this
  ·rw[r3]
   rw[r1]at hfuel;simp only[List.length_append,List.length_cons]at hfuel ⊢;omega
  ·rw[r3,List.map_append];exact hx4
end
end Go.Am
namespace Go.Am
open Go.RowKit (Below)
def nK (P:Program) (I:Nat→World→Prop) (f:Nat) (pg:List PV→Hp→Option (PV × Option (Nat × List PV))):Prop:=∀ vs h r,pg vs h=some r→∀ (N0:Nat) (w0:World) (g:G) (us:Array Value) (w:World),I N0 w0→ox N0 w0 g h w→us.size=vs.length →
 (∀ (j:Nat) (x:PV),vs[j]?=some x→RV N0 g w x (us.getD j Go.undef))→(callFunc f us).run P w=.ok (.enter f us) w ∧
  Calls P f us w fun en w'=>∃ u g',en=.returned u∧Ext N0 g w g' w'∧ox N0 w0 g' (OL h r.2) w'∧RV N0 g' w' r.1 u
def mo (P:Program) (I:Nat→World→Prop) (f:Nat) (pg:List PV→Hp→Option (PV × List gW)):Prop:=∀ vs h r,pg vs h=some r→∀ (N0:Nat) (w0:World) (g:G) (us:Array Value) (w:World),I N0 w0→ox N0 w0 g h w→us.size=vs.length →
 (∀ (j:Nat) (x:PV),vs[j]?=some x→RV N0 g w x (us.getD j Go.undef)) →
  Fv P f us w fun en w'=>∃ u g',en=.returned u∧Ext N0 g w g' w'∧ox N0 w0 g' (ext h r.2) w'∧RV N0 g' w' r.1 u
def p7 (P:Program) (gl:cR) (I:Nat→World→Prop) (T:Table):Prop:=∀ f it,T f=some it→match it with
 | .code fn=>∃ an fn0,P.funcs[f]?=some fn0∧bQ P gl an fn0=some fn
 | .oF pg=>nK P I f pg
 | .jo pg=>mo P I f pg
def VB:rR→Exit
 | .norm=>.normal
 | .exit i=>.exit i
 | .ret=>.ret
section
variable {N0:Nat} {P:Program} {w0:World}
theorem zM {g:G} {w:World} {v:PV} {u:Value} (h:RV N0 g w v u):below g.n v=true:=by
 induction h with
 | undef u hu=>rfl
 | bool b=>rfl
 | int k n=>rfl
 | str l s h=>rfl
 | bp=>rfl
 | eG t=>rfl
 | ptr b off h=>simpa[below] using h
 | ep cs off c o u hc hr hf ih=>simp only[below];exact jw ih
 | bg=>rfl
 | sl ow sz es c o cap u hl hfull hsz hc hr hf sp hsp htk ih =>
  simp only[below,Bool.and_eq_true];refine⟨?_,jw fun i e he=>?_⟩
  ·cases ow with
   | tok t=>simpa[Own.below] using (htk t rfl).1
   | _=>rfl
  have:∀ (j:Nat) (x:PV),e.cells[j]?=some x→below g.n x=true:=fun j x hx=>ih i j e x he hx
  cases e with
  | agg cs=>simp only[below];exact jw this
  | _=>exact this 0 _ rfl
 | bX f b off len sz cap h hl hfull=>simpa[below] using h
 | dJ=>rfl
 | iface t v u _ ih=>simpa[below] using ih
 | gP=>rfl
 | fn f cap us hs _ ih=>simp only[below];exact jw ih
 | agg cs us hs _ ih=>simp only[below];exact jw ih
 | cF cs us hs _ ih=>simp only[below];exact jw ih
 | it b h=>simpa[below] using h
 | gu=>rfl
 | eL b h=>simpa[below] using h
def acT (g:G) (h:Hp) (n:Nat) (kb:Option Nat) (c:Nat):Prop:=∃ b cs,n≤b∧kb≠some b∧ay h b=some cs∧g.ι b=c
def xX (w:World) (c:Nat):Nat:=match w.heap[c]? with
 | some (.cells arr _ _)=>arr.size
 | _=>0
open Classical in
noncomputable def aaT (g:G) (h:Hp) (w:World) (n:Nat) (kb:Option Nat) (c:Nat):Option Nat :=
 if acT g h n kb c then some (xX w c) else g.hw c
theorem M5 {g:G} {h:Hp} {w:World} (k:ox N0 w0 g h w) {n:Nat} {kb:Option Nat} {c m:Nat} (hm:g.hw c=some m):aaT g h w n kb c=some m:=by
 unfold aaT;rw[if_neg];exact hm;rintro⟨b,cs,_,_,hb,rfl⟩;rw[(k.cells hb).2.1]at hm;cases hm
theorem tJ {g:G} {h:Hp} {w:World} (k:ox N0 w0 g h w) {n:Nat} {kb:Option Nat} {b:Nat} {x:gW} (hb:bY h b=some x) (hn:b<n∨kb=some b) (hxd:x≠.dead:=by simp):aaT g h w n kb (blk g b x)=g.hw (blk g b x):=by
 unfold aaT;rw[if_neg];rintro⟨b',cs,h1,h2,h3,h4⟩;have:=k.inj b' b (.cells cs) x (bq h3) hb (by simp) hxd h4;subst this;rcases hn with hn | hn
 ·omega
 ·exact h2 hn
theorem Jh {g:G} {h:Hp} {w:World} {n:Nat} {kb:Option Nat} {b:Nat} {cs:List PV} (h1:n≤b) (h2:kb≠some b) (h3:ay h b=some cs):aaT g h w n kb (g.ι b)=some (xX w (g.ι b)):=by
 unfold aaT;rw[if_pos ⟨b,cs,h1,h2,h3,rfl⟩]
noncomputable def lI (g:G) (h:Hp) (w:World) (n:Nat) (kb:Option Nat):G:={ g with hw:=aaT g h w n kb }
theorem eH {g:G} {h:Hp} {w:World} (k:ox N0 w0 g h w) (n:Nat) (kb:Option Nat):Ext N0 g w (lI g h w n kb) w :=
 ⟨Nat.le_refl _,fun _ _=>rfl,fun c m hm=>⟨m,M5 k hm,Nat.le_refl _⟩,fun _ _ _ _ _=>rfl,fun _ _ _=>rfl,fun _ _=>⟨Nat.le_refl _,fun _=>rfl⟩,fun _ _=>rfl⟩
theorem qf {g g':G} {w w':World} (x:Ext N0 g w g' w') {n:Nat} (hn:g.n≤n):Ext N0 g w { g' with n:=n } w':=⟨hn,x.ι,x.hw,x.cell,x.old,x.tk,x.cp⟩
theorem B7 {g:G} {h:Hp} {w:World} (k:ox N0 w0 g h w) {n:Nat} {kb:Option Nat}:∀ c m,aaT g h w n kb c=some m→N0≤c∧c<w.heap.size:=by
 intro c m hm;unfold aaT at hm;split at hm
 ·rename_i hg
  obtain⟨b,cs,_,_,hb,rfl⟩:=hg;exact(k.box b _ (bq hb)).blk
 ·exact k.arr c m hm
theorem sx {g:G} {h1:Hp} {w:World} (k:ox N0 w0 g h1 w) {n:Nat} (hn:n≤size h1) (ri:X1 n h1):ox N0 w0 { lI g h1 w n none with n:=n } (bJ h1 n) w:=by
 have hget:∀ b x,bY (bJ h1 n) b=some x→b<n∧bY h1 b=some x:=by
  intro b x hx;have hb:b<n:=by
   rcases Nat.lt_or_ge b n with h' | h'
   ·exact h'
   ·rw[zu h']at hx;cases hx
  rw[mQ hb]at hx;exact⟨hb,hx⟩
 refine⟨by rw[lD hn],k.hN,k.below,fun b c x y hx hy hdx Ox he=>?_,fun b x hx=>?_,B7 k,fun t v hv=>by simp[look]at hv⟩
 ·exact k.inj b c x y (hget b x hx).2 (hget c y hy).2 hdx Ox (by cases x<;>cases y<;>exact he)
 ·obtain⟨hb,hx'⟩:=hget b x hx
  have hbx:=k.box b x hx'
  by_cases hxd:x=.dead
  ·subst hxd;exact hbx
  have hhw:=tJ k (n:=n) (kb:=none) hx' (.inl hb) hxd;cases x with
  | dead=>exact(hxd rfl).elim
  | cells cs =>
   obtain⟨q1,q2,arr,T,lo,hi,q3,q6,q4,q8,q5⟩:=hbx;refine⟨q1,hhw.trans q2,arr,T,lo,hi,q3,q6,q4,q8,fun j x hx2=>?_⟩;exact iY ((q5 j x hx2).mono (eH k n none)) (ri b _ hb hx' x (List.mem_of_getElem? hx2))
  | tok m T =>
   obtain⟨q1,q2,q3,q4,q5⟩:=hbx;exact⟨q1,q2,q3,hhw.trans q4,q5⟩
  | iter s p =>
   obtain⟨q1,q2,q3⟩:=hbx;exact⟨q1,hhw.trans q2,q3⟩
  | map es =>
   obtain⟨q1,q2,ea,cl,q3,q4,qs,q5⟩:=hbx;refine⟨q1,hhw.trans q2,ea,cl,q3,q4,qs,fun i x hx2=>?_⟩;obtain⟨y,y1,y2,y3,y4,y5⟩:=q5 i x hx2;have hmem:=List.mem_of_getElem? hx2;exact⟨y,y1,y2,y3,iY (y4.mono (eH k n none)) (ri b _ hb hx' _ (List.mem_flatMap.2 ⟨x,hmem,by simp⟩)),iY (y5.mono (eH k n none)) (ri b _ hb hx' _ (List.mem_flatMap.2 ⟨x,hmem,by simp⟩))⟩
theorem B8 {g:G} {h1:Hp} {w:World} (k:ox N0 w0 g h1 w) {n:Nat} (hn:n≤size h1) (ri:X1 n h1) {b:Nat} (hb:n≤b) {x:gW} (hx:bY h1 b=some x) (hxd:x≠.dead) (VC:∀ v∈vals x,Go.Am.below n v=true) :
  ox N0 w0 { lI g h1 w n (some b) with n:=n+1,ι:=fun i=>if i=n then g.ι b else g.ι i,tk:=fun i=>if i=n then g.tk b else g.tk i,cp:=fun i=>if i=n then g.cp b else g.cp i } (ext (bJ h1 n) [x]) w:=by
 have hst:size (bJ h1 n)=n:=lD hn;have hget:∀ c y,bY (ext (bJ h1 n) [x]) c=some y→(c<n∧bY h1 c=some y)∨(c=n∧y=x):=by
  intro c y hy
  by_cases hc:c<n
  ·rw[dP (by rw[hst];exact hc),mQ hc]at hy
   exact .inl ⟨hc,hy⟩
  ·right
   have hlt:=bw hy;rw[aW,hst]at hlt;simp only[List.length_singleton]at hlt;have Vk:c=n:=by omega
   subst Vk;rw[cK hst]at hy;cases hy;exact⟨rfl,rfl⟩
 let g':G:={ lI g h1 w n (some b) with n:=n+1,ι:=fun i=>if i=n then g.ι b else g.ι i,tk:=fun i=>if i=n then g.tk b else g.tk i,cp:=fun i=>if i=n then g.cp b else g.cp i }
 have hblk:∀ c y,c<n→blk g' c y=blk g c y:=by
  intro c y hc;have e1:g'.ι c=g.ι c:=by show(if c=n then _ else _)=_;rw[if_neg (by omega)]
  have e2:g'.tk c=g.tk c:=by show(if c=n then _ else _)=_;rw[if_neg (by omega)]
  cases y<;>simp only[blk,e1,e2]
 have Ux:blk g' n x=blk g b x:=by
  have e1:g'.ι n=g.ι b:=by show(if n=n then _ else _)=_;rw[if_pos rfl]
  have e2:g'.tk n=g.tk b:=by show(if n=n then _ else _)=_;rw[if_pos rfl]
  cases x<;>simp only[blk,e1,e2]
 have hrv:∀ (v:PV) (u:Value),RV N0 g w v u→Go.Am.below n v=true→RV N0 g' w v u:=by
  intro v u hv hbl;have h2:=iY (hv.mono (eH k n (some b))) hbl;have hxx:Ext N0 { lI g h1 w n (some b) with n:=n } w g' w:=by
   refine⟨Nat.le_succ n,fun c hc=>?_,fun c m hm=>⟨m,hm,Nat.le_refl _⟩,fun _ _ _ _ _=>rfl,fun _ _ _=>rfl,fun t ht=>?_,fun c hc=>?_⟩
   ·have hc':c<n:=hc
    show(if c=n then _ else _)=_;rw[if_neg (by omega)];rfl
   ·have ht':t<n:=ht
    have e2:g'.tk t=g.tk t:=by show(if t=n then _ else _)=_;rw[if_neg (by omega)]
    rw[e2];exact⟨Nat.le_refl _,fun _=>rfl⟩
   ·have hc':c<n:=hc
    show(if c=n then _ else _)=_;rw[if_neg (by omega)];rfl
  exact h2.mono hxx
 refine⟨by rw[aW,hst];rfl,k.hN,k.below,fun c d y z hy hz Ox R8 he=>?_,fun c y hy=>?_,B7 k,fun t v hv=>by simp[look]at hv⟩
 ·rcases hget c y hy with⟨h2,h3⟩ | ⟨h2,h3⟩
  ·rcases hget d z hz with⟨h4,h5⟩ | ⟨h4,h5⟩
   ·have he':blk g' c y=blk g' d z:=he
    rw[hblk c y h2,hblk d z h4]at he';exact k.inj c d y z h3 h5 Ox R8 he'
   ·subst h4;subst h5
    have he':blk g' c y=blk g' d z:=he;rw[hblk c y h2,Ux]at he';have:=k.inj c b y z h3 hx Ox R8 he';omega
  ·subst h2;subst h3
   rcases hget d z hz with⟨h4,h5⟩ | ⟨h4,h5⟩
   ·have he':blk g' c y=blk g' d z:=he
    rw[hblk d z h4,Ux]at he';have:=k.inj b d y z hx h5 Ox R8 he';omega
   ·exact h4.symm
 ·show iZ N0 g' w c y
  rcases hget c y hy with⟨h2,h3⟩ | ⟨h2,h3⟩
  ·have hbx:=k.box c y h3
   have e3:g'.cp c=g.cp c:=by show(if c=n then _ else _)=_;rw[if_neg (by omega)]
   have e1:g'.ι c=g.ι c:=by show(if c=n then _ else _)=_;rw[if_neg (by omega)]
   have e2:g'.tk c=g.tk c:=by show(if c=n then _ else _)=_;rw[if_neg (by omega)]
   by_cases hyd:y=.dead
   ·subst hyd;exact⟨by rw[e1];exact hbx.1,by rw[e1];exact hbx.2⟩
   have hhw:=tJ k (n:=n) (kb:=some b) h3 (.inl h2) hyd;cases y with
   | dead=>exact(hyd rfl).elim
   | cells cs =>
    obtain⟨q1,q2,arr,T,lo,hi,q3,q6,q4,q8,q5⟩:=hbx;refine⟨by rw[e1];exact q1,by rw[e1];exact hhw.trans q2,arr,T,lo,hi,by rw[e1];exact q3,q6,by rw[e3];exact q4,q8,fun j x hx2=>?_⟩;exact hrv _ _ (q5 j x hx2) (ri c _ h2 h3 x (List.mem_of_getElem? hx2))
   | tok m T =>
    simp only[iZ,e2];obtain⟨q1,q2,q3,q4,q5⟩:=hbx;exact⟨q1,q2,q3,hhw.trans q4,q5⟩
   | iter s p =>
    obtain⟨q1,q2,s',q3,q4⟩:=hbx;exact⟨by rw[e1];exact q1,by rw[e1];exact hhw.trans q2,s',q3,by rw[e1];exact q4⟩
   | map es =>
    obtain⟨q1,q2,ea,cl,q3,q4,qs,q5⟩:=hbx;refine⟨by rw[e1];exact q1,by rw[e1];exact hhw.trans q2,ea,cl,by rw[e1];exact q3,q4,qs,fun i x hx2=>?_⟩;obtain⟨y,y1,y2,y3,y4,y5⟩:=q5 i x hx2;have hmem:=List.mem_of_getElem? hx2;exact⟨y,y1,y2,y3,hrv _ _ y4 (ri c _ h2 h3 _ (List.mem_flatMap.2 ⟨x,hmem,by simp⟩)),hrv _ _ y5 (ri c _ h2 h3 _ (List.mem_flatMap.2 ⟨x,hmem,by simp⟩))⟩
  ·subst h2;subst h3
   have hbx:=k.box b y hx;have hhw:=tJ k (n:=c) (kb:=some b) hx (.inr rfl) hxd;have e3:g'.cp c=g.cp b:=by show(if c=c then _ else _)=_;rw[if_pos rfl]
   have e1:g'.ι c=g.ι b:=by show(if c=c then _ else _)=_;rw[if_pos rfl]
   have e2:g'.tk c=g.tk b:=by show(if c=c then _ else _)=_;rw[if_pos rfl]
   cases y with
   | dead=>exact(hxd rfl).elim
   | cells cs =>
    obtain⟨q1,q2,arr,T,lo,hi,q3,q6,q4,q8,q5⟩:=hbx;refine⟨by rw[e1];exact q1,by rw[e1];exact hhw.trans q2,arr,T,lo,hi,by rw[e1];exact q3,q6,by rw[e3];exact q4,q8,fun j x hx2=>?_⟩;exact hrv _ _ (q5 j x hx2) (VC x (List.mem_of_getElem? hx2))
   | tok m T =>
    simp only[iZ,e2];obtain⟨q1,q2,q3,q4,q5⟩:=hbx;exact⟨q1,q2,q3,hhw.trans q4,q5⟩
   | iter s p =>
    obtain⟨q1,q2,s',q3,q4⟩:=hbx;exact⟨by rw[e1];exact q1,by rw[e1];exact hhw.trans q2,s',q3,by rw[e1];exact q4⟩
   | map es =>
    obtain⟨q1,q2,ea,cl,q3,q4,qs,q5⟩:=hbx;refine⟨by rw[e1];exact q1,by rw[e1];exact hhw.trans q2,ea,cl,by rw[e1];exact q3,q4,qs,fun i x hx2=>?_⟩;obtain⟨y,y1,y2,y3,y4,y5⟩:=q5 i x hx2;have hmem:=List.mem_of_getElem? hx2;exact⟨y,y1,y2,y3,hrv _ _ y4 (VC _ (List.mem_flatMap.2 ⟨x,hmem,by simp⟩)),hrv _ _ y5 (VC _ (List.mem_flatMap.2 ⟨x,hmem,by simp⟩))⟩
theorem zN (sz:Nat):∀ (n:Nat) (cs:List PV),(chunks sz true n cs).length=n∧∀ (i:Nat) (x:PV),(chunks sz true n cs)[i]?=some x→i<n∧x=.agg ((cs.drop (i*sz)).take sz)
 | 0,cs=>⟨rfl,fun i x h=>by simp[chunks]at h⟩
 | n+1,cs=>by
  obtain⟨h1,h2⟩:=zN sz n (cs.drop sz);refine⟨by simp[chunks,h1],fun i x h=>?_⟩;cases i with
  | zero=>simp[chunks]at h;subst h;exact⟨by omega,by simp⟩
  | succ i =>
   simp only[chunks,List.getElem?_cons_succ]at h;obtain⟨q1,q2⟩:=h2 i x h;refine⟨by omega,?_⟩;rw[q2,List.drop_drop,Nat.succ_mul];congr 3;omega
theorem PG {g:G} {h:Hp} {w:World} (k:ox N0 w0 g h w) {n:Nat} {v:PV} {u:Value} (hr:RV N0 g w v u):∀ v',gY n h v=some v'→RV N0 (lI g h w n none) w v' u:=by
 have hx:=eH k n none;have many:∀ (cs:List PV) (us:Array Value),(∀ (j:Nat) (x:PV),cs[j]?=some x→∀ x',gY n h x=some x'→RV N0 (lI g h w n none) w x' (us.getD j Go.undef))→∀ cs',fN n h cs=some cs' →
   cs'.length=cs.length∧∀ (j:Nat) (x:PV),cs'[j]?=some x→RV N0 (lI g h w n none) w x (us.getD j Go.undef):=by
  intro cs us;have:∀ (cs:List PV) (o:Nat),(∀ (j:Nat) (x:PV),cs[j]?=some x→∀ x',gY n h x=some x'→RV N0 (lI g h w n none) w x' (us.getD (o+j) Go.undef))→∀ cs',fN n h cs=some cs' →
    cs'.length=cs.length∧∀ (j:Nat) (x:PV),cs'[j]?=some x→RV N0 (lI g h w n none) w x (us.getD (o+j) Go.undef):=by
   intro cs
   induction cs with
   | nil=>intro o _ cs' hc;simp only[fN,Option.some.injEq]at hc;subst hc;exact⟨rfl,fun j x hx=>by simp at hx⟩
   | cons c cs ih =>
    intro o hj cs' hc;simp only[fN,Option.aa,Option.some.injEq]at hc;obtain⟨c',hc',cs2,acU,rfl⟩:=hc;obtain⟨l1,l2⟩:=ih (o+1) (fun j x hx x' hx'=>by rw[show o+1+j=o+(j+1) by omega];exact hj (j+1) x (by simpa using hx) x' hx') cs2 acU;refine⟨by simp[l1],fun j x hx=>?_⟩;cases j with
    | zero=>simp at hx;subst hx;exact hj 0 c rfl _ hc'
    | succ j=>have:=l2 j x (by simpa using hx);rw[show o+(j+1)=o+1+j by omega];exact this
  intro hj cs' hc;have:=this cs 0 (fun j x hx=>by rw[Nat.zero_add];exact hj j x hx) cs' hc;exact⟨this.1,fun j x hx=>by have h2:=this.2 j x hx;rwa [Nat.zero_add]at h2⟩
 induction hr with
 | sl ow sz es c o cap uu q1 q2 q3 q4 q5 q6 sp q8 q9 ih =>
  intro v' hv;simp only[gY,Option.some.injEq]at hv;subst hv;exact iz ((RV.sl ow sz es c o cap uu q1 q2 q3 q4 q5 q6 sp q8 q9).mono hx)
 | bX f b off len sz cap hb hl hfull hcpb =>
  intro v' hv;simp only[gY]at hv;split at hv
  ·simp only[Option.some.injEq]at hv
   subst hv;exact(RV.bX f b off len sz cap hb hl hfull hcpb).mono hx
  ·rename_i hge
   simp only[Option.aa,Option.some.injEq]at hv;obtain⟨cs,hcs,es,hes,rfl⟩:=hv;obtain⟨r1,r2,arr,T,lo,hi,r3,r6,⟨r4,_⟩,r8,r5⟩:=k.cells hcs;have Uy:=Jh (g:=g) (w:=w) (kb:=none) (show n≤b by omega) (by simp) hcs;have hbs:xX w (g.ι b)=arr.size:=by simp[xX,r3]
   rw[hbs]at Uy;have fin:∀ (es:List PV),es.length=len→(∀ (i:Nat) (e:PV),es[i]?=some e→e.cells.length=sz)→(∀ (i j:Nat) (e x:PV),es[i]?=some e→e.cells[j]?=some x→∃ y,cs[off+(i*sz+j)]?=some y∧x=strip y) →
     (es≠[]→off+len*sz≤cs.length)→RV N0 (lI g h w n none) w (.sl (if f then .full else .no) sz es) (.slice (some ⟨g.ι b,off,none⟩) len cap):=by
    intro es e1 e2 e3 e4;have:=RV.sl (N0:=N0) (g:=lI g h w n none) (w:=w) (if f then .full else .no) sz es (g.ι b) off cap (fun i j=>arr.getD (off+(i*sz+j)) Go.undef) (by omega) (fun hf=>by
     cases f with
     | true=>rw[e1];exact hfull rfl
     | false=>simp at hf) e2 (fun i j hi hj=>by
     have hne:es≠[]:=by rintro rfl;simp at hi
     have hlt:=fH (show i<len by omega) hj;have:=e4 hne;have hq:off+(i*sz+j)<arr.size:=by omega
     simp[World.cell?,r3,Array.getD_eq_getD_getElem?,hq]) (fun i j e x he hx2=>by
     obtain⟨y,hy,rfl⟩:=e3 i j e x he hx2;exact iz ((r5 _ y hy).mono hx)) (fun hne=>.inr ⟨arr.size,Uy,by have:=e4 hne;rw[e1];omega⟩) none (fun _=>rfl) (by intro t ht;split at ht<;>cases ht)
    rw[e1]at this;exact this
   unfold rP at hes;split at hes
   ·rename_i h1
    subst h1;split at hes
    ·rename_i hcond
     obtain⟨c1,c2⟩:=hcond;simp only[Option.some.injEq]at hes;subst hes;simp only[List.length_drop]at c1;have hg:∀ (i:Nat) (e:PV),(aO ((cs.drop off).take len))[i]?=some e→i<len∧∃ y,cs[off+i]?=some y∧e=strip y∧scalar y=true:=by
      intro i e he;rw[jy,Option.map_eq_some_iff]at he;obtain⟨y,hy,rfl⟩:=he;have hmem:=List.mem_of_getElem? hy;have hi:i<len:=by have:=(List.getElem?_eq_some_iff.1 hy).1;simp at this;omega
      rw[List.getElem?_take,if_pos hi,List.getElem?_drop]at hy;exact⟨hi,y,hy,rfl,List.all_eq_true.1 c2 y hmem⟩
     refine fin _ (by rw[aan];simp;omega) (fun i e he=>?_) (fun i j e x he hx2=>?_) (fun hne=>?_)
     ·obtain⟨_,y,_,rfl,hs⟩:=hg i e he
      rw[uF,dW hs];rfl
     ·obtain⟨_,y,hy,rfl,hs⟩:=hg i e he
      rw[dW (by rw[aaP];exact hs)]at hx2;cases j with
      | zero=>simp at hx2;subst hx2;exact⟨y,by simpa using hy,rfl⟩
      | succ j=>simp at hx2
     ·have:len≠0:=by rintro rfl;exact hne (by simp[aO])
      omega
    ·cases hes
   ·rename_i h1
    split at hes
    ·rename_i hle
     obtain⟨hs0,hle⟩:=hle;simp only[Option.some.injEq]at hes;subst hes;rw[List.length_drop]at hle;obtain⟨g1,g2⟩:=zN sz len (aO (cs.drop off));have hlen:∀ i,i<len→(((aO (cs.drop off)).drop (i*sz)).take sz).length=sz:=by
      intro i hi;have:=Nat.mul_le_mul_right sz hi;rw[Nat.succ_mul]at this;simp[aan];omega
     refine fin _ g1 (fun i e he=>?_) (fun i j e x he hx2=>?_) (fun hne=>?_)
     ·obtain⟨hi,rfl⟩:=g2 i e he
      exact hlen i hi
     ·obtain⟨hi,rfl⟩:=g2 i e he
      simp only[PV.cells]at hx2;have hj:j<sz:=by have:=(List.getElem?_eq_some_iff.1 hx2).1;rw[hlen i hi]at this;exact this
      rw[List.getElem?_take,if_pos hj,List.getElem?_drop,jy,Option.map_eq_some_iff]at hx2;obtain⟨y,hy,rfl⟩:=hx2;rw[List.getElem?_drop]at hy;exact⟨y,hy,rfl⟩
     ·by_cases h0:len=0
      ·exfalso;apply hne;exact List.eq_nil_of_length_eq_zero (by rw[g1];exact h0)
      ·have:0<len*sz:=Nat.mul_pos (by omega) (by omega)
       omega
    ·cases hes
 | agg cs us hs hr ih =>
  intro v' hv;simp only[gY,Option.aa,Option.some.injEq]at hv;obtain⟨cs',VD,rfl⟩:=hv;obtain⟨l1,l2⟩:=many cs us ih cs' VD;exact .agg cs' us (by omega) l2
 | cF cs us hs hr ih =>
  intro v' hv;simp only[gY,Option.aa,Option.some.injEq]at hv;obtain⟨cs',VD,rfl⟩:=hv;obtain⟨l1,l2⟩:=many cs us ih cs' VD;exact .cF cs' us (by omega) l2
 | iface t v u h ih =>
  intro v' hv;simp only[gY,Option.aa,Option.some.injEq]at hv;obtain⟨x,hx',rfl⟩:=hv;exact .iface t x u (ih x hx')
 | undef u hu=>intro v' hv;simp only[gY,Option.some.injEq]at hv;subst hv;exact .undef u hu
 | bool b=>intro v' hv;simp only[gY,Option.some.injEq]at hv;subst hv;exact .bool b
 | int k n=>intro v' hv;simp only[gY,Option.some.injEq]at hv;subst hv;exact .int k n
 | str l s h=>intro v' hv;simp only[gY,Option.some.injEq]at hv;subst hv;exact .str l s h
 | bp=>intro v' hv;simp only[gY,Option.some.injEq]at hv;subst hv;exact .bp
 | eG t=>intro v' hv;simp only[gY,Option.some.injEq]at hv;subst hv;exact .eG t
 | ptr b off h=>intro v' hv;simp only[gY,Option.some.injEq]at hv;subst hv;exact(RV.ptr b off h).mono hx
 | ep cs off c o u hc hr hf ih=>intro v' hv;simp only[gY,Option.some.injEq]at hv;subst hv;exact(RV.ep cs off c o u hc hr hf).mono hx
 | bg=>intro v' hv;simp only[gY,Option.some.injEq]at hv;subst hv;exact .bg
 | dJ=>intro v' hv;simp only[gY,Option.some.injEq]at hv;subst hv;exact .dJ
 | gP=>intro v' hv;simp only[gY,Option.some.injEq]at hv;subst hv;exact .gP
 | fn f cap us hs hr ih=>intro v' hv;simp only[gY,Option.some.injEq]at hv;subst hv;exact(RV.fn f cap us hs hr).mono hx
 | it b h=>intro v' hv;simp only[gY,Option.some.injEq]at hv;subst hv;exact(RV.it b h).mono hx
 | gu=>intro v' hv;simp only[gY,Option.some.injEq]at hv;subst hv;exact .gu
 | eL b h=>intro v' hv;simp only[gY,Option.some.injEq]at hv;subst hv;exact(RV.eL b h).mono hx
theorem PI {g:G} {h:Hp} {w:World} (k:ox N0 w0 g h w):X1 (size h) h:=by
 intro b y hb hy x hx;rw[←k.n];have hk:=k.box b y hy;cases y with
 | cells cs =>
  obtain⟨_,_,arr,T,lo,hi,_,_,_,_,q5⟩:=hk;obtain⟨j,hj⟩:=List.getElem?_of_mem (show x∈cs from hx);exact zM (q5 j x hj)
 | map es =>
  obtain⟨_,_,ea,cl,_,_,_,q5⟩:=hk;obtain⟨e,he,hxe⟩:=List.mem_flatMap.1 (show x∈es.flatMap fun e=>[e.1,e.2] from hx);obtain⟨i,hi⟩:=List.getElem?_of_mem he;obtain⟨z,_,_,_,r1,r2⟩:=q5 i e hi;simp only[List.mem_cons,List.not_mem_nil,or_false]at hxe;rcases hxe with rfl | rfl
  ·exact zM r1
  ·exact zM r2
 | tok n T=>cases hx
 | iter s p=>cases hx
 | dead=>cases hx
theorem uU:∀ (vs:List PV) (i t:Nat),look (params i vs) t=if i≤t then vs[t-i]? else none
 | [],i,t=>by simp[params,look]
 | v::vs,i,t=>by
  simp only[params,look,uU vs (i+1) t]
  by_cases h1:i=t
  ·subst h1;simp
  ·by_cases h2:i≤t
   ·rw[if_neg h1,if_pos (by omega),if_pos h2,show t-i=(t-(i+1))+1 by omega,List.getElem?_cons_succ]
   ·rw[if_neg h1,if_neg (by omega),if_neg h2]
def Dk (tm:Array Value):ResultVar→Sem Value
 | .tmp t=>pure (tm.getD t Go.undef)
 | .cell x t=>do loadVar t (←asAddr (tm.getD x Go.undef))
theorem M6 {g:G} {e:Env} {a:Act} {h:Hp} {w:World} (k:Ok (N0:=N0) w0 g e a.tmps h w) {rv:ResultVar} {rs:List (Nat × Option (Nat × Bool))} (hc:aay P [rv]=some rs) {vs:List PV} (hr:aam e h rs=some vs) :
  ∃ v u,vs=[v]∧(Dk a.tmps rv).run P w=.ok u w∧RV N0 g w v u:=by
 have fin:∀ v u,RV N0 g w v u→RV N0 g w v u:=fun v u hv=>hv
 cases rv with
 | tmp t =>
  simp only[aay,Option.map_some,Option.some.injEq]at hc;subst hc;simp only[aam,mO,Option.aa,Option.some.injEq]at hr;obtain⟨v,hv,_,rfl,rfl⟩:=hr;exact⟨_,_,rfl,rfl,fin _ _ (k.env t v hv)⟩
 | cell x t =>
  simp only[aay,Option.bind_eq_some_iff,Option.map_some]at hc;obtain⟨n,hn,gg,hg,hc⟩:=hc;split at hc
  ·rename_i hcond
   simp only[Option.some.injEq]at hc;subst hc;simp only[aam,mO,Option.aa,Option.some.injEq]at hr;obtain⟨r,⟨p,hp,hr⟩,_,rfl,rfl⟩:=hr;have hrp:=k.env x p hp;generalize hA:a.tmps.getD x Go.undef=A at hrp;cases hrp<;>simp only at hr<;>(try cases hr)
   rename_i b off hb;simp only[Option.aa]at hr;obtain⟨cs,hcs,hr⟩:=hr;obtain⟨u,h1,h2⟩:=si k hcs;obtain⟨v,X4,hv2⟩:=tG (P:=P) (o:=0) hn hg (c:=g.ι b) (cs:=cs) (u:=u) (off:=off) (fun j hj=>by rw[Nat.zero_add];exact h1 j hj) h2 (m:=n) (fun _=>rfl) hr;rw[Nat.zero_add]at X4;exact⟨_,v,rfl,by simp only[Dk,hA,asAddr,Sem.run_bind,Sem.run_pure,Result.andThen,X4],fin _ _ hv2⟩
  ·cases hc
theorem zO {g:G} {e:Env} {a:Act} {h:Hp} {w:World} (k:Ok (N0:=N0) w0 g e a.tmps h w):∀ (YL:List ResultVar) (rs:List (Nat × Option (Nat × Bool))) (vs:List PV),aay P YL=some rs→aam e h rs=some vs →
  ∃ us:List Value,(YL.mapM (Dk a.tmps)).run P w=.ok us w∧us.length=vs.length∧∀ (j:Nat) (x:PV),vs[j]?=some x→RV N0 g w x (us.getD j Go.undef)
 | [],rs,vs,hc,hr=>by
  simp[aay]at hc;subst hc;simp[aam]at hr;subst hr;exact⟨[],by simp,rfl,fun j x hx=>by simp at hx⟩
 | rv::YL,rs,vs,hc,hr=>by
  have hsplit:∃ r1 rs',aay P [rv]=some [r1]∧aay P YL=some rs'∧rs=r1::rs':=by
   cases rv with
   | tmp t =>
    simp only[aay,Option.map_eq_some_iff]at hc;obtain⟨rs',h1,rfl⟩:=hc;exact⟨(t,none),rs',rfl,h1,rfl⟩
   | cell x t =>
    simp only[aay,Option.bind_eq_some_iff]at hc;obtain⟨n,hn,gg,hg,hc⟩:=hc;split at hc
    ·rename_i hcond
     simp only[Option.map_eq_some_iff]at hc;obtain⟨rs',h1,rfl⟩:=hc;exact⟨(x,some (n,gg)),rs',by simp only[aay,hn,hg,Option.bind_some,if_pos hcond,Option.map_some],h1,rfl⟩
    ·cases hc
  obtain⟨r1,rs',hc1,hc2,rfl⟩:=hsplit;simp only[aam,Option.aa,Option.some.injEq]at hr;obtain⟨v,hv,vs',VE,rfl⟩:=hr;obtain⟨v',u,hv',hu,hru⟩:=M6 (P:=P) k hc1 (vs:=[v]) (by simp only[aam,hv,Option.ah]);simp only[List.cons.injEq,and_true]at hv';subst hv';obtain⟨us,h1,h2,h3⟩:=zO k YL rs' vs' hc2 VE;refine⟨u::us,?_,by simp[h2],fun j x hx=>?_⟩
  ·simp only[List.mapM_cons,Sem.run_bind]
   rw[hu];simp only[Result.andThen];rw[h1];simp only[Result.andThen,Sem.run_pure]
  ·cases j with
   | zero=>simp at hx;subst hx;simpa using hru
   | succ j=>simpa using h3 j x (by simpa using hx)
end
end Go.Am
namespace Go.Am
open Go.RowKit (Below)
section
variable {N0:Nat} {P:Program} {w0:World} {gl:cR}
def K7 (N0:Nat) (P:Program) (w0:World) (nt:Nat) (e:Env) (h:Hp) (x:rR) (e':Env) (h':Hp) (W:(Exit→Act→World→Prop)→Act→World→Prop):Prop :=
 ∀ ⦃ds:List Deferred⦄ (g:G) (a:Act) (w:World),Ok (N0:=N0) w0 g e a.tmps h w→nt≤a.tmps.size→a.defers=ds→∀ Q:Exit→Act→World→Prop,
  (∀ g' a' w',Ext N0 g w g' w'→Ok (N0:=N0) w0 g' e' a'.tmps h' w'→nt≤a'.tmps.size→a'.defers=ds→Q (VB x) a' w')→W Q a w
def VF (gl:cR) (N0:Nat) (P:Program) (w0:World) (T:Table) (n:Nat):Prop:=∀ (c:Code) (ac:cE) (an:De) (nt base:Nat) (kp:List Nat) (e:Env) (h:Hp) (x:rR) (e':Env) (h':Hp),
 gC P gl an nt c=some ac→exec T n (aal kp ac) base e h=some (x,e',h')→base≤size h→K7 N0 P w0 nt e h x e' h' fun Q=>c.wp P Q
def SZ (gl:cR) (N0:Nat) (P:Program) (w0:World) (T:Table) (n:Nat):Prop:=∀ (c:Code) (ac:cE) (an:De) (nt base:Nat) (kp:List Nat) (e:Env) (h:Hp) (x:rR) (e':Env) (h':Hp),
 gC P gl an nt c=some ac→exec T n (.loop (aal kp ac)) base e h=some (x,e',h')→base≤size h→K7 N0 P w0 nt e h x e' h' fun Q=>Code.rounds P c Q n
theorem Fy {base:Nat} {orc:iG} (horc:gF N0 P w0 base orc):gF N0 P w0 base (gv orc):=by
 intro f vs h r h' hs hb g us w k hl hrel;simp only[gv,Option.aa]at hs;obtain⟨⟨r1,h1⟩,hs,hf⟩:=hs;have hc:=horc f vs h r1 h1 hs hb g us w k hl hrel;unfold forget at hf;split at hf
 ·rename_i hq
  simp only at hq;subst hq;cases hf;exact hc
 ·simp only[Option.aa]at hf
  obtain⟨v,hv,hf⟩:=hf;split at hf
  ·rename_i hcond
   obtain⟨hbl,hle,htr⟩:=hcond;cases hf;refine hc.mono fun en w' hen=>?_
   obtain⟨u,g',rfl,hx,hok,hr⟩:=hen;have ri:X1 (size h) h1:=by
    intro b cs hlt hcs;refine PI k b cs hlt ?_;rw[←htr,mQ hlt];exact hcs
   have hr2:=PG hok (n:=size h) hr _ hv;refine⟨u,{ lI g' h1 w' (size h) none with n:=size h },rfl,?_,?_,iY hr2 hbl⟩
   ·exact qf (hx.trans (eH hok (size h) none)) (by rw[k.n];exact Nat.le_refl _)
   ·have:=sx hok hle ri
    rw[htr]at this;exact this
  ·cases hf
theorem iL {T:Table} {n base:Nat} {kp:List Nat} {e:Env} {h:Hp} {x:rR × Env × Hp} (hs:exec T n (aal kp zg) base e h=some x):False:=by
 cases n with
 | zero=>simp[exec]at hs
 | succ n=>simp[zg,aal,exec,bU,wanted,step,Option.ah]at hs
theorem uX (hgl:dR gl N0 w0) {I:Nat→World→Prop} (hI:I N0 w0) {T:Table} (hT:p7 P gl I T) {n:Nat} (hF:∀ base,gF N0 P w0 base (call T n base)) {id:Nat} {ops:Array Oper} {draw:Bool} {ac:cE} {an:De} {nt base:Nat} {kp:List Nat} {e:Env} {h:Hp} {x:rR} {e':Env} {h':Hp}
  (hc:Df P gl an nt id ops draw=some ac) (hs:exec T (n+1) (aal kp ac) base e h=some (x,e',h')) (hb:base≤size h) :
  K7 N0 P w0 nt e h x e' h' fun Q=>(Code.region id ops draw).wp P Q:=by
 intro ds g a w k hsz hd Q hQ;simp only[Df,Option.bind_eq_some_iff]at hc;obtain⟨l,hl,hc⟩:=hc;obtain⟨h1,h2⟩:=B5 ops.toList 0 l hl;have hmade:∀ (j:Nat) (o:Oper),ops[j]?=some o→∃ ao,l[j]?=some ao∧Made P gl nt ops o ao:=fun j o ho=>h2 j o (by simpa using ho)
 have hlen:l.length=ops.size:=by rw[h1];simp
 have PJ:∀ (j:Nat) (o:Oper),ops[j]?=some o→∃ ao,(zh an id ops 0 l)[j]?=some ao∧Made P gl nt ops o ao:=by
  intro j o ho;obtain⟨ao,q1,q2⟩:=hmade j o ho;obtain⟨y,q3,q4⟩:=(zK (an:=an) (id:=id) (ops:=ops) l 0).2 j ao q1;exact⟨y,q3,zL q2 q4⟩
 have hlen':(zh an id ops 0 l).length=ops.size:=by rw[(zK l 0).1];exact hlen
 replace hmade:=PJ
 replace hlen:=hlen'
 clear PJ hlen' h1 h2 hl;unfold drawn at hc;generalize zh an id ops 0 l=l at *;have hgrow:∀ h f vs r,base≤size h→call T n base f vs h=some r→bC base h r.2:=fun h f vs r hb hr=>(tF n).2 base f vs h hb r hr
 have hall:(List.range ops.size).map (fun i=>l.getD i ⟨none,none,.alloc []⟩)=l:=by
  apply List.ext_getElem?;intro j
  by_cases hj:j<ops.size
  ·have hj':j<l.length:=by omega
   simp[hj,hj',List.getD_eq_getElem?_getD]
  ·simp[hj];omega
 have run:∀ (dr:Bool),exec T (n+1) (.ops l dr kp) base e h=some (x,e',h')→∃ e1,bU (call T n base) base dr l e h=some (e1,h')∧x=.norm∧e'=prune kp e1:=by
  intro dr hx;rw[exec]at hx;simp only[Option.aa,Option.some.injEq,Prod.mk.injEq]at hx;obtain⟨⟨e1,h1⟩,q1,rfl,rfl,rfl⟩:=hx;exact⟨e1,q1,rfl,rfl⟩
 have M7:∀ (e1 e2:Env),qw e1 e2→∀ ts,prune ts e1=prune ts e2:=by
  intro e1 e2 he ts
  induction ts with
  | nil=>rfl
  | cons t ts ih=>simp only[prune,he t,ih]
 cases draw with
 | false =>
  simp only[Bool.false_eq_true,if_false,Option.some.injEq]at hc;subst hc;obtain⟨e1,q1,rfl,rfl⟩:=run false hs;refine wp_region (K6 hgl hmade (hF base) (Fy (hF base)) hgrow (List.range ops.size) g e a h w (fun i hi=>List.mem_range.1 hi) hlen k hsz hd hb (by rw[hall];exact q1) fun g' a' w' hx hk hs' hd'=>?_);exact hQ g' a' w' hx (hk.sub (fun t v hv=>iJ kp e1 t v hv)) hs' hd'
 | true =>
  simp only[if_true]at hc;split at hc
  ·rename_i acV
   split at hc
   ·rename_i hdr
    simp only[Option.some.injEq]at hc;subst hc;have Ji:=M4 (an:=an) (id:=id) hmade;have Uz:(qU an id l).length=ops.size:=by rw[Ji.1];exact hlen
    replace hmade:=Ji.2
    replace hlen:=Uz
    clear Ji Uz hall run;generalize qU an id l=l at *;obtain⟨hl1,hl2⟩:=uR (dn:=an.deep) (ops:=ops) (l:=l) l 0;have Jj:∀ (j:Nat) (o:Oper),ops[j]?=some o→∃ ao,(kF an.deep ops l 0 l)[j]?=some ao∧Made P gl nt ops o ao:=by
     intro j o ho;obtain⟨ao,q1,q2⟩:=hmade j o ho;obtain⟨y,q3,q4⟩:=hl2 j ao q1;exact⟨y,q3,zL q2 q4⟩
    have Jk:=Je (an:=an) (id:=id) Jj;have hlen2:(pV an id (kF an.deep ops l 0 l)).length=ops.size:=by rw[Jk.1,hl1];exact hlen
    replace Jj:=Jk.2
    clear Jk hl2 hl1;generalize pV an id (kF an.deep ops l 0 l)=l2 at *;have hall2:(List.range ops.size).map (fun i=>l2.getD i ⟨none,none,.alloc []⟩)=l2:=by
     apply List.ext_getElem?;intro j
     by_cases hj:j<ops.size
     ·have hj':j<l2.length:=by omega
      simp[hj,hj',List.getD_eq_getElem?_getD]
     ·simp[hj];omega
    rw[aal,exec]at hs;simp only[Option.aa,Option.some.injEq,Prod.mk.injEq]at hs;obtain⟨⟨e1,h1⟩,q1,rfl,rfl,rfl⟩:=hs;refine wp_region_any acV ?_;have hrest:rest ops.size (Array.replicate ops.size false)=List.range ops.size:=by
     unfold rest;rw[List.filter_eq_self];intro i hi;simp at hi;simp[Array.getD_eq_getD_getElem?,hi]
    have kd:Ok (N0:=N0) w0 g e a.tmps h w.drew:=SO k;refine PF hgl Jj hlen2 hdr (hF base) (Fy (hF base)) hgrow (e9:=e1) ops.size (Array.replicate ops.size false) g e a h w.drew (by simp) ?_ (by rw[hrest];simp) kd hsz hd hb ⟨e1,qw.refl _,by rw[hrest,hall2];exact q1⟩ fun g' a' w' e2 he2 hx hk hs' hd'=>?_
    ·intro i hi m hm
     exfalso
     by_cases hlt:i<ops.size
     ·simp[Array.getD_eq_getD_getElem?,hlt]at hi
     ·simp[Array.getD_eq_getD_getElem?,hlt]at hi
    ·refine hQ g' a' w' ((Fo g w).trans hx) ?_ hs' hd'
     rw[M7 e1 e2 he2];exact hk.sub (fun t v hv=>iJ kp e2 t v hv)
   ·simp only[Option.some.injEq]at hc;subst hc;exact(iL hs).elim
  ·simp only[Option.some.injEq]at hc;subst hc;exact(iL hs).elim
theorem VG {g:G} {e:Env} {a:Act} {h:Hp} {w:World} (k:Ok (N0:=N0) w0 g e a.tmps h w) {f:Bool} {b off len:Nat} {cs:List PV} {t:Nat} (hl:look e t=some (.bX f b off len 1)) (hb:ay h b=some cs) (hle:off+len≤cs.length) (hsc:cs.all scalar=true) :
  ∃ g',Ext N0 g w g' w∧Ok (N0:=N0) w0 g' ((t,.sl .no 1 ((cs.drop off).take len))::e) a.tmps (aC h b .dead) w:=by
 obtain⟨q1,q2,arr,T,lo,hi,q3,q6,q4,q8,q5⟩:=k.cells hb;have hbx:=bq hb
 let g':G:={ g with hw:=fun c=>if c=g.ι b then some cs.length else g.hw c }
 have hw':∀ c,c≠g.ι b→g'.hw c=g.hw c:=fun c hc=>if_neg hc
 have hx:Ext N0 g w g' w:=by
  refine⟨Nat.le_refl _,fun _ _=>rfl,fun c m hm=>?_,fun _ _ _ _ _=>rfl,fun _ _ _=>rfl,fun t ht=>⟨Nat.le_refl _,fun _=>rfl⟩,fun _ _=>rfl⟩;have hc:c≠g.ι b:=fun hq=>by rw[hq,q2]at hm;cases hm
  exact⟨m,by rw[hw' c hc];exact hm,Nat.le_refl _⟩
 have hsz:g.ι b<w.heap.size:=(Array.getElem?_eq_some_iff.1 q3).1;have k2:=gS (y:=.dead) k hbx hx rfl (Below.refl N0 w) (.inl rfl) (fun c _ hc=>⟨rfl,hw' c hc⟩) (fun _ _=>rfl) ⟨q1,hsz⟩ (fun c m hm=>by
  by_cases hc:c=g.ι b
  ·subst hc;exact⟨q1,hsz⟩
  ·rw[hw' c hc]at hm;exact k.arr c m hm)
 refine⟨g',hx,{ k2 with env:=fun s v hv=>?_ }⟩;simp only[look]at hv;split at hv
 ·rename_i hst
  subst hst;simp only[Option.some.injEq]at hv;subst hv;have h1:=k2.env _ _ hl;generalize a.tmps.getD _ Go.undef=A at h1;cases h1;rename_i cap c1 c2 c3 c4;have hlen:((cs.drop off).take len).length=len:=by rw[List.length_take,List.length_drop];omega
  have hget:∀ (i:Nat) (x:PV),((cs.drop off).take len)[i]?=some x→i<len∧cs[off+i]?=some x:=by
   intro i x hi;have hil:i<len:=by rw[←hlen];exact(List.getElem?_eq_some_iff.1 hi).1
   rw[List.getElem?_take_of_lt hil,List.getElem?_drop]at hi;exact⟨hil,hi⟩
  have hone:∀ x:PV,x∈cs→x.cells=[x]:=fun x hx=>by
   have:=List.all_eq_true.1 hsc x hx;cases x<;>simp[scalar]at this<;>rfl
  have key:RV N0 g' w (.sl .no 1 ((cs.drop off).take len)) (.slice (some ⟨g'.ι b,off,none⟩) ((cs.drop off).take len).length cap):=by
   refine .sl _ _ _ _ _ _ (fun i j=>arr.getD (off+i+j) Go.undef) (by rw[hlen];exact c2) (by simp) ?_ ?_ ?_ ?_ none (fun _=>rfl) (by simp)
   ·intro i x hi
    obtain⟨_,h2⟩:=hget i x hi;rw[hone x (List.mem_of_getElem? h2)];rfl
   ·intro i j hi hj
    rw[hlen]at hi;have hj0:j=0:=by omega
    subst hj0;have hlt:off+i<arr.size:=by omega
    show w.cell? ⟨g.ι b,off+(i*1+0),none⟩=_;rw[show off+(i*1+0)=off+i by omega,show off+i+0=off+i by omega];simp only[World.cell?,q3];simp[Array.getD_eq_getD_getElem?,hlt]
   ·intro i j x y hi hj
    obtain⟨_,h2⟩:=hget i x hi;rw[hone x (List.mem_of_getElem? h2)]at hj;have hj0:j=0:=by
     cases j with
     | zero=>rfl
     | succ j=>simp at hj
    subst hj0;simp at hj;subst hj;exact(q5 (off+i) x h2).mono hx
   ·intro _
    right;refine⟨cs.length,if_pos rfl,?_⟩;rw[hlen];omega
  rw[hlen]at key;exact key
 ·exact k2.env s v hv
theorem Jl (hgl:dR gl N0 w0) {I:Nat→World→Prop} (hI:I N0 w0) {T:Table} (hT:p7 P gl I T) {n:Nat} (hF:∀ base,gF N0 P w0 base (call T n base)) {id:Nat} {ops:Array Oper} {draw:Bool} {ac:cE} {an:De} {nt base:Nat} {kp:List Nat} {e:Env} {h:Hp} {x:rR} {e':Env} {h':Hp}
  (hc:gC P gl an nt (.region id ops draw)=some ac) (hs:exec T (n+1) (aal kp ac) base e h=some (x,e',h')) (hb:base≤size h) :
  K7 N0 P w0 nt e h x e' h' fun Q=>(Code.region id ops draw).wp P Q:=by
 simp only[gC,Option.map_eq_some_iff]at hc;obtain⟨ac0,hc,rfl⟩:=hc;unfold fixed at hs;split at hs
 ·exact uX hgl hI hT hF hc hs hb
 ·rename_i t _
  cases n with
  | zero=>simp[aal,exec,Option.ah]at hs
  | succ m =>
   simp only[aal,exec,Option.aa]at hs;obtain⟨⟨x1,e1,h1⟩,⟨⟨e2,h2⟩,PK,hq⟩,hs⟩:=hs;simp only[Option.some.injEq,Prod.mk.injEq]at hq;obtain⟨rfl,rfl,rfl⟩:=hq;simp only at hs;have HI:∀ base,gF N0 P w0 base (call T m base):=fun base f vs h r h' hs=>hF base f vs h r h' ((KT T m).2 _ _ _ _ _ hs)
   simp only[bU,wanted,Option.ag,if_true,Option.aa]at PK;obtain⟨⟨v,e3,h3⟩,hst,PK⟩:=PK;simp only[Option.some.injEq,Prod.mk.injEq]at PK;obtain⟨rfl,rfl⟩:=PK;simp only[step,nA,ev,Option.aa,Option.some.injEq,Prod.mk.injEq]at hst;obtain⟨vs,⟨p,hp,_,rfl,rfl⟩,r,hr,rfl,rfl,rfl⟩:=hst;intro ds g a w k hsz hd Q hQ;have main:∃ g',Ext N0 g w g' w∧Ok (N0:=N0) w0 g' (dI e (some t) r.1) a.tmps r.2 w∧size h≤size r.2:=by
    simp only[cV]at hr;split at hr
    ·simp only[Option.aa]at hr
     obtain⟨cs,hcs,hr⟩:=hr;split at hr
     ·rename_i hcond
      obtain⟨_,hs1,hle,hsc⟩:=hcond;subst hs1;simp only[Option.some.injEq]at hr;subst hr;obtain⟨g',hx,hk⟩:=VG k hp hcs hle hsc;exact⟨g',hx,hk,by rw[aJ];exact Nat.le_refl _⟩
     ·cases hr
    ·simp only[Option.some.injEq]at hr
     subst hr;refine⟨g,Ext.refl _ _ _,{ k with env:=fun s v hv=>?_ },Nat.le_refl _⟩;simp only[dI,look]at hv;split at hv
     ·rename_i hst
      subst hst;simp only[Option.some.injEq]at hv;subst hv;exact k.env _ _ hp
     ·exact k.env s v hv
    ·cases hr
   obtain⟨g',hx,hk,hge⟩:=main;refine uX hgl hI hT HI hc hs (Nat.le_trans hb hge) g' a w (hk.sub (fun t v hv=>iJ kp _ t v hv)) hsz hd Q fun g2 a2 w2 hx2=>hQ g2 a2 w2 (hx.trans hx2)
theorem Fz {g g1:G} {h h1:Hp} {w w1:World} (k:ox N0 w0 g h w) (k1:ox N0 w0 g1 h1 w1) (hx:Ext N0 g w g1 w1) (n b:Nat) (hn:n=size h:=by rfl) :
  Ext N0 g w { lI g1 h1 w1 n (some b) with n:=n+1,ι:=fun i=>if i=n then g1.ι b else g1.ι i,tk:=fun i=>if i=n then g1.tk b else g1.tk i,cp:=fun i=>if i=n then g1.cp b else g1.cp i } w1:=by
 have hh:=hx.trans (eH k1 n (some b));have hgn:=k.n;refine⟨by show g.n≤n+1;omega,fun c hc=>?_,hh.hw,hh.cell,hh.old,fun t ht=>?_,fun c hc=>?_⟩
 ·show(if c=n then _ else _)=_
  rw[if_neg (by omega)];exact hx.ι c hc
 ·show(g.tk t).e≤(if t=n then _ else _:Tk).e∧((if t=n then _ else _:Tk).e=_→(if t=n then _ else _:Tk)=_)
  rw[if_neg (by omega)];exact hx.tk t ht
 ·show(if c=n then _ else _)=_
  rw[if_neg (by omega)];exact hx.cp c hc
theorem zP {g1:G} {h1:Hp} {w1:World} (k1:ox N0 w0 g1 h1 w1) {n b:Nat} {v:PV} {u:Value} (hr:RV N0 g1 w1 v u) (hb:below n v=true) :
  RV N0 { lI g1 h1 w1 n (some b) with n:=n+1,ι:=fun i=>if i=n then g1.ι b else g1.ι i,tk:=fun i=>if i=n then g1.tk b else g1.tk i,cp:=fun i=>if i=n then g1.cp b else g1.cp i } w1 v u:=by
 have h2:=iY (hr.mono (eH k1 n (some b))) hb;have hxx:Ext N0 { lI g1 h1 w1 n (some b) with n:=n } w1 { lI g1 h1 w1 n (some b) with n:=n+1,ι:=fun i=>if i=n then g1.ι b else g1.ι i,tk:=fun i=>if i=n then g1.tk b else g1.tk i,cp:=fun i=>if i=n then g1.cp b else g1.cp i } w1:=by
  refine⟨Nat.le_succ n,fun c hc=>?_,fun c m hm=>⟨m,hm,Nat.le_refl _⟩,fun _ _ _ _ _=>rfl,fun _ _ _=>rfl,fun t ht=>?_,fun c hc=>?_⟩
  ·have hc':c<n:=hc
   show(if c=n then _ else _)=_;rw[if_neg (by omega)];rfl
  ·have ht':t<n:=ht
   show(g1.tk t).e≤(if t=n then _ else _:Tk).e∧((if t=n then _ else _:Tk).e=_→(if t=n then _ else _:Tk)=_);rw[if_neg (by omega)];exact⟨Nat.le_refl _,fun _=>rfl⟩
  ·have hc':c<n:=hc
   show(if c=n then _ else _)=_;rw[if_neg (by omega)];rfl
 exact h2.mono hxx
theorem Dl {g1:G} {h1:Hp} {w1:World} (k1:ox N0 w0 g1 h1 w1) {n t:Nat} (hn:n≤t) {sz:Nat} {es:List PV} {u:Value} (hb:belows n es=true) (hr:RV N0 g1 w1 (.sl (.tok t) sz es) u) :
  RV N0 { lI g1 h1 w1 n (some t) with n:=n+1,ι:=fun i=>if i=n then g1.ι t else g1.ι i,tk:=fun i=>if i=n then g1.tk t else g1.tk i,cp:=fun i=>if i=n then g1.cp t else g1.cp i } w1 (.sl (.tok n) sz es) u:=by
 have hno:RV N0 g1 w1 (.sl .no sz es) u:=by have:=iz hr;simpa[strip,Own.strip] using this
 have h2:=zP (n:=n) (b:=t) k1 hno (by simp only[below,Own.below,Bool.true_and];exact hb);cases hr with
 | sl _ _ _ c o cap uu q1 q2 q3 q4 q5 q6 sp q8 q9 =>
  generalize hU:Value.slice (some ⟨c,o,sp⟩) es.length cap=U at h2;cases h2 with
  | sl _ _ _ c' o' cap' uu' p1 p2 p3 p4 p5 p6 sp' p8 p9 =>
   cases hU;refine .sl _ sz es c o cap uu' p1 (by simp) p3 p4 p5 p6 sp p8 fun t' ht'=>?_
   cases ht';obtain⟨r1,r2,r3⟩:=q9 t rfl;refine⟨Nat.lt_succ_self n,?_⟩;show es.length≤(if n=n then _ else _:Tk).e∧((if n=n then _ else _:Tk).e=_→(if n=n then _ else _:Tk)=_∧_);rw[if_pos rfl];exact⟨r2,r3⟩
theorem K8 {g:G} {h:Hp} {w:World} (k:ox N0 w0 g h w) {n:Nat}:∀ {vs:List PV} {us:List Value},(∀ (j:Nat) (x:PV),vs[j]?=some x→RV N0 g w x (us.getD j Go.undef))→∀ vs',fN n h vs=some vs' →
  vs'.length=vs.length∧∀ (j:Nat) (x:PV),vs'[j]?=some x→RV N0 (lI g h w n none) w x (us.getD j Go.undef)
 | [],us,hr,vs',hv=>by simp only[fN,Option.some.injEq]at hv;subst hv;exact⟨rfl,fun j x hx=>by simp at hx⟩
 | v::vs,us,hr,vs',hv=>by
  simp only[fN,Option.aa,Option.some.injEq]at hv;obtain⟨v',hv',vs2,acX,rfl⟩:=hv;obtain⟨l1,l2⟩:=K8 k (us:=us.drop 1) (fun j x hx=>by
   have:=hr (j+1) x (by simpa using hx);rw[List.getD_eq_getElem?_getD]at this ⊢;rwa [List.getElem?_drop,Nat.add_comm]) vs2 acX
  refine⟨by simp[l1],fun j x hx=>?_⟩;cases j with
  | zero=>simp at hx;subst hx;exact PG k (hr 0 v rfl) _ hv'
  | succ j =>
   have:=l2 j x (by simpa using hx);rw[List.getD_eq_getElem?_getD]at this ⊢;rwa [List.getElem?_drop,Nat.add_comm]at this
theorem jz {g:G} {w:World}:∀ {vs:List PV} {us:List Value},us.length=vs.length→(∀ (j:Nat) (x:PV),vs[j]?=some x→RV N0 g w x (us.getD j Go.undef))→RV N0 g w (fT vs) (if hs:us.toArray.size=1 then us.toArray[0] else .tuple us.toArray)
 | [],[],_,_=>.cF [] #[] rfl (fun j x hx=>by simp at hx)
 | [v],[u],_,h3=>by simpa[fT] using h3 0 v rfl
 | v::v'::vs,u::u'::us,h2,h3=>by
  rw[dif_neg (by simp)];refine .cF (v::v'::vs) (u::u'::us).toArray (by simpa using h2) fun j x hx=>?_
  simpa[List.getD_eq_getElem?_getD,Array.getD_eq_getD_getElem?] using h3 j x hx
 | [],u::us,h,_=>by simp at h
 | [v],[],h,_=>by simp at h
 | [v],u::u'::us,h,_=>by simp at h
 | v::v'::vs,[],h,_=>by simp at h
 | v::v'::vs,[u],h,_=>by simp at h
theorem Dm {g:G} {e:Env} {a:Act} {h:Hp} {w:World} (k:Ok (N0:=N0) w0 g e a.tmps h w) {fn:Func} {rs:List (Nat × Option (Nat × Bool))} {vs:List PV} (hc:aay P fn.results.toList=some rs) (hr:aam e h rs=some vs) :
  ∃ us:List Value,(results fn a.tmps).run P w=.ok (if hs:us.toArray.size=1 then us.toArray[0] else .tuple us.toArray) w∧us.length=vs.length∧∀ (j:Nat) (x:PV),vs[j]?=some x→RV N0 g w x (us.getD j Go.undef):=by
 obtain⟨us,h1,h2,h3⟩:=zO k fn.results.toList rs vs hc hr;refine⟨us,?_,h2,h3⟩;have hq:results fn a.tmps=(do let vs ←fn.results.mapM (Dk a.tmps);pure (if h:vs.size=1 then vs[0] else .tuple vs)):=rfl;rw[hq,Array.mapM_eq_mapM_toList];simp[h1]
theorem PL (hgl:dR gl N0 w0) {I:Nat→World→Prop} (hI:I N0 w0) {T:Table} (hT:p7 P gl I T) (n:Nat) (hC:VF gl N0 P w0 T n) (hL:SZ gl N0 P w0 T n) (hF:∀ base,gF N0 P w0 base (call T n base)) :
  VF gl N0 P w0 T (n+1)∧SZ gl N0 P w0 T (n+1)∧∀ base,gF N0 P w0 base (call T (n+1) base):=by
 have hgrow:=fun c base e h hb=>(tF (T:=T) n).1 c base e h hb
 have hL1:SZ gl N0 P w0 T (n+1):=by
  intro c ac an nt base kp e h x e' h' hc hs hb ds g a w k hsz hd Q hQ;rw[exec]at hs;simp only[Option.aa]at hs;obtain⟨⟨x1,e1,h1⟩,hs1,hs2⟩:=hs;have hg:=hgrow _ base e h hb _ hs1;show c.wp P (Exit.then (Code.rounds P c Q n) Q) a w;refine hC c ac an nt base kp e h x1 e1 h1 hc hs1 hb g a w k hsz hd _ fun g1 a1 w1 hx1 k1 hsz1 hd1=>?_
  cases x1 with
  | norm =>
   exact hL c ac an nt base kp e1 h1 x e' h' hc hs2 (Nat.le_trans hb hg.1) g1 a1 w1 k1 hsz1 hd1 Q fun g' a' w' hx'=>hQ g' a' w' (hx1.trans hx')
  | exit i =>
   simp only[Option.some.injEq,Prod.mk.injEq]at hs2;obtain⟨rfl,rfl,rfl⟩:=hs2;exact hQ g1 a1 w1 hx1 k1 hsz1 hd1
  | ret =>
   simp only[Option.some.injEq,Prod.mk.injEq]at hs2;obtain⟨rfl,rfl,rfl⟩:=hs2;exact hQ g1 a1 w1 hx1 k1 hsz1 hd1
 refine⟨?_,hL1,?_⟩
 ·intro c ac an nt base kp e h x e' h' hc hs hb
  cases c with
  | skip =>
   simp only[gC,Option.some.injEq]at hc;subst hc;intro ds g a w k hsz hd Q hQ;simp only[aal,exec,Option.some.injEq,Prod.mk.injEq]at hs;obtain⟨rfl,rfl,rfl⟩:=hs;exact wp_skip (hQ g a w (Ext.refl _ _ _) k hsz hd)
  | exit id =>
   simp only[gC,Option.some.injEq]at hc;subst hc;intro ds g a w k hsz hd Q hQ;simp only[aal,exec,Option.some.injEq,Prod.mk.injEq]at hs;obtain⟨rfl,rfl,rfl⟩:=hs;exact wp_exit (hQ g a w (Ext.refl _ _ _) k hsz hd)
  | ret =>
   simp only[gC,Option.some.injEq]at hc;subst hc;intro ds g a w k hsz hd Q hQ;simp only[aal,exec,Option.some.injEq,Prod.mk.injEq]at hs;obtain⟨rfl,rfl,rfl⟩:=hs;exact wp_ret (hQ g a w (Ext.refl _ _ _) k hsz hd)
  | region id ops draw=>exact Jl hgl hI hT hF hc hs hb
  | seq c1 c2 =>
   simp only[gC,Option.bind_eq_some_iff,Option.map_eq_some_iff]at hc;obtain⟨a1,VH,a2,ha2,rfl⟩:=hc;intro ds g a w k hsz hd Q hQ;simp only[aal]at hs;rw[exec]at hs;simp only[Option.aa]at hs;obtain⟨⟨x1,e1,h1⟩,hs1,hs2⟩:=hs;have hg:=hgrow _ base e h hb _ hs1;refine wp_seq (hC c1 a1 an nt base kp e h x1 e1 h1 VH hs1 hb g a w k hsz hd _ fun g1 R9 w1 hx1 k1 hsz1 hd1=>?_);cases x1 with
   | norm =>
    exact hC c2 a2 an nt base kp e1 h1 x e' h' ha2 hs2 (Nat.le_trans hb hg.1) g1 R9 w1 k1 hsz1 hd1 Q fun g' a' w' hx'=>hQ g' a' w' (hx1.trans hx')
   | exit i =>
    simp only[Option.some.injEq,Prod.mk.injEq]at hs2;obtain⟨rfl,rfl,rfl⟩:=hs2;exact hQ g1 R9 w1 hx1 k1 hsz1 hd1
   | ret =>
    simp only[Option.some.injEq,Prod.mk.injEq]at hs2;obtain⟨rfl,rfl,rfl⟩:=hs2;exact hQ g1 R9 w1 hx1 k1 hsz1 hd1
  | cond c c1 c2 =>
   simp only[gC,Option.bind_eq_some_iff,Option.map_eq_some_iff]at hc;obtain⟨c',hc',a1,VH,a2,ha2,rfl⟩:=hc;intro ds g a w k hsz hd Q hQ;simp only[aal]at hs;rw[exec]at hs;simp only[Option.aa]at hs;obtain⟨v,hv,hs⟩:=hs;rw[fS]at hs;rcases hs with⟨rfl,hs⟩ | ⟨rfl,hs⟩
   ·exact wp_cond_true (kI (bT hgl k hc' hv)) (hC c1 a1 an nt base kp e h x e' h' VH hs hb g a w k hsz hd Q hQ)
   ·exact wp_cond_false (kI (bT hgl k hc' hv)) (hC c2 a2 an nt base kp e h x e' h' ha2 hs hb g a w k hsz hd Q hQ)
  | block id c1 =>
   simp only[gC,Option.map_eq_some_iff]at hc;obtain⟨a1,VH,rfl⟩:=hc;intro ds g a w k hsz hd Q hQ;simp only[aal]at hs;rw[exec]at hs;simp only[Option.aa]at hs;obtain⟨⟨x1,e1,h1⟩,hs1,hs2⟩:=hs;refine wp_block (hC c1 a1 an nt base kp e h x1 e1 h1 VH hs1 hb g a w k hsz hd _ fun g1 R9 w1 hx1 k1 hsz1 hd1=>?_);cases x1 with
   | norm =>
    simp only[Option.some.injEq,Prod.mk.injEq]at hs2;obtain⟨rfl,rfl,rfl⟩:=hs2;exact hQ g1 R9 w1 hx1 k1 hsz1 hd1
   | exit i =>
    simp only at hs2;show(if i=id then Q .normal R9 w1 else Q (.exit i) R9 w1);split at hs2
    ·rename_i hi
     simp only[Option.some.injEq,Prod.mk.injEq]at hs2;obtain⟨rfl,rfl,rfl⟩:=hs2;rw[if_pos hi];exact hQ g1 R9 w1 hx1 k1 hsz1 hd1
    ·rename_i hi
     simp only[Option.some.injEq,Prod.mk.injEq]at hs2;obtain⟨rfl,rfl,rfl⟩:=hs2;rw[if_neg hi];exact hQ g1 R9 w1 hx1 k1 hsz1 hd1
   | ret =>
    simp only[Option.some.injEq,Prod.mk.injEq]at hs2;obtain⟨rfl,rfl,rfl⟩:=hs2;exact hQ g1 R9 w1 hx1 k1 hsz1 hd1
  | loop c1 =>
   simp only[gC,Option.map_eq_some_iff]at hc;obtain⟨a1,VH,rfl⟩:=hc;intro ds g a w k hsz hd Q hQ;exact wp_loop_rounds (n+1) (hL1 c1 a1 an nt base kp e h x e' h' VH hs hb g a w k hsz hd Q hQ)
  | scope c1=>simp only[gC,Option.some.injEq]at hc;subst hc;exact(iL hs).elim
  | rangeFunc _ _ _ _=>simp only[gC,Option.some.injEq]at hc;subst hc;exact(iL hs).elim
  | label _=>simp only[gC,Option.some.injEq]at hc;subst hc;exact(iL hs).elim
  | goto _=>simp only[gC,Option.some.injEq]at hc;subst hc;exact(iL hs).elim
  | refuse _=>simp only[gC,Option.some.injEq]at hc;subst hc;exact(iL hs).elim
 ·intro base f vs h r h' hs hb g us w k hlen hrel
  rw[call]at hs;cases hf:T f with
  | none=>rw[hf]at hs;cases hs
  | some it =>
   rw[hf]at hs;cases it with
   | oF pg =>
    simp only[Option.aa]at hs;obtain⟨⟨v,m⟩,hv,hs⟩:=hs;have hq:=hT f _ hf vs h (v,m) hv N0 w0 g us w hI k hlen hrel;cases m with
    | none =>
     simp only[rS,Option.some.injEq,Prod.mk.injEq]at hs;obtain⟨rfl,rfl⟩:=hs;exact .inl hq
    | some q =>
     obtain⟨b,cs⟩:=q;simp only[rS]at hs;split at hs
     ·simp only[Option.some.injEq,Prod.mk.injEq]at hs
      obtain⟨rfl,rfl⟩:=hs;exact .inl hq
     ·cases hs
   | jo pg =>
    simp only[Option.aa,Option.some.injEq,Prod.mk.injEq]at hs;obtain⟨⟨v,m⟩,hv,rfl,rfl⟩:=hs;exact hT f _ hf vs h (v,m) hv N0 w0 g us w hI k hlen hrel
   | code fn =>
    simp only[Option.aa]at hs;obtain⟨⟨x1,e1,h1⟩,hs1,hs2⟩:=hs;obtain⟨an,fn0,hfn,M8⟩:=hT f _ hf;simp only[bQ,Option.bind_eq_some_iff]at M8;obtain⟨c,hbody,rs,hrs,ac,hac,M8⟩:=M8;split at M8
    ·rename_i hcond
     simp only[Option.some.injEq]at M8;subst M8;simp only at hs1 hs2;refine .inl ⟨?_,calls_of_wp hfn hbody ?_⟩
     ·have hname:(fn0.name == "runtime.NumGoroutine")=false:=by simpa using hcond.2
      simp only[callFunc,Sem.run_bind,program,Sem.run,hfn,hname,hbody,Bool.false_eq_true,if_false,Option.isNone_some,Result.andThen,Sem.run_pure]
     ·have hbase:(if an.keep then base else size h)≤size h:=by split<;>omega
      have hle:base≤(if an.keep then base else size h):=by split<;>omega
      have S0:Ok (N0:=N0) w0 g (params 0 vs) (us++Array.replicate (fn0.ntmps-us.size) Go.undef) h w:=⟨k.n,k.hN,k.below,k.inj,k.box,k.arr,fun t v hv=>by
       rw[uU,if_pos (Nat.zero_le _),Nat.sub_zero]at hv;have hlt:t<us.size:=by rw[hlen];exact(List.getElem?_eq_some_iff.1 hv).1
       have:=hrel t v hv;rw[Array.getD_eq_getD_getElem?,Array.getElem?_append_left hlt,←Array.getD_eq_getD_getElem?];exact this⟩
      have YM:=hgrow _ _ (params 0 vs) h hbase _ hs1;refine hC c ac an fn0.ntmps _ _ (params 0 vs) h x1 e1 h1 hac hs1 hbase g { tmps:=us++Array.replicate (fn0.ntmps-us.size) Go.undef,defers:=[] } w S0 (by simp;omega) rfl _ fun g1 a1 w1 hx1 k1 hsz1 hd1=>?_
      have hfin:finish { results:=rs,body:=aal (dedup (qT ac++rs.map (·.1))) ac,keep:=an.keep,own:=an.own } (size h) e1 h1=some (r,h'):=by
       cases x1 with
       | exit i=>cases hs2
       | norm=>exact hs2
       | ret=>exact hs2
      have hpost:∃ v,(results fn0 a1.tmps).run P w1=.ok v w1∧∃ u g',Ending.returned v=.returned u∧Ext N0 g w g' w1∧ox N0 w0 g' h' w1∧RV N0 g' w1 r u:=by
       unfold finish at hfin;simp only[Option.aa]at hfin;obtain⟨vs',VE,hfin⟩:=hfin;obtain⟨us',hu,hsz',hru⟩:=Dm k1 hrs VE;refine⟨_,hu,(if hs:us'.toArray.size=1 then us'.toArray[0] else .tuple us'.toArray),?_⟩
       by_cases hkeep:an.keep=true
       ·rw[if_pos hkeep]at hfin
        simp only[Option.some.injEq,Prod.mk.injEq]at hfin;obtain⟨rfl,rfl⟩:=hfin;exact⟨g1,rfl,hx1,k1.heap,jz hsz' hru⟩
       ·rw[if_neg hkeep]at hfin YM
        have YN:=k.n;have ri:=YM.2 _ (Nat.le_refl _) (PI k);have hst:size h≤size h1:=YM.1
        -- the plain end
        have plain:∀ vs2,fN (size h) h1 vs'=some vs2→belows (size h) vs2=true→(r,h')=(fT vs2,bJ h1 (size h))→∃ g',Ending.returned (if hs:us'.toArray.size=1 then us'.toArray[0] else .tuple us'.toArray)=.returned (if hs:us'.toArray.size=1 then us'.toArray[0] else .tuple us'.toArray)∧Ext N0 g w g' w1∧ox N0 w0 g' h' w1∧RV N0 g' w1 r (if hs:us'.toArray.size=1 then us'.toArray[0] else .tuple us'.toArray):=by
         intro vs2 h2 h3 h4;cases h4;obtain⟨l1,l2⟩:=K8 k1.heap hru vs2 h2;refine⟨{ lI g1 h1 w1 (size h) none with n:=size h },rfl,qf (hx1.trans (eH k1.heap (size h) none)) (by rw[YN];exact Nat.le_refl _),sx k1.heap hst ri,jz (by omega) fun j x hx=>?_⟩;exact iY (l2 j x hx) (dV h3 j x hx)
        split at hfin
        ·simp only[Option.aa,Option.some.injEq,Prod.mk.injEq]at hfin
         obtain⟨⟨vs2,h2⟩,hown,rfl,rfl⟩:=hfin;unfold ju at hown;split at hown
         ·-- a K0 slice
          rename_i t sz es vr;split at hown
          ·rename_i hcond
           obtain⟨hb1,hb2⟩:=hcond;split at hown
           ·rename_i hlt
            simp only[Option.some.injEq,Prod.mk.injEq]at hown;obtain⟨rfl,rfl⟩:=hown;refine⟨{ lI g1 h1 w1 (size h) none with n:=size h },rfl,qf (hx1.trans (eH k1.heap (size h) none)) (by rw[YN];exact Nat.le_refl _),sx k1.heap hst ri,jz hsz' fun j x hx=>?_⟩;refine iY ((hru j x hx).mono (eH k1.heap (size h) none)) ?_;cases j with
            | zero=>simp at hx;subst hx;simp only[below,Own.below,Bool.and_eq_true,decide_eq_true_eq];exact⟨hlt,hb1⟩
            | succ j=>exact dV hb2 j x (by simpa using hx)
           ·rename_i hge
            simp only[Option.aa,Option.some.injEq,Prod.mk.injEq]at hown;obtain⟨n0,hn0,rfl,rfl⟩:=hown;have hbx:=k9 hn0;refine⟨_,rfl,?_,B8 k1.heap hst ri (by omega) hbx (by simp) (by intro v hq;cases hq),jz (by simpa using hsz') fun j x hx=>?_⟩
            ·exact Fz k.heap k1.heap hx1 (size h) t
            ·cases j with
             | zero =>
              simp at hx;subst hx;have h0:=hru 0 _ rfl;exact Dl k1.heap (by omega) hb1 h0
             | succ j =>
              exact zP k1.heap (hru (j+1) x (by simpa using hx)) (dV hb2 j x (by simpa using hx))
          ·cases hown
         ·-- a box's slice
          rename_i fl b off len sz vr;split at hown
          ·rename_i hlt
           split at hown
           ·rename_i hb2
            simp only[Option.some.injEq,Prod.mk.injEq]at hown;obtain⟨rfl,rfl⟩:=hown;refine⟨{ lI g1 h1 w1 (size h) none with n:=size h },rfl,qf (hx1.trans (eH k1.heap (size h) none)) (by rw[YN];exact Nat.le_refl _),sx k1.heap hst ri,jz hsz' fun j x hx=>?_⟩;refine iY ((hru j x hx).mono (eH k1.heap (size h) none)) ?_;cases j with
            | zero=>simp at hx;subst hx;simpa[below] using hlt
            | succ j=>exact dV hb2 j x (by simpa using hx)
           ·cases hown
          ·rename_i hge
           simp only[Option.aa]at hown;obtain⟨cs,hcs,hown⟩:=hown;split at hown
           ·rename_i hcond
            obtain⟨hb2,hb3⟩:=hcond;simp only[Option.some.injEq,Prod.mk.injEq]at hown;obtain⟨rfl,rfl⟩:=hown;have hbx:=bq hcs;refine⟨_,rfl,?_,B8 k1.heap hst ri (by omega) hbx (by simp) (fun v hv=>let ⟨j,hj⟩:=List.getElem?_of_mem (show v∈cs from hv);dV hb3 j v hj),jz (by simpa using hsz') fun j x hx=>?_⟩
            ·exact Fz k.heap k1.heap hx1 (size h) b
            ·cases j with
             | zero =>
              simp at hx;subst hx;have h0:=hru 0 _ rfl;generalize us'.getD 0 Go.undef=U at h0;cases h0;rename_i cap hb hl hfull hcpb;have:=RV.bX (N0:=N0) (g:={ lI g1 h1 w1 (size h) (some b) with n:=size h+1,ι:=fun i=>if i=size h then g1.ι b else g1.ι i,tk:=fun i=>if i=size h then g1.tk b else g1.tk i,cp:=fun i=>if i=size h then g1.cp b else g1.cp i }) (w:=w1) fl (size h) off len sz cap (Nat.lt_succ_self _) hl hfull (by show _≤(if size h=size h then _ else _);rw[if_pos rfl];exact hcpb);simpa using this
             | succ j =>
              exact zP k1.heap (hru (j+1) x (by simpa using hx)) (dV hb2 j x (by simpa using hx))
           ·cases hown
         ·simp only[Option.aa]at hown
          obtain⟨vs3,h3,hown⟩:=hown;split at hown
          ·rename_i hb
           simp only[Option.some.injEq,Prod.mk.injEq]at hown;obtain⟨rfl,rfl⟩:=hown;exact plain _ h3 hb rfl
          ·cases hown
        ·simp only[Option.aa]at hfin
         obtain⟨vs2,h2,hfin⟩:=hfin;split at hfin
         ·rename_i hb
          simp only[Option.some.injEq,Prod.mk.injEq]at hfin;obtain⟨rfl,rfl⟩:=hfin;exact plain _ h2 hb rfl
         ·cases hfin
      cases x1 with
      | exit i=>cases hs2
      | norm=>exact⟨hd1,hpost⟩
      | ret=>exact⟨hd1,hpost⟩
    ·cases M8
theorem Dn (hgl:dR gl N0 w0) {I:Nat→World→Prop} (hI:I N0 w0) {T:Table} (hT:p7 P gl I T):∀ n,VF gl N0 P w0 T n∧SZ gl N0 P w0 T n∧∀ base,gF N0 P w0 base (call T n base)
 | 0=>⟨fun _ _ _ _ _ _ _ _ _ _ _ _ hs=>by simp[exec]at hs,fun _ _ _ _ _ _ _ _ _ _ _ _ hs=>by simp[exec]at hs,fun _ _ _ _ _ _ hs=>by simp[call]at hs⟩
 | n+1=>let ⟨a,b,c⟩:=Dn hgl hI hT n;PL hgl hI hT n a b c
theorem Jm {gl:cR} {an:De} {f:Nat} {fn0:Func} {F:dm} (hfn:P.funcs[f]?=some fn0) (M8:bQ P gl an fn0=some F) (us:Array Value) (w:World):(callFunc f us).run P w=.ok (.enter f us) w:=by
 simp only[bQ,Option.bind_eq_some_iff]at M8;obtain⟨c,hbody,rs,hrs,ac,hac,M8⟩:=M8;split at M8
 ·rename_i hcond
  have hname:(fn0.name == "runtime.NumGoroutine")=false:=by simpa using hcond.2
  simp only[callFunc,Sem.run_bind,program,Sem.run,hfn,hname,hbody,Bool.false_eq_true,if_false,Option.isNone_some,Result.andThen,Sem.run_pure]
 ·cases M8
theorem sound {gl:cR} {I:Nat→World→Prop} {T:Table} (hT:p7 P gl I T) {f:Nat} {vs:List PV} {r:PV} {h':Hp} (hs:ai T 0 f vs []=some (r,h')) (w:World) (hgl:dR gl w.heap.size w) (hI:I w.heap.size w) (us:Array Value) (hlen:us.size=vs.length)
  (hrel:∀ (j:Nat) (x:PV),vs[j]?=some x→RV w.heap.size { ι:=id,n:=0,hw:=fun _=>none } w x (us.getD j Go.undef)) (hen:(callFunc f us).run P w=.ok (.enter f us) w) :
  Calls P f us w fun en w'=>∃ u g',en=.returned u∧RV w.heap.size g' w' r u∧Below w.heap.size w w':=by
 obtain⟨n,hn⟩:=eW.1 hs;have k0:ox w.heap.size w { ι:=id,n:=0,hw:=fun _=>none } [] w:=by
  exact⟨rfl,rfl,Below.refl _ _,fun b c x y hx=>by simp[bY]at hx,fun b cs hb=>by simp[bY]at hb,fun c m hm=>by simp at hm,fun t v hv=>by simp[look]at hv⟩
 refine((((Dn (N0:=w.heap.size) (w0:=w) hgl hI hT n).2.2 0) f vs [] r h' hn (Nat.zero_le _) _ us w k0 hlen hrel).calls hen).mono fun en w' hen=>?_
 obtain⟨u,g',h1,h2,h3,h4⟩:=hen;exact⟨u,g',h1,h4,h3.below⟩
end
end Go.Am
namespace Go.Am
open Go.RowKit (Below)
theorem enters_of {P:Program} {f:FuncId} {fn:Func} {c:Code} (hf:P.funcs[f]?=some fn) (hname:(fn.name == "runtime.NumGoroutine")=false) (hb:fn.body=some c) (us:Array Value) (w:World):(callFunc f us).run P w=.ok (.enter f us) w:=by
 have h1:fn.name≠"runtime.NumGoroutine":=by simpa using hname
 simp[callFunc,hf,h1,hb,mark]
def aP (l:List UInt8):List PV:=l.map fun c=>.int .u8 c.toNat
section
variable {N0:Nat} {P:Program} {I:Nat→World→Prop} {w0:World} {g:G} {e:Env} {a:Act} {h:Hp} {w:World}
theorem qg (l:List UInt8) (j:Nat):(aP l)[j]?=(l[j]?).map fun c=>.int .u8 c.toNat:=by simp[aP]
theorem sy (k:ox N0 w0 g h w) {w':World} (hb:Below w.heap.size w w'):Ext N0 g w g w'∧ox N0 w0 g h w':=by
 have hN:=iE k;have hcell:∀ c o,c<w.heap.size→w'.cell? ⟨c,o,none⟩=w.cell? ⟨c,o,none⟩:=fun c o hc=>qX hb hc o
 have hx:Ext N0 g w g w':=⟨Nat.le_refl _,fun _ _=>rfl,fun c m hm=>⟨m,hm,Nat.le_refl _⟩,fun c m o hm _=>hcell c o (k.arr c m hm).2,fun c o hc=>hcell c o (by omega),fun _ _=>⟨Nat.le_refl _,fun _=>rfl⟩,fun _ _=>rfl⟩;refine⟨hx,k.world hx rfl (hb.mono hN) (fun b bx hbx _=>⟨hb.block _ (lF (a:=⟨#[],[]⟩) k hbx).2,rfl⟩) (fun _ _=>rfl) fun c m hm=>?_⟩;have:=k.arr c m hm;exact⟨this.1,Nat.lt_of_lt_of_le this.2 hb.size⟩
theorem FA {f:Nat} {pg:List PV→Option PV} (rj:∀ us w,(callFunc f us).run P w=.ok (.enter f us) w)
  (hc:∀ vs r,pg vs=some r→∀ (N0:Nat) (w0:World) (g:G) (us:Array Value) (w:World),I N0 w0→Below N0 w0 w→us.size=vs.length→(∀ (j:Nat) (x:PV),vs[j]?=some x→RV N0 g w x (us.getD j Go.undef)) →
   Calls P f us w fun e w'=>∃ u,e=.returned u∧Below w.heap.size w w'∧∀ g w,RV N0 g w r u):nK P I f (fun vs h=>(pg vs).map fun r=>(r,none)):=by
 intro vs h r hr N0 w0 g us w hI k hlen hrel;refine⟨rj us w,?_⟩;simp only[Option.map_eq_some_iff]at hr;obtain⟨r',hr',rfl⟩:=hr;refine(hc vs r' hr' N0 w0 g us w hI k.below hlen hrel).mono fun en w' hen=>?_
 obtain⟨u,rfl,hb,hv⟩:=hen;obtain⟨hx,hok⟩:=sy k hb;exact⟨u,g,rfl,hx,hok,hv _ _⟩
end
end Go.Am
namespace Go.Am
open Go.RowKit (Below)
open Go.Maps
noncomputable def Dp:List PV→Hp→Option (PV × List gW)
 | [.eL b],h=>(bR h b).ah fun es=>some (.eL (size h),[.map es])
 | _,_=>none
noncomputable def kW:List (PV × PV)→Option (List Int)
 | []=>some []
 |(.int .i64 n,_)::r=>if -9223372036854775808≤n∧n≤9223372036854775807 then(kW r).ah fun l=>some (n::l) else none
 | _=>none
def sA (ks:List Int):List Int:=ks.mergeSort fun x y=>decide (x≤y)
def UA (ks:List Int):PV:=if ks=[] then .bg else .sl .no 1 (ks.map fun n=>.int .i64 n)
noncomputable def xY (kf:Nat):List PV→Hp→Option (PV × Option (Nat × List PV))
 | [.fn f [.ptr x 0]],h=>if f=kf then(ay h x).ah fun cs=>match cs with
   | [.eL b]=>(bR h b).ah fun es=>if es.length≤1048576 then(kW es).ah fun ks=>some (UA (sA ks),none) else none
   | _=>none
  else none
 | _,_=>none
section
variable {N0:Nat} {P:Program} {I:Nat→World→Prop} {w0:World} {g:G} {h:Hp} {w:World}
theorem Dr (k:ox N0 w0 g h w) {w':World} (hb:Below w.heap.size w w') (c m:Nat) (hc1:w.heap.size≤c) (hc2:c<w'.heap.size) :
  Ext N0 g w { g with hw:=fun d=>if d=c then some m else g.hw d } w'∧ox N0 w0 { g with hw:=fun d=>if d=c then some m else g.hw d } h w':=by
 have hN:=iE k;have hcell:∀ d o,d<w.heap.size→w'.cell? ⟨d,o,none⟩=w.cell? ⟨d,o,none⟩:=fun d o hd=>qX hb hd o
 let g':G:={ g with hw:=fun d=>if d=c then some m else g.hw d }
 have hne:∀ d m',g.hw d=some m'→d≠c:=fun d m' hm=>by have:=(k.arr d m' hm).2;omega
 have hx:Ext N0 g w g' w':=⟨Nat.le_refl _,fun _ _=>rfl,fun d m' hm=>⟨m',by show(if d=c then _ else _)=_;rw[if_neg (hne d m' hm)];exact hm,Nat.le_refl _⟩,fun d m' o hm _=>hcell d o (k.arr d m' hm).2,fun d o hd=>hcell d o (by omega),fun _ _=>⟨Nat.le_refl _,fun _=>rfl⟩,fun _ _=>rfl⟩;refine⟨hx,k.world hx rfl (hb.mono hN) (fun b bx hbx _=>?_) (fun _ _=>rfl) fun d m' hm=>?_⟩
 ·have hlt:=(lF (a:=⟨#[],[]⟩) k hbx).2
  exact⟨hb.block _ hlt,by show(if _=c then _ else _)=_;rw[if_neg (by omega)]⟩
 ·by_cases hd:d=c
  ·subst hd;exact⟨by omega,hc2⟩
  ·have hm':g.hw d=some m':=by
    have:(if d=c then some m else g.hw d)=some m':=hm;rwa [if_neg hd]at this
   have:=k.arr d m' hm';exact⟨this.1,Nat.lt_of_lt_of_le this.2 hb.size⟩
theorem M9 (k:ox N0 w0 g h w) {w':World} (hb:Below w.heap.size w w') {e:TypeId} {u:Value} {xs:List PV} {vs:List Value} (hrow:w'.ownsRow w.heap.size e 1 u xs.length vs)
  (hr:∀ (j:Nat) (x:PV),xs[j]?=some x→x.cells=[x]∧∀ g w,RV N0 g w x (vs.getD j Go.undef)) :
  ∃ g',Ext N0 g w g' w'∧ox N0 w0 g' h w'∧((xs=[]∧u=.slice none 0 0∧RV N0 g' w' .bg u)∨RV N0 g' w' (.sl .no 1 xs) u):=by
 obtain⟨hl,⟨rfl,hz⟩ | ⟨gb,cap,cur,rfl,hbase,YP,r1,r2,r3,r4⟩⟩:=hrow
 ·obtain⟨hx,hok⟩:=sy k hb
  exact⟨g,hx,hok,.inl ⟨List.length_eq_zero_iff.1 hz,rfl,.bg⟩⟩
 ·have hgl:gb<w'.heap.size:=(Array.getElem?_eq_some_iff.1 YP).1
  obtain⟨hx,hok⟩:=Dr k hb gb xs.length hbase hgl;refine⟨_,hx,hok,.inr ?_⟩;have hvl:vs.length=xs.length:=by omega
  have acZ:∀ j,j<xs.length→cur[j]?=some (vs.getD j Go.undef):=by
   intro j hj;rw[Nat.mul_one]at r4;have:(cur.toList.take xs.length)[j]?=vs[j]?:=by rw[r4]
   rw[List.getElem?_take,if_pos hj,Array.getElem?_toList]at this;rw[this,List.getD_eq_getElem?_getD,List.getElem?_eq_getElem (by omega)];rfl
  refine .sl .no 1 xs gb 0 cap (fun i j=>vs.getD i Go.undef) r1 (by simp) (fun i e he=>by rw[(hr i e he).1];rfl) (fun i j hi hj=>?_) (fun i j e x he hx2=>?_) (fun _=>.inr ⟨xs.length,by show(if gb=gb then _ else _)=_;rw[if_pos rfl],by omega⟩) none (fun _=>rfl) (by simp)
  ·have:j=0:=by omega
   subst this;simp only[World.cell?,YP];have:=acZ i hi;simpa using this
  ·obtain⟨h1,h2⟩:=hr i e he
   rw[h1]at hx2;cases j with
   | zero=>simp at hx2;subst hx2;exact h2 _ _
   | succ j=>simp at hx2
theorem qF:∀ {es:List (PV × PV)} {ks:List Int},kW es=some ks→ks.length=es.length∧∀ (i:Nat) (x:PV × PV),es[i]?=some x→∃ n,x.1=.int .i64 n∧ks[i]?=some n∧-9223372036854775808≤n∧n≤9223372036854775807
 | [],ks,h=>by simp only[kW,Option.some.injEq]at h;subst h;exact⟨rfl,fun i x hx=>by simp at hx⟩
 |(k,v)::r,ks,h=>by
  have hk:∃ n,k=.int .i64 n:=by
   unfold kW at h;split at h
   ·cases ‹_::_=_›
   ·rename_i hq;cases hq;exact⟨_,rfl⟩
   ·cases h
  obtain⟨n,rfl⟩:=hk;simp only[kW]at h;split at h
  ·rename_i hn
   simp only[Option.aa,Option.some.injEq]at h;obtain⟨l,hl,rfl⟩:=h;obtain⟨h1,h2⟩:=qF hl;refine⟨by simp[h1],fun i x hx=>?_⟩;cases i with
   | zero=>simp at hx;subst hx;exact⟨n,rfl,rfl,hn⟩
   | succ i=>simpa using h2 i x (by simpa using hx)
  ·cases h
theorem FB {f:Nat} (rj:∀ us w,(callFunc f us).run P w=.ok (.enter f us) w)
  (hc:∀ (b:Nat) (es:Array MapEntry) (clock:Nat) (w:World),w.heap[b]?=some (.map es clock)→Calls P f #[.map (some b)] w fun e w'=>e=.returned (.map (some w.heap.size))∧w'=w.alloc (.map es clock)):mo P I f Dp:=by
 intro vs h r hr N0 w0 g us w hI k hlen hrel;refine .inl ⟨rj us w,?_⟩;unfold Dp at hr;split at hr
 ·rename_i b
  simp only[Option.aa,Option.some.injEq]at hr;obtain⟨es,hes,rfl⟩:=hr;obtain⟨u,rfl⟩ : ∃ u,us=#[u]:=by
   have:us.size=1:=by simpa using hlen
   exact sg this
  have h1:=hrel 0 _ rfl;simp only[Array.getD_eq_getD_getElem?,List.getElem?_toArray,List.getElem?_cons_zero,Option.getD_some]at h1;rcases iK (a:=⟨#[],[]⟩) k h1 (es:=es) (by simpa[entriesOf] using hes) with⟨hq,_⟩ | ⟨b',ea,cl,hbb,rfl,hg,hw,hrel2,hst⟩
  ·cases hq
  cases hbb;refine(hc _ ea cl w hw).mono fun en w' hen=>?_
  obtain⟨rfl,rfl⟩:=hen;have hm:eO w (w.alloc (.map ea cl)) (.map ea cl):=.inl rfl;obtain⟨g',hx1,hok,hn,hι,_,_,_⟩:=kV (cpv:=0) (a:=⟨#[],[]⟩) k hm (.map es) none default (fun n T hn=>by cases hn) (fun g' hx1 hι hhw htk _=>⟨by rw[hι];exact iE k,by rw[hι];exact hhw,ea,cl,by rw[hι];exact hm.at,by simpa using hrel2.1,hst,fun i x hx=>by
   obtain⟨y,hy,q1,q2,q3,q4⟩:=hrel2.2 i x hx;exact⟨y,by simpa using hy,q1,q2,q3.mono hx1,q4.mono hx1⟩⟩)
  refine⟨_,g',rfl,hx1,hok,?_⟩;rw[←hι];exact .eL _ (by omega)
 ·cases hr
def Jo:Value→Option (DataW Unit × List MemPlace):=fun _=>some (.lit (.bool true),[])
theorem BB {f kf tk:Nat} (ac1:P.underlying tk=some (.int .i64)) (rj:∀ us w,(callFunc f us).run P w=.ok (.enter f us) w)
  (hc:∀ (Bm b nn:Nat) (D0:DataW Unit) (w:World) (hBm:Bm<w.heap.size) (hm:w.cell? ⟨Bm,0,none⟩=some (.map (some b))) (hown:w.ownsMap P tk Jo b nn D0) (hmax:Go.Maps.size D0≤maxLen) (hbytes:Go.Maps.size D0*8≤140737488355328),
   Calls P f #[.func (.func kf) #[] #[.pointer (some ⟨Bm,0,none⟩)]] w fun e w'=>∃ (v:Value) (ss:List Int),e=.returned v∧ss.Perm (intKeys D0) ∧
    w'.ownsRow w.heap.size tk 1 v ss.length ((ss.mergeSort (fun x y=>decide (x≤y))).map encZ)∧(v=.slice none 0 0↔ss=[])∧Below w.heap.size w w'):nK P I f (xY kf):=by
 intro vs h r hr N0 w0 g us w hI k hlen hrel;refine⟨rj us w,?_⟩;unfold xY at hr;split at hr
 ·rename_i f' x
  split at hr
  ·rename_i hfk
   subst hfk;simp only[Option.aa]at hr;obtain⟨cs,hcs,hr⟩:=hr;split at hr
   ·rename_i b
    simp only[Option.aa]at hr;obtain⟨es,hes,hr⟩:=hr;split at hr
    ·rename_i hle
     simp only[Option.aa,Option.some.injEq]at hr;obtain⟨ks,hks,rfl⟩:=hr;obtain⟨u,rfl⟩ : ∃ u,us=#[u]:=by
      have:us.size=1:=by simpa using hlen
      exact sg this
     have h1:=hrel 0 _ rfl;simp only[Array.getD_eq_getD_getElem?,List.getElem?_toArray,List.getElem?_cons_zero,Option.getD_some]at h1;generalize hu:u=U at h1;cases h1;rename_i cap hsz hcap;have h2:=hcap 0 _ rfl;obtain⟨cp,rfl⟩ : ∃ cp,cap=#[cp]:=by
      have:cap.size=1:=by simpa using hsz
      exact sg this
     simp only[Array.getD_eq_getD_getElem?,List.getElem?_toArray,List.getElem?_cons_zero,Option.getD_some]at h2;cases h2;rename_i hxn;obtain⟨uu,u1,u2⟩:=si (a:=⟨#[],[]⟩) k hcs;have hcell:=u1 0 (by simp);have hrm:=u2 0 _ rfl;rcases iK (a:=⟨#[],[]⟩) k hrm (es:=es) (by simpa[entriesOf] using hes) with⟨hq,_⟩ | ⟨b',ea,cl,hbb,hU,hg,hw,hrel2,hst⟩
     ·cases hq
     cases hbb;rw[hU]at hcell;obtain⟨hkl,YN⟩:=qF hks;have hel:ea.size=es.length:=by have:=hrel2.1;simpa using this
     have hkey:∀ (i:Nat) (y:MapEntry),ea[i]?=some y→∃ n,y.key=.int .i64 n∧ks[i]?=some n∧-9223372036854775808≤n∧n≤9223372036854775807:=by
      intro i y hy;have hi:i<es.length:=by rw[←hel];exact(Array.getElem?_eq_some_iff.1 hy).1
      obtain⟨y',hy',_,_,q3,_⟩:=hrel2.2 i es[i] (List.getElem?_eq_getElem hi);rw[Array.getElem?_toList,hy]at hy';cases hy';obtain⟨n,n1,n2,n3⟩:=YN i es[i] (List.getElem?_eq_getElem hi);rw[n1]at q3;generalize hyk:y.key=K at q3;cases q3;exact⟨n,rfl,n2,n3⟩
     have PM:∀ y∈ea.toList,∃ n:Int,Go.WideElems.rd P tk Jo y=some (.int .i64 n,.lit (.bool true))∧(∃ i:Nat,ea[i]?=some y∧ks[i]?=some n):=by
      intro y hy;obtain⟨i,hi⟩:=List.getElem?_of_mem hy;rw[Array.getElem?_toList]at hi;obtain⟨n,n1,n2,n3,n4⟩:=hkey i y hi;refine⟨n,?_,i,hi,n2⟩;have:keyOf P tk y.key=some (.int .i64 n):=by rw[n1];exact keyOf_int_mk ac1 (by simp[Lit.wf,IntKind.min,IntKind.max,IntKind.signed,IntKind.bits];omega)
      exact Go.WideElems.rd_mk (R:=Jo) (born:=y.born) this rfl
     have hown:w.ownsMap P tk Jo (g.ι b) ea.size (.map ((ea.toList.map (Go.WideElems.rg P tk Jo)).foldr DataW.insert [])) :=
      ⟨ea,cl,hw,⟨by rw[hel];exact Nat.le_trans hle (by decide),hst,fun y hy=>let ⟨n,h1,_⟩:=PM y hy;⟨_,h1⟩⟩,Nat.le_refl _,rfl⟩
     have hsize:Go.Maps.size (DataW.map ((ea.toList.map (Go.WideElems.rg P tk Jo)).foldr DataW.insert []))=es.length:=by
      simp only[Go.Maps.size];rw[DataW.length_sorted];simp[hel]
     refine(hc (g.ι x) (g.ι b) ea.size _ w (by have:=(Array.getElem?_eq_some_iff.1 (k.cells hcs).2.2.choose_spec.choose_spec.choose_spec.choose_spec.1).1;exact this) hcell hown (by rw[hsize];exact Nat.le_trans hle (by decide)) (by rw[hsize];omega)).mono fun en w' hen=>?_
     obtain⟨v,ss,rfl,YQ,hrow,hnil,hbl⟩:=hen;have ac2:(ea.toList.map (Go.WideElems.rg P tk Jo)).map (fun p=>intOf p.1)=ks:=by
      apply List.ext_getElem?;intro i;simp only[List.getElem?_map,Array.getElem?_toList];cases hy:ea[i]? with
      | none =>
       have:ea.size≤i:=by simpa using hy
       rw[List.getElem?_eq_none (by omega)];rfl
      | some y =>
       obtain⟨n,n1,j,hj,n2⟩:=PM y (List.mem_of_getElem? (by simpa using hy));obtain⟨m,m1,m2,_⟩:=hkey i y hy;obtain⟨m',m1',m2',_⟩:=hkey j y hj;rw[m1]at m1';cases m1';rw[n2]at m2';cases m2';simp[Go.WideElems.rg_of n1,intOf,m2]
     have hp2:ss.Perm ks:=by
      refine YQ.trans ?_;simp only[intKeys];rw[←ac2];exact(Go.WideShapes.sorted_perm _).map _
     have ac3:(ss.mergeSort fun x y=>decide (x≤y))=sA ks:=mergeSort_of_perm_i hp2;rw[ac3]at hrow;have hlen2:ss.length=(sA ks).length:=by rw[hp2.length_eq];simp[sA]
     obtain⟨g',e1,e2,e3⟩:=M9 (xs:=(sA ks).map fun n=>PV.int .i64 n) k hbl (by rw[List.length_map,←hlen2];exact hrow) (fun j z hz=>by
      rw[List.getElem?_map,Option.map_eq_some_iff]at hz;obtain⟨n,hn,rfl⟩:=hz;refine⟨rfl,fun g w=>?_⟩;rw[List.getD_eq_getElem?_getD,List.getElem?_map,hn];exact .int _ _)
     refine⟨v,g',rfl,e1,e2,?_⟩;unfold UA;rcases e3 with⟨h0,hv,hrv⟩ | hrv
     ·rw[if_pos (List.map_eq_nil_iff.1 h0)];exact hrv
     ·split
      ·rename_i h0
       have YR:ss=[]:=List.length_eq_zero_iff.1 (by rw[hlen2,h0];rfl);rw[hnil.2 YR];exact .bg
      ·exact hrv
    ·cases hr
   ·cases hr
  ·cases hr
 ·cases hr
end
end Go.Am
namespace Go.Am
def oY:List (PV × PV)→Option (List Nat)
 | []=>some []
 |(_,v)::r=>match v with
  | .bg=>(oY r).map (0::·)
  | .sl _ _ es=>(oY r).map (es.length::·)
  | .bX _ _ _ len _=>(oY r).map (len::·)
  | _=>none
noncomputable def PN:List PV→Hp→Option (PV × Option (Nat × List PV))
 | [.eL b],h=>(bR h b).ah fun es=>if es.length≤1048576 then(oY es).ah fun ls=>if ls.all (fun n=>decide (n≤17179869184))=true then some (.int .i64 (8+(ls.map fun n=>(7+n:Nat)).sum:Nat),none) else none else none
 | _,_=>none
def ig (lo hi n:Int):Int:=if hi<(if lo > n then lo else n) then hi else(if lo > n then lo else n)
def rq (b bb:Nat) (n s:Nat) (k:Nat):List PV:=[.bX true bb 0 n 1,.int .i64 s,.bX true b 0 k 1,.int .i64 0,.int .i64 (-1),.bool false]
def Na:List PV→Hp→Option (PV × List gW)
 | [.int .i64 a,.int .i64 z],h =>
  let k:=(ig 1 64 a).toNat
  let s:=(ig 16 4096 z).toNat
  some (.ptr (size h+2) 0,[.cells (List.replicate (k*s) (.int .u8 255)),.cells (List.replicate k (.int .i64 0)),.cells (rq (size h+1) (size h) (k*s) s k)])
 | _,_=>none
def X5:List PV→Hp→Option (PV × List gW)
 | [.int .i64 n],h=>if 0≤n∧n≤1000000 then some (.bX false (size h) 0 n.toNat 1,[.cells (List.replicate n.toNat .undef)]) else none
 | _,_=>none
section
open Go.RowKit (Below)
variable {P:Program} {I:Nat→World→Prop}
theorem zQ:∀ (n t:Nat) (acc:Array Value),(∀ j,∃ k x,acc.getD j (.int .u8 0)=.int k x)→∀ j,∃ k x,(Extern.BytealgMakeNoZero.digits n t acc).getD j (.int .u8 0)=.int k x
 | 0,t,acc,h=>h
 | n+1,t,acc,h=>by
  rw[Extern.BytealgMakeNoZero.digits];refine zQ n _ _ fun j=>?_
  rw[Array.getD_eq_getD_getElem?,Array.getElem?_push];split
  ·exact⟨_,_,rfl⟩
  ·have:=h j;rwa [Array.getD_eq_getD_getElem?]at this
theorem run_mk (w:World) (ps:Array TypeId) (t e:TypeId) (ht:P.underlying t=some (.slice e)) (n:Nat) (hn:n≤281474976710656) :
  ∃ cs:Array Value,(Extern.BytealgMakeNoZero.makeNoZero ps #[t] #[.int .i64 n]).run P w=.ok (.slice (some ⟨w.heap.size,0,none⟩) n cs.size) (w.drew.drew.alloc (.cells cs e))∧n≤cs.size∧∀ j,∃ k x,cs.getD j (.int .u8 0)=.int k x:=by
 have ac4:Extern.BytealgMakeNoZero.makeNoZero ps #[t] #[.int .i64 n] =
   (do
    let .slice elem ←underlying t | stuck "bytealg.MakeNoZero: slice type expected"
    if(n:Int)<0||(n:Int) > 2 ^ 48 then runtimePanic (.error "makeslice: len out of range")
    let cap ←choose (.appendCap (n:Int).toNat 0 elem)
    askRoom cap
    let bytes ←choose (.extern "internal/bytealg.MakeNoZero.bytes" 0)
    let a ←newRow elem (Extern.BytealgMakeNoZero.digits cap bytes #[])
    pure (.slice (some a) (n:Int).toNat cap)):=rfl
 refine⟨Extern.BytealgMakeNoZero.digits (grownCap w n 0 e) ((Question.extern "internal/bytealg.MakeNoZero.bytes" 0).cut (w.tape (w.drawn+1) (.extern "internal/bytealg.MakeNoZero.bytes" 0))) #[],?_,?_,?_⟩
 ·rw[ac4]
  have h1:¬ (n:Int)<0:=by omega
  have h2:¬ (281474976710656:Int)<(n:Int):=by omega
  simp[run_underlying ht,h1,h2,Question.forced,newRow,Lib.size_digits,grownCap]
 ·rw[Lib.size_digits]
  simpa using grownCap_ge w n 0 e
 ·exact zQ _ _ _ fun j=>⟨.u8,0,by simp⟩
theorem PR {f:Nat} {ps:Array TypeId} {t e:TypeId} (ht:P.underlying t=some (.slice e))
  (hrun:∀ (n:Nat) (w:World) (v:Value) (w':World),(Extern.BytealgMakeNoZero.makeNoZero ps #[t] #[.int .i64 n]).run P w=.ok v w'→(callFunc f #[.int .i64 n]).run P w=.ok (.value v) w'):mo P I f X5:=by
 intro vs h r hr N0 w0 g us w hI k hlen hrel;unfold X5 at hr;split at hr
 ·rename_i n
  split at hr
  ·rename_i hn
   simp only[Option.some.injEq]at hr;subst hr;obtain⟨m,rfl⟩ : ∃ m:Nat,n=m:=⟨n.toNat,by omega⟩;obtain⟨u,rfl⟩ : ∃ u,us=#[u]:=by
    have:us.size=1:=by simpa using hlen
    exact sg this
   have h1:=hrel 0 _ rfl;simp only[Array.getD_eq_getD_getElem?,List.getElem?_toArray,List.getElem?_cons_zero,Option.getD_some]at h1;generalize hu:u=U at h1;cases h1;obtain⟨cs,c1,c2,c3⟩:=run_mk (P:=P) w ps t e ht m (by omega);refine .inr ⟨_,_,hrun m w _ _ c1,?_⟩;have kd:ox N0 w0 g h w.drew.drew:=by
    have e1:∀ w:World,Ext N0 g w g w.drew:=fun w=>⟨Nat.le_refl _,fun _ _=>rfl,fun c m h=>⟨m,h,Nat.le_refl _⟩,fun _ _ _ _ _=>rfl,fun _ _ _=>rfl,fun _ _=>⟨Nat.le_refl _,fun _=>rfl⟩,fun _ _=>rfl⟩
    exact Ok.world (Ok.world k (e1 w) rfl ((Below.refl _ _).drew) (fun _ _ _ _=>⟨rfl,rfl⟩) (fun _ _=>rfl) k.arr) (e1 w.drew) rfl ((Below.refl _ _).drew) (fun _ _ _ _=>⟨rfl,rfl⟩) (fun _ _=>rfl) k.arr
   have ed:Ext N0 g w g w.drew.drew:=⟨Nat.le_refl _,fun _ _=>rfl,fun c m h=>⟨m,h,Nat.le_refl _⟩,fun _ _ _ _ _=>rfl,fun _ _ _=>rfl,fun _ _=>⟨Nat.le_refl _,fun _=>rfl⟩,fun _ _=>rfl⟩;simp only[Int.toNat_natCast];obtain⟨g',hx,hok,hn',hι,hcp⟩:=jP (a:=⟨#[],[]⟩) kd cs e (List.replicate m .undef) (by simpa using c2) (fun j x hx=>by
    rw[List.getElem?_replicate]at hx;split at hx
    ·rename_i hj
     cases hx;refine .undef _ fun b=>?_
     obtain⟨kk,xx,hc⟩:=c3 j;have hjs:j<cs.size:=by omega
     rw[Array.getD_eq_getD_getElem?,Array.getElem?_eq_getElem hjs,Option.getD_some]at hc;rw[Array.getD_eq_getD_getElem?,Array.getElem?_eq_getElem hjs,Option.getD_some,hc];simp
    ·cases hx) (fun T' hT=>by rw[List.getElem?_replicate]at hT;split at hT<;>cases hT) (lo:=0) (hi:=0) (by simp) (.inl rfl)
   refine⟨_,g',rfl,ed.trans hx,hok,?_⟩;have:=RV.bX (N0:=N0) (g:=g') (w:=w.drew.drew.alloc (.cells cs e)) false (size h) 0 m 1 cs.size (by omega) c2 (by simp) (by rw[hcp];omega);rw[hι]at this;exact this
  ·cases hr
 ·cases hr
end
end Go.Am
namespace Go.Am
open Go.RowKit (Below)
def iM:List PV→Option PV
 | [.str s,.str [c]]=>if c.toNat<128∧s.length≤9223372036854775807 then some (.str (Lib.trimRightB s c)) else none
 | _=>none
section
variable {N0:Nat} {g:G} {w:World} {vs:List PV} {us:Array Value}
theorem K9 {l:List UInt8} {u:Value} (h:RV N0 g w (.str l) u):u=.string ⟨l.toArray⟩:=by
 cases h with
 | str l s h=>subst h;rfl
theorem PS {x y:PV} (hl:us.size=[x,y].length) (hr:∀ (j:Nat) (z:PV),[x,y][j]?=some z→RV N0 g w z (us.getD j Go.undef)):∃ u v,us=#[u,v]∧RV N0 g w x u∧RV N0 g w y v:=by
 cases us with | mk l=>match l,hl with
  | [u,v],_=>exact⟨u,v,rfl,by simpa using hr 0 x rfl,by simpa using hr 1 y rfl⟩
theorem PT (l:List UInt8):RV N0 g w (.str l) (.string ⟨l.toArray⟩):=.str l _ (by simp)
end
section
variable {P:Program} {I:Nat→World→Prop} {f:Nat}
theorem zR (rj:∀ us w,(callFunc f us).run P w=.ok (.enter f us) w)
  (hc:∀ (s:ByteArray) (c:UInt8) (hc:c.toNat<128) (w:World) (hs:s.size≤9223372036854775807),Calls P f #[.string s,.string ⟨#[c]⟩] w fun e w'=>e=.returned (.string ⟨(Lib.trimRightB s.data.toList c).toArray⟩)∧w'=w):nK P I f (fun vs h=>(iM vs).map fun r=>(r,none)):=by
 refine FA rj fun vs r hr N0 w0 g us w hI hb hlen hrel=>?_
 unfold iM at hr;split at hr
 ·split at hr
  ·rename_i s c hn
   cases hr;obtain⟨u,v,rfl,h1,h2⟩:=PS hlen hrel;cases K9 h1;cases K9 h2;exact(hc ⟨s.toArray⟩ c hn.1 w (show s.toArray.size≤_ by simpa using hn.2)).mono fun e w' ⟨h1,h2⟩=>⟨_,h1,h2▸Below.refl _ _,fun g w=>PT _⟩
  ·cases hr
 ·cases hr
end
end Go.Am

namespace Go.Am
theorem Ds (e:Env) (i x r):eX e ((i,x)::r)=(ev e x).ah fun v=>(eX e r).ah fun l=>some ((i,strip v)::l):=by
 show Option.ah _ _=_;congr 1;funext v;cases eX e r<;>rfl
theorem BC (e:Env) (i n x r):eY e ((i,n,x)::r)=(ev e x).ah fun v=>(eY e r).ah fun l=>some ((i,n,v)::l):=by
 show Option.ah _ _=_;congr 1;funext v;cases eY e r<;>rfl
theorem qG (sz cs):eV sz [] cs=some cs:=(rfl)
theorem lJ (sz i v r cs):eV sz ((i,v)::r) cs=if v.cells.length=sz∧i<cs.length∧v.cells.all scalar=true then eV sz r (cs.set i v) else none:=(rfl)
theorem sB (cs):iy [] cs=some cs:=(rfl)
theorem iA (off n v r cs):iy ((off,n,v)::r) cs=if v.cells.length=n∧off+n≤cs.length∧v.cells.all scalar=true then iy r (bE cs off v.cells) else none:=(rfl)
theorem Jq (h):elems h .bg=some []:=(rfl)
theorem jR (h o sz es):elems h (.sl o sz es)=some es:=(rfl)
theorem mV (h f b off len):elems h (.bX f b off len 1)=(ay h b).ah fun cs=>if off+len≤cs.length∧((cs.drop off).take len).all scalar=true then some ((cs.drop off).take len) else none:=(rfl)
theorem Nc (h s):elems h (.str s)=some (s.map fun c=>.int .u8 c.toNat):=(rfl)
/-! Frames of which not all is known. -/
def orr:Option PV→Option PV→Option PV
 | some v,_=>some v
 | none,o=>o
theorem PU (o):orr none o=o:=(rfl)
theorem uY (t o r s):look (C5 t o r) s=if t=s then orr o (look r s) else look r s:=by
 cases o with
 | none=>show look r s=_;split<;>rfl
 | some v=>rfl
theorem FC (sz x):fits sz x=(x.cells.length == sz&&x.cells.all scalar):=(rfl)
theorem iN (k:IntKind) (i n:Nat) (h:i<n):ix (.int k i) n=some i:=by
 simp[ix,h]
theorem wrap_small {n:Int} (h0:-9223372036854775808≤n) (h1:n≤9223372036854775807):IntKind.i64.wrap n=n:=by rw[IntKind.wrap_i64];omega
/-! ace of which a law alone is known. -/
def Eb {α:Type} (x:Option α) (Q:α→Prop):Prop:=∃ a,x=some a∧Q a
theorem Eb.some {α:Type} {a:α} {Q:α→Prop} (h:Q a):Eb (some a) Q:=⟨a,rfl,h⟩
theorem Eb.of {α:Type} {x:Option α} {a:α} {Q:α→Prop} (hx:x=Option.some a) (h:Q a):Eb x Q:=⟨a,hx,h⟩
theorem Eb.mono {α:Type} {x:Option α} {P Q:α→Prop} (h:Eb x P) (hPQ:∀ a,P a→Q a):Eb x Q:=by
 obtain⟨a,h1,h2⟩:=h;exact⟨a,h1,hPQ a h2⟩
theorem Eb.rY {α:Type} {X:Option (rR × Env × Hp)} {K:rR→Env→Hp→Option α} {P:rR × Env × Hp→Prop} {Q:α→Prop} (hX:Eb X P) (hK:∀ x e h,P (x,e,h)→Eb (K x e h) Q):Eb (rY X K) Q:=by
 obtain⟨⟨x,e,h⟩,rfl,hp⟩:=hX;exact hK x e h hp
theorem Eb.ite {α:Type} {c:Prop} [Decidable c] {x y:Option α} {Q:α→Prop} (hx:c→Eb x Q) (hy:¬ c→Eb y Q):Eb (if c then x else y) Q:=by
 split
 ·rename_i hc;exact hx hc
 ·rename_i hc;exact hy hc
theorem Eb.eq {α:Type} {x y:Option α} {Q:α→Prop} (h:x=y) (hy:Eb y Q):Eb x Q:=h▸hy
/-! The other operations. -/
section more
variable {orc:Nat→List PV→Hp→Option (PV × Hp)} {base:Nat} {draw:Bool} {e:Env} {h:Hp}
def B9 (bx:Bool) (v:PV) (h:Hp):Option (PV × Hp):=match v with
  | .str s=>if s.length≤OH then(if bx then some (.bX false (size h) 0 s.length 1,ext h [.cells (s.map fun c=>.int .u8 c.toNat)]) else some (.sl .no 1 (s.map fun c=>.int .u8 c.toNat),h)) else none
  | _=>none
noncomputable def fL (h:Hp) (v:PV):Option PV:=match v with
  | .str _=>none
  | v=>(elems h v).ah fun es=>(bytesOf es).ah fun s=>some (.str s)
theorem Dt (h o z es):fL h (.sl o z es)=(bytesOf es).ah fun s=>some (.str s):=(rfl)
theorem zS (h):fL h .bg=some (.str []):=(rfl)
theorem BD (h f b off len z):fL h (.bX f b off len z)=(elems h (.bX f b off len z)).ah fun es=>(bytesOf es).ah fun s=>some (.str s):=(rfl)
theorem mH:∀ s:List UInt8,bytesOf (s.map fun c=>.int .u8 (c.toNat:Int))=some s
 | []=>rfl
 | c::s=>by simp[bytesOf,mH s]
def Jr (v:PV) (h:Hp):Option (PV × Hp):=match v with
  | .str s=>some (.it (size h),ext h [.iter s 0])
  | _=>none
theorem zT (s h):Jr (.str s) h=some (.it (size h),ext h [.iter s 0]):=(rfl)
noncomputable def uZ (v:PV) (h:Hp):Option (PV × Hp):=match v with
  | .it b=>(fQ h b).ah fun p =>
   if p.2<p.1.length then some (.cF [.bool true,.int .i64 p.2,.int .i32 (iF p.1 p.2).1],aC h b (.iter p.1 (p.2+(iF p.1 p.2).2)))
   else some (.cF [.bool false],h)
  | _=>none
theorem Js {h b s p} (hb:fQ h b=some (s,p)) (hp:p<s.length):uZ (.it b) h=some (.cF [.bool true,.int .i64 p,.int .i32 (iF s p).1],aC h b (.iter s (p+(iF s p).2))):=by
 simp only[uZ,hb,Option.ag,if_pos hp]
theorem Jt {h b s p} (hb:fQ h b=some (s,p)) (hp:¬ p<s.length):uZ (.it b) h=some (.cF [.bool false],h):=by
 simp only[uZ,hb,Option.ag,if_neg hp]
def sD (t:Nat) (ok:Bool) (z v:PV):Option PV:=match v with
  | .iface t' u=>if t'=t then(if ok then some (.cF [u,.bool true]) else some u) else if ok then some (.cF [z,.bool false]) else none
  | .dJ=>if ok then some (.cF [z,.bool false]) else none
  | _=>none
theorem zU (t ok z t' u):sD t ok z (.iface t' u)=if t'=t then(if ok then some (.cF [u,.bool true]) else some u) else if ok then some (.cF [z,.bool false]) else none:=(rfl)
theorem Du (t ok z):sD t ok z .dJ=if ok then some (.cF [z,.bool false]) else none:=(rfl)
noncomputable def VJ (neg:Bool) (ks:List Nat) (a b:PV):Option PV:=match a,b with
  | .agg cs,.agg ds=>(cy ks cs ds).ah fun b=>some (.bool (if neg then !b else b))
  | _,_=>none
theorem PW (neg ks cs ds):VJ neg ks (.agg cs) (.agg ds)=(cy ks cs ds).ah fun b=>some (.bool (if neg then !b else b)):=(rfl)
theorem FD:cy [] [] []=some true:=(rfl)
theorem Dw (k ks x xs y ys):cy (k::ks) (x::xs) (y::ys)=(fF k x y).ah fun b=>(cy ks xs ys).ah fun c=>some (b&&c):=(rfl)
theorem FE (a b):fF 0 (.bool a) (.bool b)=some (a == b):=(rfl)
theorem Ju (k a j b):fF 1 (.int k a) (.int j b)=if k=j then some (a == b) else none:=(rfl)
theorem Jv (a b):fF 2 (.str a) (.str b)=some (a == b):=(rfl)
def ac9 (T:Nat) (z:List PV) (n:Nat × Nat) (h:Hp):Option (PV × Hp) :=
   if n.1=n.2 then some (.bX true (size h) 0 n.1 z.length,ext h [.cells (List.flatten (List.replicate n.1 z))])
   else if n.1=0 then some (.sl (.tok (size h)) z.length [],ext h [.tok 0 T]) else none
theorem PX (T z n h):ac9 T z (n,n) h=some (.bX true (size h) 0 n z.length,ext h [.cells (List.flatten (List.replicate n z))]):=by simp[ac9]
theorem ad3 (k l j c):KP (.int k l) (.int j c)=if 0≤l∧l≤c∧c≤gA then some (l.toNat,c.toNat) else none:=(rfl)
theorem ad4 (k j) (n:Nat) (hn:n≤gA):KP (.int k n) (.int j n)=some (n,n):=by
 rw[ad3,if_pos (by omega)];simp
theorem PY (b h):uZ (.it b) h=(fQ h b).ah fun p=>if p.2<p.1.length then some (.cF [.bool true,.int .i64 p.2,.int .i32 (iF p.1 p.2).1],aC h b (.iter p.1 (p.2+(iF p.1 p.2).2)))
   else some (.cF [.bool false],h):=(rfl)
def YS (n:Nat):PV→Option Nat
 | .int _ i=>if 0≤i∧i≤n then some i.toNat else none
 | _=>none
theorem La (n k i):YS n (.int k i)=if 0≤i∧i≤n then some i.toNat else none:=(rfl)
theorem fV (n k) (i:Nat) (h:i≤n):YS n (.int k i)=some i:=by rw[La,if_pos (by omega)];simp
theorem S2 (e n d x):bd e n d (some x)=(ev e x).ah fun v=>YS n v:=(rfl)
theorem Nd:isFull .no=false:=(rfl)
theorem FG:isFull .full=true:=(rfl)
theorem Jw (t):isFull (.tok t)=false:=(rfl)
/-! Slices that grow. -/
structure Ta (h:Hp) (o:PV) (T sz:Nat) (es:List PV) (v:PV):Prop where
 is:(v=o∧es=[]∧(o=.bg∨o=.sl .full sz []))∨∃ t,v=.sl (.tok t) sz es∧dw h t=some (es.length,T)∧es≠[]
end more
/-! A heap over another: the acf boxes are as tv CX. -/
structure Ov (h k:Hp):Prop where
 size:size h≤Go.Am.size k
 same:∀ b,b<Go.Am.size h→bY k b=bY h b
theorem Ov.refl (h:Hp):Ov h h:=⟨Nat.le_refl _,fun _ _=>rfl⟩
theorem Ov.trans {a b c:Hp} (x:Ov a b) (y:Ov b c):Ov a c:=⟨Nat.le_trans x.size y.size,fun n hn=>(y.same n (Nat.lt_of_lt_of_le hn x.size)).trans (x.same n hn)⟩
theorem Ov.ext {h k:Hp} (x:Ov h k) (l:List gW):Ov h (Go.Am.ext k l):=⟨by rw[aW];exact Nat.le_trans x.size (Nat.le_add_right _ _),fun b hb=>(dP (Nat.lt_of_lt_of_le hb x.size)).trans (x.same b hb)⟩
theorem Ov.set {h k:Hp} (x:Ov h k) {b:Nat} (hb:Go.Am.size h≤b) (y:gW):Ov h (aC k b y):=⟨by rw[aJ];exact x.size,fun c hc=>(cN (by omega)).trans (x.same c hc)⟩
theorem Ov.bJ {h k:Hp} (x:Ov h k):Go.Am.bJ k (Go.Am.size h)=h:=by
 apply List.ext_getElem?;intro i;rcases Nat.lt_or_ge i (Go.Am.size h) with hi | hi
 ·have:=x.same i hi
  simp only[bY]at this;simp only[Go.Am.bJ,List.getElem?_take,if_pos hi,this]
 ·simp only[Go.Am.bJ,List.getElem?_take,if_neg (by omega:¬ i<Go.Am.size h)]
  exact(List.getElem?_eq_none hi).symm
theorem Ov.ay {h k:Hp} (x:Ov h k) {b:Nat} {cs:List PV} (hb:Go.Am.ay h b=some cs):Go.Am.ay k b=some cs:=by
 rw[Go.Am.ay,x.same b (gQ hb)];exact hb
theorem Ov.dw {h k:Hp} (x:Ov h k) {b:Nat} {n:Nat × Nat} (hb:Go.Am.dw h b=some n):Go.Am.dw k b=some n:=by
 rw[Go.Am.dw,x.same b (kE hb)];exact hb
theorem Jx (xs:List PV):(aO xs).length=xs.length:=by induction xs<;>simp_all [aO]
theorem Ta.grow {h0 h:Hp} {o:PV} {T sz:Nat} {es xs:List PV} {v:PV} (b:Ta h o T sz es v) (ht:∀ t es,v=.sl (.tok t) sz es→size h0≤t) (ov:Ov h0 h) (hx:xs.all (fits sz)=true) (hl:es.length+xs.length≤gA) :
  ∃ v' h',gr h T sz v xs=some (v',h')∧Ta h' o T sz (es++aO xs) v'∧(∀ t es,v'=.sl (.tok t) sz es→size h0≤t)∧Ov h0 h'∧size h≤size h'∧∀ c cs,ay h c=some cs→ay h' c=some cs:=by
 have sl:=Jx xs
 by_cases hne:xs=[]
 ·subst hne
  rcases b.is with⟨rfl,rfl,rfl | rfl⟩ | ⟨t,rfl,h2,h3⟩
  ·exact⟨.bg,h,by simp[gr],⟨.inl ⟨rfl,rfl,.inl rfl⟩⟩,ht,ov,Nat.le_refl _,fun _ _ h=>h⟩
  ·exact⟨_,h,by simp[gr],⟨.inl ⟨rfl,rfl,.inr rfl⟩⟩,ht,ov,Nat.le_refl _,fun _ _ h=>h⟩
  ·refine⟨.sl (.tok t) sz es,aC h t (.tok es.length T),?_,⟨.inr ⟨t,by simp[aO],?_,by simpa[aO] using h3⟩⟩,ht,ov.set (ht t es rfl) _,by rw[aJ];exact Nat.le_refl _,fun c cs hc=>?_⟩
   ·simp at hl
    simp[gr,h2,hl,aO,Option.ag]
   ·rw[nZ (kE h2)];simp[aO]
   ·rw[bD];exact hc
    rintro rfl;have q1:=k9 h2;have q2:=bq hc;rw[q1]at q2;cases q2
 ·have hpos:xs.isEmpty=false:=by cases xs<;>simp_all
  have hns:aO xs≠[]:=by cases xs<;>simp_all [aO]
  rcases b.is with⟨rfl,rfl,rfl | rfl⟩ | ⟨t,rfl,h2,h3⟩
  ·simp at hl
   refine⟨.sl (.tok (size h)) sz (aO xs),Go.Am.ext h [.tok xs.length T],by simp[gr,hx,hl,hpos],⟨.inr ⟨size h,by simp,by rw[kD];simp[nX,sl],by simpa using hns⟩⟩,fun t es hq=>by cases hq;exact ov.size,ov.ext _,by rw[aW];omega,fun c cs hc=>?_⟩;rw[aX (gQ hc)];exact hc
  ·simp at hl
   refine⟨.sl (.tok (size h)) sz (aO xs),Go.Am.ext h [.tok xs.length T],by simp[gr,hx,hl,hpos],⟨.inr ⟨size h,by simp,by rw[kD];simp[nX,sl],by simpa using hns⟩⟩,fun t es hq=>by cases hq;exact ov.size,ov.ext _,by rw[aW];omega,fun c cs hc=>?_⟩;rw[aX (gQ hc)];exact hc
  ·refine⟨.sl (.tok t) sz (es++aO xs),aC h t (.tok (es.length+xs.length) T),?_,⟨.inr ⟨t,rfl,?_,by simp[h3]⟩⟩,fun t' es' hq=>by cases hq;exact ht t es rfl,ov.set (ht t es rfl) _,by rw[aJ];exact Nat.le_refl _,fun c cs hc=>?_⟩
   ·simp[gr,hx,h2,hl,Option.ag]
   ·rw[nZ (kE h2)];simp[sl]
   ·rw[bD];exact hc
    rintro rfl;have q1:=k9 h2;have q2:=bq hc;rw[q1]at q2;cases q2
def done (o:PV) (sz:Nat) (es:List PV):PV:=if es.isEmpty then o else .sl .no sz es
theorem Ta.gY {h:Hp} {o:PV} {T sz:Nat} {es:List PV} {v:PV} (b:Ta h o T sz es v) (n:Nat) (k:Hp):Go.Am.gY n k v=some (done o sz es):=by
 rcases b.is with⟨rfl,rfl,rfl | rfl⟩ | ⟨t,rfl,h2,h3⟩
 ·rfl
 ·rfl
 ·have:es.isEmpty=false:=by cases es<;>simp_all
  simp[Go.Am.gY,done,this,Own.strip]
theorem Ta.len {h:Hp} {o:PV} {T sz:Nat} {es:List PV} {v:PV} (b:Ta h o T sz es v):cB false v=some (.int .i64 es.length):=by
 rcases b.is with⟨rfl,rfl,rfl | rfl⟩ | ⟨t,rfl,h2,h3⟩<;>rfl
theorem Ta.elems {h:Hp} {o:PV} {T sz:Nat} {es:List PV} {v:PV} (b:Ta h o T sz es v) (k:Hp):Go.Am.elems k v=some es:=by
 rcases b.is with⟨rfl,rfl,rfl | rfl⟩ | ⟨t,rfl,h2,h3⟩<;>rfl
end Go.Am
namespace Go.Am
noncomputable def ax (n:Nat) (agg:Bool) (v:PV) (h:Hp):Option PV:=match v with
 | .ptr b off=>(ay h b).ah fun cs=>part cs off n agg
 | .ep cs off=>part cs off n agg
 | _=>none
noncomputable def aS (base n:Nat) (v u:PV) (h:Hp):Option Hp:=match v with
 | .ptr b off=>(ay h b).ah fun cs =>
   if u.cells.length=n∧off+n≤cs.length∧u.cells.all scalar=true∧(b<base→belows 0 (aO u.cells)=true)
   then some (cx h b (bE cs off (if b<base then aO u.cells else u.cells))) else none
 | _=>none
def eo {α:Type} (z:List PV) (h:Hp) (K:PV→Hp→Option α):Option α:=K (.ptr (size h) 0) (ext h [.cells z])
def tK (n:Nat) (v:PV) (h:Hp):Option (PV × Hp):=if v.cells.length=n∧v.cells.all scalar=true then some (.ptr (size h) 0,ext h [.cells v.cells]) else none
noncomputable def dz (z:List PV) (l:List (Nat × Nat × PV)):Option PV:=(iy l z).ah fun cs=>some (.agg cs)
noncomputable def cH (sz:Nat) (agg:Bool) (z:List PV) (len:Nat) (l:List (Nat × PV)):Option PV :=
 (eV sz l (List.replicate len (if agg then .agg z else z.headD .undef))).ah fun es=>some (.sl .full sz es)
noncomputable def aF (v:PV):Option PV:=(isNil v).ah fun b=>if b then none else some v
noncomputable def gG (kd:Nat) (neg:Bool) (v:PV):Option PV:=(jk kd v).ah fun b=>some (.bool (if neg then !b else b))
noncomputable def PZ (T:Nat) (z:List PV) (l c:PV) (h:Hp):Option (PV × Hp):=(KP l c).ah fun n=>ac9 T z n h
noncomputable def copyV (base:Nat) (v u:PV) (h:Hp):Option (PV × Hp):=(elems h u).ah fun xs=>match v with
  | .bX _ b off len sz=>(ay h b).ah fun cs =>
    if sz=1∧off+len≤cs.length∧xs.all scalar=true∧(b<base→belows 0 (xs.take len)=true)
    then some (.int .i64 (min xs.length len:Nat),cx h b (bE cs off (xs.take len))) else none
  | .bg=>some (.int .i64 0,h)
  | _=>none
def oZ (n dflt:Nat):Option PV→Option Nat
 | none=>some dflt
 | some v=>YS n v
noncomputable def cO (n:Option Nat) (lo hi mx:Option PV):PV→Option PV
 | .str s=>if mx.isSome∨n.isSome then none else
  (oZ s.length s.length hi).ah fun hh=>(oZ hh 0 lo).ah fun l=>some (.str ((s.drop l).take (hh-l)))
 | .bg=>if n.isSome then(oZ 0 0 mx).ah fun m=>(oZ 0 0 hi).ah fun hh=>(oZ 0 0 lo).ah fun l=>some .bg else none
 | .sl o sz es=>if n=some sz then(oZ es.length es.length mx).ah fun m=>(oZ m es.length hi).ah fun hh=>(oZ hh 0 lo).ah fun l =>
   some (.sl (if mx.isSome&&m == hh then .full else if mx.isNone&&isFull o&&hh == es.length then .full else .no) sz ((es.drop l).take (hh-l)))
   else none
 | .bX f b off len sz=>if n=some sz then(oZ len len mx).ah fun m=>(oZ m len hi).ah fun hh=>(oZ hh 0 lo).ah fun l =>
   if hh-l=0 then some (.sl (if mx.isSome&&m == hh then .full else .no) sz []) else some (.bX (if mx.isSome&&m == hh then true else mx.isNone&&f&&hh == len) b (off+l*sz) (hh-l) sz)
   else none
 | _=>none
noncomputable def aN (sz len:Nat) (v i:PV):Option PV:=match v with
  | .ptr b o=>(ix i len).ah fun i=>some (.ptr b (o+i*sz))
  | .ep cs o=>(ix i len).ah fun i=>some (.ep cs (o+i*sz))
  | _=>none
noncomputable def sE (sz:Nat) (agg:Bool) (len:Nat) (v i:PV):Option PV:=match v with
  | .agg cs=>(ix i len).ah fun i=>part cs (i*sz) sz agg
  | _=>none
noncomputable def jI (mx:Bool) (vs:List PV):Option PV:=match vs with
  | []=>none
  | x::r=>mF mx x r
noncomputable def P0 (sz:Nat) (v u:PV) (h:Hp):Option PV:=(elems h u).ah fun xs =>
   if xs.all (fun x=>x.cells.length == sz) then
   match v with
   | .bg=>if xs.length≤gA then some (if xs.isEmpty then .bg else .sl .no sz (aO xs)) else none
   | .sl .full sz' es=>if sz'=sz∧es.length+xs.length≤gA then some (if xs.isEmpty then .sl .full sz es else .sl .no sz (es++aO xs)) else none
   | _=>none
   else none
noncomputable def qH (T sz:Nat) (v u:PV) (h:Hp):Option (PV × Hp):=(elems h u).ah fun xs=>gr h T sz v xs
noncomputable def sF (sz:Nat) (v u:PV) (h:Hp):Option (PV × Hp):=(elems h u).ah fun xs=>(tu h v).ah fun es =>
   if xs=[] then some (v,h) else
   if sz=1∧xs.all (fun x=>x.cells.length == sz)=true∧es.all (fun x=>x.cells.length == sz)=true∧es.length+xs.length≤gA∧xs.all scalar=true∧es.all scalar=true then
    some (.bX false (size h) 0 (es.length+xs.length) sz,ext h [.cells (es++xs)])
   else none
noncomputable def zV (n:Nat) (agg:Bool) (q v:PV) (h:Hp):Option PV:=match q,v with
 | .ptr c _,.ptr b off=>if b=c then none else ax n agg (.ptr b off) h
 | .ptr _ _,.ep cs off=>ax n agg (.ep cs off) h
 | _,_=>none
noncomputable def Dy (base n:Nat) (q v u:PV) (h:Hp):Option Hp:=match q,v with
 | .ptr c _,.ptr b off=>if b=c then aS base n (.ptr b off) u h else none
 | _,_=>none
noncomputable def nL (n:Nat) (sz:Nat) (agg:Bool) (v:PV) (h:Hp):Option PV:=match v with
 | .ptr b off=>if b<n then ax sz agg (.ptr b off) h else none
 | .ep cs off=>ax sz agg (.ep cs off) h
 | _=>none
def Jy (orc:iG) (v:PV) (vs:List PV) (h:Hp):Option (PV × Hp):=match v with
 | .fn f cap=>orc f (vs++cap) h
 | _=>none
noncomputable def HJ (e:Env):Option bH→Option (Option PV)
 | none=>some none
 | some x=>(ev e x).ah fun v=>some (some v)
noncomputable def cg {α:Type} (orc:iG) (base:Nat) (draw:Bool) (op:iP) (e:Env) (h:Hp) (K:PV→Hp→Option α):Option α :=
 match op with
 | .Uk x=>(ev e x).ah fun v=>K v h
 | .pick c a b=>(ev e c).ah fun v=>(aD v (ev e a) (ev e b)).ah fun r=>K r h
 | .alloc z=>eo z h K
 | .box n x=>(ev e x).ah fun v=>aH (tK n v h) K
 | .build z ps=>(eY e ps).ah fun l=>(dz z l).ah fun r=>K r h
 | .pQ sz agg z len ps=>(eX e ps).ah fun l=>(cH sz agg z len l).ah fun r=>K r h
 | .load n agg a=>(ev e a).ah fun v=>(ax n agg v h).ah fun r=>K r h
 | .store n a x=>(ev e a).ah fun v=>(ev e x).ah fun u=>(aS base n v u h).ah fun h=>K .undef h
 | .rO x=>(ev e x).ah fun v=>(aF v).ah fun r=>K r h
 | .bin op x y=>(ev e x).ah fun a=>(ev e y).ah fun b=>(binOp op a b).ah fun r=>K r h
 | .CU neg x y=>(ev e x).ah fun a=>(ev e y).ah fun b=>(KV neg a b).ah fun r=>K r h
 | .oB kd neg x=>(ev e x).ah fun v=>(gG kd neg v).ah fun r=>K r h
 | .un op x=>(ev e x).ah fun a=>(unOp op a).ah fun r=>K r h
 | .toInt k x=>(ev e x).ah fun v=>(ct v k).ah fun r=>K r h
 | .ir bx x=>(ev e x).ah fun v=>aH (B9 bx v h) K
 | .iu x=>(ev e x).ah fun v=>(fL h v).ah fun r=>K r h
 | .HW t x=>(ev e x).ah fun v=>K (.iface t v) h
 | .HV f cap=>(nA e cap).ah fun vs=>K (.fn f vs) h
 | .mD T z agg len cap=>(ev e len).ah fun l=>(ev e cap).ah fun c=>aH (PZ T z l c h) K
 | .oC d x=>(ev e d).ah fun v=>(ev e x).ah fun u=>aH (copyV base v u h) K
 | .range x=>(ev e x).ah fun v=>aH (Jr v h) K
 | .next x=>(ev e x).ah fun v=>aH (uZ v h) K
 | .eqv neg ks x y=>(ev e x).ah fun a=>(ev e y).ah fun b=>(VJ neg ks a b).ah fun r=>K r h
 | .slice n x lo hi mx=>(ev e x).ah fun v=>(HJ e lo).ah fun lo=>(HJ e hi).ah fun hi=>(HJ e mx).ah fun mx=>(cO n lo hi mx v).ah fun r=>K r h
 | .nC off x=>(ev e x).ah fun v=>(aA v off).ah fun r=>K r h
 | .field off n agg x=>(ev e x).ah fun v=>(IA v off n agg).ah fun r=>K r h
 | .CV sz x i=>(ev e x).ah fun v=>(ev e i).ah fun i=>(cW v i sz).ah fun r=>K r h
 | .oD sz len x i=>(ev e x).ah fun v=>(ev e i).ah fun i=>(aN sz len v i).ah fun r=>K r h
 | .nD x i=>(ev e x).ah fun v=>(ev e i).ah fun i=>(lY v i).ah fun r=>K r h
 | .oE sz agg len x i=>(ev e x).ah fun v=>(ev e i).ah fun i=>(sE sz agg len v i).ah fun r=>K r h
 | .extract x i=>(ev e x).ah fun v=>(aE v i).ah fun r=>K r h
 | .kC t ok z x=>(ev e x).ah fun v=>(sD t ok z v).ah fun r=>K r h
 | .len str x=>(ev e x).ah fun v=>(cB str v).ah fun r=>K r h
 | .mE mx xs=>(nA e xs).ah fun vs=>(jI mx vs).ah fun r=>K r h
 | .append sz s x=>(ev e s).ah fun v=>(ev e x).ah fun u=>(P0 sz v u h).ah fun r=>K r h
 | .iC T sz s x=>(ev e s).ah fun v=>(ev e x).ah fun u=>aH (qH T sz v u h) K
 | .fD sz s x=>(ev e s).ah fun v=>(ev e x).ah fun u=>aH (sF sz v u h) K
 | .call f args=>(nA e args).ah fun vs=>aH (orc f vs h) fun v h'=>if draw then(if h'=h then K v h else none) else K v h'
 | .lX x args=>(ev e x).ah fun v=>(nA e args).ah fun vs=>aH (Jy orc v vs h) fun v h'=>if draw then(if h'=h then K v h else none) else K v h'
 | .jm f args=>(nA e args).ah fun vs=>aH (gv orc f vs h) fun v h'=>if h'=h then K v h else none
 | .gy t n agg a=>(look e t).ah fun q=>(ev e a).ah fun v=>(zV n agg q v h).ah fun r=>K r h
 | .fR t n a x=>(look e t).ah fun q=>(ev e a).ah fun v=>(ev e x).ah fun u=>(Dy base n q v u h).ah fun h=>K .undef h
 | .gen k xs=>(nA e xs).ah fun vs=>aH (cV base h k vs) K
 | .fE k n agg a=>(ev e a).ah fun v=>(nL (base+k) n agg v h).ah fun r=>K r h
 | .iW k f args=>(nA e args).ah fun vs=>aH (oH orc (base+k) f vs h) fun v h'=>if draw then(if h'=h then K v h else none) else K v h'
 | .qQ k g xs=>(nA e xs).ah fun vs=>aH (rQ base k h g vs) K
 | .stuck=>none
theorem bA {α β:Type} (x:Option α) {f g:α→Option β} (h:∀ a,f a=g a):x.ah f=x.ah g:=by rw[show f=g from funext h]
theorem KO {α β:Type} {c:Prop} [Decidable c] (x y:Option α) (f:α→Option β):(if c then x else y).ah f=if c then x.ah f else y.ah f:=by split<;>rfl
theorem mW {α β γ:Type} (x:Option γ) (f:γ→Option (β × Hp)) (k:β→Hp→Option α):aH (x.ah f) k=x.ah fun a=>aH (f a) k:=by cases x<;>rfl
theorem Dz {α:Type} (e:Env) (n d:Nat) (x:Option bH) (g:Nat→Option α):(bd e n d x).ah g=(HJ e x).ah fun v=>(oZ n d v).ah g:=by
 cases x with
 | none=>rfl
 | some x=>simp only[S2,HJ,aG,Option.ag,oZ]
theorem Jz {e:Env} {x:Option bH} {v:Option PV} (h:HJ e x=some v):v.isSome=x.isSome:=by
 cases x with
 | none=>cases h;rfl
 | some x=>simp only[HJ,Option.aa]at h;obtain⟨a,_,h⟩:=h;cases h;rfl
theorem FH (e:Env) (n lo hi mx) (v:PV):iD e n lo hi mx v=(HJ e lo).ah fun a=>(HJ e hi).ah fun b=>(HJ e mx).ah fun c=>cO n a b c v:=by
 have key:∀ {α:Type} (x:Option α) (f:α→Option PV),(∀ a,f a=none)→x.ah f=none:=by intro α x f h;cases x<;>simp[Option.ah,h]
 cases hl:HJ e lo with
 | none =>
  have hz:∀ {α:Type} (n d:Nat) (g:Nat→Option α),(bd e n d lo).ah g=none:=by intro α n d g;rw[Dz,hl];rfl
  show _=none;cases v<;>simp only[iD,hz]<;>first | rfl | (split<;>first | rfl | (apply key;intro a;first | rfl | (apply key;intro a;rfl)))
 | some a =>
  cases hh:HJ e hi with
  | none =>
   have hz:∀ {α:Type} (n d:Nat) (g:Nat→Option α),(bd e n d hi).ah g=none:=by intro α n d g;rw[Dz,hh];rfl
   show _=none;cases v<;>simp only[iD,hz]<;>first | rfl | (split<;>first | rfl | (apply key;intro a;rfl))
  | some b =>
   cases hm:HJ e mx with
   | none =>
    have hz:∀ {α:Type} (n d:Nat) (g:Nat→Option α),(bd e n d mx).ah g=none:=by intro α n d g;rw[Dz,hm];rfl
    have hs:mx.isSome=true:=by cases mx with | none=>cases hm | some x=>rfl
    show _=none;cases v<;>simp only[iD,hz,hs,true_or,if_true]<;>first | rfl | (split<;>rfl)
   | some c =>
    have e1:=Jz hm;have e2:c.isNone=mx.isNone:=by cases c<;>cases mx<;>simp_all
    simp only[Option.ag];cases v<;>simp only[iD,cO,Dz,hl,hh,hm,Option.ag,e1,e2]
theorem o7 {α:Type} (orc:iG) (base:Nat) (draw:Bool) (op:iP) (e:Env) (h:Hp) (K:PV→Hp→Option α) :
  cg orc base draw op e h K=(step orc base draw op e h).ah fun x=>K x.1 x.2.2:=by
 cases op with
 | Uk x=>simp only[cg,step,aG,Option.ag]
 | pick c a b =>
  simp only[cg,step,aG];refine bA _ fun v=>?_
  cases v<;>try rfl
  rename_i b;cases b<;>simp only[aD,aG,Option.ag]
 | alloc z=>rfl
 | box n x =>
  simp only[cg,step,aG];refine bA _ fun v=>?_
  simp only[tK];split<;>rfl
 | build z ps=>simp only[cg,step,dz,aG,Option.ag]
 | pQ sz agg z len ps=>simp only[cg,step,cH,aG,Option.ag]
 | load n agg a =>
  simp only[cg,step,aG];refine bA _ fun v=>?_
  cases v<;>simp only[ax,aG,Option.ag,Option.iq]
 | store n a x =>
  simp only[cg,step,aG];refine bA _ fun v=>bA _ fun u=>?_
  cases v<;>simp only[aS,aG,Option.ag,Option.iq]
  refine bA _ fun cs=>?_
  split<;>rfl
 | rO x =>
  simp only[cg,Ix,aF,aG];refine bA _ fun v=>bA _ fun b=>?_
  cases b<;>rfl
 | bin op x y=>simp only[cg,step,aG,Option.ag]
 | CU neg x y=>simp only[cg,Mm,aG,Option.ag]
 | oB kd neg x=>simp only[cg,step,gG,aG,Option.ag]
 | un op x=>simp only[cg,step,aG,Option.ag]
 | toInt k x=>simp only[cg,Iy,aG,Option.ag]
 | ir bx x =>
  simp only[cg,step,aG];refine bA _ fun v=>?_
  cases v<;>try rfl
  simp only[B9];split
  ·cases bx<;>rfl
  ·rfl
 | iu x =>
  simp only[cg,step,aG];refine bA _ fun v=>?_
  cases v<;>first | rfl | simp only[fL,aG,Option.ag]
 | HW t x=>simp only[cg,step,aG,Option.ag]
 | HV f cap=>simp only[cg,step,aG,Option.ag]
 | mD T z agg len cap =>
  simp only[cg,step,PZ,aG,mW];refine bA _ fun l=>bA _ fun c=>bA _ fun n=>?_
  simp only[ac9];split
  ·rfl
  ·split<;>rfl
 | oC d x =>
  simp only[cg,step,copyV,aG,mW];refine bA _ fun v=>bA _ fun u=>bA _ fun xs=>?_
  cases v<;>simp only[aG,mW,Option.ag,Option.iq,az,BR]
  refine bA _ fun cs=>?_
  split<;>rfl
 | range x =>
  simp only[cg,step,aG];refine bA _ fun v=>?_
  cases v<;>rfl
 | next x =>
  simp only[cg,step,aG];refine bA _ fun v=>?_
  cases v<;>try rfl
  simp only[uZ,aG,mW];refine bA _ fun p=>?_
  split<;>rfl
 | eqv neg ks x y =>
  simp only[cg,step,aG];refine bA _ fun a=>bA _ fun b=>?_
  cases a<;>try rfl
  cases b<;>try rfl
  simp only[VJ,aG,Option.ag]
 | slice n x lo hi mx =>
  simp only[cg,step,FH,aG,Option.ag]
 | nC off x=>simp only[cg,EC,aG,Option.ag]
 | field off n agg x=>simp only[cg,IC,aG,Option.ag]
 | CV sz x i=>simp only[cg,Mo,aG,Option.ag]
 | oD sz len x i =>
  simp only[cg,step,aG];refine bA _ fun v=>bA _ fun i=>?_
  cases v<;>simp only[aN,aG,Option.ag,Option.iq]
 | nD x i=>simp only[cg,ED,aG,Option.ag]
 | oE sz agg len x i =>
  simp only[cg,step,aG];refine bA _ fun v=>bA _ fun i=>?_
  cases v<;>simp only[sE,aG,Option.ag,Option.iq]
 | extract x i=>simp only[cg,C7,aG,Option.ag]
 | kC t ok z x =>
  simp only[cg,step,aG];refine bA _ fun v=>?_
  cases v<;>try rfl
  ·cases ok<;>rfl
  ·simp only[sD];split
   ·cases ok<;>rfl
   ·cases ok<;>rfl
 | len str x=>simp only[cg,OZ,aG,Option.ag]
 | mE mx xs =>
  simp only[cg,step,aG];refine bA _ fun vs=>?_
  cases vs<;>simp only[jI,aG,Option.ag,Option.iq]
 | append sz s x =>
  simp only[cg,step,P0,aG];refine bA _ fun v=>bA _ fun u=>bA _ fun xs=>?_
  split
  ·cases v with
   | bg=>simp only;split<;>rfl
   | sl o z es=>cases o<;>first | rfl | (simp only;split<;>rfl)
   | _=>rfl
  ·rfl
 | iC T sz s x =>
  simp only[cg,step,qH,aG,mW];refine bA _ fun v=>bA _ fun u=>bA _ fun xs=>?_
  cases gr h T sz v xs<;>rfl
 | fD sz s x =>
  simp only[cg,step,sF,aG,mW];refine bA _ fun v=>bA _ fun u=>bA _ fun xs=>bA _ fun es=>?_
  split
  ·rfl
  ·split<;>rfl
 | call f args =>
  simp only[cg,step,aG];refine bA _ fun vs=>?_
  cases orc f vs h with
  | none=>rfl
  | some x =>
   obtain⟨v,h'⟩:=x;simp only[az,Option.ag];cases draw
   ·rfl
   ·simp only[if_true];split<;>rfl
 | lX x args =>
  simp only[cg,step,aG];refine bA _ fun v=>?_
  have key:∀ (x:Option (List PV)) (f:List PV→Option α),(∀ a,f a=none)→x.ah f=none:=by intro x f h;cases x<;>simp[Option.ah,h]
  cases v with
  | fn f cap =>
   simp only[aG];refine bA _ fun vs=>?_
   simp only[Jy];cases orc f (vs++cap) h with
   | none=>rfl
   | some x =>
    obtain⟨v,h'⟩:=x;simp only[az,Option.ag];cases draw
    ·rfl
    ·simp only[if_true];split<;>rfl
  | _=>exact key _ _ fun _=>rfl
 | gen k xs =>
  simp only[cg,step,aG];refine bA _ fun vs=>?_
  cases cV base h k vs<;>rfl
 | qQ k g xs =>
  simp only[cg,step,aG];refine bA _ fun vs=>?_
  cases rQ base k h g vs<;>rfl
 | fE k n agg a =>
  simp only[cg,step,aG];refine bA _ fun v=>?_
  cases v<;>try rfl
  ·simp only[nL];split
   ·simp only[ax,aG,Option.ag]
   ·rfl
  ·simp only[nL,ax,aG,Option.ag]
 | iW k f args =>
  simp only[cg,step,aG];refine bA _ fun vs=>?_
  cases oH orc (base+k) f vs h with
  | none=>rfl
  | some x =>
   obtain⟨v,h'⟩:=x;simp only[az,Option.ag];cases draw
   ·rfl
   ·simp only[if_true];split<;>rfl
 | jm f args =>
  simp only[cg,step,aG];refine bA _ fun vs=>?_
  cases gv orc f vs h with
  | none=>rfl
  | some x =>
   obtain⟨v,h'⟩:=x;simp only[az,Option.ag];split<;>rfl
 | gy t n agg a =>
  simp only[cg,step,aG];refine bA _ fun q=>bA _ fun v=>?_
  cases q<;>try rfl
  cases v<;>try rfl
  ·simp only[zV];split
   ·rfl
   ·simp only[ax,aG,Option.ag]
  ·simp only[zV,ax,aG,Option.ag]
 | fR t n a x =>
  simp only[cg,step,aG];refine bA _ fun q=>bA _ fun v=>bA _ fun u=>?_
  cases q<;>try rfl
  cases v<;>try rfl
  simp only[Dy];split
  ·simp only[aS,aG];refine bA _ fun cs=>?_
   split<;>rfl
  ·rfl
 | stuck=>rfl
end Go.Am
