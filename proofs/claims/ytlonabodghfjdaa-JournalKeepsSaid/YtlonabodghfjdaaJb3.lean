/- 'Am': functions of the library over maps: a copy of a map; a map's keys in order. | 'Am': what a journal takes of a new map box, of its need, of a new flash. Definitions. | More evaluating equations. By the session's AI agent. | The machine's code as plain functions of what lies in its slots: each operation hands on what it gives. | Points of a function's code: what the rest of the function does from there, as a plain function of the slots. | Code that keeps fewer slots: what it answers, the code answers. | The functions of the seat as the abstract machine's code, printed by a program of this work (wip/v2/shcode.sh, mksh.py). | The functions of the seat as the abstract machine's code, printed by a program of this work (wip/v2/shcode.sh, mksh.py). | What the functions do from point to point, as equations. Printed by wip/v2/shcode.sh, mksh.py. | Evaluating equations of the plain functions. | The evaluating equations, bundled. Printed by a program of this work. By the session's AI agent. | Slices that grow on top of a heap; bytes. | Slices of values of one form, by value. | A slice that grows, in a heap where boxes come between. | A flash in the machine's heap: its box, its bytes, its wear; what is read and written there. | Numbers: a sum that stays in its range is the sum. | A slice that grows in its box, in a frame: what it holds; what is appended; how the frame ends. | 'bytes.Repeat' of one byte, on the abstract machine. | The shelf's contracts at this program, in plain words
   By the session's AI agent. -/
import Derived.Test.YtlonabodghfjdaaJb2
import Derived.Shelf.SlIterI.Sorted
import Derived.Shelf.SlMaps.Clone
import Derived.Laws.IdiomRangeMap
import Derived.Lib.MakeNoZero
import Derived.IntWalk
import Derived.Test.YtlonabodghfjdaaProg
import Derived.KernelRfl
import Derived.Shelf.SlIterI.Nil
import Derived.Shelf.SortM.Plain
import Derived.Shelf.SortM.SortNone
import Derived.WalkKit
import Derived.LoopTactic
import Derived.Handy
import Derived.Deep.RegionHeld3
namespace Go.Am
open Go.RowKit (Below)
open Go.Maps
set_option linter.unusedVariables false
set_option linter.unusedSimpArgs false
noncomputable def pClone:List PV→Hp→Option (PV × List Box)
 | [.mref b],h=>(getMap h b).bnd fun es=>some (.mref (size h),[.map es])
 | _,_=>none
noncomputable def intKeysOf:List (PV × PV)→Option (List Int)
 | []=>some []
 |(.int .i64 n,_) :: r=>if -9223372036854775808≤n∧n≤9223372036854775807 then (intKeysOf r).bnd fun l=>some (n :: l) else none
 | _=>none
def sortedI (ks:List Int):List Int:=ks.mergeSort fun x y=>decide (x≤y)
def intsV (ks:List Int):PV:=if ks=[] then .nils else .sl .no 1 (ks.map fun n=>.int .i64 n)
noncomputable def pSorted (kf:Nat):List PV→Hp→Option (PV × Option (Nat × List PV))
 | [.fn f [.ptr x 0]],h=>if f=kf then (getBox h x).bnd fun cs=>match cs with
   | [.mref b]=>(getMap h b).bnd fun es=>if es.length≤1048576 then (intKeysOf es).bnd fun ks=>some (intsV (sortedI ks),none) else none
   | _=>none
  else none
 | _,_=>none
section
variable {N0:Nat} {P:Program} {I:Nat→World→Prop} {w0:World} {g:G} {h:Hp} {w:World}
theorem ok_below_fix (k:OkH N0 w0 g h w) {w':World} (hb:Below w.heap.size w w') (c m:Nat) (hc1:w.heap.size≤c) (hc2:c < w'.heap.size) :
  Ext N0 g w { g with hw:=fun d=>if d=c then some m else g.hw d } w'∧OkH N0 w0 { g with hw:=fun d=>if d=c then some m else g.hw d } h w':=by
 have hN:=ok_size k
 have hcell:∀ d o,d < w.heap.size→w'.cell? ⟨d,o,none⟩=w.cell? ⟨d,o,none⟩:=fun d o hd=>below_cell hb hd o
 let g':G:={ g with hw:=fun d=>if d=c then some m else g.hw d }
 have hne:∀ d m',g.hw d=some m'→d≠c:=fun d m' hm=>by have:=(k.arr d m' hm).2;omega
 have hx:Ext N0 g w g' w':=⟨Nat.le_refl _,fun _ _=>rfl,fun d m' hm=>⟨m',by show (if d=c then _ else _)=_;rw [if_neg (hne d m' hm)];exact hm,Nat.le_refl _⟩,fun d m' o hm _=>hcell d o (k.arr d m' hm).2,fun d o hd=>hcell d o (by omega),fun _ _=>⟨Nat.le_refl _,fun _=>rfl⟩,fun _ _=>rfl⟩
 refine ⟨hx,k.world hx rfl (hb.mono hN) (fun b bx hbx _=>?_) (fun _ _=>rfl) fun d m' hm=>?_⟩
 ·have hlt:=(blk_lt (a:=⟨#[],[]⟩) k hbx).2
  exact ⟨hb.block _ hlt,by show (if _=c then _ else _)=_;rw [if_neg (by omega)]⟩
 ·by_cases hd:d=c
  ·subst hd;exact ⟨by omega,hc2⟩
  ·have hm':g.hw d=some m':=by
    have:(if d=c then some m else g.hw d)=some m':=hm
    rwa [if_neg hd] at this
   have:=k.arr d m' hm'
   exact ⟨this.1,Nat.lt_of_lt_of_le this.2 hb.size⟩
theorem ok_newrow (k:OkH N0 w0 g h w) {w':World} (hb:Below w.heap.size w w') {e:TypeId} {u:Value} {xs:List PV} {vs:List Value} (hrow:w'.ownsRow w.heap.size e 1 u xs.length vs)
  (hr:∀ (j:Nat) (x:PV),xs[j]?=some x→x.cells=[x]∧∀ g w,RV N0 g w x (vs.getD j Go.undef)) :
  ∃ g',Ext N0 g w g' w'∧OkH N0 w0 g' h w'∧((xs=[]∧u=.slice none 0 0∧RV N0 g' w' .nils u)∨RV N0 g' w' (.sl .no 1 xs) u):=by
 obtain ⟨hl,⟨rfl,hz⟩ | ⟨gb,cap,cur,rfl,hbase,hgb,r1,r2,r3,r4⟩⟩:=hrow
 ·obtain ⟨hx,hok⟩:=ok_below k hb
  exact ⟨g,hx,hok,.inl ⟨List.length_eq_zero_iff.1 hz,rfl,.nils⟩⟩
 ·have hgl:gb < w'.heap.size:=(Array.getElem?_eq_some_iff.1 hgb).1
  obtain ⟨hx,hok⟩:=ok_below_fix k hb gb xs.length hbase hgl
  refine ⟨_,hx,hok,.inr ?_⟩
  have hvl:vs.length=xs.length:=by omega
  have hcur:∀ j,j < xs.length→cur[j]?=some (vs.getD j Go.undef):=by
   intro j hj
   rw [Nat.mul_one] at r4
   have:(cur.toList.take xs.length)[j]?=vs[j]?:=by rw [r4]
   rw [List.getElem?_take,if_pos hj,Array.getElem?_toList] at this
   rw [this,List.getD_eq_getElem?_getD,List.getElem?_eq_getElem (by omega)]
   rfl
  refine .sl .no 1 xs gb 0 cap (fun i j=>vs.getD i Go.undef) r1 (by simp) (fun i e he=>by rw [(hr i e he).1];rfl) (fun i j hi hj=>?_) (fun i j e x he hx2=>?_) (fun _=>.inr ⟨xs.length,by show (if gb=gb then _ else _)=_;rw [if_pos rfl],by omega⟩) none (fun _=>rfl) (by simp)
  ·have:j=0:=by omega
   subst this
   simp only [World.cell?,hgb]
   have:=hcur i hi
   simpa using this
  ·obtain ⟨h1,h2⟩:=hr i e he
   rw [h1] at hx2
   cases j with
   | zero=>simp at hx2;subst hx2;exact h2 _ _
   | succ j=>simp at hx2
theorem intKeysOf_get:∀ {es:List (PV × PV)} {ks:List Int},intKeysOf es=some ks→ks.length=es.length∧∀ (i:Nat) (x:PV × PV),es[i]?=some x→∃ n,x.1=.int .i64 n∧ks[i]?=some n∧-9223372036854775808≤n∧n≤9223372036854775807
 | [],ks,h=>by simp only [intKeysOf,Option.some.injEq] at h;subst h;exact ⟨rfl,fun i x hx=>by simp at hx⟩
 |(k,v) :: r,ks,h=>by
  have hk:∃ n,k=.int .i64 n:=by
   unfold intKeysOf at h
   split at h
   ·cases ‹_ :: _=_›
   ·rename_i hq;cases hq;exact ⟨_,rfl⟩
   ·cases h
  obtain ⟨n,rfl⟩:=hk
  simp only [intKeysOf] at h
  split at h
  ·rename_i hn
   simp only [Option.bnd_eq_some_iff,Option.some.injEq] at h
   obtain ⟨l,hl,rfl⟩:=h
   obtain ⟨h1,h2⟩:=intKeysOf_get hl
   refine ⟨by simp [h1],fun i x hx=>?_⟩
   cases i with
   | zero=>simp at hx;subst hx;exact ⟨n,rfl,rfl,hn⟩
   | succ i=>simpa using h2 i x (by simpa using hx)
  ·cases h
theorem primN_clone {f:Nat} (henter:∀ us w,(callFunc f us).run P w=.ok (.enter f us) w)
  (hc:∀ (b:Nat) (es:Array MapEntry) (clock:Nat) (w:World),w.heap[b]?=some (.map es clock)→Calls P f #[.map (some b)] w fun e w'=>e=.returned (.map (some w.heap.size))∧w'=w.alloc (.map es clock)):PrimNOk P I f pClone:=by
 intro vs h r hr N0 w0 g us w hI k hlen hrel
 refine .inl ⟨henter us w,?_⟩
 unfold pClone at hr
 split at hr
 ·rename_i b
  simp only [Option.bnd_eq_some_iff,Option.some.injEq] at hr
  obtain ⟨es,hes,rfl⟩:=hr
  obtain ⟨u,rfl⟩ : ∃ u,us=#[u]:=by
   have:us.size=1:=by simpa using hlen
   exact arr_one this
  have h1:=hrel 0 _ rfl
  simp only [Array.getD_eq_getD_getElem?,List.getElem?_toArray,List.getElem?_cons_zero,Option.getD_some] at h1
  rcases entries_rv (a:=⟨#[],[]⟩) k h1 (es:=es) (by simpa [entriesOf] using hes) with ⟨hq,_⟩ | ⟨b',ea,cl,hbb,rfl,hg,hw,hrel2,hst⟩
  ·cases hq
  cases hbb
  refine (hc _ ea cl w hw).mono fun en w' hen=>?_
  obtain ⟨rfl,rfl⟩:=hen
  have hm:MadeBy w (w.alloc (.map ea cl)) (.map ea cl):=.inl rfl
  obtain ⟨g',hx1,hok,hn,hι,_,_,_⟩:=ok_newbox (cpv:=0) (a:=⟨#[],[]⟩) k hm (.map es) none default (fun n T hn=>by cases hn) (fun g' hx1 hι hhw htk _=>⟨by rw [hι];exact ok_size k,by rw [hι];exact hhw,ea,cl,by rw [hι];exact hm.at,by simpa using hrel2.1,hst,fun i x hx=>by
   obtain ⟨y,hy,q1,q2,q3,q4⟩:=hrel2.2 i x hx
   exact ⟨y,by simpa using hy,q1,q2,q3.mono hx1,q4.mono hx1⟩⟩)
  refine ⟨_,g',rfl,hx1,hok,?_⟩
  rw [←hι]
  exact .mref _ (by omega)
 ·cases hr
def anyR:Value→Option (DataW Unit × List MemPlace):=fun _=>some (.lit (.bool true),[])
theorem primOk_sorted {f kf tk:Nat} (hk64:P.underlying tk=some (.int .i64)) (henter:∀ us w,(callFunc f us).run P w=.ok (.enter f us) w)
  (hc:∀ (Bm b nn:Nat) (D0:DataW Unit) (w:World) (hBm:Bm < w.heap.size) (hm:w.cell? ⟨Bm,0,none⟩=some (.map (some b))) (hown:w.ownsMap P tk anyR b nn D0) (hmax:Go.Maps.size D0≤maxLen) (hbytes:Go.Maps.size D0 * 8≤140737488355328),
   Calls P f #[.func (.func kf) #[] #[.pointer (some ⟨Bm,0,none⟩)]] w fun e w'=>∃ (v:Value) (ss:List Int),e=.returned v∧ss.Perm (intKeys D0) ∧
    w'.ownsRow w.heap.size tk 1 v ss.length ((ss.mergeSort (fun x y=>decide (x≤y))).map encZ)∧(v=.slice none 0 0 ↔ ss=[])∧Below w.heap.size w w'):PrimOk P I f (pSorted kf):=by
 intro vs h r hr N0 w0 g us w hI k hlen hrel
 refine ⟨henter us w,?_⟩
 unfold pSorted at hr
 split at hr
 ·rename_i f' x
  split at hr
  ·rename_i hfk
   subst hfk
   simp only [Option.bnd_eq_some_iff] at hr
   obtain ⟨cs,hcs,hr⟩:=hr
   split at hr
   ·rename_i b
    simp only [Option.bnd_eq_some_iff] at hr
    obtain ⟨es,hes,hr⟩:=hr
    split at hr
    ·rename_i hle
     simp only [Option.bnd_eq_some_iff,Option.some.injEq] at hr
     obtain ⟨ks,hks,rfl⟩:=hr
     obtain ⟨u,rfl⟩ : ∃ u,us=#[u]:=by
      have:us.size=1:=by simpa using hlen
      exact arr_one this
     have h1:=hrel 0 _ rfl
     simp only [Array.getD_eq_getD_getElem?,List.getElem?_toArray,List.getElem?_cons_zero,Option.getD_some] at h1
     generalize hu:u=U at h1
     cases h1
     rename_i cap hsz hcap
     have h2:=hcap 0 _ rfl
     obtain ⟨cp,rfl⟩ : ∃ cp,cap=#[cp]:=by
      have:cap.size=1:=by simpa using hsz
      exact arr_one this
     simp only [Array.getD_eq_getD_getElem?,List.getElem?_toArray,List.getElem?_cons_zero,Option.getD_some] at h2
     cases h2
     rename_i hxn
     obtain ⟨uu,u1,u2⟩:=box_cell (a:=⟨#[],[]⟩) k hcs
     have hcell:=u1 0 (by simp)
     have hrm:=u2 0 _ rfl
     rcases entries_rv (a:=⟨#[],[]⟩) k hrm (es:=es) (by simpa [entriesOf] using hes) with ⟨hq,_⟩ | ⟨b',ea,cl,hbb,hU,hg,hw,hrel2,hst⟩
     ·cases hq
     cases hbb
     rw [hU] at hcell
     obtain ⟨hkl,hkg⟩:=intKeysOf_get hks
     have hel:ea.size=es.length:=by have:=hrel2.1;simpa using this
     have hkey:∀ (i:Nat) (y:MapEntry),ea[i]?=some y→∃ n,y.key=.int .i64 n∧ks[i]?=some n∧-9223372036854775808≤n∧n≤9223372036854775807:=by
      intro i y hy
      have hi:i < es.length:=by rw [←hel];exact (Array.getElem?_eq_some_iff.1 hy).1
      obtain ⟨y',hy',_,_,q3,_⟩:=hrel2.2 i es[i] (List.getElem?_eq_getElem hi)
      rw [Array.getElem?_toList,hy] at hy'
      cases hy'
      obtain ⟨n,n1,n2,n3⟩:=hkg i es[i] (List.getElem?_eq_getElem hi)
      rw [n1] at q3
      generalize hyk:y.key=K at q3
      cases q3
      exact ⟨n,rfl,n2,n3⟩
     have hreads:∀ y∈ea.toList,∃ n:Int,Go.WideElems.rd P tk anyR y=some (.int .i64 n,.lit (.bool true))∧(∃ i:Nat,ea[i]?=some y∧ks[i]?=some n):=by
      intro y hy
      obtain ⟨i,hi⟩:=List.getElem?_of_mem hy
      rw [Array.getElem?_toList] at hi
      obtain ⟨n,n1,n2,n3,n4⟩:=hkey i y hi
      refine ⟨n,?_,i,hi,n2⟩
      have:keyOf P tk y.key=some (.int .i64 n):=by rw [n1];exact keyOf_int_mk hk64 (by simp [Lit.wf,IntKind.min,IntKind.max,IntKind.signed,IntKind.bits];omega)
      exact Go.WideElems.rd_mk (R:=anyR) (born:=y.born) this rfl
     have hown:w.ownsMap P tk anyR (g.ι b) ea.size (.map ((ea.toList.map (Go.WideElems.rg P tk anyR)).foldr DataW.insert [])) :=
      ⟨ea,cl,hw,⟨by rw [hel];exact Nat.le_trans hle (by decide),hst,fun y hy=>let ⟨n,h1,_⟩:=hreads y hy;⟨_,h1⟩⟩,Nat.le_refl _,rfl⟩
     have hsize:Go.Maps.size (DataW.map ((ea.toList.map (Go.WideElems.rg P tk anyR)).foldr DataW.insert []))=es.length:=by
      simp only [Go.Maps.size]
      rw [DataW.length_sorted];simp [hel]
     refine (hc (g.ι x) (g.ι b) ea.size _ w (by have:=(Array.getElem?_eq_some_iff.1 (k.cells hcs).2.2.choose_spec.choose_spec.choose_spec.choose_spec.1).1;exact this) hcell hown (by rw [hsize];exact Nat.le_trans hle (by decide)) (by rw [hsize];omega)).mono fun en w' hen=>?_
     obtain ⟨v,ss,rfl,hperm,hrow,hnil,hbl⟩:=hen
     have hks2:(ea.toList.map (Go.WideElems.rg P tk anyR)).map (fun p=>intOf p.1)=ks:=by
      apply List.ext_getElem?
      intro i
      simp only [List.getElem?_map,Array.getElem?_toList]
      cases hy:ea[i]? with
      | none =>
       have:ea.size≤i:=by simpa using hy
       rw [List.getElem?_eq_none (by omega)];rfl
      | some y =>
       obtain ⟨n,n1,j,hj,n2⟩:=hreads y (List.mem_of_getElem? (by simpa using hy))
       obtain ⟨m,m1,m2,_⟩:=hkey i y hy
       obtain ⟨m',m1',m2',_⟩:=hkey j y hj
       rw [m1] at m1'
       cases m1'
       rw [n2] at m2'
       cases m2'
       simp [Go.WideElems.rg_of n1,intOf,m2]
     have hp2:ss.Perm ks:=by
      refine hperm.trans ?_
      simp only [intKeys]
      rw [←hks2]
      exact (Go.WideShapes.sorted_perm _).map _
     have hsrt:(ss.mergeSort fun x y=>decide (x≤y))=sortedI ks:=mergeSort_of_perm_i hp2
     rw [hsrt] at hrow
     have hlen2:ss.length=(sortedI ks).length:=by rw [hp2.length_eq];simp [sortedI]
     obtain ⟨g',e1,e2,e3⟩:=ok_newrow (xs:=(sortedI ks).map fun n=>PV.int .i64 n) k hbl (by rw [List.length_map,←hlen2];exact hrow) (fun j z hz=>by
      rw [List.getElem?_map,Option.map_eq_some_iff] at hz
      obtain ⟨n,hn,rfl⟩:=hz
      refine ⟨rfl,fun g w=>?_⟩
      rw [List.getD_eq_getElem?_getD,List.getElem?_map,hn]
      exact .int _ _)
     refine ⟨v,g',rfl,e1,e2,?_⟩
     unfold intsV
     rcases e3 with ⟨h0,hv,hrv⟩ | hrv
     ·rw [if_pos (List.map_eq_nil_iff.1 h0)];exact hrv
     ·split
      ·rename_i h0
       have hss:ss=[]:=List.length_eq_zero_iff.1 (by rw [hlen2,h0];rfl)
       rw [hnil.2 hss];exact .nils
      ·exact hrv
    ·cases hr
   ·cases hr
  ·cases hr
 ·cases hr
end
end Go.Am
namespace Go.Am
set_option linter.unusedVariables false
set_option linter.unusedSimpArgs false
def lensOf:List (PV × PV)→Option (List Nat)
 | []=>some []
 |(_,v) :: r=>match v with
  | .nils=>(lensOf r).map (0 :: ·)
  | .sl _ _ es=>(lensOf r).map (es.length :: ·)
  | .bsl _ _ _ len _=>(lensOf r).map (len :: ·)
  | _=>none
noncomputable def pNeed:List PV→Hp→Option (PV × Option (Nat × List PV))
 | [.mref b],h=>(getMap h b).bnd fun es=>if es.length≤1048576 then (lensOf es).bnd fun ls=>if ls.all (fun n=>decide (n≤17179869184))=true then some (.int .i64 (8+(ls.map fun n=>(7+n:Nat)).sum:Nat),none) else none else none
 | _,_=>none
def clampI (lo hi n:Int):Int:=if hi < (if lo > n then lo else n) then hi else (if lo > n then lo else n)
def flashC (b bb:Nat) (n s:Nat) (k:Nat):List PV:=[.bsl true bb 0 n 1,.int .i64 s,.bsl true b 0 k 1,.int .i64 0,.int .i64 (-1),.bool false]
def pNew:List PV→Hp→Option (PV × List Box)
 | [.int .i64 a,.int .i64 z],h =>
  let k:=(clampI 1 64 a).toNat
  let s:=(clampI 16 4096 z).toNat
  some (.ptr (size h+2) 0,[.cells (List.replicate (k * s) (.int .u8 255)),.cells (List.replicate k (.int .i64 0)),.cells (flashC (size h+1) (size h) (k * s) s k)])
 | _,_=>none
def pMk:List PV→Hp→Option (PV × List Box)
 | [.int .i64 n],h=>if 0≤n∧n≤1000000 then some (.bsl false (size h) 0 n.toNat 1,[.cells (List.replicate n.toNat .undef)]) else none
 | _,_=>none
section
open Go.RowKit (Below)
variable {P:Program} {I:Nat→World→Prop}
theorem digits_int:∀ (n t:Nat) (acc:Array Value),(∀ j,∃ k x,acc.getD j (.int .u8 0)=.int k x)→∀ j,∃ k x,(Extern.BytealgMakeNoZero.digits n t acc).getD j (.int .u8 0)=.int k x
 | 0,t,acc,h=>h
 | n+1,t,acc,h=>by
  rw [Extern.BytealgMakeNoZero.digits]
  refine digits_int n _ _ fun j=>?_
  rw [Array.getD_eq_getD_getElem?,Array.getElem?_push]
  split
  ·exact ⟨_,_,rfl⟩
  ·have:=h j;rwa [Array.getD_eq_getD_getElem?] at this
theorem run_mk (w:World) (ps:Array TypeId) (t e:TypeId) (ht:P.underlying t=some (.slice e)) (n:Nat) (hn:n≤281474976710656) :
  ∃ cs:Array Value,(Extern.BytealgMakeNoZero.makeNoZero ps #[t] #[.int .i64 n]).run P w=.ok (.slice (some ⟨w.heap.size,0,none⟩) n cs.size) (w.drew.drew.alloc (.cells cs e))∧n≤cs.size∧∀ j,∃ k x,cs.getD j (.int .u8 0)=.int k x:=by
 have hdef:Extern.BytealgMakeNoZero.makeNoZero ps #[t] #[.int .i64 n] =
   (do
    let .slice elem ←underlying t | stuck "bytealg.MakeNoZero: slice type expected"
    if (n:Int) < 0 || (n:Int) > 2 ^ 48 then runtimePanic (.error "makeslice: len out of range")
    let cap ←choose (.appendCap (n:Int).toNat 0 elem)
    askRoom cap
    let bytes ←choose (.extern "internal/bytealg.MakeNoZero.bytes" 0)
    let a ←newRow elem (Extern.BytealgMakeNoZero.digits cap bytes #[])
    pure (.slice (some a) (n:Int).toNat cap)):=rfl
 refine ⟨Extern.BytealgMakeNoZero.digits (grownCap w n 0 e) ((Question.extern "internal/bytealg.MakeNoZero.bytes" 0).cut (w.tape (w.drawn+1) (.extern "internal/bytealg.MakeNoZero.bytes" 0))) #[],?_,?_,?_⟩
 ·rw [hdef]
  have h1:¬ (n:Int) < 0:=by omega
  have h2:¬ (281474976710656:Int) < (n:Int):=by omega
  simp [run_underlying ht,h1,h2,Question.forced,newRow,Lib.size_digits,grownCap]
 ·rw [Lib.size_digits]
  simpa using grownCap_ge w n 0 e
 ·exact digits_int _ _ _ fun j=>⟨.u8,0,by simp⟩
theorem primN_mk {f:Nat} {ps:Array TypeId} {t e:TypeId} (ht:P.underlying t=some (.slice e))
  (hrun:∀ (n:Nat) (w:World) (v:Value) (w':World),(Extern.BytealgMakeNoZero.makeNoZero ps #[t] #[.int .i64 n]).run P w=.ok v w'→(callFunc f #[.int .i64 n]).run P w=.ok (.value v) w'):PrimNOk P I f pMk:=by
 intro vs h r hr N0 w0 g us w hI k hlen hrel
 unfold pMk at hr
 split at hr
 ·rename_i n
  split at hr
  ·rename_i hn
   simp only [Option.some.injEq] at hr
   subst hr
   obtain ⟨m,rfl⟩ : ∃ m:Nat,n=m:=⟨n.toNat,by omega⟩
   obtain ⟨u,rfl⟩ : ∃ u,us=#[u]:=by
    have:us.size=1:=by simpa using hlen
    exact arr_one this
   have h1:=hrel 0 _ rfl
   simp only [Array.getD_eq_getD_getElem?,List.getElem?_toArray,List.getElem?_cons_zero,Option.getD_some] at h1
   generalize hu:u=U at h1
   cases h1
   obtain ⟨cs,c1,c2,c3⟩:=run_mk (P:=P) w ps t e ht m (by omega)
   refine .inr ⟨_,_,hrun m w _ _ c1,?_⟩
   have kd:OkH N0 w0 g h w.drew.drew:=by
    have e1:∀ w:World,Ext N0 g w g w.drew:=fun w=>⟨Nat.le_refl _,fun _ _=>rfl,fun c m h=>⟨m,h,Nat.le_refl _⟩,fun _ _ _ _ _=>rfl,fun _ _ _=>rfl,fun _ _=>⟨Nat.le_refl _,fun _=>rfl⟩,fun _ _=>rfl⟩
    exact Ok.world (Ok.world k (e1 w) rfl ((Below.refl _ _).drew) (fun _ _ _ _=>⟨rfl,rfl⟩) (fun _ _=>rfl) k.arr) (e1 w.drew) rfl ((Below.refl _ _).drew) (fun _ _ _ _=>⟨rfl,rfl⟩) (fun _ _=>rfl) k.arr
   have ed:Ext N0 g w g w.drew.drew:=⟨Nat.le_refl _,fun _ _=>rfl,fun c m h=>⟨m,h,Nat.le_refl _⟩,fun _ _ _ _ _=>rfl,fun _ _ _=>rfl,fun _ _=>⟨Nat.le_refl _,fun _=>rfl⟩,fun _ _=>rfl⟩
   simp only [Int.toNat_natCast]
   obtain ⟨g',hx,hok,hn',hι,hcp⟩:=ok_alloc (a:=⟨#[],[]⟩) kd cs e (List.replicate m .undef) (by simpa using c2) (fun j x hx=>by
    rw [List.getElem?_replicate] at hx
    split at hx
    ·rename_i hj
     cases hx
     refine .undef _ fun b=>?_
     obtain ⟨kk,xx,hc⟩:=c3 j
     have hjs:j < cs.size:=by omega
     rw [Array.getD_eq_getD_getElem?,Array.getElem?_eq_getElem hjs,Option.getD_some] at hc
     rw [Array.getD_eq_getD_getElem?,Array.getElem?_eq_getElem hjs,Option.getD_some,hc]
     simp
    ·cases hx) (fun T' hT=>by rw [List.getElem?_replicate] at hT;split at hT <;> cases hT) (lo:=0) (hi:=0) (by simp) (.inl rfl)
   refine ⟨_,g',rfl,ed.trans hx,hok,?_⟩
   have:=RV.bsl (N0:=N0) (g:=g') (w:=w.drew.drew.alloc (.cells cs e)) false (size h) 0 m 1 cs.size (by omega) c2 (by simp) (by rw [hcp];omega)
   rw [hι] at this
   exact this
  ·cases hr
 ·cases hr
end
end Go.Am
namespace Go.Am
set_option linter.unusedVariables false
set_option linter.unusedSimpArgs false
theorem evParts_nil (e:Env):evParts e []=some []:=(rfl)
theorem evParts_cons (e:Env) (i x r):evParts e ((i,x) :: r)=(ev e x).bnd fun v=>(evParts e r).bnd fun l=>some ((i,strip v) :: l):=by
 show Option.bnd _ _=_
 congr 1;funext v;cases evParts e r <;> rfl
theorem evParts3_nil (e:Env):evParts3 e []=some []:=(rfl)
theorem evParts3_cons (e:Env) (i n x r):evParts3 e ((i,n,x) :: r)=(ev e x).bnd fun v=>(evParts3 e r).bnd fun l=>some ((i,n,v) :: l):=by
 show Option.bnd _ _=_
 congr 1;funext v;cases evParts3 e r <;> rfl
theorem fillParts_nil (sz cs):fillParts sz [] cs=some cs:=(rfl)
theorem fillParts_cons (sz i v r cs):fillParts sz ((i,v) :: r) cs=if v.cells.length=sz∧i < cs.length∧v.cells.all scalar=true then fillParts sz r (cs.set i v) else none:=(rfl)
theorem buildAgg_nil (cs):buildAgg [] cs=some cs:=(rfl)
theorem buildAgg_cons (off n v r cs):buildAgg ((off,n,v) :: r) cs=if v.cells.length=n∧off+n≤cs.length∧v.cells.all scalar=true then buildAgg r (setRange cs off v.cells) else none:=(rfl)
theorem elems_nils (h):elems h .nils=some []:=(rfl)
theorem elems_sl (h o sz es):elems h (.sl o sz es)=some es:=(rfl)
theorem elems_bsl (h f b off len):elems h (.bsl f b off len 1)=(getBox h b).bnd fun cs=>if off+len≤cs.length∧((cs.drop off).take len).all scalar=true then some ((cs.drop off).take len) else none:=(rfl)
theorem elems_str (h s):elems h (.str s)=some (s.map fun c=>.int .u8 c.toNat):=(rfl)
theorem appB_full (xs:List PV) (sz es e h) (hx:xs.all (fun x=>x.cells.length == sz)=true) (hl:es.length+xs.length≤lim2) :
  appB xs sz (.sl .full sz es) e h=some (if xs.isEmpty then .sl .full sz es else .sl .no sz (es ++ strips xs),e,h):=by
 simp [appB,hx,hl]
/-! Frames of which not all is known. -/
def orr:Option PV→Option PV→Option PV
 | some v,_=>some v
 | none,o=>o
theorem orr_some (v o):orr (some v) o=some v:=(rfl)
theorem orr_none (o):orr none o=o:=(rfl)
theorem orr_right (o):orr o none=o:=by cases o <;> rfl
theorem look_pruneC (t o r s):look (pruneC t o r) s=if t=s then orr o (look r s) else look r s:=by
 cases o with
 | none=>show look r s=_;split <;> rfl
 | some v=>rfl
theorem fits_def (sz x):fits sz x=(x.cells.length == sz && x.cells.all scalar):=(rfl)
theorem ix_nat (k:IntKind) (i n:Nat) (h:i < n):ix (.int k i) n=some i:=by
 simp [ix,h]
theorem getElem_append_mid {α:Type} (a:List α) (x:α) (r:List α):(a ++ x :: r)[a.length]?=some x:=by simp
theorem wrap_small {n:Int} (h0:-9223372036854775808≤n) (h1:n≤9223372036854775807):IntKind.i64.wrap n=n:=by rw [IntKind.wrap_i64];omega
/-! Answers of which a law alone is known. -/
def Ans {α:Type} (x:Option α) (Q:α→Prop):Prop:=∃ a,x=some a∧Q a
theorem Ans.some {α:Type} {a:α} {Q:α→Prop} (h:Q a):Ans (some a) Q:=⟨a,rfl,h⟩
theorem Ans.of {α:Type} {x:Option α} {a:α} {Q:α→Prop} (hx:x=Option.some a) (h:Q a):Ans x Q:=⟨a,hx,h⟩
theorem Ans.mono {α:Type} {x:Option α} {P Q:α→Prop} (h:Ans x P) (hPQ:∀ a,P a→Q a):Ans x Q:=by
 obtain ⟨a,h1,h2⟩:=h
 exact ⟨a,h1,hPQ a h2⟩
theorem Ans.bndX {α:Type} {X:Option (AEx × Env × Hp)} {K:AEx→Env→Hp→Option α} {P:AEx × Env × Hp→Prop} {Q:α→Prop} (hX:Ans X P) (hK:∀ x e h,P (x,e,h)→Ans (K x e h) Q):Ans (bndX X K) Q:=by
 obtain ⟨⟨x,e,h⟩,rfl,hp⟩:=hX
 exact hK x e h hp
theorem bndX_assoc {α:Type} (X:Option (AEx × Env × Hp)) (f:AEx→Env→Hp→Option (AEx × Env × Hp)) (g:AEx→Env→Hp→Option α):bndX (bndX X f) g=bndX X fun x e h=>bndX (f x e h) g:=by
 cases X with
 | none=>rfl
 | some r=>rfl
theorem Ans.ite {α:Type} {c:Prop} [Decidable c] {x y:Option α} {Q:α→Prop} (hx:c→Ans x Q) (hy:¬ c→Ans y Q):Ans (if c then x else y) Q:=by
 split
 ·rename_i hc;exact hx hc
 ·rename_i hc;exact hy hc
theorem Ans.eq {α:Type} {x y:Option α} {Q:α→Prop} (h:x=y) (hy:Ans y Q):Ans x Q:=h ▸ hy
theorem R_loop_of {T:Table} {a b:ACode} {base:Nat} {e:Env} {h:Hp} (hab:a=b):ExecA T (.loop a) base e h=Go.Am.bndX (ExecA T b base e h) fun x e h=>onNorm x (ExecA T (.loop a) base e h) (Option.some (x,e,h)):=by
 subst hab;exact R_loop
noncomputable def appBoxB (xs:List PV) (sz:Nat) (v:PV) (e:Env) (h:Hp):Option (PV × Env × Hp):=(fullEs h v).bnd fun es =>
   if xs=[] then some (v,e,h) else
   if sz=1∧xs.all (fun x=>x.cells.length == sz)=true∧es.all (fun x=>x.cells.length == sz)=true∧es.length+xs.length≤lim2∧xs.all scalar=true∧es.all scalar=true then
    some (.bsl false (size h) 0 (es.length+xs.length) sz,e,ext h [.cells (es ++ xs)])
   else none
theorem step_appendBox {orc:Nat→List PV→Hp→Option (PV × Hp)} {base:Nat} {draw:Bool} {e:Env} {h:Hp} (sz s x):step orc base draw (.appendBox sz s x) e h=(ev e s).bnd fun v=>(ev e x).bnd fun u=>(elems h u).bnd fun xs=>appBoxB xs sz v e h:=(rfl)
theorem X_appendBox {orc:Nat→List PV→Hp→Option (PV × Hp)} {base:Nat} {draw:Bool} {e:Env} {h:Hp} (d sz s x r):execOps orc base draw (⟨d,none,.appendBox sz s x⟩ :: r) e h=(ev e s).bnd fun v=>(ev e x).bnd fun u=>(elems h u).bnd fun xs=>bnd3 (appBoxB xs sz v e h) fun v e h=>execOps orc base draw r (putD e d v) h:=by
 rw [execOps_plain,step_appendBox];simp only [bnd3_bnd,bnd3_some]
theorem appBoxB_full (xs:List PV) (e h) (h1:xs.all (fun x=>x.cells.length == 1)=true) (h2:0 < xs.length) (h3:xs.length≤lim2) (h4:xs.all scalar=true) :
  appBoxB xs 1 (.sl .full 1 []) e h=some (.bsl false (size h) 0 xs.length 1,e,ext h [.cells xs]):=by
 have hne:xs≠[]:=by rintro rfl;cases h2
 simp [appBoxB,fullEs,Option.bnd,h1,h3,h4,hne]
/-! The other operations. -/
section more
variable {orc:Nat→List PV→Hp→Option (PV × Hp)} {base:Nat} {draw:Bool} {e:Env} {h:Hp}
def strBytesB (bx:Bool) (v:PV) (h:Hp):Option (PV × Hp):=match v with
  | .str s=>if s.length≤limS then (if bx then some (.bsl false (size h) 0 s.length 1,ext h [.cells (s.map fun c=>.int .u8 c.toNat)]) else some (.sl .no 1 (s.map fun c=>.int .u8 c.toNat),h)) else none
  | _=>none
theorem strBytesB_val (s h) (hs:s.length≤limS):strBytesB false (.str s) h=some (.sl .no 1 (s.map fun c=>.int .u8 c.toNat),h):=by simp [strBytesB,hs]
theorem strBytesB_box (s h) (hs:s.length≤limS):strBytesB true (.str s) h=some (.bsl false (size h) 0 s.length 1,ext h [.cells (s.map fun c=>.int .u8 c.toNat)]):=by simp [strBytesB,hs]
theorem X_strBytes (d bx x r):execOps orc base draw (⟨d,none,.strBytes bx x⟩ :: r) e h=(ev e x).bnd fun v=>bnd2 (strBytesB bx v h) fun v h=>execOps orc base draw r (putD e d v) h:=by
 rw [execOps_plain]
 show bnd3 (Option.bnd _ _) _=_
 rw [bnd3_bnd]
 congr 1;funext v
 cases v <;> try rfl
 rename_i s
 simp only [strBytesB]
 split
 ·cases bx <;> rfl
 ·rfl
noncomputable def bytesStrB (h:Hp) (v:PV):Option PV:=match v with
  | .str _=>none
  | v=>(elems h v).bnd fun es=>(bytesOf es).bnd fun s=>some (.str s)
theorem bytesStrB_sl (h o z es):bytesStrB h (.sl o z es)=(bytesOf es).bnd fun s=>some (.str s):=(rfl)
theorem bytesStrB_nils (h):bytesStrB h .nils=some (.str []):=(rfl)
theorem bytesStrB_bsl (h f b off len z):bytesStrB h (.bsl f b off len z)=(elems h (.bsl f b off len z)).bnd fun es=>(bytesOf es).bnd fun s=>some (.str s):=(rfl)
theorem bytesOf_bytes:∀ s:List UInt8,bytesOf (s.map fun c=>.int .u8 (c.toNat:Int))=some s
 | []=>rfl
 | c :: s=>by simp [bytesOf,bytesOf_bytes s]
theorem X_bytesStr (d x r):execOps orc base draw (⟨d,none,.bytesStr x⟩ :: r) e h=(ev e x).bnd fun v=>(bytesStrB h v).bnd fun v=>execOps orc base draw r (putD e d v) h:=by
 rw [execOps_plain]
 show bnd3 (Option.bnd _ _) _=_
 rw [bnd3_bnd]
 congr 1;funext v
 cases v <;> first | rfl | (simp only [bytesStrB,bnd3_bnd,bnd_assoc,bnd3_some,Option.bnd_some])
theorem X_mkfn (d f cap r):execOps orc base draw (⟨d,none,.mkfn f cap⟩ :: r) e h=(evs e cap).bnd fun vs=>execOps orc base draw r (putD e d (.fn f vs)) h:=by
 rw [execOps_plain]
 show bnd3 (Option.bnd _ _) _=_
 rw [bnd3_bnd];rfl
def rangeB (v:PV) (h:Hp):Option (PV × Hp):=match v with
  | .str s=>some (.it (size h),ext h [.iter s 0])
  | _=>none
theorem rangeB_str (s h):rangeB (.str s) h=some (.it (size h),ext h [.iter s 0]):=(rfl)
theorem X_range (d x r):execOps orc base draw (⟨d,none,.range x⟩ :: r) e h=(ev e x).bnd fun v=>bnd2 (rangeB v h) fun v h=>execOps orc base draw r (putD e d v) h:=by
 rw [execOps_plain]
 show bnd3 (Option.bnd _ _) _=_
 rw [bnd3_bnd]
 congr 1;funext v
 cases v <;> rfl
noncomputable def nextB (v:PV) (h:Hp):Option (PV × Hp):=match v with
  | .it b=>(getIter h b).bnd fun p =>
   if p.2 < p.1.length then some (.tup [.bool true,.int .i64 p.2,.int .i32 (runeAt p.1 p.2).1],setBx h b (.iter p.1 (p.2+(runeAt p.1 p.2).2)))
   else some (.tup [.bool false],h)
  | _=>none
theorem nextB_more {h b s p} (hb:getIter h b=some (s,p)) (hp:p < s.length):nextB (.it b) h=some (.tup [.bool true,.int .i64 p,.int .i32 (runeAt s p).1],setBx h b (.iter s (p+(runeAt s p).2))):=by
 simp only [nextB,hb,Option.bnd_some,if_pos hp]
theorem nextB_over {h b s p} (hb:getIter h b=some (s,p)) (hp:¬ p < s.length):nextB (.it b) h=some (.tup [.bool false],h):=by
 simp only [nextB,hb,Option.bnd_some,if_neg hp]
theorem X_next (d x r):execOps orc base draw (⟨d,none,.next x⟩ :: r) e h=(ev e x).bnd fun v=>bnd2 (nextB v h) fun v h=>execOps orc base draw r (putD e d v) h:=by
 rw [execOps_plain]
 show bnd3 (Option.bnd _ _) _=_
 rw [bnd3_bnd]
 congr 1;funext v
 cases v <;> try rfl
 rename_i b
 simp only [nextB]
 cases getIter h b with
 | none=>rfl
 | some p =>
  simp only [Option.bnd_some]
  split <;> rfl
def tassertB (t:Nat) (ok:Bool) (z v:PV):Option PV:=match v with
  | .iface t' u=>if t'=t then (if ok then some (.tup [u,.bool true]) else some u) else if ok then some (.tup [z,.bool false]) else none
  | .nilif=>if ok then some (.tup [z,.bool false]) else none
  | _=>none
theorem tassertB_iface (t ok z t' u):tassertB t ok z (.iface t' u)=if t'=t then (if ok then some (.tup [u,.bool true]) else some u) else if ok then some (.tup [z,.bool false]) else none:=(rfl)
theorem tassertB_nil (t ok z):tassertB t ok z .nilif=if ok then some (.tup [z,.bool false]) else none:=(rfl)
theorem X_tassert (d t ok z x r):execOps orc base draw (⟨d,none,.tassert t ok z x⟩ :: r) e h=(ev e x).bnd fun v=>(tassertB t ok z v).bnd fun v=>execOps orc base draw r (putD e d v) h:=by
 rw [execOps_plain]
 show bnd3 (Option.bnd _ _) _=_
 rw [bnd3_bnd]
 congr 1;funext v
 cases v <;> try rfl
 ·cases ok <;> rfl
 ·simp only [tassertB]
  split
  ·cases ok <;> rfl
  ·cases ok <;> rfl
noncomputable def eqvB (neg:Bool) (ks:List Nat) (a b:PV):Option PV:=match a,b with
  | .agg cs,.agg ds=>(eqCells ks cs ds).bnd fun b=>some (.bool (if neg then !b else b))
  | _,_=>none
theorem eqvB_agg (neg ks cs ds):eqvB neg ks (.agg cs) (.agg ds)=(eqCells ks cs ds).bnd fun b=>some (.bool (if neg then !b else b)):=(rfl)
theorem eqCells_nil:eqCells [] [] []=some true:=(rfl)
theorem eqCells_cons (k ks x xs y ys):eqCells (k :: ks) (x :: xs) (y :: ys)=(eqCell k x y).bnd fun b=>(eqCells ks xs ys).bnd fun c=>some (b && c):=(rfl)
theorem eqCell_bool (a b):eqCell 0 (.bool a) (.bool b)=some (a == b):=(rfl)
theorem eqCell_int (k a j b):eqCell 1 (.int k a) (.int j b)=if k=j then some (a == b) else none:=(rfl)
theorem eqCell_str (a b):eqCell 2 (.str a) (.str b)=some (a == b):=(rfl)
theorem X_eqv (d neg ks x y r):execOps orc base draw (⟨d,none,.eqv neg ks x y⟩ :: r) e h=(ev e x).bnd fun a=>(ev e y).bnd fun b=>(eqvB neg ks a b).bnd fun v=>execOps orc base draw r (putD e d v) h:=by
 rw [execOps_plain]
 show bnd3 (Option.bnd _ _) _=_
 rw [bnd3_bnd]
 congr 1;funext a
 rw [bnd3_bnd]
 congr 1;funext b
 cases a <;> try rfl
 cases b <;> try rfl
 simp only [eqvB,bnd_assoc,Option.bnd_some]
 rw [bnd3_bnd];rfl
def makeB (T:Nat) (z:List PV) (n:Nat × Nat) (h:Hp):Option (PV × Hp) :=
   if n.1=n.2 then some (.bsl true (size h) 0 n.1 z.length,ext h [.cells (List.flatten (List.replicate n.1 z))])
   else if n.1=0 then some (.sl (.tok (size h)) z.length [],ext h [.tok 0 T]) else none
theorem makeB_eq (T z n h):makeB T z (n,n) h=some (.bsl true (size h) 0 n z.length,ext h [.cells (List.flatten (List.replicate n z))]):=by simp [makeB]
theorem makeN_int (k l j c):makeN (.int k l) (.int j c)=if 0≤l∧l≤c∧c≤lim2 then some (l.toNat,c.toNat) else none:=(rfl)
theorem makeN_nat (k j) (n:Nat) (hn:n≤lim2):makeN (.int k n) (.int j n)=some (n,n):=by
 rw [makeN_int,if_pos (by omega)];simp
theorem X_makeSl (d T z g l c r):execOps orc base draw (⟨d,none,.makeSl T z g l c⟩ :: r) e h=(ev e l).bnd fun l=>(ev e c).bnd fun c=>(makeN l c).bnd fun n=>bnd2 (makeB T z n h) fun v h=>execOps orc base draw r (putD e d v) h:=by
 rw [execOps_plain]
 show bnd3 (Option.bnd _ _) _=_
 rw [bnd3_bnd]
 congr 1;funext a
 rw [bnd3_bnd]
 congr 1;funext b
 rw [bnd3_bnd]
 congr 1;funext n
 simp only [makeB]
 split
 ·rfl
 ·split <;> rfl
theorem nextB_it (b h):nextB (.it b) h=(getIter h b).bnd fun p=>if p.2 < p.1.length then some (.tup [.bool true,.int .i64 p.2,.int .i32 (runeAt p.1 p.2).1],setBx h b (.iter p.1 (p.2+(runeAt p.1 p.2).2)))
   else some (.tup [.bool false],h):=(rfl)
def bdV (n:Nat):PV→Option Nat
 | .int _ i=>if 0≤i∧i≤n then some i.toNat else none
 | _=>none
theorem bdV_int (n k i):bdV n (.int k i)=if 0≤i∧i≤n then some i.toNat else none:=(rfl)
theorem bdV_nat (n k) (i:Nat) (h:i≤n):bdV n (.int k i)=some i:=by rw [bdV_int,if_pos (by omega)];simp
theorem bd_none (e n d):bd e n d none=some d:=(rfl)
theorem bd_some (e n d x):bd e n d (some x)=(ev e x).bnd fun v=>bdV n v:=(rfl)
theorem sliceOf_str (e lo hi s):sliceOf e none lo hi none (.str s)=(bd e s.length s.length hi).bnd fun hh=>(bd e hh 0 lo).bnd fun l=>some (.str ((s.drop l).take (hh - l))):=(rfl)
theorem sliceOf_nils (e z lo hi mx):sliceOf e (some z) lo hi mx .nils=(bd e 0 0 mx).bnd fun m=>(bd e 0 0 hi).bnd fun hh=>(bd e 0 0 lo).bnd fun l=>some .nils:=(rfl)
theorem sliceOf_sl (e z lo hi o es):sliceOf e (some z) lo hi none (.sl o z es)=(bd e es.length es.length hi).bnd fun hh=>(bd e hh 0 lo).bnd fun l =>
   some (.sl (if isFull o && hh == es.length then .full else .no) z ((es.drop l).take (hh - l))):=by
 simp [sliceOf,bd_none,Option.bnd_some]
theorem isFull_no:isFull .no=false:=(rfl)
theorem isFull_full:isFull .full=true:=(rfl)
theorem isFull_tok (t):isFull (.tok t)=false:=(rfl)
/-! Slices that grow. -/
theorem growT_one_nils (h T sz x) (hx:fits sz x=true):growT h T sz .nils [x]=some (.sl (.tok (size h)) sz [strip x],ext h [.tok 1 T]):=by
 simp [growT,hx,lim2,strips]
structure Buf (h:Hp) (o:PV) (T sz:Nat) (es:List PV) (v:PV):Prop where
 is:(v=o∧es=[]∧(o=.nils∨o=.sl .full sz []))∨∃ t,v=.sl (.tok t) sz es∧getTok h t=some (es.length,T)∧es≠[]
end more
/-! A heap over another: the other's boxes are as they were. -/
structure Ov (h k:Hp):Prop where
 size:size h≤Go.Am.size k
 same:∀ b,b < Go.Am.size h→box? k b=box? h b
theorem Ov.refl (h:Hp):Ov h h:=⟨Nat.le_refl _,fun _ _=>rfl⟩
theorem Ov.trans {a b c:Hp} (x:Ov a b) (y:Ov b c):Ov a c:=⟨Nat.le_trans x.size y.size,fun n hn=>(y.same n (Nat.lt_of_lt_of_le hn x.size)).trans (x.same n hn)⟩
theorem Ov.ext {h k:Hp} (x:Ov h k) (l:List Box):Ov h (Go.Am.ext k l):=⟨by rw [size_ext];exact Nat.le_trans x.size (Nat.le_add_right _ _),fun b hb=>(box_ext_lt (Nat.lt_of_lt_of_le hb x.size)).trans (x.same b hb)⟩
theorem Ov.set {h k:Hp} (x:Ov h k) {b:Nat} (hb:Go.Am.size h≤b) (y:Box):Ov h (setBx k b y):=⟨by rw [size_setBx];exact x.size,fun c hc=>(box_set_ne (by omega)).trans (x.same c hc)⟩
theorem Ov.trunc {h k:Hp} (x:Ov h k):Go.Am.trunc k (Go.Am.size h)=h:=by
 apply List.ext_getElem?
 intro i
 rcases Nat.lt_or_ge i (Go.Am.size h) with hi | hi
 ·have:=x.same i hi
  simp only [box?] at this
  simp only [Go.Am.trunc,List.getElem?_take,if_pos hi,this]
 ·simp only [Go.Am.trunc,List.getElem?_take,if_neg (by omega:¬ i < Go.Am.size h)]
  exact (List.getElem?_eq_none hi).symm
theorem Ov.getBox {h k:Hp} (x:Ov h k) {b:Nat} {cs:List PV} (hb:Go.Am.getBox h b=some cs):Go.Am.getBox k b=some cs:=by
 rw [Go.Am.getBox,x.same b (lt_of_getBox hb)];exact hb
theorem Ov.getTok {h k:Hp} (x:Ov h k) {b:Nat} {n:Nat × Nat} (hb:Go.Am.getTok h b=some n):Go.Am.getTok k b=some n:=by
 rw [Go.Am.getTok,x.same b (lt_of_getTok hb)];exact hb
theorem strips_len (xs:List PV):(strips xs).length=xs.length:=by induction xs <;> simp_all [strips]
theorem Buf.grow {h0 h:Hp} {o:PV} {T sz:Nat} {es xs:List PV} {v:PV} (b:Buf h o T sz es v) (ht:∀ t es,v=.sl (.tok t) sz es→size h0≤t) (ov:Ov h0 h) (hx:xs.all (fits sz)=true) (hl:es.length+xs.length≤lim2) :
  ∃ v' h',growT h T sz v xs=some (v',h')∧Buf h' o T sz (es ++ strips xs) v'∧(∀ t es,v'=.sl (.tok t) sz es→size h0≤t)∧Ov h0 h'∧size h≤size h'∧∀ c cs,getBox h c=some cs→getBox h' c=some cs:=by
 have sl:=strips_len xs
 by_cases hne:xs=[]
 ·subst hne
  rcases b.is with ⟨rfl,rfl,rfl | rfl⟩ | ⟨t,rfl,h2,h3⟩
  ·exact ⟨.nils,h,by simp [growT],⟨.inl ⟨rfl,rfl,.inl rfl⟩⟩,ht,ov,Nat.le_refl _,fun _ _ h=>h⟩
  ·exact ⟨_,h,by simp [growT],⟨.inl ⟨rfl,rfl,.inr rfl⟩⟩,ht,ov,Nat.le_refl _,fun _ _ h=>h⟩
  ·refine ⟨.sl (.tok t) sz es,setBx h t (.tok es.length T),?_,⟨.inr ⟨t,by simp [strips],?_,by simpa [strips] using h3⟩⟩,ht,ov.set (ht t es rfl) _,by rw [size_setBx];exact Nat.le_refl _,fun c cs hc=>?_⟩
   ·simp at hl
    simp [growT,h2,hl,strips,Option.bnd_some]
   ·rw [getTok_set_same (lt_of_getTok h2)];simp [strips]
   ·rw [getBox_set_ne];exact hc
    rintro rfl
    have q1:=box_of_tok h2
    have q2:=box_of_get hc
    rw [q1] at q2;cases q2
 ·have hpos:xs.isEmpty=false:=by cases xs <;> simp_all
  have hns:strips xs≠[]:=by cases xs <;> simp_all [strips]
  rcases b.is with ⟨rfl,rfl,rfl | rfl⟩ | ⟨t,rfl,h2,h3⟩
  ·simp at hl
   refine ⟨.sl (.tok (size h)) sz (strips xs),Go.Am.ext h [.tok xs.length T],by simp [growT,hx,hl,hpos],⟨.inr ⟨size h,by simp,by rw [getTok_ext_0];simp [tokOf,sl],by simpa using hns⟩⟩,fun t es hq=>by cases hq;exact ov.size,ov.ext _,by rw [size_ext];omega,fun c cs hc=>?_⟩
   rw [getBox_ext_lt (lt_of_getBox hc)];exact hc
  ·simp at hl
   refine ⟨.sl (.tok (size h)) sz (strips xs),Go.Am.ext h [.tok xs.length T],by simp [growT,hx,hl,hpos],⟨.inr ⟨size h,by simp,by rw [getTok_ext_0];simp [tokOf,sl],by simpa using hns⟩⟩,fun t es hq=>by cases hq;exact ov.size,ov.ext _,by rw [size_ext];omega,fun c cs hc=>?_⟩
   rw [getBox_ext_lt (lt_of_getBox hc)];exact hc
  ·refine ⟨.sl (.tok t) sz (es ++ strips xs),setBx h t (.tok (es.length+xs.length) T),?_,⟨.inr ⟨t,rfl,?_,by simp [h3]⟩⟩,fun t' es' hq=>by cases hq;exact ht t es rfl,ov.set (ht t es rfl) _,by rw [size_setBx];exact Nat.le_refl _,fun c cs hc=>?_⟩
   ·simp [growT,hx,h2,hl,Option.bnd_some]
   ·rw [getTok_set_same (lt_of_getTok h2)];simp [sl]
   ·rw [getBox_set_ne];exact hc
    rintro rfl
    have q1:=box_of_tok h2
    have q2:=box_of_get hc
    rw [q1] at q2;cases q2
def done (o:PV) (sz:Nat) (es:List PV):PV:=if es.isEmpty then o else .sl .no sz es
theorem Buf.frz {h:Hp} {o:PV} {T sz:Nat} {es:List PV} {v:PV} (b:Buf h o T sz es v) (n:Nat) (k:Hp):Go.Am.frz n k v=some (done o sz es):=by
 rcases b.is with ⟨rfl,rfl,rfl | rfl⟩ | ⟨t,rfl,h2,h3⟩
 ·rfl
 ·rfl
 ·have:es.isEmpty=false:=by cases es <;> simp_all
  simp [Go.Am.frz,done,this,Own.strip]
theorem Buf.len {h:Hp} {o:PV} {T sz:Nat} {es:List PV} {v:PV} (b:Buf h o T sz es v):lenB false v=some (.int .i64 es.length):=by
 rcases b.is with ⟨rfl,rfl,rfl | rfl⟩ | ⟨t,rfl,h2,h3⟩ <;> rfl
theorem Buf.elems {h:Hp} {o:PV} {T sz:Nat} {es:List PV} {v:PV} (b:Buf h o T sz es v) (k:Hp):Go.Am.elems k v=some es:=by
 rcases b.is with ⟨rfl,rfl,rfl | rfl⟩ | ⟨t,rfl,h2,h3⟩ <;> rfl
theorem done_elems {o:PV} {sz:Nat} (ho:o=.nils∨o=.sl .full sz []) (es:List PV) (k:Hp):Go.Am.elems k (done o sz es)=some es:=by
 unfold done
 cases es with
 | nil=>rcases ho with rfl | rfl <;> rfl
 | cons x xs=>rfl
theorem done_len {o:PV} {sz:Nat} (ho:o=.nils∨o=.sl .full sz []) (es:List PV):lenB false (done o sz es)=some (.int .i64 es.length):=by
 unfold done
 cases es with
 | nil=>rcases ho with rfl | rfl <;> rfl
 | cons x xs=>rfl
theorem done_below {o:PV} {sz n:Nat} (ho:o=.nils∨o=.sl .full sz []) (es:List PV) (he:belows n es=true):below n (done o sz es)=true:=by
 unfold done
 cases es with
 | nil=>rcases ho with rfl | rfl <;> rfl
 | cons x xs=>simpa [below,Own.below] using he
end Go.Am
namespace Go.Am
set_option linter.unusedVariables false
set_option linter.unusedSimpArgs false
noncomputable def loadV (n:Nat) (agg:Bool) (v:PV) (h:Hp):Option PV:=match v with
 | .ptr b off=>(getBox h b).bnd fun cs=>part cs off n agg
 | .ep cs off=>part cs off n agg
 | _=>none
noncomputable def storeV (base n:Nat) (v u:PV) (h:Hp):Option Hp:=match v with
 | .ptr b off=>(getBox h b).bnd fun cs =>
   if u.cells.length=n∧off+n≤cs.length∧u.cells.all scalar=true∧(b < base→belows 0 (strips u.cells)=true)
   then some (setBox h b (setRange cs off (if b < base then strips u.cells else u.cells))) else none
 | _=>none
def allocK {α:Type} (z:List PV) (h:Hp) (K:PV→Hp→Option α):Option α:=K (.ptr (size h) 0) (ext h [.cells z])
def boxV (n:Nat) (v:PV) (h:Hp):Option (PV × Hp):=if v.cells.length=n∧v.cells.all scalar=true then some (.ptr (size h) 0,ext h [.cells v.cells]) else none
noncomputable def buildV (z:List PV) (l:List (Nat × Nat × PV)):Option PV:=(buildAgg l z).bnd fun cs=>some (.agg cs)
noncomputable def buildSlV (sz:Nat) (agg:Bool) (z:List PV) (len:Nat) (l:List (Nat × PV)):Option PV :=
 (fillParts sz l (List.replicate len (if agg then .agg z else z.headD .undef))).bnd fun es=>some (.sl .full sz es)
noncomputable def nilckV (v:PV):Option PV:=(isNil v).bnd fun b=>if b then none else some v
noncomputable def isnilV (kd:Nat) (neg:Bool) (v:PV):Option PV:=(nilK kd v).bnd fun b=>some (.bool (if neg then !b else b))
noncomputable def makeV (T:Nat) (z:List PV) (l c:PV) (h:Hp):Option (PV × Hp):=(makeN l c).bnd fun n=>makeB T z n h
noncomputable def copyV (base:Nat) (v u:PV) (h:Hp):Option (PV × Hp):=(elems h u).bnd fun xs=>match v with
  | .bsl _ b off len sz=>(getBox h b).bnd fun cs =>
    if sz=1∧off+len≤cs.length∧xs.all scalar=true∧(b < base→belows 0 (xs.take len)=true)
    then some (.int .i64 (min xs.length len:Nat),setBox h b (setRange cs off (xs.take len))) else none
  | .nils=>some (.int .i64 0,h)
  | _=>none
def bdW (n dflt:Nat):Option PV→Option Nat
 | none=>some dflt
 | some v=>bdV n v
noncomputable def sliceV (n:Option Nat) (lo hi mx:Option PV):PV→Option PV
 | .str s=>if mx.isSome∨n.isSome then none else
  (bdW s.length s.length hi).bnd fun hh=>(bdW hh 0 lo).bnd fun l=>some (.str ((s.drop l).take (hh - l)))
 | .nils=>if n.isSome then (bdW 0 0 mx).bnd fun m=>(bdW 0 0 hi).bnd fun hh=>(bdW 0 0 lo).bnd fun l=>some .nils else none
 | .sl o sz es=>if n=some sz then (bdW es.length es.length mx).bnd fun m=>(bdW m es.length hi).bnd fun hh=>(bdW hh 0 lo).bnd fun l =>
   some (.sl (if mx.isSome && m == hh then .full else if mx.isNone && isFull o && hh == es.length then .full else .no) sz ((es.drop l).take (hh - l)))
   else none
 | .bsl f b off len sz=>if n=some sz then (bdW len len mx).bnd fun m=>(bdW m len hi).bnd fun hh=>(bdW hh 0 lo).bnd fun l =>
   if hh - l=0 then some (.sl (if mx.isSome && m == hh then .full else .no) sz []) else some (.bsl (if mx.isSome && m == hh then true else mx.isNone && f && hh == len) b (off+l * sz) (hh - l) sz)
   else none
 | _=>none
noncomputable def idxArrV (sz len:Nat) (v i:PV):Option PV:=match v with
  | .ptr b o=>(ix i len).bnd fun i=>some (.ptr b (o+i * sz))
  | .ep cs o=>(ix i len).bnd fun i=>some (.ep cs (o+i * sz))
  | _=>none
noncomputable def idxAggV (sz:Nat) (agg:Bool) (len:Nat) (v i:PV):Option PV:=match v with
  | .agg cs=>(ix i len).bnd fun i=>part cs (i * sz) sz agg
  | _=>none
noncomputable def minmaxV (mx:Bool) (vs:List PV):Option PV:=match vs with
  | []=>none
  | x :: r=>minMax mx x r
noncomputable def appV (sz:Nat) (v u:PV) (h:Hp):Option PV:=(elems h u).bnd fun xs =>
   if xs.all (fun x=>x.cells.length == sz) then
   match v with
   | .nils=>if xs.length≤lim2 then some (if xs.isEmpty then .nils else .sl .no sz (strips xs)) else none
   | .sl .full sz' es=>if sz'=sz∧es.length+xs.length≤lim2 then some (if xs.isEmpty then .sl .full sz es else .sl .no sz (es ++ strips xs)) else none
   | _=>none
   else none
noncomputable def appTV (T sz:Nat) (v u:PV) (h:Hp):Option (PV × Hp):=(elems h u).bnd fun xs=>growT h T sz v xs
noncomputable def appBoxV (sz:Nat) (v u:PV) (h:Hp):Option (PV × Hp):=(elems h u).bnd fun xs=>(fullEs h v).bnd fun es =>
   if xs=[] then some (v,h) else
   if sz=1∧xs.all (fun x=>x.cells.length == sz)=true∧es.all (fun x=>x.cells.length == sz)=true∧es.length+xs.length≤lim2∧xs.all scalar=true∧es.all scalar=true then
    some (.bsl false (size h) 0 (es.length+xs.length) sz,ext h [.cells (es ++ xs)])
   else none
noncomputable def loadNV (n:Nat) (agg:Bool) (q v:PV) (h:Hp):Option PV:=match q,v with
 | .ptr c _,.ptr b off=>if b=c then none else loadV n agg (.ptr b off) h
 | .ptr _ _,.ep cs off=>loadV n agg (.ep cs off) h
 | _,_=>none
noncomputable def storeNV (base n:Nat) (q v u:PV) (h:Hp):Option Hp:=match q,v with
 | .ptr c _,.ptr b off=>if b=c then storeV base n (.ptr b off) u h else none
 | _,_=>none
def callvV (orc:Orc) (v:PV) (vs:List PV) (h:Hp):Option (PV × Hp):=match v with
 | .fn f cap=>orc f (vs ++ cap) h
 | _=>none
noncomputable def evO (e:Env):Option Opnd→Option (Option PV)
 | none=>some none
 | some x=>(ev e x).bnd fun v=>some (some v)
noncomputable def stepK {α:Type} (orc:Orc) (base:Nat) (draw:Bool) (op:AOp) (e:Env) (h:Hp) (K:PV→Hp→Option α):Option α :=
 match op with
 | .mov x=>(ev e x).bnd fun v=>K v h
 | .pick c a b=>(ev e c).bnd fun v=>(condB v (ev e a) (ev e b)).bnd fun r=>K r h
 | .alloc z=>allocK z h K
 | .box n x=>(ev e x).bnd fun v=>bnd2 (boxV n v h) K
 | .build z ps=>(evParts3 e ps).bnd fun l=>(buildV z l).bnd fun r=>K r h
 | .buildSl sz agg z len ps=>(evParts e ps).bnd fun l=>(buildSlV sz agg z len l).bnd fun r=>K r h
 | .load n agg a=>(ev e a).bnd fun v=>(loadV n agg v h).bnd fun r=>K r h
 | .store n a x=>(ev e a).bnd fun v=>(ev e x).bnd fun u=>(storeV base n v u h).bnd fun h=>K .undef h
 | .nilck x=>(ev e x).bnd fun v=>(nilckV v).bnd fun r=>K r h
 | .bin op x y=>(ev e x).bnd fun a=>(ev e y).bnd fun b=>(binOp op a b).bnd fun r=>K r h
 | .binB neg x y=>(ev e x).bnd fun a=>(ev e y).bnd fun b=>(boolB neg a b).bnd fun r=>K r h
 | .isnil kd neg x=>(ev e x).bnd fun v=>(isnilV kd neg v).bnd fun r=>K r h
 | .un op x=>(ev e x).bnd fun a=>(unOp op a).bnd fun r=>K r h
 | .toInt k x=>(ev e x).bnd fun v=>(toIntB v k).bnd fun r=>K r h
 | .strBytes bx x=>(ev e x).bnd fun v=>bnd2 (strBytesB bx v h) K
 | .bytesStr x=>(ev e x).bnd fun v=>(bytesStrB h v).bnd fun r=>K r h
 | .mkif t x=>(ev e x).bnd fun v=>K (.iface t v) h
 | .mkfn f cap=>(evs e cap).bnd fun vs=>K (.fn f vs) h
 | .makeSl T z agg len cap=>(ev e len).bnd fun l=>(ev e cap).bnd fun c=>bnd2 (makeV T z l c h) K
 | .copyB d x=>(ev e d).bnd fun v=>(ev e x).bnd fun u=>bnd2 (copyV base v u h) K
 | .range x=>(ev e x).bnd fun v=>bnd2 (rangeB v h) K
 | .next x=>(ev e x).bnd fun v=>bnd2 (nextB v h) K
 | .eqv neg ks x y=>(ev e x).bnd fun a=>(ev e y).bnd fun b=>(eqvB neg ks a b).bnd fun r=>K r h
 | .slice n x lo hi mx=>(ev e x).bnd fun v=>(evO e lo).bnd fun lo=>(evO e hi).bnd fun hi=>(evO e mx).bnd fun mx=>(sliceV n lo hi mx v).bnd fun r=>K r h
 | .fieldA off x=>(ev e x).bnd fun v=>(fieldAB v off).bnd fun r=>K r h
 | .field off n agg x=>(ev e x).bnd fun v=>(fieldB v off n agg).bnd fun r=>K r h
 | .idxA sz x i=>(ev e x).bnd fun v=>(ev e i).bnd fun i=>(idxAB v i sz).bnd fun r=>K r h
 | .idxArr sz len x i=>(ev e x).bnd fun v=>(ev e i).bnd fun i=>(idxArrV sz len v i).bnd fun r=>K r h
 | .idxStr x i=>(ev e x).bnd fun v=>(ev e i).bnd fun i=>(idxStrB v i).bnd fun r=>K r h
 | .idxAgg sz agg len x i=>(ev e x).bnd fun v=>(ev e i).bnd fun i=>(idxAggV sz agg len v i).bnd fun r=>K r h
 | .extract x i=>(ev e x).bnd fun v=>(extractB v i).bnd fun r=>K r h
 | .tassert t ok z x=>(ev e x).bnd fun v=>(tassertB t ok z v).bnd fun r=>K r h
 | .len str x=>(ev e x).bnd fun v=>(lenB str v).bnd fun r=>K r h
 | .minmax mx xs=>(evs e xs).bnd fun vs=>(minmaxV mx vs).bnd fun r=>K r h
 | .append sz s x=>(ev e s).bnd fun v=>(ev e x).bnd fun u=>(appV sz v u h).bnd fun r=>K r h
 | .appendT T sz s x=>(ev e s).bnd fun v=>(ev e x).bnd fun u=>bnd2 (appTV T sz v u h) K
 | .appendBox sz s x=>(ev e s).bnd fun v=>(ev e x).bnd fun u=>bnd2 (appBoxV sz v u h) K
 | .call f args=>(evs e args).bnd fun vs=>bnd2 (orc f vs h) fun v h'=>if draw then (if h'=h then K v h else none) else K v h'
 | .callv x args=>(ev e x).bnd fun v=>(evs e args).bnd fun vs=>bnd2 (callvV orc v vs h) fun v h'=>if draw then (if h'=h then K v h else none) else K v h'
 | .callQ f args=>(evs e args).bnd fun vs=>bnd2 (orcQ orc f vs h) fun v h'=>if h'=h then K v h else none
 | .loadN t n agg a=>(look e t).bnd fun q=>(ev e a).bnd fun v=>(loadNV n agg q v h).bnd fun r=>K r h
 | .storeN t n a x=>(look e t).bnd fun q=>(ev e a).bnd fun v=>(ev e x).bnd fun u=>(storeNV base n q v u h).bnd fun h=>K .undef h
 | .gen k xs=>(evs e xs).bnd fun vs=>bnd2 (genV base h k vs) K
 | .stuck=>none
theorem bnd_fun {α β:Type} (x:Option α) {f g:α→Option β} (h:∀ a,f a=g a):x.bnd f=x.bnd g:=by rw [show f=g from funext h]
theorem bnd_ite {α β:Type} {c:Prop} [Decidable c] (x y:Option α) (f:α→Option β):(if c then x else y).bnd f=if c then x.bnd f else y.bnd f:=by split <;> rfl
theorem bnd2_bnd {α β γ:Type} (x:Option γ) (f:γ→Option (β × Hp)) (k:β→Hp→Option α):bnd2 (x.bnd f) k=x.bnd fun a=>bnd2 (f a) k:=by cases x <;> rfl
theorem bd_evO {α:Type} (e:Env) (n d:Nat) (x:Option Opnd) (g:Nat→Option α):(bd e n d x).bnd g=(evO e x).bnd fun v=>(bdW n d v).bnd g:=by
 cases x with
 | none=>rfl
 | some x=>simp only [bd_some,evO,bnd_assoc,Option.bnd_some,bdW]
theorem isSome_evO {e:Env} {x:Option Opnd} {v:Option PV} (h:evO e x=some v):v.isSome=x.isSome:=by
 cases x with
 | none=>cases h;rfl
 | some x=>simp only [evO,Option.bnd_eq_some_iff] at h;obtain ⟨a,_,h⟩:=h;cases h;rfl
theorem sliceOf_evO (e:Env) (n lo hi mx) (v:PV):sliceOf e n lo hi mx v=(evO e lo).bnd fun a=>(evO e hi).bnd fun b=>(evO e mx).bnd fun c=>sliceV n a b c v:=by
 have key:∀ {α:Type} (x:Option α) (f:α→Option PV),(∀ a,f a=none)→x.bnd f=none:=by intro α x f h;cases x <;> simp [Option.bnd,h]
 cases hl:evO e lo with
 | none =>
  have hz:∀ {α:Type} (n d:Nat) (g:Nat→Option α),(bd e n d lo).bnd g=none:=by intro α n d g;rw [bd_evO,hl];rfl
  show _=none
  cases v <;> simp only [sliceOf,hz] <;> first | rfl | (split <;> first | rfl | (apply key;intro a;first | rfl | (apply key;intro a;rfl)))
 | some a =>
  cases hh:evO e hi with
  | none =>
   have hz:∀ {α:Type} (n d:Nat) (g:Nat→Option α),(bd e n d hi).bnd g=none:=by intro α n d g;rw [bd_evO,hh];rfl
   show _=none
   cases v <;> simp only [sliceOf,hz] <;> first | rfl | (split <;> first | rfl | (apply key;intro a;rfl))
  | some b =>
   cases hm:evO e mx with
   | none =>
    have hz:∀ {α:Type} (n d:Nat) (g:Nat→Option α),(bd e n d mx).bnd g=none:=by intro α n d g;rw [bd_evO,hm];rfl
    have hs:mx.isSome=true:=by cases mx with | none=>cases hm | some x=>rfl
    show _=none
    cases v <;> simp only [sliceOf,hz,hs,true_or,if_true] <;> first | rfl | (split <;> rfl)
   | some c =>
    have e1:=isSome_evO hm
    have e2:c.isNone=mx.isNone:=by cases c <;> cases mx <;> simp_all
    simp only [Option.bnd_some]
    cases v <;> simp only [sliceOf,sliceV,bd_evO,hl,hh,hm,Option.bnd_some,e1,e2]
theorem stepK_eq {α:Type} (orc:Orc) (base:Nat) (draw:Bool) (op:AOp) (e:Env) (h:Hp) (K:PV→Hp→Option α) :
  stepK orc base draw op e h K=(step orc base draw op e h).bnd fun x=>K x.1 x.2.2:=by
 cases op with
 | mov x=>simp only [stepK,step,bnd_assoc,Option.bnd_some]
 | pick c a b =>
  simp only [stepK,step,bnd_assoc]
  refine bnd_fun _ fun v=>?_
  cases v <;> try rfl
  rename_i b;cases b <;> simp only [condB,bnd_assoc,Option.bnd_some]
 | alloc z=>rfl
 | box n x =>
  simp only [stepK,step,bnd_assoc];refine bnd_fun _ fun v=>?_
  simp only [boxV];split <;> rfl
 | build z ps=>simp only [stepK,step,buildV,bnd_assoc,Option.bnd_some]
 | buildSl sz agg z len ps=>simp only [stepK,step,buildSlV,bnd_assoc,Option.bnd_some]
 | load n agg a =>
  simp only [stepK,step,bnd_assoc];refine bnd_fun _ fun v=>?_
  cases v <;> simp only [loadV,bnd_assoc,Option.bnd_some,Option.bnd_none]
 | store n a x =>
  simp only [stepK,step,bnd_assoc];refine bnd_fun _ fun v=>bnd_fun _ fun u=>?_
  cases v <;> simp only [storeV,bnd_assoc,Option.bnd_some,Option.bnd_none]
  refine bnd_fun _ fun cs=>?_
  split <;> rfl
 | nilck x =>
  simp only [stepK,step_nilck,nilckV,bnd_assoc];refine bnd_fun _ fun v=>bnd_fun _ fun b=>?_
  cases b <;> rfl
 | bin op x y=>simp only [stepK,step,bnd_assoc,Option.bnd_some]
 | binB neg x y=>simp only [stepK,step_binB,bnd_assoc,Option.bnd_some]
 | isnil kd neg x=>simp only [stepK,step,isnilV,bnd_assoc,Option.bnd_some]
 | un op x=>simp only [stepK,step,bnd_assoc,Option.bnd_some]
 | toInt k x=>simp only [stepK,step_toInt,bnd_assoc,Option.bnd_some]
 | strBytes bx x =>
  simp only [stepK,step,bnd_assoc];refine bnd_fun _ fun v=>?_
  cases v <;> try rfl
  simp only [strBytesB];split
  ·cases bx <;> rfl
  ·rfl
 | bytesStr x =>
  simp only [stepK,step,bnd_assoc];refine bnd_fun _ fun v=>?_
  cases v <;> first | rfl | simp only [bytesStrB,bnd_assoc,Option.bnd_some]
 | mkif t x=>simp only [stepK,step,bnd_assoc,Option.bnd_some]
 | mkfn f cap=>simp only [stepK,step,bnd_assoc,Option.bnd_some]
 | makeSl T z agg len cap =>
  simp only [stepK,step,makeV,bnd_assoc,bnd2_bnd];refine bnd_fun _ fun l=>bnd_fun _ fun c=>bnd_fun _ fun n=>?_
  simp only [makeB];split
  ·rfl
  ·split <;> rfl
 | copyB d x =>
  simp only [stepK,step,copyV,bnd_assoc,bnd2_bnd];refine bnd_fun _ fun v=>bnd_fun _ fun u=>bnd_fun _ fun xs=>?_
  cases v <;> simp only [bnd_assoc,bnd2_bnd,Option.bnd_some,Option.bnd_none,bnd2_some,bnd2_none]
  refine bnd_fun _ fun cs=>?_
  split <;> rfl
 | range x =>
  simp only [stepK,step,bnd_assoc];refine bnd_fun _ fun v=>?_
  cases v <;> rfl
 | next x =>
  simp only [stepK,step,bnd_assoc];refine bnd_fun _ fun v=>?_
  cases v <;> try rfl
  simp only [nextB,bnd_assoc,bnd2_bnd];refine bnd_fun _ fun p=>?_
  split <;> rfl
 | eqv neg ks x y =>
  simp only [stepK,step,bnd_assoc];refine bnd_fun _ fun a=>bnd_fun _ fun b=>?_
  cases a <;> try rfl
  cases b <;> try rfl
  simp only [eqvB,bnd_assoc,Option.bnd_some]
 | slice n x lo hi mx =>
  simp only [stepK,step,sliceOf_evO,bnd_assoc,Option.bnd_some]
 | fieldA off x=>simp only [stepK,step_fieldA,bnd_assoc,Option.bnd_some]
 | field off n agg x=>simp only [stepK,step_field,bnd_assoc,Option.bnd_some]
 | idxA sz x i=>simp only [stepK,step_idxA,bnd_assoc,Option.bnd_some]
 | idxArr sz len x i =>
  simp only [stepK,step,bnd_assoc];refine bnd_fun _ fun v=>bnd_fun _ fun i=>?_
  cases v <;> simp only [idxArrV,bnd_assoc,Option.bnd_some,Option.bnd_none]
 | idxStr x i=>simp only [stepK,step_idxStr,bnd_assoc,Option.bnd_some]
 | idxAgg sz agg len x i =>
  simp only [stepK,step,bnd_assoc];refine bnd_fun _ fun v=>bnd_fun _ fun i=>?_
  cases v <;> simp only [idxAggV,bnd_assoc,Option.bnd_some,Option.bnd_none]
 | extract x i=>simp only [stepK,step_extract,bnd_assoc,Option.bnd_some]
 | tassert t ok z x =>
  simp only [stepK,step,bnd_assoc];refine bnd_fun _ fun v=>?_
  cases v <;> try rfl
  ·cases ok <;> rfl
  ·simp only [tassertB];split
   ·cases ok <;> rfl
   ·cases ok <;> rfl
 | len str x=>simp only [stepK,step_len,bnd_assoc,Option.bnd_some]
 | minmax mx xs =>
  simp only [stepK,step,bnd_assoc];refine bnd_fun _ fun vs=>?_
  cases vs <;> simp only [minmaxV,bnd_assoc,Option.bnd_some,Option.bnd_none]
 | append sz s x =>
  simp only [stepK,step,appV,bnd_assoc];refine bnd_fun _ fun v=>bnd_fun _ fun u=>bnd_fun _ fun xs=>?_
  split
  ·cases v with
   | nils=>simp only;split <;> rfl
   | sl o z es=>cases o <;> first | rfl | (simp only;split <;> rfl)
   | _=>rfl
  ·rfl
 | appendT T sz s x =>
  simp only [stepK,step,appTV,bnd_assoc,bnd2_bnd];refine bnd_fun _ fun v=>bnd_fun _ fun u=>bnd_fun _ fun xs=>?_
  cases growT h T sz v xs <;> rfl
 | appendBox sz s x =>
  simp only [stepK,step,appBoxV,bnd_assoc,bnd2_bnd];refine bnd_fun _ fun v=>bnd_fun _ fun u=>bnd_fun _ fun xs=>bnd_fun _ fun es=>?_
  split
  ·rfl
  ·split <;> rfl
 | call f args =>
  simp only [stepK,step,bnd_assoc];refine bnd_fun _ fun vs=>?_
  cases orc f vs h with
  | none=>rfl
  | some x =>
   obtain ⟨v,h'⟩:=x
   simp only [bnd2_some,Option.bnd_some]
   cases draw
   ·rfl
   ·simp only [if_true];split <;> rfl
 | callv x args =>
  simp only [stepK,step,bnd_assoc];refine bnd_fun _ fun v=>?_
  have key:∀ (x:Option (List PV)) (f:List PV→Option α),(∀ a,f a=none)→x.bnd f=none:=by intro x f h;cases x <;> simp [Option.bnd,h]
  cases v with
  | fn f cap =>
   simp only [bnd_assoc]
   refine bnd_fun _ fun vs=>?_
   simp only [callvV]
   cases orc f (vs ++ cap) h with
   | none=>rfl
   | some x =>
    obtain ⟨v,h'⟩:=x
    simp only [bnd2_some,Option.bnd_some]
    cases draw
    ·rfl
    ·simp only [if_true];split <;> rfl
  | _=>exact key _ _ fun _=>rfl
 | gen k xs =>
  simp only [stepK,step,bnd_assoc];refine bnd_fun _ fun vs=>?_
  cases genV base h k vs <;> rfl
 | callQ f args =>
  simp only [stepK,step,bnd_assoc];refine bnd_fun _ fun vs=>?_
  cases orcQ orc f vs h with
  | none=>rfl
  | some x =>
   obtain ⟨v,h'⟩:=x
   simp only [bnd2_some,Option.bnd_some]
   split <;> rfl
 | loadN t n agg a =>
  simp only [stepK,step,bnd_assoc];refine bnd_fun _ fun q=>bnd_fun _ fun v=>?_
  cases q <;> try rfl
  cases v <;> try rfl
  ·simp only [loadNV];split
   ·rfl
   ·simp only [loadV,bnd_assoc,Option.bnd_some]
  ·simp only [loadNV,loadV,bnd_assoc,Option.bnd_some]
 | storeN t n a x =>
  simp only [stepK,step,bnd_assoc];refine bnd_fun _ fun q=>bnd_fun _ fun v=>bnd_fun _ fun u=>?_
  cases q <;> try rfl
  cases v <;> try rfl
  simp only [storeNV];split
  ·simp only [storeV,bnd_assoc];refine bnd_fun _ fun cs=>?_
   split <;> rfl
  ·rfl
 | stuck=>rfl
end Go.Am
namespace Go.Am
set_option linter.unusedVariables false
set_option linter.unusedSimpArgs false
def pureOp:AOp→Bool
 | .mov _ | .pick _ _ _ | .bin _ _ _ | .binB _ _ _ | .isnil _ _ _ | .un _ _ | .toInt _ _ | .load _ _ _ | .loadN _ _ _ _ | .fieldA _ _ | .field _ _ _ _ | .idxA _ _ _ | .idxArr _ _ _ _
 | .idxStr _ _ | .idxAgg _ _ _ _ _ | .extract _ _ | .tassert _ _ _ _ | .len _ _ | .minmax _ _ | .slice _ _ _ _ _ | .nilck _ | .mkif _ _ | .build _ _ | .bytesStr _ | .eqv _ _ _ _=>true
 | _=>false
theorem stepK_pure {α:Type} {op:AOp} (hp:pureOp op=true) (orc:Orc) (base:Nat) (draw:Bool) (e:Env) (h:Hp) (K:PV→Hp→Option α) :
  stepK orc base draw op e h K=(stepK orc base draw op e h fun v _=>some v).bnd fun v=>K v h:=by
 cases op <;> first | (simp only [stepK,bnd_assoc,Option.bnd_some];done) | cases hp
noncomputable def guardK {α:Type} (g:Option (Nat × Bool)) (p:Bool) (e:Env) (h:Hp) (z:Option PV) (x:Option (PV × Hp)) (y:Option α) (K:PV→Hp→Option α):Option α :=
 match g with
 | none=>y
 | some (t,w)=>(look e t).bnd fun v=>(wantB v w).bnd fun w=>match p with
  | true=>(whenB w z (some .undef)).bnd fun v=>K v h
  | false=>bnd2 (whenB w x (some (.undef,h))) K
noncomputable def opsK {α:Type} (orc:Orc) (base:Nat) (draw:Bool) (l:List AOper):Env→Hp→(Env→Hp→Option α)→Option α :=
 List.rec (motive:=fun _=>Env→Hp→(Env→Hp→Option α)→Option α) (fun e h K=>K e h)
  (fun o _ ih e h K=>guardK o.guard (pureOp o.op) e h (stepK orc base draw o.op e h fun v _=>some v) (stepK orc base draw o.op e h fun v h=>some (v,h)) (stepK orc base draw o.op e h fun v h=>ih (putD e o.dst v) h K)
   fun v h=>ih (putD e o.dst v) h K) l
theorem opsK_cons {α:Type} (orc:Orc) (base:Nat) (draw:Bool) (o:AOper) (r:List AOper) (e:Env) (h:Hp) (K:Env→Hp→Option α) :
  opsK orc base draw (o :: r) e h K=guardK o.guard (pureOp o.op) e h (stepK orc base draw o.op e h fun v _=>some v) (stepK orc base draw o.op e h fun v h=>some (v,h)) (stepK orc base draw o.op e h fun v h=>opsK orc base draw r (putD e o.dst v) h K)
   fun v h=>opsK orc base draw r (putD e o.dst v) h K:=rfl
theorem stepE_env {orc:Orc} {base:Nat} {draw:Bool} {op:AOp} {e:Env} {h:Hp} {x:PV × Env × Hp} (hs:step orc base draw op e h=some x):x.2.1=e:=by
 have key:∀ {β:Type} {y:Option β} {f:β→Option (PV × Env × Hp)},(∀ a,f a=some x→x.2.1=e)→y.bnd f=some x→x.2.1=e:=by
  intro β y f hf hy
  rw [Option.bnd_eq_some_iff] at hy
  obtain ⟨a,_,ha⟩:=hy
  exact hf a ha
 have one:∀ {v:PV} {k:Hp},some (v,e,k)=some x→x.2.1=e:=by intro v k hq;cases hq;rfl
 unfold step at hs
 cases op <;> simp only at hs <;> first | exact one hs | cases hs | skip
 all_goals first
  |(refine key (fun a ha=>?_) hs;exact one ha)
  |(refine key (fun a ha=>?_) hs;refine key (fun b hb=>?_) ha;first | exact one hb | (split at hb <;> first | exact one hb | cases hb))
  |(refine key (fun a ha=>?_) hs;refine key (fun b hb=>?_) ha;refine key (fun c hc=>?_) hb;exact one hc)
  | skip
 case pick c a b =>
  refine key (fun v hv=>?_) hs
  rw [condB_some] at hv
  rcases hv with ⟨_,hv⟩ | ⟨_,hv⟩ <;> exact key (fun a ha=>one ha) hv
 case box n y=>refine key (fun v hv=>?_) hs;split at hv <;> first | exact one hv | cases hv
 case load n agg a =>
  refine key (fun v hv=>?_) hs
  split at hv
  ·exact key (fun _ h1=>key (fun _ h2=>one h2) h1) hv
  ·exact key (fun _ h1=>one h1) hv
  ·cases hv
 case store n a y =>
  refine key (fun v hv=>key (fun u hu=>?_) hv) hs
  split at hu
  ·refine key (fun _ h1=>?_) hu;split at h1 <;> first | exact one h1 | cases h1
  ·cases hu
 case nilck y=>refine key (fun v hv=>?_) hs;split at hv <;> first | exact one hv | cases hv
 case toInt k y=>refine key (fun v hv=>?_) hs;split at hv <;> first | exact one hv | cases hv
 case strBytes bx y =>
  refine key (fun v hv=>?_) hs
  split at hv
  ·split at hv
   ·split at hv <;> exact one hv
   ·cases hv
  ·cases hv
 case bytesStr y =>
  refine key (fun v hv=>?_) hs
  split at hv
  ·cases hv
  ·exact key (fun _ h1=>key (fun _ h2=>one h2) h1) hv
 case makeSl T z agg l c =>
  refine key (fun _ h1=>key (fun _ h2=>key (fun _ h3=>?_) h2) h1) hs
  split at h3
  ·exact one h3
  ·split at h3
   ·exact one h3
   ·cases h3
 case copyB d y =>
  refine key (fun _ h1=>key (fun _ h2=>key (fun _ h3=>?_) h2) h1) hs
  split at h3
  ·refine key (fun _ h1=>?_) h3;split at h1 <;> first | exact one h1 | cases h1
  ·exact one h3
  ·cases h3
 case range y=>refine key (fun v hv=>?_) hs;split at hv <;> first | exact one hv | cases hv
 case next y =>
  refine key (fun v hv=>?_) hs
  split at hv
  ·refine key (fun _ h1=>?_) hv;split at h1 <;> exact one h1
  ·cases hv
 case eqv neg ks y z =>
  refine key (fun _ h1=>key (fun _ h2=>?_) h1) hs
  split at h2
  ·exact key (fun _ h3=>one h3) h2
  ·cases h2
 case fieldA off y=>refine key (fun v hv=>?_) hs;split at hv <;> first | exact one hv | cases hv
 case field off n agg y=>refine key (fun v hv=>?_) hs;split at hv <;> first | exact key (fun _ h1=>one h1) hv | cases hv
 case idxA sz y i =>
  refine key (fun _ h1=>key (fun _ h2=>?_) h1) hs
  split at h2
  ·split at h2
   ·exact key (fun _ h3=>key (fun _ h4=>one h4) h3) h2
   ·cases h2
  ·split at h2
   ·exact key (fun _ h3=>one h3) h2
   ·cases h2
  ·cases h2
 case idxArr sz len y i =>
  refine key (fun _ h1=>key (fun _ h2=>?_) h1) hs
  split at h2 <;> first | exact key (fun _ h3=>one h3) h2 | cases h2
 case idxStr y i =>
  refine key (fun _ h1=>key (fun _ h2=>?_) h1) hs
  split at h2 <;> first | exact key (fun _ h3=>key (fun _ h4=>one h4) h3) h2 | cases h2
 case idxAgg sz agg len y i =>
  refine key (fun _ h1=>key (fun _ h2=>?_) h1) hs
  split at h2 <;> first | exact key (fun _ h3=>key (fun _ h4=>one h4) h3) h2 | cases h2
 case extract y i=>refine key (fun v hv=>?_) hs;split at hv <;> first | exact key (fun _ h1=>one h1) hv | cases hv
 case tassert t ok z y =>
  refine key (fun v hv=>?_) hs
  split at hv
  ·split at hv
   ·split at hv <;> exact one hv
   ·split at hv <;> first | exact one hv | cases hv
  ·split at hv <;> first | exact one hv | cases hv
  ·cases hv
 case len str y=>refine key (fun v hv=>?_) hs;split at hv <;> first | exact one hv | cases hv
 case minmax mx xs=>refine key (fun v hv=>?_) hs;split at hv <;> first | exact key (fun _ h1=>one h1) hv | cases hv
 case append sz s y =>
  refine key (fun _ h1=>key (fun _ h2=>key (fun _ h3=>?_) h2) h1) hs
  split at h3
  ·split at h3
   ·split at h3 <;> first | exact one h3 | cases h3
   ·split at h3 <;> first | exact one h3 | cases h3
   ·cases h3
  ·cases h3
 case appendT T sz s y=>exact key (fun _ h1=>key (fun _ h2=>key (fun _ h3=>key (fun _ h4=>one h4) h3) h2) h1) hs
 case appendBox sz s y =>
  refine key (fun _ h1=>key (fun _ h2=>key (fun _ h3=>key (fun _ h4=>?_) h3) h2) h1) hs
  split at h4
  ·exact one h4
  ·split at h4
   ·exact one h4
   ·cases h4
 case call f args =>
  refine key (fun _ h1=>key (fun _ h2=>?_) h1) hs
  split at h2
  ·split at h2 <;> first | exact one h2 | cases h2
  ·exact one h2
 case callv y args =>
  refine key (fun _ h1=>?_) hs
  split at h1
  ·refine key (fun _ h2=>key (fun _ h3=>?_) h2) h1
   split at h3
   ·split at h3 <;> first | exact one h3 | cases h3
   ·exact one h3
  ·cases h1
 case loadN t n agg a =>
  refine key (fun _ h1=>key (fun _ h2=>?_) h1) hs
  split at h2
  ·split at h2
   ·cases h2
   ·exact key (fun _ h3=>key (fun _ h4=>one h4) h3) h2
  ·exact key (fun _ h3=>one h3) h2
  ·cases h2
 case storeN t n a y =>
  refine key (fun _ h1=>key (fun _ h2=>key (fun _ h3=>?_) h2) h1) hs
  split at h3
  ·split at h3
   ·refine key (fun _ h4=>?_) h3;split at h4 <;> first | exact one h4 | cases h4
   ·cases h3
  ·cases h3
theorem opsK_eq {α:Type} (orc:Orc) (base:Nat) (draw:Bool):∀ (l:List AOper) (e:Env) (h:Hp) (K:Env→Hp→Option α),
  opsK orc base draw l e h K=(execOps orc base draw l e h).bnd fun x=>K x.1 x.2
 | [],e,h,K=>rfl
 | o :: r,e,h,K=>by
  have ih:∀ (v:PV) (h:Hp),opsK orc base draw r (putD e o.dst v) h K=(execOps orc base draw r (putD e o.dst v) h).bnd fun x=>K x.1 x.2:=fun v h=>opsK_eq orc base draw r _ h K
  have main:stepK orc base draw o.op e h (fun v h=>opsK orc base draw r (putD e o.dst v) h K) =
    ((step orc base draw o.op e h).bnd fun x=>execOps orc base draw r (putD x.2.1 o.dst x.1) x.2.2).bnd fun x=>K x.1 x.2:=by
   rw [stepK_eq,bnd_assoc]
   cases hs:step orc base draw o.op e h with
   | none=>rfl
   | some x=>simp only [Option.bnd_some,ih,stepE_env hs]
  rw [opsK_cons,execOps]
  cases hg:o.guard with
  | none=>simp only [guardK,wanted,Option.bnd_some,if_true];exact main
  | some g =>
   obtain ⟨t,w⟩:=g
   simp only [guardK,wanted_some,bnd_assoc]
   refine bnd_fun _ fun v=>?_
   cases hw:wantB v w with
   | none=>rfl
   | some b =>
    cases b with
    | true =>
     simp only [Option.bnd_some,whenB_true,if_true]
     rw [←main]
     cases hp:pureOp o.op with
     | true=>simp only;rw [stepK_pure hp orc base draw e h (fun v h=>opsK orc base draw r (putD e o.dst v) h K)];rfl
     | false =>
      simp only
      rw [stepK_eq,stepK_eq]
      cases step orc base draw o.op e h <;> rfl
    | false=>cases pureOp o.op <;> (simp only [Option.bnd_some,whenB_false,bnd2_some,Bool.false_eq_true,if_false];exact ih _ _)
inductive Fr where
 | seq (b:ACode)
 | block (i:Nat)
 | loop (a:ACode)
noncomputable def finV (keep own:Bool) (n0:Nat) (vs:List PV) (h:Hp):Option (PV × Hp) :=
 if keep then some (result1 vs,h)
  else if own then (ownEnd n0 h vs).bnd fun r=>some (result1 r.1,r.2)
  else (frzs n0 h vs).bnd fun vs=>if belows n0 vs=true then some (result1 vs,trunc h n0) else none
noncomputable def resultsK {α:Type} (e:Env) (h:Hp):List (Nat × Option (Nat × Bool))→(List PV→Option α)→Option α
 | [],K=>K []
 | t :: ts,K=>(resultOf e h t).bnd fun v=>resultsK e h ts fun vs=>K (v :: vs)
theorem resultsK_eq {α:Type} (e:Env) (h:Hp):∀ (rs:List (Nat × Option (Nat × Bool))) (K:List PV→Option α),resultsK e h rs K=(resultsOf e h rs).bnd K
 | [],K=>rfl
 | t :: ts,K=>by
  simp only [resultsK,resultsOf_cons,bnd_assoc,Option.bnd_some]
  exact bnd_fun _ fun v=>resultsK_eq e h ts _
noncomputable def endK (fn:AFn) (n0:Nat) (x:AEx) (e:Env) (h:Hp):Option (PV × Hp):=match x with
 | .exit _=>none
 | _=>resultsK e h fn.results fun vs=>finV fn.keep fn.own n0 vs h
theorem finish_eq (fn:AFn) (n0:Nat) (e:Env) (h:Hp):finish fn n0 e h=resultsK e h fn.results fun vs=>finV fn.keep fn.own n0 vs h:=by
 rw [resultsK_eq];rfl
noncomputable def goF (fn:AFn) (n0:Nat) (run:ACode→List Fr→Env→Hp→Option (PV × Hp)) (lp:ACode→List Fr→Env→Hp→Option (PV × Hp)):List Fr→AEx→Env→Hp→Option (PV × Hp)
 | [],x,e,h=>endK fn n0 x e h
 | .seq b :: r,x,e,h=>match x with
  | .norm=>run b r e h
  | x=>goF fn n0 run lp r x e h
 | .block i :: r,x,e,h=>match x with
  | .exit j=>if j=i then goF fn n0 run lp r .norm e h else goF fn n0 run lp r (.exit j) e h
  | x=>goF fn n0 run lp r x e h
 | .loop a :: r,x,e,h=>match x with
  | .norm=>lp a r e h
  | x=>goF fn n0 run lp r x e h
noncomputable def kSem (T:Table) (fn:AFn) (base n0:Nat):List Fr→AEx→Env→Hp→Option (PV × Hp)
 | [],x,e,h=>endK fn n0 x e h
 | .seq b :: r,x,e,h=>match x with
  | .norm=>bndX (ExecA T b base e h) (kSem T fn base n0 r)
  | x=>kSem T fn base n0 r x e h
 | .block i :: r,x,e,h=>match x with
  | .exit j=>if j=i then kSem T fn base n0 r .norm e h else kSem T fn base n0 r (.exit j) e h
  | x=>kSem T fn base n0 r x e h
 | .loop a :: r,x,e,h=>match x with
  | .norm=>bndX (ExecA T (.loop a) base e h) (kSem T fn base n0 r)
  | x=>kSem T fn base n0 r x e h
noncomputable def Run (T:Table) (fn:AFn) (base n0:Nat) (c:ACode) (fr:List Fr) (e:Env) (h:Hp):Option (PV × Hp):=bndX (ExecA T c base e h) (kSem T fn base n0 fr)
noncomputable def cpsF (T:Table) (fn:AFn) (base n0:Nat):Nat→ACode→List Fr→Env→Hp→Option (PV × Hp)
 | 0,c,fr,e,h=>Run T fn base n0 c fr e h
 | n+1,c,fr,e,h=>match c with
  | .skip=>goF fn n0 (cpsF T fn base n0 n) (fun a=>Run T fn base n0 (.loop a)) fr .norm e h
  | .ops l draw keep=>opsK (CallA T base) base draw l e h fun e h=>goF fn n0 (cpsF T fn base n0 n) (fun a=>Run T fn base n0 (.loop a)) fr .norm (prune keep e) h
  | .seq a b=>match a with
   | .ops [] _ k=>Run T fn base n0 b fr (prune k e) h
   | a=>cpsF T fn base n0 n a (.seq b :: fr) e h
  | .cond c a b=>(ev e c).bnd fun v=>condB v (cpsF T fn base n0 n a fr e h) (cpsF T fn base n0 n b fr e h)
  | .block i a=>cpsF T fn base n0 n a (.block i :: fr) e h
  | .loop a=>Run T fn base n0 (.loop a) fr e h
  | .scope a=>cpsF T fn base n0 n a fr e h
  | .exit i=>goF fn n0 (cpsF T fn base n0 n) (fun a=>Run T fn base n0 (.loop a)) fr (.exit i) e h
  | .ret=>goF fn n0 (cpsF T fn base n0 n) (fun a=>Run T fn base n0 (.loop a)) fr .ret e h
theorem condB_bndX {α:Type} (v:PV) (x y:Option (AEx × Env × Hp)) (K:AEx→Env→Hp→Option α):condB v (bndX x K) (bndX y K)=bndX (condB v x y) K:=by
 cases v <;> try rfl
 rename_i b;cases b <;> rfl
section
variable {T:Table} {fn:AFn} {base n0:Nat}
theorem goF_eq {run:ACode→List Fr→Env→Hp→Option (PV × Hp)} (hr:∀ c fr e h,run c fr e h=Run T fn base n0 c fr e h):∀ (fr:List Fr) (x:AEx) (e:Env) (h:Hp),goF fn n0 run (fun a=>Run T fn base n0 (.loop a)) fr x e h=kSem T fn base n0 fr x e h
 | [],x,e,h=>rfl
 | .seq b :: r,x,e,h=>by
  cases x with
  | norm=>rw [goF,hr];rfl
  | _=>exact goF_eq hr r _ e h
 | .block i :: r,x,e,h=>by
  cases x with
  | exit j=>simp only [goF,kSem,goF_eq hr r]
  | _=>exact goF_eq hr r _ e h
 | .loop a :: r,x,e,h=>by
  cases x with
  | norm=>rfl
  | _=>exact goF_eq hr r _ e h
theorem Run_seq (a b:ACode) (fr:List Fr) (e:Env) (h:Hp):Run T fn base n0 (.seq a b) fr e h=Run T fn base n0 a (.seq b :: fr) e h:=by
 unfold Run
 rw [R_seq]
 cases ExecA T a base e h with
 | none=>rfl
 | some x=>obtain ⟨x,e',h'⟩:=x;cases x <;> rfl
theorem Run_block (i:Nat) (a:ACode) (fr:List Fr) (e:Env) (h:Hp):Run T fn base n0 (.block i a) fr e h=Run T fn base n0 a (.block i :: fr) e h:=by
 unfold Run
 rw [R_block]
 cases ExecA T a base e h with
 | none=>rfl
 | some x =>
  obtain ⟨x,e',h'⟩:=x
  cases x with
  | exit j=>simp only [bndX_some,onExit_exit,kSem];split <;> rfl
  | _=>rfl
theorem Run_loop (a:ACode) (fr:List Fr) (e:Env) (h:Hp):Run T fn base n0 (.loop a) fr e h=Run T fn base n0 a (.loop a :: fr) e h:=by
 unfold Run
 rw [R_loop]
 cases ExecA T a base e h with
 | none=>rfl
 | some x=>obtain ⟨x,e',h'⟩:=x;cases x <;> rfl
theorem Run_ops (l:List AOper) (d:Bool) (k:List Nat) (fr:List Fr) (e:Env) (h:Hp):Run T fn base n0 (.ops l d k) fr e h=opsK (CallA T base) base d l e h fun e h=>kSem T fn base n0 fr .norm (prune k e) h:=by
 unfold Run
 rw [opsK_eq,R_ops]
 cases execOps (CallA T base) base d l e h <;> rfl
theorem cpsF_eq:∀ (n:Nat) (c:ACode) (fr:List Fr) (e:Env) (h:Hp),cpsF T fn base n0 n c fr e h=Run T fn base n0 c fr e h
 | 0,c,fr,e,h=>rfl
 | n+1,c,fr,e,h=>by
  have ih:=cpsF_eq n
  cases c with
  | skip=>rw [cpsF,goF_eq ih];unfold Run;rw [ExecA_skip];rfl
  | exit i=>rw [cpsF,goF_eq ih];unfold Run;rw [ExecA_exit];rfl
  | ret=>rw [cpsF,goF_eq ih];unfold Run;rw [ExecA_ret];rfl
  | ops l d k=>rw [cpsF,Run_ops];simp only [goF_eq ih]
  | seq a b =>
   rw [Run_seq]
   cases a with
   | ops l d k =>
    cases l with
    | nil=>rw [Run_ops];rfl
    | cons o l=>exact ih _ _ _ _
   | _=>exact ih _ _ _ _
  | cond c a b =>
   rw [cpsF]
   simp only [ih]
   unfold Run
   rw [ExecA_cond]
   cases ev e c with
   | none=>rfl
   | some v=>simp only [Option.bnd_some,condB_bndX]
  | block i a=>rw [cpsF,ih,Run_block]
  | loop a=>rfl
  | scope a=>rw [cpsF,ih];unfold Run;rw [ExecA_scope]
end
def ctx:List Nat→ACode→List Fr→ACode × List Fr
 | [],c,fr=>(c,fr)
 | i :: p,.seq a b,fr=>if i=0 then ctx p a (.seq b :: fr) else ctx p b fr
 | i :: p,.cond _ a b,fr=>if i=0 then ctx p a fr else ctx p b fr
 | _ :: p,.block i a,fr=>ctx p a (.block i :: fr)
 | _ :: p,.loop a,fr=>ctx p a (.loop a :: fr)
 | _ :: p,.scope a,fr=>ctx p a fr
 | _ :: _,c,fr=>(c,fr)
noncomputable def Pt (T:Table) (fn:AFn) (p:List Nat) (base n0:Nat) (e:Env) (h:Hp):Option (PV × Hp) :=
 Run T fn base n0 (ctx p fn.body []).1 (ctx p fn.body []).2 e h
def unr:ACode × List Fr→ACode × List Fr
 |(.loop a,fr)=>(a,.loop a :: fr)
 | x=>x
theorem Pt_eq (T:Table) (fn:AFn) (p:List Nat) (base n0:Nat) (e:Env) (h:Hp) :
  Pt T fn p base n0 e h=cpsF T fn base n0 200 (unr (ctx p fn.body [])).1 (unr (ctx p fn.body [])).2 e h:=by
 rw [cpsF_eq]
 unfold Pt
 generalize ctx p fn.body []=r
 obtain ⟨c,fr⟩:=r
 cases c with
 | loop a=>exact Run_loop a fr e h
 | _=>rfl
theorem Pt_entry {T:Table} {f:Nat} {fn:AFn} (hT:T f=some (.code fn)) (base:Nat) (a:List PV) (h:Hp) :
  CallA T base f a h=cpsF T fn (if fn.keep then base else size h) (size h) 200 fn.body [] (params 0 a) h:=by
 rw [CallA_code hT,cpsF_eq]
 unfold Run
 cases ExecA T fn.body (if fn.keep then base else size h) (params 0 a) h with
 | none=>rfl
 | some x=>obtain ⟨x,e',h'⟩:=x;cases x <;> simp only [Option.bnd_some,bndX_some,finish_eq] <;> rfl
theorem Pt_enter {T:Table} {f:Nat} {rs:List (Nat × Option (Nat × Bool))} {body:ACode} {own:Bool} (hT:T f=some (.code ⟨rs,body,false,own⟩)) (base:Nat) (a:List PV) (h:Hp) :
  CallA T base f a h=cpsF T ⟨rs,body,false,own⟩ (size h) (size h) 200 body [] (params 0 a) h:=Pt_entry hT base a h
theorem Pt_enterK {T:Table} {f:Nat} {rs:List (Nat × Option (Nat × Bool))} {body:ACode} {own:Bool} (hT:T f=some (.code ⟨rs,body,true,own⟩)) (base:Nat) (a:List PV) (h:Hp) :
  CallA T base f a h=cpsF T ⟨rs,body,true,own⟩ base (size h) 200 body [] (params 0 a) h:=Pt_entry hT base a h
def chkK {α:Type} (h h':Hp) (y:Option α):Option α:=if h'=h then y else none
end Go.Am
namespace Go.Am
set_option linter.unusedVariables false
set_option linter.unusedSimpArgs false
def Sub (e e2:Env):Prop:=∀ t v,look e t=some v→look e2 t=some v
theorem Sub.refl (e:Env):Sub e e:=fun _ _ h=>h
section
variable {e e2:Env} (hs:Sub e e2)
include hs
theorem ev_sub {x:Opnd} {v:PV} (h:ev e x=some v):ev e2 x=some v:=by
 cases x with
 | tmp t=>exact hs t v h
 | const c=>exact h
theorem evs_sub:∀ {xs:List Opnd} {vs:List PV},evs e xs=some vs→evs e2 xs=some vs
 | [],vs,h=>h
 | x :: xs,vs,h=>by
  simp only [evs,Option.bnd_eq_some_iff] at h ⊢
  obtain ⟨v,h1,w,h2,h3⟩:=h
  exact ⟨v,ev_sub hs h1,w,evs_sub h2,h3⟩
theorem evParts_sub:∀ {xs:List (Nat × Opnd)} {vs:List (Nat × PV)},evParts e xs=some vs→evParts e2 xs=some vs
 | [],vs,h=>h
 |(i,x) :: xs,vs,h=>by
  simp only [evParts_cons,Option.bnd_eq_some_iff] at h ⊢
  obtain ⟨v,h1,w,h2,h3⟩:=h
  exact ⟨v,ev_sub hs h1,w,evParts_sub h2,h3⟩
theorem evParts3_sub:∀ {xs:List (Nat × Nat × Opnd)} {vs:List (Nat × Nat × PV)},evParts3 e xs=some vs→evParts3 e2 xs=some vs
 | [],vs,h=>h
 |(i,n,x) :: xs,vs,h=>by
  simp only [evParts3_cons,Option.bnd_eq_some_iff] at h ⊢
  obtain ⟨v,h1,w,h2,h3⟩:=h
  exact ⟨v,ev_sub hs h1,w,evParts3_sub h2,h3⟩
theorem evO_sub {x:Option Opnd} {v:Option PV} (h:evO e x=some v):evO e2 x=some v:=by
 cases x with
 | none=>exact h
 | some x =>
  simp only [evO,Option.bnd_eq_some_iff] at h ⊢
  obtain ⟨a,h1,h2⟩:=h
  exact ⟨a,ev_sub hs h1,h2⟩
omit hs in
theorem bnd2_orc {orc orc2:Orc} (ho:orc.le orc2) {f:Nat} {vs:List PV} {h:Hp} {K:PV→Hp→Option (PV × Hp)} {r:PV × Hp} (hr:bnd2 (orc f vs h) K=some r):bnd2 (orc2 f vs h) K=some r:=by
 cases hq:orc f vs h with
 | none=>rw [hq] at hr;cases hr
 | some x=>rw [hq] at hr;rw [ho _ _ _ _ hq];exact hr
omit hs in
theorem orcQ_le {orc orc2:Orc} (ho:orc.le orc2):Orc.le (orcQ orc) (orcQ orc2):=by
 intro f a h r hr
 simp only [orcQ,Option.bnd_eq_some_iff] at hr ⊢
 obtain ⟨y,h1,h2⟩:=hr
 exact ⟨y,ho _ _ _ _ h1,h2⟩
theorem stepK_sub {orc orc2:Orc} (ho:orc.le orc2) {base:Nat} {draw:Bool} {op:AOp} {h:Hp} {K:PV→Hp→Option (PV × Hp)} {r:PV × Hp} (hr:stepK orc base draw op e h K=some r):stepK orc2 base draw op e2 h K=some r:=by
 cases op <;> simp only [stepK,Option.bnd_eq_some_iff] at hr ⊢ <;> first
  | exact hr
  |(obtain ⟨a,h1,h2⟩:=hr;exact ⟨a,ev_sub hs h1,h2⟩)
  |(obtain ⟨a,h1,h2⟩:=hr;exact ⟨a,evs_sub hs h1,h2⟩)
  |(obtain ⟨a,h1,h2⟩:=hr;exact ⟨a,evs_sub hs h1,bnd2_orc ho h2⟩)
  |(obtain ⟨a,h1,h2⟩:=hr;exact ⟨a,evs_sub hs h1,bnd2_orc (orcQ_le ho) h2⟩)
  |(obtain ⟨a,h1,h2⟩:=hr;exact ⟨a,evParts_sub hs h1,h2⟩)
  |(obtain ⟨a,h1,h2⟩:=hr;exact ⟨a,evParts3_sub hs h1,h2⟩)
  |(obtain ⟨a,h1,b,h2,h3⟩:=hr;exact ⟨a,ev_sub hs h1,b,ev_sub hs h2,h3⟩)
  |(obtain ⟨a,h1,b,h2,h3⟩:=hr;exact ⟨a,hs _ _ h1,b,ev_sub hs h2,h3⟩)
  |(obtain ⟨a,h1,b,h2,c,h3,h4⟩:=hr;exact ⟨a,hs _ _ h1,b,ev_sub hs h2,c,ev_sub hs h3,h4⟩)
  |(obtain ⟨a,h1,b,h2,c,h3,d,h4,h5⟩:=hr;exact ⟨a,ev_sub hs h1,b,evO_sub hs h2,c,evO_sub hs h3,d,evO_sub hs h4,h5⟩)
  | skip
 case pick c a b =>
  obtain ⟨v,h1,w,h2,h3⟩:=hr
  rw [condB_some] at h2
  exact ⟨v,ev_sub hs h1,w,condB_some.2 (h2.imp (fun q=>⟨q.1,ev_sub hs q.2⟩) (fun q=>⟨q.1,ev_sub hs q.2⟩)),h3⟩
 case callv x args =>
  obtain ⟨v,h1,vs,h2,h3⟩:=hr
  refine ⟨v,ev_sub hs h1,vs,evs_sub hs h2,?_⟩
  cases v <;> first | exact h3 | exact bnd2_orc ho h3
theorem step_sub {orc orc2:Orc} (ho:orc.le orc2) {base:Nat} {draw:Bool} {op:AOp} {h:Hp} {x:PV × Env × Hp} (hx:step orc base draw op e h=some x):step orc2 base draw op e2 h=some (x.1,e2,x.2.2):=by
 have h1:=stepK_eq orc base draw op e h fun v h=>some (v,h)
 rw [hx,Option.bnd_some] at h1
 have h2:=stepK_sub hs ho h1
 rw [stepK_eq,Option.bnd_eq_some_iff] at h2
 obtain ⟨y,h3,h4⟩:=h2
 have h5:=stepE_env h3
 obtain ⟨a,b,c⟩:=y
 cases h4;simp only at h5;subst h5
 exact h3
theorem wanted_sub {g:Option (Nat × Bool)} {b:Bool} (h:wanted e g=some b):wanted e2 g=some b:=by
 cases g with
 | none=>exact h
 | some g =>
  obtain ⟨t,w⟩:=g
  rw [wanted_some,Option.bnd_eq_some_iff] at h ⊢
  obtain ⟨v,h1,h2⟩:=h
  exact ⟨v,hs _ _ h1,h2⟩
theorem putD_sub (d:Option Nat) (v:PV):Sub (putD e d v) (putD e2 d v):=by
 cases d with
 | none=>exact hs
 | some d =>
  intro t w hw
  simp only [putD,look] at hw ⊢
  split at hw
  ·rename_i hq;rw [if_pos hq];exact hw
  ·rename_i hq;rw [if_neg hq];exact hs _ _ hw
end
theorem execOps_sub {orc orc2:Orc} (ho:orc.le orc2) {base:Nat} {draw:Bool}:∀ {l:List AOper} {e e2:Env} {h:Hp} {r:Env × Hp},Sub e e2→execOps orc base draw l e h=some r→∃ e3,execOps orc2 base draw l e2 h=some (e3,r.2)∧Sub r.1 e3
 | [],e,e2,h,r,hs,hr=>by cases hr;exact ⟨e2,rfl,hs⟩
 | o :: l,e,e2,h,r,hs,hr=>by
  simp only [execOps,Option.bnd_eq_some_iff] at hr ⊢
  obtain ⟨b,h1,h2⟩:=hr
  cases b with
  | true =>
   simp only [if_true,Option.bnd_eq_some_iff] at h2
   obtain ⟨x,h3,h4⟩:=h2
   rw [stepE_env h3] at h4
   obtain ⟨e3,h5,h6⟩:=execOps_sub ho (putD_sub hs o.dst x.1) h4
   exact ⟨e3,⟨true,wanted_sub hs h1,by simp only [if_true,Option.bnd_eq_some_iff];exact ⟨_,step_sub hs ho h3,h5⟩⟩,h6⟩
  | false =>
   simp only [Bool.false_eq_true,if_false] at h2
   obtain ⟨e3,h5,h6⟩:=execOps_sub ho (putD_sub hs o.dst .undef) h2
   exact ⟨e3,⟨false,wanted_sub hs h1,by simpa using h5⟩,h6⟩
theorem look_prune_mem:∀ (ts:List Nat) (e:Env) (t:Nat),t∈ts→look (prune ts e) t=look e t
 | t' :: ts,e,t,h=>by
  rw [prune_cons,look_pruneC]
  by_cases hq:t'=t
  ·subst hq
   rw [if_pos rfl]
   cases hl:look e t' with
   | some v=>rfl
   | none =>
    rw [orr_none]
    cases hp:look (prune ts e) t' with
    | none=>rfl
    | some v=>rw [look_prune _ _ _ _ hp] at hl;cases hl
  ·rw [if_neg hq]
   rcases List.mem_cons.1 h with h | h
   ·exact (hq h.symm).elim
   ·exact look_prune_mem ts e t h
theorem look_prune_not:∀ (ts:List Nat) (e:Env) (t:Nat),t ∉ ts→look (prune ts e) t=none
 | [],e,t,h=>rfl
 | t' :: ts,e,t,h=>by
  simp only [List.mem_cons,not_or] at h
  rw [prune_cons,look_pruneC,if_neg (fun q=>h.1 q.symm)]
  exact look_prune_not ts e t h.2
theorem prune_sub {k k':List Nat} (hk:∀ t∈k',t∈k) {e e2:Env} (hs:Sub e e2):Sub (prune k' e) (prune k e2):=by
 intro t v hv
 by_cases hm:t∈k'
 ·rw [look_prune_mem _ _ _ hm] at hv
  rw [look_prune_mem _ _ _ (hk t hm)]
  exact hs _ _ hv
 ·rw [look_prune_not _ _ _ hm] at hv;cases hv
theorem prune_sub1 (k':List Nat) {e e2:Env} (hs:Sub e e2):Sub (prune k' e) e2:=fun t v hv=>hs _ _ (look_prune _ _ _ _ hv)
inductive Le:ACode→ACode→Prop
 | skip:Le .skip .skip
 | exit (i):Le (.exit i) (.exit i)
 | ret:Le .ret .ret
 | ops (l d k k') (hk:∀ t∈k',t∈k):Le (.ops l d k') (.ops l d k)
 | seq {a b a' b'} (ha:Le a' a) (hb:Le b' b):Le (.seq a' b') (.seq a b)
 | cond (c) {a b a' b'} (ha:Le a' a) (hb:Le b' b):Le (.cond c a' b') (.cond c a b)
 | block (i) {a a'} (ha:Le a' a):Le (.block i a') (.block i a)
 | loop {a a'} (ha:Le a' a):Le (.loop a') (.loop a)
 | scope {a a'} (ha:Le a' a):Le (.scope a') (.scope a)
 | pre (k) {a a'} (ha:Le a' a):Le (.seq (.ops [] false k) a') a
 | post (k) {a a'} (ha:Le a' a):Le (.seq a' (.ops [] false k)) a
theorem Le.refl:∀ c,Le c c
 | .skip=>.skip
 | .exit i=>.exit i
 | .ret=>.ret
 | .ops l d k=>.ops l d k k fun _ h=>h
 | .seq a b=>.seq (Le.refl a) (Le.refl b)
 | .cond c a b=>.cond c (Le.refl a) (Le.refl b)
 | .block i a=>.block i (Le.refl a)
 | .loop a=>.loop (Le.refl a)
 | .scope a=>.scope (Le.refl a)
inductive An where
 | leaf
 | ops (k:List Nat)
 | node (a b:An)
 | pre (k:List Nat) (a:An)
 | loop (k:List Nat) (a:An)
def optC:An→ACode→ACode
 | .ops k',.ops l d k=>.ops l d (k'.filter fun t=>k.any fun s=>Nat.beq t s)
 | .node x y,.seq a b=>.seq (optC x a) (optC y b)
 | .node x y,.cond c a b=>.cond c (optC x a) (optC y b)
 | .node x _,.block i a=>.block i (optC x a)
 | .node x _,.scope a=>.scope (optC x a)
 | .pre k x,c=>.seq (.ops [] false k) (optC x c)
 | .loop k x,.loop a=>.seq (.ops [] false k) (.loop (.seq (optC x a) (.ops [] false k)))
 | _,c=>c
theorem optC_le:∀ (x:An) (c:ACode),Le (optC x c) c
 | .leaf,c=>by cases c <;> exact Le.refl _
 | .ops k',c=>by
  cases c <;> try exact Le.refl _
  rename_i l d k
  refine .ops l d k _ fun t ht=>?_
  rw [List.mem_filter,List.any_eq_true] at ht
  obtain ⟨_,s,h1,h2⟩:=ht
  rw [Nat.eq_of_beq_eq_true h2];exact h1
 | .node x y,c=>by
  cases c with
  | seq a b=>exact .seq (optC_le x a) (optC_le y b)
  | cond c a b=>exact .cond c (optC_le x a) (optC_le y b)
  | block i a=>exact .block i (optC_le x a)
  | scope a=>exact .scope (optC_le x a)
  | _=>exact Le.refl _
 | .pre k x,c=>by cases c <;> exact .pre k (optC_le x _)
 | .loop k x,c=>by
  cases c with
  | loop a=>exact .pre k (.loop (.post k (optC_le x a)))
  | _=>exact Le.refl _
def TLe (T' T:Table):Prop:=∀ f it',T' f=some it'→match it' with
 | .prim g=>T f=some (.prim g)
 | .primN g=>T f=some (.primN g)
 | .code F'=>∃ F,T f=some (.code F)∧Le F'.body F.body∧F'.results=F.results∧F'.keep=F.keep∧F'.own=F.own
theorem resultsOf_sub {e e2:Env} (hs:Sub e e2) (h:Hp):∀ {rs:List (Nat × Option (Nat × Bool))} {vs:List PV},resultsOf e h rs=some vs→resultsOf e2 h rs=some vs
 | [],vs,hv=>hv
 |(t,o) :: rs,vs,hv=>by
  simp only [resultsOf_cons,Option.bnd_eq_some_iff] at hv ⊢
  obtain ⟨v,h1,ws,h2,h3⟩:=hv
  refine ⟨v,?_,ws,resultsOf_sub hs h h2,h3⟩
  cases o with
  | none=>exact hs _ _ h1
  | some o =>
   obtain ⟨n,g⟩:=o
   rw [resultOf_cell,Option.bnd_eq_some_iff] at h1 ⊢
   obtain ⟨a,h4,h5⟩:=h1
   exact ⟨a,hs _ _ h4,h5⟩
theorem finish_sub {F' F:AFn} (h1:F'.results=F.results) (h2:F'.keep=F.keep) (h3:F'.own=F.own) {e e2:Env} (hs:Sub e e2) {n0:Nat} {h:Hp} {r:PV × Hp} (hr:finish F' n0 e h=some r):finish F n0 e2 h=some r:=by
 rw [finish,Option.bnd_eq_some_iff] at hr ⊢
 obtain ⟨vs,h4,h5⟩:=hr
 rw [h1] at h4
 rw [h2,h3] at h5
 exact ⟨vs,resultsOf_sub hs h h4,h5⟩
theorem le_sound {T' T:Table} (hT:TLe T' T):∀ n,(∀ c' c base e h x e1 h1 e2,Le c' c→exec T' n c' base e h=some (x,e1,h1)→Sub e e2→∃ e3,ExecA T c base e2 h=some (x,e3,h1)∧Sub e1 e3) ∧
  (∀ base f a h r,call T' n base f a h=some r→CallA T base f a h=some r)
 | 0=>⟨fun _ _ _ _ _ _ _ _ _ _ hx=>by simp [exec] at hx,fun _ _ _ _ _ hx=>by simp [call] at hx⟩
 | n+1=>by
  obtain ⟨ih,ihc⟩:=le_sound hT n
  refine ⟨fun c' c base e h x e1 h1 e2 hle hx hs=>?_,fun base f a h r hr=>?_⟩
  ·cases hle with
   | skip=>rw [exec] at hx;cases hx;exact ⟨e2,ExecA_skip,hs⟩
   | exit i=>rw [exec] at hx;cases hx;exact ⟨e2,ExecA_exit,hs⟩
   | ret=>rw [exec] at hx;cases hx;exact ⟨e2,ExecA_ret,hs⟩
   | ops l d k k' hk =>
    rw [exec,Option.bnd_eq_some_iff] at hx
    obtain ⟨y,h2,h3⟩:=hx
    obtain ⟨e3,h4,h5⟩:=execOps_sub (fun f a h r=>ihc base f a h r) hs h2
    cases h3
    exact ⟨prune k e3,by rw [ExecA_ops,h4];rfl,prune_sub hk h5⟩
   | seq ha hb =>
    rw [exec,Option.bnd_eq_some_iff] at hx
    obtain ⟨⟨y,ey,hy⟩,h2,h3⟩:=hx
    obtain ⟨e3,h4,h5⟩:=ih _ _ _ _ _ _ _ _ _ ha h2 hs
    cases y with
    | norm =>
     obtain ⟨e4,h6,h7⟩:=ih _ _ _ _ _ _ _ _ _ hb h3 h5
     exact ⟨e4,by rw [ExecA_seq,h4];exact h6,h7⟩
    | _=>cases h3;exact ⟨e3,by rw [ExecA_seq,h4];rfl,h5⟩
   | cond c ha hb =>
    rw [exec,Option.bnd_eq_some_iff] at hx
    obtain ⟨v,h2,h3⟩:=hx
    rw [condB_some] at h3
    rcases h3 with ⟨rfl,h3⟩ | ⟨rfl,h3⟩
    ·obtain ⟨e3,h4,h5⟩:=ih _ _ _ _ _ _ _ _ _ ha h3 hs
     exact ⟨e3,by rw [ExecA_cond,ev_sub hs h2];exact h4,h5⟩
    ·obtain ⟨e3,h4,h5⟩:=ih _ _ _ _ _ _ _ _ _ hb h3 hs
     exact ⟨e3,by rw [ExecA_cond,ev_sub hs h2];exact h4,h5⟩
   | block i ha =>
    rw [exec,Option.bnd_eq_some_iff] at hx
    obtain ⟨⟨y,ey,hy⟩,h2,h3⟩:=hx
    obtain ⟨e3,h4,h5⟩:=ih _ _ _ _ _ _ _ _ _ ha h2 hs
    rw [ExecA_block,h4,Option.bnd_some]
    cases y with
    | exit j =>
     simp only at h3 ⊢
     split at h3
     ·rename_i hq;rw [if_pos hq];cases h3;exact ⟨e3,rfl,h5⟩
     ·rename_i hq;rw [if_neg hq];cases h3;exact ⟨e3,rfl,h5⟩
    | _=>cases h3;exact ⟨e3,rfl,h5⟩
   | loop ha =>
    rw [exec,Option.bnd_eq_some_iff] at hx
    obtain ⟨⟨y,ey,hy⟩,h2,h3⟩:=hx
    obtain ⟨e3,h4,h5⟩:=ih _ _ _ _ _ _ _ _ _ ha h2 hs
    rw [ExecA_loop,h4,Option.bnd_some]
    cases y with
    | norm=>exact ih _ _ _ _ _ _ _ _ _ (.loop ha) h3 h5
    | _=>cases h3;exact ⟨e3,rfl,h5⟩
   | scope ha =>
    rw [exec] at hx
    rw [ExecA_scope]
    exact ih _ _ _ _ _ _ _ _ _ ha hx hs
   | pre k ha =>
    rw [exec,Option.bnd_eq_some_iff] at hx
    obtain ⟨⟨y,ey,hy⟩,h2,h3⟩:=hx
    cases n with
    | zero=>simp [exec] at h2
    | succ m =>
     rw [exec,execOps,Option.bnd_some] at h2
     cases h2
     exact ih _ _ _ _ _ _ _ _ _ ha h3 (prune_sub1 k hs)
   | post k ha =>
    rw [exec,Option.bnd_eq_some_iff] at hx
    obtain ⟨⟨y,ey,hy⟩,h2,h3⟩:=hx
    obtain ⟨e3,h4,h5⟩:=ih _ _ _ _ _ _ _ _ _ ha h2 hs
    cases y with
    | norm =>
     cases n with
     | zero=>simp [exec] at h2
     | succ m =>
      simp only at h3
      rw [exec,execOps,Option.bnd_some] at h3
      cases h3
      exact ⟨e3,h4,prune_sub1 k h5⟩
    | _=>cases h3;exact ⟨e3,h4,h5⟩
  ·rw [call] at hr
   cases hf:T' f with
   | none=>rw [hf] at hr;cases hr
   | some it =>
    rw [hf] at hr
    cases it with
    | prim g=>rw [CallA_prim (hT f _ hf)];exact hr
    | primN g=>rw [CallA_primN (hT f _ hf)];exact hr
    | code F' =>
     obtain ⟨F,h1,h2,h3,h4,h5⟩:=hT f _ hf
     simp only [Option.bnd_eq_some_iff] at hr
     obtain ⟨⟨y,ey,hy⟩,h6,h7⟩:=hr
     obtain ⟨e3,h8,h9⟩:=ih _ _ _ _ _ _ _ _ _ h2 h6 (Sub.refl _)
     rw [h4] at h8
     rw [CallA_code h1,h8,Option.bnd_some]
     cases y with
     | exit i=>cases h7
     | norm=>exact finish_sub h3 h4 h5 h9 h7
     | ret=>exact finish_sub h3 h4 h5 h9 h7
def optF (x:An) (F:AFn):AFn:={ F with body:=optC x F.body }
def TableOk2 (P:Program) (gl:Globs) (I:Nat→World→Prop) (T:Table):Prop:=∀ f it,T f=some it→match it with
 | .code fn=>∃ x an fn0,P.funcs[f]?=some fn0∧(cFn P gl an fn0).map (optF x)=some fn
 | .prim pg=>PrimOk P I f pg
 | .primN pg=>PrimNOk P I f pg
theorem tableOk_of {P:Program} {gl:Globs} {I:Nat→World→Prop} {T':Table} (hT:TableOk2 P gl I T'):∃ T,TableOk P gl I T∧TLe T' T:=by
 have hex:∀ f,∃ it:Option AItem,(∀ i,it=some i→match i with | .code fn=>∃ an fn0,P.funcs[f]?=some fn0∧cFn P gl an fn0=some fn | .prim pg=>PrimOk P I f pg | .primN pg=>PrimNOk P I f pg) ∧
   (∀ it',T' f=some it'→match it' with | .prim g=>it=some (.prim g) | .primN g=>it=some (.primN g) | .code F'=>∃ F,it=some (.code F)∧Le F'.body F.body∧F'.results=F.results∧F'.keep=F.keep∧F'.own=F.own):=by
  intro f
  cases hf:T' f with
  | none=>exact ⟨none,fun _ h=>(nomatch h),fun _ h=>(nomatch h)⟩
  | some it' =>
   have h1:=hT f it' hf
   cases it' with
   | prim g=>exact ⟨some (.prim g),fun i hi=>by cases hi;exact h1,fun i hi=>by cases hi;rfl⟩
   | primN g=>exact ⟨some (.primN g),fun i hi=>by cases hi;exact h1,fun i hi=>by cases hi;rfl⟩
   | code F' =>
    obtain ⟨x,an,fn0,h2,h3⟩:=h1
    rw [Option.map_eq_some_iff] at h3
    obtain ⟨F,h4,rfl⟩:=h3
    exact ⟨some (.code F),fun i hi=>by cases hi;exact ⟨an,fn0,h2,h4⟩,fun i hi=>by cases hi;exact ⟨F,rfl,optC_le x F.body,rfl,rfl,rfl⟩⟩
 exact ⟨fun f=>Classical.choose (hex f),fun f it h=>(Classical.choose_spec (hex f)).1 it h,fun f it' h=>(Classical.choose_spec (hex f)).2 it' h⟩
theorem enters_code {P:Program} {gl:Globs} {I:Nat→World→Prop} {T:Table} (hT:TableOk2 P gl I T) {f:Nat} (hcode:∃ F,T f=some (.code F)) (us:Array Value) (w:World):(callFunc f us).run P w=.ok (.enter f us) w:=by
 obtain ⟨F,hF⟩:=hcode
 obtain ⟨x,an,fn0,h1,h2⟩:=hT f _ hF
 rw [Option.map_eq_some_iff] at h2
 obtain ⟨F0,h3,_⟩:=h2
 exact enters_cFn h1 h3 us w
open Go.RowKit (Below) in
theorem sound2 {P:Program} {gl:Globs} {I:Nat→World→Prop} {T:Table} (hT:TableOk2 P gl I T) {f:Nat} {vs:List PV} {r:PV} {h':Hp} (hs:CallA T 0 f vs []=some (r,h')) (w:World) (hgl:GlobOk gl w.heap.size w) (hI:I w.heap.size w) (us:Array Value) (hlen:us.size=vs.length)
  (hrel:∀ (j:Nat) (x:PV),vs[j]?=some x→RV w.heap.size { ι:=id,n:=0,hw:=fun _=>none } w x (us.getD j Go.undef)) (hcode:∃ F,T f=some (.code F):=by exact ⟨_,rfl⟩) :
  Calls P f us w fun en w'=>∃ u g',en=.returned u∧RV w.heap.size g' w' r u∧Below w.heap.size w w':=by
 obtain ⟨T0,h1,h2⟩:=tableOk_of hT
 obtain ⟨n,hn⟩:=CallA_iff.1 hs
 exact sound h1 ((le_sound h2 n).2 0 f vs [] _ hn) w hgl hI us hlen hrel (enters_code hT hcode us w)
end Go.Am
namespace Go.Am.Ytlonabodghfjdaa
set_option maxRecDepth 100000
set_option linter.unusedVariables false
open Go.Proofs
def gl:Globs:=[]
noncomputable def Fx (A:An) (o:Option AFn):AFn:=match o.map (optF A) with | some f=>f | none=>⟨[],.skip,false,false⟩
def A3:An:=(.node (.ops [1,0]) (.node (.node (.ops [18,1,0]) (.node (.node (.ops [4]) .leaf) .leaf)) (.node (.node (.ops [25,1,0]) (.node (.node (.ops [4]) .leaf) .leaf)) (.node (.ops [6,1,7]) (.node (.ops [8,6,1,9]) (.node (.node (.ops [39,8,6,1]) (.node (.node (.ops [4]) .leaf) .leaf)) (.node (.node (.ops [42,8,6,40,41]) (.node (.loop [42,8,6,40,41] (.node (.ops [43,8,6,40,41,42]) (.node (.node .leaf .leaf) (.node (.node (.node (.ops [8,6,40,41,42,11]) (.node (.ops [8,6,40,41,42,13,12,11]) (.node (.ops [8,6,40,41,42,13,12,11,14,15]) (.node (.node (.ops [64,8,6,40,41,42,13,12,11,14,15]) (.node .leaf .leaf)) (.node (.node (.ops [71,8,6,40,41,42,13,12,11,14,15]) (.node (.node (.node (.ops [81,8,6,40,41,42]) (.node (.node (.ops [4]) .leaf) .leaf)) .leaf) .leaf)) (.node (.ops [8,6,40,41,42,13,12,16,11,14,15]) (.node (.node (.ops [102,8,6,40,41,42,13,12,16]) (.node (.node (.ops [119,8,6,40,41,42]) (.node (.node (.ops [4]) .leaf) .leaf)) (.node (.ops [120,8,6,40,41,42,13,16,12]) (.node (.node (.ops [135,8,6,40,41,42]) (.node (.node (.ops [4]) .leaf) .leaf)) (.node (.ops [101,8,6,40,41,42]) (.node (.node (.ops [4]) .leaf) .leaf)))))) .leaf))))))) .leaf) (.ops [42,8,6,40,41]))))) .leaf)) (.node (.ops [4]) .leaf))))))))
noncomputable def F3:AFn:=Fx A3 (cFn Try.prog gl {} Try.f3)
def A4:An:=(.node (.ops [1,2,0]) (.node (.node (.ops [27,1,2,0]) (.node (.node (.ops [6]) .leaf) .leaf)) (.node (.node (.ops [39,1,2,0]) (.node (.node (.ops [6]) .leaf) .leaf)) (.node (.ops [8,1,7,2,9]) (.node (.ops [10,8,1,7,2,11]) (.node (.node (.ops [53,10,8,1,7,2]) (.node (.node (.ops [6]) .leaf) .leaf)) (.node (.ops [12,10,8,1,7,2]) (.node (.node (.ops [56,12,10,8,54,1,7,2,55]) (.node (.loop [56,12,10,8,54,1,7,2,55] (.node (.ops [57,10,8,54,1,7,2,55,56,12]) (.node (.node .leaf .leaf) (.node (.node (.node (.ops [10,8,54,1,7,2,55,56,14,12,13]) (.node (.node (.ops [63,10,8,54,1,7,2,55,56,14,12,13]) (.node (.node (.ops [6]) .leaf) .leaf)) (.node (.ops [10,8,54,1,7,2,55,56,14,12,15,13]) (.node (.ops [10,8,54,1,7,2,55,56,14,12,16,15]) (.node (.node (.ops [87,10,8,54,1,7,2,55,56,14,12,16]) (.node (.node (.ops [6]) .leaf) .leaf)) (.node (.ops [89,10,8,54,1,7,2,55,56,14,12]) (.node (.ops [12,10,8,54,1,7,2,55,56]) .leaf))))))) .leaf) (.ops [56,12,10,8,54,1,7,2,55]))))) .leaf)) (.node (.ops [10,1,17,7,12,8,2]) (.node (.node (.ops [101,10,1,99,17,7,12,8,2,100]) (.node (.loop [101,10,1,99,17,7,12,8,2,100] (.node (.ops [102,10,1,99,17,7,12,8,2,100,101]) (.node (.node .leaf .leaf) (.node (.node (.node (.ops [10,1,99,17,7,12,8,2,100,101,19]) (.node (.ops [20,10,1,99,17,7,12,8,2,100,101,19]) (.node (.node (.ops [113,20,10,1,99,17,7,12,8,2,100,101,19,112]) (.node (.loop [113,20,10,1,99,17,7,12,8,2,100,101,19,112] (.node (.ops [114,20,10,1,99,17,7,12,8,2,100,101,19,112,113]) (.node (.node .leaf .leaf) (.node (.node (.node (.ops [20,10,1,99,17,7,12,8,2,100,101,19,112,113,22]) (.ops [20,10,1,99,17,7,12,8,2,100,101,19,112,113])) .leaf) (.ops [113,20,10,1,99,17,7,12,8,2,100,101,19,112]))))) .leaf)) (.node (.ops [10,1,99,17,7,12,8,2,100,101,23,19]) (.node (.ops [142,10,1,99,17,7,12,8,2,100,101]) (.node (.node (.ops [6]) .leaf) .leaf)))))) .leaf) (.ops [101,10,1,99,17,7,12,8,2,100]))))) .leaf)) (.node (.node (.ops [147,17,7,12,8,2,10]) (.node (.node (.ops [6]) .leaf) .leaf)) (.node (.ops [17,7,25,12,8,2]) (.node (.node (.ops [158,17,7,25]) (.node (.node (.ops [6]) .leaf) .leaf)) (.node (.ops [6]) .leaf))))))))))))))
noncomputable def F4:AFn:=Fx A4 (cFn Try.prog gl {} Try.f4)
def A5:An:=(.node (.ops [3,1,2,0]) (.node (.node (.ops [25,3,1,2,0]) (.node (.node (.ops [8]) .leaf) .leaf)) (.node (.node (.ops [32,3,1,2,0]) (.node (.node (.ops [8]) .leaf) .leaf)) (.node (.ops [11,10,9,3,1,2]) (.node (.ops [11,10,9,3,12,1,2,13]) (.node (.node (.ops [46,11,10,9,3,12,1,2]) (.node (.node (.ops [8]) .leaf) .leaf)) (.node (.ops [11,10,9,3,12,1]) (.node (.ops [14,11,10,9,3,12,15,1]) (.node (.node (.ops [14,11,10,9,3,55,12,53,15,54]) (.node (.loop [14,11,10,9,3,55,12,53,15,54] (.node (.ops [56,14,11,10,9,3,12,53,54,55,15]) (.node (.node .leaf .leaf) (.node (.node (.node (.ops [14,11,10,9,3,12,53,54,55,17]) (.node (.ops [14,11,10,9,3,12,53,54,55,17,15]) (.node (.ops [14,11,10,9,3,12,53,54,55,17,15,18]) (.node (.node (.ops [14,11,10,9,3,12,53,54,55,17,15,18,61]) (.node (.node (.node (.ops [62,14,11,10,9,3,12,53,54,55,17,15,18,61]) (.node .leaf (.ops [62,14,11,10,9,3,12,53,54,55,17,15,18,61]))) (.pre [62,14,11,10,9,3,12,53,54,55,17,15,18,61] (.node (.node (.ops [14,11,10,9,3,12,53,54,55,18,17,15]) (.node (.ops [76,14,11,10,9,3,12,53,54,55,18,17,15]) (.node (.ops [15,14,11,10,9,3,12,53,54,55,18]) .leaf))) (.node (.ops [83,14,11,10,9,3,12,53,54,55,17,15,18]) (.node (.node (.ops [14,11,10,9,3,12,53,54,55,18,17,15]) (.node (.ops [94,14,11,10,9,3,12,53,54,55,18,17,15]) (.node (.ops [15,14,11,10,9,3,12,53,54,55,18]) .leaf))) .leaf))))) .leaf)) (.pre [15,14,11,10,9,3,12,53,54,55,18] (.node (.node (.ops [100,15,14,11,10,9,3,12,53,54,55]) (.node .leaf .leaf)) (.node (.ops [14,11,10,9,3,12,53,15,54,55]) (.node (.ops [106,14,11,10,9,3,12,53,15,54,55]) (.node (.node (.ops [8]) .leaf) .leaf))))))))) .leaf) (.ops [14,11,10,9,3,55,12,53,15,54]))))) .leaf)) (.node (.ops [15,14,11,10,9,3]) (.node (.ops [15,14,11,10,9]) (.node (.ops [15,14,11,10,9,19,20]) (.node (.node (.ops [121,15,14,11,10,9,19,20]) (.node (.node (.ops [15,14,11,10,9]) (.ops [15,14,11,10,19,20,9])) .leaf)) (.pre [15,14,11,10,19,20,9] (.node (.ops [15,14,11,10,19,20]) (.node (.node (.ops [133,15,14,11,10,19]) (.node (.node (.ops [8]) .leaf) .leaf)) (.node (.ops [21,15,14,11,10]) (.node (.ops [21,22,15,14,23]) (.node (.ops [8]) .leaf)))))))))))))))))))
noncomputable def F5:AFn:=Fx A5 (cFn Try.prog gl {} Try.f5)
def A6:An:=(.node (.ops [1,0]) (.node (.node (.ops [17,1,0]) (.node (.node (.ops [4]) .leaf) .leaf)) (.node (.node (.ops [24,1,0]) (.node (.node (.ops [4]) .leaf) .leaf)) (.node (.ops [7,6,5,1]) (.node (.ops [7,6,5]) (.node (.ops [9,8,7,6,5]) (.node (.node (.ops [41,9,8,7,6,5]) (.node (.node (.ops [9,11,8]) (.node (.ops [4]) .leaf)) .leaf)) (.node (.ops [8,5,12,7,6]) (.node (.ops [8,13,5,12,7,6]) (.node (.ops [14,8,13,5,12,15]) (.node (.ops [4]) .leaf)))))))))))
noncomputable def F6:AFn:=Fx A6 (cFn Try.prog gl {} Try.f6)
def A7:An:=(.node (.ops []) (.node (.ops [3,2,1]) (.node (.node (.ops [24,3,2,1]) (.node (.node (.ops [0]) .leaf) .leaf)) (.node (.ops [4,3,2,1,5]) (.node (.node (.ops [58,4,3,2,1]) (.node (.node (.ops [0]) .leaf) .leaf)) (.node (.ops [4,6,3,2]) (.node (.ops [4,7,8,6,3,2]) (.node (.ops [4,9,7,8,6,3,2]) (.node (.ops [10,4,9,7,8,6,11]) (.node (.node (.ops [75,10,4,9,7,8,6]) (.node (.node (.ops [0]) .leaf) .leaf)) (.node (.ops [10,4,12,13,9,7,8,6]) (.node (.ops [0]) .leaf))))))))))))
noncomputable def F7:AFn:=Fx A7 (cFn Try.prog gl { boxes:=[(5,13),(5,14)] } Try.f7)
def A8:An:=(.node (.ops [0]) (.node (.node (.ops [7,5,0,6]) (.node (.loop [7,5,0,6] (.node (.ops [8,5,0,6,7]) (.node (.node .leaf .leaf) (.node (.node (.node (.ops [5,0,6,7,4]) (.node (.ops [14,5,0,6,7]) (.node (.node (.ops [2]) .leaf) .leaf))) .leaf) (.ops [7,5,0,6]))))) .leaf)) (.node (.ops [2]) .leaf)))
noncomputable def F8:AFn:=Fx A8 (cFn Try.prog gl {} Try.f8)
def A9:An:=(.node (.ops [0]) (.node (.ops [5]) (.node (.ops [6,5]) (.node (.ops [8,6,5]) (.node (.ops [2,3,4]) .leaf)))))
noncomputable def F9:AFn:=Fx A9 (cFn Try.prog gl { keep:=true } Try.f9)
def A10:An:=(.node (.ops [1,0]) (.node (.ops [6,1,0]) (.node (.node (.ops [28,6]) (.node (.node (.ops [4,5]) .leaf) .leaf)) (.node (.node (.ops [33,6]) (.node (.node (.ops [4,5]) .leaf) .leaf)) (.node (.ops [8,6,7]) (.node (.node (.ops [40,8,6,7]) (.node (.node (.ops [4,5]) .leaf) .leaf)) (.node (.node (.ops [43,6]) (.node (.node (.ops [6]) (.node (.node (.ops [9,6]) (.node (.ops [58,9,6]) (.node (.node (.ops [4,5]) .leaf) .leaf))) (.node (.ops [4,5]) .leaf))) .leaf)) (.node (.ops [6,8,10]) (.node (.node (.ops [70,6,8]) (.node (.ops [8,6]) .leaf)) (.node (.node (.ops [78,8,6]) (.node (.node (.ops [4,5]) .leaf) .leaf)) (.node (.ops [4,5]) .leaf)))))))))))
noncomputable def F10:AFn:=Fx A10 (cFn Try.prog gl { keep:=true } Try.f10)
def A11:An:=(.node (.ops [0]) (.node (.ops [2]) .leaf))
noncomputable def F11:AFn:=Fx A11 (cFn Try.prog gl {} Try.f11)
def A12:An:=(.node (.ops [0]) (.node (.ops [2]) .leaf))
noncomputable def F12:AFn:=Fx A12 (cFn Try.prog gl {} Try.f12)
def A13:An:=(.node (.ops [1,0]) (.node (.ops [7,6]) (.node (.ops [4,5]) .leaf)))
noncomputable def F13:AFn:=Fx A13 (cFn Try.prog gl { own:=true } Try.f13)
def A14:An:=(.node (.ops [2,1,0]) (.node (.node (.ops [7,2,1,0]) (.node (.ops [16,7,2,1,0]) (.node (.node (.ops [6]) .leaf) .leaf))) (.node (.node (.ops [2,1,0,8,9]) (.node (.ops [32,2,1,0]) (.node (.node (.ops [6]) .leaf) .leaf))) (.node (.ops [10,2,1,0]) (.node (.ops [10,2,1,0]) (.node (.ops [6]) .leaf))))))
noncomputable def F14:AFn:=Fx A14 (cFn Try.prog gl { keep:=true,quiet:=[(8,3),(9,3)] } Try.f14)
def A15:An:=(.node (.ops [1,0]) (.node (.node (.ops [10,1,0]) (.node (.node (.ops [4]) .leaf) .leaf)) (.node (.node (.ops [5,1,0]) (.node (.loop [5,1,0] (.node (.node (.ops [14,1,0,5]) (.node .leaf .leaf)) (.node (.node (.node (.ops [25,1,0,5]) (.node (.node (.ops [4]) .leaf) .leaf)) .leaf) (.ops [5,1,0])))) .leaf)) (.node (.ops [4]) .leaf))))
noncomputable def F15:AFn:=Fx A15 (cFn Try.prog gl {} Try.f15)
def A16:An:=(.node (.ops [0]) (.node (.ops [2]) .leaf))
noncomputable def F16:AFn:=Fx A16 (cFn Try.prog gl {} Try.f16)
def A17:An:=(.node (.ops [0]) (.node (.ops [0,3]) (.node (.node (.ops [4,0,3]) (.node (.loop [4,0,3] (.node (.node (.ops [8,0,4,3]) (.node .leaf .leaf)) (.node (.node (.ops [0,3,4]) .leaf) (.ops [4,0,3])))) .leaf)) (.node (.ops [2]) .leaf))))
noncomputable def F17:AFn:=Fx A17 (cFn Try.prog gl {} Try.f17)
def A18:An:=(.node (.ops [0]) (.node (.ops [3,0]) (.node (.node (.ops [12,3,0,10,11]) (.node (.loop [12,3,0,10,11] (.node (.ops [13,0,10,11,12,3]) (.node (.node .leaf .leaf) (.node (.node (.node (.ops [0,10,11,12,5,3]) (.node (.ops [0,10,11,12,6,5,3,7]) (.node (.node (.ops [23,0,10,11,12,6,5,3]) (.node (.node (.ops [2]) .leaf) .leaf)) (.ops [3,0,10,11,12])))) .leaf) (.ops [12,3,0,10,11]))))) .leaf)) (.node (.ops [2]) .leaf))))
noncomputable def F18:AFn:=Fx A18 (cFn Try.prog gl { quiet:=[(2,1),(5,2)] } Try.f18)
def A19:An:=(.node (.ops [0]) (.node (.ops [2]) .leaf))
noncomputable def F19:AFn:=Fx A19 (cFn Try.prog gl {} Try.f19)
def A20:An:=(.node (.ops [0]) (.node (.ops [2]) .leaf))
noncomputable def F20:AFn:=Fx A20 (cFn Try.prog gl {} Try.f20)
def A21:An:=(.ops [])
noncomputable def F21:AFn:=Fx A21 (cFn Try.prog gl {} Try.f21)
def A22:An:=(.node (.ops [0,1,2]) (.node (.ops [0,1,2,7]) (.node (.ops [0,1,2,7,8]) (.node (.node (.ops [9,0,1,2,7,8]) (.node (.loop [9,0,1,2,7,8] (.node (.node (.ops [14,0,1,2,9,7,8]) (.node .leaf .leaf)) (.node (.node (.node (.node (.ops [27,0,1,2,9,7,8]) (.node (.node (.ops [0,1,2,9,7]) (.ops [0,1,2,8,9,7])) .leaf)) (.node (.ops [41,0,1,2,8,9,7]) (.node (.ops [0,1,2,7,8,9]) .leaf))) .leaf) (.ops [9,0,1,2,7,8])))) .leaf)) (.node (.node (.ops [50,2,1,7]) (.node (.ops [7]) .leaf)) (.node (.ops [6]) .leaf))))))
noncomputable def F22:AFn:=Fx A22 (cFn Try.prog gl {} Try.f22)
def A23:An:=(.node (.ops [1,0]) (.node (.node (.ops [5,1,0]) (.node (.ops [13,5,1,0]) (.node (.node (.ops [4]) .leaf) .leaf))) (.node (.node (.ops [1,0,7]) (.node (.ops [25,1,0]) (.node (.node (.ops [4]) .leaf) .leaf))) (.node (.ops [8,1,0]) (.node (.ops [8,1,0]) (.node (.ops [4]) .leaf))))))
noncomputable def F23:AFn:=Fx A23 (cFn Try.prog gl { keep:=true } Try.f23)
def A24:An:=(.node (.ops [0,1]) (.node (.ops [0,5,1]) (.node (.node (.ops [6,0,5,1]) (.node (.loop [6,0,5,1] (.node (.node (.ops [11,0,1,6,5]) (.node .leaf .leaf)) (.node (.node (.node (.ops [20,0,1,6,5]) (.node (.ops [0,5,1,6]) .leaf)) .leaf) (.ops [6,0,5,1])))) .leaf)) (.node (.ops [4]) .leaf))))
noncomputable def F24:AFn:=Fx A24 (cFn Try.prog gl {} Try.f24)
def A25:An:=(.node (.ops [1,0]) (.node (.node (.ops [10,1,0]) (.node (.node (.ops [4]) .leaf) .leaf)) (.node (.node (.ops [5,1,0]) (.node (.loop [5,1,0] (.node (.node (.ops [14,1,0,5]) (.node .leaf .leaf)) (.node (.node (.node (.ops [41,1,0,5]) (.node (.node (.ops [4]) .leaf) .leaf)) .leaf) (.ops [5,1,0])))) .leaf)) (.node (.ops [4]) .leaf))))
noncomputable def F25:AFn:=Fx A25 (cFn Try.prog gl {} Try.f25)
def A26:An:=(.ops [])
noncomputable def F26:AFn:=Fx A26 (cFn Try.prog gl {} Try.f26)
def A27:An:=(.node (.ops [0]) (.ops []))
noncomputable def F27:AFn:=Fx A27 (cFn Try.prog gl {} Try.f27)
def A28:An:=(.node (.ops [0]) (.node (.ops [2]) .leaf))
noncomputable def F28:AFn:=Fx A28 (cFn Try.prog gl {} Try.f28)
def A30:An:=(.node (.ops [2,1,0]) (.node (.ops [2,1,0,8]) (.node (.node (.ops [31,2,1,0]) (.node (.node (.ops [6,7]) .leaf) .leaf)) (.node (.ops [6,7]) .leaf))))
noncomputable def F30:AFn:=Fx A30 (cFn Try.prog gl { keep:=true } Try.f30)
def A31:An:=(.node (.ops [0]) (.node (.ops [2]) .leaf))
noncomputable def F31:AFn:=Fx A31 (cFn Try.prog gl {} Try.f31)
def A32:An:=(.node (.ops [0]) (.node (.ops [2]) .leaf))
noncomputable def F32:AFn:=Fx A32 (cFn Try.prog gl {} Try.f32)
def A33:An:=(.node (.ops [0]) (.node (.ops [0,4]) (.node (.node (.ops [10,0,4]) (.node (.loop [10,0,4] (.node (.ops [11,0,10,4]) (.node (.node .leaf .leaf) (.node (.node (.node (.ops [0,10,5,4]) (.node (.ops [7,0,10,5,4,6]) (.node (.node (.ops [20,7,0,10,5,4,6]) (.node (.node (.ops [2,3]) .leaf) .leaf)) (.node (.ops [0,10,8,5,4,6]) (.node (.ops [43,0,10,8,5,4]) (.node (.ops [0,4,10]) .leaf)))))) .leaf) (.ops [10,0,4]))))) .leaf)) (.node (.ops [2,3]) .leaf))))
noncomputable def F33:AFn:=Fx A33 (cFn Try.prog gl {} Try.f33)
def A34:An:=(.node (.ops [0,1]) (.node (.node (.node (.ops [10,0,1]) (.node (.node (.ops [4]) .leaf) (.node (.ops [18,0,1]) (.node (.node (.ops [4]) .leaf) .leaf)))) .leaf) (.node (.ops [0,1,5]) (.node (.ops [0,1,5,6]) (.node (.node (.ops [7,0,1,5,6]) (.node (.ops [38,7,0,1,5,6]) (.node (.node (.ops [4]) .leaf) .leaf))) (.node (.ops [0,1,8,5,6,9]) (.node (.node (.ops [47,0,1,8,5,6,9]) (.node (.ops [0,1,8,5,6,9]) .leaf)) (.pre [0,1,8,5,6,9] (.node (.node (.ops [57,0,1,8,5,6,9]) (.node (.ops [9,0,1,8,5]) .leaf)) (.node (.node (.ops [62,9,0,1,8,5]) (.node (.node (.ops [4]) .leaf) .leaf)) (.node (.ops [0]) (.node (.ops []) (.node (.ops [4]) .leaf)))))))))))))
noncomputable def F34:AFn:=Fx A34 (cFn Try.prog gl { keep:=true } Try.f34)
def A35:An:=(.node (.ops [0]) (.node (.ops [3,0,4]) (.node (.node (.ops [19,3,0,4]) (.node (.node (.ops [2,3]) .leaf) .leaf)) (.node (.ops [0,4]) (.node (.node (.loop [0,4] (.node (.node (.ops [0,4,5,6]) (.node (.node (.ops [38,0,4,5]) (.node .leaf .leaf)) (.node (.node (.ops [46,0,4,5]) (.node (.node (.ops [2,3]) .leaf) .leaf)) (.node (.node (.ops [48,0,4,5]) (.node (.ops [0,4,5]) (.ops [0,4,5]))) (.ops [0,4]))))) .leaf)) .leaf) (.node (.node (.ops [76,74,75]) (.node (.loop [76,74,75] (.node (.ops [77,74,75,76]) (.node (.node .leaf .leaf) (.node (.node (.node (.ops [74,75,76,8]) (.node (.ops [81,74,75,76]) (.node (.node (.ops [2,3]) .leaf) .leaf))) .leaf) (.ops [76,74,75]))))) .leaf)) (.node (.ops [2,3]) .leaf)))))))
noncomputable def F35:AFn:=Fx A35 (cFn Try.prog gl { keep:=true } Try.f35)
def A36:An:=(.node (.ops [0]) (.node (.node (.ops [4,0]) (.node (.node (.ops [2]) .leaf) .leaf)) (.node (.ops [2]) .leaf)))
noncomputable def F36:AFn:=Fx A36 (cFn Try.prog gl { boxes:=[(3,2)],own:=true } Try.f36)
def A37:An:=(.node (.ops [2,1,0]) (.node (.node (.node (.node (.ops [7,2,1,0]) (.node .leaf (.ops [7,2,1]))) (.node (.node (.ops [6]) .leaf) (.node (.ops [22,2]) (.node (.node (.ops [6]) .leaf) (.node (.ops [29]) (.node (.node (.ops [6]) .leaf) .leaf)))))) .leaf) (.node (.ops [6]) .leaf)))
noncomputable def F37:AFn:=Fx A37 (cFn Try.prog gl {} Try.f37)
def A38:An:=(.node (.ops [1,0]) (.node (.ops [4]) .leaf))
noncomputable def F38:AFn:=Fx A38 (cFn Try.prog gl {} Try.f38)
def A40:An:=(.node (.ops [2,0,1]) (.node (.ops [2,0,7,1]) (.node (.node (.node (.ops [12,2,0,7,1]) (.node (.node (.ops [6]) .leaf) (.node (.ops [20,2,0,7,1]) (.node (.node (.ops [6]) .leaf) .leaf)))) .leaf) (.node (.node (.ops [8,2,0,7]) (.node (.ops [44,8,2,0,7]) (.node (.node (.ops [6]) .leaf) .leaf))) (.node (.ops [2,0]) (.node (.ops []) (.node (.ops [6]) .leaf)))))))
noncomputable def F40:AFn:=Fx A40 (cFn Try.prog gl { keep:=true } Try.f40)
def A41:An:=(.node (.ops [1,0,2]) (.node (.ops [1,0,7,2]) (.node (.node (.ops [10,1,0,7]) (.node (.ops [1,7,0]) .leaf)) (.node (.ops [6]) .leaf))))
noncomputable def F41:AFn:=Fx A41 (cFn Try.prog gl {} Try.f41)
def A42:An:=(.node (.ops [0]) (.node (.ops [2]) .leaf))
noncomputable def F42:AFn:=Fx A42 (cFn Try.prog gl {} Try.f42)
def A44:An:=(.node (.ops [1]) (.node (.ops [2]) .leaf))
noncomputable def F44:AFn:=Fx A44 (cFn Try.prog gl { keep:=true } Try.f44)
def A45:An:=(.node (.ops [0]) (.node (.ops [0,3]) (.node (.node (.ops [4,0,3]) (.node (.loop [4,0,3] (.node (.node (.ops [9,0,4,3]) (.node .leaf .leaf)) (.node (.node (.ops [0,3,4]) .leaf) (.ops [4,0,3])))) .leaf)) (.node (.ops [2]) .leaf))))
noncomputable def F45:AFn:=Fx A45 (cFn Try.prog gl {} Try.f45)
def A47:An:=(.node (.ops [0]) (.node (.ops [2]) .leaf))
noncomputable def F47:AFn:=Fx A47 (cFn Try.prog gl {} Try.f47)
def A48:An:=(.node (.ops [0,1]) (.node (.ops [4,5]) .leaf))
noncomputable def F48:AFn:=Fx A48 (cFn Try.prog gl {} Try.f48)
def A49:An:=(.node (.ops [0]) (.node (.node (.ops [8,0]) (.node (.node (.ops [2,3]) .leaf) .leaf)) (.node (.ops [0,4]) (.node (.node (.ops [9,0,4]) (.node (.loop [9,0,4] (.node (.ops [10,0,9,4]) (.node (.node .leaf .leaf) (.node (.node (.node (.ops [0,9,5,4]) (.ops [0,4,9])) .leaf) (.ops [9,0,4]))))) .leaf)) (.node (.ops [2,3]) .leaf)))))
noncomputable def F49:AFn:=Fx A49 (cFn Try.prog gl {} Try.f49)
def A51:An:=(.node (.ops [0]) (.node (.node (.ops [9,0,8]) (.node (.loop [9,0,8] (.node (.ops [10,0,8,9]) (.node (.node .leaf .leaf) (.node (.node (.node (.ops [0,8,9,3]) (.node (.ops [4,0,8,9]) (.node (.ops [24,4,0,8,9]) (.node (.node (.ops [2]) .leaf) .leaf)))) .leaf) (.ops [9,0,8]))))) .leaf)) (.node (.ops [2]) .leaf)))
noncomputable def F51:AFn:=Fx A51 (cFn Try.prog gl {} Try.f51)
def A52:An:=(.node (.ops [1,0]) (.node (.ops [1,6,0]) (.node (.node (.ops [14,1,6,0,12,13]) (.node (.loop [14,1,6,0,12,13] (.node (.ops [15,1,0,12,13,14,6]) (.node (.node .leaf .leaf) (.node (.node (.node (.ops [1,0,12,13,14,8,6]) (.node (.node (.ops [9,1,0,12,13,14,8,6]) (.node (.ops [27,9,1,0,12,13,14,8,6]) (.node (.node (.ops [4,5]) .leaf) .leaf))) (.ops [1,6,0,12,13,14]))) .leaf) (.ops [14,1,6,0,12,13]))))) .leaf)) (.node (.ops [4,5]) .leaf))))
noncomputable def F52:AFn:=Fx A52 (cFn Try.prog gl {} Try.f52)
def A53:An:=(.node (.ops [2,1,0]) (.node (.node (.ops [7,2,1,0]) (.node (.ops [14,7,2,1,0]) (.node (.node (.ops [6]) .leaf) .leaf))) (.node (.ops [6]) .leaf)))
noncomputable def F53:AFn:=Fx A53 (cFn Try.prog gl {} Try.f53)
def A54:An:=(.node (.ops [1,0]) (.node (.ops [1,5]) (.node (.node (.ops [9,1,5]) (.node (.loop [9,1,5] (.node (.ops [10,1,9,5]) (.node (.node .leaf .leaf) (.node (.node (.node (.ops [1,9,6,5]) (.ops [1,5,9])) .leaf) (.ops [9,1,5]))))) .leaf)) (.node (.ops [4]) .leaf))))
noncomputable def F54:AFn:=Fx A54 (cFn Try.prog gl { grows:=[(5,7)] } Try.f54)
def A55:An:=(.node (.ops [4,1,0]) (.node (.node (.ops [19,4,1,0]) (.node (.node (.ops [4,5]) .leaf) .leaf)) (.node (.ops [4,6,1,0]) (.node (.ops [4,6,1,0,7]) (.node (.node (.node (.ops [39,4,6,1,0,7]) (.node (.ops [4,6,7,1,0]) (.node (.ops [42,4,6,7,1,0]) (.node (.node (.ops [4,5]) .leaf) .leaf)))) .leaf) (.pre [4,6,7,1,0] (.node (.ops [4,6,7,1,0]) (.node (.node (.ops [64,4,6,7,1,0]) (.node (.node (.ops [4,5]) .leaf) .leaf)) (.node (.ops [4,6]) (.node (.ops [4,5]) .leaf))))))))))
noncomputable def F55:AFn:=Fx A55 (cFn Try.prog gl {} Try.f55)
def A56:An:=(.node (.ops [5,1,0]) (.node (.ops [8]) (.node (.ops [6]) .leaf)))
noncomputable def F56:AFn:=Fx A56 (cFn Try.prog gl {} Try.f56)
def A58:An:=(.node (.ops [2,1,0]) (.node (.node (.ops [7,2,1,0]) (.node (.ops [13,7,2,1,0]) (.node (.node (.ops [6]) .leaf) .leaf))) (.node (.ops [6]) .leaf)))
noncomputable def F58:AFn:=Fx A58 (cFn Try.prog gl {} Try.f58)
def A59:An:=(.node (.ops [0]) (.node (.ops [2]) .leaf))
noncomputable def F59:AFn:=Fx A59 (cFn Try.prog gl {} Try.f59)
def A65:An:=(.node (.ops [2,1,0]) (.node (.node (.ops [8,2,1,0]) (.node (.ops [14,8,2,1,0]) (.node (.node (.ops [6,7]) .leaf) .leaf))) (.node (.ops [6,7]) .leaf)))
noncomputable def F65:AFn:=Fx A65 (cFn Try.prog gl {} Try.f65)
def A66:An:=(.node (.ops [0]) (.node (.ops [2]) .leaf))
noncomputable def F66:AFn:=Fx A66 (cFn Try.prog gl {} Try.f66)
def A67:An:=(.node (.ops [0,1]) (.node (.node (.node (.ops [6,0,1]) (.node (.node (.ops [4]) .leaf) (.node (.ops [11,0,1]) (.node (.node (.ops [4]) .leaf) .leaf)))) .leaf) (.node (.ops [0,1]) (.node (.node (.ops [42,0,1,41]) (.node (.loop [42,0,1,41] (.node (.ops [43,0,1,41,42]) (.node (.node .leaf .leaf) (.node (.node (.node (.ops [0,1,41,42,5]) (.node (.ops [55,0,1,41,42]) (.node (.node (.ops [4]) .leaf) .leaf))) .leaf) (.ops [42,0,1,41]))))) .leaf)) (.node (.ops [4]) .leaf)))))
noncomputable def F67:AFn:=Fx A67 (cFn Try.prog gl {} Try.f67)
def A68:An:=(.node (.ops [2,1,0]) (.node (.node (.node (.ops [7,2,1,0]) (.node (.node (.ops [6]) .leaf) (.node (.ops [13]) (.node (.node (.ops [6]) .leaf) .leaf)))) .leaf) (.node (.ops [6]) .leaf)))
noncomputable def F68:AFn:=Fx A68 (cFn Try.prog gl {} Try.f68)
def A69:An:=(.node (.ops [1,0,2]) (.node (.node (.node (.ops [9,1,0,2]) (.node (.node (.ops [6]) .leaf) (.node (.ops [14,1,0,2]) (.node (.node (.ops [6]) .leaf) (.node (.ops [21,1,0,2]) (.node (.node (.ops [6]) .leaf) .leaf)))))) .leaf) (.node (.node (.ops [29,1,0,27,28]) (.node (.loop [29,1,0,27,28] (.node (.ops [30,1,0,27,28,29]) (.node (.node .leaf .leaf) (.node (.node (.node (.ops [1,0,27,28,29,8,7]) (.node (.ops [40,1,0,27,28,29]) (.node (.node (.ops [6]) .leaf) .leaf))) .leaf) (.ops [29,1,0,27,28]))))) .leaf)) (.node (.ops [6]) .leaf))))
noncomputable def F69:AFn:=Fx A69 (cFn Try.prog gl {} Try.f69)
def A70:An:=(.node (.ops [0]) (.node (.ops [2]) .leaf))
noncomputable def F70:AFn:=Fx A70 (cFn Try.prog gl {} Try.f70)
def A71:An:=(.node (.ops [0]) (.node (.ops [4,0]) (.node (.node (.ops [11,4,0]) (.node (.node (.ops [2,3]) .leaf) .leaf)) (.node (.node (.ops [4,0,5]) (.node (.ops [24,4,0]) (.node (.node (.ops [2,3]) .leaf) .leaf))) (.node (.ops [2,3]) .leaf)))))
noncomputable def F71:AFn:=Fx A71 (cFn Try.prog gl {} Try.f71)
def A72:An:=(.node (.ops [0]) (.node (.ops [2]) .leaf))
noncomputable def F72:AFn:=Fx A72 (cFn Try.prog gl {} Try.f72)
def A78:An:=(.node (.ops [2,1,0]) (.node (.node (.node (.ops [8,2,1,0]) (.node (.node (.ops [6,7]) .leaf) (.node (.ops [13,2,1,0]) (.node (.node (.ops [6,7]) .leaf) .leaf)))) .leaf) (.node (.ops [6,7]) .leaf)))
noncomputable def F78:AFn:=Fx A78 (cFn Try.prog gl {} Try.f78)
def A79:An:=(.node (.ops [0,2,1]) (.node (.node (.ops [11,0,2,1]) (.node (.node (.ops []) (.node (.ops [6]) .leaf)) .leaf)) (.node (.node (.ops [19,0,2,1]) (.node (.ops [0,2,1]) .leaf)) (.node (.ops [0]) (.node (.ops []) (.node (.ops [6]) .leaf))))))
noncomputable def F79:AFn:=Fx A79 (cFn Try.prog gl {} Try.f79)
def A80:An:=(.node (.ops [1,0,2]) (.node (.ops [6]) .leaf))
noncomputable def F80:AFn:=Fx A80 (cFn Try.prog gl {} Try.f80)
def A81:An:=(.node (.ops [1,0,2]) (.node (.ops [6]) .leaf))
noncomputable def F81:AFn:=Fx A81 (cFn Try.prog gl {} Try.f81)
def A82:An:=(.node (.ops [1,0,2]) (.node (.node (.ops [11,1,0,9,10]) (.node (.loop [11,1,0,9,10] (.node (.ops [12,1,0,9,10,11]) (.node (.node .leaf .leaf) (.node (.node (.node (.ops [1,0,9,10,11,7,8]) (.node (.ops [27,1,0,9,10,11]) (.node (.node (.ops [6]) .leaf) .leaf))) .leaf) (.ops [11,1,0,9,10]))))) .leaf)) (.node (.ops [6]) .leaf)))
noncomputable def F82:AFn:=Fx A82 (cFn Try.prog gl {} Try.f82)
def A83:An:=(.node (.ops [1,0]) (.node (.ops [5,1]) (.node (.node (.ops [12,5,10,11]) (.node (.loop [12,5,10,11] (.node (.ops [13,10,11,12,5]) (.node (.node .leaf .leaf) (.node (.node (.node (.ops [10,11,12,7,5]) (.ops [5,10,11,12])) .leaf) (.ops [12,5,10,11]))))) .leaf)) (.node (.ops [4]) .leaf))))
noncomputable def F83:AFn:=Fx A83 (cFn Try.prog gl {} Try.f83)
def A95:An:=(.node (.ops [1,0]) (.node (.ops [0]) (.node (.node (.ops [10,0]) (.node (.loop [10,0] (.node (.ops [11,10,0]) (.node (.node .leaf .leaf) (.node (.node (.node (.ops [10,5,0]) (.node (.ops [10,0,5]) (.node (.ops [17,10,0]) (.node (.ops [0,10]) .leaf)))) .leaf) (.ops [10,0]))))) .leaf)) (.node (.ops [4]) .leaf))))
noncomputable def F95:AFn:=Fx A95 (cFn Try.prog gl {} Try.f95)
noncomputable def T:Table:=fun f=>match f with
 | 3=>some (.code F3)
 | 4=>some (.code F4)
 | 5=>some (.code F5)
 | 6=>some (.code F6)
 | 7=>some (.code F7)
 | 8=>some (.code F8)
 | 9=>some (.code F9)
 | 10=>some (.code F10)
 | 11=>some (.code F11)
 | 12=>some (.code F12)
 | 13=>some (.code F13)
 | 14=>some (.code F14)
 | 15=>some (.code F15)
 | 16=>some (.code F16)
 | 17=>some (.code F17)
 | 18=>some (.code F18)
 | 19=>some (.code F19)
 | 20=>some (.code F20)
 | 21=>some (.code F21)
 | 22=>some (.code F22)
 | 23=>some (.code F23)
 | 24=>some (.code F24)
 | 25=>some (.code F25)
 | 26=>some (.code F26)
 | 27=>some (.code F27)
 | 28=>some (.code F28)
 | 29=>some (.primN pNew)
 | 30=>some (.code F30)
 | 31=>some (.code F31)
 | 32=>some (.code F32)
 | 33=>some (.code F33)
 | 34=>some (.code F34)
 | 35=>some (.code F35)
 | 36=>some (.code F36)
 | 37=>some (.code F37)
 | 38=>some (.code F38)
 | 39=>some (.primN pClone)
 | 40=>some (.code F40)
 | 41=>some (.code F41)
 | 42=>some (.code F42)
 | 43=>some (.prim (pSorted 62))
 | 44=>some (.code F44)
 | 45=>some (.code F45)
 | 47=>some (.code F47)
 | 48=>some (.code F48)
 | 49=>some (.code F49)
 | 50=>some (.prim pNeed)
 | 51=>some (.code F51)
 | 52=>some (.code F52)
 | 53=>some (.code F53)
 | 54=>some (.code F54)
 | 55=>some (.code F55)
 | 56=>some (.code F56)
 | 58=>some (.code F58)
 | 59=>some (.code F59)
 | 65=>some (.code F65)
 | 66=>some (.code F66)
 | 67=>some (.code F67)
 | 68=>some (.code F68)
 | 69=>some (.code F69)
 | 70=>some (.code F70)
 | 71=>some (.code F71)
 | 72=>some (.code F72)
 | 78=>some (.code F78)
 | 79=>some (.code F79)
 | 80=>some (.code F80)
 | 81=>some (.code F81)
 | 82=>some (.code F82)
 | 83=>some (.code F83)
 | 95=>some (.code F95)
 | _=>none
theorem T_3:T 3=some (.code F3):=rfl
theorem T_4:T 4=some (.code F4):=rfl
theorem T_5:T 5=some (.code F5):=rfl
theorem T_6:T 6=some (.code F6):=rfl
theorem T_7:T 7=some (.code F7):=rfl
theorem T_8:T 8=some (.code F8):=rfl
theorem T_9:T 9=some (.code F9):=rfl
theorem T_10:T 10=some (.code F10):=rfl
theorem T_11:T 11=some (.code F11):=rfl
theorem T_12:T 12=some (.code F12):=rfl
theorem T_13:T 13=some (.code F13):=rfl
theorem T_14:T 14=some (.code F14):=rfl
theorem T_15:T 15=some (.code F15):=rfl
theorem T_16:T 16=some (.code F16):=rfl
theorem T_17:T 17=some (.code F17):=rfl
theorem T_18:T 18=some (.code F18):=rfl
theorem T_19:T 19=some (.code F19):=rfl
theorem T_20:T 20=some (.code F20):=rfl
theorem T_21:T 21=some (.code F21):=rfl
theorem T_22:T 22=some (.code F22):=rfl
theorem T_23:T 23=some (.code F23):=rfl
theorem T_24:T 24=some (.code F24):=rfl
theorem T_25:T 25=some (.code F25):=rfl
theorem T_26:T 26=some (.code F26):=rfl
theorem T_27:T 27=some (.code F27):=rfl
theorem T_28:T 28=some (.code F28):=rfl
theorem T_29:T 29=some (.primN pNew):=rfl
theorem T_30:T 30=some (.code F30):=rfl
theorem T_31:T 31=some (.code F31):=rfl
theorem T_32:T 32=some (.code F32):=rfl
theorem T_33:T 33=some (.code F33):=rfl
theorem T_34:T 34=some (.code F34):=rfl
theorem T_35:T 35=some (.code F35):=rfl
theorem T_36:T 36=some (.code F36):=rfl
theorem T_37:T 37=some (.code F37):=rfl
theorem T_38:T 38=some (.code F38):=rfl
theorem T_39:T 39=some (.primN pClone):=rfl
theorem T_40:T 40=some (.code F40):=rfl
theorem T_41:T 41=some (.code F41):=rfl
theorem T_42:T 42=some (.code F42):=rfl
theorem T_43:T 43=some (.prim (pSorted 62)):=rfl
theorem T_44:T 44=some (.code F44):=rfl
theorem T_45:T 45=some (.code F45):=rfl
theorem T_47:T 47=some (.code F47):=rfl
theorem T_48:T 48=some (.code F48):=rfl
theorem T_49:T 49=some (.code F49):=rfl
theorem T_50:T 50=some (.prim pNeed):=rfl
theorem T_51:T 51=some (.code F51):=rfl
theorem T_52:T 52=some (.code F52):=rfl
theorem T_53:T 53=some (.code F53):=rfl
theorem T_54:T 54=some (.code F54):=rfl
theorem T_55:T 55=some (.code F55):=rfl
theorem T_56:T 56=some (.code F56):=rfl
theorem T_58:T 58=some (.code F58):=rfl
theorem T_59:T 59=some (.code F59):=rfl
theorem T_65:T 65=some (.code F65):=rfl
theorem T_66:T 66=some (.code F66):=rfl
theorem T_67:T 67=some (.code F67):=rfl
theorem T_68:T 68=some (.code F68):=rfl
theorem T_69:T 69=some (.code F69):=rfl
theorem T_70:T 70=some (.code F70):=rfl
theorem T_71:T 71=some (.code F71):=rfl
theorem T_72:T 72=some (.code F72):=rfl
theorem T_78:T 78=some (.code F78):=rfl
theorem T_79:T 79=some (.code F79):=rfl
theorem T_80:T 80=some (.code F80):=rfl
theorem T_81:T 81=some (.code F81):=rfl
theorem T_82:T 82=some (.code F82):=rfl
theorem T_83:T 83=some (.code F83):=rfl
theorem T_95:T 95=some (.code F95):=rfl
end Go.Am.Ytlonabodghfjdaa
namespace Go.Am.YtlonabodghfjdaaR
set_option maxRecDepth 100000
set_option linter.unusedVariables false
def A46:An:=(.node (.ops [0,1]) (.node (.node (.ops [13,0,1]) (.node (.node (.ops [4]) .leaf) .leaf)) (.node (.node (.ops [16,0,1]) (.node (.ops [0,1]) .leaf)) (.pre [0,1] (.node (.ops [0,6,5]) (.node (.node (.ops [32,0,6]) (.node (.ops [0,6]) .leaf)) (.pre [0,6] (.node (.ops [7,0]) (.node (.node (.ops [38,7,0]) (.node (.node (.ops [4]) .leaf) .leaf)) (.node (.ops [7,0,8]) (.node (.node (.ops [42,7,0,8]) (.node (.node (.ops [7,0,8]) (.node (.ops [50,7,0,8]) (.node (.ops [8,7,0]) .leaf))) .leaf)) (.pre [8,7,0] (.node (.ops [9,8,7,0]) (.node (.ops [9,10,8,7]) (.node (.node (.loop [9,10,8,7] (.node (.node (.ops [63,9,8,7,10]) (.node .leaf .leaf)) (.node (.node (.ops [9,8,7,11,10]) (.ops [9,10,8,7])) .leaf))) .leaf) (.node (.ops [4]) .leaf))))))))))))))))
def F46:AFn:=⟨[(4,none)],(.seq (.ops [⟨(some 4),none,.mov (.const .nils)⟩] false [0,1]) (.seq (.seq (.ops [⟨(some 12),none,.mov (.tmp 1)⟩,⟨(some 13),none,.bin .eql (.tmp 12) (.const (.int .i64 0))⟩] false [13,0,1]) (.cond (.tmp 13) (.seq (.ops [⟨(some 14),none,.buildSl 1 false [(.int .u8 0)] 0 []⟩,⟨(some 4),none,.mov (.tmp 14)⟩] false [4]) .ret) .skip)) (.seq (.seq (.ops [⟨(some 15),none,.mov (.tmp 1)⟩,⟨(some 16),none,.bin .lss (.tmp 15) (.const (.int .i64 0))⟩] false [16,0,1]) (.cond (.tmp 16) (.ops [⟨(some 17),none,.mkif 9 (.const (.str [98,121,116,101,115,58,32,110,101,103,97,116,105,118,101,32,82,101,112,101,97,116,32,99,111,117,110,116]))⟩,⟨none,none,.stuck⟩] false [0,1]) .skip)) (.seq (.ops [] false [0,1]) (.seq (.ops [⟨(some 19),none,.mov (.tmp 0)⟩,⟨(some 20),none,.len false (.tmp 19)⟩,⟨(some 21),none,.toInt .u64 (.tmp 20)⟩,⟨(some 22),none,.mov (.tmp 1)⟩,⟨(some 23),none,.toInt .u64 (.tmp 22)⟩,⟨(some 24),none,.call 63 [(.tmp 21),(.tmp 23)]⟩,⟨(some 18),none,.mov (.tmp 24)⟩,⟨(some 25),none,.extract (.tmp 18) 0⟩,⟨(some 26),none,.extract (.tmp 18) 1⟩,⟨(some 5),none,.mov (.tmp 25)⟩,⟨(some 6),none,.mov (.tmp 26)⟩] false [0,6,5]) (.seq (.seq (.ops [⟨(some 27),none,.mov (.tmp 5)⟩,⟨(some 28),none,.bin .gtr (.tmp 27) (.const (.int .u64 0))⟩,⟨(some 29),none,.mov (.tmp 28)⟩,⟨(some 30),(some (29,false)),.mov (.tmp 6)⟩,⟨(some 31),(some (29,false)),.bin .gtr (.tmp 30) (.const (.int .u64 9223372036854775807))⟩,⟨(some 32),none,.pick (.tmp 29) (.const (.bool true)) (.tmp 31)⟩] false [32,0,6]) (.cond (.tmp 32) (.ops [⟨(some 33),none,.mkif 9 (.const (.str [98,121,116,101,115,58,32,82,101,112,101,97,116,32,111,117,116,112,117,116,32,108,101,110,103,116,104,32,111,118,101,114,102,108,111,119]))⟩,⟨none,none,.stuck⟩] false [0,6]) .skip)) (.seq (.ops [] false [0,6]) (.seq (.ops [⟨(some 34),none,.mov (.tmp 6)⟩,⟨(some 35),none,.toInt .i64 (.tmp 34)⟩,⟨(some 7),none,.mov (.tmp 35)⟩] false [7,0]) (.seq (.seq (.ops [⟨(some 36),none,.mov (.tmp 0)⟩,⟨(some 37),none,.len false (.tmp 36)⟩,⟨(some 38),none,.bin .eql (.tmp 37) (.const (.int .i64 0))⟩] false [38,7,0]) (.cond (.tmp 38) (.seq (.ops [⟨(some 39),none,.buildSl 1 false [(.int .u8 0)] 0 []⟩,⟨(some 4),none,.mov (.tmp 39)⟩] false [4]) .ret) .skip)) (.seq (.ops [⟨(some 40),none,.mov (.tmp 7)⟩,⟨(some 8),none,.mov (.tmp 40)⟩] false [7,0,8]) (.seq (.seq (.ops [⟨(some 41),none,.mov (.tmp 8)⟩,⟨(some 42),none,.bin .gtr (.tmp 41) (.const (.int .i64 8192))⟩] false [42,7,0,8]) (.cond (.tmp 42) (.seq (.ops [⟨(some 43),none,.mov (.tmp 0)⟩,⟨(some 44),none,.len false (.tmp 43)⟩,⟨(some 45),none,.bin .quo (.const (.int .i64 8192)) (.tmp 44)⟩,⟨(some 46),none,.mov (.tmp 0)⟩,⟨(some 47),none,.len false (.tmp 46)⟩,⟨(some 48),none,.bin .mul (.tmp 45) (.tmp 47)⟩,⟨(some 8),none,.mov (.tmp 48)⟩] false [7,0,8]) (.seq (.ops [⟨(some 49),none,.mov (.tmp 8)⟩,⟨(some 50),none,.bin .eql (.tmp 49) (.const (.int .i64 0))⟩] false [50,7,0,8]) (.cond (.tmp 50) (.ops [⟨(some 51),none,.mov (.tmp 0)⟩,⟨(some 52),none,.len false (.tmp 51)⟩,⟨(some 8),none,.mov (.tmp 52)⟩] false [8,7,0]) .skip))) .skip)) (.seq (.ops [] false [8,7,0]) (.seq (.ops [⟨(some 53),none,.mov (.tmp 7)⟩,⟨(some 54),none,.call 64 [(.tmp 53)]⟩,⟨(some 55),none,.mov (.tmp 7)⟩,⟨(some 56),none,.mov (.tmp 7)⟩,⟨(some 57),none,.slice (some 1) (.tmp 54) none (some (.tmp 55)) (some (.tmp 56))⟩,⟨(some 9),none,.mov (.tmp 57)⟩] false [9,8,7,0]) (.seq (.ops [⟨(some 58),none,.mov (.tmp 9)⟩,⟨(some 59),none,.mov (.tmp 0)⟩,⟨(some 60),none,.copyB (.tmp 58) (.tmp 59)⟩,⟨(some 10),none,.mov (.tmp 60)⟩] false [9,10,8,7]) (.seq (.block 0 (.seq (.ops [] false [9,10,8,7]) (.loop (.seq (.seq (.seq (.ops [⟨(some 61),none,.mov (.tmp 10)⟩,⟨(some 62),none,.mov (.tmp 7)⟩,⟨(some 63),none,.bin .lss (.tmp 61) (.tmp 62)⟩] false [63,9,8,7,10]) (.cond (.tmp 63) .skip (.exit 0))) (.block 1 (.seq (.ops [⟨(some 64),none,.mov (.tmp 10)⟩,⟨(some 65),none,.mov (.tmp 8)⟩,⟨(some 66),none,.minmax false [(.tmp 64),(.tmp 65)]⟩,⟨(some 11),none,.mov (.tmp 66)⟩] false [9,8,7,11,10]) (.ops [⟨(some 67),none,.mov (.tmp 10)⟩,⟨(some 68),none,.mov (.tmp 9)⟩,⟨(some 69),none,.mov (.tmp 10)⟩,⟨(some 70),none,.slice (some 1) (.tmp 68) (some (.tmp 69)) none none⟩,⟨(some 71),none,.mov (.tmp 9)⟩,⟨(some 72),none,.mov (.tmp 11)⟩,⟨(some 73),none,.slice (some 1) (.tmp 71) none (some (.tmp 72)) none⟩,⟨(some 74),none,.copyB (.tmp 70) (.tmp 73)⟩,⟨(some 75),none,.bin .add (.tmp 67) (.tmp 74)⟩,⟨(some 10),none,.mov (.tmp 75)⟩] false [9,10,8,7])))) (.ops [] false [9,10,8,7]))))) (.seq (.ops [⟨(some 76),none,.mov (.tmp 9)⟩,⟨(some 4),none,.mov (.tmp 76)⟩] false [4]) .ret)))))))))))))))),false,true⟩
def A63:An:=(.node (.ops [1,0]) (.node (.node (.node (.ops [7,6]) (.node (.ops [4,5]) .leaf)) .leaf) (.node (.ops [9,8]) (.node (.ops [4,5]) .leaf))))
def F63:AFn:=⟨[(4,none),(5,none)],(.seq (.ops [⟨(some 4),none,.mov (.const (.int .u64 0))⟩,⟨(some 5),none,.mov (.const (.int .u64 0))⟩] false [1,0]) (.seq (.cond (.const (.bool false)) (.seq (.ops [⟨(some 11),none,.mov (.tmp 0)⟩,⟨(some 12),none,.toInt .u32 (.tmp 11)⟩,⟨(some 13),none,.mov (.tmp 1)⟩,⟨(some 14),none,.toInt .u32 (.tmp 13)⟩,⟨(some 15),none,.call 76 [(.tmp 12),(.tmp 14)]⟩,⟨(some 10),none,.mov (.tmp 15)⟩,⟨(some 16),none,.extract (.tmp 10) 0⟩,⟨(some 17),none,.extract (.tmp 10) 1⟩,⟨(some 6),none,.mov (.tmp 16)⟩,⟨(some 7),none,.mov (.tmp 17)⟩] false [7,6]) (.seq (.ops [⟨(some 18),none,.mov (.tmp 6)⟩,⟨(some 19),none,.toInt .u64 (.tmp 18)⟩,⟨(some 20),none,.mov (.tmp 7)⟩,⟨(some 21),none,.toInt .u64 (.tmp 20)⟩,⟨(some 4),none,.mov (.tmp 19)⟩,⟨(some 5),none,.mov (.tmp 21)⟩] false [4,5]) .ret)) .skip) (.seq (.ops [⟨(some 23),none,.mov (.tmp 0)⟩,⟨(some 24),none,.mov (.tmp 1)⟩,⟨(some 25),none,.call 77 [(.tmp 23),(.tmp 24)]⟩,⟨(some 22),none,.mov (.tmp 25)⟩,⟨(some 26),none,.extract (.tmp 22) 0⟩,⟨(some 27),none,.extract (.tmp 22) 1⟩,⟨(some 8),none,.mov (.tmp 26)⟩,⟨(some 9),none,.mov (.tmp 27)⟩] false [9,8]) (.seq (.ops [⟨(some 28),none,.mov (.tmp 8)⟩,⟨(some 29),none,.mov (.tmp 9)⟩,⟨(some 4),none,.mov (.tmp 28)⟩,⟨(some 5),none,.mov (.tmp 29)⟩] false [4,5]) .ret)))),false,false⟩
def A77:An:=(.node (.ops [1,0]) (.node (.ops [1,0,6]) (.node (.ops [1,0,7,6]) (.node (.ops [1,0,7,6,8]) (.node (.ops [1,0,9,7,6,8]) (.node (.ops [1,0,9,7,6,10,8]) (.node (.ops [1,0,9,7,6,11]) (.node (.ops [1,0,9,7,6,12,11]) (.node (.ops [1,0,13,9,7,6,12]) (.node (.ops [1,0,12,13,9,7]) (.node (.ops [4,1,0]) (.node (.ops [4,5]) .leaf))))))))))))
def F77:AFn:=⟨[(4,none),(5,none)],(.seq (.ops [⟨(some 4),none,.mov (.const (.int .u64 0))⟩,⟨(some 5),none,.mov (.const (.int .u64 0))⟩] false [1,0]) (.seq (.ops [⟨(some 14),none,.mov (.tmp 0)⟩,⟨(some 15),none,.bin .and (.tmp 14) (.const (.int .u64 4294967295))⟩,⟨(some 6),none,.mov (.tmp 15)⟩] false [1,0,6]) (.seq (.ops [⟨(some 16),none,.mov (.tmp 0)⟩,⟨(some 17),none,.bin .shr (.tmp 16) (.const (.int .u64 32))⟩,⟨(some 7),none,.mov (.tmp 17)⟩] false [1,0,7,6]) (.seq (.ops [⟨(some 18),none,.mov (.tmp 1)⟩,⟨(some 19),none,.bin .and (.tmp 18) (.const (.int .u64 4294967295))⟩,⟨(some 8),none,.mov (.tmp 19)⟩] false [1,0,7,6,8]) (.seq (.ops [⟨(some 20),none,.mov (.tmp 1)⟩,⟨(some 21),none,.bin .shr (.tmp 20) (.const (.int .u64 32))⟩,⟨(some 9),none,.mov (.tmp 21)⟩] false [1,0,9,7,6,8]) (.seq (.ops [⟨(some 22),none,.mov (.tmp 6)⟩,⟨(some 23),none,.mov (.tmp 8)⟩,⟨(some 24),none,.bin .mul (.tmp 22) (.tmp 23)⟩,⟨(some 10),none,.mov (.tmp 24)⟩] false [1,0,9,7,6,10,8]) (.seq (.ops [⟨(some 25),none,.mov (.tmp 7)⟩,⟨(some 26),none,.mov (.tmp 8)⟩,⟨(some 27),none,.bin .mul (.tmp 25) (.tmp 26)⟩,⟨(some 28),none,.mov (.tmp 10)⟩,⟨(some 29),none,.bin .shr (.tmp 28) (.const (.int .u64 32))⟩,⟨(some 30),none,.bin .add (.tmp 27) (.tmp 29)⟩,⟨(some 11),none,.mov (.tmp 30)⟩] false [1,0,9,7,6,11]) (.seq (.ops [⟨(some 31),none,.mov (.tmp 11)⟩,⟨(some 32),none,.bin .and (.tmp 31) (.const (.int .u64 4294967295))⟩,⟨(some 12),none,.mov (.tmp 32)⟩] false [1,0,9,7,6,12,11]) (.seq (.ops [⟨(some 33),none,.mov (.tmp 11)⟩,⟨(some 34),none,.bin .shr (.tmp 33) (.const (.int .u64 32))⟩,⟨(some 13),none,.mov (.tmp 34)⟩] false [1,0,13,9,7,6,12]) (.seq (.ops [⟨(some 35),none,.mov (.tmp 12)⟩,⟨(some 36),none,.mov (.tmp 6)⟩,⟨(some 37),none,.mov (.tmp 9)⟩,⟨(some 38),none,.bin .mul (.tmp 36) (.tmp 37)⟩,⟨(some 39),none,.bin .add (.tmp 35) (.tmp 38)⟩,⟨(some 12),none,.mov (.tmp 39)⟩] false [1,0,12,13,9,7]) (.seq (.ops [⟨(some 40),none,.mov (.tmp 7)⟩,⟨(some 41),none,.mov (.tmp 9)⟩,⟨(some 42),none,.bin .mul (.tmp 40) (.tmp 41)⟩,⟨(some 43),none,.mov (.tmp 13)⟩,⟨(some 44),none,.bin .add (.tmp 42) (.tmp 43)⟩,⟨(some 45),none,.mov (.tmp 12)⟩,⟨(some 46),none,.bin .shr (.tmp 45) (.const (.int .u64 32))⟩,⟨(some 47),none,.bin .add (.tmp 44) (.tmp 46)⟩,⟨(some 4),none,.mov (.tmp 47)⟩] false [4,1,0]) (.seq (.ops [⟨(some 48),none,.mov (.tmp 0)⟩,⟨(some 49),none,.mov (.tmp 1)⟩,⟨(some 50),none,.bin .mul (.tmp 48) (.tmp 49)⟩,⟨(some 5),none,.mov (.tmp 50)⟩] false [4,5]) .ret)))))))))))),false,false⟩
noncomputable def T:Table:=fun f=>match f with
 | 46=>some (.code F46)
 | 63=>some (.code F63)
 | 64=>some (.primN pMk)
 | 77=>some (.code F77)
 | _=>none
theorem T_46:T 46=some (.code F46):=rfl
theorem T_63:T 63=some (.code F63):=rfl
theorem T_64:T 64=some (.primN pMk):=rfl
theorem T_77:T 77=some (.code F77):=rfl
end Go.Am.YtlonabodghfjdaaR
namespace Go.Am.YtlonabodghfjdaaR
set_option maxRecDepth 100000
set_option linter.unusedVariables false
noncomputable def P46_0 (base n0:Nat) (v0 v1:PV) (h:Hp):Option (PV × Hp):=Pt T F46 [1,1,1,1] base n0 [(0,v0),(1,v1)] h
noncomputable def P46_1 (base n0:Nat) (v0 v6:PV) (h:Hp):Option (PV × Hp):=Pt T F46 [1,1,1,1,1,1,1] base n0 [(0,v0),(6,v6)] h
noncomputable def P46_2 (base n0:Nat) (v8 v7 v0:PV) (h:Hp):Option (PV × Hp):=Pt T F46 [1,1,1,1,1,1,1,1,1,1,1,1] base n0 [(8,v8),(7,v7),(0,v0)] h
noncomputable def P46_3 (base n0:Nat) (v9 v10 v8 v7:PV) (h:Hp):Option (PV × Hp):=Pt T F46 [1,1,1,1,1,1,1,1,1,1,1,1,1,1,0,0,1] base n0 [(9,v9),(10,v10),(8,v8),(7,v7)] h
theorem P46_0_eq (base n0:Nat) (v0 v1:PV) (h:Hp):P46_0 base n0 v0 v1 h =
 (lenB false v0).bnd fun x1 =>
 (toIntB x1 .u64).bnd fun x2 =>
 (toIntB v1 .u64).bnd fun x4 =>
 bnd2 (CallA T base 63 [x2,x4] h) fun x5 h6 =>
 (extractB x5 0).bnd fun x8 =>
 (extractB x5 1).bnd fun x9 =>
 (binOp .gtr x8 (.int .u64 0)).bnd fun x13 =>
 (wantB x13 false).bnd fun b16=>(whenB b16 (some x9) (some .undef)).bnd fun x15 =>
 (wantB x13 false).bnd fun b20=>(whenB b20 ((binOp .gtr x15 (.int .u64 9223372036854775807)).bnd some) (some .undef)).bnd fun x19 =>
 (condB x13 (some (.bool true)) (some x19)).bnd fun x23 =>
 condB x23 (
 none) (
 P46_1 base n0 v0 x9 h6):=(Pt_eq T F46 [1,1,1,1] base n0 [(0,v0),(1,v1)] h).trans (by kernel_rfl)
theorem P46_1_eq (base n0:Nat) (v0 v6:PV) (h:Hp):P46_1 base n0 v0 v6 h =
 (toIntB v6 .i64).bnd fun x1 =>
 (lenB false v0).bnd fun x4 =>
 (binOp .eql x4 (.int .i64 0)).bnd fun x5 =>
 condB x5 (
 (buildSlV 1 false [(.int .u8 0)] 0 []).bnd fun x6 =>
 finV false true n0 [x6] h) (
 (binOp .gtr x1 (.int .i64 8192)).bnd fun x11 =>
 condB x11 (
 (lenB false v0).bnd fun x13 =>
 (binOp .quo (.int .i64 8192) x13).bnd fun x14 =>
 (lenB false v0).bnd fun x16 =>
 (binOp .mul x14 x16).bnd fun x17 =>
 (binOp .eql x17 (.int .i64 0)).bnd fun x20 =>
 condB x20 (
 (lenB false v0).bnd fun x22 =>
 P46_2 base n0 x22 x1 v0 h) (
 P46_2 base n0 x17 x1 v0 h)) (
 P46_2 base n0 x1 x1 v0 h)):=(Pt_eq T F46 [1,1,1,1,1,1,1] base n0 [(0,v0),(6,v6)] h).trans (by kernel_rfl)
theorem P46_2_eq (base n0:Nat) (v8 v7 v0:PV) (h:Hp):P46_2 base n0 v8 v7 v0 h =
 bnd2 (CallA T base 64 [v7] h) fun x1 h2 =>
 (sliceV (some 1) none (some v7) (some v7) x1).bnd fun x5 =>
 bnd2 (copyV base x5 v0 h2) fun x9 h10 =>
 P46_3 base n0 x5 x9 v8 v7 h10:=(Pt_eq T F46 [1,1,1,1,1,1,1,1,1,1,1,1] base n0 [(8,v8),(7,v7),(0,v0)] h).trans (by kernel_rfl)
theorem P46_3_eq (base n0:Nat) (v9 v10 v8 v7:PV) (h:Hp):P46_3 base n0 v9 v10 v8 v7 h =
 (binOp .lss v10 v7).bnd fun x2 =>
 condB x2 (
 (minmaxV false [v10,v8]).bnd fun x5 =>
 (sliceV (some 1) (some v10) none none v9).bnd fun x10 =>
 (sliceV (some 1) none (some x5) none v9).bnd fun x13 =>
 bnd2 (copyV base x10 x13 h) fun x14 h15 =>
 (binOp .add v10 x14).bnd fun x16 =>
 P46_3 base n0 v9 x16 v8 v7 h15) (
 finV false true n0 [v9] h):=(Pt_eq T F46 [1,1,1,1,1,1,1,1,1,1,1,1,1,1,0,0,1] base n0 [(9,v9),(10,v10),(8,v8),(7,v7)] h).trans (by kernel_rfl)
theorem S46 (base:Nat) (a0 a1:PV) (h:Hp):CallA T base 46 [a0,a1] h =
 (binOp .eql a1 (.int .i64 0)).bnd fun x2 =>
 condB x2 (
 (buildSlV 1 false [(.int .u8 0)] 0 []).bnd fun x3 =>
 finV false true (size h) [x3] h) (
 (binOp .lss a1 (.int .i64 0)).bnd fun x6 =>
 condB x6 (
 none) (
 P46_0 (size h) (size h) a0 a1 h)):=(Pt_enter T_46 base _ h).trans (by kernel_rfl)
theorem S63 (base:Nat) (a0 a1:PV) (h:Hp):CallA T base 63 [a0,a1] h =
 bnd2 (CallA T (size h) 77 [a0,a1] h) fun x4 h5 =>
 (extractB x4 0).bnd fun x7 =>
 (extractB x4 1).bnd fun x8 =>
 finV false false (size h) [x7,x8] h5:=(Pt_enter T_63 base _ h).trans (by kernel_rfl)
theorem S77 (base:Nat) (a0 a1:PV) (h:Hp):CallA T base 77 [a0,a1] h =
 (binOp .and a0 (.int .u64 4294967295)).bnd fun x3 =>
 (binOp .shr a0 (.int .u64 32)).bnd fun x6 =>
 (binOp .and a1 (.int .u64 4294967295)).bnd fun x9 =>
 (binOp .shr a1 (.int .u64 32)).bnd fun x12 =>
 (binOp .mul x3 x9).bnd fun x16 =>
 (binOp .mul x6 x9).bnd fun x20 =>
 (binOp .shr x16 (.int .u64 32)).bnd fun x22 =>
 (binOp .add x20 x22).bnd fun x23 =>
 (binOp .and x23 (.int .u64 4294967295)).bnd fun x26 =>
 (binOp .shr x23 (.int .u64 32)).bnd fun x29 =>
 (binOp .mul x3 x12).bnd fun x34 =>
 (binOp .add x26 x34).bnd fun x35 =>
 (binOp .mul x6 x12).bnd fun x39 =>
 (binOp .add x39 x29).bnd fun x41 =>
 (binOp .shr x35 (.int .u64 32)).bnd fun x43 =>
 (binOp .add x41 x43).bnd fun x44 =>
 (binOp .mul a0 a1).bnd fun x48 =>
 finV false false (size h) [x44,x48] h:=(Pt_enter T_77 base _ h).trans (by kernel_rfl)
end Go.Am.YtlonabodghfjdaaR
namespace Go.Am
set_option linter.unusedVariables false
set_option linter.unusedSimpArgs false
theorem loadV_ptr (n g b off h):loadV n g (.ptr b off) h=(getBox h b).bnd fun cs=>part cs off n g:=(rfl)
theorem loadV_ep (n g cs off h):loadV n g (.ep cs off) h=part cs off n g:=(rfl)
theorem storeV_ptr (base n b off u h):storeV base n (.ptr b off) u h=(getBox h b).bnd fun cs =>
   if u.cells.length=n∧off+n≤cs.length∧u.cells.all scalar=true∧(b < base→belows 0 (strips u.cells)=true)
   then some (setBox h b (setRange cs off (if b < base then strips u.cells else u.cells))) else none:=(rfl)
theorem allocK_eq {α:Type} (z h) (K:PV→Hp→Option α):allocK z h K=K (.ptr (size h) 0) (ext h [.cells z]):=(rfl)
theorem boxV_eq (n v h):boxV n v h=if v.cells.length=n∧v.cells.all scalar=true then some (.ptr (size h) 0,ext h [.cells v.cells]) else none:=(rfl)
theorem buildV_eq (z l):buildV z l=(buildAgg l z).bnd fun cs=>some (.agg cs):=(rfl)
theorem buildSlV_eq (sz g z len l):buildSlV sz g z len l=(fillParts sz l (List.replicate len (if g then .agg z else z.headD .undef))).bnd fun es=>some (.sl .full sz es):=(rfl)
theorem nilckV_eq (v):nilckV v=(isNil v).bnd fun b=>if b then none else some v:=(rfl)
theorem isnilV_eq (kd neg v):isnilV kd neg v=(nilK kd v).bnd fun b=>some (.bool (if neg then !b else b)):=(rfl)
theorem makeV_eq (T z l c h):makeV T z l c h=(makeN l c).bnd fun n=>makeB T z n h:=(rfl)
theorem copyV_bsl (base f b off len sz u h):copyV base (.bsl f b off len sz) u h=(elems h u).bnd fun xs=>(getBox h b).bnd fun cs =>
    if sz=1∧off+len≤cs.length∧xs.all scalar=true∧(b < base→belows 0 (xs.take len)=true)
    then some (.int .i64 (min xs.length len:Nat),setBox h b (setRange cs off (xs.take len))) else none:=(rfl)
theorem copyV_nils (base u h):copyV base .nils u h=(elems h u).bnd fun xs=>some (.int .i64 0,h):=(rfl)
theorem bdW_none (n d):bdW n d none=some d:=(rfl)
theorem bdW_some (n d v):bdW n d (some v)=bdV n v:=(rfl)
theorem sliceV_str (lo hi s):sliceV none lo hi none (.str s)=(bdW s.length s.length hi).bnd fun hh=>(bdW hh 0 lo).bnd fun l=>some (.str ((s.drop l).take (hh - l))):=(rfl)
theorem sliceV_nils (n lo hi mx):sliceV (some n) lo hi mx .nils=(bdW 0 0 mx).bnd fun m=>(bdW 0 0 hi).bnd fun hh=>(bdW 0 0 lo).bnd fun l=>some .nils:=(rfl)
theorem sliceV_sl (n lo hi o es):sliceV (some n) lo hi none (.sl o n es)=(bdW es.length es.length hi).bnd fun hh=>(bdW hh 0 lo).bnd fun l =>
   some (.sl (if isFull o && hh == es.length then .full else .no) n ((es.drop l).take (hh - l))):=by
 simp [sliceV,bdW_none,Option.bnd_some]
theorem sliceV_bsl (n lo hi f b off len):sliceV (some n) lo hi none (.bsl f b off len n)=(bdW len len hi).bnd fun hh=>(bdW hh 0 lo).bnd fun l =>
   if hh - l=0 then some (.sl .no n []) else some (.bsl (f && hh == len) b (off+l * n) (hh - l) n):=by
 simp [sliceV,bdW_none,Option.bnd_some]
theorem idxArrV_ptr (sz len b o i):idxArrV sz len (.ptr b o) i=(ix i len).bnd fun i=>some (.ptr b (o+i * sz)):=(rfl)
theorem idxArrV_ep (sz len b o i):idxArrV sz len (.ep b o) i=(ix i len).bnd fun i=>some (.ep b (o+i * sz)):=(rfl)
theorem idxAggV_agg (sz g len cs i):idxAggV sz g len (.agg cs) i=(ix i len).bnd fun i=>part cs (i * sz) sz g:=(rfl)
theorem minmaxV_cons (m x r):minmaxV m (x :: r)=minMax m x r:=(rfl)
theorem appTV_eq (T sz v u h):appTV T sz v u h=(elems h u).bnd fun xs=>growT h T sz v xs:=(rfl)
theorem loadNV_ptr (n g c o b off h):loadNV n g (.ptr c o) (.ptr b off) h=if b=c then none else loadV n g (.ptr b off) h:=(rfl)
theorem loadNV_ep (n g c o cs off h):loadNV n g (.ptr c o) (.ep cs off) h=loadV n g (.ep cs off) h:=(rfl)
theorem storeNV_ptr (base n c o b off u h):storeNV base n (.ptr c o) (.ptr b off) u h=if b=c then storeV base n (.ptr b off) u h else none:=(rfl)
theorem callvV_fn (orc f cap vs h):callvV orc (.fn f cap) vs h=orc f (vs ++ cap) h:=(rfl)
theorem forget_same (v:PV) (h:Hp):forget h (v,h)=some (v,h):=by simp [forget]
theorem orcQ_eq (orc:Orc) (f vs h):orcQ orc f vs h=(orc f vs h).bnd (forget h):=(rfl)
theorem chkK_eq {α:Type} (h) (y:Option α):chkK h h y=y:=by simp [chkK]
theorem finV_code (n0 vs h):finV false false n0 vs h=(frzs n0 h vs).bnd fun vs=>if belows n0 vs=true then some (result1 vs,trunc h n0) else none:=(rfl)
theorem finV_keep (o n0 vs h):finV true o n0 vs h=some (result1 vs,h):=(rfl)
theorem finV_own (n0 vs h):finV false true n0 vs h=(ownEnd n0 h vs).bnd fun r=>some (result1 r.1,r.2):=(rfl)
theorem appV_nils (sz u h):appV sz .nils u h=(elems h u).bnd fun xs=>if xs.all (fun x=>x.cells.length == sz) then (if xs.length≤lim2 then some (if xs.isEmpty then .nils else .sl .no sz (strips xs)) else none) else none:=(rfl)
theorem appV_full (sz es u h):appV sz (.sl .full sz es) u h=(elems h u).bnd fun xs=>if xs.all (fun x=>x.cells.length == sz) then (if es.length+xs.length≤lim2 then some (if xs.isEmpty then .sl .full sz es else .sl .no sz (es ++ strips xs)) else none) else none:=by
 unfold appV;simp
theorem bnd_some_id {α:Type} (x:Option α):x.bnd some=x:=by cases x <;> rfl
theorem genV_makeMap (base h):genV base h .makeMap []=some (.mref (size h),ext h [.map []]):=(rfl)
theorem genV_lookup (base h ks g z ok m k):genV base h (.lookup ks g z ok) [m,k]=(entriesOf h m).bnd fun es=>if keyOk ks g k then (findM ks g k es 0).bnd fun i=>(lookM z es i).bnd fun r =>
   some (if ok then .tup [r.1,.bool r.2] else r.1,h) else none:=(rfl)
theorem genV_mapUpd (base h ks g b k v):genV base h (.mapUpd ks g) [.mref b,k,v]=(getMap h b).bnd fun es=>if keyOk ks g k∧k.cells.all scalar=true∧v.cells.all scalar=true∧(b < base→below 0 (strip k)=true∧below 0 (strip v)=true) then (findM ks g k es 0).bnd fun i =>
    some (.undef,setBx h b (.map (updM (strip k) (strip v) es i))) else none:=(rfl)
theorem genV_mapDel (base h ks g b k):genV base h (.mapDel ks g) [.mref b,k]=(getMap h b).bnd fun es=>if keyOk ks g k then (findM ks g k es 0).bnd fun i=>some (.tup [],setBx h b (.map (delM es i))) else none:=(rfl)
theorem genV_mapLen (base h m):genV base h .mapLen [m]=(entriesOf h m).bnd fun es=>some (.int .i64 es.length,h):=(rfl)
theorem genV_sliceBox (base h cs):genV base h (.sliceBox cs) []=some (.bsl true (size h) 0 cs.length 1,ext h [.cells cs]):=(rfl)
theorem genV_mark (base h f b o l z):genV base h .mark [.bsl f b o l z]=(getBox h b).bnd fun _=>some (.bsl f b o l z,h):=(rfl)
theorem genV_appK (base h sz v u):genV base h (.appK sz) [v,u]=(elems h u).bnd fun xs=>(leftK h sz v).bnd fun l=>if xs=[] then some (v,h) else
   if xs.all (fits sz)=true∧l.1+xs.length≤lim2∧l.2.1.all scalar=true then some (.bsl false (size h) 0 (l.1+xs.length) sz,ext l.2.2 [.cells (l.2.1 ++ xs.flatMap PV.cells)]) else none:=(rfl)
theorem leftK_nils (h sz):leftK h sz .nils=some (0,[],h):=(rfl)
theorem leftK_full (h sz es):leftK h sz (.sl .full sz es)=some (es.length,es.flatMap PV.cells,h):=by simp [leftK]
theorem leftK_bsl (h sz f b len):leftK h sz (.bsl f b 0 len sz)=(getBox h b).bnd fun cs=>if len * sz≤cs.length then some (len,cs.take (len * sz),setBx h b .dead) else none:=by
 simp [leftK]
theorem entriesOf_nil (h):entriesOf h .nilm=some []:=(rfl)
theorem entriesOf_mref (h b):entriesOf h (.mref b)=getMap h b:=(rfl)
theorem keyOk_int (ks g k n):keyOk ks g (.int k n)=!g:=(rfl)
theorem keyOk_str (ks g s):keyOk ks g (.str s)=!g:=(rfl)
theorem keyOk_agg (ks g cs):keyOk ks g (.agg cs)=(g && cs.length == ks.length):=(rfl)
end Go.Am
namespace Go.Am
set_option maxRecDepth 100000
set_option linter.defProp false
def evD :=
 And.intro @bnd2_some <|
 And.intro @bnd2_none <|
 And.intro @bnd2_ite <|
 And.intro @Option.bnd_some <|
 And.intro @Option.bnd_none <|
 And.intro @Option.bnd_ite <|
 And.intro @condB_true <|
 And.intro @condB_false <|
 And.intro @condB_b <|
 And.intro @whenB_true <|
 And.intro @whenB_false <|
 @allocK_eq
def evU :=
 And.intro @Int.toNat_natCast <|
 And.intro @Nat.zero_add <|
 And.intro @Nat.add_zero <|
 And.intro @Nat.le_refl <|
 And.intro @Nat.succ_eq_add_one <|
 And.intro @Nat.add_eq_zero_iff <|
 And.intro @Nat.succ_ne_self <|
 And.intro @and_true <|
 And.intro @true_and <|
 And.intro @and_self <|
 And.intro @Bool.false_eq_true <|
 And.intro @Bool.true_and <|
 And.intro @Bool.and_true <|
 And.intro @Bool.and_self <|
 And.intro @Bool.not_true <|
 And.intro @Bool.not_false <|
 And.intro @Bool.not_not <|
 And.intro @Bool.true_beq <|
 And.intro @Bool.false_beq <|
 And.intro @beq_true <|
 And.intro @beq_false <|
 And.intro @imp_self <|
 And.intro @false_implies <|
 And.intro @decide_eq_true_eq <|
 And.intro @not_true_eq_false <|
 And.intro @not_false_eq_true <|
 And.intro @Bool.not_eq_true' <|
 And.intro @decide_true <|
 And.intro @decide_false <|
 And.intro @Bool.true_or <|
 And.intro @Bool.false_or <|
 And.intro @Bool.or_true <|
 And.intro @Bool.or_false <|
 And.intro @Bool.false_and <|
 And.intro @Bool.and_false <|
 And.intro @true_or <|
 And.intro @or_true <|
 And.intro @false_or <|
 And.intro @or_false <|
 And.intro @or_self <|
 And.intro @false_and <|
 And.intro @and_false <|
 And.intro @Nat.add_eq_left <|
 And.intro @Nat.left_eq_add <|
 And.intro @Nat.add_left_cancel_iff <|
 And.intro @size_ext <|
 And.intro @size_setBox <|
 And.intro @getBox_ext_0 <|
 And.intro @getBox_ext_n <|
 And.intro @ext_ext <|
 And.intro @trunc_ext <|
 And.intro @trunc_self <|
 And.intro @trunc_exts <|
 And.intro @trunc_set <|
 And.intro @not_lt_size <|
 And.intro @size_add_lt <|
 And.intro @strip_undef <|
 And.intro @strip_bool <|
 And.intro @strip_int <|
 And.intro @strip_str <|
 And.intro @strip_nilp <|
 And.intro @strip_bnil <|
 And.intro @strip_ptr <|
 And.intro @strip_ep <|
 And.intro @strip_nils <|
 And.intro @strip_bsl <|
 And.intro @strip_nilif <|
 And.intro @strip_iface <|
 And.intro @strip_nilf <|
 And.intro @strip_fn <|
 And.intro @strip_agg <|
 And.intro @strip_tup <|
 And.intro @cells_agg <|
 And.intro @cells_bool <|
 And.intro @cells_int <|
 And.intro @cells_str <|
 And.intro @cells_nilp <|
 And.intro @cells_bnil <|
 And.intro @cells_ptr <|
 And.intro @cells_nils <|
 And.intro @cells_sl <|
 And.intro @cells_bsl <|
 And.intro @cells_nilif <|
 And.intro @cells_iface <|
 And.intro @cells_nilf <|
 And.intro @cells_fn <|
 And.intro @isNil_nilp <|
 And.intro @isNil_bnil <|
 And.intro @isNil_nils <|
 And.intro @isNil_nilif <|
 And.intro @isNil_nilf <|
 And.intro @isNil_ptr <|
 And.intro @isNil_ep <|
 And.intro @isNil_sl <|
 And.intro @isNil_bsl <|
 And.intro @isNil_iface <|
 And.intro @isNil_fn <|
 And.intro @wantB_bool <|
 And.intro @wantB_undef <|
 And.intro @boolB_eq <|
 And.intro @boolB_ne <|
 And.intro @nilK_00 <|
 And.intro @nilK_0b <|
 And.intro @nilK_01 <|
 And.intro @nilK_10 <|
 And.intro @nilK_11 <|
 And.intro @nilK_12 <|
 And.intro @nilK_20 <|
 And.intro @nilK_21 <|
 And.intro @nilK_30 <|
 And.intro @nilK_31 <|
 And.intro @scalar_bool <|
 And.intro @scalar_int <|
 And.intro @scalar_str <|
 And.intro @scalar_nilp <|
 And.intro @scalar_bnil <|
 And.intro @scalar_ptr <|
 And.intro @scalar_nils <|
 And.intro @scalar_sl <|
 And.intro @scalar_bsl <|
 And.intro @scalar_nilif <|
 And.intro @scalar_iface <|
 And.intro @scalar_nilf <|
 And.intro @scalar_fn <|
 And.intro @bdV_int <|
 And.intro @isFull_no <|
 And.intro @isFull_full <|
 And.intro @isFull_tok <|
 And.intro @toIntB_int <|
 And.intro @extractB_tup <|
 And.intro @fieldAB_ptr <|
 And.intro @fieldAB_ep <|
 And.intro @fieldB_agg <|
 And.intro @lenB_str <|
 And.intro @lenB_nils <|
 And.intro @lenB_sl <|
 And.intro @lenB_bsl <|
 And.intro @idxAB_sl <|
 And.intro @idxAB_bsl <|
 And.intro @idxStrB_str <|
 And.intro @binOp_int <|
 And.intro @binOp_str <|
 And.intro @isShift_add <|
 And.intro @isShift_sub <|
 And.intro @isShift_mul <|
 And.intro @isShift_quo <|
 And.intro @isShift_rem <|
 And.intro @isShift_and <|
 And.intro @isShift_or <|
 And.intro @isShift_xor <|
 And.intro @isShift_andNot <|
 And.intro @isShift_eql <|
 And.intro @isShift_neq <|
 And.intro @isShift_lss <|
 And.intro @isShift_leq <|
 And.intro @isShift_gtr <|
 And.intro @isShift_geq <|
 And.intro @isShift_shl <|
 And.intro @isShift_shr <|
 And.intro @intOp_add <|
 And.intro @intOp_sub <|
 And.intro @intOp_mul <|
 And.intro @intOp_quo <|
 And.intro @intOp_rem <|
 And.intro @intOp_eql <|
 And.intro @intOp_neq <|
 And.intro @intOp_lss <|
 And.intro @intOp_leq <|
 And.intro @intOp_gtr <|
 And.intro @intOp_geq <|
 And.intro @strOp_eql <|
 And.intro @strOp_neq <|
 And.intro @strOp_add <|
 And.intro @unOp_not <|
 And.intro @unOp_neg <|
 And.intro @part_agg <|
 And.intro @part_one <|
 And.intro @minMax_nil <|
 And.intro @minMax_cons <|
 And.intro @minMax2_max <|
 And.intro @minMax2_min <|
 And.intro @belows_nil <|
 And.intro @belows_cons <|
 And.intro @below_undef <|
 And.intro @below_bool <|
 And.intro @below_int <|
 And.intro @below_str <|
 And.intro @below_nilp <|
 And.intro @below_bnil <|
 And.intro @below_nils <|
 And.intro @below_nilif <|
 And.intro @below_nilf <|
 And.intro @below_ptr <|
 And.intro @below_sl <|
 And.intro @below_iface <|
 And.intro @below_agg <|
 And.intro @below_tup <|
 And.intro @resB_ptr <|
 And.intro @result1_one <|
 And.intro @result1_nil <|
 And.intro @result1_two <|
 And.intro @setRange_nil <|
 And.intro @setRange_cons <|
 And.intro @fillParts_nil <|
 And.intro @fillParts_cons <|
 And.intro @buildAgg_nil <|
 And.intro @buildAgg_cons <|
 And.intro @elems_nils <|
 And.intro @elems_sl <|
 And.intro @elems_bsl <|
 And.intro @setBox_eq <|
 And.intro @size_setBx <|
 And.intro @cellsOf_cells <|
 And.intro @tokOf_tok <|
 And.intro @iterOf_iter <|
 And.intro @getBox_exts_0 <|
 And.intro @getBox_exts_n <|
 And.intro @setBx_ext_0 <|
 And.intro @setBx_ext_n <|
 And.intro @setBx_exts_0 <|
 And.intro @setBx_exts_n <|
 And.intro @setBx_setBx <|
 And.intro @getTok_ext_0 <|
 And.intro @getTok_ext_n <|
 And.intro @getTok_exts_0 <|
 And.intro @getTok_exts_n <|
 And.intro @getIter_ext_0 <|
 And.intro @getIter_ext_n <|
 And.intro @getIter_exts_0 <|
 And.intro @getIter_exts_n <|
 And.intro @strip_sl <|
 And.intro @ostrip_no <|
 And.intro @ostrip_full <|
 And.intro @ostrip_tok <|
 And.intro @obelow_no <|
 And.intro @obelow_full <|
 And.intro @obelow_tok <|
 And.intro @strips_nil <|
 And.intro @strips_cons <|
 And.intro @below_bsl <|
 And.intro @below_fn <|
 And.intro @below_ep <|
 And.intro @frzs_nil <|
 And.intro @frzs_cons <|
 And.intro @frz_sl <|
 And.intro @frz_bsl <|
 And.intro @frz_agg <|
 And.intro @frz_tup <|
 And.intro @frz_iface <|
 And.intro @frz_undef <|
 And.intro @frz_bool <|
 And.intro @frz_int <|
 And.intro @frz_str <|
 And.intro @frz_nilp <|
 And.intro @frz_bnil <|
 And.intro @frz_ptr <|
 And.intro @frz_ep <|
 And.intro @frz_nils <|
 And.intro @frz_nilif <|
 And.intro @frz_nilf <|
 And.intro @frz_fn <|
 And.intro @ownEnd_tok <|
 And.intro @ownEnd_bsl <|
 And.intro @ownEnd_nils <|
 And.intro @ownEnd_no <|
 And.intro @ownEnd_full <|
 And.intro @elemsOf_one <|
 And.intro @elems_str <|
 And.intro @fits_def <|
 And.intro @rangeB_str <|
 And.intro @nextB_it <|
 And.intro @tassertB_iface <|
 And.intro @tassertB_nil <|
 And.intro @eqvB_agg <|
 And.intro @eqCells_nil <|
 And.intro @eqCells_cons <|
 And.intro @eqCell_bool <|
 And.intro @eqCell_int <|
 And.intro @eqCell_str <|
 And.intro @makeB_eq <|
 And.intro @bytesStrB_sl <|
 And.intro @bytesStrB_nils <|
 And.intro @bytesStrB_bsl <|
 And.intro @bytesOf_bytes <|
 And.intro @loadV_ptr <|
 And.intro @loadV_ep <|
 And.intro @storeV_ptr <|
 And.intro @boxV_eq <|
 And.intro @buildV_eq <|
 And.intro @buildSlV_eq <|
 And.intro @nilckV_eq <|
 And.intro @isnilV_eq <|
 And.intro @makeV_eq <|
 And.intro @copyV_bsl <|
 And.intro @copyV_nils <|
 And.intro @bdW_none <|
 And.intro @bdW_some <|
 And.intro @sliceV_str <|
 And.intro @sliceV_nils <|
 And.intro @sliceV_sl <|
 And.intro @sliceV_bsl <|
 And.intro @idxArrV_ptr <|
 And.intro @idxArrV_ep <|
 And.intro @idxAggV_agg <|
 And.intro @minmaxV_cons <|
 And.intro @appTV_eq <|
 And.intro @loadNV_ptr <|
 And.intro @loadNV_ep <|
 And.intro @storeNV_ptr <|
 And.intro @callvV_fn <|
 And.intro @chkK_eq <|
 And.intro @forget_same <|
 And.intro @orcQ_eq <|
 And.intro @finV_code <|
 And.intro @finV_keep <|
 And.intro @finV_own <|
 And.intro @appV_nils <|
 And.intro @appV_full <|
 @bnd_some_id
def evL :=
 And.intro @List.all_cons.{0} <|
 And.intro @List.all_nil.{0} <|
 And.intro @List.getElem?_cons_zero.{0} <|
 And.intro @List.getElem?_cons_succ.{0} <|
 And.intro @List.getElem?_nil.{0} <|
 And.intro @List.length_cons.{0} <|
 And.intro @List.length_nil.{0} <|
 And.intro @List.set_cons_zero.{0} <|
 And.intro @List.set_cons_succ.{0} <|
 And.intro @List.drop_zero.{0} <|
 And.intro @List.drop_succ_cons.{0} <|
 And.intro @List.drop_nil.{0} <|
 And.intro @List.take_zero.{0} <|
 And.intro @List.take_succ_cons.{0} <|
 And.intro @List.take_nil.{0} <|
 And.intro @List.replicate_succ.{0} <|
 And.intro @List.replicate_zero.{0} <|
 And.intro @List.headD_cons.{0} <|
 And.intro @List.cons_append.{0} <|
 And.intro @List.nil_append.{0} <|
 And.intro @bne_self_eq_false.{0} <|
 And.intro @beq_self_eq_true.{0} <|
 And.intro @Option.map_some.{0,0} <|
 And.intro @List.map_cons.{0,0} <|
 @List.map_nil.{0,0}
def evM :=
 And.intro @genV_makeMap <|
 And.intro @genV_lookup <|
 And.intro @genV_mapUpd <|
 And.intro @genV_mapDel <|
 And.intro @genV_mapLen <|
 And.intro @genV_sliceBox <|
 And.intro @genV_mark <|
 And.intro @leftK_nils <|
 And.intro @leftK_full <|
 And.intro @leftK_bsl <|
 And.intro @entriesOf_nil <|
 And.intro @entriesOf_mref <|
 And.intro @keyOk_int <|
 And.intro @keyOk_str <|
 And.intro @keyOk_agg <|
 And.intro @getMap_ext_0 <|
 And.intro @getMap_ext_n <|
 And.intro @getMap_exts_0 <|
 And.intro @getMap_exts_n <|
 And.intro @nilK_40 <|
 And.intro @nilK_41 <|
 And.intro @strip_nilm <|
 And.intro @strip_mref <|
 And.intro @cells_nilm <|
 And.intro @cells_mref <|
 And.intro @below_nilm <|
 And.intro @below_mref <|
 And.intro @scalar_nilm <|
 And.intro @scalar_mref <|
 And.intro @frz_nilm <|
 And.intro @frz_mref <|
 @mapOf_map
end Go.Am
namespace Go.Am
set_option linter.unusedVariables false
set_option linter.unusedSimpArgs false
theorem Bu.strips:∀ l:List UInt8,strips (u8s l)=u8s l
 | []=>rfl
 | c :: l=>by show strip _ :: Go.Am.strips (u8s l)=_;rw [Bu.strips l];rfl
theorem Bu.len (l:List UInt8):(u8s l).length=l.length:=by simp [u8s]
theorem Bu.append (a b:List UInt8):u8s a ++ u8s b=u8s (a ++ b):=by simp [u8s]
theorem Bu.bytesOf (l:List UInt8):bytesOf (u8s l)=some l:=bytesOf_bytes l
theorem Bu.ne {l:List UInt8} (h:l≠[]):u8s l≠[]:=by cases l <;> simp_all [u8s]
theorem Bu.nil:u8s []=[]:=rfl
theorem Bu.cons (c:UInt8) (l:List UInt8):u8s (c :: l)=.int .u8 c.toNat :: u8s l:=rfl
theorem Bu.one (c:UInt8):[PV.int .u8 (c.toNat:Int)]=u8s [c]:=rfl
theorem Bu.eq_nil {l:List UInt8}:u8s l=[] ↔ l=[]:=by cases l <;> simp [u8s]
theorem Bu.fits:∀ l:List UInt8,(u8s l).all (fits 1)=true
 | []=>rfl
 | c :: l=>by show (_ && List.all (u8s l) _)=true;rw [Bu.fits l];rfl
theorem Bu.scalar:∀ l:List UInt8,(u8s l).all scalar=true
 | []=>rfl
 | c :: l=>by show (_ && List.all (u8s l) _)=true;rw [Bu.scalar l];rfl
theorem Bu.below (n:Nat):∀ l:List UInt8,belows n (u8s l)=true
 | []=>rfl
 | c :: l=>by show (_ && belows n (u8s l))=true;rw [Bu.below n l];rfl
theorem Bu.get {l:List UInt8} {i:Nat} {c:UInt8} (h:l[i]?=some c):(u8s l)[i]?=some (.int .u8 c.toNat):=by simp [u8s,h]
theorem Bu.drop (l:List UInt8) (n:Nat):(u8s l).drop n=u8s (l.drop n):=by simp [u8s]
theorem Bu.take (l:List UInt8) (n:Nat):(u8s l).take n=u8s (l.take n):=by simp [u8s]
theorem Bu.ix {k:IntKind} {l:List UInt8} {i:Nat} (h:i < l.length):ix (.int k i) (u8s l).length=some i:=ix_nat k i _ (by rw [Bu.len];exact h)
def gV (h:Hp) (z:PV) (sz:Nat) (es:List PV):PV:=if es.isEmpty then z else .sl (.tok (size h)) sz es
def gH (h:Hp) (T:Nat) (es:List PV):Hp:=if es.isEmpty then h else ext h [.tok es.length T]
def gZ (sz:Nat) (z:PV):Prop:=z=.nils∨z=.sl .full sz []
theorem gZ_nils (sz:Nat):gZ sz .nils:=.inl rfl
theorem gZ_full (sz:Nat):gZ sz (.sl .full sz []):=.inr rfl
theorem gV_nil (h z sz):gV h z sz []=z:=rfl
theorem gH_nil (h T):gH h T []=h:=rfl
theorem gGrow {h:Hp} {T sz:Nat} {z:PV} (hz:gZ sz z) (es xs:List PV) (hf:xs.all (fits sz)=true) (hs:strips xs=xs) (hl:es.length+xs.length≤lim2) :
  growT (gH h T es) T sz (gV h z sz es) xs=some (gV h z sz (es ++ xs),gH h T (es ++ xs)):=by
 unfold growT
 rw [if_pos hf]
 cases es with
 | nil =>
  simp only [gV_nil,gH_nil,List.nil_append]
  simp only [List.length_nil] at hl
  rcases hz with rfl | rfl
  ·simp only
   rw [if_pos (by omega)]
   cases xs with
   | nil=>rfl
   | cons x xs=>simp only [List.isEmpty_cons,Bool.false_eq_true,if_false,gV,gH,hs]
  ·simp only
   rw [if_pos (by simp;omega)]
   cases xs with
   | nil=>rfl
   | cons x xs=>simp only [List.isEmpty_cons,Bool.false_eq_true,if_false,gV,gH,hs,List.nil_append,List.length_nil,Nat.zero_add]
 | cons e es =>
  have e1:gV h z sz (e :: es)=.sl (.tok (size h)) sz (e :: es):=rfl
  have e2:gH h T (e :: es)=ext h [.tok (e :: es).length T]:=rfl
  rw [e1,e2]
  simp only [getTok_ext_0,tokOf_tok,Option.bnd_some,hs]
  rw [if_pos ⟨trivial,trivial,hl⟩,setBx_ext_0]
  simp only [gV,gH,List.cons_append,List.isEmpty_cons,Bool.false_eq_true,if_false,List.length_cons,List.length_append,Nat.add_right_comm]
theorem gOne {h:Hp} {T:Nat} {z:PV} (hz:gZ 1 z) (out:List UInt8) (c:UInt8) (hl:out.length+1≤lim2) :
  growT (gH h T (u8s out)) T 1 (gV h z 1 (u8s out)) [.int .u8 c.toNat]=some (gV h z 1 (u8s (out ++ [c])),gH h T (u8s (out ++ [c]))):=by
 have:=gGrow (h:=h) (T:=T) hz (u8s out) (u8s [c]) (Bu.fits [c]) (Bu.strips [c]) (by rw [Bu.len];exact hl)
 rw [Bu.append] at this
 exact this
theorem gU8 {h:Hp} {T:Nat} {z:PV} (hz:gZ 1 z) (out l:List UInt8) (hl:out.length+l.length≤lim2) :
  growT (gH h T (u8s out)) T 1 (gV h z 1 (u8s out)) (u8s l)=some (gV h z 1 (u8s (out ++ l)),gH h T (u8s (out ++ l))):=by
 have:=gGrow (h:=h) (T:=T) hz (u8s out) (u8s l) (Bu.fits l) (Bu.strips l) (by rw [Bu.len,Bu.len];exact hl)
 rw [Bu.append] at this
 exact this
theorem size_gH (h T es):size h≤size (gH h T es):=by
 unfold gH;split
 ·exact Nat.le_refl _
 ·rw [size_ext];omega
theorem trunc_gH (h T es):trunc (gH h T es) (size h)=h:=by
 unfold gH;split
 ·exact trunc_self
 ·exact trunc_ext
def gD (z:PV) (sz:Nat) (es:List PV):PV:=if es.isEmpty then z else .sl .no sz es
theorem frz_gV {sz:Nat} {z:PV} (hz:gZ sz z) (n:Nat) (h k:Hp) (es:List PV):frz n k (gV h z sz es)=some (gD z sz es):=by
 unfold gV gD
 cases es with
 | nil=>rcases hz with rfl | rfl <;> rfl
 | cons x xs=>rfl
theorem below_gD {sz:Nat} {z:PV} (hz:gZ sz z) (n:Nat) (es:List PV) (hb:belows n es=true):below n (gD z sz es)=true:=by
 unfold gD
 cases es with
 | nil=>rcases hz with rfl | rfl <;> rfl
 | cons x xs=>simp only [List.isEmpty_cons,Bool.false_eq_true,if_false,below_sl,obelow_no,Bool.true_and,hb]
theorem elems_gV {sz:Nat} {z:PV} (hz:gZ sz z) (h k:Hp) (es:List PV):elems k (gV h z sz es)=some es:=by
 unfold gV
 cases es with
 | nil=>rcases hz with rfl | rfl <;> rfl
 | cons x xs=>rfl
theorem elems_gD {sz:Nat} {z:PV} (hz:gZ sz z) (k:Hp) (es:List PV):elems k (gD z sz es)=some es:=by
 unfold gD
 cases es with
 | nil=>rcases hz with rfl | rfl <;> rfl
 | cons x xs=>rfl
theorem len_gV {sz:Nat} {z:PV} (hz:gZ sz z) (h:Hp) (es:List PV):lenB false (gV h z sz es)=some (.int .i64 es.length):=by
 unfold gV
 cases es with
 | nil=>rcases hz with rfl | rfl <;> rfl
 | cons x xs=>rfl
theorem len_gD {sz:Nat} {z:PV} (hz:gZ sz z) (es:List PV):lenB false (gD z sz es)=some (.int .i64 es.length):=by
 unfold gD
 cases es with
 | nil=>rcases hz with rfl | rfl <;> rfl
 | cons x xs=>rfl
theorem bytes_gV {z:PV} (hz:gZ 1 z) (h k:Hp) (l:List UInt8):bytesStrB k (gV h z 1 (u8s l))=some (.str l):=by
 unfold gV
 cases l with
 | nil=>rcases hz with rfl | rfl <;> rfl
 | cons x xs =>
  show (Go.Am.bytesOf (u8s (x :: xs))).bnd _=_
  rw [Bu.bytesOf];rfl
def Bv (b:PV) (l:List UInt8):Prop:=(b=.nils∧l=[])∨b=.sl .no 1 (u8s l)∨b=.sl .full 1 (u8s l)
theorem Bv.nils:Bv .nils []:=.inl ⟨rfl,rfl⟩
theorem Bv.no (l):Bv (.sl .no 1 (u8s l)) l:=.inr (.inl rfl)
theorem Bv.full (l):Bv (.sl .full 1 (u8s l)) l:=.inr (.inr rfl)
section
variable {b:PV} {l:List UInt8} (hb:Bv b l)
include hb
theorem Bv.len:lenB false b=some (.int .i64 l.length):=by
 rcases hb with ⟨rfl,rfl⟩ | rfl | rfl
 ·rfl
 ·rw [lenB_sl,Bu.len]
 ·rw [lenB_sl,Bu.len]
theorem Bv.elems (h:Hp):Go.Am.elems h b=some (u8s l):=by rcases hb with ⟨rfl,rfl⟩ | rfl | rfl <;> rfl
theorem Bv.idx {k:IntKind} {i:Nat} {c:UInt8} (hc:l[i]?=some c):idxAB b (.int k i) 1=some (.ep [.int .u8 c.toNat] 0):=by
 have hi:=(List.getElem?_eq_some_iff.1 hc).1
 rcases hb with ⟨rfl,rfl⟩ | rfl | rfl
 ·simp at hc
 ·rw [idxAB_sl,if_pos rfl,Bu.ix hi,Option.bnd_some,Bu.get hc];rfl
 ·rw [idxAB_sl,if_pos rfl,Bu.ix hi,Option.bnd_some,Bu.get hc];rfl
theorem Bv.scalar:Go.Am.scalar b=true:=by rcases hb with ⟨rfl,rfl⟩ | rfl | rfl <;> rfl
theorem Bv.frz (n:Nat) (h:Hp):Go.Am.frz n h b=some b:=by rcases hb with ⟨rfl,rfl⟩ | rfl | rfl <;> rfl
theorem Bv.strip:Go.Am.strip b=b:=by rcases hb with ⟨rfl,rfl⟩ | rfl | rfl <;> rfl
theorem Bv.below (n:Nat):Go.Am.below n b=true:=by
 rcases hb with ⟨rfl,rfl⟩ | rfl | rfl
 ·rfl
 ·rw [below_sl,Bu.below];rfl
 ·rw [below_sl,Bu.below];rfl
theorem Bv.cells:b.cells=[b]:=by rcases hb with ⟨rfl,rfl⟩ | rfl | rfl <;> rfl
end
theorem Bv.done {z:PV} (hz:gZ 1 z) (l:List UInt8):Bv (gD z 1 (u8s l)) l:=by
 unfold gD
 cases l with
 | nil =>
  rcases hz with rfl | rfl
  ·exact .inl ⟨rfl,rfl⟩
  ·exact .inr (.inr rfl)
 | cons x xs=>exact .inr (.inl rfl)
structure Rd (b:PV) (l:List UInt8):Prop where
 len:lenB false b=some (.int .i64 l.length)
 idx:∀ {k:IntKind} {i:Nat} {c:UInt8},l[i]?=some c→idxAB b (.int k i) 1=some (.ep [.int .u8 c.toNat] 0)
 elems:∀ h,Go.Am.elems h b=some (u8s l)
theorem Bv.rd {b:PV} {l:List UInt8} (hb:Bv b l):Rd b l:=⟨hb.len,hb.idx,hb.elems⟩
theorem rd_sl (o:Own) (l:List UInt8):Rd (.sl o 1 (u8s l)) l:=by
 refine ⟨by rw [lenB_sl,Bu.len],fun {k i c} hc=>?_,fun h=>rfl⟩
 have hi:=(List.getElem?_eq_some_iff.1 hc).1
 rw [idxAB_sl,if_pos rfl,Bu.ix hi,Option.bnd_some,Bu.get hc];rfl
theorem gV_rd {z:PV} (hz:gZ 1 z) (h:Hp) (l:List UInt8):Rd (gV h z 1 (u8s l)) l:=by
 cases l with
 | nil =>
  rcases hz with rfl | rfl
  ·exact Bv.nils.rd
  ·exact (Bv.full []).rd
 | cons x l=>exact rd_sl _ (x :: l)
end Go.Am
namespace Go.Am
set_option linter.unusedVariables false
set_option linter.unusedSimpArgs false
structure El {α:Type} (e:α→PV) (sz:Nat):Prop where
 len:∀ a,(e a).cells.length=sz
 sc:∀ a,(e a).cells.all scalar=true
 st:∀ a,strip (e a)=e a
 be:∀ n a,below n (e a)=true
def eI (n:Int):PV:=.int .i64 n
def eS (s:List UInt8):PV:=.str s
def eB (c:UInt8):PV:=.int .u8 c.toNat
theorem elI:El eI 1:=⟨fun _=>rfl,fun _=>rfl,fun _=>rfl,fun _ _=>rfl⟩
theorem elS:El eS 1:=⟨fun _=>rfl,fun _=>rfl,fun _=>rfl,fun _ _=>rfl⟩
theorem elB:El eB 1:=⟨fun _=>rfl,fun _=>rfl,fun _=>rfl,fun _ _=>rfl⟩
section
variable {α:Type} {e:α→PV} {sz:Nat}
theorem El.fits (he:El e sz) (l:List α):(l.map e).all (fits sz)=true:=by
 induction l with
 | nil=>rfl
 | cons a l ih =>
  simp only [List.map_cons,List.all_cons,ih,Bool.and_true,fits_def,he.len,he.sc,beq_self_eq_true]
theorem El.strips (he:El e sz) (l:List α):strips (l.map e)=l.map e:=by
 induction l with
 | nil=>rfl
 | cons a l ih=>simp only [List.map_cons,strips_cons,he.st,ih]
theorem El.belows (he:El e sz) (n:Nat) (l:List α):belows n (l.map e)=true:=by
 induction l with
 | nil=>rfl
 | cons a l ih=>simp only [List.map_cons,belows_cons,he.be,ih,Bool.and_self]
theorem El.scalars (he:El e 1) (hc:∀ a,(e a).cells=[e a]) (l:List α):(l.map e).all scalar=true:=by
 induction l with
 | nil=>rfl
 | cons a l ih =>
  have:=he.sc a
  rw [hc a] at this
  simp only [List.all_cons,List.all_nil,Bool.and_true] at this
  simp only [List.map_cons,List.all_cons,ih,this,Bool.and_self]
def Lv (e:α→PV) (sz:Nat) (b:PV) (l:List α):Prop:=(b=.nils∧l=[])∨b=.sl .no sz (l.map e)∨b=.sl .full sz (l.map e)
theorem Lv.nils:Lv e sz .nils []:=.inl ⟨rfl,rfl⟩
theorem Lv.no (l:List α):Lv e sz (.sl .no sz (l.map e)) l:=.inr (.inl rfl)
theorem Lv.full (l:List α):Lv e sz (.sl .full sz (l.map e)) l:=.inr (.inr rfl)
structure Rl (e:α→PV) (sz:Nat) (b:PV) (l:List α):Prop where
 len:lenB false b=some (.int .i64 l.length)
 idx:∀ {k:IntKind} {i:Nat} {a:α},l[i]?=some a→idxAB b (.int k i) sz=some (.ep (e a).cells 0)
 elems:∀ h,Go.Am.elems h b=some (l.map e)
theorem rl_sl (o:Own) (l:List α):Rl e sz (.sl o sz (l.map e)) l:=by
 refine ⟨by rw [lenB_sl,List.length_map],fun {k i a} hc=>?_,fun h=>rfl⟩
 have hi:=(List.getElem?_eq_some_iff.1 hc).1
 rw [idxAB_sl,if_pos rfl,ix_nat k i _ (by rw [List.length_map];exact hi),Option.bnd_some,List.getElem?_map,hc];rfl
theorem rl_nils:Rl e sz .nils []:=⟨rfl,fun {k i a} hc=>by simp at hc,fun h=>rfl⟩
section
variable {b:PV} {l:List α} (hb:Lv e sz b l)
include hb
theorem Lv.rl:Rl e sz b l:=by
 rcases hb with ⟨rfl,rfl⟩ | rfl | rfl
 ·exact rl_nils
 ·exact rl_sl _ _
 ·exact rl_sl _ _
theorem Lv.len:lenB false b=some (.int .i64 l.length):=hb.rl.len
theorem Lv.idx {k:IntKind} {i:Nat} {a:α} (ha:l[i]?=some a):idxAB b (.int k i) sz=some (.ep (e a).cells 0):=hb.rl.idx ha
theorem Lv.elems (h:Hp):Go.Am.elems h b=some (l.map e):=hb.rl.elems h
theorem Lv.scalar:Go.Am.scalar b=true:=by rcases hb with ⟨rfl,rfl⟩ | rfl | rfl <;> rfl
theorem Lv.frz (n:Nat) (h:Hp):Go.Am.frz n h b=some b:=by rcases hb with ⟨rfl,rfl⟩ | rfl | rfl <;> rfl
theorem Lv.strip:Go.Am.strip b=b:=by rcases hb with ⟨rfl,rfl⟩ | rfl | rfl <;> rfl
theorem Lv.cells:b.cells=[b]:=by rcases hb with ⟨rfl,rfl⟩ | rfl | rfl <;> rfl
theorem Lv.below (he:El e sz) (n:Nat):Go.Am.below n b=true:=by
 rcases hb with ⟨rfl,rfl⟩ | rfl | rfl
 ·rfl
 ·rw [below_sl,he.belows];rfl
 ·rw [below_sl,he.belows];rfl
end
theorem gV_rl {z:PV} (hz:gZ sz z) (h:Hp) (l:List α):Rl e sz (gV h z sz (l.map e)) l:=by
 cases l with
 | nil =>
  rcases hz with rfl | rfl
  ·exact rl_nils
  ·exact rl_sl .full []
 | cons x l=>exact rl_sl _ (x :: l)
theorem Lv.done {z:PV} (hz:gZ sz z) (l:List α):Lv e sz (gD z sz (l.map e)) l:=by
 unfold gD
 cases l with
 | nil =>
  rcases hz with rfl | rfl
  ·exact .inl ⟨rfl,rfl⟩
  ·exact .inr (.inr rfl)
 | cons x xs=>exact .inr (.inl rfl)
theorem gOneL {h:Hp} {T:Nat} {z:PV} (he:El e sz) (hz:gZ sz z) (l:List α) (a:α) (hl:l.length+1≤lim2) :
  growT (gH h T (l.map e)) T sz (gV h z sz (l.map e)) [e a]=some (gV h z sz ((l ++ [a]).map e),gH h T ((l ++ [a]).map e)):=by
 have:=gGrow (h:=h) (T:=T) hz (l.map e) ([a].map e) (he.fits [a]) (he.strips [a]) (by simpa using hl)
 rw [←List.map_append] at this
 exact this
theorem gAllL {h:Hp} {T:Nat} {z:PV} (he:El e sz) (hz:gZ sz z) (l m:List α) (hl:l.length+m.length≤lim2) :
  growT (gH h T (l.map e)) T sz (gV h z sz (l.map e)) (m.map e)=some (gV h z sz ((l ++ m).map e),gH h T ((l ++ m).map e)):=by
 have:=gGrow (h:=h) (T:=T) hz (l.map e) (m.map e) (he.fits m) (he.strips m) (by simpa using hl)
 rw [←List.map_append] at this
 exact this
end
theorem beq_false' {a b:Int} (h:a≠b):(a == b)=false:=by simpa using h
theorem bne_true' {a b:Int} (h:a≠b):(a != b)=true:=by simpa using h
theorem u8_beq (x y:UInt8):((x.toNat:Int) == (y.toNat:Int))=(x == y):=by
 by_cases h:x=y
 ·subst h;simp
 ·have h1:(x == y)=false:=by simpa using h
  rw [h1,beq_eq_false_iff_ne]
  intro q
  exact h (UInt8.toNat_inj.1 (by omega))
theorem u8_bne (x y:UInt8):((x.toNat:Int) != (y.toNat:Int))=(x != y):=by
 show (!((x.toNat:Int) == (y.toNat:Int)))=_
 rw [u8_beq];rfl
theorem tmodN (a b:Nat):(a:Int).tmod (b:Int)=((a % b:Nat):Int):=(Int.ofNat_tmod a b).symm
theorem trunc_ext_ge {k:Hp} (l:List Box) {n:Nat} (hn:n≤size k):trunc (ext k l) n=trunc k n:=by
 simp only [trunc,ext,size] at *
 exact List.take_append_of_le_length hn
end Go.Am
namespace Go.Am
set_option linter.unusedVariables false
set_option linter.unusedSimpArgs false
structure GS (h:Hp) (T sz:Nat) (z v:PV) (es:List PV) (H:Hp):Prop where
 tr:trunc H (size h)=h
 le:size h≤size H
 va:(es=[]∧v=z)∨(es≠[]∧∃ t,v=.sl (.tok t) sz es∧size h≤t∧t < size H∧getTok H t=some (es.length,T))
section
variable {h H:Hp} {T sz:Nat} {z v:PV} {es:List PV}
theorem GS.zero (h:Hp) (T sz:Nat) (z:PV):GS h T sz z z [] h:=⟨by simp [trunc,size],Nat.le_refl _,.inl ⟨rfl,rfl⟩⟩
theorem box_ext (H l:Hp) {t:Nat} (ht:t < size H):box? (ext H l) t=box? H t:=by
 simp only [box?,ext,size] at *
 rw [List.getElem?_append_left ht]
theorem GS.ext (g:GS h T sz z v es H) (l:List Box):GS h T sz z v es (ext H l):=by
 refine ⟨by rw [trunc_ext_ge l g.le];exact g.tr,by have:=g.le;simp only [size,Go.Am.ext,List.length_append] at *;omega,?_⟩
 rcases g.va with a | ⟨a,t,b,c,d,e⟩
 ·exact .inl a
 ·refine .inr ⟨a,t,b,c,by simp only [size,Go.Am.ext,List.length_append] at *;omega,?_⟩
  unfold getTok at *
  rw [box_ext H l d];exact e
theorem GS.set (g:GS h T sz z v es H) {b:Nat} {cs cs':List PV} (hb:getBox H b=some cs) (hn:size h≤b):GS h T sz z v es (setBox H b cs'):=by
 refine ⟨by have:=g.tr;simp only [trunc,setBox,setBx] at *;rw [List.take_set_of_le hn];exact this,by have:=g.le;simp only [size,setBox,setBx,List.length_set] at *;exact this,?_⟩
 rcases g.va with a | ⟨a,t,q,c,d,e⟩
 ·exact .inl a
 ·refine .inr ⟨a,t,q,c,by simpa only [size,setBox,setBx,List.length_set] using d,?_⟩
  have hne:b≠t:=by
   rintro rfl
   unfold getTok at e
   unfold getBox at hb
   cases hq:box? H b with
   | none=>rw [hq] at hb;cases hb
   | some x =>
    rw [hq] at hb e
    cases x <;> simp [Option.bnd,cellsOf,tokOf] at hb e
  unfold getTok at *
  simp only [box?,setBox,setBx] at *
  rw [List.getElem?_set_ne hne];exact e
theorem GS.grow (g:GS h T sz z v es H) (hz:gZ sz z) {x:PV} (hf:fits sz x=true) (hs:strip x=x) (hl:es.length+1≤lim2) :
  ∃ v' H',growT H T sz v [x]=some (v',H')∧GS h T sz z v' (es ++ [x]) H':=by
 have hff:[x].all (fits sz)=true:=by simp [hf]
 have hss:strips [x]=[x]:=by rw [strips,hs];rfl
 rcases g.va with ⟨rfl,rfl⟩ | ⟨hne,t,rfl,c,d,e⟩
 ·refine ⟨.sl (.tok (size H)) sz [x],Go.Am.ext H [.tok 1 T],?_,?_⟩
  ·unfold growT
   rw [if_pos hff]
   simp only [List.length_nil] at hl
   rcases hz with rfl | rfl
   ·simp only
    rw [if_pos (by simpa using hl),hss];rfl
   ·simp only
    rw [if_pos (by simpa using hl),hss];rfl
  ·refine ⟨by rw [trunc_ext_ge _ g.le];exact g.tr,by have:=g.le;simp only [size,Go.Am.ext,List.length_append] at *;omega,.inr ⟨by simp,size H,rfl,g.le,by simp [size,Go.Am.ext],?_⟩⟩
   simp [getTok,box?,size,Go.Am.ext,Option.bnd,tokOf]
 ·refine ⟨.sl (.tok t) sz (es ++ [x]),setBx H t (.tok (es.length+1) T),?_,?_⟩
  ·unfold growT
   rw [if_pos hff]
   simp only [e,Option.bnd]
   rw [if_pos (by simpa using hl),hss];rfl
  ·refine ⟨by have:=g.tr;simp only [trunc,setBx] at *;rw [List.take_set_of_le c];exact this,by have:=g.le;simp only [size,setBx,List.length_set] at *;exact this,.inr ⟨by simp,t,rfl,c,by simpa only [size,setBx,List.length_set] using d,?_⟩⟩
   have hd:t < H.length:=d
   simp [getTok,box?,setBx,List.getElem?_set_self hd,Option.bnd,tokOf]
theorem GS.frz (g:GS h T sz z v es H) (hz:gZ sz z) (n:Nat) (k:Hp):frz n k v=some (gD z sz es):=by
 rcases g.va with ⟨rfl,rfl⟩ | ⟨hne,t,rfl,_⟩
 ·rcases hz with rfl | rfl <;> rfl
 ·cases es with
  | nil=>exact (hne rfl).elim
  | cons x xs=>rfl
end
theorem GS.rl {α:Type} {e:α→PV} {h H:Hp} {T sz:Nat} {z v:PV} {l:List α} (g:GS h T sz z v (l.map e) H) (hz:gZ sz z):Rl e sz v l:=by
 rcases g.va with ⟨a,rfl⟩ | ⟨hne,t,rfl,_⟩
 ·have:l=[]:=by simpa using a
  subst this
  rcases hz with rfl | rfl
  ·exact rl_nils
  ·exact rl_sl .full []
 ·exact rl_sl _ _
end Go.Am
namespace Go.Am
set_option linter.unusedVariables false
set_option linter.unusedSimpArgs false
structure Fl where
 b:List UInt8
 sector:Nat
 wear:List Nat
 turned:Nat
 left:Int
 down:Bool
structure FP where
 f:Nat
 bb:Nat
 wb:Nat
def natsV (l:List Nat):List PV:=l.map fun (n:Nat)=>PV.int .i64 (n:Int)
def flC (p:FP) (F:Fl):List PV:=[.bsl true p.bb 0 F.b.length 1,.int .i64 F.sector,.bsl true p.wb 0 F.wear.length 1,.int .i64 F.turned,.int .i64 F.left,.bool F.down]
def putF (h:Hp) (p:FP) (F:Fl):Hp:=setBx (setBx (setBx h p.bb (.cells (u8s F.b))) p.wb (.cells (natsV F.wear))) p.f (.cells (flC p F))
structure FOk (h:Hp) (p:FP):Prop where
 lf:p.f < size h
 lb:p.bb < size h
 lw:p.wb < size h
 n1:p.f≠p.bb
 n2:p.f≠p.wb
 n3:p.bb≠p.wb
theorem hp_ext {h k:Hp} (hs:size h=size k) (hb:∀ b,box? h b=box? k b):h=k:=List.ext_getElem? hb
theorem box_set {h:Hp} {b n:Nat} {x:Box}:box? (setBx h b x) n=if b=n then (if n < size h then some x else none) else box? h n:=by
 by_cases hb:b=n
 ·subst hb
  rw [if_pos rfl]
  split
  ·rename_i hl;exact box_set_eq hl
  ·rename_i hl;simp only [box?,setBx,size] at *;rw [List.getElem?_eq_none (by simp;omega)]
 ·rw [if_neg hb,box_set_ne hb]
theorem size_putF {h:Hp} {p:FP} {F:Fl}:size (putF h p F)=size h:=by simp only [putF,size_setBx]
theorem box_putF {h:Hp} {p:FP} {F:Fl} (hp:FOk h p) (n:Nat):box? (putF h p F) n=if n=p.f then some (.cells (flC p F)) else if n=p.wb then some (.cells (natsV F.wear)) else if n=p.bb then some (.cells (u8s F.b)) else box? h n:=by
 obtain ⟨l1,l2,l3,n1,n2,n3⟩:=hp
 simp only [putF,box_set,size_setBx]
 by_cases h1:n=p.f
 ·subst h1;rw [if_pos rfl,if_pos l1,if_pos rfl]
 ·rw [if_neg (Ne.symm h1),if_neg h1]
  by_cases h2:n=p.wb
  ·subst h2;rw [if_pos rfl,if_pos l3,if_pos rfl]
  ·rw [if_neg (Ne.symm h2),if_neg h2]
   by_cases h3:n=p.bb
   ·subst h3;rw [if_pos rfl,if_pos l2,if_pos rfl]
   ·rw [if_neg (Ne.symm h3),if_neg h3]
theorem FOk.set {h:Hp} {p:FP} (hp:FOk h p) (b:Nat) (x:Box):FOk (setBx h b x) p:=⟨by rw [size_setBx];exact hp.lf,by rw [size_setBx];exact hp.lb,by rw [size_setBx];exact hp.lw,hp.n1,hp.n2,hp.n3⟩
theorem FOk.ext {h:Hp} {p:FP} (hp:FOk h p) (l:Hp):FOk (Go.Am.ext h l) p:=⟨by rw [size_ext];have:=hp.lf;omega,by rw [size_ext];have:=hp.lb;omega,by rw [size_ext];have:=hp.lw;omega,hp.n1,hp.n2,hp.n3⟩
theorem FOk.put {h:Hp} {p q:FP} {F:Fl} (hp:FOk h p):FOk (putF h q F) p:=⟨by rw [size_putF];exact hp.lf,by rw [size_putF];exact hp.lb,by rw [size_putF];exact hp.lw,hp.n1,hp.n2,hp.n3⟩
theorem putF_putF {h:Hp} {p:FP} {F G:Fl} (hp:FOk h p):putF (putF h p F) p G=putF h p G:=by
 refine hp_ext (by simp only [size_putF]) fun n=>?_
 rw [box_putF hp.put,box_putF hp,box_putF hp]
 split <;> (try rfl)
 split <;> (try rfl)
 split <;> rfl
theorem ext_putF {h l:Hp} {p:FP} {F:Fl} (hp:FOk h p):ext (putF h p F) l=putF (ext h l) p F:=by
 simp only [putF]
 rw [setBx_ext_lt hp.lb,setBx_ext_lt (by rw [size_setBx];exact hp.lw),setBx_ext_lt (by rw [size_setBx,size_setBx];exact hp.lf)]
theorem set_putF {h:Hp} {p:FP} {F:Fl} {b:Nat} {x:Box} (hp:FOk h p) (h1:b≠p.f) (h2:b≠p.bb) (h3:b≠p.wb):setBx (putF h p F) b x=putF (setBx h b x) p F:=by
 refine hp_ext (by simp only [size_putF,size_setBx]) fun n=>?_
 rw [box_putF (hp.set _ _),box_set,box_set,box_putF hp,size_putF]
 by_cases hb:b=n
 ·subst hb;rw [if_pos rfl,if_neg h1,if_neg h3,if_neg h2,if_pos rfl]
 ·rw [if_neg hb,if_neg hb]
theorem getBox_putF {h:Hp} {p:FP} {F:Fl} {b:Nat} (hp:FOk h p) (h1:b≠p.f) (h2:b≠p.bb) (h3:b≠p.wb):getBox (putF h p F) b=getBox h b:=by rw [getBox,box_putF hp,if_neg h1,if_neg h3,if_neg h2];rfl
theorem getMap_putF {h:Hp} {p:FP} {F:Fl} {b:Nat} (hp:FOk h p) (h1:b≠p.f) (h2:b≠p.bb) (h3:b≠p.wb):getMap (putF h p F) b=getMap h b:=by rw [getMap,box_putF hp,if_neg h1,if_neg h3,if_neg h2];rfl
theorem trunc_putF {h l:Hp} {p:FP} {F:Fl} (hp:FOk h p):trunc (putF (ext h l) p F) (size h)=putF h p F:=by
 rw [←ext_putF hp]
 have:=trunc_ext (h:=putF h p F) (l:=l)
 rwa [size_putF] at this
theorem trunc_putF0 {h:Hp} {p:FP} {F:Fl}:trunc (putF h p F) (size h)=putF h p F:=by
 have:=trunc_self (h:=putF h p F)
 rwa [size_putF] at this
section cells
variable {h:Hp} {p:FP} {F:Fl} (hp:FOk h p)
include hp
theorem getF:getBox (putF h p F) p.f=some (flC p F):=by rw [getBox,box_putF hp,if_pos rfl];rfl
theorem getFb:getBox (putF h p F) p.bb=some (u8s F.b):=by rw [getBox,box_putF hp,if_neg (Ne.symm hp.n1),if_neg hp.n3,if_pos rfl];rfl
theorem getFw:getBox (putF h p F) p.wb=some (natsV F.wear):=by rw [getBox,box_putF hp,if_neg (Ne.symm hp.n2),if_pos rfl];rfl
theorem setF {G:Fl} (hb:G.b=F.b) (hw:G.wear=F.wear):setBox (putF h p F) p.f (flC p G)=putF h p G:=by
 refine hp_ext (by simp only [setBox,size_putF,size_setBx]) fun n=>?_
 rw [setBox,box_set,box_putF hp,box_putF hp,size_putF,hb,hw]
 by_cases h1:n=p.f
 ·subst h1;rw [if_pos rfl,if_pos hp.lf,if_pos rfl]
 ·rw [if_neg (Ne.symm h1),if_neg h1,if_neg h1]
theorem setFb {l:List UInt8} (hl:l.length=F.b.length):setBox (putF h p F) p.bb (u8s l)=putF h p { F with b:=l }:=by
 refine hp_ext (by simp only [setBox,size_putF,size_setBx]) fun n=>?_
 rw [setBox,box_set,box_putF hp,box_putF hp,size_putF]
 by_cases h1:n=p.f
 ·subst h1;rw [if_neg (Ne.symm hp.n1),if_pos rfl,if_pos rfl];simp only [flC,hl]
 ·rw [if_neg h1,if_neg h1]
  by_cases h2:n=p.wb
  ·subst h2;rw [if_neg hp.n3,if_pos rfl,if_pos rfl]
  ·rw [if_neg h2,if_neg h2]
   by_cases h3:n=p.bb
   ·subst h3;rw [if_pos rfl,if_pos hp.lb,if_pos rfl]
   ·rw [if_neg (Ne.symm h3),if_neg h3,if_neg h3]
theorem setFw {l:List Nat} (hl:l.length=F.wear.length):setBox (putF h p F) p.wb (natsV l)=putF h p { F with wear:=l }:=by
 refine hp_ext (by simp only [setBox,size_putF,size_setBx]) fun n=>?_
 rw [setBox,box_set,box_putF hp,box_putF hp,size_putF]
 by_cases h1:n=p.f
 ·subst h1;rw [if_neg (Ne.symm hp.n2),if_pos rfl,if_pos rfl];simp only [flC,hl]
 ·rw [if_neg h1,if_neg h1]
  by_cases h2:n=p.wb
  ·subst h2;rw [if_pos rfl,if_pos hp.lw,if_pos rfl]
  ·rw [if_neg (Ne.symm h2),if_neg h2,if_neg h2]
theorem ld0:loadV 1 false (.ptr p.f 0) (putF h p F)=some (.bsl true p.bb 0 F.b.length 1):=by rw [loadV_ptr,getF hp];rfl
theorem ld1:loadV 1 false (.ptr p.f 1) (putF h p F)=some (.int .i64 F.sector):=by rw [loadV_ptr,getF hp];rfl
theorem ld2:loadV 1 false (.ptr p.f 2) (putF h p F)=some (.bsl true p.wb 0 F.wear.length 1):=by rw [loadV_ptr,getF hp];rfl
theorem ld3:loadV 1 false (.ptr p.f 3) (putF h p F)=some (.int .i64 F.turned):=by rw [loadV_ptr,getF hp];rfl
theorem ld4:loadV 1 false (.ptr p.f 4) (putF h p F)=some (.int .i64 F.left):=by rw [loadV_ptr,getF hp];rfl
theorem ld5:loadV 1 false (.ptr p.f 5) (putF h p F)=some (.bool F.down):=by rw [loadV_ptr,getF hp];rfl
theorem ldb {i:Nat} {c:UInt8} (hi:F.b[i]?=some c):loadV 1 false (.ptr p.bb (i * 1)) (putF h p F)=some (.int .u8 c.toNat):=by
 rw [loadV_ptr,getFb hp,Option.bnd_some,part,if_neg (by simp),Nat.mul_one,u8s_get,hi];rfl
theorem ldw {i n:Nat} (hi:F.wear[i]?=some n):loadV 1 false (.ptr p.wb (i * 1)) (putF h p F)=some (.int .i64 n):=by
 rw [loadV_ptr,getFw hp,Option.bnd_some,part,if_neg (by simp),Nat.mul_one,natsV,List.getElem?_map,hi];rfl
theorem st3 {base:Nat} {n:Nat}:storeV base 1 (.ptr p.f 3) (.int .i64 n) (putF h p F)=some (putF h p { F with turned:=n }):=by
 rw [storeV_ptr,getF hp,Option.bnd_some,if_pos ⟨rfl,by simp [flC],rfl,fun _=>rfl⟩]
 have:setRange (flC p F) 3 (if p.f < base then strips (PV.int .i64 n).cells else (PV.int .i64 n).cells)=flC p { F with turned:=n }:=by split <;> rfl
 rw [this,setF (F:=F) hp (G:={ F with turned:=n }) rfl rfl]
theorem st4 {base:Nat} {n:Int}:storeV base 1 (.ptr p.f 4) (.int .i64 n) (putF h p F)=some (putF h p { F with left:=n }):=by
 rw [storeV_ptr,getF hp,Option.bnd_some,if_pos ⟨rfl,by simp [flC],rfl,fun _=>rfl⟩]
 have:setRange (flC p F) 4 (if p.f < base then strips (PV.int .i64 n).cells else (PV.int .i64 n).cells)=flC p { F with left:=n }:=by split <;> rfl
 rw [this,setF (F:=F) hp (G:={ F with left:=n }) rfl rfl]
theorem st5 {base:Nat} {n:Bool}:storeV base 1 (.ptr p.f 5) (.bool n) (putF h p F)=some (putF h p { F with down:=n }):=by
 rw [storeV_ptr,getF hp,Option.bnd_some,if_pos ⟨rfl,by simp [flC],rfl,fun _=>rfl⟩]
 have:setRange (flC p F) 5 (if p.f < base then strips (PV.bool n).cells else (PV.bool n).cells)=flC p { F with down:=n }:=by split <;> rfl
 rw [this,setF (F:=F) hp (G:={ F with down:=n }) rfl rfl]
omit hp in
theorem u8s_set (l:List UInt8) (i:Nat) (c:UInt8):(u8s l).set i (.int .u8 c.toNat)=u8s (l.set i c):=by simp [u8s,List.map_set]
omit hp in
theorem u8s_length (l:List UInt8):(u8s l).length=l.length:=by simp [u8s]
theorem stb {base i:Nat} {c:UInt8} (hi:i < F.b.length):storeV base 1 (.ptr p.bb (i * 1)) (.int .u8 c.toNat) (putF h p F)=some (putF h p { F with b:=F.b.set i c }):=by
 rw [storeV_ptr,getFb hp,Option.bnd_some,if_pos ⟨rfl,by rw [u8s_length];omega,rfl,fun _=>rfl⟩]
 have:setRange (u8s F.b) (i * 1) (if p.bb < base then strips (PV.int .u8 c.toNat).cells else (PV.int .u8 c.toNat).cells)=u8s (F.b.set i c):=by
  rw [Nat.mul_one,←u8s_set];split <;> rfl
 rw [this,setFb hp (by simp)]
theorem stw {base i n:Nat} (hi:i < F.wear.length):storeV base 1 (.ptr p.wb (i * 1)) (.int .i64 n) (putF h p F)=some (putF h p { F with wear:=F.wear.set i n }):=by
 rw [storeV_ptr,getFw hp,Option.bnd_some,if_pos ⟨rfl,by simp [natsV];omega,rfl,fun _=>rfl⟩]
 have:setRange (natsV F.wear) (i * 1) (if p.wb < base then strips (PV.int .i64 n).cells else (PV.int .i64 n).cells)=natsV (F.wear.set i n):=by
  rw [Nat.mul_one]
  have e:natsV (F.wear.set i n)=(natsV F.wear).set i (.int .i64 n):=by simp [natsV,List.map_set]
  rw [e];split <;> rfl
 rw [this,setFw hp (by simp)]
end cells
/-! ### What a flash does -/
def Fl.turn (F:Fl) (i:Nat) (c:UInt8):Bool × Fl :=
 if F.left=0 then (false,{ F with down:=true })
 else (true,{ F with left:=if F.left > 0 then F.left - 1 else F.left,b:=F.b.set i c,turned:=min (F.turned+1) 1073741824 })
def Fl.prog (F:Fl) (i:Nat):List UInt8→Nat × Fl
 | []=>(0,F)
 | c :: r=>if (F.turn i c).1=true then (F.turn i c).2.prog (i+1) r else (30,(F.turn i c).2)
def Fl.clears (F:Fl) (i:Nat) (l:List UInt8):Bool:=(l.zipIdx).all fun p=>p.1 &&& ~~~ (F.b.getD (i+p.2) 0) == 0
def Fl.program (F:Fl) (i:Nat) (l:List UInt8):Nat × Fl:=if F.down then (30,F) else if F.clears i l then F.prog i l else (31,F)
def Fl.erase (F:Fl) (s:Nat):Nat × Fl:=if F.down then (30,F) else
 ({ F with wear:=F.wear.set s (min (F.wear.getD s 0+1) 1073741824) }:Fl).prog (s * F.sector) (List.replicate F.sector 255)
end Go.Am
namespace Go.Am
theorem wr_add (m n:Nat) (h:m+n≤9223372036854775807):IntKind.i64.wrap ((m:Int)+(n:Int))=((m+n:Nat):Int):=by rw [wrap_small (by omega) (by omega)];simp
theorem wr_sub (m n:Nat) (h:n≤m) (h2:m≤9223372036854775807):IntKind.i64.wrap ((m:Int) - (n:Int))=((m - n:Nat):Int):=by rw [wrap_small (by omega) (by omega)];omega
theorem wr_mul (m n:Nat) (h:m * n≤9223372036854775807):IntKind.i64.wrap ((m:Int) * (n:Int))=((m * n:Nat):Int):=by
 have:(m:Int) * (n:Int)=((m * n:Nat):Int):=by simp
 rw [this,wrap_small (by omega) (by omega)]
theorem wr_a1 (m:Nat) (h:m+1≤9223372036854775807):IntKind.i64.wrap ((m:Int)+1)=((m+1:Nat):Int):=by rw [wrap_small (by omega) (by omega)];simp
theorem wr_a2 (m:Nat) (h:m+2≤9223372036854775807):IntKind.i64.wrap ((m:Int)+2)=((m+2:Nat):Int):=by rw [wrap_small (by omega) (by omega)];simp
theorem wr_a7 (m:Nat) (h:m+7≤9223372036854775807):IntKind.i64.wrap ((m:Int)+7)=((m+7:Nat):Int):=by rw [wrap_small (by omega) (by omega)];simp
theorem wr_7a (m:Nat) (h:m+7≤9223372036854775807):IntKind.i64.wrap (7+(m:Int))=((7+m:Nat):Int):=by rw [wrap_small (by omega) (by omega)];simp
theorem wr_s1 (m:Nat) (h:1≤m) (h2:m≤9223372036854775807):IntKind.i64.wrap ((m:Int) - 1)=((m - 1:Nat):Int):=by rw [wrap_small (by omega) (by omega)];omega
theorem wr_s4 (m:Nat) (h:4≤m) (h2:m≤9223372036854775807):IntKind.i64.wrap ((m:Int) - 4)=((m - 4:Nat):Int):=by rw [wrap_small (by omega) (by omega)];omega
theorem dec_lt (m n:Nat):decide ((m:Int) < (n:Int))=decide (m < n):=by simp
theorem dec_le (m n:Nat):decide ((m:Int)≤(n:Int))=decide (m≤n):=by simp
theorem dec_gt (m n:Nat):decide ((m:Int) > (n:Int))=decide (m > n):=by simp
theorem dec_ge (m n:Nat):decide ((m:Int) ≥ (n:Int))=decide (m ≥ n):=by simp
theorem dec_nonneg (m:Nat):decide ((m:Int) ≥ 0)=true:=by simp
theorem dec_neg (m:Nat):decide ((m:Int) < 0)=false:=by simp
theorem beq_nat (m n:Nat):((m:Int) == (n:Int))=(m == n):=by
 rw [Bool.eq_iff_iff,beq_iff_eq,beq_iff_eq];omega
theorem u8_get (l:List UInt8) (i:Nat) (h:i < l.length):(u8s l)[i]?=some (.int .u8 (l[i].toNat)):=by rw [u8s_get,List.getElem?_eq_getElem h];rfl
end Go.Am
namespace Go.Am
set_option linter.unusedVariables false
set_option linter.unusedSimpArgs false
def GK (h H:Hp) (v:PV) (es:List PV):Prop:=∃ g,H=ext h g∧es.all scalar=true∧belows (size h) es=true ∧
 ((es=[]∧(v=.nils∨v=.sl .full 1 []))∨∃ b,size h≤b∧v=.bsl false b 0 es.length 1∧getBox H b=some es)
theorem belows_append {n:Nat}:∀ {a b:List PV},belows n a=true→belows n b=true→belows n (a ++ b)=true
 | [],b,_,hb=>hb
 | x :: a,b,ha,hb=>by
  simp only [belows,Bool.and_eq_true,List.cons_append] at *
  exact ⟨ha.1,belows_append ha.2 hb⟩
theorem one_cells:∀ {xs:List PV},xs.all scalar=true→xs.all (fits 1)=true∧xs.flatMap PV.cells=xs
 | [],_=>⟨rfl,rfl⟩
 | x :: xs,h=>by
  simp only [List.all_cons,Bool.and_eq_true] at h
  obtain ⟨h1,h2⟩:=one_cells h.2
  have hc:x.cells=[x]:=by
   have:=h.1
   cases x <;> simp [scalar] at this ⊢ <;> rfl
  exact ⟨by simp only [List.all_cons,h1,Bool.and_true,fits,hc];simp [h.1],by rw [List.flatMap_cons,hc,h2];rfl⟩
theorem set_ext_ge {h g:Hp} {b:Nat} {x:Box} (hb:size h≤b):setBx (ext h g) b x=ext h (g.set (b - size h) x):=by
 simp only [setBx,ext,size] at *
 rw [List.set_append_right _ _ hb]
theorem GK.app {h H:Hp} {v:PV} {es xs:List PV} (hk:GK h H v es) (base:Nat) {o:Own} (hs:xs.all scalar=true) (hb:belows (size h) xs=true) (hlim:es.length+xs.length≤1000000) (hne:xs≠[]) :
  ∃ v' H',genV base H (.appK 1) [v,.sl o 1 xs]=some (v',H')∧GK h H' v' (es ++ xs):=by
 obtain ⟨g,rfl,h1,h2,h3⟩:=hk
 obtain ⟨f1,f2⟩:=one_cells hs
 have fin:∀ (H2:Hp),(∃ g,H2=ext h g)→GK h (ext H2 [.cells (es ++ xs)]) (.bsl false (size H2) 0 (es ++ xs).length 1) (es ++ xs):=by
  rintro H2 ⟨g2,rfl⟩
  refine ⟨g2 ++ [.cells (es ++ xs)],by simp [ext],by rw [List.all_append,h1,hs];rfl,belows_append h2 hb,.inr ⟨_,by rw [size_ext];omega,rfl,by rw [getBox_ext_0];rfl⟩⟩
 rw [genV_appK]
 rcases h3 with ⟨rfl,rfl | rfl⟩ | ⟨b,hb1,rfl,hb2⟩
 ·refine ⟨_,_,?_,fin (ext h g) ⟨g,rfl⟩⟩
  simp only [elems_sl,Option.bnd_some,leftK_nils,if_neg hne,f1,f2,List.all_nil,lim2,List.nil_append]
  rw [if_pos ⟨trivial,by simp at hlim;omega,trivial⟩]
  simp
 ·refine ⟨_,_,?_,fin (ext h g) ⟨g,rfl⟩⟩
  simp only [elems_sl,Option.bnd_some,leftK_full,if_neg hne,f1,f2,List.flatMap_nil,List.all_nil,lim2,List.nil_append]
  rw [if_pos ⟨trivial,by simp at hlim ⊢;omega,trivial⟩]
  simp
 ·refine ⟨_,_,?_,fin (setBx (ext h g) b .dead) ⟨_,set_ext_ge hb1⟩⟩
  have ht:es.take (es.length * 1)=es:=by rw [Nat.mul_one,List.take_length]
  simp only [elems_sl,Option.bnd_some,leftK_bsl,hb2,if_neg hne,f1,f2,lim2,Nat.mul_one,Nat.le_refl,if_true,List.take_length,h1]
  rw [if_pos ⟨trivial,by omega,trivial⟩,List.length_append,size_setBx]
theorem GK.fin {h H:Hp} {v:PV} {es:List PV} (hk:GK h H v es) (hst:strips es=es) (hne:es≠[]):finV false false (size h) [v] H=some (.sl .no 1 es,h):=by
 obtain ⟨g,rfl,h1,h2,h3⟩:=hk
 rcases h3 with ⟨rfl,_⟩ | ⟨b,hb1,rfl,hb2⟩
 ·exact (hne rfl).elim
 ·rw [finV_code]
  simp only [frzs,frz_bsl,if_neg (show ¬ b < size h by omega),hb2,Option.bnd_some,List.drop_zero,elemsOf_one,Bool.false_eq_true,if_false,List.take_length]
  rw [if_pos ⟨Nat.le_refl _,h1⟩]
  simp only [Option.bnd_some,hst]
  rw [if_pos (by simp [belows,below,Own.below,h2]),trunc_ext]
  rfl
theorem GK.of_ext {h:Hp} {es:List PV} (h1:es.all scalar=true) (h2:belows (size h) es=true):GK h (ext h [.cells es]) (.bsl false (size h) 0 es.length 1) es :=
 ⟨_,rfl,h1,h2,.inr ⟨_,Nat.le_refl _,rfl,by rw [getBox_ext_0];rfl⟩⟩
theorem GK.nil {h:Hp} {v:PV} (hv:v=.nils∨v=.sl .full 1 []):GK h h v []:=⟨[],by simp [ext],rfl,rfl,.inl ⟨rfl,hv⟩⟩
end Go.Am
namespace Go.Am.YtlonabodghfjdaaR
set_option maxRecDepth 100000
set_option linter.unusedSimpArgs false
set_option linter.unusedVariables false
variable {h:Hp}
theorem and64 (n:Nat) (hn:n < 4294967296):binOp .and (.int .u64 (n:Int)) (.int .u64 4294967295)=some (.int .u64 (n:Int)):=by
 show some (PV.int .u64 (IntKind.u64.wrap ((BitVec.ofInt 64 (n:Int) &&& BitVec.ofInt 64 4294967295).toNat:Int)))=_
 have h1:(BitVec.ofInt 64 (n:Int)).toNat=n:=by simp;omega
 have h2:(BitVec.ofInt 64 4294967295).toNat=2 ^ 32 - 1:=by decide
 rw [BitVec.toNat_and,h1,h2,Nat.and_two_pow_sub_one_eq_mod,Nat.mod_eq_of_lt (by omega)]
 simp [IntKind.wrap,IntKind.signed,IntKind.bits]
 omega
theorem shr64 (n:Nat) (hn:n < 4294967296):binOp .shr (.int .u64 (n:Int)) (.int .u64 32)=some (.int .u64 0):=by
 show some (PV.int .u64 ((n:Int).fdiv (2 ^ 32)))=_
 rw [Int.fdiv_eq_ediv_of_nonneg _ (by decide),Int.ediv_eq_zero_of_lt (by omega) (by omega)]
theorem w64 (n:Nat) (hn:n < 4294967296):IntKind.u64.wrap (n:Int)=(n:Int):=by
 simp [IntKind.wrap,IntKind.signed,IntKind.bits]
 omega
theorem mul_spec (base:Nat) (n:Nat) (hn:n < 4294967296):CallA T base 77 [.int .u64 1,.int .u64 (n:Int)] h=some (.tup [.int .u64 0,.int .u64 (n:Int)],h):=by
 have a1:=and64 1 (by decide)
 have a2:=and64 n hn
 have b1:=shr64 1 (by decide)
 have b2:=shr64 n hn
 have b0:=shr64 0 (by decide)
 have a0:=and64 0 (by decide)
 simp only [show ((1:Nat):Int)=1 from rfl,show ((0:Nat):Int)=0 from rfl] at a1 b1 a0 b0
 have m1:binOp .mul (.int .u64 1) (.int .u64 (n:Int))=some (.int .u64 (n:Int)):=by
  show some (PV.int .u64 (IntKind.u64.wrap (1 * (n:Int))))=_
  rw [Int.one_mul,w64 n hn]
 have m0:binOp .mul (.int .u64 0) (.int .u64 (n:Int))=some (.int .u64 0):=by
  show some (PV.int .u64 (IntKind.u64.wrap (0 * (n:Int))))=_
  rw [Int.zero_mul];rfl
 have m2:binOp .mul (.int .u64 1) (.int .u64 0)=some (.int .u64 0):=rfl
 have m3:binOp .mul (.int .u64 0) (.int .u64 0)=some (.int .u64 0):=rfl
 have p0:binOp .add (.int .u64 0) (.int .u64 0)=some (.int .u64 0):=rfl
 rw [S77]
 rw [a1,Option.bnd_some,b1,Option.bnd_some,a2,Option.bnd_some,b2,Option.bnd_some,m1,Option.bnd_some,m0,Option.bnd_some,b2,Option.bnd_some,p0,Option.bnd_some,a0,Option.bnd_some,b0,Option.bnd_some,m2,Option.bnd_some,p0,Option.bnd_some,m3,Option.bnd_some,p0,Option.bnd_some,b0,Option.bnd_some,p0,Option.bnd_some,Option.bnd_some]
 simp only [trunc_self,↓evD,evU,evL,evM,Nat.reduceAdd,Nat.reduceSub,Nat.reduceMul,Nat.reduceLeDiff,Nat.reduceLT,Nat.reduceEqDiff,Nat.reduceBEq,reduceIte,reduceCtorEq,Int.reduceBEq,Int.reduceEq,Int.reduceLT,Int.reduceLE,Int.reduceGT,Int.reduceGE,Int.reduceAdd,Int.reduceSub,Int.reduceNeg,Int.reduceBNe,ite_true,ite_false,if_true,if_false,implies_true,forall_const]
theorem mul63_spec (base:Nat) (n:Nat) (hn:n < 4294967296):CallA T base 63 [.int .u64 1,.int .u64 (n:Int)] h=some (.tup [.int .u64 0,.int .u64 (n:Int)],h):=by
 have:=fun b=>mul_spec (h:=h) b n hn
 rw [S63]
 simp only [this,trunc_self,↓evD,evU,evL,evM,Nat.reduceAdd,Nat.reduceSub,Nat.reduceMul,Nat.reduceLeDiff,Nat.reduceLT,Nat.reduceEqDiff,Nat.reduceBEq,reduceIte,reduceCtorEq,Int.reduceBEq,Int.reduceEq,Int.reduceLT,Int.reduceLE,Int.reduceGT,Int.reduceGE,Int.reduceAdd,Int.reduceSub,Int.reduceNeg,Int.reduceBNe,ite_true,ite_false,if_true,if_false,implies_true,forall_const]
def rowV (a n:Nat):List PV:=List.replicate a (.int .u8 255) ++ List.replicate (n - a) .undef
theorem rowV_len {a n:Nat} (ha:a≤n):(rowV a n).length=n:=by simp [rowV];omega
theorem rowV_take {a n c:Nat} (hc:c≤a):(rowV a n).take c=List.replicate c (.int .u8 255):=by
 unfold rowV
 rw [List.take_append_of_le_length (by simpa using hc),List.take_replicate,Nat.min_eq_left hc]
theorem setRange_rep:∀ (k a n:Nat),a+k≤n→setRange (rowV a n) a (List.replicate k (.int .u8 255))=rowV (a+k) n
 | 0,a,n,_=>rfl
 | k+1,a,n,h=>by
  rw [List.replicate_succ,setRange]
  have e:(rowV a n).set a (.int .u8 255)=rowV (a+1) n:=by
   unfold rowV
   have h1:n - a=(n - (a+1))+1:=by omega
   rw [h1,List.replicate_succ,List.set_append_right _ _ (by simp),List.length_replicate,Nat.sub_self,List.set_cons_zero,List.replicate_succ']
   simp
  rw [e,setRange_rep k (a+1) n (by omega)]
  congr 1;omega
theorem copy_row {base b a n c:Nat} {f f':Bool} {H:Hp} (hb:getBox H b=some (rowV a n)) (hc:c≤a) (ha:a≤n) (hbase:base≤b) :
  copyV base (.bsl f b a (n - a) 1) (.bsl f' b 0 c 1) H=some (.int .i64 ((min c (n - a):Nat):Int),setBx H b (.cells (rowV (a+min c (n - a)) n))):=by
 have he:elems H (.bsl f' b 0 c 1)=some (List.replicate c (.int .u8 255)):=by
  rw [elems_bsl,hb,Option.bnd_some,List.drop_zero,rowV_take hc,if_pos ⟨by rw [rowV_len ha];omega,by simp [scalar]⟩]
 rw [copyV_bsl,he,Option.bnd_some,hb,Option.bnd_some,if_pos ⟨rfl,by rw [rowV_len ha];omega,by simp [scalar],fun q=>absurd q (by omega)⟩]
 rw [List.take_replicate,List.length_replicate,setRange_rep _ _ _ (by omega),setBox,Nat.min_comm]
theorem rep_loop (base n0:Nat) {b n mx:Nat} (hn:n≤1000000) (hmx:1≤mx) (hmx2:mx≤1000000) (hbase:base≤b) (hn0:n0≤b):∀ (m a:Nat) {H:Hp},n - a≤m→1≤a→a≤n→getBox H b=some (rowV a n) →
  P46_3 base n0 (.bsl true b 0 n 1) (.int .i64 (a:Int)) (.int .i64 (mx:Int)) (.int .i64 (n:Int)) H=finV false true n0 [.bsl true b 0 n 1] (setBx H b (.cells (rowV n n)))
 | m,a,H,hm,ha,han,hb=>by
  rw [P46_3_eq]
  by_cases hlt:a < n
  ·have d1:decide (a < n)=true:=by simpa using hlt
   have hmin:minmaxV false [.int .i64 (a:Int),.int .i64 (mx:Int)]=some (.int .i64 ((min a mx:Nat):Int)):=by
    show some (PV.int .i64 (if (mx:Int) < (a:Int) then (mx:Int) else (a:Int)))=_
    congr 2
    split <;> omega
   have s1:sliceV (some 1) (some (.int .i64 (a:Int))) none none (.bsl true b 0 n 1)=some (.bsl true b a (n - a) 1):=by
    rw [sliceV_bsl,bdW_none,Option.bnd_some,bdW_some,bdV_nat _ _ _ (by omega),Option.bnd_some,if_neg (by omega)]
    simp
   have s2:sliceV (some 1) none (some (.int .i64 ((min a mx:Nat):Int))) none (.bsl true b 0 n 1)=some (.bsl (true && min a mx == n) b 0 (min a mx) 1):=by
    rw [sliceV_bsl,bdW_some,bdV_nat _ _ _ (by omega),Option.bnd_some,bdW_none,Option.bnd_some,if_neg (by omega)]
    simp
   have hc:=copy_row (base:=base) (f:=true) (f':=(true && min a mx == n)) hb (c:=min a mx) (by omega) han hbase
   have hw:IntKind.i64.wrap ((a:Int)+((min (min a mx) (n - a):Nat):Int))=((a+min (min a mx) (n - a):Nat):Int):=wr_add _ _ (by omega)
   have hlt':b < size H:=lt_of_box (box_of_get hb)
   match m,hm with
   | m+1,hm =>
    have ih:=rep_loop base n0 hn hmx hmx2 hbase hn0 m (a+min (min a mx) (n - a)) (H:=setBx H b (.cells (rowV (a+min (min a mx) (n - a)) n))) (by omega) (by omega) (by omega) (by rw [getBox,box_set_eq hlt'];rfl)
    have hq:binOp .lss (.int .i64 (a:Int)) (.int .i64 (n:Int))=some (.bool true):=by
     show some (PV.bool (decide ((a:Int) < (n:Int))))=_
     rw [dec_lt,d1]
    have had:binOp .add (.int .i64 (a:Int)) (.int .i64 ((min (min a mx) (n - a):Nat):Int))=some (.int .i64 ((a+min (min a mx) (n - a):Nat):Int)):=by
     show some (PV.int .i64 (IntKind.i64.wrap _))=_
     rw [hw]
    rw [hq,Option.bnd_some,condB_true,hmin,Option.bnd_some,s1,Option.bnd_some,s2,Option.bnd_some,hc,bnd2_some,had,Option.bnd_some,ih,setBx_setBx]
   | 0,hm=>omega
  ·have hq:binOp .lss (.int .i64 (a:Int)) (.int .i64 (n:Int))=some (.bool false):=by
    show some (PV.bool (decide ((a:Int) < (n:Int))))=_
    rw [dec_lt,decide_eq_false hlt]
   have:a=n:=by omega
   subst this
   rw [hq,Option.bnd_some,condB_false,setBx_self (box_of_get hb)]
theorem belows_rep (k:Nat):∀ n,belows k (List.replicate n (PV.int .u8 255))=true
 | 0=>rfl
 | n+1=>by rw [List.replicate_succ];simp only [belows,belows_rep k n,Bool.and_true];rfl
theorem repeat_spec (base:Nat) {n:Nat} (h1:1≤n) (hn:n≤1000000):CallA T base 46 [.sl .full 1 [.int .u8 255],.int .i64 (n:Int)] h=some (.bsl true (size h) 0 n 1,ext h [.cells (List.replicate n (.int .u8 255))]):=by
 have e0:binOp .eql (.int .i64 (n:Int)) (.int .i64 0)=some (.bool false):=by
  show some (PV.bool ((n:Int) == 0))=_
  have:((n:Int) == 0)=false:=by rw [beq_eq_false_iff_ne];omega
  rw [this]
 have e1:binOp .lss (.int .i64 (n:Int)) (.int .i64 0)=some (.bool false):=by
  show some (PV.bool (decide ((n:Int) < 0)))=_
  rw [decide_eq_false (by omega)]
 have t1:toIntB (.int .i64 1) .u64=some (.int .u64 1):=rfl
 have t2:toIntB (.int .i64 (n:Int)) .u64=some (.int .u64 (n:Int)):=by rw [toIntB_int,w64 n (by omega)]
 have t3:toIntB (.int .u64 (n:Int)) .i64=some (.int .i64 (n:Int)):=by rw [toIntB_int,wrap_small (by omega) (by omega)]
 have g1:binOp .gtr (.int .u64 0) (.int .u64 0)=some (.bool false):=rfl
 have g2:binOp .gtr (.int .u64 (n:Int)) (.int .u64 9223372036854775807)=some (.bool false):=by
  show some (PV.bool (decide ((n:Int) > 9223372036854775807)))=_
  rw [decide_eq_false (by omega)]
 have hl:lenB false (.sl .full 1 [.int .u8 255])=some (.int .i64 1):=rfl
 have hm:=mul63_spec (h:=h) (size h) n (by omega)
 have hmk:∀ base,CallA T base 64 [.int .i64 (n:Int)] h=some (.bsl false (size h) 0 n 1,ext h [.cells (List.replicate n .undef)]):=fun base=>by
  rw [CallA_primN T_64,pMk,if_pos ⟨by omega,by omega⟩];rfl
 have hs:sliceV (some 1) none (some (.int .i64 (n:Int))) (some (.int .i64 (n:Int))) (.bsl false (size h) 0 n 1)=some (.bsl true (size h) 0 n 1):=by
  simp only [sliceV,if_true,bdW_some,bdW_none]
  rw [bdV_nat _ _ _ (Nat.le_refl n),Option.bnd_some,bdV_nat _ _ _ (Nat.le_refl n),Option.bnd_some,Option.bnd_some,if_neg (by omega)]
  simp
 have hb0:getBox (ext h [.cells (List.replicate n .undef)]) (size h)=some (rowV 0 n):=by rw [getBox_ext_0];simp [rowV,cellsOf]
 have hcp:copyV (size h) (.bsl true (size h) 0 n 1) (.sl .full 1 [.int .u8 255]) (ext h [.cells (List.replicate n .undef)])=some (.int .i64 1,ext h [.cells (rowV 1 n)]):=by
  rw [copyV_bsl,elems_sl,Option.bnd_some,hb0,Option.bnd_some,if_pos ⟨rfl,by rw [rowV_len (by omega)];omega,rfl,fun q=>absurd q (by omega)⟩]
  have e:[PV.int .u8 255].take n=List.replicate 1 (.int .u8 255):=by
   rw [List.take_of_length_le (by simpa using h1)];rfl
  rw [e,setRange_rep 1 0 n (by omega),setBox,set_ext_ge (Nat.le_refl _)]
  have:min ([PV.int .u8 255] : List PV).length n=1:=by simp;omega
  rw [this]
  simp
 have fin:∀ mx:Nat,1≤mx→mx≤1000000→P46_2 (size h) (size h) (.int .i64 (mx:Int)) (.int .i64 (n:Int)) (.sl .full 1 [.int .u8 255]) h=some (.bsl true (size h) 0 n 1,ext h [.cells (List.replicate n (.int .u8 255))]):=by
  intro mx hx1 hx2
  have hlp:=rep_loop (size h) (size h) (b:=size h) hn hx1 hx2 (Nat.le_refl _) (Nat.le_refl _) n 1 (H:=ext h [.cells (rowV 1 n)]) (by omega) (Nat.le_refl 1) h1 (by rw [getBox_ext_0];rfl)
  simp only [show ((1:Nat):Int)=1 from rfl] at hlp
  have hfull:rowV n n=List.replicate n (.int .u8 255):=by simp [rowV]
  have hset:setBx (ext h [.cells (rowV 1 n)]) (size h) (.cells (rowV n n))=ext h [.cells (List.replicate n (.int .u8 255))]:=by
   rw [set_ext_ge (Nat.le_refl _),hfull];simp
  rw [hset] at hlp
  have hbl:belows (size h) (List.replicate n (PV.int .u8 255))=true:=belows_rep _ n
  rw [P46_2_eq,hmk,bnd2_some,hs,Option.bnd_some,hcp,bnd2_some,hlp,finV_own,ownEnd_bsl,if_neg (by omega),getBox_ext_0]
  simp only [cellsOf,Option.bnd_some]
  rw [if_pos ⟨rfl,hbl⟩,Option.bnd_some,trunc_ext]
  rfl
 rw [S46,e0,Option.bnd_some,condB_false,e1,Option.bnd_some,condB_false,P46_0_eq,hl,Option.bnd_some,t1,Option.bnd_some,t2,Option.bnd_some,hm,bnd2_some]
 have q1:extractB (.tup [.int .u64 0,.int .u64 (n:Int)]) 0=some (.int .u64 0):=rfl
 have q2:extractB (.tup [.int .u64 0,.int .u64 (n:Int)]) 1=some (.int .u64 (n:Int)):=rfl
 have el:binOp .eql (.int .i64 1) (.int .i64 0)=some (.bool false):=rfl
 have quo:binOp .quo (.int .i64 8192) (.int .i64 1)=some (.int .i64 8192):=rfl
 have mul:binOp .mul (.int .i64 8192) (.int .i64 1)=some (.int .i64 8192):=rfl
 have eq2:binOp .eql (.int .i64 8192) (.int .i64 0)=some (.bool false):=rfl
 have f8:=fin 8192 (by omega) (by omega)
 have fn:=fin n h1 hn
 simp only [show ((8192:Nat):Int)=8192 from rfl] at f8
 have gt:binOp .gtr (.int .i64 (n:Int)) (.int .i64 8192)=some (.bool (decide (n > 8192))):=by
  show some (PV.bool (decide ((n:Int) > 8192)))=_
  congr 2
  rw [decide_eq_decide];omega
 rw [q1,Option.bnd_some,q2,Option.bnd_some,g1,Option.bnd_some]
 simp only [P46_1_eq,t3,hl,el,gt,quo,mul,eq2,f8,fn,g2,↓evD,evU,evL,evM,Nat.reduceAdd,Nat.reduceSub,Nat.reduceMul,Nat.reduceLeDiff,Nat.reduceLT,Nat.reduceEqDiff,Nat.reduceBEq,reduceIte,reduceCtorEq,Int.reduceBEq,Int.reduceEq,Int.reduceLT,Int.reduceLE,Int.reduceGT,Int.reduceGE,Int.reduceAdd,Int.reduceSub,Int.reduceNeg,Int.reduceBNe,ite_true,ite_false,if_true,if_false,implies_true,forall_const]
 split <;> rfl
end Go.Am.YtlonabodghfjdaaR
namespace Go.Proofs
open Go.Shelf Go.RowKit
def Try.keysA_ren:Go.Shelf.Ren:=⟨fun | 7=>44 | 10=>62 | n=>n,fun | 23=>64 | 26=>3 | 3=>33 | 28=>83 | 0=>0 | 27=>82 | 33=>103 | 4=>4 | n=>n,fun | n=>n⟩
theorem Try.keysA:Go.Proofs.SlLaysZI.n7 Try.prog Try.keysA_ren:={
 mixed:=by kernel_rfl
 f7:=⟨Try.f44.name,by decide,Try.func44.trans (congrArg some (by kernel_rfl))⟩
 f10:=⟨Try.f62.name,by decide,Try.func62.trans (congrArg some (by kernel_rfl))⟩
 t0:=Try.underlying0
 a0:=Try.isAgg0
 z0:=Try.sizeOf0
 v0:=Try.zeroValue0
 t4:=Try.underlying4
 a4:=Try.isAgg4
 z4:=Try.sizeOf4
 v4:=Try.zeroValue4
 t23:=Try.underlying64
 a23:=Try.isAgg64
 z23:=Try.sizeOf64
 v23:=Try.zeroValue64
 t26:=Try.underlying3
 a26:=Try.isAgg3
 z26:=Try.sizeOf3
 v26:=Try.zeroValue3
 t27:=Try.underlying82
 a27:=Try.isAgg82
 z27:=Try.sizeOf82
 v27:=Try.zeroValue82
 t28:=Try.underlying83
 a28:=Try.isAgg83
 z28:=Try.sizeOf83
 v28:=Try.zeroValue83
 t33:=Try.underlying103
 a33:=Try.isAgg103
 z33:=Try.sizeOf103
 v33:=Try.zeroValue103 }
def Try.sortedA_ren:Go.Shelf.Ren:=⟨fun | 6=>43 | 8=>60 | 9=>61 | 11=>73 | 13=>75 | 12=>74 | 23=>93 | 24=>94 | 14=>84 | 15=>85 | 16=>86 | 17=>87 | 18=>88 | 19=>89 | 20=>90 | 21=>91 | 22=>92 | 25=>96 | 26=>97 | 27=>98 | 28=>99 | 29=>100 | 30=>101 | 31=>102 | n=>n,fun | 26=>3 | 28=>83 | 24=>48 | 0=>0 | 3=>3 | 37=>104 | 48=>37 | 50=>118 | 4=>4 | 40=>126 | 39=>125 | 45=>130 | 5=>5 | 9=>9 | 51=>135 | 55=>139 | 57=>141 | 58=>142 | 33=>103 | n=>n,fun | n=>n⟩
theorem Try.sortedA:Go.Proofs.SlLaysZI.n6 Try.prog Try.sortedA_ren:={
 mixed:=by kernel_rfl
 f6:=⟨Try.f43.name,by decide,Try.func43.trans (congrArg some (by kernel_rfl))⟩
 f8:=⟨Try.f60.name,by decide,Try.func60.trans (congrArg some (by kernel_rfl))⟩
 f11:=⟨Try.f73.name,by decide,Try.func73.trans (congrArg some (by kernel_rfl))⟩
 t0:=Try.underlying0
 a0:=Try.isAgg0
 z0:=Try.sizeOf0
 v0:=Try.zeroValue0
 t24:=Try.underlying48
 a24:=Try.isAgg48
 z24:=Try.sizeOf48
 v24:=Try.zeroValue48
 t26:=Try.underlying3
 a26:=Try.isAgg3
 z26:=Try.sizeOf3
 v26:=Try.zeroValue3
 t28:=Try.underlying83
 a28:=Try.isAgg83
 z28:=Try.sizeOf83
 v28:=Try.zeroValue83
 i26:=by kernel_rfl }
def Try.sortA_ren:Go.Shelf.Ren:=⟨fun | 5=>61 | 8=>75 | 7=>74 | 19=>93 | 20=>94 | 10=>84 | 11=>85 | 12=>86 | 13=>87 | 14=>88 | 15=>89 | 16=>90 | 17=>91 | 18=>92 | 30=>96 | 31=>97 | 32=>98 | 33=>99 | 34=>100 | 35=>101 | 40=>102 | n=>n,fun | 23=>48 | 25=>3 | 3=>3 | 32=>104 | 22=>48 | 0=>0 | 44=>37 | 46=>118 | 4=>4 | 36=>126 | 35=>125 | 41=>130 | 5=>5 | 9=>9 | 53=>135 | 57=>139 | 63=>141 | 64=>142 | n=>n,fun | n=>n⟩
theorem Try.sortA:Go.Proofs.SlLaysM.n5 Try.prog Try.sortA_ren:={
 mixed:=by kernel_rfl
 f5:=⟨Try.f61.name,by decide,Try.func61.trans (congrArg some (by kernel_rfl))⟩
 f7:=⟨Try.f74.name,by decide,Try.func74.trans (congrArg some (by kernel_rfl))⟩
 f8:=Try.func75.trans (congrArg some (by kernel_rfl))
 f10:=⟨Try.f84.name,by decide,Try.func84.trans (congrArg some (by kernel_rfl))⟩
 f11:=⟨Try.f85.name,by decide,Try.func85.trans (congrArg some (by kernel_rfl))⟩
 f12:=⟨Try.f86.name,by decide,Try.func86.trans (congrArg some (by kernel_rfl))⟩
 f13:=⟨Try.f87.name,by decide,Try.func87.trans (congrArg some (by kernel_rfl))⟩
 f14:=⟨Try.f88.name,by decide,Try.func88.trans (congrArg some (by kernel_rfl))⟩
 f15:=⟨Try.f89.name,by decide,Try.func89.trans (congrArg some (by kernel_rfl))⟩
 f16:=⟨Try.f90.name,by decide,Try.func90.trans (congrArg some (by kernel_rfl))⟩
 f17:=⟨Try.f91.name,by decide,Try.func91.trans (congrArg some (by kernel_rfl))⟩
 f18:=⟨Try.f92.name,by decide,Try.func92.trans (congrArg some (by kernel_rfl))⟩
 f19:=Try.func93.trans (congrArg some (by kernel_rfl))
 f20:=Try.func94.trans (congrArg some (by kernel_rfl))
 f30:=⟨Try.f96.name,by decide,Try.func96.trans (congrArg some (by kernel_rfl))⟩
 f31:=Try.func97.trans (congrArg some (by kernel_rfl))
 f32:=Try.func98.trans (congrArg some (by kernel_rfl))
 f33:=⟨Try.f99.name,by decide,Try.func99.trans (congrArg some (by kernel_rfl))⟩
 f34:=⟨Try.f100.name,by decide,Try.func100.trans (congrArg some (by kernel_rfl))⟩
 f35:=⟨Try.f101.name,by decide,Try.func101.trans (congrArg some (by kernel_rfl))⟩
 f40:=⟨Try.f102.name,by decide,Try.func102.trans (congrArg some (by kernel_rfl))⟩
 t0:=Try.underlying0
 a0:=Try.isAgg0
 z0:=Try.sizeOf0
 v0:=Try.zeroValue0
 t3:=Try.underlying3
 a3:=Try.isAgg3
 z3:=Try.sizeOf3
 v3:=Try.zeroValue3
 t4:=Try.underlying4
 a4:=Try.isAgg4
 z4:=Try.sizeOf4
 v4:=Try.zeroValue4
 t5:=Try.underlying5
 a5:=Try.isAgg5
 z5:=Try.sizeOf5
 v5:=Try.zeroValue5
 t9:=Try.underlying9
 a9:=Try.isAgg9
 z9:=Try.sizeOf9
 v9:=Try.zeroValue9
 t22:=Try.underlying48
 a22:=Try.isAgg48
 z22:=Try.sizeOf48
 v22:=Try.zeroValue48
 t23:=Try.underlying48
 a23:=Try.isAgg48
 z23:=Try.sizeOf48
 v23:=Try.zeroValue48
 t25:=Try.underlying3
 a25:=Try.isAgg3
 z25:=Try.sizeOf3
 v25:=Try.zeroValue3
 t32:=Try.underlying104
 a32:=Try.isAgg104
 z32:=Try.sizeOf104
 v32:=Try.zeroValue104
 t35:=Try.underlying125
 a35:=Try.isAgg125
 z35:=Try.sizeOf125
 v35:=Try.zeroValue125
 t36:=Try.underlying126
 a36:=Try.isAgg126
 z36:=Try.sizeOf126
 v36:=Try.zeroValue126
 t41:=Try.underlying130
 a41:=Try.isAgg130
 z41:=Try.sizeOf130
 v41:=Try.zeroValue130
 t44:=Try.underlying37
 a44:=Try.isAgg37
 z44:=Try.sizeOf37
 v44:=Try.zeroValue37
 t46:=Try.underlying118
 a46:=Try.isAgg118
 z46:=Try.sizeOf118
 v46:=Try.zeroValue118
 t53:=Try.underlying135
 a53:=Try.isAgg135
 z53:=Try.sizeOf135
 v53:=Try.zeroValue135
 t57:=Try.underlying139
 a57:=Try.isAgg139
 z57:=Try.sizeOf139
 v57:=Try.zeroValue139
 t63:=Try.underlying141
 a63:=Try.isAgg141
 z63:=Try.sizeOf141
 v63:=Try.zeroValue141
 t64:=Try.underlying142
 a64:=Try.isAgg142
 z64:=Try.sizeOf142
 v64:=Try.zeroValue142 }
def Try.cloneM_ren:Go.Shelf.Ren:=⟨fun | 5=>39 | 7=>57 | n=>n,fun | 23=>64 | 25=>3 | 3=>33 | 4=>4 | 20=>20 | n=>n,fun | n=>n⟩
theorem Try.cloneM:Go.Proofs.SlLaysW.n5 Try.prog Try.cloneM_ren:={
 mixed:=by kernel_rfl
 f5:=⟨Try.f39.name,by decide,Try.func39.trans (congrArg some (by kernel_rfl))⟩
 f7:=Try.func57.trans (congrArg some (by kernel_rfl))
 t4:=Try.underlying4
 a4:=Try.isAgg4
 z4:=Try.sizeOf4
 v4:=Try.zeroValue4
 t20:=Try.underlying20
 a20:=Try.isAgg20
 z20:=Try.sizeOf20
 v20:=Try.zeroValue20
 t23:=Try.underlying64
 a23:=Try.isAgg64
 z23:=Try.sizeOf64
 v23:=Try.zeroValue64 }
open Go.RowKit Go.Maps Go.Sort in
theorem Try.sortsA (m:Nat):AnyZI.SortsIn Try.prog Try.sortedA_ren Fence.wide m :=
 ⟨fun blk off cap ss W hH hblk hsz=>callsIn_wide.2 (AnyM.slices_Sort_int Try.sortA blk off cap ss W hH hblk hsz),
  fun p cap W=>callsIn_wide.2 (AnyM.slices_Sort_int_none Try.sortA p cap W)⟩
theorem Try.maps_Clone (b:Nat) (es:Array MapEntry) (clock:Nat) (w:World) (hb:w.heap[b]?=some (.map es clock)) :
  Calls Try.prog 39 #[.map (some b)] w fun e w'=>e=.returned (.map (some w.heap.size))∧w'=w.alloc (.map es clock):=AnyW.maps_Clone Try.cloneM b es clock w hb
end Go.Proofs
namespace Go.Proofs.YtlonabodghfjdaaR
set_option linter.unusedVariables false
open Go Go.Proofs Go.Am
def Facts (N0:Nat) (w:World):Prop:=True
theorem p_mk:PrimNOk Try.prog Facts 64 pMk :=
 primN_mk (ps:=Try.f64.params) (t:=33) Try.underlying33 fun n w v w' h=>by
  rw [run_callFunc_extern Try.func64 (by kernel_rfl) (by kernel_rfl) (by kernel_rfl) (e:=Extern.BytealgMakeNoZero.makeNoZero Try.f64.params #[33]) (by kernel_rfl),h]
  rfl
end Go.Proofs.YtlonabodghfjdaaR
namespace Go.Am.YtlonabodghfjdaaR
open Go.Proofs
set_option maxRecDepth 100000
def gl:Globs:=[]
theorem C_46:(cFn Try.prog gl { own:=true } Try.f46).map (optF A46)=some F46:=by kernel_rfl
theorem C_63:(cFn Try.prog gl {} Try.f63).map (optF A63)=some F63:=by kernel_rfl
theorem C_77:(cFn Try.prog gl {} Try.f77).map (optF A77)=some F77:=by kernel_rfl
theorem tableOk:TableOk2 Try.prog gl Go.Proofs.YtlonabodghfjdaaR.Facts T:=by
 intro f it h
 unfold T at h
 split at h
 ·cases h;exact ⟨A46,{ own:=true },Try.f46,Try.func46,C_46⟩
 ·cases h;exact ⟨A63,{},Try.f63,Try.func63,C_63⟩
 ·cases h;exact Go.Proofs.YtlonabodghfjdaaR.p_mk
 ·cases h;exact ⟨A77,{},Try.f77,Try.func77,C_77⟩
 ·cases h
end Go.Am.YtlonabodghfjdaaR
namespace Go.Am
set_option linter.unusedVariables false
theorem sound_in {N0:Nat} {P:Program} {w0:World} {gl:Globs} {I:Nat→World→Prop} {T:Table} (hT:TableOk2 P gl I T) (hgl:GlobOk gl N0 w0) (hI:I N0 w0) {base f:Nat} {vs:List PV} {h h':Hp} {r:PV}
  (hs:CallA T base f vs h=some (r,h')) (hb:base≤size h) (g:G) (us:Array Value) (w:World) (k:OkH N0 w0 g h w) (hl:us.size=vs.length) (hrel:∀ (j:Nat) (x:PV),vs[j]?=some x→RV N0 g w x (us.getD j Go.undef)) :
  Ansr P f us w fun en w'=>∃ u g',en=.returned u∧Ext N0 g w g' w'∧OkH N0 w0 g' h' w'∧RV N0 g' w' r u:=by
 obtain ⟨T0,h1,h2⟩:=tableOk_of hT
 obtain ⟨n,hn⟩:=CallA_iff.1 hs
 obtain ⟨m,hm⟩:=CallA_iff.1 ((le_sound h2 n).2 base f vs h _ hn)
 exact (sim_all hgl hI h1 m).2.2 base f vs h r h' hm hb g us w k hl hrel
end Go.Am
namespace Go.Am.YtlonabodghfjdaaR
open Go Go.Proofs
open Go.RowKit (Below)
set_option linter.unusedSimpArgs false
set_option linter.unusedVariables false
theorem c_repeat {n:Nat} (h1:1≤n) (hn:n≤1000000) (w:World) {b:Nat} {T:TypeId} {fr:Nat × Nat} (hb:w.heap[b]?=some (.cells #[.int .u8 255] T fr)) :
  Calls Try.prog 46 #[.slice (some ⟨b,0,none⟩) 1 1,.int .i64 (n:Int)] w fun e w'=>∃ c arr T lo hi,e=.returned (.slice (some ⟨c,0,none⟩) n n)∧w.heap.size≤c∧w'.heap[c]?=some (.cells arr T (lo,hi))∧(lo≠hi→arr.size≤lo)∧n≤arr.size ∧
   (∀ k,k < n→arr.getD k Go.undef=.int .u8 255)∧Below w.heap.size w w':=by
 have hbl:b < w.heap.size:=(Array.getElem?_eq_some_iff.1 hb).1
 have k0:OkH w.heap.size w { ι:=id,n:=0,hw:=fun _=>none } [] w :=
  ⟨rfl,rfl,Below.refl _ _,fun b c x y hx=>by simp [box?] at hx,fun b cs hb=>by simp [box?] at hb,fun c m hm=>by simp at hm,fun t v hv=>by simp [look] at hv⟩
 have hs:=repeat_spec (h:=[]) 0 h1 hn
 have hin:=sound_in (gl:=gl) (I:=Go.Proofs.YtlonabodghfjdaaR.Facts) tableOk (fun n cs h=>by simp [gl,glob] at h) (N0:=w.heap.size) (w0:=w) (by exact trivial) hs (Nat.zero_le _) _ #[.slice (some ⟨b,0,none⟩) 1 1,.int .i64 (n:Int)] w k0 rfl (fun j x hx=>by
  match j,hx with
  | 0,hx =>
   cases hx
   refine RV.sl .full 1 [.int .u8 255] b 0 1 (fun _ _=>.int .u8 255) (by simp) (fun _=>rfl) (fun i e he=>?_) (fun i j hi hj=>?_) (fun i j e x he hx=>?_) (fun _=>.inl hbl) none (fun _=>rfl) (by simp)
   ·match i,he with
    | 0,he=>cases he;rfl
    | i+1,he=>simp at he
   ·have:i=0:=by simpa using hi
    have:j=0:=by omega
    subst i;subst j
    simp [World.cell?,hb]
   ·match i,he with
    | 0,he =>
     cases he
     match j,hx with
     | 0,hx=>cases hx;exact .int _ _
     | j+1,hx=>simp [PV.cells] at hx
    | i+1,he=>simp at he
  | 1,hx=>cases hx;exact .int _ _
  | j+2,hx=>simp at hx)
 have hen:(callFunc 46 #[.slice (some ⟨b,0,none⟩) 1 1,.int .i64 (n:Int)]).run Try.prog w=_:=enters_code tableOk ⟨_,T_46⟩ _ _
 refine (hin.calls hen).mono fun e w' hw=>?_
 obtain ⟨u,g',rfl,hx,hok,hr⟩:=hw
 have hk:=hok.cells (b:=0) (cs:=List.replicate n (.int .u8 255)) rfl
 obtain ⟨k1,k2,arr,T',lo,hi,k3,k4,⟨k5,k6⟩,k7,k8⟩:=hk
 cases hr with
 | bsl f b off len sz cap q1 q2 q3 q4 =>
  have hc:=q3 rfl
  subst hc
  refine ⟨_,arr,T',lo,hi,rfl,k1,k3,k4,by simpa using k5,fun k hk=>?_,hok.below⟩
  have:=k8 k (.int .u8 255) (by simp [hk])
  generalize hv:arr.getD k Go.undef=V at this
  cases this
  rfl
end Go.Am.YtlonabodghfjdaaR
namespace Go.Proofs.Ytlonabodghfjdaa
open Go Go.Proofs Go.Am
open Go.RowKit (Below)
open Go.Maps
set_option linter.unusedVariables false
set_option maxRecDepth 100000
set_option linter.unusedSimpArgs false
def Facts (N0:Nat) (w:World):Prop:=True
theorem p_clone:PrimNOk Try.prog Facts 39 pClone :=
 primN_clone (Am.enters_of Try.func39 (by kernel_rfl) rfl) fun b es clock w hb=>Try.maps_Clone b es clock w hb
theorem p_sorted:PrimOk Try.prog Facts 43 (pSorted 62):=by
 refine primOk_sorted (tk:=3) Try.underlying3 (Am.enters_of Try.func43 (by kernel_rfl) rfl) fun Bm b nn D0 w hBm hm hown hmax hbytes=>?_
 have hseq:SeqGives Fence.wide 2 Try.prog 62 #[.pointer (some ⟨Bm,0,none⟩)] encZ (fun ss=>ss.Perm (intKeys D0)) (Maps.size D0) w :=
  AnyZI.keys_gives (ρ:=Try.keysA_ren) { Try.keysA with } Fence.wide _ trivial rfl (by omega) Bm b nn D0 _ hBm hm hown
 have cS:=AnyZI.sorted_in Try.sortedA Fence.wide 5 trivial trivial trivial trivial rfl (by omega) (Try.sortsA _) (enters_of Try.func61 (by kernel_rfl) rfl) 62 #[.pointer (some ⟨Bm,0,none⟩)] trivial (enters_of Try.func62 (by kernel_rfl) rfl) _ _ hmax hbytes _ hseq
 exact (callsIn_wide (n:=5)).1 cS
theorem c_size (a:Option Addr) (n cap:Nat) (hn:n≤17179869184) (w:World):Calls Try.prog 66 #[.slice a n cap] w fun e w'=>e=.returned (.int .i64 ((7+n:Nat):Int))∧w'=w:=by
 go_enter Try.func66,Try.ntmps66
 go_wp2
 go_ret
 refine ⟨?_,rfl⟩
 have:(7+(n:Int)+9223372036854775808) % 18446744073709551616 - 9223372036854775808=((7+n:Nat):Int):=by omega
 first | (simp [this];done) | (congr 2) | skip
def Lk (w' w:World):Prop:=w'.heap=w.heap∧w'.os=w.os∧w'.output=w.output∧w'.tape=w.tape
theorem next_lk {P:Program} (w:World) (ty:TypeId) (bm since c0:Nat) (seen:Array Nat) (es:Array MapEntry) (clock:Nat) (hb:w.heap[bm]?=some (.map es clock)) (hold:∀ x∈es.toList,x.born < since) (hsc:since≤c0) :
  ((leftOf es seen).size=0∧(Instr.next (.pointer (some ⟨w.heap.size,0,none⟩)) false ty).run P (w.alloc (.mapIter (some bm) since seen c0))=.ok (.tuple #[.bool false]) (w.alloc (.mapIter (some bm) since seen c0))) ∨
  ∃ e∈(leftOf es seen).toList,∃ w1:World,Lk w1 w∧(Instr.next (.pointer (some ⟨w.heap.size,0,none⟩)) false ty).run P (w.alloc (.mapIter (some bm) since seen c0))=.ok (.tuple #[.bool true,e.key,e.val]) (w1.alloc (.mapIter (some bm) since (seen.push e.born) clock)):=by
 have hlt:bm < w.heap.size:=(Array.getElem?_eq_some_iff.1 hb).1
 have hb':(w.alloc (.mapIter (some bm) since seen c0)).heap[bm]?=some (.map es clock):=by rw [heap_alloc_old w _ hlt,hb]
 rcases run_next_at (P:=P) (w.alloc (.mapIter (some bm) since seen c0)) ty w.heap.size bm since c0 seen es clock (heap_alloc_new w _) hb' hold hsc with h | ⟨e,he,w1,hw,hrun⟩
 ·exact .inl h
 ·have key:∀ v:World,Go.ChangeMaps.setBlock (v.alloc (.mapIter (some bm) since seen c0)) v.heap.size (.mapIter (some bm) since (seen.push e.born) clock)=v.alloc (.mapIter (some bm) since (seen.push e.born) clock):=by
   intro v
   have hh:(v.heap.push (.mapIter (some bm) since seen c0)).setIfInBounds v.heap.size (.mapIter (some bm) since (seen.push e.born) clock)=v.heap.push (.mapIter (some bm) since (seen.push e.born) clock):=by
    apply Array.toList_inj.1
    simp
   show ({ v.alloc (.mapIter (some bm) since seen c0) with heap:=(v.heap.push (.mapIter (some bm) since seen c0)).setIfInBounds v.heap.size (.mapIter (some bm) since (seen.push e.born) clock) }:World)=_
   rw [hh];rfl
  rcases hw with rfl | rfl
  ·exact .inr ⟨e,he,w,⟨rfl,rfl,rfl,rfl⟩,hrun.trans (by rw [key w])⟩
  ·exact .inr ⟨e,he,w.drew,⟨rfl,rfl,rfl,rfl⟩,hrun.trans (congrArg _ (key w.drew))⟩
def szV:Value→Int
 | .slice _ n _=>(7+n:Nat)
 | _=>0
def szE (e:MapEntry):MapEntry:={ e with val:=.int .i64 (szV e.val) }
theorem seenSum_bound:∀ (l:List MapEntry) (seen:Array Nat) (B:Int),(∀ x∈l,0≤valOf x.val∧valOf x.val≤B)→0≤seenSum l seen∧seenSum l seen≤l.length * B
 | [],seen,B,h=>by simp [seenSum]
 | x :: l,seen,B,h=>by
  obtain ⟨h1,h2⟩:=seenSum_bound l seen B (fun y hy=>h y (List.mem_cons_of_mem _ hy))
  obtain ⟨h3,h4⟩:=h x List.mem_cons_self
  have h5:((l.length+1:Nat):Int) * B=l.length * B+B:=by rw [Int.natCast_add,Int.add_mul];simp
  simp only [seenSum,List.length_cons,h5]
  split <;> omega
theorem need_walk (bm:Nat) (es:Array MapEntry) (clock:Nat) (w:World) (hb:w.heap[bm]?=some (.map es clock)) (hst:MapKept.Stamped es clock) (hv:∀ x∈es.toList,∃ a n cap,x.val=.slice a n cap∧n≤17179869184) (hs:es.size≤1048576) :
  Calls Try.prog 50 #[.map (some bm)] w fun e w'=>e=.returned (.int .i64 (8+((es.toList.map szE).map fun e=>valOf e.val).sum))∧∃ (w1:World) (seen:Array Nat),Lk w1 w∧w'=w1.alloc (.mapIter (some bm) clock seen clock):=by
 have hrg:=run_range_map (P:=Try.prog) w 64 3 33 bm es clock Try.underlying64 hb
 have hnd:((es.toList.map szE).map (·.born)).Nodup:=by
  have:(es.toList.map szE).map (·.born)=es.toList.map (·.born):=by rw [List.map_map];rfl
  rw [this];exact hst.2.1
 go_enter Try.func50,Try.ntmps50
 go_wp2
 go_loopw [3] (fun s w'=>∃ (w1:World) (seen:Array Nat),Lk w1 w∧w'=w1.alloc (.mapIter (some bm) clock seen clock)∧s=.int .i64 (8+seenSum (es.toList.map szE) seen)) (fun _ w'=>(leftOf es (w'.iterSeen w.heap.size)).size)
 case atStart=>exact ⟨w,#[],⟨rfl,rfl,rfl,rfl⟩,rfl,by rw [seenSum_none];rfl⟩
 case round =>
  obtain ⟨w1,seen,hal,rfl,rfl⟩:=hrel
  have hsz:w1.heap.size=w.heap.size:=by rw [hal.1]
  have hb1:w1.heap[bm]?=some (.map es clock):=by rw [hal.1];exact hb
  have law:=next_lk (P:=Try.prog) w1 0 bm clock clock seen es clock hb1 hst.1 (Nat.le_refl _)
  rw [hsz] at law
  rcases law with ⟨h0,hrun⟩ | ⟨e,he,w2,hal2,hrun⟩
  ·have hnx:∀ ty,(Instr.next (.pointer (some ⟨w.heap.size,0,none⟩)) false ty).run Try.prog (w1.alloc (.mapIter (some bm) clock seen clock))=_:=fun _=>hrun
   go_wp2
   go_ret
   have hall:seenSum (es.toList.map szE) seen=((es.toList.map szE).map fun e=>valOf e.val).sum :=
    seenSum_full seen _ (fun x hx=>by obtain ⟨y,hy,rfl⟩:=List.mem_map.1 hx;exact all_seen es seen h0 y hy)
   rw [hall]
   exact ⟨rfl,w1,seen,hal,rfl⟩
  ·obtain ⟨a,n,cap,hval,hn⟩:=hv e (mem_left he).1
   rw [hval] at hrun
   have hnx:∀ ty,(Instr.next (.pointer (some ⟨w.heap.size,0,none⟩)) false ty).run Try.prog (w1.alloc (.mapIter (some bm) clock seen clock))=_:=fun _=>hrun
   have hsz2:w2.heap.size=w.heap.size:=by rw [hal2.1,hal.1]
   have hb2:w2.heap[bm]?=some (.map es clock):=by rw [hal2.1];exact hb1
   have hen:=run_entry_map (P:=Try.prog) w2 bm clock seen es clock e hb2 (mem_left he).1 hst.2.1
   rw [hsz2,hval] at hen
   go_wp2_with (go_at_call 66;refine (c_size a n cap hn _).mono ?_;rintro e' w' ⟨rfl,rfl⟩)
   go_roundw
   case rel =>
    refine ⟨w2,seen.push e.born,⟨hal2.1.trans hal.1,hal2.2.1.trans hal.2.1,hal2.2.2.1.trans hal.2.2.1,hal2.2.2.2.trans hal.2.2.2⟩,rfl,?_⟩
    have hp:=seenSum_push seen (szE e) (mem_left he).2 (es.toList.map szE) hnd (List.mem_map.2 ⟨e,(mem_left he).1,rfl⟩)
    have hb9:(szE e).born=e.born:=rfl
    rw [hb9] at hp
    rw [hp]
    have hve:valOf (szE e).val=7+(n:Int):=by simp [szE,valOf,hval,szV]
    have hbd:=seenSum_bound (es.toList.map szE) seen 17179869191 (by
     intro x hx
     obtain ⟨y,hy,rfl⟩:=List.mem_map.1 hx
     obtain ⟨a',n',cap',hv',hn'⟩:=hv y hy
     simp only [szE,valOf,hv',szV];omega)
    rw [List.length_map,Array.length_toList] at hbd
    rw [hve]
    have hfin:∀ x y:Int,x=y→Value.int .i64 x=Value.int .i64 y:=fun x y hxy=>by rw [hxy]
    apply hfin
    simp only [RowKit.wrap64]
    have:(es.size:Int)≤1048576:=by omega
    have h3:(es.size:Int) * 17179869191≤1048576 * 17179869191:=Int.mul_le_mul_of_nonneg_right this (by omega)
    omega
   case measure =>
    rw [←hsz2,World.iterSeen_alloc,hsz2,←hsz,World.iterSeen_alloc]
    exact left_shrinks es seen e he
theorem lensOf_get:∀ {es:List (PV × PV)} {ls:List Nat},lensOf es=some ls→ls.length=es.length∧∀ (i:Nat) (x:PV × PV),es[i]?=some x→∃ n,ls[i]?=some n∧∀ (N0:Nat) (g:G) (w:World) (V:Value),RV N0 g w x.2 V→∃ a cap,V=.slice a n cap
 | [],ls,h=>by simp only [lensOf,Option.some.injEq] at h;subst h;exact ⟨rfl,fun i x hx=>by simp at hx⟩
 |(k,v) :: r,ls,h=>by
  have key:∀ n,(lensOf r).map (n :: ·)=some ls→(∀ (N0:Nat) (g:G) (w:World) (V:Value),RV N0 g w v V→∃ a cap,V=.slice a n cap)→ls.length=((k,v) :: r).length∧∀ (i:Nat) (x:PV × PV),((k,v) :: r)[i]?=some x→∃ n,ls[i]?=some n∧∀ (N0:Nat) (g:G) (w:World) (V:Value),RV N0 g w x.2 V→∃ a cap,V=.slice a n cap:=by
   intro n hn hv
   rw [Option.map_eq_some_iff] at hn
   obtain ⟨l,hl,rfl⟩:=hn
   obtain ⟨h1,h2⟩:=lensOf_get hl
   refine ⟨by simp [h1],fun i x hx=>?_⟩
   cases i with
   | zero=>simp at hx;subst hx;exact ⟨n,rfl,hv⟩
   | succ i=>simpa using h2 i x (by simpa using hx)
  cases v <;> simp only [lensOf] at h <;> (try cases h)
  ·exact key _ h fun N0 g w V hV=>by cases hV;exact ⟨_,_,rfl⟩
  ·exact key _ h fun N0 g w V hV=>by cases hV;exact ⟨_,_,rfl⟩
  ·exact key _ h fun N0 g w V hV=>by cases hV;exact ⟨_,_,rfl⟩
theorem p_need:PrimOk Try.prog Facts 50 pNeed:=by
 intro vs h r hr N0 w0 g us w hI k hlen hrel
 refine ⟨(Am.enters_of Try.func50 (by kernel_rfl) rfl) us w,?_⟩
 unfold pNeed at hr
 split at hr
 ·rename_i b
  simp only [Option.bnd_eq_some_iff] at hr
  obtain ⟨es,hes,hr⟩:=hr
  split at hr
  ·rename_i hle
   simp only [Option.bnd_eq_some_iff] at hr
   obtain ⟨ls,hls,hr⟩:=hr
   split at hr
   ·rename_i hall
    simp only [Option.some.injEq] at hr
    subst hr
    obtain ⟨u,rfl⟩ : ∃ u,us=#[u]:=by
     have:us.size=1:=by simpa using hlen
     exact arr_one this
    have h1:=hrel 0 _ rfl
    simp only [Array.getD_eq_getD_getElem?,List.getElem?_toArray,List.getElem?_cons_zero,Option.getD_some] at h1
    rcases entries_rv (a:=⟨#[],[]⟩) k h1 (es:=es) (by simpa [entriesOf] using hes) with ⟨hq,_⟩ | ⟨b',ea,cl,hbb,rfl,hg,hw,hrel2,hst⟩
    ·cases hq
    cases hbb
    obtain ⟨hl1,hl2⟩:=lensOf_get hls
    have hel:ea.size=es.length:=by have:=hrel2.1;simpa using this
    have hval:∀ (i:Nat) (y:MapEntry),ea[i]?=some y→∃ a n cap,y.val=.slice a n cap∧ls[i]?=some n∧n≤17179869184:=by
     intro i y hy
     have hi:i < es.length:=by rw [←hel];exact (Array.getElem?_eq_some_iff.1 hy).1
     obtain ⟨y',hy',_,_,_,q4⟩:=hrel2.2 i es[i] (List.getElem?_eq_getElem hi)
     rw [Array.getElem?_toList,hy] at hy'
     cases hy'
     obtain ⟨n,n1,n2⟩:=hl2 i es[i] (List.getElem?_eq_getElem hi)
     obtain ⟨a,cap,hV⟩:=n2 _ _ _ _ q4
     have:=List.all_eq_true.1 hall n (List.mem_of_getElem? n1)
     exact ⟨a,n,cap,hV,n1,by simpa using this⟩
    refine (need_walk (g.ι b) ea cl w hw hst (fun y hy=>?_) (by omega)).mono fun en w' hen=>?_
    ·obtain ⟨i,hi⟩:=List.getElem?_of_mem hy
     rw [Array.getElem?_toList] at hi
     obtain ⟨a,n,cap,q1,_,q2⟩:=hval i y hi
     exact ⟨a,n,cap,q1,q2⟩
    ·obtain ⟨rfl,w1,seen,hal,rfl⟩:=hen
     have hsz:w1.heap.size=w.heap.size:=by rw [hal.1]
     have hbl:Below w.heap.size w (w1.alloc (.mapIter (some (g.ι b)) cl seen cl)):=by
      have h2:Below w.heap.size w w1:=⟨hal.2.1,hal.2.2.2,hal.2.2.1,by omega,fun c hc=>by rw [hal.1]⟩
      exact h2.alloc (by omega) _
     obtain ⟨hx,hok⟩:=ok_below k hbl
     refine ⟨_,g,rfl,hx,hok,?_⟩
     have hsum:(ea.toList.map szE).map (fun e=>valOf e.val)=ls.map fun n=>((7+n:Nat):Int):=by
      apply List.ext_getElem?
      intro i
      simp only [List.getElem?_map,Array.getElem?_toList]
      cases hy:ea[i]? with
      | none =>
       have:ea.size≤i:=by simpa using hy
       rw [List.getElem?_eq_none (by omega)];rfl
      | some y =>
       obtain ⟨a,n,cap,q1,q2,_⟩:=hval i y hy
       simp [szE,valOf,q1,szV,q2]
     have hcast:∀ l:List Nat,((l.map fun n=>((7+n:Nat):Int)).sum)=(((l.map fun n=>7+n).sum:Nat):Int):=by
      intro l
      induction l with
      | nil=>rfl
      | cons x l ih=>simp only [List.map_cons,List.sum_cons,ih];omega
     rw [hsum,hcast,show ((8:Int)+(((ls.map fun n=>7+n).sum:Nat):Int))=((8+(ls.map fun n=>7+n).sum:Nat):Int) by simp]
     exact .int _ _
   ·cases hr
  ·cases hr
 ·cases hr
end Go.Proofs.Ytlonabodghfjdaa
namespace Go.Proofs.Ytlonabodghfjdaa
open Go Go.Proofs Go.Am
open Go.RowKit (Below)
set_option linter.unusedVariables false
set_option maxRecDepth 100000
set_option linter.unusedSimpArgs false
def RepF (w w':World) (c n:Nat):Prop:=w.heap.size≤c∧(∃ arr T lo hi,w'.heap[c]?=some (.cells arr T (lo,hi))∧(lo≠hi→arr.size≤lo)∧n≤arr.size∧∀ k,k < n→arr.getD k Go.undef=.int .u8 255)∧Below w.heap.size w w'
theorem c_rep {n:Nat} (h1:1≤n) (hn:n≤1000000) (w:World) {b:Nat} (hb:w.heap[b]?=some (.cells #[.int .u8 255] 5)) :
  Calls Try.prog 46 #[.slice (some ⟨b,0,none⟩) 1 1,.int .i64 (n:Int)] w fun e w'=>∃ c,e=.returned (.slice (some ⟨c,0,none⟩) n n)∧RepF w w' c n :=
 (Go.Am.YtlonabodghfjdaaR.c_repeat h1 hn w hb).mono fun e w' ⟨c,arr,T,lo,hi,h1,h2,h3,h4,h5,h6,h7⟩=>⟨c,h1,h2,⟨arr,T,lo,hi,h3,h4,h5,h6⟩,h7⟩
theorem run_mk48 (k:Nat) (h1:1≤k) (hk:k≤64) (w:World):(Instr.makeSlice 48 (.int .i64 (k:Int)) (.int .i64 (k:Int))).run Try.prog w=.ok (.slice (some ⟨w.heap.size,0,none⟩) k k) (w.alloc (.cells ((Array.range k).map fun _=>.int .i64 0) 3)):=by
 have ht:Try.prog.underlying 48=some (.slice 3):=by kernel_rfl
 obtain ⟨i,hi,hz,hs,hb⟩ : ∃ i,Try.prog.info? 3=some i∧i.zero=some (.int .i64 0)∧i.size=1∧i.bytes=8:=by
  have h:(Try.prog.info? 3).map (fun i=>(i.zero,i.size,i.bytes))=some (some (.int .i64 0),1,8):=by kernel_rfl
  rw [Option.map_eq_some_iff] at h
  obtain ⟨i,h1,h2⟩:=h
  simp only [Prod.mk.injEq] at h2
  exact ⟨i,h1,h2.1,h2.2.1,h2.2.2⟩
 have w2:IntKind.i64.wrap (k:Int)=k:=by rw [IntKind.wrap_i64];omega
 have hbig':¬ (281474976710656 < (8:Int) * (k:Int)):=by omega
 have c0:¬ (k:Int) < 0:=by omega
 have k0:¬ k=0:=by omega
 simp [Instr.makeSlice,run_underlying ht,typeInfo,hi,asInt,asIntOf,w2,hb,hbig',c0,Go.sizeOf,k0,newRow,zeroValue,hz,hs,Value.cells,Nat.mod_one]
theorem at1 (w:World) (o:Obj):(w.alloc o).drew.heap[w.heap.size]?=some o:=heap_alloc_new w o
theorem at2 (w:World) (o p:Obj):((w.alloc o).alloc p).drew.heap[w.heap.size]?=some o:=by
 show ((w.heap.push o).push p)[w.heap.size]?=some o
 rw [Array.getElem?_push_lt (by simp)]
 simp
theorem at3 (w:World) (o p:Obj):((w.alloc o).alloc p).drew.heap[w.heap.size+1]?=some p:=by
 show ((w.heap.push o).push p)[w.heap.size+1]?=some p
 have:w.heap.size+1=(w.heap.push o).size:=by simp
 rw [this,Array.getElem?_push_size]
theorem c_rep2 {n:Nat} (h1:1≤n) (hn:n≤1000000) (w:World) {b:Nat} {m:Int} (hm:m=(n:Int)) (hb:w.heap[b]?=some (.cells #[.int .u8 255] 5)) :
  Calls Try.prog 46 #[.slice (some ⟨b,0,none⟩) 1 1,.int .i64 m] w fun e w'=>∃ c,e=.returned (.slice (some ⟨c,0,none⟩) n n)∧RepF w w' c n:=by
 rw [hm];exact c_rep h1 hn w hb
def zrow (k:Nat):Obj:=.cells ((Array.range k).map fun _=>.int .i64 0) 3
def sbox (c1 n s c2 k:Nat):Obj:=.cells #[.slice (some ⟨c1,0,none⟩) n n,.int .i64 s,.slice (some ⟨c2,0,none⟩) k k,.int .i64 0,.int .i64 (-1),.bool false] 80
def NewF (w w':World) (k s n c3:Nat):Prop:=∃ c1 c2,w.heap.size≤c1∧w.heap.size≤c2∧w.heap.size≤c3∧c1≠c2∧c1≠c3∧c2≠c3 ∧
 (∃ arr T lo hi,w'.heap[c1]?=some (.cells arr T (lo,hi))∧(lo≠hi→arr.size≤lo)∧n≤arr.size∧∀ k,k < n→arr.getD k Go.undef=.int .u8 255) ∧
 w'.heap[c2]?=some (zrow k)∧w'.heap[c3]?=some (sbox c1 n s c2 k)∧Below w.heap.size w w'
theorem new1 {w w1:World} {k s n c1:Nat} {A:Obj} (h:RepF (w.alloc A).drew w1 c1 n):NewF w ((w1.alloc (zrow k)).alloc (sbox c1 n s w1.heap.size k)) k s n (w1.heap.size+1):=by
 obtain ⟨h1,⟨arr,T,lo,hi,h2,h3⟩,h4⟩:=h
 have hlt:c1 < w1.heap.size:=(Array.getElem?_eq_some_iff.1 h2).1
 have hsz:(w.alloc A).drew.heap.size=w.heap.size+1:=by show (w.heap.push A).size=_;simp
 have hs:=h4.size
 rw [hsz] at h1 hs h4
 have hb:Below w.heap.size w w1:=(((Below.refl w.heap.size w).alloc (Nat.le_refl _) A).drew).trans (h4.mono (by omega))
 refine ⟨c1,w1.heap.size,by omega,by omega,by omega,by omega,by omega,by omega,⟨arr,T,lo,hi,?_,h3⟩,at2 w1 _ _,at3 w1 _ _,(hb.alloc (by omega) _).alloc (by show _≤(w1.heap.push _).size;simp;omega) _⟩
 show ((w1.heap.push _).push _)[c1]?=_
 rw [Array.getElem?_push_lt (by simp;omega),Array.getElem_push_lt hlt]
 rw [←h2,Array.getElem?_eq_getElem hlt]
theorem new2 {w w1:World} {k s n c1 c2:Nat} {A B:Obj} (h:RepF ((w.alloc A).alloc B).drew w1 c1 n) (hc:c2=w.heap.size∧A=zrow k∨c2=w.heap.size+1∧B=zrow k):NewF w (w1.alloc (sbox c1 n s c2 k)) k s n w1.heap.size:=by
 obtain ⟨h1,⟨arr,T,lo,hi,h2,h3⟩,h4⟩:=h
 have hlt:c1 < w1.heap.size:=(Array.getElem?_eq_some_iff.1 h2).1
 have hsz:((w.alloc A).alloc B).drew.heap.size=w.heap.size+2:=by show ((w.heap.push A).push B).size=_;simp
 have hs:=h4.size
 have hz:w1.heap[c2]?=some (zrow k):=by
  rcases hc with ⟨rfl,rfl⟩ | ⟨rfl,rfl⟩
  ·rw [h4.block _ (by rw [hsz];omega)];exact at2 w _ _
  ·rw [h4.block _ (by rw [hsz];omega)];exact at3 w _ _
 have hc2:w.heap.size≤c2∧c2 < w.heap.size+2:=by rcases hc with ⟨rfl,_⟩ | ⟨rfl,_⟩ <;> omega
 rw [hsz] at h1 hs h4
 have hb:Below w.heap.size w w1:=((((Below.refl w.heap.size w).alloc (Nat.le_refl _) A).alloc (by show _≤(w.heap.push _).size;simp) B).drew).trans (h4.mono (by omega))
 have old:∀ c,c < w1.heap.size→(w1.alloc (sbox c1 n s c2 k)).heap[c]?=w1.heap[c]?:=fun c hc=>by
  show (w1.heap.push _)[c]?=_
  rw [Array.getElem?_push_lt hc,Array.getElem?_eq_getElem hc]
 exact ⟨c1,c2,by omega,hc2.1,by omega,by omega,by omega,by omega,⟨arr,T,lo,hi,by rw [old _ hlt];exact h2,h3⟩,by rw [old _ (by omega)];exact hz,heap_alloc_new w1 _,hb.alloc (by omega) _⟩
set_option maxHeartbeats 600000 in
theorem new_walk (k s n:Nat) (hk1:1≤k) (hk2:k≤64) (hs1:16≤s) (hs2:s≤4096) (hn1:1≤n) (hn2:n≤1000000) (hn:(k:Int) * (s:Int)=(n:Int)) (a z:Int) (ha:min (max a 1) 64=(k:Int)) (hz:min (max z 16) 4096=(s:Int)) (w:World) :
  Calls Try.prog 29 #[.int .i64 a,.int .i64 z] w fun e w'=>∃ c3,e=.returned (.pointer (some ⟨c3,0,none⟩))∧NewF w w' k s n c3:=by
 go_enter Try.func29,Try.ntmps29
 go_wp2
 have hmk:=run_mk48 k hk1 hk2
 go_region_with (go_at_call 46;refine Calls.mono (c_rep2 hn1 hn2 _ (by rw [IntKind.wrap_i64];omega) (by first | exact at1 _ _ | exact at2 _ _ _ | exact at3 _ _ _)) ?_;rintro e w1 ⟨c1,rfl,b1⟩)
 all_goals go_wp2
 all_goals go_ret
 ·exact ⟨_,rfl,new1 b1⟩
 ·exact ⟨_,rfl,new2 b1 (.inr ⟨rfl,rfl⟩)⟩
 ·exact ⟨_,rfl,new2 b1 (.inl ⟨rfl,rfl⟩)⟩
theorem clamp1 (a:Int):min (max a 1) 64=((clampI 1 64 a).toNat:Int)∧1≤(clampI 1 64 a).toNat∧(clampI 1 64 a).toNat≤64:=by
 unfold clampI;split <;> split at * <;> omega
theorem clamp2 (a:Int):min (max a 16) 4096=((clampI 16 4096 a).toNat:Int)∧16≤(clampI 16 4096 a).toNat∧(clampI 16 4096 a).toNat≤4096:=by
 unfold clampI;split <;> split at * <;> omega
theorem blks_add {N0:Nat} {g g':G} {w w':World} {h:Hp} (hn:g.n=size h) (hx:Ext N0 g w g' w') (ht:g'.tk=g.tk) {c:Nat} (hι:g'.ι (size h)=c) {m:Nat} {S:List Nat} (h0:∀ b x,box? h b=some x→blk g b x < m∨blk g b x∈S) {cs:List PV} :
  ∀ b x,box? (ext h [.cells cs]) b=some x→blk g' b x < m∨blk g' b x∈c :: S:=by
 intro b y hy
 have hlt:=lt_of_box hy
 rw [size_ext] at hlt
 by_cases h1:b=size h
 ·subst h1
  rw [box_ext_at rfl] at hy
  cases hy
  exact .inr (by show g'.ι (size h)∈_;rw [hι];exact List.mem_cons_self)
 ·rw [box_ext_lt (by simp at hlt;omega)] at hy
  have hb:b < size h:=lt_of_box hy
  have hblk:blk g' b y=blk g b y:=by
   have:=hx.ι b (by omega)
   cases y <;> simp only [blk,this,ht]
  rw [hblk]
  rcases h0 b y hy with h2 | h2
  ·exact .inl h2
  ·exact .inr (List.mem_cons_of_mem _ h2)
theorem p_new:PrimNOk Try.prog Facts 29 pNew:=by
 intro vs h r hr N0 w0 g us w hI k hlen hrel
 unfold pNew at hr
 split at hr
 ·rename_i a z
  simp only [Option.some.injEq] at hr
  subst hr
  obtain ⟨ha,ka1,ka2⟩:=clamp1 a
  obtain ⟨hz,kz1,kz2⟩:=clamp2 z
  generalize (clampI 1 64 a).toNat=K at *
  generalize (clampI 16 4096 z).toNat=S at *
  have hks:1≤K * S∧K * S≤1000000:=by
   have h3:K * S≤64 * 4096:=Nat.mul_le_mul ka2 kz2
   have h4:1 * 16≤K * S:=Nat.mul_le_mul ka1 kz1
   omega
  have hus:us=#[.int .i64 a,.int .i64 z]:=by
   have h0:=hrel 0 _ rfl
   have h1:=hrel 1 _ rfl
   have hl:us.size=2:=by simpa using hlen
   obtain ⟨x,y,rfl⟩ : ∃ x y,us=#[x,y]:=by
    clear h0 h1 hrel
    match us,hl with
    | ⟨[x,y]⟩,_=>exact ⟨x,y,rfl⟩
   simp at h0 h1
   cases h0;cases h1;rfl
  subst hus
  refine .inl ⟨(Am.enters_of Try.func29 (by kernel_rfl) rfl) _ _,?_⟩
  refine (new_walk K S (K * S) ka1 ka2 kz1 kz2 hks.1 hks.2 (by simp) a z ha hz w).mono fun e w' hw=>?_
  obtain ⟨c3,rfl,c1,c2,g1,g2,g3,n1,n2,n3,⟨arr,T,lo,hi,b1,b2,b3,b4⟩,z1,s1,hb⟩:=hw
  obtain ⟨hx,hok⟩:=ok_below k hb
  have hN:=ok_size k
  have hold:∀ b x,box? h b=some x→blk g b x < w.heap.size:=fun b x hbx=>(blk_lt (a:=⟨#[],[]⟩) k hbx).2
  have hnone:∀ c,w.heap.size≤c→g.hw c=none:=fun c hc=>by
   cases hq:g.hw c with
   | none=>rfl
   | some m=>have:=(k.arr c m hq).2;omega
  have hrep:∀ (m:Nat) (v:PV) (j:Nat) (x:PV),(List.replicate m v)[j]?=some x→j < m∧x=v:=fun m v j x hx=>by
   rw [List.getElem?_replicate] at hx
   split at hx
   ·rename_i hj;exact ⟨hj,(Option.some.inj hx).symm⟩
   ·cases hx
  have nb:∀ (m:Nat) (k:IntKind) (c:Int) (T':Nat) (Q:Prop),(List.replicate m (PV.int k c))[0]?=some (.bnil T')→Q:=fun m k c T' Q hT=>by have:=(hrep _ _ _ _ hT).2;cases this
  have ints:∀ (g':G) (w':World) (m:Nat) (k:IntKind) (c:Int) (arr:Array Value),(∀ j,j < m→arr.getD j Go.undef=.int k c)→∀ (j:Nat) (x:PV),(List.replicate m (PV.int k c))[j]?=some x→RV N0 g' w' x (arr.getD j Go.undef):=fun g' w' m k c arr ha j x hx=>by
   obtain ⟨hj,rfl⟩:=hrep _ _ _ _ hx
   rw [ha j hj];exact .int _ _
  have B0:∀ b x,box? h b=some x→blk g b x < w.heap.size∨blk g b x∈([] : List Nat):=fun b x hbx=>.inl (hold b x hbx)
  have far:∀ {S:List Nat} {c:Nat} {g:G} {h:Hp},(∀ b x,box? h b=some x→blk g b x < w.heap.size∨blk g b x∈S)→w.heap.size≤c→c ∉ S→∀ b x,box? h b=some x→x≠.dead→blk g b x≠c:=fun hB hc hS b x hbx _ hq=>by
   rcases hB b x hbx with h1 | h1
   ·omega
   ·exact hS (hq ▸ h1)
  obtain ⟨ga,xa,ka,na,ia,pa,wa,ta⟩:=ok_addbox (a:=⟨#[],[]⟩) hok (c:=c1) (cs:=List.replicate (K * S) (.int .u8 255)) (cpv:=K * S) (far B0 g1 (by simp)) (fun g' hx' hι hhw hcp =>
   ⟨by rw [hι];omega,by rw [hι,hhw];exact hnone c1 g1,arr,T,lo,hi,by rw [hι];exact b1,b2,⟨by simpa using b3,by rw [hcp];exact b3⟩,fun T' hT=>nb _ _ _ _ _ hT,ints _ _ _ _ _ _ b4⟩)
  have B1:=blks_add (cs:=List.replicate (K * S) (.int .u8 255)) hok.n xa ta ia B0
  obtain ⟨gb,xb,kb,nb,ib,pb,wb,tb⟩:=ok_addbox (a:=⟨#[],[]⟩) ka (c:=c2) (cs:=List.replicate K (.int .i64 0)) (cpv:=K) (far B1 g2 (by simp;omega)) (fun g' hx' hι hhw hcp =>
   ⟨by rw [hι];omega,by rw [hι,hhw,wa];exact hnone c2 g2,_,_,_,_,by rw [hι];exact z1,by simp,⟨by simp,by rw [hcp];simp⟩,fun T' hT=>nb _ _ _ _ _ hT,ints _ _ _ _ _ _ fun j hj=>by rw [Array.getD_eq_getD_getElem?,Array.getElem?_map,Array.getElem?_range,if_pos hj];rfl⟩)
  have B2:=blks_add (cs:=List.replicate K (.int .i64 0)) ka.n xb tb ib B1
  have hs1:size (ext h [.cells (List.replicate (K * S) (.int .u8 255))])=size h+1:=by rw [size_ext];rfl
  rw [hs1] at ib pb nb
  obtain ⟨gc,xc,kc,nc,ic,pc,wc,tc⟩:=ok_addbox (a:=⟨#[],[]⟩) kb (c:=c3) (cs:=flashC (size h+1) (size h) (K * S) S K) (cpv:=6) (far B2 g3 (by simp;omega)) (fun g' hx' hι hhw hcp=>by
   have e1:g'.ι (size h)=c1:=by rw [hx'.ι _ (by omega),xb.ι _ (by omega),ia]
   have e2:g'.ι (size h+1)=c2:=by rw [hx'.ι _ (by omega),ib]
   have e3:g'.cp (size h)=K * S:=by rw [hx'.cp _ (by omega),xb.cp _ (by omega),pa]
   have e4:g'.cp (size h+1)=K:=by rw [hx'.cp _ (by omega),pb]
   have hlt:size h+2≤g'.n:=by have:=hx'.n;omega
   have v1:RV N0 g' w' (.bsl true (size h) 0 (K * S) 1) (.slice (some ⟨c1,0,none⟩) (K * S) (K * S)):=by
    rw [←e1];exact RV.bsl _ _ _ _ _ _ (by omega) (Nat.le_refl _) (fun _=>rfl) (by rw [e3];omega)
   have v2:RV N0 g' w' (.bsl true (size h+1) 0 K 1) (.slice (some ⟨c2,0,none⟩) K K):=by
    rw [←e2];exact RV.bsl _ _ _ _ _ _ (by omega) (Nat.le_refl _) (fun _=>rfl) (by rw [e4];omega)
   refine ⟨by rw [hι];omega,by rw [hι,hhw,wb,wa];exact hnone c3 g3,_,_,_,_,by rw [hι];exact s1,by simp,⟨by simp [flashC],by rw [hcp];simp⟩,fun T' hT=>by simp [flashC] at hT,fun j x hx=>?_⟩
   match j,hx with
   | 0,hx=>cases hx;exact v1
   | 1,hx=>cases hx;exact .int _ _
   | 2,hx=>cases hx;exact v2
   | 3,hx=>cases hx;exact .int _ _
   | 4,hx=>cases hx;exact .int _ _
   | 5,hx=>cases hx;exact .bool _
   | j+6,hx=>simp [flashC] at hx)
  have hs2:size (ext (ext h [.cells (List.replicate (K * S) (.int .u8 255))]) [.cells (List.replicate K (.int .i64 0))])=size h+2:=by rw [size_ext,hs1];rfl
  rw [hs2] at ic nc
  refine ⟨_,gc,rfl,((hx.trans xa).trans xb).trans xc,?_,?_⟩
  ·rw [ext_ext,ext_ext] at kc;exact kc
  ·have:=RV.ptr (N0:=N0) (g:=gc) (w:=w') (size h+2) 0 (by omega)
   rw [ic] at this
   exact this
 ·cases hr
end Go.Proofs.Ytlonabodghfjdaa
namespace Go.Am.Ytlonabodghfjdaa
open Go.Proofs
set_option maxRecDepth 100000
theorem C_3:(cFn Try.prog gl {} Try.f3).map (optF A3)=some F3:=by kernel_rfl
theorem C_4:(cFn Try.prog gl {} Try.f4).map (optF A4)=some F4:=by kernel_rfl
theorem C_5:(cFn Try.prog gl {} Try.f5).map (optF A5)=some F5:=by kernel_rfl
theorem C_6:(cFn Try.prog gl {} Try.f6).map (optF A6)=some F6:=by kernel_rfl
theorem C_7:(cFn Try.prog gl { boxes:=[(5,13),(5,14)] } Try.f7).map (optF A7)=some F7:=by kernel_rfl
theorem C_8:(cFn Try.prog gl {} Try.f8).map (optF A8)=some F8:=by kernel_rfl
theorem C_9:(cFn Try.prog gl { keep:=true } Try.f9).map (optF A9)=some F9:=by kernel_rfl
theorem C_10:(cFn Try.prog gl { keep:=true } Try.f10).map (optF A10)=some F10:=by kernel_rfl
theorem C_11:(cFn Try.prog gl {} Try.f11).map (optF A11)=some F11:=by kernel_rfl
theorem C_12:(cFn Try.prog gl {} Try.f12).map (optF A12)=some F12:=by kernel_rfl
theorem C_13:(cFn Try.prog gl { own:=true } Try.f13).map (optF A13)=some F13:=by kernel_rfl
theorem C_14:(cFn Try.prog gl { keep:=true,quiet:=[(8,3),(9,3)] } Try.f14).map (optF A14)=some F14:=by kernel_rfl
theorem C_15:(cFn Try.prog gl {} Try.f15).map (optF A15)=some F15:=by kernel_rfl
theorem C_16:(cFn Try.prog gl {} Try.f16).map (optF A16)=some F16:=by kernel_rfl
theorem C_17:(cFn Try.prog gl {} Try.f17).map (optF A17)=some F17:=by kernel_rfl
theorem C_18:(cFn Try.prog gl { quiet:=[(2,1),(5,2)] } Try.f18).map (optF A18)=some F18:=by kernel_rfl
theorem C_19:(cFn Try.prog gl {} Try.f19).map (optF A19)=some F19:=by kernel_rfl
theorem C_20:(cFn Try.prog gl {} Try.f20).map (optF A20)=some F20:=by kernel_rfl
theorem C_21:(cFn Try.prog gl {} Try.f21).map (optF A21)=some F21:=by kernel_rfl
theorem C_22:(cFn Try.prog gl {} Try.f22).map (optF A22)=some F22:=by kernel_rfl
theorem C_23:(cFn Try.prog gl { keep:=true } Try.f23).map (optF A23)=some F23:=by kernel_rfl
theorem C_24:(cFn Try.prog gl {} Try.f24).map (optF A24)=some F24:=by kernel_rfl
theorem C_25:(cFn Try.prog gl {} Try.f25).map (optF A25)=some F25:=by kernel_rfl
theorem C_26:(cFn Try.prog gl {} Try.f26).map (optF A26)=some F26:=by kernel_rfl
theorem C_27:(cFn Try.prog gl {} Try.f27).map (optF A27)=some F27:=by kernel_rfl
theorem C_28:(cFn Try.prog gl {} Try.f28).map (optF A28)=some F28:=by kernel_rfl
theorem C_30:(cFn Try.prog gl { keep:=true } Try.f30).map (optF A30)=some F30:=by kernel_rfl
theorem C_31:(cFn Try.prog gl {} Try.f31).map (optF A31)=some F31:=by kernel_rfl
theorem C_32:(cFn Try.prog gl {} Try.f32).map (optF A32)=some F32:=by kernel_rfl
theorem C_33:(cFn Try.prog gl {} Try.f33).map (optF A33)=some F33:=by kernel_rfl
theorem C_34:(cFn Try.prog gl { keep:=true } Try.f34).map (optF A34)=some F34:=by kernel_rfl
theorem C_35:(cFn Try.prog gl { keep:=true } Try.f35).map (optF A35)=some F35:=by kernel_rfl
theorem C_36:(cFn Try.prog gl { boxes:=[(3,2)],own:=true } Try.f36).map (optF A36)=some F36:=by kernel_rfl
theorem C_37:(cFn Try.prog gl {} Try.f37).map (optF A37)=some F37:=by kernel_rfl
theorem C_38:(cFn Try.prog gl {} Try.f38).map (optF A38)=some F38:=by kernel_rfl
theorem C_40:(cFn Try.prog gl { keep:=true } Try.f40).map (optF A40)=some F40:=by kernel_rfl
theorem C_41:(cFn Try.prog gl {} Try.f41).map (optF A41)=some F41:=by kernel_rfl
theorem C_42:(cFn Try.prog gl {} Try.f42).map (optF A42)=some F42:=by kernel_rfl
theorem C_44:(cFn Try.prog gl { keep:=true } Try.f44).map (optF A44)=some F44:=by kernel_rfl
theorem C_45:(cFn Try.prog gl {} Try.f45).map (optF A45)=some F45:=by kernel_rfl
theorem C_47:(cFn Try.prog gl {} Try.f47).map (optF A47)=some F47:=by kernel_rfl
theorem C_48:(cFn Try.prog gl {} Try.f48).map (optF A48)=some F48:=by kernel_rfl
theorem C_49:(cFn Try.prog gl {} Try.f49).map (optF A49)=some F49:=by kernel_rfl
theorem C_51:(cFn Try.prog gl {} Try.f51).map (optF A51)=some F51:=by kernel_rfl
theorem C_52:(cFn Try.prog gl {} Try.f52).map (optF A52)=some F52:=by kernel_rfl
theorem C_53:(cFn Try.prog gl {} Try.f53).map (optF A53)=some F53:=by kernel_rfl
theorem C_54:(cFn Try.prog gl { grows:=[(5,7)] } Try.f54).map (optF A54)=some F54:=by kernel_rfl
theorem C_55:(cFn Try.prog gl {} Try.f55).map (optF A55)=some F55:=by kernel_rfl
theorem C_56:(cFn Try.prog gl {} Try.f56).map (optF A56)=some F56:=by kernel_rfl
theorem C_58:(cFn Try.prog gl {} Try.f58).map (optF A58)=some F58:=by kernel_rfl
theorem C_59:(cFn Try.prog gl {} Try.f59).map (optF A59)=some F59:=by kernel_rfl
theorem C_65:(cFn Try.prog gl {} Try.f65).map (optF A65)=some F65:=by kernel_rfl
theorem C_66:(cFn Try.prog gl {} Try.f66).map (optF A66)=some F66:=by kernel_rfl
theorem C_67:(cFn Try.prog gl {} Try.f67).map (optF A67)=some F67:=by kernel_rfl
theorem C_68:(cFn Try.prog gl {} Try.f68).map (optF A68)=some F68:=by kernel_rfl
theorem C_69:(cFn Try.prog gl {} Try.f69).map (optF A69)=some F69:=by kernel_rfl
theorem C_70:(cFn Try.prog gl {} Try.f70).map (optF A70)=some F70:=by kernel_rfl
theorem C_71:(cFn Try.prog gl {} Try.f71).map (optF A71)=some F71:=by kernel_rfl
theorem C_72:(cFn Try.prog gl {} Try.f72).map (optF A72)=some F72:=by kernel_rfl
theorem C_78:(cFn Try.prog gl {} Try.f78).map (optF A78)=some F78:=by kernel_rfl
theorem C_79:(cFn Try.prog gl {} Try.f79).map (optF A79)=some F79:=by kernel_rfl
theorem C_80:(cFn Try.prog gl {} Try.f80).map (optF A80)=some F80:=by kernel_rfl
theorem C_81:(cFn Try.prog gl {} Try.f81).map (optF A81)=some F81:=by kernel_rfl
theorem C_82:(cFn Try.prog gl {} Try.f82).map (optF A82)=some F82:=by kernel_rfl
theorem C_83:(cFn Try.prog gl {} Try.f83).map (optF A83)=some F83:=by kernel_rfl
theorem C_95:(cFn Try.prog gl {} Try.f95).map (optF A95)=some F95:=by kernel_rfl
theorem tableOk:TableOk2 Try.prog gl Go.Proofs.Ytlonabodghfjdaa.Facts T:=by
 intro f it h
 unfold T at h
 split at h
 ·cases h;exact ⟨A3,{},Try.f3,Try.func3,C_3⟩
 ·cases h;exact ⟨A4,{},Try.f4,Try.func4,C_4⟩
 ·cases h;exact ⟨A5,{},Try.f5,Try.func5,C_5⟩
 ·cases h;exact ⟨A6,{},Try.f6,Try.func6,C_6⟩
 ·cases h;exact ⟨A7,{ boxes:=[(5,13),(5,14)] },Try.f7,Try.func7,C_7⟩
 ·cases h;exact ⟨A8,{},Try.f8,Try.func8,C_8⟩
 ·cases h;exact ⟨A9,{ keep:=true },Try.f9,Try.func9,C_9⟩
 ·cases h;exact ⟨A10,{ keep:=true },Try.f10,Try.func10,C_10⟩
 ·cases h;exact ⟨A11,{},Try.f11,Try.func11,C_11⟩
 ·cases h;exact ⟨A12,{},Try.f12,Try.func12,C_12⟩
 ·cases h;exact ⟨A13,{ own:=true },Try.f13,Try.func13,C_13⟩
 ·cases h;exact ⟨A14,{ keep:=true,quiet:=[(8,3),(9,3)] },Try.f14,Try.func14,C_14⟩
 ·cases h;exact ⟨A15,{},Try.f15,Try.func15,C_15⟩
 ·cases h;exact ⟨A16,{},Try.f16,Try.func16,C_16⟩
 ·cases h;exact ⟨A17,{},Try.f17,Try.func17,C_17⟩
 ·cases h;exact ⟨A18,{ quiet:=[(2,1),(5,2)] },Try.f18,Try.func18,C_18⟩
 ·cases h;exact ⟨A19,{},Try.f19,Try.func19,C_19⟩
 ·cases h;exact ⟨A20,{},Try.f20,Try.func20,C_20⟩
 ·cases h;exact ⟨A21,{},Try.f21,Try.func21,C_21⟩
 ·cases h;exact ⟨A22,{},Try.f22,Try.func22,C_22⟩
 ·cases h;exact ⟨A23,{ keep:=true },Try.f23,Try.func23,C_23⟩
 ·cases h;exact ⟨A24,{},Try.f24,Try.func24,C_24⟩
 ·cases h;exact ⟨A25,{},Try.f25,Try.func25,C_25⟩
 ·cases h;exact ⟨A26,{},Try.f26,Try.func26,C_26⟩
 ·cases h;exact ⟨A27,{},Try.f27,Try.func27,C_27⟩
 ·cases h;exact ⟨A28,{},Try.f28,Try.func28,C_28⟩
 ·cases h;exact Go.Proofs.Ytlonabodghfjdaa.p_new
 ·cases h;exact ⟨A30,{ keep:=true },Try.f30,Try.func30,C_30⟩
 ·cases h;exact ⟨A31,{},Try.f31,Try.func31,C_31⟩
 ·cases h;exact ⟨A32,{},Try.f32,Try.func32,C_32⟩
 ·cases h;exact ⟨A33,{},Try.f33,Try.func33,C_33⟩
 ·cases h;exact ⟨A34,{ keep:=true },Try.f34,Try.func34,C_34⟩
 ·cases h;exact ⟨A35,{ keep:=true },Try.f35,Try.func35,C_35⟩
 ·cases h;exact ⟨A36,{ boxes:=[(3,2)],own:=true },Try.f36,Try.func36,C_36⟩
 ·cases h;exact ⟨A37,{},Try.f37,Try.func37,C_37⟩
 ·cases h;exact ⟨A38,{},Try.f38,Try.func38,C_38⟩
 ·cases h;exact Go.Proofs.Ytlonabodghfjdaa.p_clone
 ·cases h;exact ⟨A40,{ keep:=true },Try.f40,Try.func40,C_40⟩
 ·cases h;exact ⟨A41,{},Try.f41,Try.func41,C_41⟩
 ·cases h;exact ⟨A42,{},Try.f42,Try.func42,C_42⟩
 ·cases h;exact Go.Proofs.Ytlonabodghfjdaa.p_sorted
 ·cases h;exact ⟨A44,{ keep:=true },Try.f44,Try.func44,C_44⟩
 ·cases h;exact ⟨A45,{},Try.f45,Try.func45,C_45⟩
 ·cases h;exact ⟨A47,{},Try.f47,Try.func47,C_47⟩
 ·cases h;exact ⟨A48,{},Try.f48,Try.func48,C_48⟩
 ·cases h;exact ⟨A49,{},Try.f49,Try.func49,C_49⟩
 ·cases h;exact Go.Proofs.Ytlonabodghfjdaa.p_need
 ·cases h;exact ⟨A51,{},Try.f51,Try.func51,C_51⟩
 ·cases h;exact ⟨A52,{},Try.f52,Try.func52,C_52⟩
 ·cases h;exact ⟨A53,{},Try.f53,Try.func53,C_53⟩
 ·cases h;exact ⟨A54,{ grows:=[(5,7)] },Try.f54,Try.func54,C_54⟩
 ·cases h;exact ⟨A55,{},Try.f55,Try.func55,C_55⟩
 ·cases h;exact ⟨A56,{},Try.f56,Try.func56,C_56⟩
 ·cases h;exact ⟨A58,{},Try.f58,Try.func58,C_58⟩
 ·cases h;exact ⟨A59,{},Try.f59,Try.func59,C_59⟩
 ·cases h;exact ⟨A65,{},Try.f65,Try.func65,C_65⟩
 ·cases h;exact ⟨A66,{},Try.f66,Try.func66,C_66⟩
 ·cases h;exact ⟨A67,{},Try.f67,Try.func67,C_67⟩
 ·cases h;exact ⟨A68,{},Try.f68,Try.func68,C_68⟩
 ·cases h;exact ⟨A69,{},Try.f69,Try.func69,C_69⟩
 ·cases h;exact ⟨A70,{},Try.f70,Try.func70,C_70⟩
 ·cases h;exact ⟨A71,{},Try.f71,Try.func71,C_71⟩
 ·cases h;exact ⟨A72,{},Try.f72,Try.func72,C_72⟩
 ·cases h;exact ⟨A78,{},Try.f78,Try.func78,C_78⟩
 ·cases h;exact ⟨A79,{},Try.f79,Try.func79,C_79⟩
 ·cases h;exact ⟨A80,{},Try.f80,Try.func80,C_80⟩
 ·cases h;exact ⟨A81,{},Try.f81,Try.func81,C_81⟩
 ·cases h;exact ⟨A82,{},Try.f82,Try.func82,C_82⟩
 ·cases h;exact ⟨A83,{},Try.f83,Try.func83,C_83⟩
 ·cases h;exact ⟨A95,{},Try.f95,Try.func95,C_95⟩
 ·cases h
end Go.Am.Ytlonabodghfjdaa
