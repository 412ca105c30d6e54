/- SlotsPieces, in the Dd program: the walk. | The card of SlotsPieces: whatever the input it returns true, and each argument reads as before. The frame 
   By the session's AI agent. -/
import Derived.Test.YtmmjmkjoflfpmaaGreatDoorT56
import Derived.Test.YtmmjmkjoflfpmaaGreatDoorCards
import Derived.Test.YtmmjmkjoflfpmaaGreatDoorTie
import Derived.WalkKit
import Derived.ProofKit
import Derived.OpenShut
import Derived.ShutString
import Derived.ChangeOld
import Derived.Below
import Derived.SizedLaws
import Derived.LaidMore
import Derived.Lay
import Derived.SevenTiedAt
import Derived.Deep.DeepHandedRow
import Derived.Deep.DeepWitnessRowRef
set_option linter.unusedVariables false
namespace Go.Am.Qd
open Go.RowKit (Below)
theorem slotsPieces_walk (W:World) (hG:dR gl W.heap.size W) {x0:PV} {v0:Value} (rx0:RV W.heap.size { ι:=id,n:=0,hw:=fun _=>none } W x0 v0) (sx0:Sh Go.Proofs.Tryz.prog 22 [x0]) {x1:PV} {v1:Value} (rx1:RV W.heap.size { ι:=id,n:=0,hw:=fun _=>none } W x1 v1) (sx1:Sh Go.Proofs.Tryz.prog 22 [x1]) {x2:PV} {v2:Value} (rx2:RV W.heap.size { ι:=id,n:=0,hw:=fun _=>none } W x2 v2) (sx2:Sh Go.Proofs.Tryz.prog 59 [x2]) :
  Calls Go.Proofs.Tryz.prog 5 #[v0,v1,v2] W fun e W'=>e=.returned (.bool true)∧Below W.heap.size W W':=by
 obtain⟨a,ha⟩:=CQ sx0;obtain⟨b,hb⟩:=CQ sx1;obtain⟨zs,hz⟩:=R6 sx2;refine(VK yc (HF 0 (h:=[]) ha hb hz) W hG trivial _ rfl ?_).mono fun e W' ⟨u,g',h1,h2,h3⟩=>?_
 ·intro j x hx
  match j,hx with
  | 0,hx=>cases hx;exact rx0
  | 1,hx=>cases hx;exact rx1
  | 2,hx=>cases hx;exact rx2
  | j+3,hx=>simp at hx
 ·cases h2;exact⟨h1,h3⟩
end Go.Am.Qd
namespace Go.Proofs.YtmmjmkjoflfpmaaGreatDoor.slotsPieces
open Go.ChangeShapes Go.WideShapes Go.ChangeAt Go.RowKit
open Go.ChangeMaps (open_string shut_string)
theorem own:ownKnob Tryz.prog.godebug=none:=by kernel_rfl
theorem laidOut:laidOutB Tryz.prog=true:=by kernel_rfl
set_option maxRecDepth 100000 in
theorem contract (H:Type) (enc:TypeId × Value→H) (W:World) (base:Nat) (args:Array Value) (ds gs:List (DataW H)) (before:List MemPlace)
  (hval0:∀ (j:Nat) t v,Tryz.f5.params[j]?=some t→args[j]?=some v→Value.okWide Tryz.prog W .any base t v)
  (hW:DataW.Whole enc Tryz.prog Tryz.f5.params.toList Rows.slotsPiecesSpec.vars false W args.toList ds gs before)
  (hsz0:(DataW.weightsEach Tryz.prog (Tryz.f5.params.toList++Rows.slotsPiecesSpec.plain.varTypes Tryz.prog) (ds++gs)).all (·≤reachBytes)=true) (hL:laidMetH Tryz.prog Rows.slotsPiecesRow.laid W) (hS:W.ShapedOpen Tryz.prog) :
  Calls Tryz.prog 5 args W fun e W'=>∃ v,e=.returned v∧Rows.slotsPiecesSpec.post enc Tryz.prog Tryz.f5 false true false false W args v W':=by
 have hsz:=hsz0;have hval:=hval0;have hW':=hW;obtain⟨p,q,hA0,hV,rfl,hfz,hnd⟩:=hW;have hA:DataW.TrodAll enc Tryz.prog W 0 (fun _=>true) true Tryz.f5.params.toList args.toList ds p:=hA0;rw[Tryz.params5]at hA hval hsz;obtain⟨v0,vs0,d0,ds0,p0,q0,hargs,rfl,rfl,h0,r0⟩:=trodAll_cons hA;obtain⟨v1,vs1,d1,ds1,p1,q1,rfl,rfl,rfl,h1,r1⟩:=trodAll_cons r0;obtain⟨v2,vs2,d2,ds2,p2,q2,rfl,rfl,rfl,h2,r2⟩:=trodAll_cons r1;obtain⟨rfl,rfl,rfl⟩:=trodAll_nil r2;obtain rfl:args=#[v0,v1,v2]:=by cases args;simp_all
 obtain⟨rfl,rfl⟩:=trodVars_none hV;have hL2:laidMet Tryz.prog Rows.slotsPiecesRow.laid W:=by rw[MakeChecks.laidMetH_plain _ _ _ (by kernel_rfl)]at hL;exact hL
 have hF:=Qa hL2 (by simp[Rows.slotsPiecesRow]) (by simp[Rows.slotsPiecesRow]);have k0:=h0;have lt0:∀ x∈p0,x.block<W.heap.size:=by obtain⟨m,hm⟩:=k0;exact DataW.trod_lt m _ _ _ hm
 obtain⟨a0,abx,cap0,rfl⟩:=okWide_slice Tryz.underlying22 (hval 0 22 v0 rfl rfl);obtain⟨x0,rx0,sx0⟩:=Go.Am.Bd (g:=⟨id,0,fun _=>none,fun _=>default,fun _=>0⟩) k0 rfl 20 (by kernel_rfl) (fun n hn=>by have:=List.all_eq_true.1 hsz _ (DataW.weights_mem_each (j:=0) (t:=22) rfl rfl n hn);simpa using this);have k1:=h1;have lt1:∀ x∈p1,x.block<W.heap.size:=by obtain⟨m,hm⟩:=k1;exact DataW.trod_lt m _ _ _ hm
 obtain⟨a1,len1,cap1,rfl⟩:=okWide_slice Tryz.underlying22 (hval 1 22 v1 rfl rfl);obtain⟨x1,rx1,sx1⟩:=Go.Am.Bd (g:=⟨id,0,fun _=>none,fun _=>default,fun _=>0⟩) k1 rfl 20 (by kernel_rfl) (fun n hn=>by have:=List.all_eq_true.1 hsz _ (DataW.weights_mem_each (j:=1) (t:=22) rfl rfl n hn);simpa using this);have k2:=h2;have lt2:∀ x∈p2,x.block<W.heap.size:=by obtain⟨m,hm⟩:=k2;exact DataW.trod_lt m _ _ _ hm
 obtain⟨a2,len2,cap2,rfl⟩:=okWide_slice Tryz.underlying59 (hval 2 59 v2 rfl rfl);obtain⟨x2,rx2,sx2⟩:=Go.Am.Bd (g:=⟨id,0,fun _=>none,fun _=>default,fun _=>0⟩) k2 rfl 20 (by kernel_rfl) (fun n hn=>by have:=List.all_eq_true.1 hsz _ (DataW.weights_mem_each (j:=2) (t:=59) rfl rfl n hn);simpa using this);refine(Go.Am.Qd.slotsPieces_walk W hF rx0 sx0 rx1 sx1 rx2 sx2).mono fun e W' ⟨he,bel⟩=>?_
 subst he;exact⟨_,rfl,_,_,_,[],_,[],hW',trodAll_mk1 (shut_bool Tryz.underlying4 _),(trodAll_cons_mk (Below.trod laidOut (by kernel_rfl) (of_decide_eq_true (by kernel_rfl)) k0 bel lt0) (trodAll_cons_mk (Below.trod laidOut (by kernel_rfl) (of_decide_eq_true (by kernel_rfl)) k1 bel lt1) (trodAll_cons_mk (Below.trod laidOut (by kernel_rfl) (of_decide_eq_true (by kernel_rfl)) k2 bel lt2) trodAll_mk0))),rfl,bel.frame _,fun h=>by cases h⟩
noncomputable abbrev laidWorld (os:Os):World:=World.laidAll Tryz.prog os Rows.slotsPiecesRow.laid
theorem laid_met (os:Os) (args:Array Value):laidMet Tryz.prog Rows.slotsPiecesRow.laid ((laidWorld os).forCall (fun _ _=>0) ⟨#[],args,[]⟩).memory:=laidMet_laidAll _ (by kernel_rfl) (by kernel_rfl)
theorem reads (os:Os) {H:Type} (enc:TypeId × Value→H):∃ places,DataW.whole enc Tryz.prog ((laidWorld os).forCall (fun _ _=>0) ⟨#[],#[.slice none 0 0,.slice none 0 0,.slice none 0 0],[]⟩).memory Tryz.f5.params.toList Rows.slotsPiecesSpec.vars false (#[.slice none 0 0,.slice none 0 0,.slice none 0 0] : Array Value).toList 8=some ([.nil,.nil,.nil],[],places):=by
 have hw:(DataW.whole enc Tryz.prog ((laidWorld os).forCall (fun _ _=>0) ⟨#[],#[.slice none 0 0,.slice none 0 0,.slice none 0 0],[]⟩).memory Tryz.f5.params.toList Rows.slotsPiecesSpec.vars false (#[.slice none 0 0,.slice none 0 0,.slice none 0 0] : Array Value).toList 8).map (fun x=>(x.1,x.2.1))=some ([.nil,.nil,.nil],[]):=by kernel_rfl
 obtain⟨⟨x1,x2,x3⟩,hx,hx1⟩:=Option.map_eq_some_iff.1 hw;simp only[Prod.mk.injEq]at hx1;obtain⟨rfl,rfl⟩:=hx1;exact⟨_,hx⟩
set_option maxRecDepth 100000 in
theorem lifted (os:Os) (started:os.Started) (H:Type) (enc:TypeId × Value→H) (F:Stop.Interp) :
  ReturnsInHanded {} Tryz.checked os 5 .any ((OpenSpec.ofChange Rows.slotsPiecesSpec).preRow enc Tryz.prog Tryz.f5 Rows.slotsPiecesRow.domain false Rows.slotsPiecesRow.laid) (((OpenSpec.ofChange Rows.slotsPiecesSpec).at F).post enc Tryz.prog Tryz.f5 false true false false):=by
 obtain⟨places,hx⟩:=reads os enc;refine returnsInHanded_of_row (C:=Tryz.checked) (s:=OpenSpec.ofChange Rows.slotsPiecesSpec) own started (by kernel_rfl) Tryz.func5
  (witness_row_atRef (enc:=enc) (C:=Tryz.checked) false (laidWorld os) #[.slice none 0 0,.slice none 0 0,.slice none 0 0] (World.laidAll_os _ _ _) (by kernel_rfl) (by kernel_rfl) (by kernel_rfl)
   (OpenSpec.preRow_of_cond 8 hx (by kernel_rfl) (fun k hk=>by cases hk) (by kernel_rfl) (laid_met os _))) ?_
 intro W base args ds gs before hval hW _ _ hsz hL hS _;exact contract H enc W base args ds gs before hval hW hsz hL hS
theorem said:Rows.SlotsPiecesSaid :=
 OpenClaim.holds_of_cond 5 Tryz.f5 rfl rfl rfl rfl rfl rfl rfl ⟨rfl,rfl,rfl,rfl,rfl⟩ rfl rfl rfl rfl rfl (by kernel_rfl) Tryz.func5 (by kernel_rfl)
  (of_decide_eq_true (by kernel_rfl)) (by unfold Func.isWrapper;first | (rw[if_pos (by decide +kernel)];kernel_rfl) | (rw[if_neg (by decide +kernel)];exact⟨rfl,rfl⟩))
  (fun os started H enc _ F=>by rw[OpenClaim.pre_eq_preRow];exact lifted os started H enc F)
theorem plain (f:FuncId) (fn:Func) (hf:Tryz.pinned.checked.prog.funcNamed Rows.slotsPiecesRow.func=some f) (hfn:Tryz.pinned.checked.prog.funcs[f]?=some fn) :
  true=Tryz.pinned.checked.prog.looks []∧∀ (j:Nat) t,fn.params[j]?=some t→Tryz.pinned.checked.prog.wantsStandIn t=false:=by
 obtain rfl:f=5:=Option.some.inj ((show Tryz.prog.funcNamed Rows.slotsPiecesRow.func=some 5 by kernel_rfl).symm.trans hf) |>.symm
 obtain rfl:fn=Tryz.f5:=(Option.some.inj (Tryz.func5.symm.trans hfn)).symm;refine⟨by kernel_rfl,fun j t ht=>?_⟩;rw[Tryz.params5]at ht;have hm:t∈[22,22,59]:=by simpa using Array.mem_of_getElem? ht
 have hall:([22,22,59].all fun u=>!Tryz.prog.wantsStandIn u)=true:=by kernel_rfl
 exact(show Tryz.prog.wantsStandIn t=false by simpa using List.all_eq_true.1 hall t hm)
theorem card:Rows.SlotsPiecesCardSaid :=
 Claim7.holds_tied_plain_at .later [] _ _ _ _ said (fun _ h=>by cases h) (by kernel_rfl) (fun _ h=>by cases h) slotsPieces_row_tie rfl ⟨rfl,rfl⟩ (by kernel_rfl) rfl plain (by kernel_rfl)
#print axioms card
end Go.Proofs.YtmmjmkjoflfpmaaGreatDoor.slotsPieces
namespace Go.Proofs.YtmmjmkjoflfpmaaGreatDoor
theorem slotsPieces_holds:Rows.SlotsPiecesCardSaid:=slotsPieces.card
end Go.Proofs.YtmmjmkjoflfpmaaGreatDoor
