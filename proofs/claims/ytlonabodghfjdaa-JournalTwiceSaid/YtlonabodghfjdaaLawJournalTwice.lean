/- JournalTwice, in the loaded program: the walk. | The row of JournalTwice: whatever the input it returns true, and each argument reads as before. The frame is the kit's; the walk is the abstract machine's.
   By the session's AI agent. -/
import Derived.Test.YtlonabodghfjdaaJb5
import Derived.Test.YtlonabodghfjdaaRows
import Derived.WalkKit
import Derived.ProofKit
import Derived.OpenShut
import Derived.ShutString
import Derived.ChangeOld
import Derived.Below
import Derived.SizedLaws
namespace Go.Am.Ytlonabodghfjdaa
open Go.RowKit (Below)
set_option linter.unusedVariables false
theorem journalTwice_walk (W:World) (a:Int) (wa:(Lit.int IntKind.i64 a).wf=true) {y:PV} {u:Value} (ry:RV W.heap.size { ι:=id,n:=0,hw:=fun _=>none } W y u) (sy:Sh Go.Proofs.Try.prog 33 [y]) :
  Calls Go.Proofs.Try.prog 6 #[.int .i64 a,u] W fun e W'=>e=.returned (.bool true)∧Below W.heap.size W W':=by
 obtain ⟨mo,rfl⟩:=bytes_arg sy
 refine (sound2 tableOk (twice_true a mo) W (gl_ok _ _) trivial _ rfl ?_).mono fun e W' ⟨u,g',h1,h2,h3⟩=>?_
 ·intro j x hx
  match j,hx with
  | 0,hx=>cases hx;exact .int _ _
  | 1,hx=>cases hx;exact ry
  | j+2,hx=>simp at hx
 ·cases h2;exact ⟨h1,h3⟩
end Go.Am.Ytlonabodghfjdaa
namespace Go.Proofs.Ytlonabodghfjdaa.journalTwice
open Go.ChangeShapes Go.WideShapes Go.ChangeAt Go.RowKit
open Go.ChangeMaps (open_string shut_string)
set_option linter.unusedVariables false
theorem own:ownKnob Try.prog.godebug=none:=by kernel_rfl
theorem laidOut:laidOutB Try.prog=true:=by kernel_rfl
set_option maxRecDepth 100000 in
theorem lifted (os:Os) (started:os.Started) (H:Type) (enc:TypeId × Value→H) :
  ReturnsInHanded {} Try.checked os 6 .any (Rows.journalTwiceSpec.pre6 enc Try.prog Try.f6 Rows.journalTwiceRow.domain false) (Rows.journalTwiceSpec.post enc Try.prog Try.f6 false true false false):=by
 refine returnsInHanded_of_change_sized (C:=Try.checked) own started (by kernel_rfl) Try.func6
  (ChangeSpec.witness6 (enc:=enc) (C:=Try.checked) false ⟨#[],#[.int .i64 0,.slice none 0 0],[]⟩ 8 (by kernel_rfl) (by kernel_rfl) (by kernel_rfl) (by kernel_rfl)) ?_
 intro W base args ds gs before hval0 hW hcnd hsz0 _
 have hsz:(DataW.weightsEach Try.prog (Try.f6.params.toList ++ Rows.journalTwiceSpec.plain.varTypes Try.prog) (ds ++ gs)).all (·≤reachBytes)=true:=hsz0
 have hval:∀ (j:Nat) t v,Try.f6.params[j]?=some t→args[j]?=some v→Value.okWide Try.prog W .any base t v:=hval0
 have hW':=hW
 obtain ⟨p,q,hA0,hV,rfl,hfz,hnd⟩:=hW
 have hA:DataW.TrodAll enc Try.prog W 0 (fun _=>true) true Try.f6.params.toList args.toList ds p:=hA0
 rw [Try.params6] at hA hval hsz
 obtain ⟨v0,vs0,d0,ds0,p0,q0,hargs,rfl,rfl,h0,r0⟩:=trodAll_cons hA
 obtain ⟨v1,vs1,d1,ds1,p1,q1,rfl,rfl,rfl,h1,r1⟩:=trodAll_cons r0
 obtain ⟨rfl,rfl,rfl⟩:=trodAll_nil r1
 obtain rfl:args=#[v0,v1]:=by cases args;simp_all
 obtain ⟨rfl,rfl⟩:=trodVars_none hV
 have k0:=h0
 have lt0:∀ x∈p0,x.block < W.heap.size:=by obtain ⟨m,hm⟩:=k0;exact DataW.trod_lt m _ _ _ hm
 obtain ⟨a0,rfl,rfl,rfl,w0⟩:=open_int Try.underlying3 (hval 0 3 v0 rfl rfl) h0
 have k1:=h1
 have lt1:∀ x∈p1,x.block < W.heap.size:=by obtain ⟨m,hm⟩:=k1;exact DataW.trod_lt m _ _ _ hm
 obtain ⟨a1,len1,cap1,rfl⟩:=okWide_slice Try.underlying33 (hval 1 33 v1 rfl rfl)
 obtain ⟨x1,rx1,sx1⟩:=Go.Am.open_arg (g:=⟨id,0,fun _=>none,fun _=>default,fun _=>0⟩) k1 rfl 20 (by kernel_rfl) (fun n hn=>by have:=List.all_eq_true.1 hsz _ (DataW.weights_mem_each (j:=1) (t:=33) rfl rfl n hn);simpa using this)
 refine (Go.Am.Ytlonabodghfjdaa.journalTwice_walk W a0 w0 rx1 sx1).mono fun e W' ⟨he,bel⟩=>?_
 subst he
 exact ⟨_,rfl,_,_,_,[],_,[],hW',trodAll_mk1 (shut_bool Try.underlying4 _),(trodAll_cons_mk (shut_int Try.underlying3 w0) (trodAll_cons_mk (Below.trod laidOut (by kernel_rfl) (of_decide_eq_true (by kernel_rfl)) k1 bel lt1) trodAll_mk0)),rfl,bel.frame _,fun h=>by cases h⟩
theorem over:Rows.journalTwiceRow.holds Try.pinned (OpenSpec.ofChange Rows.journalTwiceSpec) :=
 OpenClaim.holds_of_wide 6 Try.f6 rfl rfl rfl rfl rfl rfl rfl ⟨rfl,rfl,rfl,rfl,rfl⟩ rfl rfl rfl rfl rfl (by kernel_rfl) Try.func6 (by kernel_rfl)
  (of_decide_eq_true (by kernel_rfl)) (by unfold Func.isWrapper;first | (rw [if_pos (by decide +kernel)];kernel_rfl) | (rw [if_neg (by decide +kernel)];exact ⟨rfl,rfl⟩))
  (fun os started H enc _=>lifted os started H enc)
theorem proved:Rows.JournalTwiceSaid:=over
#print axioms proved
end Go.Proofs.Ytlonabodghfjdaa.journalTwice
namespace Go.Proofs.Ytlonabodghfjdaa
theorem journalTwice_holds:Rows.JournalTwiceSaid:=journalTwice.proved
end Go.Proofs.Ytlonabodghfjdaa
