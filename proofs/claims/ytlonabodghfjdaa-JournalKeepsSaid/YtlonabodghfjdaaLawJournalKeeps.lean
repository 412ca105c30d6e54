/- JournalKeeps, in the loaded program: the walk. | The row of JournalKeeps: whatever the input it returns true, and each argument reads as before. The frame is the kit's; the walk is the abstract machine's.
   By the session's AI agent. -/
import Derived.Test.YtlonabodghfjdaaJb5
import Derived.Test.YtlonabodghfjdaaRows
import Derived.WalkKit
import Derived.ProofKit
import Derived.OpenShut
import Derived.ShutString
import Derived.ChangeOld
import Derived.Below
import Derived.SizedLaws
namespace Go.Am.Ytlonabodghfjdaa
open Go.RowKit (Below)
set_option linter.unusedVariables false
theorem journalKeeps_walk (W:World) (a:Int) (wa:(Lit.int IntKind.i64 a).wf=true) {x:PV} {v:Value} (rx:RV W.heap.size { ι:=id,n:=0,hw:=fun _=>none } W x v) (sx:Sh Go.Proofs.Try.prog 22 [x])
  (b:Int) (wb:(Lit.int IntKind.i64 b).wf=true) (c:Int) (wc:(Lit.int IntKind.i64 c).wf=true) :
  Calls Go.Proofs.Try.prog 5 #[.int .i64 a,v,.int .i64 b,.int .i64 c] W fun e W'=>e=.returned (.bool true)∧Below W.heap.size W W':=by
 obtain ⟨ops,ha,hl⟩:=ops_arg sx
 refine (sound2 tableOk (keeps_true a b c ha (Nat.le_trans hl (by decide))) W (gl_ok _ _) trivial _ rfl ?_).mono fun e W' ⟨u,g',h1,h2,h3⟩=>?_
 ·intro j x hx
  match j,hx with
  | 0,hx=>cases hx;exact .int _ _
  | 1,hx=>cases hx;exact rx
  | 2,hx=>cases hx;exact .int _ _
  | 3,hx=>cases hx;exact .int _ _
  | j+4,hx=>simp at hx
 ·cases h2;exact ⟨h1,h3⟩
end Go.Am.Ytlonabodghfjdaa
namespace Go.Proofs.Ytlonabodghfjdaa.journalKeeps
open Go.ChangeShapes Go.WideShapes Go.ChangeAt Go.RowKit
open Go.ChangeMaps (open_string shut_string)
set_option linter.unusedVariables false
theorem own:ownKnob Try.prog.godebug=none:=by kernel_rfl
theorem laidOut:laidOutB Try.prog=true:=by kernel_rfl
set_option maxRecDepth 100000 in
theorem lifted (os:Os) (started:os.Started) (H:Type) (enc:TypeId × Value→H) :
  ReturnsInHanded {} Try.checked os 5 .any (Rows.journalKeepsSpec.pre6 enc Try.prog Try.f5 Rows.journalKeepsRow.domain false) (Rows.journalKeepsSpec.post enc Try.prog Try.f5 false true false false):=by
 refine returnsInHanded_of_change_sized (C:=Try.checked) own started (by kernel_rfl) Try.func5
  (ChangeSpec.witness6 (enc:=enc) (C:=Try.checked) false ⟨#[],#[.int .i64 0,.slice none 0 0,.int .i64 0,.int .i64 0],[]⟩ 8 (by kernel_rfl) (by kernel_rfl) (by kernel_rfl) (by kernel_rfl)) ?_
 intro W base args ds gs before hval0 hW hcnd hsz0 _
 have hsz:(DataW.weightsEach Try.prog (Try.f5.params.toList ++ Rows.journalKeepsSpec.plain.varTypes Try.prog) (ds ++ gs)).all (·≤reachBytes)=true:=hsz0
 have hval:∀ (j:Nat) t v,Try.f5.params[j]?=some t→args[j]?=some v→Value.okWide Try.prog W .any base t v:=hval0
 have hW':=hW
 obtain ⟨p,q,hA0,hV,rfl,hfz,hnd⟩:=hW
 have hA:DataW.TrodAll enc Try.prog W 0 (fun _=>true) true Try.f5.params.toList args.toList ds p:=hA0
 rw [Try.params5] at hA hval hsz
 obtain ⟨v0,vs0,d0,ds0,p0,q0,hargs,rfl,rfl,h0,r0⟩:=trodAll_cons hA
 obtain ⟨v1,vs1,d1,ds1,p1,q1,rfl,rfl,rfl,h1,r1⟩:=trodAll_cons r0
 obtain ⟨v2,vs2,d2,ds2,p2,q2,rfl,rfl,rfl,h2,r2⟩:=trodAll_cons r1
 obtain ⟨v3,vs3,d3,ds3,p3,q3,rfl,rfl,rfl,h3,r3⟩:=trodAll_cons r2
 obtain ⟨rfl,rfl,rfl⟩:=trodAll_nil r3
 obtain rfl:args=#[v0,v1,v2,v3]:=by cases args;simp_all
 obtain ⟨rfl,rfl⟩:=trodVars_none hV
 have k0:=h0
 have lt0:∀ x∈p0,x.block < W.heap.size:=by obtain ⟨m,hm⟩:=k0;exact DataW.trod_lt m _ _ _ hm
 obtain ⟨a0,rfl,rfl,rfl,w0⟩:=open_int Try.underlying3 (hval 0 3 v0 rfl rfl) h0
 have k1:=h1
 have lt1:∀ x∈p1,x.block < W.heap.size:=by obtain ⟨m,hm⟩:=k1;exact DataW.trod_lt m _ _ _ hm
 obtain ⟨a1,len1,cap1,rfl⟩:=okWide_slice Try.underlying22 (hval 1 22 v1 rfl rfl)
 obtain ⟨x1,rx1,sx1⟩:=Go.Am.open_arg (g:=⟨id,0,fun _=>none,fun _=>default,fun _=>0⟩) k1 rfl 20 (by kernel_rfl) (fun n hn=>by have:=List.all_eq_true.1 hsz _ (DataW.weights_mem_each (j:=1) (t:=22) rfl rfl n hn);simpa using this)
 have k2:=h2
 have lt2:∀ x∈p2,x.block < W.heap.size:=by obtain ⟨m,hm⟩:=k2;exact DataW.trod_lt m _ _ _ hm
 obtain ⟨a2,rfl,rfl,rfl,w2⟩:=open_int Try.underlying3 (hval 2 3 v2 rfl rfl) h2
 have k3:=h3
 have lt3:∀ x∈p3,x.block < W.heap.size:=by obtain ⟨m,hm⟩:=k3;exact DataW.trod_lt m _ _ _ hm
 obtain ⟨a3,rfl,rfl,rfl,w3⟩:=open_int Try.underlying3 (hval 3 3 v3 rfl rfl) h3
 refine (Go.Am.Ytlonabodghfjdaa.journalKeeps_walk W a0 w0 rx1 sx1 a2 w2 a3 w3).mono fun e W' ⟨he,bel⟩=>?_
 subst he
 exact ⟨_,rfl,_,_,_,[],_,[],hW',trodAll_mk1 (shut_bool Try.underlying4 _),(trodAll_cons_mk (shut_int Try.underlying3 w0) (trodAll_cons_mk (Below.trod laidOut (by kernel_rfl) (of_decide_eq_true (by kernel_rfl)) k1 bel lt1) (trodAll_cons_mk (shut_int Try.underlying3 w2) (trodAll_cons_mk (shut_int Try.underlying3 w3) trodAll_mk0)))),rfl,bel.frame _,fun h=>by cases h⟩
theorem over:Rows.journalKeepsRow.holds Try.pinned (OpenSpec.ofChange Rows.journalKeepsSpec) :=
 OpenClaim.holds_of_wide 5 Try.f5 rfl rfl rfl rfl rfl rfl rfl ⟨rfl,rfl,rfl,rfl,rfl⟩ rfl rfl rfl rfl rfl (by kernel_rfl) Try.func5 (by kernel_rfl)
  (of_decide_eq_true (by kernel_rfl)) (by unfold Func.isWrapper;first | (rw [if_pos (by decide +kernel)];kernel_rfl) | (rw [if_neg (by decide +kernel)];exact ⟨rfl,rfl⟩))
  (fun os started H enc _=>lifted os started H enc)
theorem proved:Rows.JournalKeepsSaid:=over
#print axioms proved
end Go.Proofs.Ytlonabodghfjdaa.journalKeeps
namespace Go.Proofs.Ytlonabodghfjdaa
theorem journalKeeps_holds:Rows.JournalKeepsSaid:=journalKeeps.proved
end Go.Proofs.Ytlonabodghfjdaa
