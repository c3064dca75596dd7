/- The law FnElaborateRuns returns true for every input and leaves its arguments as they were; no condition. -/
import Derived.Test.YtiepmliokblkjaaGreatRows
import Derived.Test.YtiepmliokblkjaaGreatFrame
import Derived.Test.YtiepmliokblkjaaGreatAxS
import Derived.WalkKit
import Derived.ProofKit
import Derived.OpenShut
import Derived.ShutString
import Derived.ChangeOld
import Derived.Below
set_option linter.all false
namespace Go.Proofs
open Go.Xw
set_option maxRecDepth 100000
attribute [local irreducible] ax aE
end Go.Proofs
namespace Go.Proofs.YtiepmliokblkjaaGreat.fnElaborateRuns
open Go.ChangeShapes Go.WideShapes Go.ChangeAt Go.RowKit Go.Xw
set_option linter.unusedVariables false
theorem own:ownKnob Tryz.prog.godebug=none:=by kernel_rfl
theorem laidOut:laidOutB Tryz.prog=true:=by kernel_rfl
set_option maxRecDepth 100000 in
theorem lifted (os:Os)(started:os.Started)(H:Type)(enc:TypeId×Value->H):
  ReturnsInHanded {} Tryz.checked os 4 .any (Rows.fnElaborateRunsSpec.pre6 enc Tryz.prog Tryz.f4 Rows.fnElaborateRunsRow.domain false) (Rows.fnElaborateRunsSpec.post enc Tryz.prog Tryz.f4 false true false false):=by
 refine returnsInHanded_of_change (C:=Tryz.checked) own started (by kernel_rfl) Tryz.func4
  (ChangeSpec.witness6 (enc:=enc) (C:=Tryz.checked) false ⟨#[], #[.slice none 0 0],[]⟩ 4 (by kernel_rfl) (by kernel_rfl) (by kernel_rfl) (by kernel_rfl)) ?_
 intro W base args ds gs before O5 hW hcnd _
 have Ki:∀(j:Nat) t v,Tryz.f4.params[j]?=some t->args[j]?=some v->Value.okWide Tryz.prog W .any base t v:=O5
 have hW':=hW
 obtain⟨p,q,hA0,hV,rfl,hfz,vv⟩:=hW
 have hA:DataW.TrodAll enc Tryz.prog W 0 (fun _=>true) true Tryz.f4.params.toList args.toList ds p:=hA0
 rw[Tryz.params4] at hA Ki
 obtain⟨v0,vs0,d0,ds0,p0,q0,hargs,rfl,rfl,h0,r0⟩:=trodAll_cons hA
 obtain⟨rfl,rfl,rfl⟩:=trodAll_nil r0
 obtain rfl:args= #[v0]:=by cases args;simp_all
 obtain⟨rfl,rfl⟩:=trodVars_none hV
 obtain⟨a0,len0,WZ,rfl⟩:=okWide_slice Tryz.underlying48 (Ki 0 48 v0 rfl rfl)
 have k0:=h0
 have lt0:∀x∈p0,x.block<W.heap.size:=by obtain⟨m,hm⟩:=k0;exact DataW.trod_lt m _ _ _ hm
 obtain⟨x0,iz,Rx0,Mx0,Wx0⟩:∃X:List Int,X.length=len0/\Rd W a0 1 xt X/\X.length<=maxLen/\∀i,i<X.length->0<=X.getD i default/\X.getD i default<=255:=by
  obtain⟨fuel,hf⟩:=h0
  obtain⟨a,X,c,e,u1_,u2_,u3_⟩:=Im hf
  simp[Value.cells] at e
  obtain⟨rfl,rfl,rfl⟩:=e
  exact⟨X,rfl,⟨u1_⟩,u2_,u3_⟩
 subst iz
 clear hA0 O5
 have jd:Calls Tryz.prog 4 #[.slice a0 x0.length WZ] W fun e w'=>e= .returned (.bool true)/\Below W.heap.size W w':=Go.Xw.IE (uz W a0 WZ x0 Rx0 Mx0 Wx0)
 refine jd.mono fun e W' ⟨he,bel⟩=> ?_
 subst he
 exact⟨_,rfl,_,_,_,[],_,[],hW',trodAll_mk1 (shut_bool Tryz.underlying4 _),(trodAll_cons_mk (Below.trod laidOut (by kernel_rfl) (of_decide_eq_true (by kernel_rfl)) k0 bel lt0) trodAll_mk0),rfl,bel.frame _,fun h=>by cases h⟩
theorem over:Rows.fnElaborateRunsRow.holds Tryz.pinned (OpenSpec.ofChange Rows.fnElaborateRunsSpec):=
 OpenClaim.holds_of_wide 4 Tryz.f4 rfl rfl rfl rfl rfl rfl rfl ⟨rfl,rfl,rfl,rfl,rfl⟩ rfl rfl rfl rfl rfl (by kernel_rfl) Tryz.func4 (by kernel_rfl)
  (of_decide_eq_true (by kernel_rfl)) (by unfold Func.isWrapper;first|(rw[if_pos (by decide+kernel)];kernel_rfl)|(rw[if_neg (by decide+kernel)];exact⟨rfl,rfl⟩))
  (fun os started H enc _=>lifted os started H enc)
theorem proved:Rows.FnElaborateRunsSaid:=over
#print axioms proved
end Go.Proofs.YtiepmliokblkjaaGreat.fnElaborateRuns
