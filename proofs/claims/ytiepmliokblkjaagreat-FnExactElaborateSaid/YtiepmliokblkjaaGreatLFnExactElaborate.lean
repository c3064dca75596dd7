/- The law FnExactElaborate returns true for every input and leaves its arguments as they were; no condition. -/
import Derived.Test.YtiepmliokblkjaaGreatRows
import Derived.Test.YtiepmliokblkjaaGreatFrame
import Derived.Test.YtiepmliokblkjaaGreatAxS
import Derived.WalkKit
import Derived.ProofKit
import Derived.OpenShut
import Derived.ShutString
import Derived.ChangeOld
import Derived.Below
set_option linter.all false
namespace Go.Proofs
open Go.Xw
set_option maxRecDepth 100000
attribute [local irreducible] Holds elemAddr

end Go.Proofs
namespace Go.Proofs.YtiepmliokblkjaaGreat.fnExactElaborate
open Go.ChangeShapes Go.WideShapes Go.ChangeAt Go.RowKit Go.Xw
set_option linter.unusedVariables false
theorem own : ownKnob Tryz.prog.godebug = none := by kernel_rfl
theorem laidOut : laidOutB Tryz.prog = true := by kernel_rfl
set_option maxRecDepth 100000 in
theorem lifted (os : Os) (started : os.Started) (H : Type) (enc : TypeId × Value → H) :
    ReturnsInHanded {} Tryz.checked os 3 .any (Rows.fnExactElaborateSpec.pre6 enc Tryz.prog Tryz.f3 Rows.fnExactElaborateRow.domain false) (Rows.fnExactElaborateSpec.post enc Tryz.prog Tryz.f3 false true false false) := by
  refine returnsInHanded_of_change (C := Tryz.checked) own started (by kernel_rfl) Tryz.func3
    (ChangeSpec.witness6 (enc := enc) (C := Tryz.checked) false ⟨#[], #[.agg #[.slice none 0 0, .slice none 0 0, .slice none 0 0, .slice none 0 0]], []⟩ 3 (by kernel_rfl) (by kernel_rfl) (by kernel_rfl) (by kernel_rfl)) ?_
  intro W base args ds gs before hval0 hW hcnd _
  have hval : ∀ (j : Nat) t v, Tryz.f3.params[j]? = some t → args[j]? = some v → Value.okWide Tryz.prog W .any base t v := hval0
  have hW' := hW
  obtain ⟨p, q, hA0, hV, rfl, hfz, hnd⟩ := hW
  have hA : DataW.TrodAll enc Tryz.prog W 0 (fun _ => true) true Tryz.f3.params.toList args.toList ds p := hA0
  rw [Tryz.params3] at hA hval
  obtain ⟨v0, vs0, d0, ds0, p0, q0, hargs, rfl, rfl, h0, r0⟩ := trodAll_cons hA
  obtain ⟨rfl, rfl, rfl⟩ := trodAll_nil r0
  obtain rfl : args = #[v0] := by cases args; simp_all
  obtain ⟨rfl, rfl⟩ := trodVars_none hV
  obtain ⟨cs0, rfl, _⟩ := okWide_struct Tryz.underlying27 (hval 0 27 v0 rfl rfl)
  have k0 := h0
  have lt0 : ∀ x ∈ p0, x.block < W.heap.size := by obtain ⟨m, hm⟩ := k0; exact DataW.trod_lt m _ _ _ hm
  obtain ⟨x0, hx0, Rx0, Mx0, Wx0⟩ : ∃ x : ModA, (Value.agg cs0) = x.v ∧ ModR W x ∧ ModM x.n ∧ ModW x.n := by
    obtain ⟨fuel, hf⟩ := h0
    obtain ⟨x, e, r⟩ := dec_module hf
    exact ⟨x, by unfold ModA.v; rw [← e]; rfl, r⟩
  rw [hx0] at k0
  clear hA0 hval0
  have hcall : Calls Tryz.prog 3 #[x0.v] W fun e w' => e = .returned (.bool true) ∧ Below W.heap.size W w' := Go.Xw.law_calls (FnExactElaborate_h W x0 Rx0 Mx0 Wx0)
  rw [hx0]
  refine hcall.mono fun e W' ⟨he, bel⟩ => ?_
  subst he
  rw [hx0] at hW'
  exact ⟨_, rfl, _, _, _, [], _, [], hW', trodAll_mk1 (shut_bool Tryz.underlying4 _), (trodAll_cons_mk (Below.trod laidOut (by kernel_rfl) (of_decide_eq_true (by kernel_rfl)) k0 bel lt0) trodAll_mk0), rfl, bel.frame _, fun h => by cases h⟩
theorem over : Rows.fnExactElaborateRow.holds Tryz.pinned (OpenSpec.ofChange Rows.fnExactElaborateSpec) :=
  OpenClaim.holds_of_wide 3 Tryz.f3 rfl rfl rfl rfl rfl rfl rfl ⟨rfl, rfl, rfl, rfl, rfl⟩ rfl rfl rfl rfl rfl (by kernel_rfl) Tryz.func3 (by kernel_rfl)
    (of_decide_eq_true (by kernel_rfl)) (by unfold Func.isWrapper; first | (rw [if_pos (by decide +kernel)]; kernel_rfl) | (rw [if_neg (by decide +kernel)]; exact ⟨rfl, rfl⟩))
    (fun os started H enc _ => lifted os started H enc)
theorem proved : Rows.FnExactElaborateSaid := over
#print axioms proved
end Go.Proofs.YtiepmliokblkjaaGreat.fnExactElaborate
