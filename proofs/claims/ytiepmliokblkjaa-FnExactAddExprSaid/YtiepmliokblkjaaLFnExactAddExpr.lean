/- The law FnExactAddExpr returns true for every input and leaves its arguments as they were; no condition. -/
import Derived.Test.YtiepmliokblkjaaRows
import Derived.Test.YtiepmliokblkjaaLawAx
import Derived.Test.YtiepmliokblkjaaTrodO
import Derived.Test.YtiepmliokblkjaaIntSS
import Derived.Test.YtiepmliokblkjaaTrod
import Derived.Test.YtiepmliokblkjaaFrame
import Derived.WalkKit
import Derived.ProofKit
import Derived.OpenShut
import Derived.ShutString
import Derived.ChangeOld
import Derived.Below
set_option linter.all false
namespace Go.Proofs
open Go.Xw
set_option maxRecDepth 100000
attribute [local irreducible] Holds elemAddr

end Go.Proofs
namespace Go.Proofs.Ytiepmliokblkjaa.fnExactAddExpr
open Go.ChangeShapes Go.WideShapes Go.ChangeAt Go.RowKit Go.Xw
set_option linter.unusedVariables false
theorem own : ownKnob Try.prog.godebug = none := by kernel_rfl
theorem laidOut : laidOutB Try.prog = true := by kernel_rfl
set_option maxRecDepth 100000 in
theorem lifted (os : Os) (started : os.Started) (H : Type) (enc : TypeId × Value → H) :
    ReturnsInHanded {} Try.checked os 3 .any (Rows.fnExactAddExprSpec.pre6 enc Try.prog Try.f3 Rows.fnExactAddExprRow.domain false) (Rows.fnExactAddExprSpec.post enc Try.prog Try.f3 false true false false) := by
  refine returnsInHanded_of_change (C := Try.checked) own started (by kernel_rfl) Try.func3
    (ChangeSpec.witness6 (enc := enc) (C := Try.checked) false ⟨#[], #[.agg #[.int .i64 0, .slice none 0 0, .slice none 0 0, .slice none 0 0], .slice none 0 0, .slice none 0 0, .int .i64 0], []⟩ 3 (by kernel_rfl) (by kernel_rfl) (by kernel_rfl) (by kernel_rfl)) ?_
  intro W base args ds gs before hval0 hW hcnd _
  have hval : ∀ (j : Nat) t v, Try.f3.params[j]? = some t → args[j]? = some v → Value.okWide Try.prog W .any base t v := hval0
  have hW' := hW
  obtain ⟨p, q, hA0, hV, rfl, hfz, hnd⟩ := hW
  have hA : DataW.TrodAll enc Try.prog W 0 (fun _ => true) true Try.f3.params.toList args.toList ds p := hA0
  rw [Try.params3] at hA hval
  obtain ⟨v0, vs0, d0, ds0, p0, q0, hargs, rfl, rfl, h0, r0⟩ := trodAll_cons hA
  obtain ⟨v1, vs1, d1, ds1, p1, q1, rfl, rfl, rfl, h1, r1⟩ := trodAll_cons r0
  obtain ⟨v2, vs2, d2, ds2, p2, q2, rfl, rfl, rfl, h2, r2⟩ := trodAll_cons r1
  obtain ⟨v3, vs3, d3, ds3, p3, q3, rfl, rfl, rfl, h3, r3⟩ := trodAll_cons r2
  obtain ⟨rfl, rfl, rfl⟩ := trodAll_nil r3
  obtain rfl : args = #[v0, v1, v2, v3] := by cases args; simp_all
  obtain ⟨rfl, rfl⟩ := trodVars_none hV
  obtain ⟨cs0, rfl, _⟩ := okWide_struct Try.underlying26 (hval 0 26 v0 rfl rfl)
  have k0 := h0
  have lt0 : ∀ x ∈ p0, x.block < W.heap.size := by obtain ⟨m, hm⟩ := k0; exact DataW.trod_lt m _ _ _ hm
  obtain ⟨x0, hx0, Rx0, Mx0, Wx0, _⟩ : ∃ x : NetA, (Value.agg cs0) = x.v ∧ NetR W x ∧ NetM x.n ∧ NetW x.n ∧ i64R x.inputs := by
    obtain ⟨fuel, hf⟩ := h0
    obtain ⟨x, e, r⟩ := dec_net hf
    exact ⟨x, by unfold NetA.v; rw [← e]; rfl, r⟩
  rw [hx0] at k0
  obtain ⟨a1, len1, cap1, rfl⟩ := okWide_slice Try.underlying27 (hval 1 27 v1 rfl rfl)
  have k1 := h1
  have lt1 : ∀ x ∈ p1, x.block < W.heap.size := by obtain ⟨m, hm⟩ := k1; exact DataW.trod_lt m _ _ _ hm
  obtain ⟨x1, hx1, Rx1, Qx1, Mx1, Wx1⟩ : ∃ X : List (RowA Int), X.length = len1 ∧ Rd W a1 1 eRo X ∧ RsR W X ∧ X.length ≤ maxLen ∧ ∀ i, i < X.length → ((X.getD i default).ins.length ≤ maxLen ∧ ∀ j, j < (X.getD i default).ins.length → i64R ((X.getD i default).ins.getD j default)) := by
    obtain ⟨fuel, hf⟩ := h1
    obtain ⟨a, X, c, e, u1_, u2_, u3_⟩ := dec_intss hf
    simp [Value.cells] at e
    obtain ⟨rfl, rfl, rfl⟩ := e
    exact ⟨X, rfl, ⟨u1_⟩, ⟨fun r hr => by obtain ⟨j, hj, he⟩ := List.getElem_of_mem hr; have h := (u3_ j hj).1; rw [List.getD_eq_getElem?_getD, List.getElem?_eq_getElem hj] at h; rw [← he]; exact ⟨h⟩⟩, u2_, fun j hj => (u3_ j hj).2⟩
  subst hx1
  obtain ⟨a2, len2, cap2, rfl⟩ := okWide_slice Try.underlying28 (hval 2 28 v2 rfl rfl)
  have k2 := h2
  have lt2 : ∀ x ∈ p2, x.block < W.heap.size := by obtain ⟨m, hm⟩ := k2; exact DataW.trod_lt m _ _ _ hm
  obtain ⟨x2, hx2, Rx2, Mx2, Wx2⟩ : ∃ X : List OpL, X.length = len2 ∧ Rd W a2 3 eOp X ∧ X.length ≤ maxLen ∧ ∀ i, i < X.length → i64O (X.getD i default) := by
    obtain ⟨fuel, hf⟩ := h2
    obtain ⟨a, X, c, e, u1_, u2_, u3_⟩ := dec_ops hf
    simp [Value.cells] at e
    obtain ⟨rfl, rfl, rfl⟩ := e
    exact ⟨X, rfl, ⟨u1_⟩, u2_, u3_⟩
  subst hx2
  obtain ⟨x3, rfl, rfl, rfl, Wx3⟩ : ∃ x : Int, v3 = .int .i64 x ∧ d3 = .lit (.int .i64 x) ∧ p3 = [] ∧ (Lit.int .i64 x).wf = true := by
    obtain ⟨x, e1, e2, e3, e4⟩ := open_int Try.underlying3 (hval 3 3 v3 rfl rfl) h3; exact ⟨x, e1, e2, e3, e4⟩
  clear hA0 hval0
  have hcall : Calls Try.prog 3 #[x0.v, .slice a1 x1.length cap1, .slice a2 x2.length cap2, .int .i64 x3] W fun e w' => e = .returned (.bool true) ∧ Below W.heap.size W w' := Go.Xw.law_calls (FnExactAddExpr_h W x0 Rx0 Mx0 Wx0 a1 cap1 x1 Rx1 Qx1 Mx1 Wx1 a2 cap2 x2 Rx2 Mx2 Wx2 x3 (Go.Xw.wf_i64 Wx3))
  rw [hx0]
  refine hcall.mono fun e W' ⟨he, bel⟩ => ?_
  subst he
  rw [hx0] at hW'
  exact ⟨_, rfl, _, _, _, [], _, [], hW', trodAll_mk1 (shut_bool Try.underlying4 _), (trodAll_cons_mk (Below.trod laidOut (by kernel_rfl) (of_decide_eq_true (by kernel_rfl)) k0 bel lt0) (trodAll_cons_mk (Below.trod laidOut (by kernel_rfl) (of_decide_eq_true (by kernel_rfl)) k1 bel lt1) (trodAll_cons_mk (Below.trod laidOut (by kernel_rfl) (of_decide_eq_true (by kernel_rfl)) k2 bel lt2) (trodAll_cons_mk (shut_int Try.underlying3 Wx3) trodAll_mk0)))), rfl, bel.frame _, fun h => by cases h⟩
theorem over : Rows.fnExactAddExprRow.holds Try.pinned (OpenSpec.ofChange Rows.fnExactAddExprSpec) :=
  OpenClaim.holds_of_wide 3 Try.f3 rfl rfl rfl rfl rfl rfl rfl ⟨rfl, rfl, rfl, rfl, rfl⟩ rfl rfl rfl rfl rfl (by kernel_rfl) Try.func3 (by kernel_rfl)
    (of_decide_eq_true (by kernel_rfl)) (by unfold Func.isWrapper; first | (rw [if_pos (by decide +kernel)]; kernel_rfl) | (rw [if_neg (by decide +kernel)]; exact ⟨rfl, rfl⟩))
    (fun os started H enc _ => lifted os started H enc)
theorem proved : Rows.FnExactAddExprSaid := over
#print axioms proved
end Go.Proofs.Ytiepmliokblkjaa.fnExactAddExpr
