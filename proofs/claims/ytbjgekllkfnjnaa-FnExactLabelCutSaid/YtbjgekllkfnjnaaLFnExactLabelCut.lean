/- The law FnExactLabelCut returns true for every input and leaves its arguments as they were; no condition. -/
import Derived.Test.YtbjgekllkfnjnaaRows
import Derived.Test.YtbjgekllkfnjnaaLblY
import Derived.Test.YtbjgekllkfnjnaaTrod
import Derived.Test.YtbjgekllkfnjnaaFrame
import Derived.WalkKit
import Derived.ProofKit
import Derived.OpenShut
import Derived.ShutString
import Derived.ChangeOld
import Derived.Below
set_option linter.all false
namespace Go.Proofs
open Go.Xw
set_option maxRecDepth 100000
attribute [local irreducible] Holds elemAddr
set_option maxHeartbeats 4000000 in
theorem FnExactLabelCut_h (w0 : World) (x0 : NetA) (Rx0 : NetR w0 x0) (Mx0 : NetM x0.n) (Wx0 : NetW x0.n) (x1 : Int) (Wx1 : i64R x1) :
    Ret Try.prog 6 [x0.v, .int .i64 x1] w0 (fun v w => v = .bool true ∧ Ext w0 w) := by
  refine enter Try.S6ok _ _ rfl rfl (by show _ ≤ _; simp only [List.length]; decide) (fun C => ?_); have hp := Hp.nil w0; refine h_run rfl ?_; skip; (first | (refine H_box hp ?_; intro w b_x0 hx hp) | (refine H_alloc hp rfl ?_; intro w b_x0 hx hp)); refine ops_run nopre rfl ?_; (repeat (refine H_ldB hp rfl rfl ?_))
  refine h_call rfl Try.func19 (by kernel_rfl) rfl (szNet_h x0 1048576 _ hp.net Mx0 (by decide) (by decide)) ?_; rintro _ w ⟨⟨zx0, rfl, hz⟩, hx⟩; have hp := hp.ext hx; refine ops_run nopre rfl ?_; skip
  rcases hz with rfl | ⟨hz0x0, hz1x0, Sx0⟩
  · refine h_cond_t rfl rfl ?_; (repeat (refine R_ret ?_))
    exact ⟨rfl, hp.x⟩
  · refine h_cond_f (decide_eq_false (by omega)) rfl ?_; (repeat (refine H_ldB hp rfl rfl ?_))
    refine h_call rfl Try.func21 (by kernel_rfl) rfl (toNet_h x0 _ hp.net Sx0) ?_; rintro _ w ⟨y1, ⟨e1, rfl⟩, hq⟩; have hx := hq.x; have hp := hp.call1 hq; refine ops_run nopre rfl ?_; skip
    have s1 : NetS y1.n := by rw [e1]; exact Sx0
    have v1 : NetW y1.n := by rw [e1]; exact Wx0
    refine h_call rfl Try.func29 (by kernel_rfl) rfl (specLabelCut_x y1 x1 _ hp.net s1 v1 Wx1) ?_; rintro _ w ⟨aS, cS, rfl, hq⟩; have hx := hq.x; have hp := hp.call1 hq; refine ops_run nopre rfl ?_; (repeat (refine H_ldB hp rfl rfl ?_))
    refine h_call rfl Try.func21 (by kernel_rfl) rfl (toNet_h x0 _ hp.net Sx0) ?_; rintro _ w ⟨y3, ⟨e3, rfl⟩, hq⟩; have hx := hq.x; have hp := hp.call1 hq; refine ops_run nopre rfl ?_; skip
    have s3 : NetS y3.n := by rw [e3]; exact Sx0
    have v3 : NetW y3.n := by rw [e3]; exact Wx0
    (first | (refine H_box hp ?_; intro w q3 hx hp) | (refine H_alloc hp rfl ?_; intro w q3 hx hp)); refine ops_run nopre rfl ?_; (repeat (first | (refine gLoad ?_; refine H_ldB hp rfl rfl ?_) | (refine gStore ?_; refine U_stBN hp rfl rfl rfl rfl ?_; intro w hp; refine ops_run nopre rfl ?_)))
    refine h_call rfl Try.func14 (by kernel_rfl) rfl (implLabelCut_x y3 x1 _ hp.net s3 v3 Wx1) ?_; rintro _ w ⟨aG, cG, rfl, hq⟩; have hx := hq.x; have hp := hp.call1 hq; refine ops_run nopre rfl ?_; skip
    refine h_call rfl Try.func24 (by kernel_rfl) rfl ((eqIntS_h _ _ _ _ _ _ _ hp.rd hp.rd (lenLct y3.n x1) (lenLct y1.n x1)).yes (by simp only [e1, e3])) ?_; rintro _ w ⟨rfl, hx⟩; have hp := hp.ext hx; refine ops_run nopre rfl ?_; skip
    refine h_cond_f rfl rfl ?_; skip
    refine D_draw hp (by kernel_rfl) (by kernel_rfl) rfl rfl ?_; intro w hx hp; have hs := hp; (repeat (refine D_ldB rfl rfl rfl ?_))
    refine h_callq rfl Try.func21 (by kernel_rfl) rfl (toNet_h x0 _ hp.net Sx0) ?_; rintro _ w ⟨y5, ⟨e5, rfl⟩, hq⟩; have hx := hq.x; have hp := hp.call1 hq; have hs := hs.ext hx; refine ⟨fun _ => hs, ?_⟩; refine D_ops rfl rfl ?_; skip
    have s5 : NetS y5.n := by rw [e5]; exact Sx0
    have v5 : NetW y5.n := by rw [e5]; exact Wx0
    refine h_callq rfl Try.func23 (by kernel_rfl) rfl ((eqNet_h y3 y5 _ hp.net hp.net s3 s5).yes (by rw [e3, e5])) ?_; rintro _ w ⟨rfl, hx⟩; have hp := hp.ext hx; have hs := hs.ext hx; refine ⟨fun _ => hs, ?_⟩; refine D_ops rfl rfl ?_; skip
    refine h_cond_f rfl rfl ?_; (repeat (refine H_ldB hp rfl rfl ?_))
    have hk3 := kNet_le (k := 1) s3
    refine h_call rfl Try.func26 (by kernel_rfl) rfl (markNet_u hp (x := y3) (1) s3 (by omega) (by omega)) ?_; rintro _ w ⟨rfl, hp⟩; refine ops_run nopre rfl ?_; skip
    try (refine h_guard_by (fun h => ?_) (fun h => ?_); (exfalso; replace h := of_decide_eq_true h; omega); rw [h]; clear h; (repeat (refine h_guard_y rfl nopre rfl ?_)))
    refine h_call rfl Try.func24 (by kernel_rfl) rfl ((eqIntS_h _ _ _ _ _ _ _ hp.rd hp.rd (lenLct y3.n x1) (lenLct y1.n x1)).yes (by simp only [e1, e3, e5])) ?_; rintro _ w ⟨rfl, hx⟩; have hp := hp.ext hx; refine ops_run nopre rfl ?_; (repeat (refine h_guard_y rfl nopre rfl ?_))
    refine h_cond_f rfl rfl ?_; skip
    have hL : (lctF y3.n x1).length < 1000000000 := lenLct y3.n x1
    refine h_call rfl Try.func27 (by kernel_rfl) rfl (markIntS_h hp 1 hL (by decide) (by decide)) ?_; rintro _ w ⟨rfl, hp⟩; refine ops_run nopre rfl ?_; skip
    refine h_call rfl Try.func28 (by kernel_rfl) rfl (heldIntS_h _ _ _ 1 _ hp.rd hL (by decide) (by decide)) ?_; rintro _ w ⟨rfl, hx⟩; have hp := hp.ext hx; refine ops_run nopre rfl ?_; skip
    refine h_cond_f (by simp; try omega) rfl ?_; skip
    refine h_cond_f (by simp) rfl ?_; (repeat (refine H_ldB hp rfl rfl ?_))
    refine h_call rfl Try.func21 (by kernel_rfl) rfl (toNet_h x0 _ hp.net Sx0) ?_; rintro _ w ⟨y6, ⟨e6, rfl⟩, hq⟩; have hx := hq.x; have hp := hp.call1 hq; refine ops_run nopre rfl ?_; skip
    have s6 : NetS y6.n := by rw [e6]; exact Sx0
    have v6 : NetW y6.n := by rw [e6]; exact Wx0
    refine h_call rfl Try.func14 (by kernel_rfl) rfl (implLabelCut_x y6 x1 _ hp.net s6 v6 Wx1) ?_; rintro _ w ⟨aH, cH, rfl, hq⟩; have hx := hq.x; have hp := hp.call1 hq; refine ops_run nopre rfl ?_; skip
    refine h_call rfl Try.func24 (by kernel_rfl) rfl ((eqIntS_h _ _ _ _ _ _ _ hp.rd hp.rd (lenLct y6.n x1) (lenLct y1.n x1)).yes (by simp only [e1, e3, e5, e6])) ?_; rintro _ w ⟨rfl, hx⟩; have hp := hp.ext hx; refine ops_run nopre rfl ?_; skip
    refine h_cond_f rfl rfl ?_; skip
    refine h_call rfl Try.func28 (by kernel_rfl) rfl (heldIntS_h _ _ _ 1 _ hp.rd hL (by decide) (by decide)) ?_; rintro _ w ⟨rfl, hx⟩; have hp := hp.ext hx; refine ops_run nopre rfl ?_; skip
    refine h_cond_f (by simp; try omega) rfl ?_; skip
    refine h_cond_f (by simp) rfl ?_; (repeat (refine R_ret ?_))
    exact ⟨rfl, hp.x⟩
end Go.Proofs
namespace Go.Proofs.Ytbjgekllkfnjnaa.fnExactLabelCut
open Go.ChangeShapes Go.WideShapes Go.ChangeAt Go.RowKit Go.Xw
set_option linter.unusedVariables false
theorem own : ownKnob Try.prog.godebug = none := by kernel_rfl
theorem laidOut : laidOutB Try.prog = true := by kernel_rfl
set_option maxRecDepth 100000 in
theorem lifted (os : Os) (started : os.Started) (H : Type) (enc : TypeId × Value → H) :
    ReturnsInHanded {} Try.checked os 6 .any (Rows.fnExactLabelCutSpec.pre6 enc Try.prog Try.f6 Rows.fnExactLabelCutRow.domain false) (Rows.fnExactLabelCutSpec.post enc Try.prog Try.f6 false true false false) := by
  refine returnsInHanded_of_change (C := Try.checked) own started (by kernel_rfl) Try.func6
    (ChangeSpec.witness6 (enc := enc) (C := Try.checked) false ⟨#[], #[.agg #[.int .i64 0, .slice none 0 0, .slice none 0 0, .slice none 0 0], .int .i64 0], []⟩ 6 (by kernel_rfl) (by kernel_rfl) (by kernel_rfl) (by kernel_rfl)) ?_
  intro W base args ds gs before hval0 hW hcnd _
  have hval : ∀ (j : Nat) t v, Try.f6.params[j]? = some t → args[j]? = some v → Value.okWide Try.prog W .any base t v := hval0
  have hW' := hW
  obtain ⟨p, q, hA0, hV, rfl, hfz, hnd⟩ := hW
  have hA : DataW.TrodAll enc Try.prog W 0 (fun _ => true) true Try.f6.params.toList args.toList ds p := hA0
  rw [Try.params6] at hA hval
  obtain ⟨v0, vs0, d0, ds0, p0, q0, hargs, rfl, rfl, h0, r0⟩ := trodAll_cons hA
  obtain ⟨v1, vs1, d1, ds1, p1, q1, rfl, rfl, rfl, h1, r1⟩ := trodAll_cons r0
  obtain ⟨rfl, rfl, rfl⟩ := trodAll_nil r1
  obtain rfl : args = #[v0, v1] := by cases args; simp_all
  obtain ⟨rfl, rfl⟩ := trodVars_none hV
  obtain ⟨cs0, rfl, _⟩ := okWide_struct Try.underlying42 (hval 0 42 v0 rfl rfl)
  have k0 := h0
  have lt0 : ∀ x ∈ p0, x.block < W.heap.size := by obtain ⟨m, hm⟩ := k0; exact DataW.trod_lt m _ _ _ hm
  obtain ⟨x0, hx0, Rx0, Mx0, Wx0, _⟩ : ∃ x : NetA, (Value.agg cs0) = x.v ∧ NetR W x ∧ NetM x.n ∧ NetW x.n ∧ i64R x.inputs := by
    obtain ⟨fuel, hf⟩ := h0
    obtain ⟨x, e, r⟩ := dec_net hf
    exact ⟨x, by unfold NetA.v; rw [← e]; rfl, r⟩
  rw [hx0] at k0
  obtain ⟨x1, rfl, rfl, rfl, Wx1⟩ : ∃ x : Int, v1 = .int .i64 x ∧ d1 = .lit (.int .i64 x) ∧ p1 = [] ∧ (Lit.int .i64 x).wf = true := by
    obtain ⟨x, e1, e2, e3, e4⟩ := open_int Try.underlying3 (hval 1 3 v1 rfl rfl) h1; exact ⟨x, e1, e2, e3, e4⟩
  clear hA0 hval0
  have hcall : Calls Try.prog 6 #[x0.v, .int .i64 x1] W fun e w' => e = .returned (.bool true) ∧ Below W.heap.size W w' := Go.Xw.law_calls (FnExactLabelCut_h W x0 Rx0 Mx0 Wx0 x1 (Go.Xw.wf_i64 Wx1))
  rw [hx0]
  refine hcall.mono fun e W' ⟨he, bel⟩ => ?_
  subst he
  rw [hx0] at hW'
  exact ⟨_, rfl, _, _, _, [], _, [], hW', trodAll_mk1 (shut_bool Try.underlying4 _), (trodAll_cons_mk (Below.trod laidOut (by kernel_rfl) (of_decide_eq_true (by kernel_rfl)) k0 bel lt0) (trodAll_cons_mk (shut_int Try.underlying3 Wx1) trodAll_mk0)), rfl, bel.frame _, fun h => by cases h⟩
theorem over : Rows.fnExactLabelCutRow.holds Try.pinned (OpenSpec.ofChange Rows.fnExactLabelCutSpec) :=
  OpenClaim.holds_of_wide 6 Try.f6 rfl rfl rfl rfl rfl rfl rfl ⟨rfl, rfl, rfl, rfl, rfl⟩ rfl rfl rfl rfl rfl (by kernel_rfl) Try.func6 (by kernel_rfl)
    (of_decide_eq_true (by kernel_rfl)) (by unfold Func.isWrapper; first | (rw [if_pos (by decide +kernel)]; kernel_rfl) | (rw [if_neg (by decide +kernel)]; exact ⟨rfl, rfl⟩))
    (fun os started H enc _ => lifted os started H enc)
theorem proved : Rows.FnExactLabelCutSaid := over
#print axioms proved
end Go.Proofs.Ytbjgekllkfnjnaa.fnExactLabelCut
