/- The law FnExactHeightCut returns true for every input and leaves its arguments as they were; no condition. -/
import Derived.Test.YtbjgekllkfnjnaaRows
import Derived.Test.YtbjgekllkfnjnaaLblY
import Derived.Test.YtbjgekllkfnjnaaTrod
import Derived.Test.YtbjgekllkfnjnaaFrame
import Derived.WalkKit
import Derived.ProofKit
import Derived.OpenShut
import Derived.ShutString
import Derived.ChangeOld
import Derived.Below
set_option linter.all false
namespace Go.Proofs
open Go.Xw
set_option maxRecDepth 100000
attribute [local irreducible] Holds elemAddr
set_option maxHeartbeats 4000000 in
theorem FnExactHeightCut_h (w0 : World) (x0 : NetA) (Rx0 : NetR w0 x0) (Mx0 : NetM x0.n) (Wx0 : NetW x0.n) (x1 : Int) (Wx1 : i64R x1) (x2 : Int) (Wx2 : i64R x2) :
    Ret Try.prog 7 [x0.v, .int .i64 x1, .int .i64 x2] w0 (fun v w => v = .bool true ∧ Ext w0 w) := by
  refine enter Try.S7ok _ _ rfl rfl (by show _ ≤ _; simp only [List.length]; decide) (fun C => ?_); have hp := Hp.nil w0; refine h_run rfl ?_; skip; (first | (refine H_box hp ?_; intro w b_x0 hx hp) | (refine H_alloc hp rfl ?_; intro w b_x0 hx hp)); refine ops_run nopre rfl ?_; (repeat (refine H_ldB hp rfl rfl ?_))
  refine h_call rfl Try.func19 (by kernel_rfl) rfl (szNet_h x0 1048576 _ hp.net Mx0 (by decide) (by decide)) ?_; rintro _ w ⟨⟨zx0, rfl, hz⟩, hx⟩; have hp := hp.ext hx; refine ops_run nopre rfl ?_; skip
  rcases hz with rfl | ⟨hz0x0, hz1x0, Sx0⟩
  · refine h_cond_t rfl rfl ?_; (repeat (refine R_ret ?_))
    exact ⟨rfl, hp.x⟩
  · refine h_cond_f (decide_eq_false (by omega)) rfl ?_; (repeat (refine H_ldB hp rfl rfl ?_))
    refine h_call rfl Try.func21 (by kernel_rfl) rfl (toNet_h x0 _ hp.net Sx0) ?_; rintro _ w ⟨y1, ⟨e1, rfl⟩, hq⟩; have hx := hq.x; have hp := hp.call1 hq; refine ops_run nopre rfl ?_; skip
    have s1 : NetS y1.n := by rw [e1]; exact Sx0
    have v1 : NetW y1.n := by rw [e1]; exact Wx0
    refine h_call rfl Try.func30 (by kernel_rfl) rfl (specHeightCut_x y1 x1 x2 _ hp.net s1 v1 Wx1 Wx2) ?_; rintro _ w ⟨aS, cS, rfl, hq⟩; have hx := hq.x; have hp := hp.call1 hq; refine ops_run nopre rfl ?_; (repeat (refine H_ldB hp rfl rfl ?_))
    refine h_call rfl Try.func21 (by kernel_rfl) rfl (toNet_h x0 _ hp.net Sx0) ?_; rintro _ w ⟨y4, ⟨e4, rfl⟩, hq⟩; have hx := hq.x; have hp := hp.call1 hq; refine ops_run nopre rfl ?_; skip
    have s4 : NetS y4.n := by rw [e4]; exact Sx0
    have v4 : NetW y4.n := by rw [e4]; exact Wx0
    (first | (refine H_box hp ?_; intro w q4 hx hp) | (refine H_alloc hp rfl ?_; intro w q4 hx hp)); refine ops_run nopre rfl ?_; (repeat (first | (refine gLoad ?_; refine H_ldB hp rfl rfl ?_) | (refine gStore ?_; refine U_stBN hp rfl rfl rfl rfl ?_; intro w hp; refine ops_run nopre rfl ?_)))
    refine h_call rfl Try.func31 (by kernel_rfl) rfl (implHeightCut_x y4 x1 x2 _ hp.net s4 v4 Wx1 Wx2) ?_; rintro _ w ⟨aG, cG, rfl, hq⟩; have hx := hq.x; have hp := hp.call1 hq; refine ops_run nopre rfl ?_; skip
    refine h_call rfl Try.func24 (by kernel_rfl) rfl ((eqIntS_h _ _ _ _ _ _ _ hp.rd hp.rd (lenHgt y4.n x1 x2) (lenHgt y1.n x1 x2)).yes (by simp only [e1, e4])) ?_; rintro _ w ⟨rfl, hx⟩; have hp := hp.ext hx; refine ops_run nopre rfl ?_; (repeat (refine h_guard_y rfl nopre rfl ?_))
    refine h_cond_f (by simp [e1, e4]) rfl ?_; skip
    refine D_draw hp (by kernel_rfl) (by kernel_rfl) rfl rfl ?_; intro w hx hp; have hs := hp; (repeat (refine D_ldB rfl rfl rfl ?_))
    refine h_callq rfl Try.func21 (by kernel_rfl) rfl (toNet_h x0 _ hp.net Sx0) ?_; rintro _ w ⟨y7, ⟨e7, rfl⟩, hq⟩; have hx := hq.x; have hp := hp.call1 hq; have hs := hs.ext hx; refine ⟨fun _ => hs, ?_⟩; refine D_ops rfl rfl ?_; skip
    have s7 : NetS y7.n := by rw [e7]; exact Sx0
    have v7 : NetW y7.n := by rw [e7]; exact Wx0
    refine h_callq rfl Try.func23 (by kernel_rfl) rfl ((eqNet_h y4 y7 _ hp.net hp.net s4 s7).yes (by rw [e4, e7])) ?_; rintro _ w ⟨rfl, hx⟩; have hp := hp.ext hx; have hs := hs.ext hx; refine ⟨fun _ => hs, ?_⟩; refine D_ops rfl rfl ?_; skip
    refine h_cond_f rfl rfl ?_; (repeat (refine H_ldB hp rfl rfl ?_))
    have hk4 := kNet_le (k := 1) s4
    refine h_call rfl Try.func26 (by kernel_rfl) rfl (markNet_u hp (x := y4) (1) s4 (by omega) (by omega)) ?_; rintro _ w ⟨rfl, hp⟩; refine ops_run nopre rfl ?_; skip
    try (refine h_guard_by (fun h => ?_) (fun h => ?_); (exfalso; replace h := of_decide_eq_true h; omega); rw [h]; clear h; (repeat (refine h_guard_y rfl nopre rfl ?_)))
    refine h_call rfl Try.func24 (by kernel_rfl) rfl ((eqIntS_h _ _ _ _ _ _ _ hp.rd hp.rd (lenHgt y4.n x1 x2) (lenHgt y1.n x1 x2)).yes (by simp only [e1, e4, e7])) ?_; rintro _ w ⟨rfl, hx⟩; have hp := hp.ext hx; refine ops_run nopre rfl ?_; (repeat (refine h_guard_y rfl nopre rfl ?_))
    refine h_cond_f (by simp [e1, e4, e7]) rfl ?_; skip
    have hL : (hgtF y4.n x1 x2).length < 1000000000 := lenHgt y4.n x1 x2
    refine h_call rfl Try.func27 (by kernel_rfl) rfl (markIntS_h hp 1 hL (by decide) (by decide)) ?_; rintro _ w ⟨rfl, hp⟩; refine ops_run nopre rfl ?_; skip
    refine h_call rfl Try.func28 (by kernel_rfl) rfl (heldIntS_h _ _ _ 1 _ hp.rd hL (by decide) (by decide)) ?_; rintro _ w ⟨rfl, hx⟩; have hp := hp.ext hx; refine ops_run nopre rfl ?_; skip
    refine h_cond_f (by simp; try omega) rfl ?_; skip
    refine h_cond_f (by simp) rfl ?_; (repeat (refine H_ldB hp rfl rfl ?_))
    refine h_call rfl Try.func21 (by kernel_rfl) rfl (toNet_h x0 _ hp.net Sx0) ?_; rintro _ w ⟨y8, ⟨e8, rfl⟩, hq⟩; have hx := hq.x; have hp := hp.call1 hq; refine ops_run nopre rfl ?_; skip
    have s8 : NetS y8.n := by rw [e8]; exact Sx0
    have v8 : NetW y8.n := by rw [e8]; exact Wx0
    refine h_call rfl Try.func31 (by kernel_rfl) rfl (implHeightCut_x y8 x1 x2 _ hp.net s8 v8 Wx1 Wx2) ?_; rintro _ w ⟨aH, cH, rfl, hq⟩; have hx := hq.x; have hp := hp.call1 hq; refine ops_run nopre rfl ?_; skip
    refine h_call rfl Try.func24 (by kernel_rfl) rfl ((eqIntS_h _ _ _ _ _ _ _ hp.rd hp.rd (lenHgt y8.n x1 x2) (lenHgt y1.n x1 x2)).yes (by simp only [e1, e4, e7, e8])) ?_; rintro _ w ⟨rfl, hx⟩; have hp := hp.ext hx; refine ops_run nopre rfl ?_; (repeat (refine h_guard_y rfl nopre rfl ?_))
    refine h_cond_f (by simp [e1, e4, e7, e8]) rfl ?_; skip
    refine h_call rfl Try.func28 (by kernel_rfl) rfl (heldIntS_h _ _ _ 1 _ hp.rd hL (by decide) (by decide)) ?_; rintro _ w ⟨rfl, hx⟩; have hp := hp.ext hx; refine ops_run nopre rfl ?_; skip
    refine h_cond_f (by simp; try omega) rfl ?_; skip
    refine h_cond_f (by simp) rfl ?_; (repeat (refine R_ret ?_))
    exact ⟨rfl, hp.x⟩
end Go.Proofs
namespace Go.Proofs.Ytbjgekllkfnjnaa.fnExactHeightCut
open Go.ChangeShapes Go.WideShapes Go.ChangeAt Go.RowKit Go.Xw
set_option linter.unusedVariables false
theorem own : ownKnob Try.prog.godebug = none := by kernel_rfl
theorem laidOut : laidOutB Try.prog = true := by kernel_rfl
set_option maxRecDepth 100000 in
theorem lifted (os : Os) (started : os.Started) (H : Type) (enc : TypeId × Value → H) :
    ReturnsInHanded {} Try.checked os 7 .any (Rows.fnExactHeightCutSpec.pre6 enc Try.prog Try.f7 Rows.fnExactHeightCutRow.domain false) (Rows.fnExactHeightCutSpec.post enc Try.prog Try.f7 false true false false) := by
  refine returnsInHanded_of_change (C := Try.checked) own started (by kernel_rfl) Try.func7
    (ChangeSpec.witness6 (enc := enc) (C := Try.checked) false ⟨#[], #[.agg #[.int .i64 0, .slice none 0 0, .slice none 0 0, .slice none 0 0], .int .i64 0, .int .i64 0], []⟩ 7 (by kernel_rfl) (by kernel_rfl) (by kernel_rfl) (by kernel_rfl)) ?_
  intro W base args ds gs before hval0 hW hcnd _
  have hval : ∀ (j : Nat) t v, Try.f7.params[j]? = some t → args[j]? = some v → Value.okWide Try.prog W .any base t v := hval0
  have hW' := hW
  obtain ⟨p, q, hA0, hV, rfl, hfz, hnd⟩ := hW
  have hA : DataW.TrodAll enc Try.prog W 0 (fun _ => true) true Try.f7.params.toList args.toList ds p := hA0
  rw [Try.params7] at hA hval
  obtain ⟨v0, vs0, d0, ds0, p0, q0, hargs, rfl, rfl, h0, r0⟩ := trodAll_cons hA
  obtain ⟨v1, vs1, d1, ds1, p1, q1, rfl, rfl, rfl, h1, r1⟩ := trodAll_cons r0
  obtain ⟨v2, vs2, d2, ds2, p2, q2, rfl, rfl, rfl, h2, r2⟩ := trodAll_cons r1
  obtain ⟨rfl, rfl, rfl⟩ := trodAll_nil r2
  obtain rfl : args = #[v0, v1, v2] := by cases args; simp_all
  obtain ⟨rfl, rfl⟩ := trodVars_none hV
  obtain ⟨cs0, rfl, _⟩ := okWide_struct Try.underlying42 (hval 0 42 v0 rfl rfl)
  have k0 := h0
  have lt0 : ∀ x ∈ p0, x.block < W.heap.size := by obtain ⟨m, hm⟩ := k0; exact DataW.trod_lt m _ _ _ hm
  obtain ⟨x0, hx0, Rx0, Mx0, Wx0, _⟩ : ∃ x : NetA, (Value.agg cs0) = x.v ∧ NetR W x ∧ NetM x.n ∧ NetW x.n ∧ i64R x.inputs := by
    obtain ⟨fuel, hf⟩ := h0
    obtain ⟨x, e, r⟩ := dec_net hf
    exact ⟨x, by unfold NetA.v; rw [← e]; rfl, r⟩
  rw [hx0] at k0
  obtain ⟨x1, rfl, rfl, rfl, Wx1⟩ : ∃ x : Int, v1 = .int .i64 x ∧ d1 = .lit (.int .i64 x) ∧ p1 = [] ∧ (Lit.int .i64 x).wf = true := by
    obtain ⟨x, e1, e2, e3, e4⟩ := open_int Try.underlying3 (hval 1 3 v1 rfl rfl) h1; exact ⟨x, e1, e2, e3, e4⟩
  obtain ⟨x2, rfl, rfl, rfl, Wx2⟩ : ∃ x : Int, v2 = .int .i64 x ∧ d2 = .lit (.int .i64 x) ∧ p2 = [] ∧ (Lit.int .i64 x).wf = true := by
    obtain ⟨x, e1, e2, e3, e4⟩ := open_int Try.underlying3 (hval 2 3 v2 rfl rfl) h2; exact ⟨x, e1, e2, e3, e4⟩
  clear hA0 hval0
  have hcall : Calls Try.prog 7 #[x0.v, .int .i64 x1, .int .i64 x2] W fun e w' => e = .returned (.bool true) ∧ Below W.heap.size W w' := Go.Xw.law_calls (FnExactHeightCut_h W x0 Rx0 Mx0 Wx0 x1 (Go.Xw.wf_i64 Wx1) x2 (Go.Xw.wf_i64 Wx2))
  rw [hx0]
  refine hcall.mono fun e W' ⟨he, bel⟩ => ?_
  subst he
  rw [hx0] at hW'
  exact ⟨_, rfl, _, _, _, [], _, [], hW', trodAll_mk1 (shut_bool Try.underlying4 _), (trodAll_cons_mk (Below.trod laidOut (by kernel_rfl) (of_decide_eq_true (by kernel_rfl)) k0 bel lt0) (trodAll_cons_mk (shut_int Try.underlying3 Wx1) (trodAll_cons_mk (shut_int Try.underlying3 Wx2) trodAll_mk0))), rfl, bel.frame _, fun h => by cases h⟩
theorem over : Rows.fnExactHeightCutRow.holds Try.pinned (OpenSpec.ofChange Rows.fnExactHeightCutSpec) :=
  OpenClaim.holds_of_wide 7 Try.f7 rfl rfl rfl rfl rfl rfl rfl ⟨rfl, rfl, rfl, rfl, rfl⟩ rfl rfl rfl rfl rfl (by kernel_rfl) Try.func7 (by kernel_rfl)
    (of_decide_eq_true (by kernel_rfl)) (by unfold Func.isWrapper; first | (rw [if_pos (by decide +kernel)]; kernel_rfl) | (rw [if_neg (by decide +kernel)]; exact ⟨rfl, rfl⟩))
    (fun os started H enc _ => lifted os started H enc)
theorem proved : Rows.FnExactHeightCutSaid := over
#print axioms proved
end Go.Proofs.Ytbjgekllkfnjnaa.fnExactHeightCut
