/- The law FnExactCutHeight returns true for every input and leaves its arguments as they were; no condition. -/
import Derived.Test.YtbjgekllkfnjnaaRows
import Derived.Test.YtbjgekllkfnjnaaLblY
import Derived.Test.YtbjgekllkfnjnaaTrod
import Derived.Test.YtbjgekllkfnjnaaFrame
import Derived.WalkKit
import Derived.ProofKit
import Derived.OpenShut
import Derived.ShutString
import Derived.ChangeOld
import Derived.Below
set_option linter.all false
namespace Go.Proofs
open Go.Xw
set_option maxRecDepth 100000
attribute [local irreducible] Holds elemAddr
set_option maxHeartbeats 4000000 in
theorem FnExactCutHeight_h (w0 : World) (x0 : NetA) (Rx0 : NetR w0 x0) (Mx0 : NetM x0.n) (Wx0 : NetW x0.n) (Ax1 : Option Addr) (Cx1 : Nat) (x1 : List Int) (Rx1 : Rd w0 Ax1 1 eI x1) (Mx1 : x1.length ≤ maxLen) (Wx1 : ∀ i, i < x1.length → i64R (x1.getD i default)) :
    Ret Try.prog 4 [x0.v, .slice Ax1 x1.length Cx1] w0 (fun v w => v = .bool true ∧ Ext w0 w) := by
  have Mx1 : (x1.length : Int) ≤ 9223372036854775807 := by unfold maxLen at Mx1; omega
  refine enter Try.S4ok _ _ rfl rfl (by show _ ≤ _; simp only [List.length]; decide) (fun C => ?_); have hp := Hp.nil w0; refine h_run rfl ?_; skip; (first | (refine H_box hp ?_; intro w b_x0 hx hp) | (refine H_alloc hp rfl ?_; intro w b_x0 hx hp)); refine ops_run nopre rfl ?_; skip
  refine h_cond_dec (fun hbigx1 => ?_) (fun hbigx1 => ?_)
  · refine h_cond_t rfl rfl ?_; (repeat (refine R_ret ?_))
    exact ⟨rfl, hp.x⟩
  · have Lx1 : x1.length ≤ 1048576 := by omega
    refine h_cond_f rfl rfl ?_; (repeat (refine H_ldB hp rfl rfl ?_))
    refine h_call rfl Try.func19 (by kernel_rfl) rfl (szNet_h x0 1048576 _ hp.net Mx0 (by decide) (by decide)) ?_; rintro _ w ⟨⟨zx0, rfl, hz⟩, hx⟩; have hp := hp.ext hx; refine ops_run nopre rfl ?_; skip
    rcases hz with rfl | ⟨hz0x0, hz1x0, Sx0⟩
    · refine h_cond_t rfl rfl ?_; (repeat (refine R_ret ?_))
      exact ⟨rfl, hp.x⟩
    · refine h_cond_f (decide_eq_false (by omega)) rfl ?_; (repeat (refine H_ldB hp rfl rfl ?_))
      refine h_call rfl Try.func21 (by kernel_rfl) rfl (toNet_h x0 _ hp.net Sx0) ?_; rintro _ w ⟨y1, ⟨e1, rfl⟩, hq⟩; have hx := hq.x; have hp := hp.call1 hq; refine ops_run nopre rfl ?_; skip
      have s1 : NetS y1.n := by rw [e1]; exact Sx0
      have v1 : NetW y1.n := by rw [e1]; exact Wx0
      refine h_call rfl Try.func22 (by kernel_rfl) rfl (toIntS_h Ax1 Cx1 x1 _ hp.rd (by omega)) ?_; rintro _ w ⟨y2, rfl, hq⟩; have hx := hq.x; have hp := hp.call1 hq; refine ops_run nopre rfl ?_; skip
      refine h_call rfl Try.func20 (by kernel_rfl) rfl (specCutHeight_y y1 (some ⟨y2, 0, none⟩) x1.length x1 _ hp.net s1 v1 hp.rd Lx1 Wx1) ?_; rintro _ w ⟨rfl, hx⟩; have hp := hp.ext hx; refine ops_run nopre rfl ?_; (repeat (refine H_ldB hp rfl rfl ?_))
      refine h_call rfl Try.func21 (by kernel_rfl) rfl (toNet_h x0 _ hp.net Sx0) ?_; rintro _ w ⟨y3, ⟨e3, rfl⟩, hq⟩; have hx := hq.x; have hp := hp.call1 hq; refine ops_run nopre rfl ?_; skip
      have s3 : NetS y3.n := by rw [e3]; exact Sx0
      have v3 : NetW y3.n := by rw [e3]; exact Wx0
      (first | (refine H_box hp ?_; intro w q3 hx hp) | (refine H_alloc hp rfl ?_; intro w q3 hx hp)); refine ops_run nopre rfl ?_; (repeat (refine U_stBN hp rfl rfl rfl rfl ?_; intro w hp; refine ops_run nopre rfl ?_))
      refine h_call rfl Try.func22 (by kernel_rfl) rfl (toIntS_h Ax1 Cx1 x1 _ hp.rd (by omega)) ?_; rintro _ w ⟨y4, rfl, hq⟩; have hx := hq.x; have hp := hp.call1 hq; refine ops_run nopre rfl ?_; (repeat (refine H_ldB hp rfl rfl ?_))
      refine h_call rfl Try.func17 (by kernel_rfl) rfl (implCutHeight_y y3 (some ⟨y4, 0, none⟩) x1.length x1 _ hp.net s3 v3 hp.rd Lx1 Wx1) ?_; rintro _ w ⟨rfl, hx⟩; have hp := hp.ext hx; refine ops_run nopre rfl ?_; skip
      refine h_cond_f (by simp [e1, e3]) rfl ?_; skip
      refine D_draw hp (by kernel_rfl) (by kernel_rfl) rfl rfl ?_; intro w hx hp; have hs := hp; (repeat (refine D_ldB rfl rfl rfl ?_))
      refine h_callq rfl Try.func21 (by kernel_rfl) rfl (toNet_h x0 _ hp.net Sx0) ?_; rintro _ w ⟨y5, ⟨e5, rfl⟩, hq⟩; have hx := hq.x; have hp := hp.call1 hq; have hs := hs.ext hx; refine ⟨fun _ => hs, ?_⟩; refine D_ops rfl rfl ?_; skip
      have s5 : NetS y5.n := by rw [e5]; exact Sx0
      have v5 : NetW y5.n := by rw [e5]; exact Wx0
      refine h_callq rfl Try.func23 (by kernel_rfl) rfl ((eqNet_h y3 y5 _ hp.net hp.net s3 s5).yes (by rw [e3, e5])) ?_; rintro _ w ⟨rfl, hx⟩; have hp := hp.ext hx; have hs := hs.ext hx; refine ⟨fun _ => hs, ?_⟩; refine D_ops rfl rfl ?_; skip
      refine h_cond_f rfl rfl ?_; skip
      refine h_call rfl Try.func22 (by kernel_rfl) rfl (toIntS_h Ax1 Cx1 x1 _ hp.rd (by omega)) ?_; rintro _ w ⟨y6, rfl, hq⟩; have hx := hq.x; have hp := hp.call1 hq; refine ops_run nopre rfl ?_; skip
      refine h_call rfl Try.func24 (by kernel_rfl) rfl ((eqIntS_h _ _ _ _ x1 x1 _ hp.rd hp.rd (by omega) (by omega)).yes rfl) ?_; rintro _ w ⟨rfl, hx⟩; have hp := hp.ext hx; refine ops_run nopre rfl ?_; skip
      refine h_cond_f rfl rfl ?_; (repeat (refine R_ret ?_))
      exact ⟨rfl, hp.x⟩
end Go.Proofs
namespace Go.Proofs.Ytbjgekllkfnjnaa.fnExactCutHeight
open Go.ChangeShapes Go.WideShapes Go.ChangeAt Go.RowKit Go.Xw
set_option linter.unusedVariables false
theorem own : ownKnob Try.prog.godebug = none := by kernel_rfl
theorem laidOut : laidOutB Try.prog = true := by kernel_rfl
set_option maxRecDepth 100000 in
theorem lifted (os : Os) (started : os.Started) (H : Type) (enc : TypeId × Value → H) :
    ReturnsInHanded {} Try.checked os 4 .any (Rows.fnExactCutHeightSpec.pre6 enc Try.prog Try.f4 Rows.fnExactCutHeightRow.domain false) (Rows.fnExactCutHeightSpec.post enc Try.prog Try.f4 false true false false) := by
  refine returnsInHanded_of_change (C := Try.checked) own started (by kernel_rfl) Try.func4
    (ChangeSpec.witness6 (enc := enc) (C := Try.checked) false ⟨#[], #[.agg #[.int .i64 0, .slice none 0 0, .slice none 0 0, .slice none 0 0], .slice none 0 0], []⟩ 4 (by kernel_rfl) (by kernel_rfl) (by kernel_rfl) (by kernel_rfl)) ?_
  intro W base args ds gs before hval0 hW hcnd _
  have hval : ∀ (j : Nat) t v, Try.f4.params[j]? = some t → args[j]? = some v → Value.okWide Try.prog W .any base t v := hval0
  have hW' := hW
  obtain ⟨p, q, hA0, hV, rfl, hfz, hnd⟩ := hW
  have hA : DataW.TrodAll enc Try.prog W 0 (fun _ => true) true Try.f4.params.toList args.toList ds p := hA0
  rw [Try.params4] at hA hval
  obtain ⟨v0, vs0, d0, ds0, p0, q0, hargs, rfl, rfl, h0, r0⟩ := trodAll_cons hA
  obtain ⟨v1, vs1, d1, ds1, p1, q1, rfl, rfl, rfl, h1, r1⟩ := trodAll_cons r0
  obtain ⟨rfl, rfl, rfl⟩ := trodAll_nil r1
  obtain rfl : args = #[v0, v1] := by cases args; simp_all
  obtain ⟨rfl, rfl⟩ := trodVars_none hV
  obtain ⟨cs0, rfl, _⟩ := okWide_struct Try.underlying42 (hval 0 42 v0 rfl rfl)
  have k0 := h0
  have lt0 : ∀ x ∈ p0, x.block < W.heap.size := by obtain ⟨m, hm⟩ := k0; exact DataW.trod_lt m _ _ _ hm
  obtain ⟨x0, hx0, Rx0, Mx0, Wx0, _⟩ : ∃ x : NetA, (Value.agg cs0) = x.v ∧ NetR W x ∧ NetM x.n ∧ NetW x.n ∧ i64R x.inputs := by
    obtain ⟨fuel, hf⟩ := h0
    obtain ⟨x, e, r⟩ := dec_net hf
    exact ⟨x, by unfold NetA.v; rw [← e]; rfl, r⟩
  rw [hx0] at k0
  obtain ⟨a1, len1, cap1, rfl⟩ := okWide_slice Try.underlying26 (hval 1 26 v1 rfl rfl)
  have k1 := h1
  have lt1 : ∀ x ∈ p1, x.block < W.heap.size := by obtain ⟨m, hm⟩ := k1; exact DataW.trod_lt m _ _ _ hm
  obtain ⟨x1, hx1, Rx1, Mx1, Wx1⟩ : ∃ X : List Int, X.length = len1 ∧ Rd W a1 1 eI X ∧ X.length ≤ maxLen ∧ ∀ i, i < X.length → i64R (X.getD i default) := by
    obtain ⟨fuel, hf⟩ := h1
    obtain ⟨a, X, c, e, u1_, u2_, u3_⟩ := dec_ints hf
    simp [Value.cells] at e
    obtain ⟨rfl, rfl, rfl⟩ := e
    exact ⟨X, rfl, ⟨u1_⟩, u2_, u3_⟩
  subst hx1
  clear hA0 hval0
  have hcall : Calls Try.prog 4 #[x0.v, .slice a1 x1.length cap1] W fun e w' => e = .returned (.bool true) ∧ Below W.heap.size W w' := Go.Xw.law_calls (FnExactCutHeight_h W x0 Rx0 Mx0 Wx0 a1 cap1 x1 Rx1 Mx1 Wx1)
  rw [hx0]
  refine hcall.mono fun e W' ⟨he, bel⟩ => ?_
  subst he
  rw [hx0] at hW'
  exact ⟨_, rfl, _, _, _, [], _, [], hW', trodAll_mk1 (shut_bool Try.underlying4 _), (trodAll_cons_mk (Below.trod laidOut (by kernel_rfl) (of_decide_eq_true (by kernel_rfl)) k0 bel lt0) (trodAll_cons_mk (Below.trod laidOut (by kernel_rfl) (of_decide_eq_true (by kernel_rfl)) k1 bel lt1) trodAll_mk0)), rfl, bel.frame _, fun h => by cases h⟩
theorem over : Rows.fnExactCutHeightRow.holds Try.pinned (OpenSpec.ofChange Rows.fnExactCutHeightSpec) :=
  OpenClaim.holds_of_wide 4 Try.f4 rfl rfl rfl rfl rfl rfl rfl ⟨rfl, rfl, rfl, rfl, rfl⟩ rfl rfl rfl rfl rfl (by kernel_rfl) Try.func4 (by kernel_rfl)
    (of_decide_eq_true (by kernel_rfl)) (by unfold Func.isWrapper; first | (rw [if_pos (by decide +kernel)]; kernel_rfl) | (rw [if_neg (by decide +kernel)]; exact ⟨rfl, rfl⟩))
    (fun os started H enc _ => lifted os started H enc)
theorem proved : Rows.FnExactCutHeightSaid := over
#print axioms proved
end Go.Proofs.Ytbjgekllkfnjnaa.fnExactCutHeight
