/- The law FnExactAddExpr answers true; no condition. -/
import Derived.Test.YtiepmliokblkjaaAxI
import Derived.Test.YtiepmliokblkjaaAxX
import Derived.Test.YtiepmliokblkjaaHeld
import Derived.Test.YtiepmliokblkjaaOps
set_option linter.all false
namespace Go.Proofs
open Go.Xw
set_option maxRecDepth 100000
set_option maxHeartbeats 4000000
attribute [local irreducible] Holds elemAddr
theorem insL_eq {R X : List (RowA Int)} (h : insOf R = insOf X) : R.length = X.length := by have := congrArg List.length h; rwa [insOf_len, insOf_len] at this
theorem insA_eq {R X : List (RowA Int)} (h : insOf R = insOf X) (i : Nat) : (R.getD i default).ins = (X.getD i default).ins := by rw [← insOf_get, h, insOf_get]
theorem specAx_y (x : NetA) (sa : Option Addr) (sc : Nat) (R : List (RowA Int)) (oa : Option Addr) (oc : Nat) (ops : List OpL) (wv : Int) (w0 : World) (hX : NetR w0 x) (hS : NetS x.n) (hW : NetW x.n) (hR : Rd w0 sa 1 eRo R) (hQ : RsR w0 R) (hO : Rd w0 oa 3 eOp ops) (X : List (RowA Int)) (hRX : insOf R = insOf X) (hRl : X.length ≤ 1048576) (hRg : ∀ i, i < X.length → (X.getD i default).ins.length ≤ 1048576) (hRv : ∀ i, i < X.length → ∀ j, j < (X.getD i default).ins.length → i64R ((X.getD i default).ins.getD j default)) (hol : ops.length ≤ 1048576) (hov : ∀ i, i < ops.length → i64O (ops.getD i default)) (hw : i64R wv) (n : NetL) (hn : x.n = n) :
  Ret Try.prog 7 [x.v, .slice sa R.length sc, .slice oa ops.length oc, .int .i64 wv] w0 (fun v w' => ∃ y b c, (y.n = (axF n (insOf X) ops wv).1 ∧ v = .tuple ⟨[y.v, .slice b (axF n (insOf X) ops wv).2.length c]⟩) ∧ Hp w0 w' [rNet y, rO 3 1 eI b c (axF n (insOf X) ops wv).2]) := by
 subst hn
 rw [← hRX]
 have hl := insL_eq hRX
 exact specAddExpr_x x sa sc R oa oc ops wv w0 hX hS hW hR hQ hO (by omega) (fun i hi => by rw [insA_eq hRX]; exact hRg i (by omega)) (fun i hi => by rw [insA_eq hRX]; exact hRv i (by omega)) hol hov hw
theorem implAx_y (x : NetA) (sa : Option Addr) (sc : Nat) (R : List (RowA Int)) (oa : Option Addr) (oc : Nat) (ops : List OpL) (wv : Int) (w0 : World) (hX : NetR w0 x) (hS : NetS x.n) (hW : NetW x.n) (hR : Rd w0 sa 1 eRo R) (hQ : RsR w0 R) (hO : Rd w0 oa 3 eOp ops) (X : List (RowA Int)) (hRX : insOf R = insOf X) (hRl : X.length ≤ 1048576) (hRg : ∀ i, i < X.length → (X.getD i default).ins.length ≤ 1048576) (hRv : ∀ i, i < X.length → ∀ j, j < (X.getD i default).ins.length → i64R ((X.getD i default).ins.getD j default)) (hol : ops.length ≤ 1048576) (hov : ∀ i, i < ops.length → i64O (ops.getD i default)) (hw : i64R wv) (n : NetL) (hn : x.n = n) :
  Ret Try.prog 11 [x.v, .slice sa R.length sc, .slice oa ops.length oc, .int .i64 wv] w0 (fun v w' => ∃ y b c, (y.n = (axF n (insOf X) ops wv).1 ∧ v = .tuple ⟨[y.v, .slice b (axF n (insOf X) ops wv).2.length c]⟩) ∧ Hp w0 w' [rNet y, rO 3 1 eI b c (axF n (insOf X) ops wv).2]) := by
 subst hn
 rw [← hRX]
 have hl := insL_eq hRX
 exact implAddExpr_x x sa sc R oa oc ops wv w0 hX hS hW hR hQ hO (by omega) (fun i hi => by rw [insA_eq hRX]; exact hRg i (by omega)) (fun i hi => by rw [insA_eq hRX]; exact hRv i (by omega)) hol hov hw
theorem FnExactAddExpr_h (w0 : World) (x0 : NetA) (Rx0 : NetR w0 x0) (Mx0 : NetM x0.n) (Wx0 : NetW x0.n) (Ax1 : Option Addr) (Cx1 : Nat) (x1 : List (RowA Int)) (Rx1 : Rd w0 Ax1 1 eRo x1) (Qx1 : RsR w0 x1) (Mx1 : x1.length ≤ maxLen) (Wx1 : ∀ i, i < x1.length → ((x1.getD i default).ins.length ≤ maxLen ∧ ∀ j, j < (x1.getD i default).ins.length → i64R ((x1.getD i default).ins.getD j default))) (Ax2 : Option Addr) (Cx2 : Nat) (x2 : List OpL) (Rx2 : Rd w0 Ax2 3 eOp x2) (Mx2 : x2.length ≤ maxLen) (Wx2 : ∀ i, i < x2.length → i64O (x2.getD i default)) (x3 : Int) (Wx3 : i64R x3) :
  Ret Try.prog 3 [x0.v, .slice Ax1 x1.length Cx1, .slice Ax2 x2.length Cx2, .int .i64 x3] w0 (fun v w => v = .bool true ∧ Ext w0 w) := by
 have M1 : (x1.length : Int) ≤ 9223372036854775807 := by unfold maxLen at Mx1; omega
 have N1 : ∀ i, i < x1.length → ((x1.getD i default).ins.length : Int) ≤ 9223372036854775807 := fun i hi => by have := (Wx1 i hi).1; unfold maxLen at this; omega
 have M2 : (x2.length : Int) ≤ 9223372036854775807 := by unfold maxLen at Mx2; omega
 refine enter Try.S3ok _ _ rfl rfl (by show _ ≤ _; simp only [List.length]; decide) (fun C => ?_); have hp := Hp.nil w0; refine h_run rfl ?_; skip; (first | refine H_box hp ?_ | refine H_alloc hp rfl ?_); intro w b0 hx hp; refine ops_run nopre rfl ?_; (repeat (refine H_ldB hp rfl rfl ?_))
 refine h_call rfl Try.func4 (by kernel_rfl) rfl (szNet_h x0 1048576 _ hp.net Mx0 (by decide) (by decide)) ?_; rintro _ w ⟨⟨z0, rfl, hz⟩, hx⟩; have hp := hp.ext hx; refine ops_run nopre rfl ?_; skip
 rcases hz with rfl | ⟨hz0, hz1, S0⟩
 ·refine h_cond_t rfl rfl ?_; (repeat (refine R_ret ?_))
  exact ⟨rfl, hp.x⟩
 ·refine h_cond_f (decide_eq_false (by omega)) rfl ?_; skip
  refine h_call rfl Try.func5 (by kernel_rfl) rfl (szIntSS_h Ax1 Cx1 x1 z0 _ hp.rd hz0 (by omega) M1 N1) ?_; rintro _ w ⟨⟨z1, rfl, hz⟩, hx⟩; have hp := hp.ext hx; refine ops_run nopre rfl ?_; skip
  rcases hz with rfl | ⟨hy0, hy1, hl1, hg1⟩
  ·refine h_cond_t rfl rfl ?_; (repeat (refine R_ret ?_))
   exact ⟨rfl, hp.x⟩
  ·refine h_cond_f (decide_eq_false (by omega)) rfl ?_; skip
   refine h_call rfl Try.func6 (by kernel_rfl) rfl (szOpS_h Ax2 Cx2 x2.length z1 _ hy0 (by omega) M2) ?_; rintro _ w ⟨rfl, hx⟩; have hp := hp.ext hx; refine ops_run nopre rfl ?_; skip
   by_cases hl2 : z1 < (x2.length : Int)
   ·rw [if_pos hl2]
    refine h_cond_t rfl rfl ?_; (repeat (refine R_ret ?_))
    exact ⟨rfl, hp.x⟩
   ·rw [if_neg hl2]
    refine h_cond_f (decide_eq_false (by omega)) rfl ?_; (repeat (refine H_ldB hp rfl rfl ?_))
    have L1 : x1.length ≤ 1048576 := by omega
    have G1 : ∀ i, i < x1.length → (x1.getD i default).ins.length ≤ 1048576 := fun i hi => by have := hg1 i hi; omega
    have L2 : x2.length ≤ 1048576 := by omega
    have hF4 := lenAx x0.n (insOf x1) x2 x3
    have hFS := sAx S0 (insOf x1) x2 x3
    refine h_call rfl Try.func8 (by kernel_rfl) rfl (toNet_h x0 _ hp.net S0) ?_; rintro _ w ⟨y1, ⟨e1, rfl⟩, hq⟩; have hx := hq.x; have hp := hp.call1 hq; refine ops_run nopre rfl ?_; skip
    have s1 : NetS y1.n := by rw [e1]; exact S0
    have v1 : NetW y1.n := by rw [e1]; exact Wx0
    refine h_call rfl Try.func9 (by kernel_rfl) rfl (toIntSS_h Ax1 Cx1 x1 _ hp.rd hp.rs (by omega) (fun i hi => by have := hg1 i hi; omega)) ?_; rintro _ w ⟨b1, R1, ⟨eR1, rfl⟩, hq⟩; have hx := hq.x; have hp := hp.call2 hq; refine ops_run nopre rfl ?_; skip
    have l1 := insL_eq eR1
    refine h_call rfl Try.func10 (by kernel_rfl) rfl (toOpS_h Ax2 Cx2 x2 _ hp.rd (by omega)) ?_; rintro _ w ⟨p1, rfl, hq⟩; have hx := hq.x; have hp := hp.call1 hq; refine ops_run nopre rfl ?_; skip
    refine h_call rfl Try.func7 (by kernel_rfl) rfl (specAx_y y1 (some ⟨b1, 0, none⟩) R1.length R1 (some ⟨p1, 0, none⟩) x2.length x2 x3 _ hp.net s1 v1 hp.rd hp.rs hp.rd x1 eR1 L1 G1 (fun i hi => (Wx1 i hi).2) L2 Wx2 Wx3 x0.n e1) ?_; rintro _ w ⟨aS, bS, cS, ⟨eS, rfl⟩, hq⟩; have hx := hq.x; have hp := hp.call2 hq; refine ops_run nopre rfl ?_; skip
    (first | refine H_box hp ?_ | refine H_alloc hp rfl ?_); intro w qS hx hp; refine ops_run nopre rfl ?_; (repeat (first | (refine gLoad ?_; refine H_ldB hp rfl rfl ?_) | (refine gStore ?_; refine U_stBN hp rfl rfl rfl rfl ?_; intro w hp; refine ops_run nopre rfl ?_)))
    have sS : NetS aS.n := by rw [eS]; exact hFS
    refine h_call rfl Try.func8 (by kernel_rfl) rfl (toNet_h x0 _ hp.net S0) ?_; rintro _ w ⟨y2, ⟨e2, rfl⟩, hq⟩; have hx := hq.x; have hp := hp.call1 hq; refine ops_run nopre rfl ?_; skip
    have s2 : NetS y2.n := by rw [e2]; exact S0
    have v2 : NetW y2.n := by rw [e2]; exact Wx0
    (first | refine H_box hp ?_ | refine H_alloc hp rfl ?_); intro w q2 hx hp; refine ops_run nopre rfl ?_; (repeat (refine U_stBN hp rfl rfl rfl rfl ?_; intro w hp; refine ops_run nopre rfl ?_))
    refine h_call rfl Try.func9 (by kernel_rfl) rfl (toIntSS_h Ax1 Cx1 x1 _ hp.rd hp.rs (by omega) (fun i hi => by have := hg1 i hi; omega)) ?_; rintro _ w ⟨b2, R2, ⟨eR2, rfl⟩, hq⟩; have hx := hq.x; have hp := hp.call2 hq; refine ops_run nopre rfl ?_; skip
    have l2 := insL_eq eR2
    refine h_call rfl Try.func10 (by kernel_rfl) rfl (toOpS_h Ax2 Cx2 x2 _ hp.rd (by omega)) ?_; rintro _ w ⟨p2, rfl, hq⟩; have hx := hq.x; have hp := hp.call1 hq; refine ops_run nopre rfl ?_; (repeat (refine H_ldB hp rfl rfl ?_))
    refine h_call rfl Try.func11 (by kernel_rfl) rfl (implAx_y y2 (some ⟨b2, 0, none⟩) R2.length R2 (some ⟨p2, 0, none⟩) x2.length x2 x3 _ hp.net s2 v2 hp.rd hp.rs hp.rd x1 eR2 L1 G1 (fun i hi => (Wx1 i hi).2) L2 Wx2 Wx3 x0.n e2) ?_; rintro _ w ⟨aG, bG, cG, ⟨eG, rfl⟩, hq⟩; have hx := hq.x; have hp := hp.call2 hq; refine ops_run nopre rfl ?_; skip
    (first | refine H_box hp ?_ | refine H_alloc hp rfl ?_); intro w qG hx hp; refine ops_run nopre rfl ?_; (repeat (first | (refine gLoad ?_; refine H_ldB hp rfl rfl ?_) | (refine gStore ?_; refine U_stBN hp rfl rfl rfl rfl ?_; intro w hp; refine ops_run nopre rfl ?_)))
    have sG : NetS aG.n := by rw [eG]; exact hFS
    refine h_call rfl Try.func12 (by kernel_rfl) rfl ((eqNet_h aG aS _ hp.net hp.net sG sS).yes (by rw [eG, eS])) ?_; rintro _ w ⟨rfl, hx⟩; have hp := hp.ext hx; refine ops_run nopre rfl ?_; (repeat (refine h_guard_y rfl nopre rfl ?_))
    refine h_call rfl Try.func13 (by kernel_rfl) rfl ((eqIntS_h bG bS cG cS _ _ _ hp.rd hp.rd (by omega) (by omega)).yes rfl) ?_; rintro _ w ⟨rfl, hx⟩; have hp := hp.ext hx; refine ops_run nopre rfl ?_; (repeat (refine h_guard_y rfl nopre rfl ?_))
    refine h_cond_f rfl rfl ?_; skip
    refine D_draw hp (by kernel_rfl) (by kernel_rfl) rfl rfl ?_; intro w hx hp; have hs := hp; (repeat (refine D_ldB rfl rfl rfl ?_))
    refine h_callq rfl Try.func8 (by kernel_rfl) rfl (toNet_h x0 _ hp.net S0) ?_; rintro _ w ⟨y3, ⟨e3, rfl⟩, hq⟩; have hx := hq.x; have hp := hp.call1 hq; have hs := hs.ext hx; refine ⟨fun _ => hs, ?_⟩; refine D_ops rfl rfl ?_; skip
    have s3 : NetS y3.n := by rw [e3]; exact S0
    have v3 : NetW y3.n := by rw [e3]; exact Wx0
    refine h_callq rfl Try.func12 (by kernel_rfl) rfl ((eqNet_h y2 y3 _ hp.net hp.net s2 s3).yes (by rw [e2, e3])) ?_; rintro _ w ⟨rfl, hx⟩; have hp := hp.ext hx; have hs := hs.ext hx; refine ⟨fun _ => hs, ?_⟩; refine D_ops rfl rfl ?_; skip
    refine h_cond_f rfl rfl ?_; skip
    refine h_call rfl Try.func9 (by kernel_rfl) rfl (toIntSS_h Ax1 Cx1 x1 _ hp.rd hp.rs (by omega) (fun i hi => by have := hg1 i hi; omega)) ?_; rintro _ w ⟨b4, R4, ⟨eR4, rfl⟩, hq⟩; have hx := hq.x; have hp := hp.call2 hq; refine ops_run nopre rfl ?_; skip
    have l4 := insL_eq eR4
    refine h_call rfl Try.func14 (by kernel_rfl) rfl (eqIntSS2_h _ _ _ _ R2 R4 _ hp.rd hp.rs hp.rd hp.rs (by omega) (fun i hi => by rw [insA_eq eR2]; have := hg1 i (by omega); omega) (by rw [eR2, eR4])) ?_; rintro _ w ⟨rfl, hx⟩; have hp := hp.ext hx; refine ops_run nopre rfl ?_; skip
    refine h_cond_f rfl rfl ?_; skip
    refine h_call rfl Try.func10 (by kernel_rfl) rfl (toOpS_h Ax2 Cx2 x2 _ hp.rd (by omega)) ?_; rintro _ w ⟨p4, rfl, hq⟩; have hx := hq.x; have hp := hp.call1 hq; refine ops_run nopre rfl ?_; skip
    refine h_call rfl Try.func15 (by kernel_rfl) rfl ((eqOpS_h _ _ _ _ x2 x2 _ hp.rd hp.rd (by omega) (by omega)).yes rfl) ?_; rintro _ w ⟨rfl, hx⟩; have hp := hp.ext hx; refine ops_run nopre rfl ?_; skip
    refine h_cond_f rfl rfl ?_; (repeat (refine H_ldB hp rfl rfl ?_))
    have hp := hp.drop.drop.drop.drop
    have hk2 := kNet_le (k := 1) s2
    refine h_call rfl Try.func16 (by kernel_rfl) rfl (markNet_u hp (x := y2) 1 s2 (by decide) (by decide)) ?_; rintro _ w ⟨rfl, hp⟩; refine ops_run nopre rfl ?_; skip
    have hp := hp.f7.f7.f6.f6.f6.f6.f6.f7
    refine h_call rfl Try.func17 (by kernel_rfl) rfl (markIntSS2_h (R := R2) hp (kNet 1 y2) (by omega) (fun i hi => by rw [insA_eq eR2]; have := hg1 i (by omega); omega) (by omega) (by omega)) ?_; rintro _ w ⟨QG, ⟨rfl, hQl, hoff⟩, hp⟩; refine ops_run nopre rfl ?_; skip
    refine h_call rfl Try.func18 (by kernel_rfl) rfl (markOpS_u hp (X := x2) (kNet 1 y2 + offX R2 R2.length) (by omega) (by omega) (by omega)) ?_; rintro _ w ⟨rfl, hp⟩; refine ops_run nopre rfl ?_; skip
    try (refine h_guard_by (fun h => ?_) (fun h => ?_); (exfalso; replace h := of_decide_eq_true h; omega); rw [h]; clear h; (repeat (first | (refine gGuard ?_; refine h_guard_y rfl nopre rfl ?_) | (refine gLoad ?_; refine H_ldB hp rfl rfl ?_))))
    refine h_call rfl Try.func12 (by kernel_rfl) rfl ((eqNet_h aG aS _ hp.net hp.net sG sS).yes (by rw [eG, eS])) ?_; rintro _ w ⟨rfl, hx⟩; have hp := hp.ext hx; refine ops_run nopre rfl ?_; (repeat (refine h_guard_y rfl nopre rfl ?_))
    refine h_call rfl Try.func13 (by kernel_rfl) rfl ((eqIntS_h bG bS cG cS _ _ _ hp.rd hp.rd (by omega) (by omega)).yes rfl) ?_; rintro _ w ⟨rfl, hx⟩; have hp := hp.ext hx; refine ops_run nopre rfl ?_; (repeat (refine h_guard_y rfl nopre rfl ?_))
    refine h_cond_f rfl rfl ?_; (repeat (refine H_ldB hp rfl rfl ?_))
    have hkG := kNet_le (k := 1) sG
    refine h_call rfl Try.func16 (by kernel_rfl) rfl (markNet_u hp (x := aG) 1 sG (by decide) (by decide)) ?_; rintro _ w ⟨rfl, hp⟩; refine ops_run nopre rfl ?_; skip
    refine h_call rfl Try.func19 (by kernel_rfl) rfl (markIntS_h hp (xs := (axF x0.n (insOf x1) x2 x3).2) (kNet 1 aG) (by omega) (by omega) (by omega)) ?_; rintro _ w ⟨rfl, hp⟩; refine ops_run nopre rfl ?_; (repeat (refine H_ldB hp rfl rfl ?_))
    refine h_call rfl Try.func20 (by kernel_rfl) rfl (heldNet_h aG 1 _ hp.net sG (by decide) (by decide)) ?_; rintro _ w ⟨rfl, hx⟩; have hp := hp.ext hx; refine ops_run nopre rfl ?_; skip
    refine h_cond_f (by simp; try omega) rfl ?_; skip
    refine h_call rfl Try.func21 (by kernel_rfl) rfl (heldIntS_h _ _ _ (kNet 1 aG) _ hp.rd (by omega) (by omega) (by omega)) ?_; rintro _ w ⟨rfl, hx⟩; have hp := hp.ext hx; refine ops_run nopre rfl ?_; skip
    refine h_cond_f (by simp; try omega) rfl ?_; skip
    refine h_cond_f (by simp) rfl ?_; (repeat (refine H_ldB hp rfl rfl ?_))
    refine h_call rfl Try.func8 (by kernel_rfl) rfl (toNet_h x0 _ hp.net S0) ?_; rintro _ w ⟨y5, ⟨e5, rfl⟩, hq⟩; have hx := hq.x; have hp := hp.call1 hq; refine ops_run nopre rfl ?_; skip
    have s5 : NetS y5.n := by rw [e5]; exact S0
    have v5 : NetW y5.n := by rw [e5]; exact Wx0
    refine h_call rfl Try.func9 (by kernel_rfl) rfl (toIntSS_h Ax1 Cx1 x1 _ hp.rd hp.rs (by omega) (fun i hi => by have := hg1 i hi; omega)) ?_; rintro _ w ⟨b5, R5, ⟨eR5, rfl⟩, hq⟩; have hx := hq.x; have hp := hp.call2 hq; refine ops_run nopre rfl ?_; skip
    have l5 := insL_eq eR5
    refine h_call rfl Try.func10 (by kernel_rfl) rfl (toOpS_h Ax2 Cx2 x2 _ hp.rd (by omega)) ?_; rintro _ w ⟨p5, rfl, hq⟩; have hx := hq.x; have hp := hp.call1 hq; refine ops_run nopre rfl ?_; skip
    refine h_call rfl Try.func11 (by kernel_rfl) rfl (implAx_y y5 (some ⟨b5, 0, none⟩) R5.length R5 (some ⟨p5, 0, none⟩) x2.length x2 x3 _ hp.net s5 v5 hp.rd hp.rs hp.rd x1 eR5 L1 G1 (fun i hi => (Wx1 i hi).2) L2 Wx2 Wx3 x0.n e5) ?_; rintro _ w ⟨aH, bH, cH, ⟨eH, rfl⟩, hq⟩; have hx := hq.x; have hp := hp.call2 hq; refine ops_run nopre rfl ?_; skip
    (first | refine H_box hp ?_ | refine H_alloc hp rfl ?_); intro w qH hx hp; refine ops_run nopre rfl ?_; (repeat (first | (refine gLoad ?_; refine H_ldB hp rfl rfl ?_) | (refine gStore ?_; refine U_stBN hp rfl rfl rfl rfl ?_; intro w hp; refine ops_run nopre rfl ?_)))
    have sH : NetS aH.n := by rw [eH]; exact hFS
    refine h_call rfl Try.func12 (by kernel_rfl) rfl ((eqNet_h aH aS _ hp.net hp.net sH sS).yes (by rw [eH, eS])) ?_; rintro _ w ⟨rfl, hx⟩; have hp := hp.ext hx; refine ops_run nopre rfl ?_; (repeat (refine h_guard_y rfl nopre rfl ?_))
    refine h_call rfl Try.func13 (by kernel_rfl) rfl ((eqIntS_h bH bS cH cS _ _ _ hp.rd hp.rd (by omega) (by omega)).yes rfl) ?_; rintro _ w ⟨rfl, hx⟩; have hp := hp.ext hx; refine ops_run nopre rfl ?_; (repeat (refine h_guard_y rfl nopre rfl ?_))
    refine h_cond_f rfl rfl ?_; (repeat (refine H_ldB hp rfl rfl ?_))
    refine h_call rfl Try.func20 (by kernel_rfl) rfl (heldNet_h aG 1 _ hp.net sG (by decide) (by decide)) ?_; rintro _ w ⟨rfl, hx⟩; have hp := hp.ext hx; refine ops_run nopre rfl ?_; skip
    refine h_cond_f (by simp; try omega) rfl ?_; skip
    refine h_call rfl Try.func21 (by kernel_rfl) rfl (heldIntS_h _ _ _ (kNet 1 aG) _ hp.rd (by omega) (by omega) (by omega)) ?_; rintro _ w ⟨rfl, hx⟩; have hp := hp.ext hx; refine ops_run nopre rfl ?_; skip
    refine h_cond_f (by simp; try omega) rfl ?_; skip
    refine h_cond_f (by simp) rfl ?_; (repeat (refine R_ret ?_))
    exact ⟨rfl, hp.x⟩
end Go.Proofs
