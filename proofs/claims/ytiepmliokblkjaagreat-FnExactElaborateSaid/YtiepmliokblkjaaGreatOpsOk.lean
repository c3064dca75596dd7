/- The contracts of the checks of expressions on both sides; each under its stated conditions. -/
import Derived.Test.YtiepmliokblkjaaGreatModR
set_option linter.all false
namespace Go.Xw
theorem arL_0 {k : Int} (h : 0 ≤ k ∧ k ≤ 3) : arL k = 0 := by unfold arL; rw [if_pos h]
theorem arL_1 {k : Int} (h : k = 4) : arL k = 1 := by unfold arL; rw [if_neg (by omega), if_pos h]
theorem arL_2 {k : Int} (h : 5 ≤ k ∧ k ≤ 11) : arL k = 2 := by unfold arL; rw [if_neg (by omega), if_neg (by omega), if_pos h]
theorem arL_3 {k : Int} (h : k = 12) : arL k = 3 := by unfold arL; rw [if_neg (by omega), if_neg (by omega), if_neg (by omega), if_pos h]
theorem arL_no {k : Int} (h : ¬ (0 ≤ k ∧ k ≤ 12)) : arL k = -1 := by unfold arL; rw [if_neg (by omega), if_neg (by omega), if_neg (by omega), if_neg (by omega)]
theorem needTo_b (ops : List OpL) : ∀ i : Nat, 1 - 2 * (i : Int) ≤ needTo ops i ∧ needTo ops i ≤ 1 + 2 * (i : Int)
 | 0 => by show 1 - 2 * ((0 : Nat) : Int) ≤ 1 ∧ (1 : Int) ≤ 1 + 2 * ((0 : Nat) : Int); omega
 | i + 1 => by
  have ih := needTo_b ops i
  have := arL_b (ops.getD i default).kind
  show 1 - 2 * ((i + 1 : Nat) : Int) ≤ needTo ops i - 1 + arL (ops.getD i default).kind ∧ needTo ops i - 1 + arL (ops.getD i default).kind ≤ 1 + 2 * ((i + 1 : Nat) : Int)
  omega
theorem opOk_0 {o : OpL} {m : Int} (h : o.kind = 0) : opOkP o m ↔ (0 ≤ o.a ∧ o.a ≤ 15) ∧ o.b = 0 := by unfold opOkP; rw [if_pos h]
theorem opOk_2 {o : OpL} {m : Int} (h : o.kind = 2) : opOkP o m ↔ (0 ≤ o.a ∧ o.a < m) ∧ o.b = 0 := by unfold opOkP; rw [if_neg (by omega), if_pos h]
theorem opOk_3 {o : OpL} {m : Int} (h : o.kind = 3) : opOkP o m ↔ (0 ≤ o.a ∧ o.a < m) ∧ 0 ≤ o.b ∧ o.b ≤ 3 := by unfold opOkP; rw [if_neg (by omega), if_neg (by omega), if_pos h]
theorem opOk_n {o : OpL} {m : Int} (h0 : o.kind ≠ 0) (h2 : o.kind ≠ 2) (h3 : o.kind ≠ 3) : opOkP o m ↔ 0 ≤ arL o.kind ∧ o.a = 0 ∧ o.b = 0 := by unfold opOkP; rw [if_neg h0, if_neg h2, if_neg h3]
def i64O (o : OpL) : Prop := i64R o.kind ∧ i64R o.a ∧ i64R o.b
noncomputable def opsB (ops : List OpL) (m : Int) : Bool := pB (OpsOkP ops m)
theorem opsB_yes {ops : List OpL} {m : Int} (h : OpsOkP ops m) : opsB ops m = true := pB_iff.2 h
theorem opsB_no {ops : List OpL} {m : Int} (h : ¬ OpsOkP ops m) : opsB ops m = false := Bool.eq_false_iff.2 fun hh => h (pB_iff.1 hh)
noncomputable def parB (ops : List OpL) : Bool := pB (∃ o, o ∈ ops ∧ o.kind = 1)
end Go.Xw
namespace Go.Proofs
open Go.Xw
set_option maxRecDepth 100000
set_option maxHeartbeats 2000000
attribute [local irreducible] Holds elemAddr
theorem implOpArity_h (k : Int) (w0 : World) : Ret Tryz.prog 95 [.int .i64 k] w0 (fun v w => v = .int .i64 (arL k) ∧ Ext w0 w) := by
 refine enter Tryz.S95ok _ _ rfl rfl (by show _ ≤ _; simp only [List.length]; decide) (fun C => ?_); have hp := Hp.nil w0; refine h_run rfl ?_; skip
 by_cases h1 : 0 ≤ k ∧ k ≤ 3
 ·refine h_call rfl Tryz.func124 (by kernel_rfl) rfl ((inRange_h k 0 3 _).yes h1) ?_; rintro _ w ⟨rfl, hx⟩; have hp := hp.ext hx; refine ops_run nopre rfl ?_; skip
  refine h_cond_t rfl rfl ?_; (repeat (refine R_ret ?_))
  exact ⟨by rw [arL_0 h1], hp.x⟩
 ·refine h_call rfl Tryz.func124 (by kernel_rfl) rfl ((inRange_h k 0 3 _).no h1) ?_; rintro _ w ⟨rfl, hx⟩; have hp := hp.ext hx; refine ops_run nopre rfl ?_; skip
  refine h_cond_f rfl rfl ?_; skip
  refine h_cond_dec (fun h2 => ?_) (fun h2 => ?_)
  ·refine h_cond_t rfl rfl ?_; (repeat (refine R_ret ?_))
   exact ⟨by rw [arL_1 h2], hp.x⟩
  ·refine h_cond_f rfl rfl ?_; skip
   by_cases h3 : 5 ≤ k ∧ k ≤ 11
   ·refine h_call rfl Tryz.func124 (by kernel_rfl) rfl ((inRange_h k 5 11 _).yes h3) ?_; rintro _ w ⟨rfl, hx⟩; have hp := hp.ext hx; refine ops_run nopre rfl ?_; skip
    refine h_cond_t rfl rfl ?_; (repeat (refine R_ret ?_))
    exact ⟨by rw [arL_2 h3], hp.x⟩
   ·refine h_call rfl Tryz.func124 (by kernel_rfl) rfl ((inRange_h k 5 11 _).no h3) ?_; rintro _ w ⟨rfl, hx⟩; have hp := hp.ext hx; refine ops_run nopre rfl ?_; skip
    refine h_cond_f rfl rfl ?_; skip
    refine h_cond_dec (fun h4 => ?_) (fun h4 => ?_)
    ·refine h_cond_t rfl rfl ?_; (repeat (refine R_ret ?_))
     exact ⟨by rw [arL_3 h4], hp.x⟩
    ·refine h_cond_f rfl rfl ?_; (repeat (refine R_ret ?_))
     exact ⟨by rw [arL_no (by omega)], hp.x⟩
theorem specOpArity_h (k : Int) (w0 : World) : Ret Tryz.prog 139 [.int .i64 k] w0 (fun v w => v = .int .i64 (arL k) ∧ Ext w0 w) := by
 refine enter Tryz.S139ok _ _ rfl rfl (by show _ ≤ _; simp only [List.length]; decide) (fun C => ?_); have hp := Hp.nil w0; refine h_run rfl ?_; skip
 by_cases h0 : 0 ≤ k ∧ k ≤ 12
 ·refine h_call rfl Tryz.func79 (by kernel_rfl) rfl ((l01In_h k 0 12 _).yes h0) ?_; rintro _ w ⟨rfl, hx⟩; have hp := hp.ext hx; refine ops_run nopre rfl ?_; skip
  refine h_cond_f rfl rfl ?_; skip
  refine h_cond_dec (fun h1 => ?_) (fun h1 => ?_)
  ·refine h_cond_t rfl rfl ?_; (repeat (refine R_ret ?_))
   exact ⟨by rw [arL_0 (by omega)], hp.x⟩
  ·refine h_cond_f rfl rfl ?_; skip
   refine h_cond_dec (fun h2 => ?_) (fun h2 => ?_)
   ·refine h_cond_t rfl rfl ?_; (repeat (refine R_ret ?_))
    exact ⟨by rw [arL_1 h2], hp.x⟩
   ·refine h_cond_f rfl rfl ?_; skip
    refine h_cond_dec (fun h3 => ?_) (fun h3 => ?_)
    ·refine h_cond_t rfl rfl ?_; (repeat (refine R_ret ?_))
     exact ⟨by rw [arL_3 h3], hp.x⟩
    ·refine h_cond_f rfl rfl ?_; (repeat (refine R_ret ?_))
     exact ⟨by rw [arL_2 (by omega)], hp.x⟩
 ·refine h_call rfl Tryz.func79 (by kernel_rfl) rfl ((l01In_h k 0 12 _).no h0) ?_; rintro _ w ⟨rfl, hx⟩; have hp := hp.ext hx; refine ops_run nopre rfl ?_; skip
  refine h_cond_t rfl rfl ?_; (repeat (refine R_ret ?_))
  exact ⟨by rw [arL_no h0], hp.x⟩
theorem opOk_h (o : OpL) (m : Int) (hi : i64O o) (w0 : World) : Ret Tryz.prog 192 [.agg ⟨eOp o⟩, .int .i64 m] w0 (fun v w => v = .bool (decide (opOkP o m)) ∧ Ext w0 w) := by
 obtain ⟨hi1, hi2, hi3⟩ := hi
 unfold i64R at hi1 hi2 hi3
 refine enter Tryz.S192ok _ _ rfl rfl (by show _ ≤ _; simp only [List.length]; decide) (fun C => ?_); have hp := Hp.nil w0; refine h_run rfl ?_; skip; (first | refine H_box hp ?_ | refine H_alloc hp rfl ?_); intro w b2 hx hp; refine ops_run nopre rfl ?_; (repeat (refine H_ldB hp rfl rfl ?_))
 by_cases h0 : o.kind = 0
 ·have hd : decide (opOkP o m) = decide ((0 ≤ o.a ∧ o.a ≤ 15) ∧ o.b = 0) := by simp only [opOk_0 h0]
  rw [hd]
  refine h_cond_dec (fun _ => ?_) (fun hg => False.elim (by omega)); refine h_cond_t rfl rfl ?_; (repeat (refine H_ldB hp rfl rfl ?_))
  by_cases ha : 0 ≤ o.a ∧ o.a ≤ 15
  ·refine h_call rfl Tryz.func124 (by kernel_rfl) rfl ((inRange_h o.a 0 15 _).yes ha) ?_; rintro _ w ⟨rfl, hx⟩; have hp := hp.ext hx; refine ops_run nopre rfl ?_; (repeat (first | (refine gGuard ?_; refine h_guard_y rfl nopre rfl ?_) | (refine gLoad ?_; refine H_ldB hp rfl rfl ?_) | refine R_ret ?_))
   exact ⟨by simp [ha], hp.x⟩
  ·refine h_call rfl Tryz.func124 (by kernel_rfl) rfl ((inRange_h o.a 0 15 _).no ha) ?_; rintro _ w ⟨rfl, hx⟩; have hp := hp.ext hx; refine ops_run nopre rfl ?_; (repeat (first | (refine gGuard ?_; refine h_guard_n rfl nopre rfl ?_) | refine R_ret ?_))
   exact ⟨by simp [ha], hp.x⟩
 ·refine h_cond_dec (fun hg => False.elim (by omega)) (fun _ => ?_); refine h_cond_f rfl rfl ?_; (repeat (refine H_ldB hp rfl rfl ?_))
  by_cases h2 : o.kind = 2
  ·have hd : decide (opOkP o m) = decide ((0 ≤ o.a ∧ o.a < m) ∧ o.b = 0) := by simp only [opOk_2 h2]
   rw [hd]
   refine h_cond_dec (fun _ => ?_) (fun hg => False.elim (by omega)); refine h_cond_t rfl rfl ?_; (repeat (refine H_ldB hp rfl rfl ?_))
   refine h_guard_by (fun g1 => ?_) (fun g1 => ?_); all_goals (rw [g1]; (first | replace g1 := of_decide_eq_true g1 | replace g1 := of_decide_eq_false g1 | skip); (repeat (first | (refine gGuard ?_; first | refine h_guard_y rfl nopre rfl ?_ | refine h_guard_n rfl nopre rfl ?_) | (refine gLoad ?_; refine H_ldB hp rfl rfl ?_) | refine R_ret ?_)))
   ·refine h_guard_by (fun g2 => ?_) (fun g2 => ?_); all_goals (rw [g2]; (first | replace g2 := of_decide_eq_true g2 | replace g2 := of_decide_eq_false g2 | skip); (repeat (first | (refine gGuard ?_; first | refine h_guard_y rfl nopre rfl ?_ | refine h_guard_n rfl nopre rfl ?_) | (refine gLoad ?_; refine H_ldB hp rfl rfl ?_) | refine R_ret ?_)))
    ·exact ⟨by simp [g1, g2], hp.x⟩
    ·exact ⟨by simp [g1, g2], hp.x⟩
   ·exact ⟨by simp [g1], hp.x⟩
  ·refine h_cond_dec (fun hg => False.elim (by omega)) (fun _ => ?_); refine h_cond_f rfl rfl ?_; (repeat (refine H_ldB hp rfl rfl ?_))
   by_cases h3 : o.kind = 3
   ·have hd : decide (opOkP o m) = decide ((0 ≤ o.a ∧ o.a < m) ∧ 0 ≤ o.b ∧ o.b ≤ 3) := by simp only [opOk_3 h3]
    rw [hd]
    refine h_cond_dec (fun _ => ?_) (fun hg => False.elim (by omega)); refine h_cond_t rfl rfl ?_; (repeat (refine H_ldB hp rfl rfl ?_))
    refine h_guard_by (fun g1 => ?_) (fun g1 => ?_); all_goals (rw [g1]; (first | replace g1 := of_decide_eq_true g1 | replace g1 := of_decide_eq_false g1 | skip); (repeat (first | (refine gGuard ?_; first | refine h_guard_y rfl nopre rfl ?_ | refine h_guard_n rfl nopre rfl ?_) | (refine gLoad ?_; refine H_ldB hp rfl rfl ?_) | refine R_ret ?_)))
    ·refine h_guard_by (fun g2 => ?_) (fun g2 => ?_); all_goals (rw [g2]; (first | replace g2 := of_decide_eq_true g2 | replace g2 := of_decide_eq_false g2 | skip); (repeat (first | (refine gGuard ?_; first | refine h_guard_y rfl nopre rfl ?_ | refine h_guard_n rfl nopre rfl ?_) | (refine gLoad ?_; refine H_ldB hp rfl rfl ?_) | refine R_ret ?_)))
     ·by_cases hb : 0 ≤ o.b ∧ o.b ≤ 3
      ·refine h_call rfl Tryz.func124 (by kernel_rfl) rfl ((inRange_h o.b 0 3 _).yes hb) ?_; rintro _ w ⟨rfl, hx⟩; have hp := hp.ext hx; refine ops_run nopre rfl ?_; (repeat (refine R_ret ?_))
       exact ⟨by simp [g1, g2, hb], hp.x⟩
      ·refine h_call rfl Tryz.func124 (by kernel_rfl) rfl ((inRange_h o.b 0 3 _).no hb) ?_; rintro _ w ⟨rfl, hx⟩; have hp := hp.ext hx; refine ops_run nopre rfl ?_; (repeat (refine R_ret ?_))
       exact ⟨by simp [g1, g2, hb], hp.x⟩
     ·exact ⟨by simp [g1, g2], hp.x⟩
    ·exact ⟨by simp [g1], hp.x⟩
   ·have hd : decide (opOkP o m) = decide (0 ≤ arL o.kind ∧ o.a = 0 ∧ o.b = 0) := by simp only [opOk_n h0 h2 h3]
    rw [hd]
    have hb := arL_b o.kind
    refine h_cond_dec (fun hg => False.elim (by omega)) (fun _ => ?_); refine h_cond_f rfl rfl ?_; (repeat (refine H_ldB hp rfl rfl ?_))
    refine h_call rfl Tryz.func95 (by kernel_rfl) rfl (implOpArity_h o.kind _) ?_; rintro _ w ⟨rfl, hx⟩; have hp := hp.ext hx; refine ops_run nopre rfl ?_; skip
    refine h_guard_by (fun g1 => ?_) (fun g1 => ?_); all_goals (rw [g1]; (first | replace g1 := of_decide_eq_true g1 | replace g1 := of_decide_eq_false g1 | skip); (repeat (first | (refine gGuard ?_; first | refine h_guard_y rfl nopre rfl ?_ | refine h_guard_n rfl nopre rfl ?_) | (refine gLoad ?_; refine H_ldB hp rfl rfl ?_) | refine R_ret ?_)))
    ·refine h_guard_by (fun g2 => ?_) (fun g2 => ?_); all_goals (rw [g2]; (first | replace g2 := of_decide_eq_true g2 | replace g2 := of_decide_eq_false g2 | skip); (repeat (first | (refine gGuard ?_; first | refine h_guard_y rfl nopre rfl ?_ | refine h_guard_n rfl nopre rfl ?_) | (refine gLoad ?_; refine H_ldB hp rfl rfl ?_) | refine R_ret ?_)))
     ·exact ⟨by simp [g1, g2], hp.x⟩
     ·exact ⟨by simp [g1, g2], hp.x⟩
    ·exact ⟨by simp [g1], hp.x⟩
theorem l04Op_h (o : OpL) (m : Int) (hi : i64O o) (w0 : World) : Ret Tryz.prog 138 [.agg ⟨eOp o⟩, .int .i64 m] w0 (fun v w => v = .bool (decide (opOkP o m)) ∧ Ext w0 w) := by
 obtain ⟨hi1, hi2, hi3⟩ := hi
 unfold i64R at hi1 hi2 hi3
 refine enter Tryz.S138ok _ _ rfl rfl (by show _ ≤ _; simp only [List.length]; decide) (fun C => ?_); have hp := Hp.nil w0; refine h_run rfl ?_; skip; (first | refine H_box hp ?_ | refine H_alloc hp rfl ?_); intro w b2 hx hp; refine ops_run nopre rfl ?_; (repeat (refine H_ldB hp rfl rfl ?_))
 by_cases h0 : o.kind = 0
 ·have hd : decide (opOkP o m) = decide ((0 ≤ o.a ∧ o.a ≤ 15) ∧ o.b = 0) := by simp only [opOk_0 h0]
  rw [hd]
  refine h_cond_dec (fun _ => ?_) (fun hg => False.elim (by omega)); refine h_cond_t rfl rfl ?_; (repeat (refine H_ldB hp rfl rfl ?_))
  by_cases ha : 0 ≤ o.a ∧ o.a ≤ 15
  ·refine h_call rfl Tryz.func79 (by kernel_rfl) rfl ((l01In_h o.a 0 15 _).yes ha) ?_; rintro _ w ⟨rfl, hx⟩; have hp := hp.ext hx; refine ops_run nopre rfl ?_; (repeat (first | (refine gGuard ?_; refine h_guard_y rfl nopre rfl ?_) | (refine gLoad ?_; refine H_ldB hp rfl rfl ?_) | refine R_ret ?_))
   exact ⟨by simp [ha], hp.x⟩
  ·refine h_call rfl Tryz.func79 (by kernel_rfl) rfl ((l01In_h o.a 0 15 _).no ha) ?_; rintro _ w ⟨rfl, hx⟩; have hp := hp.ext hx; refine ops_run nopre rfl ?_; (repeat (first | (refine gGuard ?_; refine h_guard_n rfl nopre rfl ?_) | refine R_ret ?_))
   exact ⟨by simp [ha], hp.x⟩
 ·refine h_cond_dec (fun hg => False.elim (by omega)) (fun _ => ?_); refine h_cond_f rfl rfl ?_; skip
  by_cases h2 : o.kind = 2
  ·have hd : decide (opOkP o m) = decide ((0 ≤ o.a ∧ o.a < m) ∧ o.b = 0) := by simp only [opOk_2 h2]
   rw [hd]
   refine h_cond_dec (fun _ => ?_) (fun hg => False.elim (by omega)); refine h_cond_t rfl rfl ?_; (repeat (refine H_ldB hp rfl rfl ?_))
   refine h_guard_by (fun g1 => ?_) (fun g1 => ?_); all_goals (rw [g1]; (first | replace g1 := of_decide_eq_true g1 | replace g1 := of_decide_eq_false g1 | skip); (repeat (first | (refine gGuard ?_; first | refine h_guard_y rfl nopre rfl ?_ | refine h_guard_n rfl nopre rfl ?_) | (refine gLoad ?_; refine H_ldB hp rfl rfl ?_) | refine R_ret ?_)))
   ·refine h_guard_by (fun g2 => ?_) (fun g2 => ?_); all_goals (rw [g2]; (first | replace g2 := of_decide_eq_true g2 | replace g2 := of_decide_eq_false g2 | skip); (repeat (first | (refine gGuard ?_; first | refine h_guard_y rfl nopre rfl ?_ | refine h_guard_n rfl nopre rfl ?_) | (refine gLoad ?_; refine H_ldB hp rfl rfl ?_) | refine R_ret ?_)))
    ·exact ⟨by simp [g1, g2], hp.x⟩
    ·exact ⟨by simp [g1, g2], hp.x⟩
   ·exact ⟨by simp [g1], hp.x⟩
  ·refine h_cond_dec (fun hg => False.elim (by omega)) (fun _ => ?_); refine h_cond_f rfl rfl ?_; skip
   by_cases h3 : o.kind = 3
   ·have hd : decide (opOkP o m) = decide ((0 ≤ o.a ∧ o.a < m) ∧ 0 ≤ o.b ∧ o.b ≤ 3) := by simp only [opOk_3 h3]
    rw [hd]
    refine h_cond_dec (fun _ => ?_) (fun hg => False.elim (by omega)); refine h_cond_t rfl rfl ?_; (repeat (refine H_ldB hp rfl rfl ?_))
    refine h_guard_by (fun g1 => ?_) (fun g1 => ?_); all_goals (rw [g1]; (first | replace g1 := of_decide_eq_true g1 | replace g1 := of_decide_eq_false g1 | skip); (repeat (first | (refine gGuard ?_; first | refine h_guard_y rfl nopre rfl ?_ | refine h_guard_n rfl nopre rfl ?_) | (refine gLoad ?_; refine H_ldB hp rfl rfl ?_) | refine R_ret ?_)))
    ·refine h_guard_by (fun g2 => ?_) (fun g2 => ?_); all_goals (rw [g2]; (first | replace g2 := of_decide_eq_true g2 | replace g2 := of_decide_eq_false g2 | skip); (repeat (first | (refine gGuard ?_; first | refine h_guard_y rfl nopre rfl ?_ | refine h_guard_n rfl nopre rfl ?_) | (refine gLoad ?_; refine H_ldB hp rfl rfl ?_) | refine R_ret ?_)))
     ·by_cases hb : 0 ≤ o.b ∧ o.b ≤ 3
      ·refine h_call rfl Tryz.func79 (by kernel_rfl) rfl ((l01In_h o.b 0 3 _).yes hb) ?_; rintro _ w ⟨rfl, hx⟩; have hp := hp.ext hx; refine ops_run nopre rfl ?_; (repeat (refine R_ret ?_))
       exact ⟨by simp [g1, g2, hb], hp.x⟩
      ·refine h_call rfl Tryz.func79 (by kernel_rfl) rfl ((l01In_h o.b 0 3 _).no hb) ?_; rintro _ w ⟨rfl, hx⟩; have hp := hp.ext hx; refine ops_run nopre rfl ?_; (repeat (refine R_ret ?_))
       exact ⟨by simp [g1, g2, hb], hp.x⟩
     ·exact ⟨by simp [g1, g2], hp.x⟩
    ·exact ⟨by simp [g1], hp.x⟩
   ·have hd : decide (opOkP o m) = decide (0 ≤ arL o.kind ∧ o.a = 0 ∧ o.b = 0) := by simp only [opOk_n h0 h2 h3]
    rw [hd]
    have hb := arL_b o.kind
    refine h_cond_dec (fun hg => False.elim (by omega)) (fun _ => ?_); refine h_cond_f rfl rfl ?_; (repeat (refine H_ldB hp rfl rfl ?_))
    refine h_call rfl Tryz.func139 (by kernel_rfl) rfl (specOpArity_h o.kind _) ?_; rintro _ w ⟨rfl, hx⟩; have hp := hp.ext hx; refine ops_run nopre rfl ?_; skip
    refine h_guard_by (fun g1 => ?_) (fun g1 => ?_); all_goals (rw [g1]; (first | replace g1 := of_decide_eq_true g1 | replace g1 := of_decide_eq_false g1 | skip); (repeat (first | (refine gGuard ?_; first | refine h_guard_y rfl nopre rfl ?_ | refine h_guard_n rfl nopre rfl ?_) | (refine gLoad ?_; refine H_ldB hp rfl rfl ?_) | refine R_ret ?_)))
    ·refine h_guard_by (fun g2 => ?_) (fun g2 => ?_); all_goals (rw [g2]; (first | replace g2 := of_decide_eq_true g2 | replace g2 := of_decide_eq_false g2 | skip); (repeat (first | (refine gGuard ?_; first | refine h_guard_y rfl nopre rfl ?_ | refine h_guard_n rfl nopre rfl ?_) | (refine gLoad ?_; refine H_ldB hp rfl rfl ?_) | refine R_ret ?_)))
     ·exact ⟨by simp [g1, g2], hp.x⟩
     ·exact ⟨by simp [g1, g2], hp.x⟩
    ·exact ⟨by simp [g1], hp.x⟩
theorem implOpsOk_h (a : Option Addr) (c n : Nat) (ops : List OpL) (hn : ops.length = n) (m : Int) (w0 : World) (hR : Rd w0 a 3 eOp ops) (hl : ops.length ≤ 1048576) (hi : ∀ i, i < ops.length → i64O (ops.getD i default)) :
  Ret Tryz.prog 182 [.slice a n c, .int .i64 m] w0 (fun v w => v = .bool (opsB ops m) ∧ Ext w0 w) := by
 subst hn
 refine enter Tryz.S182ok _ _ rfl rfl (by show _ ≤ _; simp only [List.length]; decide) (fun C => ?_); have hp := Hp.nil w0; refine h_run rfl ?_; skip
 refine h_guard_by (fun h1 => ?_) (fun h1 => ?_); all_goals (rw [h1]; (first | replace h1 := of_decide_eq_true h1 | replace h1 := of_decide_eq_false h1 | skip); (repeat (refine gGuard ?_; first | refine h_guard_y rfl nopre rfl ?_ | refine h_guard_n rfl nopre rfl ?_)))
 ·refine h_cond_t rfl rfl ?_; (repeat (refine R_ret ?_))
  rw [opsB_no (fun h => by have hf := h.full; rw [show ops.length = 0 by omega] at hf; exact absurd (show (1 : Int) = 0 from hf) (by decide))]
  exact ⟨rfl, hp.x⟩
 ·refine h_cond_dec (fun h2 => ?_) (fun h2 => ?_)
  ·refine h_cond_t rfl rfl ?_; (repeat (refine R_ret ?_))
   rw [opsB_no (fun h => by have := h.len; omega)]
   exact ⟨rfl, hp.x⟩
  ·refine h_cond_f rfl rfl ?_; skip
   refine h_loop [1, 5, 16, 17, 18] (fun (i : Nat) => [(1, .int .i64 m), (5, .int .i64 (needTo ops i)), (16, .slice a ops.length c), (17, .int .i64 ops.length), (18, .int .i64 (i : Int))])
    (fun i w' => (i ≤ ops.length ∧ ∀ j, j < i → needTo ops j ≠ 0 ∧ opOkP (ops.getD j default) m) ∧ Hp w0 w' []) (fun i => ops.length - i) 0 rfl ⟨⟨by omega, fun j hj => by omega⟩, hp⟩ ?_
   clear hp
   rintro i w1 ⟨⟨hil, hall⟩, hp⟩ IH C
   have hnb := needTo_b ops i
   refine h_run rfl ?_; skip
   refine h_cond_dec (fun hlt => ?_) (fun hlt => ?_)
   ·have hlt' : i < ops.length := by omega
    have hii := hi i hlt'
    refine h_cond_t rfl rfl ?_; (repeat (refine H_ldEN hp rfl (by omega) rfl rfl ?_))
    (first | refine H_box hp ?_ | refine H_alloc hp rfl ?_); intro w b7 hx hp; refine ops_run nopre rfl ?_; (repeat (refine U_stBN hp rfl rfl rfl rfl ?_; intro w hp; refine ops_run nopre rfl ?_))
    refine h_guard_by (fun h3 => ?_) (fun h3 => ?_); all_goals (rw [h3]; (first | replace h3 := of_decide_eq_true h3 | replace h3 := of_decide_eq_false h3 | skip); (repeat (first | (refine gGuard ?_; first | refine h_guard_y rfl nopre rfl ?_ | refine h_guard_n rfl nopre rfl ?_) | (refine gLoad ?_; refine H_ldB hp rfl rfl ?_))))
    ·refine h_cond_t rfl rfl ?_; (repeat (refine R_ret ?_))
     rw [opsB_no (fun h => (h.each i hlt').1 h3)]
     exact ⟨rfl, hp.x⟩
    ·by_cases ho : opOkP (ops.getD i default) m
     ·refine h_call rfl Tryz.func192 (by kernel_rfl) rfl ((opOk_h (ops.getD i default) m hii _).tt (decide_eq_true ho)) ?_; rintro _ w ⟨rfl, hx⟩; have hp := hp.ext hx; refine ops_run nopre rfl ?_; (repeat (refine h_guard_y rfl nopre rfl ?_))
      refine h_cond_f rfl rfl ?_; (repeat (refine H_ldB hp rfl rfl ?_))
      have har := arL_b (ops.getD i default).kind
      refine h_call rfl Tryz.func95 (by kernel_rfl) rfl (implOpArity_h (ops.getD i default).kind _) ?_; rintro _ w ⟨rfl, hx⟩; have hp := hp.ext hx; refine ops_run nopre rfl ?_; skip
      refine IH (i + 1) _ _ _ (by omega) (by rw [show needTo ops (i + 1) = needTo ops i + (arL (ops.getD i default).kind - 1) by show needTo ops i - 1 + _ = _; omega]; rfl) ⟨⟨by omega, fun j hj => ?_⟩, (Hp.of_ext hp.x)⟩
      by_cases hji : j = i
      ·subst hji; exact ⟨h3, ho⟩
      ·exact hall j (by omega)
     ·refine h_call rfl Tryz.func192 (by kernel_rfl) rfl ((opOk_h (ops.getD i default) m hii _).ff (decide_eq_false ho)) ?_; rintro _ w ⟨rfl, hx⟩; have hp := hp.ext hx; refine ops_run nopre rfl ?_; (repeat (refine h_guard_y rfl nopre rfl ?_))
      refine h_cond_t rfl rfl ?_; (repeat (refine R_ret ?_))
      rw [opsB_no (fun h => ho (h.each i hlt').2)]
      exact ⟨rfl, hp.x⟩
   ·obtain rfl : i = ops.length := by omega
    clear IH
    refine h_cond_f rfl rfl ?_; (repeat (refine R_ret ?_))
    by_cases hz : needTo ops ops.length = 0
    ·rw [opsB_yes ⟨by omega, hall, hz⟩, decide_eq_true hz]
     exact ⟨rfl, hp.x⟩
    ·rw [opsB_no (fun h => hz h.full), decide_eq_false hz]
     exact ⟨rfl, hp.x⟩
theorem specOpsOk_h (a : Option Addr) (c n : Nat) (ops : List OpL) (hn : ops.length = n) (m : Int) (w0 : World) (hR : Rd w0 a 3 eOp ops) (hl : ops.length ≤ 1048576) (hi : ∀ i, i < ops.length → i64O (ops.getD i default)) :
  Ret Tryz.prog 78 [.slice a n c, .int .i64 m] w0 (fun v w => v = .bool (opsB ops m) ∧ Ext w0 w) := by
 subst hn
 refine enter Tryz.S78ok _ _ rfl rfl (by show _ ≤ _; simp only [List.length]; decide) (fun C => ?_); have hp := Hp.nil w0; refine h_run rfl ?_; skip
 refine h_cond_dec (fun h2 => ?_) (fun h2 => ?_)
 ·refine h_cond_t rfl rfl ?_; (repeat (refine R_ret ?_))
  rw [opsB_no (fun h => by have := h.len; omega)]
  exact ⟨rfl, hp.x⟩
 ·refine h_cond_f rfl rfl ?_; skip
  refine h_loop [0, 1, 5, 6] (fun (i : Nat) => [(0, .slice a ops.length c), (1, .int .i64 m), (5, .int .i64 (needTo ops i)), (6, .int .i64 (i : Int))])
   (fun i w' => (i ≤ ops.length ∧ ∀ j, j < i → needTo ops j ≠ 0 ∧ opOkP (ops.getD j default) m) ∧ Hp w0 w' []) (fun i => ops.length - i) 0 rfl ⟨⟨by omega, fun j hj => by omega⟩, hp⟩ ?_
  clear hp
  rintro i w1 ⟨⟨hil, hall⟩, hp⟩ IH C
  have hnb := needTo_b ops i
  refine h_run rfl ?_; skip
  refine h_cond_dec (fun hlt => ?_) (fun hlt => ?_)
  ·have hlt' : i < ops.length := by omega
   have hii := hi i hlt'
   refine h_cond_t rfl rfl ?_; skip
   refine h_guard_by (fun h3 => ?_) (fun h3 => ?_); all_goals (rw [h3]; (first | replace h3 := of_decide_eq_true h3 | replace h3 := of_decide_eq_false h3 | skip); (repeat (first | (refine gGuard ?_; first | refine h_guard_y rfl nopre rfl ?_ | refine h_guard_n rfl nopre rfl ?_) | (refine gLoad ?_; refine H_ldEN hp rfl (by omega) rfl rfl ?_))))
   ·refine h_cond_t rfl rfl ?_; (repeat (refine R_ret ?_))
    rw [opsB_no (fun h => (h.each i hlt').1 h3)]
    exact ⟨rfl, hp.x⟩
   ·by_cases ho : opOkP (ops.getD i default) m
    ·refine h_call rfl Tryz.func138 (by kernel_rfl) rfl ((l04Op_h (ops.getD i default) m hii _).tt (decide_eq_true ho)) ?_; rintro _ w ⟨rfl, hx⟩; have hp := hp.ext hx; refine ops_run nopre rfl ?_; (repeat (refine h_guard_y rfl nopre rfl ?_))
     refine h_cond_f rfl rfl ?_; (repeat (refine H_ldFN hp rfl (by omega) rfl rfl ?_))
     have har := arL_b (ops.getD i default).kind
     refine h_call rfl Tryz.func139 (by kernel_rfl) rfl (specOpArity_h (ops.getD i default).kind _) ?_; rintro _ w ⟨rfl, hx⟩; have hp := hp.ext hx; refine ops_run nopre rfl ?_; skip
     refine IH (i + 1) _ _ _ (by omega) rfl ⟨⟨by omega, fun j hj => ?_⟩, (Hp.of_ext hp.x)⟩
     by_cases hji : j = i
     ·subst hji; exact ⟨h3, ho⟩
     ·exact hall j (by omega)
    ·refine h_call rfl Tryz.func138 (by kernel_rfl) rfl ((l04Op_h (ops.getD i default) m hii _).ff (decide_eq_false ho)) ?_; rintro _ w ⟨rfl, hx⟩; have hp := hp.ext hx; refine ops_run nopre rfl ?_; (repeat (refine h_guard_y rfl nopre rfl ?_))
     refine h_cond_t rfl rfl ?_; (repeat (refine R_ret ?_))
     rw [opsB_no (fun h => ho (h.each i hlt').2)]
     exact ⟨rfl, hp.x⟩
  ·obtain rfl : i = ops.length := by omega
   clear IH
   refine h_cond_f rfl rfl ?_; (repeat (refine R_ret ?_))
   by_cases hz : needTo ops ops.length = 0
   ·rw [opsB_yes ⟨by omega, hall, hz⟩, decide_eq_true hz]
    exact ⟨rfl, hp.x⟩
   ·rw [opsB_no (fun h => hz h.full), decide_eq_false hz]
    exact ⟨rfl, hp.x⟩
theorem parB_yes {ops : List OpL} (h : ∃ o, o ∈ ops ∧ o.kind = 1) : parB ops = true := pB_iff.2 h
theorem parB_no {ops : List OpL} (h : ¬ ∃ o, o ∈ ops ∧ o.kind = 1) : parB ops = false := Bool.eq_false_iff.2 fun hh => h (pB_iff.1 hh)
theorem hasParam_h (a : Option Addr) (c n : Nat) (ops : List OpL) (hn : ops.length = n) (w0 : World) (hR : Rd w0 a 3 eOp ops) (hl : ops.length ≤ 1048576) :
  Ret Tryz.prog 92 [.slice a n c] w0 (fun v w => v = .bool (parB ops) ∧ Ext w0 w) := by
 subst hn
 refine enter Tryz.S92ok _ _ rfl rfl (by show _ ≤ _; simp only [List.length]; decide) (fun C => ?_); have hp := Hp.nil w0; refine h_run rfl ?_; skip
 refine h_loop [5, 6, 7] (fun (i : Nat) => [(5, .slice a ops.length c), (6, .int .i64 ops.length), (7, .int .i64 (i : Int))])
  (fun i w' => (i ≤ ops.length ∧ ∀ j, j < i → (ops.getD j default).kind ≠ 1) ∧ Hp w0 w' []) (fun i => ops.length - i) 0 rfl ⟨⟨by omega, fun j hj => by omega⟩, hp⟩ ?_
 clear hp
 rintro i w1 ⟨⟨hil, hall⟩, hp⟩ IH C
 refine h_run rfl ?_; skip
 refine h_cond_dec (fun hlt => ?_) (fun hlt => ?_)
 ·have hlt' : i < ops.length := by omega
  refine h_cond_t rfl rfl ?_; (repeat (refine H_ldEN hp rfl (by omega) rfl rfl ?_))
  (first | refine H_box hp ?_ | refine H_alloc hp rfl ?_); intro w b4 hx hp; refine ops_run nopre rfl ?_; (repeat (first | (refine gLoad ?_; refine H_ldB hp rfl rfl ?_) | (refine gStore ?_; refine U_stBN hp rfl rfl rfl rfl ?_; intro w hp; refine ops_run nopre rfl ?_)))
  refine h_cond_dec (fun h1 => ?_) (fun h1 => ?_)
  ·refine h_cond_t rfl rfl ?_; (repeat (refine R_ret ?_))
   rw [parB_yes ⟨_, getD_mem hlt', h1⟩]
   exact ⟨rfl, hp.x⟩
  ·refine h_cond_f rfl rfl ?_; skip
   refine IH (i + 1) _ _ _ (by omega) rfl ⟨⟨by omega, fun j hj => ?_⟩, (Hp.of_ext hp.x)⟩
   by_cases hji : j = i
   ·subst hji; exact h1
   ·exact hall j (by omega)
 ·obtain rfl : i = ops.length := by omega
  clear IH
  refine h_cond_f rfl rfl ?_; (repeat (refine R_ret ?_))
  rw [parB_no (by
   rintro ⟨o, ho, hk⟩
   obtain ⟨j, hj, he⟩ := List.getElem_of_mem ho
   refine hall j hj ?_
   rw [List.getD_eq_getElem?_getD, List.getElem?_eq_getElem hj]
   show (ops[j]).kind = 1
   rw [he]; exact hk)]
  exact ⟨rfl, hp.x⟩
end Go.Proofs
