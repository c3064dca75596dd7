/- The reference's checks of whole modules and its order of assignments; each under its stated conditions. Printed by wip/gen_flatt.py. -/
import Derived.Test.YtiepmliokblkjaaGreatFlatS
set_option linter.all false
namespace Go.Proofs
open Go.Xw
set_option maxRecDepth 100000
set_option maxHeartbeats 2000000
attribute [local irreducible] Holds elemAddr
theorem kdL_nn {x : ModA} (hsg : ∀ j : Nat, j < x.sg.length → sgOkP (x.sg.getD j default) ∧ ((x.sg.getD j default).kind ≠ 0 → drvL x.n j = 1)) {s : Int} (h : inL x.n s) : ¬ kdL x.n s < 0 := by
 rw [kdL_yes h]
 unfold inL at h
 change 0 ≤ s ∧ s < (x.sg.length : Int) at h
 have := (hsg s.toNat (by omega)).1.1
 change ¬ (x.sg.getD s.toNat default).kind < 0
 omega
theorem specModuleOk_h (a : Option Addr) (c : Nat) (D : List ModA) (hD1 : D.length = 1) (x : ModA) (hDx : D.getD 0 default = x) (hi0 : x.ins = []) (w0 : World) (hD : Rd w0 a 4 ModA.cs D) (hM : ModR w0 x) (hS : ModS x.n) (hW : ModW x.n) :
  Ret Tryz.prog 135 [.agg ⟨[.slice a 1 c]⟩, .int .i64 0] w0 (fun v w => v = .bool (pB (ModOkP x.n)) ∧ Ext w0 w) := by
 have hil : x.ins.length = 0 := by rw [hi0]; rfl
 have s1 : x.sg.length ≤ 1048576 := hS.sg
 have s2 : x.asg.length ≤ 1048576 := by have := hS.asg; rw [x.alen] at this; exact this
 have s6 : x.ms.length ≤ 1048576 := hS.ms
 have e0 : D.getD (Int.toNat 0) default = x := hDx
 refine enter Tryz.S135ok _ _ rfl rfl (by show _ ≤ _; simp only [List.length]; decide) (fun C => ?_); have hp := Hp.nil w0; refine h_run rfl ?_; skip; (first | refine H_box hp ?_ | refine H_alloc hp rfl ?_); intro w b2 hx hp; refine ops_run nopre rfl ?_; (repeat (refine H_ldB hp rfl rfl ?_))
 by_cases hc : x.sg.length ≤ 30 ∧ x.asg.length ≤ 30 ∧ x.ms.length ≤ 2
 ·obtain ⟨l1, l2, l3⟩ := hc
  refine h_call rfl Tryz.func167 (by kernel_rfl) rfl ((l04Counts_h a c D hD1 x hDx hi0 _ hp.rd s1 s2 s6).tt (pB_iff.2 ⟨l1, l2, l3⟩)) ?_; rintro _ w ⟨rfl, hx⟩; have hp := hp.ext hx; refine ops_run nopre rfl ?_; skip
  refine h_cond_f rfl rfl ?_; (repeat (refine gLoad ?_; first | refine H_ldB hp rfl rfl ?_ | refine H_ldE hp rfl (by omega) (by omega) rfl rfl ?_))
  rw [e0]
  (first | refine H_box hp ?_ | refine H_alloc hp rfl ?_); intro w b5 hx hp; refine ops_run nopre rfl ?_; (repeat (refine U_stBN hp rfl rfl rfl rfl ?_; intro w hp; refine ops_run nopre rfl ?_))
  have hp : Hp w0 _ [rB b5 41 x.cs, rB b2 136 [.slice a 1 c]] := hp
  refine h_loop [1, 2, 5, 6] (fun (i : Nat) => [(1, .int .i64 0), (2, .pointer (some ⟨b2, 0, none⟩)), (5, .pointer (some ⟨b5, 0, none⟩)), (6, .int .i64 (i : Int))])
   (fun i w' => (i ≤ x.sg.length ∧ ∀ j : Nat, j < i → sgOkP (x.sg.getD j default) ∧ ((x.sg.getD j default).kind ≠ 0 → drvL x.n j = 1)) ∧ Hp w0 w' [rB b5 41 x.cs, rB b2 136 [.slice a 1 c]]) (fun i => x.sg.length - i) 0 rfl ⟨⟨by omega, fun j hj => by omega⟩, hp⟩ ?_
  clear hp
  rintro i w1 ⟨⟨hi, hsg⟩, hp⟩ IH C
  refine h_run rfl ?_; (repeat (refine H_ldB hp rfl rfl ?_))
  refine h_cond_dec (fun hlt => ?_) (fun hlt => ?_)
  ·have hlt' : i < x.sg.length := by omega
   refine h_cond_t rfl rfl ?_; (repeat (refine gLoad ?_; first | refine H_ldB hp rfl rfl ?_ | refine H_ldEN hp rfl (by omega) rfl rfl ?_))
   (first | refine H_box hp ?_ | refine H_alloc hp rfl ?_); intro w b7 hx hp; refine ops_run nopre rfl ?_; (repeat (first | (refine gLoad ?_; refine H_ldB hp rfl rfl ?_) | (refine gStore ?_; refine U_stBN hp rfl rfl rfl rfl ?_; intro w hp; refine ops_run nopre rfl ?_)))
   by_cases h1 : 0 ≤ (x.sg.getD i default).kind ∧ (x.sg.getD i default).kind ≤ 3
   ·refine h_call rfl Tryz.func79 (by kernel_rfl) rfl ((l01In_h (x.sg.getD i default).kind 0 3 _).yes h1) ?_; rintro _ w ⟨rfl, hx⟩; have hp := hp.ext hx; refine ops_run nopre rfl ?_; (repeat (first | (refine gGuard ?_; refine h_guard_y rfl nopre rfl ?_) | (refine gLoad ?_; refine H_ldB hp rfl rfl ?_)))
    by_cases h2 : 0 ≤ (x.sg.getD i default).width ∧ (x.sg.getD i default).width ≤ 4
    ·refine h_call rfl Tryz.func79 (by kernel_rfl) rfl ((l01In_h (x.sg.getD i default).width 0 4 _).yes h2) ?_; rintro _ w ⟨rfl, hx⟩; have hp := hp.ext hx; refine ops_run nopre rfl ?_; (repeat (first | (refine gGuard ?_; refine h_guard_y rfl nopre rfl ?_) | (refine gLoad ?_; refine H_ldB hp rfl rfl ?_)))
     by_cases h3 : 0 ≤ (x.sg.getD i default).init ∧ (x.sg.getD i default).init ≤ 15
     ·refine h_call rfl Tryz.func79 (by kernel_rfl) rfl ((l01In_h (x.sg.getD i default).init 0 15 _).yes h3) ?_; rintro _ w ⟨rfl, hx⟩; have hp := hp.ext hx; refine ops_run nopre rfl ?_; (repeat (first | (refine gGuard ?_; refine h_guard_y rfl nopre rfl ?_) | (refine gLoad ?_; refine H_ldB hp rfl rfl ?_)))
      refine h_guard_by (fun h4 => ?_) (fun h4 => ?_); all_goals (rw [h4]; (first | replace h4 := of_decide_eq_true h4 | replace h4 := of_decide_eq_false h4 | skip); (repeat (first | (refine gGuard ?_; first | refine h_guard_y rfl nopre rfl ?_ | refine h_guard_n rfl nopre rfl ?_) | (refine gLoad ?_; refine H_ldB hp rfl rfl ?_))))
      ·refine h_cond_dec (fun h5 => ?_) (fun h5 => ?_)
       ·have hbad : ¬ ModOkP x.n := fun h => by rcases (h.sg i hlt').2.2 with h | h; exact h4 h; exact h5 h.1
        refine h_cond_t rfl rfl ?_; (repeat (refine R_ret ?_))
        exact ⟨by rw [pB_no' hbad], hp.x⟩
       ·refine h_cond_f rfl rfl ?_; (repeat (refine H_ldB hp rfl rfl ?_))
        have hs : sgOkP (x.sg.getD i default) := ⟨h1, h2, .inr ⟨Decidable.not_not.1 h5, h3⟩⟩
        refine h_guard_by (fun h6 => ?_) (fun h6 => ?_); all_goals (rw [h6]; (first | replace h6 := of_decide_eq_true h6 | replace h6 := of_decide_eq_false h6 | skip); (repeat (first | (refine gGuard ?_; first | refine h_guard_y rfl nopre rfl ?_ | refine h_guard_n rfl nopre rfl ?_) | (refine gLoad ?_; refine H_ldB hp rfl rfl ?_))))
        ·refine h_call rfl Tryz.func168 (by kernel_rfl) rfl (driverCount_h a c D hD1 x hDx hi0 l1 l2 l3 i hlt' _ hp.rd hp.mod) ?_; rintro _ w ⟨rfl, hx⟩; have hp := hp.ext hx; refine ops_run nopre rfl ?_; (repeat (refine h_guard_y rfl nopre rfl ?_))
         refine h_cond_dec (fun h7 => ?_) (fun h7 => ?_)
         ·have hbad : ¬ ModOkP x.n := fun h => h7 (h.drv i hlt' (by have hk : (x.n.sg.getD i default).kind = (x.sg.getD i default).kind := rfl; omega))
          refine h_cond_t rfl rfl ?_; (repeat (refine R_ret ?_))
          exact ⟨by rw [pB_no' hbad], hp.x⟩
         ·refine h_cond_f rfl rfl ?_; skip
          refine IH (i + 1) _ _ _ (by omega) rfl ⟨⟨by omega, fun j hj => ?_⟩, hp.drop⟩
          by_cases hj2 : j < i
          ·exact hsg j hj2
          ·obtain rfl : j = i := by omega
           exact ⟨hs, fun _ => Decidable.not_not.1 h7⟩
        ·refine h_cond_f rfl rfl ?_; skip
         refine IH (i + 1) _ _ _ (by omega) rfl ⟨⟨by omega, fun j hj => ?_⟩, hp.drop⟩
         by_cases hj2 : j < i
         ·exact hsg j hj2
         ·obtain rfl : j = i := by omega
          exact ⟨hs, fun h => absurd h h6⟩
      ·have hs : sgOkP (x.sg.getD i default) := ⟨h1, h2, .inl (Decidable.not_not.1 h4)⟩
       refine h_cond_f rfl rfl ?_; (repeat (refine H_ldB hp rfl rfl ?_))
       refine h_guard_by (fun h6 => ?_) (fun h6 => ?_); all_goals (rw [h6]; (first | replace h6 := of_decide_eq_true h6 | replace h6 := of_decide_eq_false h6 | skip); (repeat (first | (refine gGuard ?_; first | refine h_guard_y rfl nopre rfl ?_ | refine h_guard_n rfl nopre rfl ?_) | (refine gLoad ?_; refine H_ldB hp rfl rfl ?_))))
       ·refine h_call rfl Tryz.func168 (by kernel_rfl) rfl (driverCount_h a c D hD1 x hDx hi0 l1 l2 l3 i hlt' _ hp.rd hp.mod) ?_; rintro _ w ⟨rfl, hx⟩; have hp := hp.ext hx; refine ops_run nopre rfl ?_; (repeat (refine h_guard_y rfl nopre rfl ?_))
        refine h_cond_dec (fun h7 => ?_) (fun h7 => ?_)
        ·have hbad : ¬ ModOkP x.n := fun h => h7 (h.drv i hlt' (by have hk : (x.n.sg.getD i default).kind = (x.sg.getD i default).kind := rfl; omega))
         refine h_cond_t rfl rfl ?_; (repeat (refine R_ret ?_))
         exact ⟨by rw [pB_no' hbad], hp.x⟩
        ·refine h_cond_f rfl rfl ?_; skip
         refine IH (i + 1) _ _ _ (by omega) rfl ⟨⟨by omega, fun j hj => ?_⟩, hp.drop⟩
         by_cases hj2 : j < i
         ·exact hsg j hj2
         ·obtain rfl : j = i := by omega
          exact ⟨hs, fun _ => Decidable.not_not.1 h7⟩
       ·refine h_cond_f rfl rfl ?_; skip
        refine IH (i + 1) _ _ _ (by omega) rfl ⟨⟨by omega, fun j hj => ?_⟩, hp.drop⟩
        by_cases hj2 : j < i
        ·exact hsg j hj2
        ·obtain rfl : j = i := by omega
         exact ⟨hs, fun h => absurd h h6⟩
     ·refine h_call rfl Tryz.func79 (by kernel_rfl) rfl ((l01In_h (x.sg.getD i default).init 0 15 _).no h3) ?_; rintro _ w ⟨rfl, hx⟩; have hp := hp.ext hx; refine ops_run nopre rfl ?_; (repeat (refine gGuard ?_; first | refine h_guard_y rfl nopre rfl ?_ | refine h_guard_n rfl nopre rfl ?_))
      have hbad : ¬ ModOkP x.n := fun h => h3 (by rcases (h.sg i hlt').2.2 with h | h; (have h : (x.sg.getD i default).init = 0 := h; omega); exact h.2)
      refine h_cond_t rfl rfl ?_; (repeat (refine R_ret ?_))
      exact ⟨by rw [pB_no' hbad], hp.x⟩
    ·refine h_call rfl Tryz.func79 (by kernel_rfl) rfl ((l01In_h (x.sg.getD i default).width 0 4 _).no h2) ?_; rintro _ w ⟨rfl, hx⟩; have hp := hp.ext hx; refine ops_run nopre rfl ?_; (repeat (refine gGuard ?_; first | refine h_guard_y rfl nopre rfl ?_ | refine h_guard_n rfl nopre rfl ?_))
     have hbad : ¬ ModOkP x.n := fun h => h2 (h.sg i hlt').2.1
     refine h_cond_t rfl rfl ?_; (repeat (refine R_ret ?_))
     exact ⟨by rw [pB_no' hbad], hp.x⟩
   ·refine h_call rfl Tryz.func79 (by kernel_rfl) rfl ((l01In_h (x.sg.getD i default).kind 0 3 _).no h1) ?_; rintro _ w ⟨rfl, hx⟩; have hp := hp.ext hx; refine ops_run nopre rfl ?_; (repeat (refine h_guard_n rfl nopre rfl ?_))
    have hbad : ¬ ModOkP x.n := fun h => h1 (h.sg i hlt').1
    refine h_cond_t rfl rfl ?_; (repeat (refine R_ret ?_))
    exact ⟨by rw [pB_no' hbad], hp.x⟩
  ·refine h_cond_f rfl rfl ?_; skip
   obtain rfl : i = x.sg.length := by omega
   clear IH
   refine h_loop [2, 5, 8] (fun (i : Nat) => [(2, .pointer (some ⟨b2, 0, none⟩)), (5, .pointer (some ⟨b5, 0, none⟩)), (8, .int .i64 (i : Int))])
    (fun i w' => (i ≤ x.asg.length ∧ ∀ j, j < i → asOkP x.n (x.n.asg.getD j default)) ∧ Hp w0 w' [rB b5 41 x.cs, rB b2 136 [.slice a 1 c]]) (fun i => x.asg.length - i) 0 rfl ⟨⟨by omega, fun j hj => by omega⟩, hp⟩ ?_
   clear hp
   rintro i w1 ⟨⟨hi, has⟩, hp⟩ IH C
   refine h_run rfl ?_; (repeat (refine H_ldB hp rfl rfl ?_))
   refine h_cond_dec (fun hlt => ?_) (fun hlt => ?_)
   ·have hlt' : i < x.asg.length := by omega
    have hro := hM.asg.at_ hlt'
    have eat := asAt x i
    have eol : (x.asg.getD i default).ops.length ≤ 1048576 := by have := hS.ops i (by rw [x.alen]; exact hlt'); rw [x.aops] at this; exact this
    have eoi : ∀ j, j < (x.asg.getD i default).ops.length → i64O ((x.asg.getD i default).ops.getD j default) := fun j hj => by have := hW.ops i (by rw [x.alen]; exact hlt') j (by rw [x.aops]; exact hj); rw [x.aops] at this; exact this
    refine h_cond_t rfl rfl ?_; (repeat (refine gLoad ?_; first | refine H_ldB hp rfl rfl ?_ | refine H_ldEN hp rfl (by omega) rfl rfl ?_))
    (first | refine H_box hp ?_ | refine H_alloc hp rfl ?_); intro w b9 hx hp; refine ops_run nopre rfl ?_; (repeat (first | (refine gLoad ?_; refine H_ldB hp rfl rfl ?_) | (refine gStore ?_; refine U_stBN hp rfl rfl rfl rfl ?_; intro w hp; refine ops_run nopre rfl ?_)))
    by_cases h1 : drvsP x.n (x.asg.getD i default).tg
    ·refine h_call rfl Tryz.func169 (by kernel_rfl) rfl ((l04Driven_h x (x.asg.getD i default).tg _ hp.mod s1).tt (pB_iff.2 h1)) ?_; rintro _ w ⟨rfl, hx⟩; have hp := hp.ext hx; refine ops_run nopre rfl ?_; (repeat (first | (refine gGuard ?_; first | refine h_guard_y rfl nopre rfl ?_ | refine h_guard_n rfl nopre rfl ?_) | (refine gLoad ?_; refine H_ldB hp rfl rfl ?_)))
     have h2 : inL x.n (x.asg.getD i default).tg ∧ (kindL x.n (x.asg.getD i default).tg = 1 ∨ kindL x.n (x.asg.getD i default).tg = 2 ∨ kindL x.n (x.asg.getD i default).tg = 3) := ⟨h1.1, by rcases h1.2 with h | h; exact .inl h; exact .inr (.inl h)⟩
     by_cases h4 : OpsOkP (x.asg.getD i default).ops x.sg.length
     ·refine h_call rfl Tryz.func78 (by kernel_rfl) rfl ((specOpsOk_h _ _ _ (x.asg.getD i default).ops rfl x.sg.length _ hp.rd eol eoi).tt (opsB_yes h4)) ?_; rintro _ w ⟨rfl, hx⟩; have hp := hp.ext hx; refine ops_run nopre rfl ?_; (repeat (refine h_guard_y rfl nopre rfl ?_))
      refine h_cond_f rfl rfl ?_; skip
      refine IH (i + 1) _ _ _ (by omega) rfl ⟨⟨by omega, fun j hj => ?_⟩, hp.drop⟩
      by_cases hj2 : j < i
      ·exact has j hj2
      ·obtain rfl : j = i := by omega
       exact by rw [eat]; exact ⟨h2.1, h2.2, h4⟩
     ·refine h_call rfl Tryz.func78 (by kernel_rfl) rfl ((specOpsOk_h _ _ _ (x.asg.getD i default).ops rfl x.sg.length _ hp.rd eol eoi).ff (opsB_no h4)) ?_; rintro _ w ⟨rfl, hx⟩; have hp := hp.ext hx; refine ops_run nopre rfl ?_; (repeat (refine h_guard_y rfl nopre rfl ?_))
      have hbad : ¬ ModOkP x.n := fun h => h4 (by have := h.asg i (by rw [x.alen]; exact hlt'); rw [eat] at this; exact this.2.2)
      refine h_cond_t rfl rfl ?_; (repeat (refine R_ret ?_))
      exact ⟨by rw [pB_no' hbad], hp.x⟩
    ·refine h_call rfl Tryz.func169 (by kernel_rfl) rfl ((l04Driven_h x (x.asg.getD i default).tg _ hp.mod s1).ff (pB_no' h1)) ?_; rintro _ w ⟨rfl, hx⟩; have hp := hp.ext hx; refine ops_run nopre rfl ?_; (repeat (first | (refine gGuard ?_; refine h_guard_y rfl nopre rfl ?_) | (refine gLoad ?_; refine H_ldB hp rfl rfl ?_)))
     refine h_call rfl Tryz.func170 (by kernel_rfl) rfl (l04Kind_h x (x.asg.getD i default).tg _ hp.mod s1) ?_; rintro _ w ⟨rfl, hx⟩; have hp := hp.ext hx; refine ops_run nopre rfl ?_; (repeat (refine h_guard_y rfl nopre rfl ?_))
     refine h_guard_by (fun h3 => ?_) (fun h3 => ?_); all_goals (rw [h3]; (first | replace h3 := of_decide_eq_true h3 | replace h3 := of_decide_eq_false h3 | skip); (repeat (first | (refine gGuard ?_; first | refine h_guard_y rfl nopre rfl ?_ | refine h_guard_n rfl nopre rfl ?_) | (refine gLoad ?_; refine H_ldB hp rfl rfl ?_))))
     ·have hbad : ¬ ModOkP x.n := fun h => by
       have := h.asg i (by rw [x.alen]; exact hlt')
       rw [eat] at this
       rcases this.2.1 with hk | hk | hk
       ·exact h1 ⟨this.1, .inl hk⟩
       ·exact h1 ⟨this.1, .inr hk⟩
       ·exact h3 (by rw [kdL_yes this.1]; exact hk)
      refine h_cond_t rfl rfl ?_; (repeat (refine R_ret ?_))
      exact ⟨by rw [pB_no' hbad], hp.x⟩
     ·have h3 : kdL x.n (x.asg.getD i default).tg = 3 := Decidable.not_not.1 h3
      have hin : inL x.n (x.asg.getD i default).tg := Classical.byContradiction fun hh => by rw [kdL_no hh] at h3; omega
      have h2 : inL x.n (x.asg.getD i default).tg ∧ (kindL x.n (x.asg.getD i default).tg = 1 ∨ kindL x.n (x.asg.getD i default).tg = 2 ∨ kindL x.n (x.asg.getD i default).tg = 3) := ⟨hin, .inr (.inr (by rw [← kdL_yes hin]; exact h3))⟩
      by_cases h4 : OpsOkP (x.asg.getD i default).ops x.sg.length
      ·refine h_call rfl Tryz.func78 (by kernel_rfl) rfl ((specOpsOk_h _ _ _ (x.asg.getD i default).ops rfl x.sg.length _ hp.rd eol eoi).tt (opsB_yes h4)) ?_; rintro _ w ⟨rfl, hx⟩; have hp := hp.ext hx; refine ops_run nopre rfl ?_; (repeat (refine h_guard_y rfl nopre rfl ?_))
       refine h_cond_f rfl rfl ?_; skip
       refine IH (i + 1) _ _ _ (by omega) rfl ⟨⟨by omega, fun j hj => ?_⟩, hp.drop⟩
       by_cases hj2 : j < i
       ·exact has j hj2
       ·obtain rfl : j = i := by omega
        exact by rw [eat]; exact ⟨h2.1, h2.2, h4⟩
      ·refine h_call rfl Tryz.func78 (by kernel_rfl) rfl ((specOpsOk_h _ _ _ (x.asg.getD i default).ops rfl x.sg.length _ hp.rd eol eoi).ff (opsB_no h4)) ?_; rintro _ w ⟨rfl, hx⟩; have hp := hp.ext hx; refine ops_run nopre rfl ?_; (repeat (refine h_guard_y rfl nopre rfl ?_))
       have hbad : ¬ ModOkP x.n := fun h => h4 (by have := h.asg i (by rw [x.alen]; exact hlt'); rw [eat] at this; exact this.2.2)
       refine h_cond_t rfl rfl ?_; (repeat (refine R_ret ?_))
       exact ⟨by rw [pB_no' hbad], hp.x⟩
   ·refine h_cond_f rfl rfl ?_; skip
    obtain rfl : i = x.asg.length := by omega
    clear IH
    refine h_loop [2, 5, 10] (fun (i : Nat) => [(2, .pointer (some ⟨b2, 0, none⟩)), (5, .pointer (some ⟨b5, 0, none⟩)), (10, .int .i64 (i : Int))])
     (fun i w' => Hp w0 w' [rB b5 41 x.cs, rB b2 136 [.slice a 1 c]] ∧ True) (fun i => 0) 0 rfl ⟨hp, trivial⟩ ?_
    clear hp
    rintro i w1 ⟨hp, _⟩ IH C
    refine h_run rfl ?_; (repeat (refine H_ldB hp rfl rfl ?_))
    refine h_cond_dec (fun hlt => ?_) (fun hlt => ?_)
    ·omega
    ·refine h_cond_f rfl rfl ?_; skip
     clear IH
     refine h_loop [5, 15] (fun (i : Nat) => [(5, .pointer (some ⟨b5, 0, none⟩)), (15, .int .i64 (i : Int))])
      (fun i w' => (i ≤ x.ms.length ∧ ∀ j, j < i → mmOkP x.n (x.ms.getD j default)) ∧ Hp w0 w' [rB b5 41 x.cs, rB b2 136 [.slice a 1 c]]) (fun i => x.ms.length - i) 0 rfl ⟨⟨by omega, fun j hj => by omega⟩, hp⟩ ?_
     clear hp
     rintro i w1 ⟨⟨hi, hms⟩, hp⟩ IH C
     refine h_run rfl ?_; (repeat (refine H_ldB hp rfl rfl ?_))
     refine h_cond_dec (fun hlt => ?_) (fun hlt => ?_)
     ·have hlt' : i < x.ms.length := by omega
      refine h_cond_t rfl rfl ?_; (repeat (refine gLoad ?_; first | refine H_ldB hp rfl rfl ?_ | refine H_ldEN hp rfl (by omega) rfl rfl ?_))
      (first | refine H_box hp ?_ | refine H_alloc hp rfl ?_); intro w b16 hx hp; refine ops_run nopre rfl ?_; (repeat (first | (refine gLoad ?_; refine H_ldB hp rfl rfl ?_) | (refine gStore ?_; refine U_stBN hp rfl rfl rfl rfl ?_; intro w hp; refine ops_run nopre rfl ?_)))
      refine h_call rfl Tryz.func170 (by kernel_rfl) rfl (l04Kind_h x (x.ms.getD i default).addr _ hp.mod s1) ?_; rintro _ w ⟨rfl, hx⟩; have hp := hp.ext hx; refine ops_run nopre rfl ?_; skip
      by_cases h1 : inL x.n (x.ms.getD i default).addr
      ·have k1 := kdL_nn hsg h1
       rw [decide_eq_false k1]
       (repeat (first | (refine gGuard ?_; refine h_guard_y rfl nopre rfl ?_) | (refine gLoad ?_; refine H_ldB hp rfl rfl ?_)))
       refine h_call rfl Tryz.func170 (by kernel_rfl) rfl (l04Kind_h x (x.ms.getD i default).data _ hp.mod s1) ?_; rintro _ w ⟨rfl, hx⟩; have hp := hp.ext hx; refine ops_run nopre rfl ?_; (repeat (refine h_guard_y rfl nopre rfl ?_))
       by_cases h2 : inL x.n (x.ms.getD i default).data
       ·have k2 := kdL_nn hsg h2
        rw [decide_eq_false k2]
        (repeat (first | (refine gGuard ?_; refine h_guard_y rfl nopre rfl ?_) | (refine gLoad ?_; refine H_ldB hp rfl rfl ?_)))
        refine h_call rfl Tryz.func170 (by kernel_rfl) rfl (l04Kind_h x (x.ms.getD i default).write _ hp.mod s1) ?_; rintro _ w ⟨rfl, hx⟩; have hp := hp.ext hx; refine ops_run nopre rfl ?_; (repeat (refine h_guard_y rfl nopre rfl ?_))
        by_cases h3 : inL x.n (x.ms.getD i default).write
        ·have k3 := kdL_nn hsg h3
         rw [decide_eq_false k3]
         (repeat (first | (refine gGuard ?_; refine h_guard_y rfl nopre rfl ?_) | (refine gLoad ?_; refine H_ldB hp rfl rfl ?_)))
         by_cases h4 : drvsP x.n (x.ms.getD i default).out
         ·refine h_call rfl Tryz.func169 (by kernel_rfl) rfl ((l04Driven_h x (x.ms.getD i default).out _ hp.mod s1).tt (pB_iff.2 h4)) ?_; rintro _ w ⟨rfl, hx⟩; have hp := hp.ext hx; refine ops_run nopre rfl ?_; (repeat (refine h_guard_y rfl nopre rfl ?_))
          refine h_cond_f rfl rfl ?_; skip
          refine IH (i + 1) _ _ _ (by omega) rfl ⟨⟨by omega, fun j hj => ?_⟩, hp.drop⟩
          by_cases hj2 : j < i
          ·exact hms j hj2
          ·obtain rfl : j = i := by omega
           exact ⟨h1, h2, h3, h4⟩
         ·refine h_call rfl Tryz.func169 (by kernel_rfl) rfl ((l04Driven_h x (x.ms.getD i default).out _ hp.mod s1).ff (pB_no' h4)) ?_; rintro _ w ⟨rfl, hx⟩; have hp := hp.ext hx; refine ops_run nopre rfl ?_; (repeat (refine h_guard_y rfl nopre rfl ?_))
          have hbad : ¬ ModOkP x.n := fun h => h4 (h.ms i hlt').2.2.2
          refine h_cond_t rfl rfl ?_; (repeat (refine R_ret ?_))
          exact ⟨by rw [pB_no' hbad], hp.x⟩
        ·rw [kdL_no h3]
         (repeat (refine h_guard_n rfl nopre rfl ?_))
         have hbad : ¬ ModOkP x.n := fun h => h3 (h.ms i hlt').2.2.1
         refine h_cond_t rfl rfl ?_; (repeat (refine R_ret ?_))
         exact ⟨by rw [pB_no' hbad], hp.x⟩
       ·rw [kdL_no h2]
        (repeat (refine h_guard_n rfl nopre rfl ?_))
        have hbad : ¬ ModOkP x.n := fun h => h2 (h.ms i hlt').2.1
        refine h_cond_t rfl rfl ?_; (repeat (refine R_ret ?_))
        exact ⟨by rw [pB_no' hbad], hp.x⟩
      ·rw [kdL_no h1]
       (repeat (refine h_guard_n rfl nopre rfl ?_))
       have hbad : ¬ ModOkP x.n := fun h => h1 (h.ms i hlt').1
       refine h_cond_t rfl rfl ?_; (repeat (refine R_ret ?_))
       exact ⟨by rw [pB_no' hbad], hp.x⟩
     ·refine h_cond_f rfl rfl ?_; (repeat (refine R_ret ?_))
      obtain rfl : i = x.ms.length := by omega
      have hgood : ModOkP x.n := ⟨l1, by rw [x.alen]; exact l2, l3, fun j hj => (hsg j hj).1, fun j hj => has j (by rw [x.alen] at hj; exact hj), hms, fun j hj hk => (hsg j hj).2 (by rcases hk with h | h | h <;> (have h : (x.sg.getD j default).kind = _ := h; omega))⟩
      exact ⟨by rw [pB_iff.2 hgood], hp.x⟩
 ·refine h_call rfl Tryz.func167 (by kernel_rfl) rfl ((l04Counts_h a c D hD1 x hDx hi0 _ hp.rd s1 s2 s6).ff (pB_no' hc)) ?_; rintro _ w ⟨rfl, hx⟩; have hp := hp.ext hx; refine ops_run nopre rfl ?_; skip
  have hbad : ¬ ModOkP x.n := fun h => hc ⟨h.l1, by have := h.l2; rw [x.alen] at this; exact this, h.l3⟩
  refine h_cond_t rfl rfl ?_; (repeat (refine R_ret ?_))
  exact ⟨by rw [pB_no' hbad], hp.x⟩
theorem specDesignOk_h (a : Option Addr) (c : Nat) (D : List ModA) (hD1 : D.length = 1) (x : ModA) (hDx : D.getD 0 default = x) (hi0 : x.ins = []) (w0 : World) (hD : Rd w0 a 4 ModA.cs D) (hM : ModR w0 x) (hS : ModS x.n) (hW : ModW x.n) :
  Ret Tryz.prog 75 [.agg ⟨[.slice a 1 c]⟩] w0 (fun v w => v = .bool (pB (ModOkP x.n)) ∧ Ext w0 w) := by
 refine enter Tryz.S75ok _ _ rfl rfl (by show _ ≤ _; simp only [List.length]; decide) (fun C => ?_); have hp := Hp.nil w0; refine h_run rfl ?_; skip; (first | refine H_box hp ?_ | refine H_alloc hp rfl ?_); intro w b1 hx hp; refine ops_run nopre rfl ?_; (repeat (refine H_ldB hp rfl rfl ?_))
 refine h_call rfl Tryz.func79 (by kernel_rfl) rfl ((l01In_h 1 1 4 _).yes (by decide)) ?_; rintro _ w ⟨rfl, hx⟩; have hp := hp.ext hx; refine ops_run nopre rfl ?_; skip
 refine h_cond_f rfl rfl ?_; skip
 refine h_loop [1, 3] (fun (i : Nat) => [(1, .pointer (some ⟨b1, 0, none⟩)), (3, .int .i64 (i : Int))])
  (fun i w' => (i ≤ 1 ∧ (0 < i → ModOkP x.n)) ∧ Hp w0 w' [rB b1 136 [.slice a 1 c]]) (fun i => 1 - i) 0 rfl ⟨⟨by omega, fun h => by omega⟩, hp⟩ ?_
 clear hp
 rintro i w1 ⟨⟨hi1, hdone⟩, hp⟩ IH C
 refine h_run rfl ?_; (repeat (refine H_ldB hp rfl rfl ?_))
 refine h_cond_dec (fun hlt => ?_) (fun hlt => ?_)
 ·obtain rfl : i = 0 := by omega
  refine h_cond_t rfl rfl ?_; (repeat (refine H_ldB hp rfl rfl ?_))
  by_cases hm : ModOkP x.n
  ·refine h_call rfl Tryz.func135 (by kernel_rfl) rfl ((specModuleOk_h a c D hD1 x hDx hi0 _ hp.rd hp.mod hS hW).tt (pB_iff.2 hm)) ?_; rintro _ w ⟨rfl, hx⟩; have hp := hp.ext hx; refine ops_run nopre rfl ?_; skip
   refine h_cond_f rfl rfl ?_; skip
   exact IH 1 _ _ _ (by omega) rfl ⟨⟨by omega, fun _ => hm⟩, hp⟩
  ·refine h_call rfl Tryz.func135 (by kernel_rfl) rfl ((specModuleOk_h a c D hD1 x hDx hi0 _ hp.rd hp.mod hS hW).ff (pB_no' hm)) ?_; rintro _ w ⟨rfl, hx⟩; have hp := hp.ext hx; refine ops_run nopre rfl ?_; skip
   refine h_cond_t rfl rfl ?_; (repeat (refine R_ret ?_))
   exact ⟨by rw [pB_no' hm], hp.x⟩
 ·refine h_cond_f rfl rfl ?_; (repeat (refine R_ret ?_))
  obtain rfl : i = 1 := by omega
  exact ⟨by rw [pB_iff.2 (hdone (by omega))], hp.x⟩
end Go.Proofs
