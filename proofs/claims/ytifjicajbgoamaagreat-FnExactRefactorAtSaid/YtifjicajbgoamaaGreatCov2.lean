/- The contracts of the program's AddCover; each under its stated conditions. -/
import Derived.Test.YtifjicajbgoamaaGreatCov
set_option linter.all false
namespace Go.Proofs
open Go.Xw
set_option maxRecDepth 100000
set_option maxHeartbeats 4000000
attribute [local irreducible] Holds elemAddr
noncomputable def cubeOkB (m : Int) (c : Int × Int) : Bool := @decide (cubeOkP m c) (Classical.propDecidable _)
theorem cubeOkB_yes {m : Int} {c : Int × Int} (h : cubeOkP m c) : cubeOkB m c = true := by simp [cubeOkB, h]
theorem cubeOkB_no {m : Int} {c : Int × Int} (h : ¬ cubeOkP m c) : cubeOkB m c = false := by simp [cubeOkB, h]
noncomputable def coverOkB (m : Int) (K : List (Int × Int)) : Bool := @decide (coverOkP m K) (Classical.propDecidable _)
theorem coverOkB_yes {m : Int} {K : List (Int × Int)} (h : coverOkP m K) : coverOkB m K = true := by simp [coverOkB, h]
theorem coverOkB_no {m : Int} {K : List (Int × Int)} (h : ¬ coverOkP m K) : coverOkB m K = false := by simp [coverOkB, h]
theorem pow_small {m : Int} (h : 0 ≤ m ∧ m ≤ 4) : (1 : Int) ≤ 2 ^ m.toNat ∧ (2 : Int) ^ m.toNat ≤ 16 := by
  obtain rfl | rfl | rfl | rfl | rfl : m = 0 ∨ m = 1 ∨ m = 2 ∨ m = 3 ∨ m = 4 := by omega
  all_goals decide
theorem implCubeOk_h (m : Int) (c : Int × Int) (w0 : World) (hm : i64R m) (hc : i64R c.1 ∧ i64R c.2) : Ret Tryz.prog 142 [.int .i64 m, .agg ⟨eII c⟩] w0 (fun v w => v = .bool (cubeOkB m c) ∧ Ext w0 w) := by
  refine enter Tryz.S142ok _ _ rfl rfl (by show _ ≤ _; simp only [List.length]; decide) (fun C => ?_); have hp := Hp.nil w0; refine h_run rfl ?_; skip; (first | (refine H_box hp ?_; intro w b3 hx hp) | (refine H_alloc hp rfl ?_; intro w b3 hx hp)); refine ops_run nopre rfl ?_; skip
  by_cases h0 : 0 ≤ m ∧ m ≤ 4
  · have h2 := pow_small h0
    have hbk : m ≤ ((IntKind.i64.bits : Nat) : Int) := by show m ≤ 64; omega
    refine h_call rfl Tryz.func77 (by kernel_rfl) rfl ((inRange_h m 0 4 _).yes h0) ?_; rintro _ w ⟨rfl, hx⟩; have hp := hp.ext hx; refine ops_run nopre rfl ?_; (repeat (first | (refine gGuard ?_; refine h_guard_y rfl nopre rfl ?_) | (refine gLoad ?_; refine H_ldB hp rfl rfl ?_)))
    by_cases h1 : 0 ≤ c.1 ∧ c.1 ≤ 1 * 2 ^ m.toNat - 1
    · refine h_call rfl Tryz.func77 (by kernel_rfl) rfl ((inRange_h c.1 0 (1 * 2 ^ m.toNat - 1) _).yes h1) ?_; rintro _ w ⟨rfl, hx⟩; have hp := hp.ext hx; refine ops_run nopre rfl ?_; (repeat (first | (refine gGuard ?_; refine h_guard_y rfl nopre rfl ?_) | (refine gLoad ?_; refine H_ldB hp rfl rfl ?_)))
      by_cases h3 : 0 ≤ c.2 ∧ c.2 ≤ 1 * 2 ^ m.toNat - 1
      · refine h_call rfl Tryz.func77 (by kernel_rfl) rfl ((inRange_h c.2 0 (1 * 2 ^ m.toNat - 1) _).yes h3) ?_; rintro _ w ⟨rfl, hx⟩; have hp := hp.ext hx; refine ops_run nopre rfl ?_; (repeat (first | (refine gGuard ?_; refine h_guard_y rfl nopre rfl ?_) | (refine gLoad ?_; refine H_ldB hp rfl rfl ?_) | refine R_ret ?_))
        refine ⟨?_, hp.x⟩
        by_cases h4 : bits .andNot .i64 c.2 c.1 = 0
        · rw [decide_eq_true h4, cubeOkB_yes ⟨h0, by omega, by omega, h4⟩]
        · rw [decide_eq_false h4, cubeOkB_no (fun h => h4 h.2.2.2)]
      · refine h_call rfl Tryz.func77 (by kernel_rfl) rfl ((inRange_h c.2 0 (1 * 2 ^ m.toNat - 1) _).no h3) ?_; rintro _ w ⟨rfl, hx⟩; have hp := hp.ext hx; refine ops_run nopre rfl ?_; (repeat (first | (refine gGuard ?_; refine h_guard_n rfl nopre rfl ?_) | refine R_ret ?_))
        exact ⟨by rw [cubeOkB_no (fun h => h3 (by have := h.2.2.1; omega))], hp.x⟩
    · refine h_call rfl Tryz.func77 (by kernel_rfl) rfl ((inRange_h c.1 0 (1 * 2 ^ m.toNat - 1) _).no h1) ?_; rintro _ w ⟨rfl, hx⟩; have hp := hp.ext hx; refine ops_run nopre rfl ?_; (repeat (first | (refine gGuard ?_; refine h_guard_n rfl nopre rfl ?_) | refine R_ret ?_))
      exact ⟨by rw [cubeOkB_no (fun h => h1 (by have := h.2.1; omega))], hp.x⟩
  · refine h_call rfl Tryz.func77 (by kernel_rfl) rfl ((inRange_h m 0 4 _).no h0) ?_; rintro _ w ⟨rfl, hx⟩; have hp := hp.ext hx; refine ops_run nopre rfl ?_; (repeat (first | (refine gGuard ?_; refine h_guard_n rfl nopre rfl ?_) | refine R_ret ?_))
    exact ⟨by rw [cubeOkB_no (fun h => h0 h.1)], hp.x⟩
theorem implCoverOk_h (m : Int) (ca : Option Addr) (cc q : Nat) (K : List (Int × Int)) (hq : K.length = q) (w0 : World) (hm : i64R m) (hR : Rd w0 ca 2 eII K) (hK : ∀ i, i < K.length → i64R (K.getD i default).1 ∧ i64R (K.getD i default).2) (hb : q ≤ 1048576) : Ret Tryz.prog 126 [.int .i64 m, .slice ca q cc] w0 (fun v w => v = .bool (coverOkB m K) ∧ Ext w0 w) := by
  subst hq
  refine enter Tryz.S126ok _ _ rfl rfl (by show _ ≤ _; simp only [List.length]; decide) (fun C => ?_); have hp := Hp.nil w0; refine h_run rfl ?_; skip
  by_cases h0 : 0 ≤ m ∧ m ≤ 4
  · refine h_call rfl Tryz.func77 (by kernel_rfl) rfl ((inRange_h m 0 4 _).yes h0) ?_; rintro _ w ⟨rfl, hx⟩; have hp := hp.ext hx; refine ops_run nopre rfl ?_; (repeat (refine h_guard_y rfl nopre rfl ?_))
    refine h_cond_dec (fun h1 => ?_) (fun h1 => ?_)
    · refine h_cond_t rfl rfl ?_; (repeat (refine R_ret ?_))
      exact ⟨by rw [coverOkB_no (fun h => by have := h.2.1; omega)], hp.x⟩
    · refine h_cond_f rfl rfl ?_; skip
      refine h_loop [0, 15, 16, 17] (fun (i : Nat) => [(0, .int .i64 m), (15, .slice ca K.length cc), (16, .int .i64 K.length), (17, .int .i64 (i : Int))])
        (fun i w' => (i ≤ K.length ∧ ∀ c, c ∈ K.take i → cubeOkP m c) ∧ Hp w0 w' []) (fun i => K.length - i) 0 rfl ⟨⟨by omega, fun c hc => by simp at hc⟩, hp⟩ ?_
      clear hp
      rintro i w1 ⟨⟨hi, hall⟩, hp⟩ IH C
      refine h_run rfl ?_; skip
      refine h_cond_dec (fun hlt => ?_) (fun hlt => ?_)
      · have hlt' : i < K.length := by omega
        have hci := hK i hlt'
        have hne : ca ≠ none := nn_of hp (X := K) (by omega)
        refine h_cond_t rfl rfl ?_; (repeat (refine H_ldEN hp rfl (by omega) rfl rfl ?_))
        (first | (refine H_box hp ?_; intro w b6 hx hp) | (refine H_alloc hp rfl ?_; intro w b6 hx hp)); refine ops_run nopre rfl ?_; (repeat (first | (refine gLoad ?_; refine H_ldB hp rfl rfl ?_) | (refine gStore ?_; refine U_stBN hp rfl rfl rfl rfl ?_; intro w hp; refine ops_run nopre rfl ?_)))
        by_cases h2 : cubeOkP m (K.getD i default)
        · refine h_call rfl Tryz.func142 (by kernel_rfl) rfl ((implCubeOk_h m (K.getD i default) _ hm hci).tt (cubeOkB_yes h2)) ?_; rintro _ w ⟨rfl, hx⟩; have hp := hp.ext hx; refine ops_run nopre rfl ?_; skip
          refine h_cond_f rfl rfl ?_; skip
          refine IH (i + 1) _ _ _ (by omega) rfl ⟨⟨by omega, fun c hc => ?_⟩, hp.drop⟩
          rw [take_snoc hlt'] at hc
          rcases List.mem_append.1 hc with hc | hc
          · exact hall c hc
          · simp only [List.mem_singleton] at hc
            subst hc
            exact h2
        · refine h_call rfl Tryz.func142 (by kernel_rfl) rfl ((implCubeOk_h m (K.getD i default) _ hm hci).ff (cubeOkB_no h2)) ?_; rintro _ w ⟨rfl, hx⟩; have hp := hp.ext hx; refine ops_run nopre rfl ?_; skip
          refine h_cond_t rfl rfl ?_; (repeat (refine R_ret ?_))
          exact ⟨by rw [coverOkB_no (fun h => h2 (h.2.2 _ (getD_mem hlt')))], Hp.x hp⟩
      · obtain rfl : i = K.length := by omega
        refine h_cond_f rfl rfl ?_; (repeat (refine R_ret ?_))
        rw [List.take_length] at hall
        exact ⟨by rw [coverOkB_yes ⟨h0, by omega, hall⟩], hp.x⟩
  · refine h_call rfl Tryz.func77 (by kernel_rfl) rfl ((inRange_h m 0 4 _).no h0) ?_; rintro _ w ⟨rfl, hx⟩; have hp := hp.ext hx; refine ops_run nopre rfl ?_; (repeat (refine h_guard_n rfl nopre rfl ?_))
    refine h_cond_t rfl rfl ?_; (repeat (refine R_ret ?_))
    exact ⟨by rw [coverOkB_no (fun h => h0 h.1)], hp.x⟩
end Go.Proofs
