/- The program's checks of modules; each under its stated conditions. -/
import Derived.Test.YtiepmliokblkjaaGreatMapLaw
import Derived.Test.YtiepmliokblkjaaGreatOpsOk
set_option linter.all false
namespace Go.Proofs
open Go.Xw
set_option maxRecDepth 100000
set_option maxHeartbeats 1000000
attribute [local irreducible] Holds elemAddr
theorem signalOk_h (s : SgL) (w0 : World) : Ret Tryz.prog 180 [.agg ⟨eSg s⟩] w0 (fun v w => v = .bool (pB (sgOkP s)) ∧ Ext w0 w) := by
 refine enter Tryz.S180ok _ _ rfl rfl (by show _ ≤ _; simp only [List.length]; decide) (fun C => ?_); have hp := Hp.nil w0; refine h_run rfl ?_; skip; (first | refine H_box hp ?_ | refine H_alloc hp rfl ?_); intro w b1 hx hp; refine ops_run nopre rfl ?_; (repeat (refine H_ldB hp rfl rfl ?_))
 by_cases h1 : 0 ≤ s.kind ∧ s.kind ≤ 3
 ·refine h_call rfl Tryz.func124 (by kernel_rfl) rfl ((inRange_h s.kind 0 3 _).yes h1) ?_; rintro _ w ⟨rfl, hx⟩; have hp := hp.ext hx; refine ops_run nopre rfl ?_; (repeat (first | (refine gGuard ?_; refine h_guard_y rfl nopre rfl ?_) | (refine gLoad ?_; refine H_ldB hp rfl rfl ?_)))
  by_cases h2 : 0 ≤ s.width ∧ s.width ≤ 4
  ·refine h_call rfl Tryz.func124 (by kernel_rfl) rfl ((inRange_h s.width 0 4 _).yes h2) ?_; rintro _ w ⟨rfl, hx⟩; have hp := hp.ext hx; refine ops_run nopre rfl ?_; (repeat (refine h_guard_y rfl nopre rfl ?_))
   refine h_cond_f rfl rfl ?_; (repeat (refine H_ldB hp rfl rfl ?_))
   refine h_guard_by (fun h3 => ?_) (fun h3 => ?_); all_goals (rw [h3]; (first | replace h3 := of_decide_eq_true h3 | replace h3 := of_decide_eq_false h3 | skip); (repeat (first | (refine gGuard ?_; first | refine h_guard_y rfl nopre rfl ?_ | refine h_guard_n rfl nopre rfl ?_) | (refine gLoad ?_; refine H_ldB hp rfl rfl ?_) | refine R_ret ?_)))
   ·exact ⟨by rw [pB_iff.2 ⟨h1, h2, .inl h3⟩], hp.x⟩
   ·refine h_guard_by (fun h4 => ?_) (fun h4 => ?_); all_goals (rw [h4]; (first | replace h4 := of_decide_eq_true h4 | replace h4 := of_decide_eq_false h4 | skip); (repeat (first | (refine gGuard ?_; first | refine h_guard_y rfl nopre rfl ?_ | refine h_guard_n rfl nopre rfl ?_) | (refine gLoad ?_; refine H_ldB hp rfl rfl ?_) | refine R_ret ?_)))
    ·by_cases h5 : 0 ≤ s.init ∧ s.init ≤ 15
     ·refine h_call rfl Tryz.func124 (by kernel_rfl) rfl ((inRange_h s.init 0 15 _).yes h5) ?_; rintro _ w ⟨rfl, hx⟩; have hp := hp.ext hx; refine ops_run nopre rfl ?_; (repeat (first | (refine gGuard ?_; refine h_guard_y rfl nopre rfl ?_) | refine R_ret ?_))
      exact ⟨by rw [pB_iff.2 ⟨h1, h2, .inr ⟨h4, h5⟩⟩], hp.x⟩
     ·refine h_call rfl Tryz.func124 (by kernel_rfl) rfl ((inRange_h s.init 0 15 _).no h5) ?_; rintro _ w ⟨rfl, hx⟩; have hp := hp.ext hx; refine ops_run nopre rfl ?_; (repeat (first | (refine gGuard ?_; refine h_guard_y rfl nopre rfl ?_) | refine R_ret ?_))
      exact ⟨by rw [pB_no' (fun h => by rcases h.2.2 with h | h; exact h3 h; exact h5 h.2)], hp.x⟩
    ·exact ⟨by rw [pB_no' (fun h => by rcases h.2.2 with h | h; exact h3 h; exact h4 h.1)], hp.x⟩
  ·refine h_call rfl Tryz.func124 (by kernel_rfl) rfl ((inRange_h s.width 0 4 _).no h2) ?_; rintro _ w ⟨rfl, hx⟩; have hp := hp.ext hx; refine ops_run nopre rfl ?_; (repeat (refine h_guard_y rfl nopre rfl ?_))
   refine h_cond_t rfl rfl ?_; (repeat (refine R_ret ?_))
   exact ⟨by rw [pB_no' (fun h => h2 h.2.1)], hp.x⟩
 ·refine h_call rfl Tryz.func124 (by kernel_rfl) rfl ((inRange_h s.kind 0 3 _).no h1) ?_; rintro _ w ⟨rfl, hx⟩; have hp := hp.ext hx; refine ops_run nopre rfl ?_; (repeat (refine h_guard_n rfl nopre rfl ?_))
  refine h_cond_t rfl rfl ?_; (repeat (refine R_ret ?_))
  exact ⟨by rw [pB_no' (fun h => h1 h.1)], hp.x⟩
theorem isDriven_h (k : Int) (w0 : World) : Ret Tryz.prog 181 [.int .i64 k] w0 (fun v w => v = .bool (decide (k = 1 ∨ k = 2 ∨ k = 3)) ∧ Ext w0 w) := by
 refine enter Tryz.S181ok _ _ rfl rfl (by show _ ≤ _; simp only [List.length]; decide) (fun C => ?_); have hp := Hp.nil w0; refine h_run rfl ?_; skip
 refine h_guard_by (fun h1 => ?_) (fun h1 => ?_); all_goals (rw [h1]; (first | replace h1 := of_decide_eq_true h1 | replace h1 := of_decide_eq_false h1 | skip); (repeat (first | (refine gGuard ?_; first | refine h_guard_y rfl nopre rfl ?_ | refine h_guard_n rfl nopre rfl ?_) | refine R_ret ?_)))
 ·skip
  exact ⟨by rw [decide_eq_true (.inl h1)], hp.x⟩
 ·refine h_guard_by (fun h2 => ?_) (fun h2 => ?_); all_goals (rw [h2]; (first | replace h2 := of_decide_eq_true h2 | replace h2 := of_decide_eq_false h2 | skip); (repeat (first | (refine gGuard ?_; first | refine h_guard_y rfl nopre rfl ?_ | refine h_guard_n rfl nopre rfl ?_) | refine R_ret ?_)))
  ·exact ⟨by rw [decide_eq_true (.inr (.inl h2))], hp.x⟩
  ·exact ⟨by simp [h1, h2], hp.x⟩
theorem drives_h (x : ModA) (s : Int) (w0 : World) (hX : ModR w0 x) (hl : x.sg.length ≤ 1048576) : Ret Tryz.prog 184 [x.v, .int .i64 s] w0 (fun v w => v = .bool (pB (drvsP x.n s)) ∧ Ext w0 w) := by
 refine enter Tryz.S184ok _ _ rfl rfl (by show _ ≤ _; simp only [List.length]; decide) (fun C => ?_); have hp := Hp.nil w0; refine h_run rfl ?_; skip; (first | refine H_box hp ?_ | refine H_alloc hp rfl ?_); intro w b2 hx hp; refine ops_run nopre rfl ?_; (repeat (refine H_ldB hp rfl rfl ?_))
 by_cases h1 : 0 ≤ s ∧ s ≤ x.sg.length - 1
 ·refine h_call rfl Tryz.func124 (by kernel_rfl) rfl ((inRange_h s 0 (x.sg.length - 1) _).yes h1) ?_; rintro _ w ⟨rfl, hx⟩; have hp := hp.ext hx; refine ops_run nopre rfl ?_; (repeat (first | (refine gGuard ?_; refine h_guard_y rfl nopre rfl ?_) | (refine gLoad ?_; first | refine H_ldB hp rfl rfl ?_ | refine H_ldF hp rfl (by omega) (by omega) rfl rfl ?_)))
  have hin : inL x.n s := by have e : x.n.sg.length = x.sg.length := rfl; unfold inL; omega
  refine h_guard_by (fun h2 => ?_) (fun h2 => ?_); all_goals (rw [h2]; (first | replace h2 := of_decide_eq_true h2 | replace h2 := of_decide_eq_false h2 | skip); (repeat (first | (refine gGuard ?_; first | refine h_guard_y rfl nopre rfl ?_ | refine h_guard_n rfl nopre rfl ?_) | (refine gLoad ?_; first | refine H_ldB hp rfl rfl ?_ | refine H_ldF hp rfl (by omega) (by omega) rfl rfl ?_) | refine R_ret ?_)))
  ·exact ⟨by rw [pB_iff.2 ⟨hin, .inl h2⟩], hp.x⟩
  ·refine ⟨?_, hp.x⟩
   by_cases h3 : kindL x.n s = 2
   ·rw [pB_iff.2 ⟨hin, .inr h3⟩]; exact congrArg _ (decide_eq_true h3)
   ·rw [pB_no' (fun h => by rcases h.2 with h | h; exact h2 h; exact h3 h)]; exact congrArg _ (decide_eq_false h3)
 ·refine h_call rfl Tryz.func124 (by kernel_rfl) rfl ((inRange_h s 0 (x.sg.length - 1) _).no h1) ?_; rintro _ w ⟨rfl, hx⟩; have hp := hp.ext hx; refine ops_run nopre rfl ?_; (repeat (first | (refine gGuard ?_; refine h_guard_n rfl nopre rfl ?_) | refine R_ret ?_))
  exact ⟨by rw [pB_no' (fun h => h1 (by have h := h.1; have e : x.n.sg.length = x.sg.length := rfl; unfold inL at h; omega))], hp.x⟩
theorem countsOk_h (a : Option Addr) (c : Nat) (D : List ModA) (hD1 : D.length = 1) (x : ModA) (hDx : D.getD 0 default = x) (w0 : World) (hD : Rd w0 a 4 ModA.cs D) (hl1 : x.sg.length ≤ 1048576) (hl2 : x.asg.length ≤ 1048576) (hi : x.ins.length ≤ 1048576) (hl3 : x.ms.length ≤ 1048576) :
  Ret Tryz.prog 178 [.agg ⟨[.slice a 1 c]⟩] w0 (fun v w => v = .bool (pB (x.sg.length ≤ 30 ∧ x.asg.length ≤ 30 ∧ x.ins.length ≤ 3 ∧ x.ms.length ≤ 2)) ∧ Ext w0 w) := by
 subst hDx
 refine enter Tryz.S178ok _ _ rfl rfl (by show _ ≤ _; simp only [List.length]; decide) (fun C => ?_); have hp := Hp.nil w0; refine h_run rfl ?_; skip; (first | refine H_box hp ?_ | refine H_alloc hp rfl ?_); intro w b1 hx hp; refine ops_run nopre rfl ?_; (repeat (refine H_ldB hp rfl rfl ?_))
 refine h_cond_f rfl rfl ?_; (repeat (refine H_ldB hp rfl rfl ?_))
 refine h_loop [10, 11, 12] (fun (i : Nat) => [(10, .slice a 1 c), (11, .int .i64 1), (12, .int .i64 (i : Int))])
  (fun i w' => (i ≤ 1 ∧ (0 < i → (D.getD 0 default).sg.length ≤ 30 ∧ (D.getD 0 default).asg.length ≤ 30 ∧ (D.getD 0 default).ins.length ≤ 3 ∧ (D.getD 0 default).ms.length ≤ 2)) ∧ Hp w0 w' []) (fun i => 1 - i) 0 rfl ⟨⟨by omega, fun h => by omega⟩, hp.drop⟩ ?_
 clear hp
 rintro i w1 ⟨⟨hi1, hdone⟩, hp⟩ IH C
 refine h_run rfl ?_; skip
 refine h_cond_dec (fun hlt => ?_) (fun hlt => ?_)
 ·obtain rfl : i = 0 := by omega
  refine h_cond_t rfl rfl ?_; (repeat (refine H_ldEN hp rfl (by omega) rfl rfl ?_))
  (first | refine H_box hp ?_ | refine H_alloc hp rfl ?_); intro w b4 hx hp; refine ops_run nopre rfl ?_; (repeat (first | (refine gLoad ?_; refine H_ldB hp rfl rfl ?_) | (refine gStore ?_; refine U_stBN hp rfl rfl rfl rfl ?_; intro w hp; refine ops_run nopre rfl ?_)))
  refine h_guard_by (fun h1 => ?_) (fun h1 => ?_); all_goals (rw [h1]; (first | replace h1 := of_decide_eq_true h1 | replace h1 := of_decide_eq_false h1 | skip); (repeat (first | (refine gGuard ?_; first | refine h_guard_y rfl nopre rfl ?_ | refine h_guard_n rfl nopre rfl ?_) | (refine gLoad ?_; refine H_ldB hp rfl rfl ?_))))
  ·refine h_cond_t rfl rfl ?_; (repeat (refine R_ret ?_))
   exact ⟨by rw [pB_no' (fun h => by omega)], hp.x⟩
  ·refine h_guard_by (fun h2 => ?_) (fun h2 => ?_); all_goals (rw [h2]; (first | replace h2 := of_decide_eq_true h2 | replace h2 := of_decide_eq_false h2 | skip); (repeat (first | (refine gGuard ?_; first | refine h_guard_y rfl nopre rfl ?_ | refine h_guard_n rfl nopre rfl ?_) | (refine gLoad ?_; refine H_ldB hp rfl rfl ?_))))
   ·refine h_cond_t rfl rfl ?_; (repeat (refine R_ret ?_))
    exact ⟨by rw [pB_no' (fun h => by omega)], hp.x⟩
   ·refine h_guard_by (fun h3 => ?_) (fun h3 => ?_); all_goals (rw [h3]; (first | replace h3 := of_decide_eq_true h3 | replace h3 := of_decide_eq_false h3 | skip); (repeat (first | (refine gGuard ?_; first | refine h_guard_y rfl nopre rfl ?_ | refine h_guard_n rfl nopre rfl ?_) | (refine gLoad ?_; refine H_ldB hp rfl rfl ?_))))
    ·refine h_cond_t rfl rfl ?_; (repeat (refine R_ret ?_))
     exact ⟨by rw [pB_no' (fun h => by omega)], hp.x⟩
    ·refine h_cond_dec (fun h4 => ?_) (fun h4 => ?_)
     ·refine h_cond_t rfl rfl ?_; (repeat (refine R_ret ?_))
      exact ⟨by rw [pB_no' (fun h => by omega)], hp.x⟩
     ·refine h_cond_f rfl rfl ?_; skip
      exact IH 1 _ _ _ (by omega) rfl ⟨⟨by omega, fun _ => by omega⟩, hp.drop⟩
 ·refine h_cond_f rfl rfl ?_; (repeat (refine R_ret ?_))
  obtain rfl : i = 1 := by omega
  exact ⟨by rw [pB_iff.2 (hdone (by omega))], hp.x⟩
theorem instsOk_h (a : Option Addr) (c : Nat) (D : List ModA) (hD1 : D.length = 1) (x : ModA) (hDx : D.getD 0 default = x) (hi : x.ins = []) (w0 : World) (hD : Rd w0 a 4 ModA.cs D) :
  Ret Tryz.prog 179 [.agg ⟨[.slice a 1 c]⟩, .int .i64 0] w0 (fun v w => v = .bool true ∧ Ext w0 w) := by
 have hil : x.ins.length = 0 := by rw [hi]; rfl
 refine enter Tryz.S179ok _ _ rfl rfl (by show _ ≤ _; simp only [List.length]; decide) (fun C => ?_); have hp := Hp.nil w0; refine h_run rfl ?_; skip; (first | refine H_box hp ?_ | refine H_alloc hp rfl ?_); intro w b2 hx hp; refine ops_run nopre rfl ?_; (repeat (refine gLoad ?_; first | refine H_ldB hp rfl rfl ?_ | refine H_ldF hp rfl (by omega) (by omega) rfl rfl ?_))
 have e0 : D.getD (Int.toNat 0) default = x := hDx
 rw [e0]
 refine h_loop [1, 2, 12, 13, 14] (fun (i : Nat) => [(1, .int .i64 0), (2, .pointer (some ⟨b2, 0, none⟩)), (12, .slice x.ia x.ins.length x.ic), (13, .int .i64 x.ins.length), (14, .int .i64 (i : Int))])
  (fun i w' => Hp w0 w' [] ∧ True) (fun i => 0) 0 rfl ⟨hp.drop, trivial⟩ ?_
 clear hp
 rintro i w1 ⟨hp, _⟩ IH C
 refine h_run rfl ?_; skip
 refine h_cond_dec (fun hlt => ?_) (fun hlt => ?_)
 ·omega
 ·refine h_cond_f rfl rfl ?_; (repeat (refine R_ret ?_))
  exact ⟨rfl, hp.x⟩
theorem dcAdd_h {w0 w : World} {L : List Res} {b6 : Nat} {b : Option Addr} {c m : Nat} {X : List Int} (hp : Hp w0 w (rB b6 31 [.slice b m c] :: rO 3 1 eI b c X :: L)) (hm : X.length = m) (hl : m ≤ 1000) (hX : ∀ i, i < X.length → 0 ≤ X.getD i default ∧ X.getD i default ≤ 1000) (s : Int) :
  Ret Tryz.prog 193 [.int .i64 s, .pointer (some ⟨b6, 0, none⟩)] w (fun v w' => v = .tuple ⟨[]⟩ ∧ Hp w0 w' (rB b6 31 [.slice b m c] :: rO 3 1 eI b c (if 0 ≤ s ∧ s < m then X.set s.toNat (X.getD s.toNat default + 1) else X) :: L)) := by
 subst hm
 refine enter Tryz.S193ok _ _ rfl rfl (by show _ ≤ _; simp only [List.length]; decide) (fun C => ?_); refine h_run rfl ?_
 (repeat (refine H_ldB hp rfl rfl ?_))
 by_cases h1 : 0 ≤ s ∧ s ≤ X.length - 1
 ·refine h_call rfl Tryz.func124 (by kernel_rfl) rfl ((inRange_h s 0 (X.length - 1) _).yes h1) ?_; rintro _ w ⟨rfl, hx⟩; have hp := hp.ext hx; refine ops_run nopre rfl ?_; skip
  obtain ⟨k, rfl⟩ := Int.eq_ofNat_of_zero_le h1.1
  have hk := hX k (by omega)
  have hne : b ≠ none := nn_of hp.drop (by omega)
  refine h_cond_t rfl rfl ?_; (repeat (first | (refine gLoad ?_; first | refine H_ldB hp rfl rfl ?_ | refine H_ldEN hp rfl (by omega) rfl rfl ?_) | (refine gStore ?_; refine U_st0N hp rfl rfl rfl (by omega) (by decide) rfl rfl ?_; intro w hp; refine ops_run nopre rfl ?_) | refine R_ret ?_))
  rw [if_pos (by omega), Int.toNat_natCast]
  exact ⟨rfl, hp⟩
 ·refine h_call rfl Tryz.func124 (by kernel_rfl) rfl ((inRange_h s 0 (X.length - 1) _).no h1) ?_; rintro _ w ⟨rfl, hx⟩; have hp := hp.ext hx; refine ops_run nopre rfl ?_; skip
  refine h_cond_f rfl rfl ?_; (repeat (refine R_ret ?_))
  rw [if_neg (by omega)]
  exact ⟨rfl, hp⟩
def dcL (n : ModL) (i j : Nat) : List Int := (List.range n.sg.length).map fun (s : Nat) => cntA n.asg s i + cntM n.ms s j
theorem dcL_len (n : ModL) (i j : Nat) : (dcL n i j).length = n.sg.length := by simp [dcL]
theorem dcL_get (n : ModL) (i j s : Nat) (h : s < n.sg.length) : (dcL n i j).getD s default = cntA n.asg s i + cntM n.ms s j := by simp [dcL, List.getD_eq_getElem?_getD, h]
theorem dcL_A (n : ModL) (i j : Nat) (t : Int) (ht : (n.asg.getD i default).tg = t) : dcL n (i + 1) j = if 0 ≤ t ∧ t < n.sg.length then (dcL n i j).set t.toNat ((dcL n i j).getD t.toNat default + 1) else dcL n i j := by
 refine list_eq (by split <;> simp [dcL]) fun s hs => ?_
 rw [dcL_len] at hs
 rw [dcL_get _ _ _ _ hs, cntA, ht]
 by_cases h : 0 ≤ t ∧ t < n.sg.length
 ·rw [if_pos h]
  rw [set_getE (by rw [dcL_len]; omega)]
  by_cases h2 : t = (s : Int)
  ·rw [if_pos h2, if_pos (by omega), dcL_get _ _ _ _ (by omega)]
   have : (t.toNat : Int) = t := by omega
   rw [this, h2]; omega
  ·rw [if_neg h2, if_neg (by omega), dcL_get _ _ _ _ hs]
 ·rw [if_neg h, if_neg (by omega), dcL_get _ _ _ _ hs]
theorem dcL_M (n : ModL) (i j : Nat) (t : Int) (ht : (n.ms.getD j default).out = t) : dcL n i (j + 1) = if 0 ≤ t ∧ t < n.sg.length then (dcL n i j).set t.toNat ((dcL n i j).getD t.toNat default + 1) else dcL n i j := by
 refine list_eq (by split <;> simp [dcL]) fun s hs => ?_
 rw [dcL_len] at hs
 rw [dcL_get _ _ _ _ hs, cntM, ht]
 by_cases h : 0 ≤ t ∧ t < n.sg.length
 ·rw [if_pos h]
  rw [set_getE (by rw [dcL_len]; omega)]
  by_cases h2 : t = (s : Int)
  ·rw [if_pos h2, if_pos (by omega), dcL_get _ _ _ _ (by omega)]
   have : (t.toNat : Int) = t := by omega
   rw [this, h2]; omega
  ·rw [if_neg h2, if_neg (by omega), dcL_get _ _ _ _ hs]
 ·rw [if_neg h, if_neg (by omega), dcL_get _ _ _ _ hs]
theorem dcL_0 (n : ModL) : dcL n 0 0 = List.replicate n.sg.length 0 := by
 refine list_eq (by simp [dcL]) fun s hs => ?_
 rw [dcL_len] at hs
 rw [dcL_get _ _ _ _ hs]
 simp [cntA, cntM, List.getD_eq_getElem?_getD, hs]
theorem dcL_b (n : ModL) (i j s : Nat) (hs : s < (dcL n i j).length) : 0 ≤ (dcL n i j).getD s default ∧ (dcL n i j).getD s default ≤ i + j := by
 rw [dcL_len] at hs
 rw [dcL_get _ _ _ _ hs]
 have h1 := cntA_b n.asg s i
 have h2 := cntM_b n.ms s j
 omega
theorem driverCounts_h (a : Option Addr) (c : Nat) (D : List ModA) (hD1 : D.length = 1) (x : ModA) (hDx : D.getD 0 default = x) (hX : x.ins.length = 0) (hl1 : x.sg.length ≤ 30) (hl2 : x.asg.length ≤ 30) (hl3 : x.ms.length ≤ 2) (w0 : World) (hD : Rd w0 a 4 ModA.cs D) (hM : ModR w0 x) :
  Ret Tryz.prog 185 [.agg ⟨[.slice a 1 c]⟩, .int .i64 0] w0 (fun v w => ∃ b c', v = .slice b x.sg.length c' ∧ Hp w0 w [rO 3 1 eI b c' (dcL x.n x.asg.length x.ms.length)]) := by
 refine enter Tryz.S185ok _ _ rfl rfl (by show _ ≤ _; simp only [List.length]; decide) (fun C => ?_); have hp := Hp.nil w0; refine h_run rfl ?_; skip; (first | refine H_box hp ?_ | refine H_alloc hp rfl ?_); intro w b2 hx hp; refine ops_run nopre rfl ?_; (repeat (refine gLoad ?_; first | refine H_ldB hp rfl rfl ?_ | refine H_ldE hp rfl (by omega) (by omega) rfl rfl ?_)); (first | refine H_box hp ?_ | refine H_alloc hp rfl ?_); intro w b5 hx hp; refine ops_run nopre rfl ?_; (repeat (first | (refine gLoad ?_; refine H_ldB hp rfl rfl ?_) | (refine gStore ?_; refine U_stBN hp rfl rfl rfl rfl ?_; intro w hp; refine ops_run nopre rfl ?_)))
 have e0 : D.getD (Int.toNat 0) default = x := hDx
 rw [e0] at hp ⊢
 skip
 refine H_make hp eI 0 rfl rfl rfl rfl (s := 1) rfl (by decide) rfl (by unfold maxLen; omega) (by show 8 * _ ≤ _; omega) ?_; intro w b25 hx hp; refine ops_run nopre rfl ?_; skip
 (first | refine H_box hp ?_ | refine H_alloc hp rfl ?_); intro w b6 hx hp; refine ops_run nopre rfl ?_; (repeat (first | (refine gLoad ?_; refine H_ldB hp rfl rfl ?_) | (refine gStore ?_; refine U_stB hp rfl rfl rfl rfl ?_; intro w hp; refine ops_run nopre rfl ?_)))
 have hp := hp.f2.f2.f2
 have e1 : List.replicate x.sg.length (0 : Int) = dcL x.n 0 0 := (dcL_0 x.n).symm
 have hdl : ∀ i j, (dcL x.n i j).length = x.sg.length := fun i j => dcL_len x.n i j
 rw [e1] at hp
 skip
 refine h_loop [2, 5, 6, 7, 28, 29, 30] (fun (i : Nat) => [(2, .pointer (some ⟨b2, 0, none⟩)), (5, .pointer (some ⟨b5, 0, none⟩)), (6, .pointer (some ⟨b6, 0, none⟩)), (7, .func (.func 193) ⟨[]⟩ ⟨[.pointer (some ⟨b6, 0, none⟩)]⟩), (28, .slice x.aa x.asg.length x.ac), (29, .int .i64 x.asg.length), (30, .int .i64 (i : Int))])
  (fun i w' => i ≤ x.asg.length ∧ Hp w0 w' [rB b6 31 [.slice (some ⟨b25, 0, none⟩) x.sg.length x.sg.length], rO 3 1 eI (some ⟨b25, 0, none⟩) x.sg.length (dcL x.n i 0), rB b5 41 x.cs]) (fun i => x.asg.length - i) 0 rfl ⟨by omega, hp.tk 3⟩ ?_
 clear hp
 rintro i w1 ⟨hi, hp⟩ IH C
 refine h_run rfl ?_; skip
 refine h_cond_dec (fun hlt => ?_) (fun hlt => ?_)
 ·have hlt' : i < x.asg.length := by omega
  refine h_cond_t rfl rfl ?_; (repeat (refine H_ldEN hp rfl (by omega) rfl rfl ?_))
  (first | refine H_box hp ?_ | refine H_alloc hp rfl ?_); intro w b9 hx hp; refine ops_run nopre rfl ?_; (repeat (first | (refine gLoad ?_; refine H_ldB hp rfl rfl ?_) | (refine gStore ?_; refine U_stBN hp rfl rfl rfl rfl ?_; intro w hp; refine ops_run nopre rfl ?_)))
  refine h_call rfl Tryz.func193 (by kernel_rfl) rfl (dcAdd_h (hp.f3.f1.f3.f3) (hdl i 0) (by omega) (fun s hs => by have := dcL_b x.n i 0 s hs; omega) (x.asg.getD i default).tg) ?_; rintro _ w ⟨rfl, hp⟩; refine ops_run nopre rfl ?_; skip
  refine IH (i + 1) _ _ _ (by omega) rfl ⟨by omega, ?_⟩
  rw [dcL_A x.n i 0 (x.asg.getD i default).tg (x.atg i)]
  exact (hp.f3.f2.f2.f3).drop
 ·refine h_cond_f rfl rfl ?_; (repeat (refine H_ldB hp rfl rfl ?_))
  obtain rfl : i = x.asg.length := by omega
  clear IH
  refine h_loop [2, 5, 6, 7, 40, 41, 42] (fun (j : Nat) => [(2, .pointer (some ⟨b2, 0, none⟩)), (5, .pointer (some ⟨b5, 0, none⟩)), (6, .pointer (some ⟨b6, 0, none⟩)), (7, .func (.func 193) ⟨[]⟩ ⟨[.pointer (some ⟨b6, 0, none⟩)]⟩), (40, .slice x.ma x.ms.length x.mc), (41, .int .i64 x.ms.length), (42, .int .i64 (j : Int))])
   (fun j w' => j ≤ x.ms.length ∧ Hp w0 w' [rB b6 31 [.slice (some ⟨b25, 0, none⟩) x.sg.length x.sg.length], rO 3 1 eI (some ⟨b25, 0, none⟩) x.sg.length (dcL x.n x.asg.length j), rB b5 41 x.cs]) (fun j => x.ms.length - j) 0 rfl ⟨by omega, hp⟩ ?_
  clear hp
  rintro j w1 ⟨hj, hp⟩ IH C
  refine h_run rfl ?_; skip
  refine h_cond_dec (fun hlt2 => ?_) (fun hlt2 => ?_)
  ·have hlt' : j < x.ms.length := by omega
   refine h_cond_t rfl rfl ?_; (repeat (refine H_ldEN hp rfl (by omega) rfl rfl ?_))
   (first | refine H_box hp ?_ | refine H_alloc hp rfl ?_); intro w b11 hx hp; refine ops_run nopre rfl ?_; (repeat (first | (refine gLoad ?_; refine H_ldB hp rfl rfl ?_) | (refine gStore ?_; refine U_stBN hp rfl rfl rfl rfl ?_; intro w hp; refine ops_run nopre rfl ?_)))
   refine h_call rfl Tryz.func193 (by kernel_rfl) rfl (dcAdd_h (hp.f3.f1.f3.f3) (hdl x.asg.length j) (by omega) (fun s hs => by have := dcL_b x.n x.asg.length j s hs; omega) (x.ms.getD j default).out) ?_; rintro _ w ⟨rfl, hp⟩; refine ops_run nopre rfl ?_; skip
   refine IH (j + 1) _ _ _ (by omega) rfl ⟨by omega, ?_⟩
   rw [dcL_M x.n x.asg.length j (x.ms.getD j default).out rfl]
   exact (hp.f3.f2.f2.f3).drop
  ·refine h_cond_f rfl rfl ?_; (repeat (refine H_ldB hp rfl rfl ?_))
   obtain rfl : j = x.ms.length := by omega
   clear IH
   refine h_loop [2, 6, 7, 52, 53, 54] (fun (k : Nat) => [(2, .pointer (some ⟨b2, 0, none⟩)), (6, .pointer (some ⟨b6, 0, none⟩)), (7, .func (.func 193) ⟨[]⟩ ⟨[.pointer (some ⟨b6, 0, none⟩)]⟩), (52, .slice x.ia x.ins.length x.ic), (53, .int .i64 x.ins.length), (54, .int .i64 (k : Int))])
    (fun k w' => Hp w0 w' [rB b6 31 [.slice (some ⟨b25, 0, none⟩) x.sg.length x.sg.length], rO 3 1 eI (some ⟨b25, 0, none⟩) x.sg.length (dcL x.n x.asg.length x.ms.length), rB b5 41 x.cs] ∧ True) (fun k => 0) 0 rfl ⟨hp, trivial⟩ ?_
   clear hp
   rintro k w1 ⟨hp, _⟩ IH C
   refine h_run rfl ?_; skip
   refine h_cond_dec (fun hlt3 => ?_) (fun hlt3 => ?_)
   ·omega
   ·refine h_cond_f rfl rfl ?_; (repeat (first | (refine gLoad ?_; refine H_ldB hp rfl rfl ?_) | refine R_ret ?_))
    exact ⟨_, _, rfl, (hp.drop).tk 1⟩
theorem asAt (x : ModA) (i : Nat) : x.n.asg.getD i default = ⟨(x.asg.getD i default).tg, (x.asg.getD i default).ops⟩ := x.aget i
theorem moduleOk_h (a : Option Addr) (c : Nat) (D : List ModA) (hD1 : D.length = 1) (x : ModA) (hDx : D.getD 0 default = x) (hi0 : x.ins = []) (w0 : World) (hD : Rd w0 a 4 ModA.cs D) (hM : ModR w0 x) (hS : ModS x.n) (hW : ModW x.n) :
  Ret Tryz.prog 150 [.agg ⟨[.slice a 1 c]⟩, .int .i64 0] w0 (fun v w => v = .bool (pB (ModOkP x.n)) ∧ Ext w0 w) := by
 have hil : x.ins.length = 0 := by rw [hi0]; rfl
 have s1 : x.sg.length ≤ 1048576 := hS.sg
 have s2 : x.asg.length ≤ 1048576 := by have := hS.asg; rw [x.alen] at this; exact this
 have s6 : x.ms.length ≤ 1048576 := hS.ms
 have e0 : D.getD (Int.toNat 0) default = x := hDx
 refine enter Tryz.S150ok _ _ rfl rfl (by show _ ≤ _; simp only [List.length]; decide) (fun C => ?_); have hp := Hp.nil w0; refine h_run rfl ?_; skip; (first | refine H_box hp ?_ | refine H_alloc hp rfl ?_); intro w b2 hx hp; refine ops_run nopre rfl ?_; (repeat (refine H_ldB hp rfl rfl ?_))
 refine h_call rfl Tryz.func124 (by kernel_rfl) rfl ((inRange_h 0 0 _ _).yes (by decide)) ?_; rintro _ w ⟨rfl, hx⟩; have hp := hp.ext hx; refine ops_run nopre rfl ?_; (repeat (first | (refine gGuard ?_; refine h_guard_y rfl nopre rfl ?_) | (refine gLoad ?_; refine H_ldB hp rfl rfl ?_)))
 by_cases hc : x.sg.length ≤ 30 ∧ x.asg.length ≤ 30 ∧ x.ins.length ≤ 3 ∧ x.ms.length ≤ 2
 ·obtain ⟨l1, l2, l4, l3⟩ := hc
  refine h_call rfl Tryz.func178 (by kernel_rfl) rfl ((countsOk_h a c D hD1 x hDx _ hp.rd s1 s2 (by omega) s6).tt (pB_iff.2 ⟨l1, l2, l4, l3⟩)) ?_; rintro _ w ⟨rfl, hx⟩; have hp := hp.ext hx; refine ops_run nopre rfl ?_; (repeat (first | (refine gGuard ?_; refine h_guard_y rfl nopre rfl ?_) | (refine gLoad ?_; refine H_ldB hp rfl rfl ?_)))
  refine h_call rfl Tryz.func179 (by kernel_rfl) rfl (instsOk_h a c D hD1 x hDx hi0 _ hp.rd) ?_; rintro _ w ⟨rfl, hx⟩; have hp := hp.ext hx; refine ops_run nopre rfl ?_; (repeat (refine h_guard_y rfl nopre rfl ?_))
  refine h_cond_f rfl rfl ?_; (repeat (refine gLoad ?_; first | refine H_ldB hp rfl rfl ?_ | refine H_ldE hp rfl (by omega) (by omega) rfl rfl ?_))
  rw [e0]
  (first | refine H_box hp ?_ | refine H_alloc hp rfl ?_); intro w b5 hx hp; refine ops_run nopre rfl ?_; (repeat (first | (refine gLoad ?_; refine H_ldB hp rfl rfl ?_) | (refine gStore ?_; refine U_stBN hp rfl rfl rfl rfl ?_; intro w hp; refine ops_run nopre rfl ?_)))
  have hp : Hp w0 _ [rB b5 41 x.cs, rB b2 136 [.slice a 1 c]] := hp
  refine h_loop [1, 2, 5, 6, 44, 45, 46] (fun (i : Nat) => [(1, .int .i64 0), (2, .pointer (some ⟨b2, 0, none⟩)), (5, .pointer (some ⟨b5, 0, none⟩)), (6, .int .i64 x.sg.length), (44, .slice x.sa x.sg.length x.sc), (45, .int .i64 x.sg.length), (46, .int .i64 (i : Int))])
   (fun i w' => (i ≤ x.sg.length ∧ ∀ j, j < i → sgOkP (x.sg.getD j default)) ∧ Hp w0 w' [rB b5 41 x.cs, rB b2 136 [.slice a 1 c]]) (fun i => x.sg.length - i) 0 rfl ⟨⟨by omega, fun j hj => by omega⟩, hp⟩ ?_
  clear hp
  rintro i w1 ⟨⟨hi, hsg⟩, hp⟩ IH C
  refine h_run rfl ?_; skip
  refine h_cond_dec (fun hlt => ?_) (fun hlt => ?_)
  ·have hlt' : i < x.sg.length := by omega
   refine h_cond_t rfl rfl ?_; (repeat (refine H_ldEN hp rfl (by omega) rfl rfl ?_))
   (first | refine H_box hp ?_ | refine H_alloc hp rfl ?_); intro w b8 hx hp; refine ops_run nopre rfl ?_; (repeat (first | (refine gLoad ?_; refine H_ldB hp rfl rfl ?_) | (refine gStore ?_; refine U_stBN hp rfl rfl rfl rfl ?_; intro w hp; refine ops_run nopre rfl ?_)))
   by_cases hs : sgOkP (x.sg.getD i default)
   ·refine h_call rfl Tryz.func180 (by kernel_rfl) rfl ((signalOk_h (x.sg.getD i default) _).tt (pB_iff.2 hs)) ?_; rintro _ w ⟨rfl, hx⟩; have hp := hp.ext hx; refine ops_run nopre rfl ?_; skip
    refine h_cond_f rfl rfl ?_; skip
    refine IH (i + 1) _ _ _ (by omega) rfl ⟨⟨by omega, fun j hj => ?_⟩, hp.drop⟩
    by_cases hj2 : j < i
    ·exact hsg j hj2
    ·obtain rfl : j = i := by omega
     exact hs
   ·refine h_call rfl Tryz.func180 (by kernel_rfl) rfl ((signalOk_h (x.sg.getD i default) _).ff (pB_no' hs)) ?_; rintro _ w ⟨rfl, hx⟩; have hp := hp.ext hx; refine ops_run nopre rfl ?_; skip
    have hbad : ¬ ModOkP x.n := fun h => hs (h.sg i hlt')
    refine h_cond_t rfl rfl ?_; (repeat (refine R_ret ?_))
    exact ⟨by rw [pB_no' hbad], hp.x⟩
  ·refine h_cond_f rfl rfl ?_; (repeat (refine H_ldB hp rfl rfl ?_))
   obtain rfl : i = x.sg.length := by omega
   clear IH
   refine h_loop [1, 2, 5, 6, 55, 56, 57] (fun (i : Nat) => [(1, .int .i64 0), (2, .pointer (some ⟨b2, 0, none⟩)), (5, .pointer (some ⟨b5, 0, none⟩)), (6, .int .i64 x.sg.length), (55, .slice x.aa x.asg.length x.ac), (56, .int .i64 x.asg.length), (57, .int .i64 (i : Int))])
    (fun i w' => (i ≤ x.asg.length ∧ ∀ j, j < i → asOkP x.n (x.n.asg.getD j default)) ∧ Hp w0 w' [rB b5 41 x.cs, rB b2 136 [.slice a 1 c]]) (fun i => x.asg.length - i) 0 rfl ⟨⟨by omega, fun j hj => by omega⟩, hp⟩ ?_
   clear hp
   rintro i w1 ⟨⟨hi, has⟩, hp⟩ IH C
   refine h_run rfl ?_; skip
   refine h_cond_dec (fun hlt => ?_) (fun hlt => ?_)
   ·have hlt' : i < x.asg.length := by omega
    have hro := hM.asg.at_ hlt'
    have eat := asAt x i
    have eol : (x.asg.getD i default).ops.length ≤ 1048576 := by have := hS.ops i (by rw [x.alen]; exact hlt'); rw [x.aops] at this; exact this
    have eoi : ∀ j, j < (x.asg.getD i default).ops.length → i64O ((x.asg.getD i default).ops.getD j default) := fun j hj => by have := hW.ops i (by rw [x.alen]; exact hlt') j (by rw [x.aops]; exact hj); rw [x.aops] at this; exact this
    refine h_cond_t rfl rfl ?_; (repeat (refine H_ldEN hp rfl (by omega) rfl rfl ?_))
    (first | refine H_box hp ?_ | refine H_alloc hp rfl ?_); intro w b10 hx hp; refine ops_run nopre rfl ?_; (repeat (first | (refine gLoad ?_; refine H_ldB hp rfl rfl ?_) | (refine gStore ?_; refine U_stBN hp rfl rfl rfl rfl ?_; intro w hp; refine ops_run nopre rfl ?_)))
    by_cases h1 : 0 ≤ (x.asg.getD i default).tg ∧ (x.asg.getD i default).tg ≤ x.sg.length - 1
    ·refine h_call rfl Tryz.func124 (by kernel_rfl) rfl ((inRange_h (x.asg.getD i default).tg 0 (x.sg.length - 1) _).yes h1) ?_; rintro _ w ⟨rfl, hx⟩; have hp := hp.ext hx; refine ops_run nopre rfl ?_; (repeat (first | (refine gGuard ?_; refine h_guard_y rfl nopre rfl ?_) | (refine gLoad ?_; first | refine H_ldB hp rfl rfl ?_ | refine H_ldF hp rfl (by omega) (by omega) rfl rfl ?_)))
     have hin : inL x.n (x.asg.getD i default).tg := by have e : x.n.sg.length = x.sg.length := rfl; unfold inL; omega
     by_cases h2 : kindL x.n (x.asg.getD i default).tg = 1 ∨ kindL x.n (x.asg.getD i default).tg = 2 ∨ kindL x.n (x.asg.getD i default).tg = 3
     ·refine h_call rfl Tryz.func181 (by kernel_rfl) rfl ((isDriven_h (x.sg.getD (x.asg.getD i default).tg.toNat default).kind _).yes h2) ?_; rintro _ w ⟨rfl, hx⟩; have hp := hp.ext hx; refine ops_run nopre rfl ?_; (repeat (first | (refine gGuard ?_; refine h_guard_y rfl nopre rfl ?_) | (refine gLoad ?_; refine H_ldB hp rfl rfl ?_)))
      by_cases h3 : OpsOkP (x.asg.getD i default).ops x.sg.length
      ·refine h_call rfl Tryz.func182 (by kernel_rfl) rfl ((implOpsOk_h _ _ _ (x.asg.getD i default).ops rfl x.sg.length _ hp.rd eol eoi).tt (opsB_yes h3)) ?_; rintro _ w ⟨rfl, hx⟩; have hp := hp.ext hx; refine ops_run nopre rfl ?_; (repeat (refine h_guard_y rfl nopre rfl ?_))
       refine h_cond_f rfl rfl ?_; skip
       refine IH (i + 1) _ _ _ (by omega) rfl ⟨⟨by omega, fun j hj => ?_⟩, hp.drop⟩
       by_cases hj2 : j < i
       ·exact has j hj2
       ·obtain rfl : j = i := by omega
        exact by rw [eat]; exact ⟨hin, h2, h3⟩
      ·refine h_call rfl Tryz.func182 (by kernel_rfl) rfl ((implOpsOk_h _ _ _ (x.asg.getD i default).ops rfl x.sg.length _ hp.rd eol eoi).ff (opsB_no h3)) ?_; rintro _ w ⟨rfl, hx⟩; have hp := hp.ext hx; refine ops_run nopre rfl ?_; (repeat (refine h_guard_y rfl nopre rfl ?_))
       have hbad : ¬ ModOkP x.n := fun h => h3 (by have := h.asg i (by rw [x.alen]; exact hlt'); rw [eat] at this; exact this.2.2)
       refine h_cond_t rfl rfl ?_; (repeat (refine R_ret ?_))
       exact ⟨by rw [pB_no' hbad], hp.x⟩
     ·refine h_call rfl Tryz.func181 (by kernel_rfl) rfl ((isDriven_h (x.sg.getD (x.asg.getD i default).tg.toNat default).kind _).no h2) ?_; rintro _ w ⟨rfl, hx⟩; have hp := hp.ext hx; refine ops_run nopre rfl ?_; (repeat (refine gGuard ?_; first | refine h_guard_y rfl nopre rfl ?_ | refine h_guard_n rfl nopre rfl ?_))
      have hbad : ¬ ModOkP x.n := fun h => h2 (by have := h.asg i (by rw [x.alen]; exact hlt'); rw [eat] at this; exact this.2.1)
      refine h_cond_t rfl rfl ?_; (repeat (refine R_ret ?_))
      exact ⟨by rw [pB_no' hbad], hp.x⟩
    ·refine h_call rfl Tryz.func124 (by kernel_rfl) rfl ((inRange_h (x.asg.getD i default).tg 0 (x.sg.length - 1) _).no h1) ?_; rintro _ w ⟨rfl, hx⟩; have hp := hp.ext hx; refine ops_run nopre rfl ?_; (repeat (refine h_guard_n rfl nopre rfl ?_))
     have hbad : ¬ ModOkP x.n := fun h => h1 (by have := h.asg i (by rw [x.alen]; exact hlt'); rw [eat] at this; have := this.1; unfold inL at this; change 0 ≤ (x.asg.getD i default).tg ∧ (x.asg.getD i default).tg < x.sg.length at this; omega)
     refine h_cond_t rfl rfl ?_; (repeat (refine R_ret ?_))
     exact ⟨by rw [pB_no' hbad], hp.x⟩
   ·refine h_cond_f rfl rfl ?_; (repeat (refine H_ldB hp rfl rfl ?_))
    obtain rfl : i = x.asg.length := by omega
    clear IH
    refine h_loop [1, 2, 5, 6, 87, 88, 89] (fun (i : Nat) => [(1, .int .i64 0), (2, .pointer (some ⟨b2, 0, none⟩)), (5, .pointer (some ⟨b5, 0, none⟩)), (6, .int .i64 x.sg.length), (87, .slice x.ia x.ins.length x.ic), (88, .int .i64 x.ins.length), (89, .int .i64 (i : Int))])
     (fun i w' => (i ≤ x.ins.length ∧ ∀ j, j < i → True) ∧ Hp w0 w' [rB b5 41 x.cs, rB b2 136 [.slice a 1 c]]) (fun i => x.ins.length - i) 0 rfl ⟨⟨by omega, fun j hj => by omega⟩, hp⟩ ?_
    clear hp
    rintro i w1 ⟨⟨hi, _⟩, hp⟩ IH C
    refine h_run rfl ?_; skip
    refine h_cond_dec (fun hlt => ?_) (fun hlt => ?_)
    ·omega
    ·refine h_cond_f rfl rfl ?_; (repeat (refine H_ldB hp rfl rfl ?_))
     clear IH
     refine h_loop [1, 2, 5, 6, 100, 101, 102] (fun (i : Nat) => [(1, .int .i64 0), (2, .pointer (some ⟨b2, 0, none⟩)), (5, .pointer (some ⟨b5, 0, none⟩)), (6, .int .i64 x.sg.length), (100, .slice x.ma x.ms.length x.mc), (101, .int .i64 x.ms.length), (102, .int .i64 (i : Int))])
      (fun i w' => (i ≤ x.ms.length ∧ ∀ j, j < i → mmOkP x.n (x.ms.getD j default)) ∧ Hp w0 w' [rB b5 41 x.cs, rB b2 136 [.slice a 1 c]]) (fun i => x.ms.length - i) 0 rfl ⟨⟨by omega, fun j hj => by omega⟩, hp⟩ ?_
     clear hp
     rintro i w1 ⟨⟨hi, hms⟩, hp⟩ IH C
     refine h_run rfl ?_; skip
     refine h_cond_dec (fun hlt => ?_) (fun hlt => ?_)
     ·have hlt' : i < x.ms.length := by omega
      have en : x.n.sg.length = x.sg.length := rfl
      refine h_cond_t rfl rfl ?_; (repeat (refine H_ldEN hp rfl (by omega) rfl rfl ?_))
      (first | refine H_box hp ?_ | refine H_alloc hp rfl ?_); intro w b14 hx hp; refine ops_run nopre rfl ?_; (repeat (first | (refine gLoad ?_; refine H_ldB hp rfl rfl ?_) | (refine gStore ?_; refine U_stBN hp rfl rfl rfl rfl ?_; intro w hp; refine ops_run nopre rfl ?_)))
      by_cases h1 : 0 ≤ (x.ms.getD i default).addr ∧ (x.ms.getD i default).addr ≤ x.sg.length - 1
      ·refine h_call rfl Tryz.func124 (by kernel_rfl) rfl ((inRange_h (x.ms.getD i default).addr 0 (x.sg.length - 1) _).yes h1) ?_; rintro _ w ⟨rfl, hx⟩; have hp := hp.ext hx; refine ops_run nopre rfl ?_; (repeat (first | (refine gGuard ?_; refine h_guard_y rfl nopre rfl ?_) | (refine gLoad ?_; refine H_ldB hp rfl rfl ?_)))
       by_cases h2 : 0 ≤ (x.ms.getD i default).data ∧ (x.ms.getD i default).data ≤ x.sg.length - 1
       ·refine h_call rfl Tryz.func124 (by kernel_rfl) rfl ((inRange_h (x.ms.getD i default).data 0 (x.sg.length - 1) _).yes h2) ?_; rintro _ w ⟨rfl, hx⟩; have hp := hp.ext hx; refine ops_run nopre rfl ?_; (repeat (first | (refine gGuard ?_; refine h_guard_y rfl nopre rfl ?_) | (refine gLoad ?_; refine H_ldB hp rfl rfl ?_)))
        by_cases h3 : 0 ≤ (x.ms.getD i default).write ∧ (x.ms.getD i default).write ≤ x.sg.length - 1
        ·refine h_call rfl Tryz.func124 (by kernel_rfl) rfl ((inRange_h (x.ms.getD i default).write 0 (x.sg.length - 1) _).yes h3) ?_; rintro _ w ⟨rfl, hx⟩; have hp := hp.ext hx; refine ops_run nopre rfl ?_; (repeat (first | (refine gGuard ?_; refine h_guard_y rfl nopre rfl ?_) | (refine gLoad ?_; refine H_ldB hp rfl rfl ?_)))
         by_cases h4 : drvsP x.n (x.ms.getD i default).out
         ·refine h_call rfl Tryz.func184 (by kernel_rfl) rfl ((drives_h x (x.ms.getD i default).out _ hp.mod s1).tt (pB_iff.2 h4)) ?_; rintro _ w ⟨rfl, hx⟩; have hp := hp.ext hx; refine ops_run nopre rfl ?_; (repeat (refine h_guard_y rfl nopre rfl ?_))
          refine h_cond_f rfl rfl ?_; skip
          refine IH (i + 1) _ _ _ (by omega) rfl ⟨⟨by omega, fun j hj => ?_⟩, hp.drop⟩
          by_cases hj2 : j < i
          ·exact hms j hj2
          ·obtain rfl : j = i := by omega
           exact ⟨by unfold inL; omega, by unfold inL; omega, by unfold inL; omega, h4⟩
         ·refine h_call rfl Tryz.func184 (by kernel_rfl) rfl ((drives_h x (x.ms.getD i default).out _ hp.mod s1).ff (pB_no' h4)) ?_; rintro _ w ⟨rfl, hx⟩; have hp := hp.ext hx; refine ops_run nopre rfl ?_; (repeat (refine h_guard_y rfl nopre rfl ?_))
          have hbad : ¬ ModOkP x.n := fun h => h4 (h.ms i hlt').2.2.2
          refine h_cond_t rfl rfl ?_; (repeat (refine R_ret ?_))
          exact ⟨by rw [pB_no' hbad], hp.x⟩
        ·refine h_call rfl Tryz.func124 (by kernel_rfl) rfl ((inRange_h (x.ms.getD i default).write 0 (x.sg.length - 1) _).no h3) ?_; rintro _ w ⟨rfl, hx⟩; have hp := hp.ext hx; refine ops_run nopre rfl ?_; (repeat (refine gGuard ?_; first | refine h_guard_y rfl nopre rfl ?_ | refine h_guard_n rfl nopre rfl ?_))
         have hbad : ¬ ModOkP x.n := fun h => h3 (by have := (h.ms i hlt').2.2.1; unfold inL at this; change 0 ≤ (x.ms.getD i default).write ∧ (x.ms.getD i default).write < x.sg.length at this; omega)
         refine h_cond_t rfl rfl ?_; (repeat (refine R_ret ?_))
         exact ⟨by rw [pB_no' hbad], hp.x⟩
       ·refine h_call rfl Tryz.func124 (by kernel_rfl) rfl ((inRange_h (x.ms.getD i default).data 0 (x.sg.length - 1) _).no h2) ?_; rintro _ w ⟨rfl, hx⟩; have hp := hp.ext hx; refine ops_run nopre rfl ?_; (repeat (refine gGuard ?_; first | refine h_guard_y rfl nopre rfl ?_ | refine h_guard_n rfl nopre rfl ?_))
        have hbad : ¬ ModOkP x.n := fun h => h2 (by have := (h.ms i hlt').2.1; unfold inL at this; change 0 ≤ (x.ms.getD i default).data ∧ (x.ms.getD i default).data < x.sg.length at this; omega)
        refine h_cond_t rfl rfl ?_; (repeat (refine R_ret ?_))
        exact ⟨by rw [pB_no' hbad], hp.x⟩
      ·refine h_call rfl Tryz.func124 (by kernel_rfl) rfl ((inRange_h (x.ms.getD i default).addr 0 (x.sg.length - 1) _).no h1) ?_; rintro _ w ⟨rfl, hx⟩; have hp := hp.ext hx; refine ops_run nopre rfl ?_; (repeat (refine h_guard_n rfl nopre rfl ?_))
       have hbad : ¬ ModOkP x.n := fun h => h1 (by have := (h.ms i hlt').1; unfold inL at this; change 0 ≤ (x.ms.getD i default).addr ∧ (x.ms.getD i default).addr < x.sg.length at this; omega)
       refine h_cond_t rfl rfl ?_; (repeat (refine R_ret ?_))
       exact ⟨by rw [pB_no' hbad], hp.x⟩
     ·refine h_cond_f rfl rfl ?_; (repeat (refine H_ldB hp rfl rfl ?_))
      obtain rfl : i = x.ms.length := by omega
      clear IH
      refine h_call rfl Tryz.func185 (by kernel_rfl) rfl (driverCounts_h a c D hD1 x hDx hil l1 l2 l3 _ hp.rd hp.mod) ?_; rintro _ w ⟨bd, cd, rfl, hq⟩; have hx := hq.x; have hp := hp.call1 hq; refine ops_run nopre rfl ?_; skip
      have hdl : (dcL x.n x.asg.length x.ms.length).length = x.sg.length := dcL_len _ _ _
      refine h_loop [5, 138, 139, 140] (fun (i : Nat) => [(5, .pointer (some ⟨b5, 0, none⟩)), (138, .slice bd x.sg.length cd), (139, .int .i64 x.sg.length), (140, .int .i64 (i : Int))])
       (fun i w' => (i ≤ x.sg.length ∧ ∀ j : Nat, j < i → ((x.sg.getD j default).kind = 1 ∨ (x.sg.getD j default).kind = 2 ∨ (x.sg.getD j default).kind = 3) → drvL x.n j = 1) ∧ Hp w0 w' [rO 3 1 eI bd cd (dcL x.n x.asg.length x.ms.length), rB b5 41 x.cs]) (fun i => x.sg.length - i) 0 rfl ⟨⟨by omega, fun j hj => by omega⟩, hp.tk 2⟩ ?_
      clear hp
      rintro i w1 ⟨⟨hi, hdr⟩, hp⟩ IH C
      refine h_run rfl ?_; skip
      refine h_cond_dec (fun hlt => ?_) (fun hlt => ?_)
      ·have hlt' : i < x.sg.length := by omega
       have edc : (dcL x.n x.asg.length x.ms.length).getD i default = drvL x.n i := by rw [dcL_get _ _ _ _ hlt']; unfold drvL; rw [x.alen]; rfl
       refine h_cond_t rfl rfl ?_; (repeat (refine gLoad ?_; first | refine H_ldB hp rfl rfl ?_ | refine H_ldEN hp rfl (by omega) rfl rfl ?_ | refine H_ldFN hp rfl (by omega) rfl rfl ?_))
       by_cases hk : (x.sg.getD i default).kind = 1 ∨ (x.sg.getD i default).kind = 2 ∨ (x.sg.getD i default).kind = 3
       ·refine h_call rfl Tryz.func181 (by kernel_rfl) rfl ((isDriven_h (x.sg.getD i default).kind _).yes hk) ?_; rintro _ w ⟨rfl, hx⟩; have hp := hp.ext hx; refine ops_run nopre rfl ?_; (repeat (refine h_guard_y rfl nopre rfl ?_))
        refine h_cond_dec (fun hne => ?_) (fun hne => ?_)
        ·have hbad : ¬ ModOkP x.n := fun h => hne (by rw [edc]; exact h.drv i hlt' hk)
         refine h_cond_t rfl rfl ?_; (repeat (refine R_ret ?_))
         exact ⟨by rw [pB_no' hbad], hp.x⟩
        ·refine h_cond_f rfl rfl ?_; skip
         refine IH (i + 1) _ _ _ (by omega) rfl ⟨⟨by omega, fun j hj hkj => ?_⟩, hp⟩
         by_cases hj2 : j < i
         ·exact hdr j hj2 hkj
         ·obtain rfl : j = i := by omega
          rw [← edc]; exact Decidable.not_not.1 hne
       ·refine h_call rfl Tryz.func181 (by kernel_rfl) rfl ((isDriven_h (x.sg.getD i default).kind _).no hk) ?_; rintro _ w ⟨rfl, hx⟩; have hp := hp.ext hx; refine ops_run nopre rfl ?_; (repeat (refine h_guard_n rfl nopre rfl ?_))
        refine h_cond_f rfl rfl ?_; skip
        refine IH (i + 1) _ _ _ (by omega) rfl ⟨⟨by omega, fun j hj hkj => ?_⟩, hp⟩
        by_cases hj2 : j < i
        ·exact hdr j hj2 hkj
        ·obtain rfl : j = i := by omega
         exact absurd hkj hk
      ·refine h_cond_f rfl rfl ?_; (repeat (refine R_ret ?_))
       obtain rfl : i = x.sg.length := by omega
       have hgood : ModOkP x.n := ⟨l1, by rw [x.alen]; exact l2, l3, hsg, fun j hj => has j (by rw [x.alen] at hj; exact hj), hms, hdr⟩
       exact ⟨by rw [pB_iff.2 hgood], hp.x⟩
 ·refine h_call rfl Tryz.func178 (by kernel_rfl) rfl ((countsOk_h a c D hD1 x hDx _ hp.rd s1 s2 (by omega) s6).ff (pB_no' hc)) ?_; rintro _ w ⟨rfl, hx⟩; have hp := hp.ext hx; refine ops_run nopre rfl ?_; (repeat (refine gGuard ?_; first | refine h_guard_y rfl nopre rfl ?_ | refine h_guard_n rfl nopre rfl ?_))
  have hbad : ¬ ModOkP x.n := fun h => hc ⟨h.l1, by have := h.l2; rw [x.alen] at this; exact this, by omega, h.l3⟩
  refine h_cond_t rfl rfl ?_; (repeat (refine R_ret ?_))
  exact ⟨by rw [pB_no' hbad], hp.x⟩
theorem designOk_h (a : Option Addr) (c : Nat) (D : List ModA) (hD1 : D.length = 1) (x : ModA) (hDx : D.getD 0 default = x) (hi0 : x.ins = []) (w0 : World) (hD : Rd w0 a 4 ModA.cs D) (hM : ModR w0 x) (hS : ModS x.n) (hW : ModW x.n) :
  Ret Tryz.prog 93 [.agg ⟨[.slice a 1 c]⟩] w0 (fun v w => v = .bool (pB (ModOkP x.n)) ∧ Ext w0 w) := by
 refine enter Tryz.S93ok _ _ rfl rfl (by show _ ≤ _; simp only [List.length]; decide) (fun C => ?_); have hp := Hp.nil w0; refine h_run rfl ?_; skip; (first | refine H_box hp ?_ | refine H_alloc hp rfl ?_); intro w b1 hx hp; refine ops_run nopre rfl ?_; (repeat (refine H_ldB hp rfl rfl ?_))
 refine h_loop [1, 6, 7] (fun (i : Nat) => [(1, .pointer (some ⟨b1, 0, none⟩)), (6, .int .i64 1), (7, .int .i64 (i : Int))])
  (fun i w' => (i ≤ 1 ∧ (0 < i → ModOkP x.n)) ∧ Hp w0 w' [rB b1 136 [.slice a 1 c]]) (fun i => 1 - i) 0 rfl ⟨⟨by omega, fun h => by omega⟩, hp⟩ ?_
 clear hp
 rintro i w1 ⟨⟨hi1, hdone⟩, hp⟩ IH C
 refine h_run rfl ?_; skip
 refine h_cond_dec (fun hlt => ?_) (fun hlt => ?_)
 ·obtain rfl : i = 0 := by omega
  refine h_cond_t rfl rfl ?_; (repeat (refine H_ldB hp rfl rfl ?_))
  by_cases hm : ModOkP x.n
  ·refine h_call rfl Tryz.func150 (by kernel_rfl) rfl ((moduleOk_h a c D hD1 x hDx hi0 _ hp.rd hp.mod hS hW).tt (pB_iff.2 hm)) ?_; rintro _ w ⟨rfl, hx⟩; have hp := hp.ext hx; refine ops_run nopre rfl ?_; skip
   refine h_cond_f rfl rfl ?_; skip
   exact IH 1 _ _ _ (by omega) rfl ⟨⟨by omega, fun _ => hm⟩, hp⟩
  ·refine h_call rfl Tryz.func150 (by kernel_rfl) rfl ((moduleOk_h a c D hD1 x hDx hi0 _ hp.rd hp.mod hS hW).ff (pB_no' hm)) ?_; rintro _ w ⟨rfl, hx⟩; have hp := hp.ext hx; refine ops_run nopre rfl ?_; skip
   refine h_cond_t rfl rfl ?_; (repeat (refine R_ret ?_))
   exact ⟨by rw [pB_no' hm], hp.x⟩
 ·refine h_cond_f rfl rfl ?_; (repeat (refine H_ldB hp rfl rfl ?_))
  obtain rfl : i = 1 := by omega
  refine h_call rfl Tryz.func124 (by kernel_rfl) rfl ((inRange_h 1 1 4 _).yes (by decide)) ?_; rintro _ w ⟨rfl, hx⟩; have hp := hp.ext hx; refine ops_run nopre rfl ?_; (repeat (refine R_ret ?_))
  exact ⟨by rw [pB_iff.2 (hdone (by omega))], hp.x⟩
end Go.Proofs
