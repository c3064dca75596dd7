/- The contracts of the program's AddCover; each under its stated conditions. -/
import Derived.Test.YtfcafmbcmdeomaaCov
set_option linter.all false
namespace Go.Proofs
open Go.Xw
set_option maxRecDepth 100000
set_option maxHeartbeats 4000000
attribute [local irreducible] Holds elemAddr
noncomputable def cubeOkB (m : Int) (c : Int × Int) : Bool := @decide (cubeOkP m c) (Classical.propDecidable _)
theorem cubeOkB_yes {m : Int} {c : Int × Int} (h : cubeOkP m c) : cubeOkB m c = true := by simp [cubeOkB, h]
theorem cubeOkB_no {m : Int} {c : Int × Int} (h : ¬ cubeOkP m c) : cubeOkB m c = false := by simp [cubeOkB, h]
noncomputable def coverOkB (m : Int) (K : List (Int × Int)) : Bool := @decide (coverOkP m K) (Classical.propDecidable _)
theorem coverOkB_yes {m : Int} {K : List (Int × Int)} (h : coverOkP m K) : coverOkB m K = true := by simp [coverOkB, h]
theorem coverOkB_no {m : Int} {K : List (Int × Int)} (h : ¬ coverOkP m K) : coverOkB m K = false := by simp [coverOkB, h]
theorem pow_small {m : Int} (h : 0 ≤ m ∧ m ≤ 4) : (1 : Int) ≤ 2 ^ m.toNat ∧ (2 : Int) ^ m.toNat ≤ 16 := by
  obtain rfl | rfl | rfl | rfl | rfl : m = 0 ∨ m = 1 ∨ m = 2 ∨ m = 3 ∨ m = 4 := by omega
  all_goals decide
theorem implCubeOk_h (m : Int) (c : Int × Int) (w0 : World) (hm : i64R m) (hc : i64R c.1 ∧ i64R c.2) : Ret Try.prog 170 [.int .i64 m, .agg ⟨eII c⟩] w0 (fun v w => v = .bool (cubeOkB m c) ∧ Ext w0 w) := by
  refine enter Try.S170ok _ _ rfl rfl (by show _ ≤ _; simp only [List.length]; decide) (fun C => ?_); have hp := Hp.nil w0; refine h_run rfl ?_; skip; (first | (refine H_box hp ?_; intro w b3 hx hp) | (refine H_alloc hp rfl ?_; intro w b3 hx hp)); refine ops_run nopre rfl ?_; skip
  by_cases h0 : 0 ≤ m ∧ m ≤ 4
  · have h2 := pow_small h0
    have hbk : m ≤ ((IntKind.i64.bits : Nat) : Int) := by show m ≤ 64; omega
    refine h_call rfl Try.func104 (by kernel_rfl) rfl ((inRange_h m 0 4 _).yes h0) ?_; rintro _ w ⟨rfl, hx⟩; have hp := hp.ext hx; refine ops_run nopre rfl ?_; (repeat (first | (refine gGuard ?_; refine h_guard_y rfl nopre rfl ?_) | (refine gLoad ?_; refine H_ldB hp rfl rfl ?_)))
    by_cases h1 : 0 ≤ c.1 ∧ c.1 ≤ 1 * 2 ^ m.toNat - 1
    · refine h_call rfl Try.func104 (by kernel_rfl) rfl ((inRange_h c.1 0 (1 * 2 ^ m.toNat - 1) _).yes h1) ?_; rintro _ w ⟨rfl, hx⟩; have hp := hp.ext hx; refine ops_run nopre rfl ?_; (repeat (first | (refine gGuard ?_; refine h_guard_y rfl nopre rfl ?_) | (refine gLoad ?_; refine H_ldB hp rfl rfl ?_)))
      by_cases h3 : 0 ≤ c.2 ∧ c.2 ≤ 1 * 2 ^ m.toNat - 1
      · refine h_call rfl Try.func104 (by kernel_rfl) rfl ((inRange_h c.2 0 (1 * 2 ^ m.toNat - 1) _).yes h3) ?_; rintro _ w ⟨rfl, hx⟩; have hp := hp.ext hx; refine ops_run nopre rfl ?_; (repeat (first | (refine gGuard ?_; refine h_guard_y rfl nopre rfl ?_) | (refine gLoad ?_; refine H_ldB hp rfl rfl ?_) | refine R_ret ?_))
        refine ⟨?_, hp.x⟩
        by_cases h4 : bits .andNot .i64 c.2 c.1 = 0
        · rw [decide_eq_true h4, cubeOkB_yes ⟨h0, by omega, by omega, h4⟩]
        · rw [decide_eq_false h4, cubeOkB_no (fun h => h4 h.2.2.2)]
      · refine h_call rfl Try.func104 (by kernel_rfl) rfl ((inRange_h c.2 0 (1 * 2 ^ m.toNat - 1) _).no h3) ?_; rintro _ w ⟨rfl, hx⟩; have hp := hp.ext hx; refine ops_run nopre rfl ?_; (repeat (first | (refine gGuard ?_; refine h_guard_n rfl nopre rfl ?_) | refine R_ret ?_))
        exact ⟨by rw [cubeOkB_no (fun h => h3 (by have := h.2.2.1; omega))], hp.x⟩
    · refine h_call rfl Try.func104 (by kernel_rfl) rfl ((inRange_h c.1 0 (1 * 2 ^ m.toNat - 1) _).no h1) ?_; rintro _ w ⟨rfl, hx⟩; have hp := hp.ext hx; refine ops_run nopre rfl ?_; (repeat (first | (refine gGuard ?_; refine h_guard_n rfl nopre rfl ?_) | refine R_ret ?_))
      exact ⟨by rw [cubeOkB_no (fun h => h1 (by have := h.2.1; omega))], hp.x⟩
  · refine h_call rfl Try.func104 (by kernel_rfl) rfl ((inRange_h m 0 4 _).no h0) ?_; rintro _ w ⟨rfl, hx⟩; have hp := hp.ext hx; refine ops_run nopre rfl ?_; (repeat (first | (refine gGuard ?_; refine h_guard_n rfl nopre rfl ?_) | refine R_ret ?_))
    exact ⟨by rw [cubeOkB_no (fun h => h0 h.1)], hp.x⟩
theorem implCoverOk_h (m : Int) (ca : Option Addr) (cc q : Nat) (K : List (Int × Int)) (hq : K.length = q) (w0 : World) (hm : i64R m) (hR : Rd w0 ca 2 eII K) (hK : ∀ i, i < K.length → i64R (K.getD i default).1 ∧ i64R (K.getD i default).2) (hb : q ≤ 1048576) : Ret Try.prog 111 [.int .i64 m, .slice ca q cc] w0 (fun v w => v = .bool (coverOkB m K) ∧ Ext w0 w) := by
  subst hq
  refine enter Try.S111ok _ _ rfl rfl (by show _ ≤ _; simp only [List.length]; decide) (fun C => ?_); have hp := Hp.nil w0; refine h_run rfl ?_; skip
  by_cases h0 : 0 ≤ m ∧ m ≤ 4
  · refine h_call rfl Try.func104 (by kernel_rfl) rfl ((inRange_h m 0 4 _).yes h0) ?_; rintro _ w ⟨rfl, hx⟩; have hp := hp.ext hx; refine ops_run nopre rfl ?_; (repeat (refine h_guard_y rfl nopre rfl ?_))
    refine h_cond_dec (fun h1 => ?_) (fun h1 => ?_)
    · refine h_cond_t rfl rfl ?_; (repeat (refine R_ret ?_))
      exact ⟨by rw [coverOkB_no (fun h => by have := h.2.1; omega)], hp.x⟩
    · refine h_cond_f rfl rfl ?_; skip
      refine h_loop [0, 15, 16, 17] (fun (i : Nat) => [(0, .int .i64 m), (15, .slice ca K.length cc), (16, .int .i64 K.length), (17, .int .i64 (i : Int))])
        (fun i w' => (i ≤ K.length ∧ ∀ c, c ∈ K.take i → cubeOkP m c) ∧ Hp w0 w' []) (fun i => K.length - i) 0 rfl ⟨⟨by omega, fun c hc => by simp at hc⟩, hp⟩ ?_
      clear hp
      rintro i w1 ⟨⟨hi, hall⟩, hp⟩ IH C
      refine h_run rfl ?_; skip
      refine h_cond_dec (fun hlt => ?_) (fun hlt => ?_)
      · have hlt' : i < K.length := by omega
        have hci := hK i hlt'
        have hne : ca ≠ none := nn_of hp (X := K) (by omega)
        refine h_cond_t rfl rfl ?_; (repeat (refine H_ldEN hp rfl (by omega) rfl rfl ?_))
        (first | (refine H_box hp ?_; intro w b6 hx hp) | (refine H_alloc hp rfl ?_; intro w b6 hx hp)); refine ops_run nopre rfl ?_; (repeat (first | (refine gLoad ?_; refine H_ldB hp rfl rfl ?_) | (refine gStore ?_; refine U_stBN hp rfl rfl rfl rfl ?_; intro w hp; refine ops_run nopre rfl ?_)))
        by_cases h2 : cubeOkP m (K.getD i default)
        · refine h_call rfl Try.func170 (by kernel_rfl) rfl ((implCubeOk_h m (K.getD i default) _ hm hci).tt (cubeOkB_yes h2)) ?_; rintro _ w ⟨rfl, hx⟩; have hp := hp.ext hx; refine ops_run nopre rfl ?_; skip
          refine h_cond_f rfl rfl ?_; skip
          refine IH (i + 1) _ _ _ (by omega) rfl ⟨⟨by omega, fun c hc => ?_⟩, hp.drop⟩
          rw [take_snoc hlt'] at hc
          rcases List.mem_append.1 hc with hc | hc
          · exact hall c hc
          · simp only [List.mem_singleton] at hc
            subst hc
            exact h2
        · refine h_call rfl Try.func170 (by kernel_rfl) rfl ((implCubeOk_h m (K.getD i default) _ hm hci).ff (cubeOkB_no h2)) ?_; rintro _ w ⟨rfl, hx⟩; have hp := hp.ext hx; refine ops_run nopre rfl ?_; skip
          refine h_cond_t rfl rfl ?_; (repeat (refine R_ret ?_))
          exact ⟨by rw [coverOkB_no (fun h => h2 (h.2.2 _ (getD_mem hlt')))], Hp.x hp⟩
      · obtain rfl : i = K.length := by omega
        refine h_cond_f rfl rfl ?_; (repeat (refine R_ret ?_))
        rw [List.take_length] at hall
        exact ⟨by rw [coverOkB_yes ⟨h0, by omega, hall⟩], hp.x⟩
  · refine h_call rfl Try.func104 (by kernel_rfl) rfl ((inRange_h m 0 4 _).no h0) ?_; rintro _ w ⟨rfl, hx⟩; have hp := hp.ext hx; refine ops_run nopre rfl ?_; (repeat (refine h_guard_n rfl nopre rfl ?_))
    refine h_cond_t rfl rfl ?_; (repeat (refine R_ret ?_))
    exact ⟨by rw [coverOkB_no (fun h => h0 h.1)], hp.x⟩
theorem addCoverC_h (x : NetA) (la ca : Option Addr) (lc cc : Nat) (lits : List Int) (K : List (Int × Int)) (b4 b5 : Nat) {w0 : World} (h4 : Bk w0 b4 24 [.slice la lits.length lc]) (h5 : Bk w0 b5 55 [.slice ca K.length cc]) (hR : Rd w0 la 1 eI lits) (hR2 : Rd w0 ca 2 eII K) (hml : lits.length ≤ 4) (hql : K.length ≤ 81) (hcb : ∀ c, c ∈ K → 0 ≤ c.1 ∧ 0 ≤ c.2) (hok : NetOkP x.n) (hl : ∀ l, l ∈ lits → litP l (nodesL x.n)) (y : NetA) (p : Nat) (w : World) (L : List Res) (hy : y.n = x.n) (hp : Hp w0 w (rB p 32 y.cs :: rO 103 2 eII y.aa y.ac y.ands :: L)) :
    Ret Try.prog 114 [.pointer (some ⟨p, 0, none⟩), .pointer (some ⟨b4, 0, none⟩), .pointer (some ⟨b5, 0, none⟩)] w (fun v w' => ∃ aa ac, v = .int .i64 (coverTo x.n lits K K.length).2 ∧ Hp w0 w' (rB p 32 (y.wA aa ac (coverTo x.n lits K K.length).1.ands).cs :: rO 103 2 eII aa ac (coverTo x.n lits K K.length).1.ands :: L)) := by
  rw [← hy] at hok hl ⊢
  refine enter Try.S114ok _ _ rfl rfl (by show _ ≤ _; simp only [List.length]; decide) (fun C => ?_); refine h_run rfl ?_; (repeat (refine H_ldB hp rfl rfl ?_))
  refine h_call rfl Try.func115 (by kernel_rfl) rfl (addCover_h y p la ca lc cc _ _ lits K rfl rfl hp hok hl hml hql hcb) ?_; rintro _ w ⟨aa, ac, rfl, hp⟩; refine ops_run nopre rfl ?_; (repeat (refine R_ret ?_))
  exact ⟨aa, ac, rfl, hp⟩
theorem implAddCover_x (x : NetA) (la : Option Addr) (lc : Nat) (lits : List Int) (ca : Option Addr) (cc : Nat) (K : List (Int × Int)) (w0 : World) (hX : NetR w0 x) (hS : NetS x.n) (hW : NetW x.n) (hR : Rd w0 la 1 eI lits) (hL : lits.length ≤ 1048576) (hV : ∀ i, i < lits.length → i64R (lits.getD i default)) (hR2 : Rd w0 ca 2 eII K) (hL2 : K.length ≤ 1048576) (hV2 : ∀ i, i < K.length → i64R (K.getD i default).1 ∧ i64R (K.getD i default).2) :
    Ret Try.prog 40 [x.v, .slice la lits.length lc, .slice ca K.length cc] w0 (fun v w => ∃ y, (y.n = (covF x.n lits K).1 ∧ v = .tuple ⟨[y.v, .int .i64 (covF x.n lits K).2]⟩) ∧ Hp w0 w [rNet y]) := by
  refine enter Try.S40ok _ _ rfl rfl (by show _ ≤ _; simp only [List.length]; decide) (fun C => ?_); have hp := Hp.nil w0; refine h_run rfl ?_; skip; (first | (refine H_box hp ?_; intro w b3 hx hp) | (refine H_alloc hp rfl ?_; intro w b3 hx hp)); refine ops_run nopre rfl ?_; skip; (first | (refine H_box hp ?_; intro w b4 hx hp) | (refine H_alloc hp rfl ?_; intro w b4 hx hp)); refine ops_run nopre rfl ?_; skip; (first | (refine H_box hp ?_; intro w b5 hx hp) | (refine H_alloc hp rfl ?_; intro w b5 hx hp)); refine ops_run nopre rfl ?_; skip; (first | (refine H_box hp ?_; intro w b6 hx hp) | (refine H_alloc hp rfl ?_; intro w b6 hx hp)); refine ops_run nopre rfl ?_; (repeat (refine H_ldB hp rfl rfl ?_))
  refine h_guard_by (fun h1 => ?_) (fun h1 => ?_); all_goals (rw [h1]; (first | replace h1 := of_decide_eq_true h1 | replace h1 := of_decide_eq_false h1 | skip); (repeat (first | (refine gGuard ?_; first | refine h_guard_y rfl nopre rfl ?_ | refine h_guard_n rfl nopre rfl ?_) | (refine gLoad ?_; refine H_ldB hp rfl rfl ?_))))
  · refine h_cond_t rfl rfl ?_; (repeat (refine H_ldB hp rfl rfl ?_))
    refine h_call rfl Try.func112 (by kernel_rfl) rfl (implCopyNet_h x _ hp.net hS) ?_; rintro _ w ⟨z, ⟨hz, rfl⟩, hq⟩; have hx := hq.x; have hp := hp.call1 hq; refine ops_run nopre rfl ?_; (repeat (first | (refine gStore ?_; refine U_stBN hp rfl rfl rfl rfl ?_; intro w hp; refine ops_run nopre rfl ?_) | (refine gRetc ?_; refine R_ret2v hp rfl ?_)))
    rw [covF_no (fun h => by have := h.1.2; omega)]
    exact ⟨z, ⟨hz, rfl⟩, Hp.tk hp 1⟩
  · have hmi : i64R (lits.length : Int) := by unfold i64R; omega
    by_cases hc : coverOkP lits.length K
    · refine h_call rfl Try.func111 (by kernel_rfl) rfl ((implCoverOk_h (lits.length : Int) ca cc _ K rfl _ hmi hp.rd hV2 hL2).tt (coverOkB_yes hc)) ?_; rintro _ w ⟨rfl, hx⟩; have hp := hp.ext hx; refine ops_run nopre rfl ?_; (repeat (refine h_guard_y rfl nopre rfl ?_))
      have h4 := hp.g2
      have h5 := hp.g1
      have hcb : ∀ c, c ∈ K → 0 ≤ c.1 ∧ 0 ≤ c.2 := fun c hm => by have := hc.2.2 c hm; exact ⟨this.2.1.1, this.2.2.1.1⟩
      refine h_cond_f rfl rfl ?_; (repeat (refine H_ldB hp rfl rfl ?_))
      refine h_call rfl Try.func113 (by kernel_rfl) rfl (adding_h x la lc _ lits rfl 114 [.pointer (some ⟨b4, 0, none⟩), .pointer (some ⟨b5, 0, none⟩)] (coverTo x.n lits K K.length) _ Try.func114 (by kernel_rfl) rfl _ hp.net hS hp.rd (by omega) (addCoverC_h x la ca lc cc lits K b4 b5 ⟨h4⟩ ⟨h5⟩ hp.rd hp.rd (by omega) hc.2.1 hcb) (fun h hl => good_cover h hl K _ (Nat.le_refl _))) ?_; rintro _ w ⟨y, ⟨hy, rfl⟩, hq⟩; have hx := hq.x; have hp := hp.call1 hq; refine ops_run nopre rfl ?_; (repeat (first | (refine gStore ?_; refine U_stBN hp rfl rfl rfl rfl ?_; intro w hp; refine ops_run nopre rfl ?_) | (refine gRetc ?_; refine R_ret2v hp rfl ?_)))
      rw [covF_yes hc]
      exact ⟨y, ⟨hy, rfl⟩, Hp.tk hp 1⟩
    · refine h_call rfl Try.func111 (by kernel_rfl) rfl ((implCoverOk_h (lits.length : Int) ca cc _ K rfl _ hmi hp.rd hV2 hL2).ff (coverOkB_no hc)) ?_; rintro _ w ⟨rfl, hx⟩; have hp := hp.ext hx; refine ops_run nopre rfl ?_; (repeat (refine h_guard_y rfl nopre rfl ?_))
      refine h_cond_t rfl rfl ?_; (repeat (refine H_ldB hp rfl rfl ?_))
      refine h_call rfl Try.func112 (by kernel_rfl) rfl (implCopyNet_h x _ hp.net hS) ?_; rintro _ w ⟨z, ⟨hz, rfl⟩, hq⟩; have hx := hq.x; have hp := hp.call1 hq; refine ops_run nopre rfl ?_; (repeat (first | (refine gStore ?_; refine U_stBN hp rfl rfl rfl rfl ?_; intro w hp; refine ops_run nopre rfl ?_) | (refine gRetc ?_; refine R_ret2v hp rfl ?_)))
      rw [covF_no hc]
      exact ⟨z, ⟨hz, rfl⟩, Hp.tk hp 1⟩
end Go.Proofs
