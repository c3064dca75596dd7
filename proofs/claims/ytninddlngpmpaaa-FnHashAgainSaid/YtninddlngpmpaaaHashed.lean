/- The contracts of the functions that tell whether a net is hashed; each under its stated conditions. -/
import Derived.Test.YtninddlngpmpaaaReach
set_option linter.all false
namespace Go.Xw
/-- AND node i is not redundant -/
structure HashAt (n : NetL) (i : Nat) : Prop where
  r : isReached n (fst_ n + i)
  lt : (n.ands.getD i default).1 < (n.ands.getD i default).2
  one : 1 < (n.ands.getD i default).1
  ne : ¬ ((n.ands.getD i default).1 % 2 = 0 ∧ (n.ands.getD i default).2 = (n.ands.getD i default).1 + 1)
  un : ∀ k, k < i → n.ands.getD k default ≠ n.ands.getD i default
def hashP (n : NetL) : Prop := NetOkP n ∧ ∀ i, i < n.ands.length → HashAt n i
theorem pB_no {p : Prop} (h : ¬ p) : pB p = false := by simp [pB, h]
theorem pB_yes {p : Prop} (h : p) : pB p = true := by simp [pB, h]
end Go.Xw
namespace Go.Proofs
open Go.Xw
set_option maxRecDepth 100000
set_option maxHeartbeats 1000000
attribute [local irreducible] Holds elemAddr

theorem reachedL_at {n : NetL} {i : Nat} (hn : Nums n) (hi : i < n.ands.length) : (reachedL n).getD (firstAndL n + (i : Int)).toNat default = true ↔ isReached n (fst_ n + i) := by
  have h2 := hn.f2
  have h3 := hn.n1
  rw [show (firstAndL n + (i : Int)).toNat = fst_ n + i by omega]
  exact listB_get (by omega)
theorem reachedL_len (n : NetL) : (reachedL n).length = nds n := listB_len _ _

theorem implIsHashed_x (x : NetA) (w0 : World) (hX : NetR w0 x) (hS : NetS x.n) (hW : NetW x.n) :
    Ret Try.prog 48 [x.v] w0 (fun v w => v = .bool (pB (hashP x.n)) ∧ Ext w0 w) := by
  refine enter Try.S48ok _ _ rfl rfl (by show _ ≤ _; simp only [List.length]; decide) (fun C => ?_); have hp := Hp.nil w0; refine h_run rfl ?_; skip; (first | (refine H_box hp ?_; intro w b1 hx hp) | (refine H_alloc hp rfl ?_; intro w b1 hx hp)); refine ops_run nopre rfl ?_; (repeat (refine H_ldB hp rfl rfl ?_))
  by_cases hok : NetOkP x.n
  · have hn := hok.nums
    obtain ⟨n1, n2, n3, n4, n5, n6⟩ := hn
    have hn := hok.nums
    have hnd := hok.nodes
    have hal : x.n.ands.length = x.ands.length := rfl
    have hrl := reachedL_len x.n
    refine h_call rfl Try.func47 (by kernel_rfl) rfl ((implNetOk_h x _ hp.net hS).tt (netOkB_yes hok)) ?_; rintro _ w ⟨rfl, hx⟩; have hp := hp.ext hx; refine ops_run nopre rfl ?_; skip
    refine h_cond_f rfl rfl ?_; (repeat (refine H_ldB hp rfl rfl ?_))
    refine h_call rfl Try.func103 (by kernel_rfl) rfl (implReached_h x _ hp.net hok) ?_; rintro _ w ⟨b3, c3, rfl, hq⟩; have hx := hq.x; have hp := hp.call1 hq; refine ops_run nopre rfl ?_; (repeat (refine H_ldB hp rfl rfl ?_))
    refine h_loop [1, 3, 14, 15, 16] (fun (i : Nat) => [(1, .pointer (some ⟨b1, 0, none⟩)), (3, .slice b3 (nds x.n) c3), (14, .slice x.aa x.ands.length x.ac), (15, .int .i64 x.ands.length), (16, .int .i64 (i : Int))])
      (fun i w' => i ≤ x.ands.length ∧ (∀ j, j < i → HashAt x.n j) ∧ Hp w0 w' [rO 4 1 eB b3 c3 (reachedL x.n), rB b1 32 x.cs]) (fun i => x.ands.length - i) 0 rfl ⟨by omega, fun j hj => by omega, hp⟩ ?_
    rintro i w1 ⟨hi, hall, hp⟩ IH C
    refine h_run rfl ?_; skip
    refine h_cond_dec (fun hlt => ?_) (fun hlt => ?_)
    · have hlt' : i < x.ands.length := by omega
      obtain ⟨q1, q2, q3, q4⟩ := hok.and_ hlt'
      have hat := reachedL_at hn hlt'
      refine h_cond_t rfl rfl ?_; (repeat (refine H_ldEN hp rfl (by omega) rfl rfl ?_))
      (first | (refine H_box hp ?_; intro w b5 hx hp) | (refine H_alloc hp rfl ?_; intro w b5 hx hp)); refine ops_run nopre rfl ?_; (repeat (first | (refine gLoad ?_; refine H_ldB hp rfl rfl ?_) | (refine gStore ?_; refine U_stBN hp rfl rfl rfl rfl ?_; intro w hp; refine ops_run nopre rfl ?_)))
      refine h_call rfl Try.func102 (by kernel_rfl) rfl (firstAnd_h x _ hok.b) ?_; rintro _ w ⟨rfl, hx⟩; have hp := hp.ext hx; refine ops_run nopre rfl ?_; (repeat (refine H_ldE hp rfl (by omega) (by omega) rfl rfl ?_))
      refine h_guard_by (fun h1 => ?_) (fun h1 => ?_); all_goals (rw [h1]; (first | replace h1 := of_decide_eq_true h1 | replace h1 := of_decide_eq_false h1 | skip); (repeat (first | (refine gGuard ?_; first | refine h_guard_y rfl nopre rfl ?_ | refine h_guard_n rfl nopre rfl ?_) | (refine gLoad ?_; refine H_ldB hp rfl rfl ?_))))
      · have hno : ¬ HashAt x.n i := fun h => by have := hat.2 h.r; rw [this] at h1; cases h1
        refine h_cond_t rfl rfl ?_; (repeat (refine R_ret ?_))
        exact ⟨by rw [pB_no (fun h => hno (h.2 i hlt'))], hp.x⟩
      · have h1 : (reachedL x.n).getD (firstAndL x.n + (i : Int)).toNat default = true := by simpa using h1
        refine h_guard_by (fun h2 => ?_) (fun h2 => ?_); all_goals (rw [h2]; (first | replace h2 := of_decide_eq_true h2 | replace h2 := of_decide_eq_false h2 | skip); (repeat (first | (refine gGuard ?_; first | refine h_guard_y rfl nopre rfl ?_ | refine h_guard_n rfl nopre rfl ?_) | (refine gLoad ?_; refine H_ldB hp rfl rfl ?_))))
        · have hno : ¬ HashAt x.n i := fun h => by have h2' := h.lt; have e : x.n.ands = x.ands := rfl; rw [e] at h2'; omega
          refine h_cond_t rfl rfl ?_; (repeat (refine R_ret ?_))
          exact ⟨by rw [pB_no (fun h => hno (h.2 i hlt'))], hp.x⟩
        · refine h_guard_by (fun h3 => ?_) (fun h3 => ?_); all_goals (rw [h3]; (first | replace h3 := of_decide_eq_true h3 | replace h3 := of_decide_eq_false h3 | skip); (repeat (first | (refine gGuard ?_; first | refine h_guard_y rfl nopre rfl ?_ | refine h_guard_n rfl nopre rfl ?_) | (refine gLoad ?_; refine H_ldB hp rfl rfl ?_))))
          · have hno : ¬ HashAt x.n i := fun h => by have h2' := h.one; have e : x.n.ands = x.ands := rfl; rw [e] at h2'; omega
            refine h_cond_t rfl rfl ?_; (repeat (refine R_ret ?_))
            exact ⟨by rw [pB_no (fun h => hno (h.2 i hlt'))], hp.x⟩
          · refine h_guard_by (fun h4 => ?_) (fun h4 => ?_); all_goals (rw [h4]; (first | replace h4 := of_decide_eq_true h4 | replace h4 := of_decide_eq_false h4 | skip); (repeat (first | (refine gGuard ?_; first | refine h_guard_y rfl nopre rfl ?_ | refine h_guard_n rfl nopre rfl ?_) | (refine gLoad ?_; refine H_ldB hp rfl rfl ?_))))
            · refine h_cond_dec (fun h5 => ?_) (fun h5 => ?_)
              · have hno : ¬ HashAt x.n i := fun h => by have h2' := h.ne; have e : x.n.ands = x.ands := rfl; rw [e] at h2'; omega
                refine h_cond_t rfl rfl ?_; (repeat (refine R_ret ?_))
                exact ⟨by rw [pB_no (fun h => hno (h.2 i hlt'))], hp.x⟩
              · have hsub : Rd w0 (subA x.aa x.ac 2 0) 2 eII (x.ands.take i) := ⟨Sl.takeL hX.ands.h (by omega) hX.cap⟩
                have hcap := hX.cap
                refine h_cond_f rfl rfl ?_; (repeat (refine H_ldB hp rfl rfl ?_))
                refine h_loop [1, 3, 5, 14, 15, 16, 58, 59, 60] (fun (k : Nat) => [(1, .pointer (some ⟨b1, 0, none⟩)), (3, .slice b3 (nds x.n) c3), (5, .pointer (some ⟨b5, 0, none⟩)), (14, .slice x.aa x.ands.length x.ac), (15, .int .i64 x.ands.length), (16, .int .i64 (i : Int)), (58, .slice (subA x.aa x.ac 2 0) i x.ac), (59, .int .i64 (i : Int)), (60, .int .i64 (k : Int))])
                  (fun k w' => k ≤ i ∧ (∀ j, j < k → x.ands.getD j default ≠ x.ands.getD i default) ∧ Hp w0 w' [rB b5 94 (eII (x.ands.getD i default)), rO 4 1 eB b3 c3 (reachedL x.n), rB b1 32 x.cs]) (fun k => i - k) 0 rfl ⟨by omega, fun j hj => by omega, hp⟩ ?_
                rintro k w2 ⟨hk, hne, hp⟩ IH2 C
                have htl : (x.ands.take i).length = i := by simp; omega
                have htk : k < i → (x.ands.take i).getD k default = x.ands.getD k default := fun h => by simp [List.getD_eq_getElem?_getD, List.getElem?_take, h]
                refine h_run rfl ?_; skip
                refine h_cond_dec (fun hlt2 => ?_) (fun hlt2 => ?_)
                · have hlt2' : k < i := by omega
                  have htk := htk hlt2'
                  refine h_cond_t rfl rfl ?_; (repeat (refine H_ldEN hp rfl (by omega) rfl rfl ?_))
                  (first | (refine H_box hp ?_; intro w b7 hx hp) | (refine H_alloc hp rfl ?_; intro w b7 hx hp)); refine ops_run nopre rfl ?_; (repeat (first | (refine gLoad ?_; refine H_ldB hp rfl rfl ?_) | (refine gStore ?_; refine U_stBN hp rfl rfl rfl rfl ?_; intro w hp; refine ops_run nopre rfl ?_)))
                  refine h_cond_b (fun he => ?_) (fun he => ?_)
                  · have he : x.ands.getD k default = x.ands.getD i default := by
                      have h2 : x.ands.getD i default = (x.ands.take i).getD k default := by
                        simp only [Bool.and_true, Bool.and_eq_true, decide_eq_true_eq] at he
                        first | exact Prod.ext he.1 he.2 | exact Prod.ext he.1.symm he.2.symm
                      rw [h2, htk]
                    have hno : ¬ HashAt x.n i := fun h => h.un k hlt2' he
                    refine h_cond_t rfl rfl ?_; (repeat (refine R_ret ?_))
                    exact ⟨by rw [pB_no (fun h => hno (h.2 i hlt'))], hp.x⟩
                  · have he : x.ands.getD k default ≠ x.ands.getD i default := fun h2 => by
                      rw [← htk] at h2
                      simp only [Bool.and_true, Bool.and_eq_false_iff, decide_eq_false_iff_not] at he
                      rcases he with he | he <;> exact he (by rw [h2])
                    refine h_cond_f rfl rfl ?_; skip
                    refine IH2 (k + 1) _ _ _ (by omega) rfl ⟨by omega, fun j hj => ?_, hp.drop⟩
                    by_cases hj2 : j < k
                    · exact hne j hj2
                    · obtain rfl : j = k := by omega
                      exact he
                · refine h_cond_f rfl rfl ?_; skip
                  obtain rfl : k = i := by omega
                  refine IH (k + 1) _ _ _ (by omega) rfl ⟨by omega, fun j hj => ?_, hp.drop⟩
                  by_cases hj2 : j < k
                  · exact hall j hj2
                  · obtain rfl : j = k := by omega
                    exact ⟨hat.1 h1, by show (x.ands.getD j default).1 < (x.ands.getD j default).2; omega, by show 1 < (x.ands.getD j default).1; omega, by show ¬ ((x.ands.getD j default).1 % 2 = 0 ∧ (x.ands.getD j default).2 = (x.ands.getD j default).1 + 1); omega, hne⟩
            · have hsub : Rd w0 (subA x.aa x.ac 2 0) 2 eII (x.ands.take i) := ⟨Sl.takeL hX.ands.h (by omega) hX.cap⟩
              have hcap := hX.cap
              refine h_cond_f rfl rfl ?_; (repeat (refine H_ldB hp rfl rfl ?_))
              refine h_loop [1, 3, 5, 14, 15, 16, 58, 59, 60] (fun (k : Nat) => [(1, .pointer (some ⟨b1, 0, none⟩)), (3, .slice b3 (nds x.n) c3), (5, .pointer (some ⟨b5, 0, none⟩)), (14, .slice x.aa x.ands.length x.ac), (15, .int .i64 x.ands.length), (16, .int .i64 (i : Int)), (58, .slice (subA x.aa x.ac 2 0) i x.ac), (59, .int .i64 (i : Int)), (60, .int .i64 (k : Int))])
                (fun k w' => k ≤ i ∧ (∀ j, j < k → x.ands.getD j default ≠ x.ands.getD i default) ∧ Hp w0 w' [rB b5 94 (eII (x.ands.getD i default)), rO 4 1 eB b3 c3 (reachedL x.n), rB b1 32 x.cs]) (fun k => i - k) 0 rfl ⟨by omega, fun j hj => by omega, hp⟩ ?_
              rintro k w2 ⟨hk, hne, hp⟩ IH2 C
              have htl : (x.ands.take i).length = i := by simp; omega
              have htk : k < i → (x.ands.take i).getD k default = x.ands.getD k default := fun h => by simp [List.getD_eq_getElem?_getD, List.getElem?_take, h]
              refine h_run rfl ?_; skip
              refine h_cond_dec (fun hlt2 => ?_) (fun hlt2 => ?_)
              · have hlt2' : k < i := by omega
                have htk := htk hlt2'
                refine h_cond_t rfl rfl ?_; (repeat (refine H_ldEN hp rfl (by omega) rfl rfl ?_))
                (first | (refine H_box hp ?_; intro w b7 hx hp) | (refine H_alloc hp rfl ?_; intro w b7 hx hp)); refine ops_run nopre rfl ?_; (repeat (first | (refine gLoad ?_; refine H_ldB hp rfl rfl ?_) | (refine gStore ?_; refine U_stBN hp rfl rfl rfl rfl ?_; intro w hp; refine ops_run nopre rfl ?_)))
                refine h_cond_b (fun he => ?_) (fun he => ?_)
                · have he : x.ands.getD k default = x.ands.getD i default := by
                    have h2 : x.ands.getD i default = (x.ands.take i).getD k default := by
                      simp only [Bool.and_true, Bool.and_eq_true, decide_eq_true_eq] at he
                      first | exact Prod.ext he.1 he.2 | exact Prod.ext he.1.symm he.2.symm
                    rw [h2, htk]
                  have hno : ¬ HashAt x.n i := fun h => h.un k hlt2' he
                  refine h_cond_t rfl rfl ?_; (repeat (refine R_ret ?_))
                  exact ⟨by rw [pB_no (fun h => hno (h.2 i hlt'))], hp.x⟩
                · have he : x.ands.getD k default ≠ x.ands.getD i default := fun h2 => by
                    rw [← htk] at h2
                    simp only [Bool.and_true, Bool.and_eq_false_iff, decide_eq_false_iff_not] at he
                    rcases he with he | he <;> exact he (by rw [h2])
                  refine h_cond_f rfl rfl ?_; skip
                  refine IH2 (k + 1) _ _ _ (by omega) rfl ⟨by omega, fun j hj => ?_, hp.drop⟩
                  by_cases hj2 : j < k
                  · exact hne j hj2
                  · obtain rfl : j = k := by omega
                    exact he
              · refine h_cond_f rfl rfl ?_; skip
                obtain rfl : k = i := by omega
                refine IH (k + 1) _ _ _ (by omega) rfl ⟨by omega, fun j hj => ?_, hp.drop⟩
                by_cases hj2 : j < k
                · exact hall j hj2
                · obtain rfl : j = k := by omega
                  exact ⟨hat.1 h1, by show (x.ands.getD j default).1 < (x.ands.getD j default).2; omega, by show 1 < (x.ands.getD j default).1; omega, by show ¬ ((x.ands.getD j default).1 % 2 = 0 ∧ (x.ands.getD j default).2 = (x.ands.getD j default).1 + 1); omega, hne⟩
    · refine h_cond_f rfl rfl ?_; (repeat (refine R_ret ?_))
      obtain rfl : i = x.ands.length := by omega
      exact ⟨by rw [pB_yes ⟨hok, hall⟩], hp.x⟩
  · refine h_call rfl Try.func47 (by kernel_rfl) rfl ((implNetOk_h x _ hp.net hS).ff (netOkB_no hok)) ?_; rintro _ w ⟨rfl, hx⟩; have hp := hp.ext hx; refine ops_run nopre rfl ?_; skip
    refine h_cond_t rfl rfl ?_; (repeat (refine R_ret ?_))
    exact ⟨by rw [pB_no (fun h => hok h.1)], hp.x⟩
theorem specIsHashed_x (x : NetA) (w0 : World) (hX : NetR w0 x) (hS : NetS x.n) (hW : NetW x.n) :
    Ret Try.prog 62 [x.v] w0 (fun v w => v = .bool (pB (hashP x.n)) ∧ Ext w0 w) := by
  refine enter Try.S62ok _ _ rfl rfl (by show _ ≤ _; simp only [List.length]; decide) (fun C => ?_); have hp := Hp.nil w0; refine h_run rfl ?_; skip; (first | (refine H_box hp ?_; intro w b1 hx hp) | (refine H_alloc hp rfl ?_; intro w b1 hx hp)); refine ops_run nopre rfl ?_; (repeat (refine H_ldB hp rfl rfl ?_))
  by_cases hok : NetOkP x.n
  · have hn := hok.nums
    obtain ⟨n1, n2, n3, n4, n5, n6⟩ := hn
    have hn := hok.nums
    have hnd := hok.nodes
    have hal : x.n.ands.length = x.ands.length := rfl
    have hrl := reachedL_len x.n
    refine h_call rfl Try.func91 (by kernel_rfl) rfl ((specNetOk_h x _ hp.net hS hW).tt (netOkB_yes hok)) ?_; rintro _ w ⟨rfl, hx⟩; have hp := hp.ext hx; refine ops_run nopre rfl ?_; skip
    refine h_cond_f rfl rfl ?_; (repeat (refine H_ldB hp rfl rfl ?_))
    refine h_call rfl Try.func113 (by kernel_rfl) rfl (specReached_h x _ hp.net hS hW hok) ?_; rintro _ w ⟨b3, c3, rfl, hq⟩; have hx := hq.x; have hp := hp.call1 hq; refine ops_run nopre rfl ?_; skip
    refine h_loop [1, 3, 4] (fun (i : Nat) => [(1, .pointer (some ⟨b1, 0, none⟩)), (3, .slice b3 (nds x.n) c3), (4, .int .i64 (i : Int))])
      (fun i w' => i ≤ x.ands.length ∧ (∀ j, j < i → HashAt x.n j) ∧ Hp w0 w' [rO 4 1 eB b3 c3 (reachedL x.n), rB b1 32 x.cs]) (fun i => x.ands.length - i) 0 rfl ⟨by omega, fun j hj => by omega, hp⟩ ?_
    rintro i w1 ⟨hi, hall, hp⟩ IH C
    refine h_run rfl ?_; (repeat (refine H_ldB hp rfl rfl ?_))
    refine h_cond_dec (fun hlt => ?_) (fun hlt => ?_)
    · have hlt' : i < x.ands.length := by omega
      obtain ⟨q1, q2, q3, q4⟩ := hok.and_ hlt'
      have hat := reachedL_at hn hlt'
      refine h_cond_t rfl rfl ?_; (repeat (refine gLoad ?_; first | refine H_ldB hp rfl rfl ?_ | refine H_ldEN hp rfl (by omega) rfl rfl ?_))
      (first | (refine H_box hp ?_; intro w b5 hx hp) | (refine H_alloc hp rfl ?_; intro w b5 hx hp)); refine ops_run nopre rfl ?_; (repeat (first | (refine gLoad ?_; refine H_ldB hp rfl rfl ?_) | (refine gStore ?_; refine U_stBN hp rfl rfl rfl rfl ?_; intro w hp; refine ops_run nopre rfl ?_)))
      refine h_call rfl Try.func112 (by kernel_rfl) rfl (l08First_h x _ hok.b) ?_; rintro _ w ⟨rfl, hx⟩; have hp := hp.ext hx; refine ops_run nopre rfl ?_; (repeat (refine H_ldE hp rfl (by omega) (by omega) rfl rfl ?_))
      refine h_guard_by (fun h1 => ?_) (fun h1 => ?_); all_goals (rw [h1]; (first | replace h1 := of_decide_eq_true h1 | replace h1 := of_decide_eq_false h1 | skip); (repeat (first | (refine gGuard ?_; first | refine h_guard_y rfl nopre rfl ?_ | refine h_guard_n rfl nopre rfl ?_) | (refine gLoad ?_; refine H_ldB hp rfl rfl ?_))))
      · have hno : ¬ HashAt x.n i := fun h => by have := hat.2 h.r; rw [this] at h1; cases h1
        refine h_cond_t rfl rfl ?_; (repeat (refine R_ret ?_))
        exact ⟨by rw [pB_no (fun h => hno (h.2 i hlt'))], hp.x⟩
      · have h1 : (reachedL x.n).getD (firstAndL x.n + (i : Int)).toNat default = true := by simpa using h1
        refine h_guard_by (fun h2 => ?_) (fun h2 => ?_); all_goals (rw [h2]; (first | replace h2 := of_decide_eq_true h2 | replace h2 := of_decide_eq_false h2 | skip); (repeat (first | (refine gGuard ?_; first | refine h_guard_y rfl nopre rfl ?_ | refine h_guard_n rfl nopre rfl ?_) | (refine gLoad ?_; refine H_ldB hp rfl rfl ?_))))
        · have hno : ¬ HashAt x.n i := fun h => by have h2' := h.lt; have e : x.n.ands = x.ands := rfl; rw [e] at h2'; omega
          refine h_cond_t rfl rfl ?_; (repeat (refine R_ret ?_))
          exact ⟨by rw [pB_no (fun h => hno (h.2 i hlt'))], hp.x⟩
        · refine h_guard_by (fun h3 => ?_) (fun h3 => ?_); all_goals (rw [h3]; (first | replace h3 := of_decide_eq_true h3 | replace h3 := of_decide_eq_false h3 | skip); (repeat (first | (refine gGuard ?_; first | refine h_guard_y rfl nopre rfl ?_ | refine h_guard_n rfl nopre rfl ?_) | (refine gLoad ?_; refine H_ldB hp rfl rfl ?_))))
          · have hno : ¬ HashAt x.n i := fun h => by have h2' := h.one; have e : x.n.ands = x.ands := rfl; rw [e] at h2'; omega
            refine h_cond_t rfl rfl ?_; (repeat (refine R_ret ?_))
            exact ⟨by rw [pB_no (fun h => hno (h.2 i hlt'))], hp.x⟩
          · refine h_guard_by (fun h4 => ?_) (fun h4 => ?_); all_goals (rw [h4]; (first | replace h4 := of_decide_eq_true h4 | replace h4 := of_decide_eq_false h4 | skip); (repeat (first | (refine gGuard ?_; first | refine h_guard_y rfl nopre rfl ?_ | refine h_guard_n rfl nopre rfl ?_) | (refine gLoad ?_; refine H_ldB hp rfl rfl ?_))))
            · refine h_cond_dec (fun h5 => ?_) (fun h5 => ?_)
              · have hno : ¬ HashAt x.n i := fun h => by have h2' := h.ne; have e : x.n.ands = x.ands := rfl; rw [e] at h2'; omega
                refine h_cond_t rfl rfl ?_; (repeat (refine R_ret ?_))
                exact ⟨by rw [pB_no (fun h => hno (h.2 i hlt'))], hp.x⟩
              · refine h_cond_f rfl rfl ?_; skip
                refine h_loop [1, 3, 4, 5, 6] (fun (k : Nat) => [(1, .pointer (some ⟨b1, 0, none⟩)), (3, .slice b3 (nds x.n) c3), (4, .int .i64 (i : Int)), (5, .pointer (some ⟨b5, 0, none⟩)), (6, .int .i64 (k : Int))])
                  (fun k w' => k ≤ i ∧ (∀ j, j < k → x.ands.getD j default ≠ x.ands.getD i default) ∧ Hp w0 w' [rB b5 94 (eII (x.ands.getD i default)), rO 4 1 eB b3 c3 (reachedL x.n), rB b1 32 x.cs]) (fun k => i - k) 0 rfl ⟨by omega, fun j hj => by omega, hp⟩ ?_
                rintro k w2 ⟨hk, hne, hp⟩ IH2 C
                refine h_run rfl ?_; skip
                refine h_cond_dec (fun hlt2 => ?_) (fun hlt2 => ?_)
                · have hlt2' : k < i := by omega
                  refine h_cond_t rfl rfl ?_; skip
                  refine D_draw hp (by kernel_rfl) (by kernel_rfl) rfl rfl ?_; intro w hx hp; have hs := hp; (repeat (refine gLoad ?_; first | refine D_ldB rfl rfl rfl ?_ | refine D_ldEN rfl (by omega) rfl rfl rfl ?_))
                  refine h_cond_b (fun he => ?_) (fun he => ?_)
                  · have he : x.ands.getD k default = x.ands.getD i default := by
                      simp only [Bool.and_true, Bool.and_eq_true, decide_eq_true_eq] at he
                      first | exact Prod.ext he.1 he.2 | exact Prod.ext he.1.symm he.2.symm
                    have hno : ¬ HashAt x.n i := fun h => h.un k hlt2' he
                    refine h_cond_t rfl rfl ?_; (repeat (refine R_ret ?_))
                    exact ⟨by rw [pB_no (fun h => hno (h.2 i hlt'))], hp.x⟩
                  · have he : x.ands.getD k default ≠ x.ands.getD i default := fun h2 => by
                      simp only [Bool.and_true, Bool.and_eq_false_iff, decide_eq_false_iff_not] at he
                      rcases he with he | he <;> exact he (by rw [h2])
                    refine h_cond_f rfl rfl ?_; skip
                    refine IH2 (k + 1) _ _ _ (by omega) rfl ⟨by omega, fun j hj => ?_, hp⟩
                    by_cases hj2 : j < k
                    · exact hne j hj2
                    · obtain rfl : j = k := by omega
                      exact he
                · refine h_cond_f rfl rfl ?_; skip
                  obtain rfl : k = i := by omega
                  refine IH (k + 1) _ _ _ (by omega) rfl ⟨by omega, fun j hj => ?_, hp.drop⟩
                  by_cases hj2 : j < k
                  · exact hall j hj2
                  · obtain rfl : j = k := by omega
                    exact ⟨hat.1 h1, by show (x.ands.getD j default).1 < (x.ands.getD j default).2; omega, by show 1 < (x.ands.getD j default).1; omega, by show ¬ ((x.ands.getD j default).1 % 2 = 0 ∧ (x.ands.getD j default).2 = (x.ands.getD j default).1 + 1); omega, hne⟩
            · refine h_cond_f rfl rfl ?_; skip
              refine h_loop [1, 3, 4, 5, 6] (fun (k : Nat) => [(1, .pointer (some ⟨b1, 0, none⟩)), (3, .slice b3 (nds x.n) c3), (4, .int .i64 (i : Int)), (5, .pointer (some ⟨b5, 0, none⟩)), (6, .int .i64 (k : Int))])
                (fun k w' => k ≤ i ∧ (∀ j, j < k → x.ands.getD j default ≠ x.ands.getD i default) ∧ Hp w0 w' [rB b5 94 (eII (x.ands.getD i default)), rO 4 1 eB b3 c3 (reachedL x.n), rB b1 32 x.cs]) (fun k => i - k) 0 rfl ⟨by omega, fun j hj => by omega, hp⟩ ?_
              rintro k w2 ⟨hk, hne, hp⟩ IH2 C
              refine h_run rfl ?_; skip
              refine h_cond_dec (fun hlt2 => ?_) (fun hlt2 => ?_)
              · have hlt2' : k < i := by omega
                refine h_cond_t rfl rfl ?_; skip
                refine D_draw hp (by kernel_rfl) (by kernel_rfl) rfl rfl ?_; intro w hx hp; have hs := hp; (repeat (refine gLoad ?_; first | refine D_ldB rfl rfl rfl ?_ | refine D_ldEN rfl (by omega) rfl rfl rfl ?_))
                refine h_cond_b (fun he => ?_) (fun he => ?_)
                · have he : x.ands.getD k default = x.ands.getD i default := by
                    simp only [Bool.and_true, Bool.and_eq_true, decide_eq_true_eq] at he
                    first | exact Prod.ext he.1 he.2 | exact Prod.ext he.1.symm he.2.symm
                  have hno : ¬ HashAt x.n i := fun h => h.un k hlt2' he
                  refine h_cond_t rfl rfl ?_; (repeat (refine R_ret ?_))
                  exact ⟨by rw [pB_no (fun h => hno (h.2 i hlt'))], hp.x⟩
                · have he : x.ands.getD k default ≠ x.ands.getD i default := fun h2 => by
                    simp only [Bool.and_true, Bool.and_eq_false_iff, decide_eq_false_iff_not] at he
                    rcases he with he | he <;> exact he (by rw [h2])
                  refine h_cond_f rfl rfl ?_; skip
                  refine IH2 (k + 1) _ _ _ (by omega) rfl ⟨by omega, fun j hj => ?_, hp⟩
                  by_cases hj2 : j < k
                  · exact hne j hj2
                  · obtain rfl : j = k := by omega
                    exact he
              · refine h_cond_f rfl rfl ?_; skip
                obtain rfl : k = i := by omega
                refine IH (k + 1) _ _ _ (by omega) rfl ⟨by omega, fun j hj => ?_, hp.drop⟩
                by_cases hj2 : j < k
                · exact hall j hj2
                · obtain rfl : j = k := by omega
                  exact ⟨hat.1 h1, by show (x.ands.getD j default).1 < (x.ands.getD j default).2; omega, by show 1 < (x.ands.getD j default).1; omega, by show ¬ ((x.ands.getD j default).1 % 2 = 0 ∧ (x.ands.getD j default).2 = (x.ands.getD j default).1 + 1); omega, hne⟩
    · refine h_cond_f rfl rfl ?_; (repeat (refine R_ret ?_))
      obtain rfl : i = x.ands.length := by omega
      exact ⟨by rw [pB_yes ⟨hok, hall⟩], hp.x⟩
  · refine h_call rfl Try.func91 (by kernel_rfl) rfl ((specNetOk_h x _ hp.net hS hW).ff (netOkB_no hok)) ?_; rintro _ w ⟨rfl, hx⟩; have hp := hp.ext hx; refine ops_run nopre rfl ?_; skip
    refine h_cond_t rfl rfl ?_; (repeat (refine R_ret ?_))
    exact ⟨by rw [pB_no (fun h => hok h.1)], hp.x⟩
end Go.Proofs
