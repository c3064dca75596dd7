/- Texts that belong together; each under its stated conditions. -/
import Derived.Test.YtifjicajbgoamaaCov
import Derived.Test.YtifjicajbgoamaaGraph4
import Derived.Test.YtifjicajbgoamaaReachLaw
set_option linter.all false
section
/- The contracts of the program's AddCover; each under its stated conditions. -/
namespace Go.Proofs
open Go.Xw
set_option maxRecDepth 100000
set_option maxHeartbeats 4000000
attribute [local irreducible] Holds elemAddr
noncomputable def cubeOkB (m : Int) (c : Int × Int) : Bool := @decide (cubeOkP m c) (Classical.propDecidable _)
theorem cubeOkB_yes {m : Int} {c : Int × Int} (h : cubeOkP m c) : cubeOkB m c = true := by simp [cubeOkB, h]
theorem cubeOkB_no {m : Int} {c : Int × Int} (h : ¬ cubeOkP m c) : cubeOkB m c = false := by simp [cubeOkB, h]
noncomputable def coverOkB (m : Int) (K : List (Int × Int)) : Bool := @decide (coverOkP m K) (Classical.propDecidable _)
theorem coverOkB_yes {m : Int} {K : List (Int × Int)} (h : coverOkP m K) : coverOkB m K = true := by simp [coverOkB, h]
theorem coverOkB_no {m : Int} {K : List (Int × Int)} (h : ¬ coverOkP m K) : coverOkB m K = false := by simp [coverOkB, h]
theorem pow_small {m : Int} (h : 0 ≤ m ∧ m ≤ 4) : (1 : Int) ≤ 2 ^ m.toNat ∧ (2 : Int) ^ m.toNat ≤ 16 := by
  obtain rfl | rfl | rfl | rfl | rfl : m = 0 ∨ m = 1 ∨ m = 2 ∨ m = 3 ∨ m = 4 := by omega
  all_goals decide
theorem implCubeOk_h (m : Int) (c : Int × Int) (w0 : World) (hm : i64R m) (hc : i64R c.1 ∧ i64R c.2) : Ret Try.prog 117 [.int .i64 m, .agg ⟨eII c⟩] w0 (fun v w => v = .bool (cubeOkB m c) ∧ Ext w0 w) := by
  refine enter Try.S117ok _ _ rfl rfl (by show _ ≤ _; simp only [List.length]; decide) (fun C => ?_); have hp := Hp.nil w0; refine h_run rfl ?_; skip; (first | (refine H_box hp ?_; intro w b3 hx hp) | (refine H_alloc hp rfl ?_; intro w b3 hx hp)); refine ops_run nopre rfl ?_; skip
  by_cases h0 : 0 ≤ m ∧ m ≤ 4
  · have h2 := pow_small h0
    have hbk : m ≤ ((IntKind.i64.bits : Nat) : Int) := by show m ≤ 64; omega
    refine h_call rfl Try.func55 (by kernel_rfl) rfl ((inRange_h m 0 4 _).yes h0) ?_; rintro _ w ⟨rfl, hx⟩; have hp := hp.ext hx; refine ops_run nopre rfl ?_; (repeat (first | (refine gGuard ?_; refine h_guard_y rfl nopre rfl ?_) | (refine gLoad ?_; refine H_ldB hp rfl rfl ?_)))
    by_cases h1 : 0 ≤ c.1 ∧ c.1 ≤ 1 * 2 ^ m.toNat - 1
    · refine h_call rfl Try.func55 (by kernel_rfl) rfl ((inRange_h c.1 0 (1 * 2 ^ m.toNat - 1) _).yes h1) ?_; rintro _ w ⟨rfl, hx⟩; have hp := hp.ext hx; refine ops_run nopre rfl ?_; (repeat (first | (refine gGuard ?_; refine h_guard_y rfl nopre rfl ?_) | (refine gLoad ?_; refine H_ldB hp rfl rfl ?_)))
      by_cases h3 : 0 ≤ c.2 ∧ c.2 ≤ 1 * 2 ^ m.toNat - 1
      · refine h_call rfl Try.func55 (by kernel_rfl) rfl ((inRange_h c.2 0 (1 * 2 ^ m.toNat - 1) _).yes h3) ?_; rintro _ w ⟨rfl, hx⟩; have hp := hp.ext hx; refine ops_run nopre rfl ?_; (repeat (first | (refine gGuard ?_; refine h_guard_y rfl nopre rfl ?_) | (refine gLoad ?_; refine H_ldB hp rfl rfl ?_) | refine R_ret ?_))
        refine ⟨?_, hp.x⟩
        by_cases h4 : bits .andNot .i64 c.2 c.1 = 0
        · rw [decide_eq_true h4, cubeOkB_yes ⟨h0, by omega, by omega, h4⟩]
        · rw [decide_eq_false h4, cubeOkB_no (fun h => h4 h.2.2.2)]
      · refine h_call rfl Try.func55 (by kernel_rfl) rfl ((inRange_h c.2 0 (1 * 2 ^ m.toNat - 1) _).no h3) ?_; rintro _ w ⟨rfl, hx⟩; have hp := hp.ext hx; refine ops_run nopre rfl ?_; (repeat (first | (refine gGuard ?_; refine h_guard_n rfl nopre rfl ?_) | refine R_ret ?_))
        exact ⟨by rw [cubeOkB_no (fun h => h3 (by have := h.2.2.1; omega))], hp.x⟩
    · refine h_call rfl Try.func55 (by kernel_rfl) rfl ((inRange_h c.1 0 (1 * 2 ^ m.toNat - 1) _).no h1) ?_; rintro _ w ⟨rfl, hx⟩; have hp := hp.ext hx; refine ops_run nopre rfl ?_; (repeat (first | (refine gGuard ?_; refine h_guard_n rfl nopre rfl ?_) | refine R_ret ?_))
      exact ⟨by rw [cubeOkB_no (fun h => h1 (by have := h.2.1; omega))], hp.x⟩
  · refine h_call rfl Try.func55 (by kernel_rfl) rfl ((inRange_h m 0 4 _).no h0) ?_; rintro _ w ⟨rfl, hx⟩; have hp := hp.ext hx; refine ops_run nopre rfl ?_; (repeat (first | (refine gGuard ?_; refine h_guard_n rfl nopre rfl ?_) | refine R_ret ?_))
    exact ⟨by rw [cubeOkB_no (fun h => h0 h.1)], hp.x⟩
theorem implCoverOk_h (m : Int) (ca : Option Addr) (cc q : Nat) (K : List (Int × Int)) (hq : K.length = q) (w0 : World) (hm : i64R m) (hR : Rd w0 ca 2 eII K) (hK : ∀ i, i < K.length → i64R (K.getD i default).1 ∧ i64R (K.getD i default).2) (hb : q ≤ 1048576) : Ret Try.prog 96 [.int .i64 m, .slice ca q cc] w0 (fun v w => v = .bool (coverOkB m K) ∧ Ext w0 w) := by
  subst hq
  refine enter Try.S96ok _ _ rfl rfl (by show _ ≤ _; simp only [List.length]; decide) (fun C => ?_); have hp := Hp.nil w0; refine h_run rfl ?_; skip
  by_cases h0 : 0 ≤ m ∧ m ≤ 4
  · refine h_call rfl Try.func55 (by kernel_rfl) rfl ((inRange_h m 0 4 _).yes h0) ?_; rintro _ w ⟨rfl, hx⟩; have hp := hp.ext hx; refine ops_run nopre rfl ?_; (repeat (refine h_guard_y rfl nopre rfl ?_))
    refine h_cond_dec (fun h1 => ?_) (fun h1 => ?_)
    · refine h_cond_t rfl rfl ?_; (repeat (refine R_ret ?_))
      exact ⟨by rw [coverOkB_no (fun h => by have := h.2.1; omega)], hp.x⟩
    · refine h_cond_f rfl rfl ?_; skip
      refine h_loop [0, 15, 16, 17] (fun (i : Nat) => [(0, .int .i64 m), (15, .slice ca K.length cc), (16, .int .i64 K.length), (17, .int .i64 (i : Int))])
        (fun i w' => (i ≤ K.length ∧ ∀ c, c ∈ K.take i → cubeOkP m c) ∧ Hp w0 w' []) (fun i => K.length - i) 0 rfl ⟨⟨by omega, fun c hc => by simp at hc⟩, hp⟩ ?_
      clear hp
      rintro i w1 ⟨⟨hi, hall⟩, hp⟩ IH C
      refine h_run rfl ?_; skip
      refine h_cond_dec (fun hlt => ?_) (fun hlt => ?_)
      · have hlt' : i < K.length := by omega
        have hci := hK i hlt'
        have hne : ca ≠ none := nn_of hp (X := K) (by omega)
        refine h_cond_t rfl rfl ?_; (repeat (refine H_ldEN hp rfl (by omega) rfl rfl ?_))
        (first | (refine H_box hp ?_; intro w b6 hx hp) | (refine H_alloc hp rfl ?_; intro w b6 hx hp)); refine ops_run nopre rfl ?_; (repeat (first | (refine gLoad ?_; refine H_ldB hp rfl rfl ?_) | (refine gStore ?_; refine U_stBN hp rfl rfl rfl rfl ?_; intro w hp; refine ops_run nopre rfl ?_)))
        by_cases h2 : cubeOkP m (K.getD i default)
        · refine h_call rfl Try.func117 (by kernel_rfl) rfl ((implCubeOk_h m (K.getD i default) _ hm hci).tt (cubeOkB_yes h2)) ?_; rintro _ w ⟨rfl, hx⟩; have hp := hp.ext hx; refine ops_run nopre rfl ?_; skip
          refine h_cond_f rfl rfl ?_; skip
          refine IH (i + 1) _ _ _ (by omega) rfl ⟨⟨by omega, fun c hc => ?_⟩, hp.drop⟩
          rw [take_snoc hlt'] at hc
          rcases List.mem_append.1 hc with hc | hc
          · exact hall c hc
          · simp only [List.mem_singleton] at hc
            subst hc
            exact h2
        · refine h_call rfl Try.func117 (by kernel_rfl) rfl ((implCubeOk_h m (K.getD i default) _ hm hci).ff (cubeOkB_no h2)) ?_; rintro _ w ⟨rfl, hx⟩; have hp := hp.ext hx; refine ops_run nopre rfl ?_; skip
          refine h_cond_t rfl rfl ?_; (repeat (refine R_ret ?_))
          exact ⟨by rw [coverOkB_no (fun h => h2 (h.2.2 _ (getD_mem hlt')))], Hp.x hp⟩
      · obtain rfl : i = K.length := by omega
        refine h_cond_f rfl rfl ?_; (repeat (refine R_ret ?_))
        rw [List.take_length] at hall
        exact ⟨by rw [coverOkB_yes ⟨h0, by omega, hall⟩], hp.x⟩
  · refine h_call rfl Try.func55 (by kernel_rfl) rfl ((inRange_h m 0 4 _).no h0) ?_; rintro _ w ⟨rfl, hx⟩; have hp := hp.ext hx; refine ops_run nopre rfl ?_; (repeat (refine h_guard_n rfl nopre rfl ?_))
    refine h_cond_t rfl rfl ?_; (repeat (refine R_ret ?_))
    exact ⟨by rw [coverOkB_no (fun h => h0 h.1)], hp.x⟩
end Go.Proofs
end
section
/- The contracts of the functions that mark cones and reached nodes; each under its stated conditions. -/
namespace Go.Proofs
open Go.Xw
set_option maxRecDepth 100000
set_option maxHeartbeats 1000000
attribute [local irreducible] Holds elemAddr

theorem markCone_h (x : NetA) {w0 : World} (hX : NetR w0 x) (hok : NetOkP x.n) (a : Option Addr) (c : Nat) : ∀ (k : Nat), k < nds x.n → ∀ (w : World) (L : List Res) (B : List Bool), Hp w0 w (rO 4 1 eB a c B :: L) → B.length = nds x.n → ClosedTo x.n B k →
    Ret Try.prog 113 [x.v, .int .i64 (k : Int), .slice a (nds x.n) c] w (fun v w' => ∃ B', v = .tuple ⟨[]⟩ ∧ Marked x.n B k B' ∧ Hp w0 w' (rO 4 1 eB a c B' :: L)) := by
  have hn := hok.nums
  obtain ⟨n1, n2, n3, n4, n5, n6⟩ := hn
  have hn := hok.nums
  have hnd := hok.nodes
  have hal : x.n.ands.length = x.ands.length := rfl
  intro k
  induction k using Nat.strongRecOn with
  | _ k ih =>
  intro hk w L B hp hBl hcl
  refine enter Try.S113ok _ _ rfl rfl (by show _ ≤ _; simp only [List.length]; decide) (fun C => ?_); refine h_run rfl ?_
  (first | (refine H_box hp ?_; intro w b3 hx hp) | (refine H_alloc hp rfl ?_; intro w b3 hx hp)); refine ops_run nopre rfl ?_; (repeat (refine H_ldEN hp rfl (by omega) rfl rfl ?_))
  refine h_cond_b (fun hseen => ?_) (fun hseen => ?_)
  · refine h_cond_t rfl rfl ?_; (repeat (refine R_ret ?_))
    refine ⟨B, rfl, ⟨rfl, fun j hj => ⟨.inl, fun h => ?_⟩⟩, hp.drop⟩
    rcases h with h | h
    · exact h
    · exact hcl.cone hn h (Nat.le_refl _) hseen
  · refine h_cond_f rfl rfl ?_; (repeat (first | (refine gLoad ?_; refine H_ldB hp rfl rfl ?_) | (refine gStore ?_; refine U_st0N hp rfl rfl rfl (by omega) (by decide) rfl rfl ?_; intro w hp; refine ops_run nopre rfl ?_)))
    refine h_call rfl Try.func38 (by kernel_rfl) rfl (firstAnd_h x _ hok.b) ?_; rintro _ w ⟨rfl, hx⟩; have hp := hp.ext hx; refine ops_run nopre rfl ?_; skip
    have hset : ∀ j, (B.set k true).getD j default = true ↔ j = k ∨ B.getD j default = true := fun j => bget_set (by omega)
    refine h_cond_dec (fun hge => ?_) (fun hge => ?_)
    · have hi : k - fst_ x.n < x.ands.length := by omega
      have hki : fst_ x.n + (k - fst_ x.n) = k := by omega
      have hz : ((k : Int) - firstAndL x.n).toNat = k - fst_ x.n := by omega
      obtain ⟨q1, q2, q3, q4⟩ := hok.and_ hi
      have Q := hok.and_ hi
      rw [← hz] at Q
      obtain ⟨Q1, Q2, Q3, Q4⟩ := Q
      have ka := n5 _ hi
      have kb := n6 _ hi
      have eA : ((kA x.n (k - fst_ x.n) : Nat) : Int) = (x.ands.getD (k - fst_ x.n) default).1 / 2 := Int.toNat_of_nonneg (show 0 ≤ (x.ands.getD (k - fst_ x.n) default).1 / 2 by omega)
      have eB' : ((kB x.n (k - fst_ x.n) : Nat) : Int) = (x.ands.getD (k - fst_ x.n) default).2 / 2 := Int.toNat_of_nonneg (show 0 ≤ (x.ands.getD (k - fst_ x.n) default).2 / 2 by omega)
      have hcl1 : ClosedTo x.n (B.set k true) (kA x.n (k - fst_ x.n)) := fun j hj hjm hB => by
        rw [hset] at hB
        have h1 := hcl j hj (by omega) (hB.resolve_left (by omega))
        exact ⟨(hset _).2 (.inr h1.1), (hset _).2 (.inr h1.2)⟩
      refine h_cond_t rfl rfl ?_; skip
      refine D_draw hp (by kernel_rfl) (by kernel_rfl) rfl rfl ?_; intro w hx hp; have hs := hp; (repeat (refine gLoad ?_; first | refine D_ldB rfl rfl rfl ?_ | refine D_ldF rfl (by omega) (by omega) rfl rfl rfl ?_))
      refine gCall ?_
      rw [hz, ← eA]
      refine h_callq rfl Try.func113 (by kernel_rfl) rfl (ih (kA x.n (k - fst_ x.n)) (by omega) (by omega) _ _ _ hp.f1 (by simp; omega) hcl1) ?_; rintro _ w ⟨B1, rfl, hm1, hp⟩; refine ⟨fun hq => Bool.noConfusion (hq.symm.trans (by kernel_rfl : flagAt _ _ = false)), ?_⟩; refine D_ops rfl rfl ?_; skip
      have hp := hp.f1
      have hB1l : B1.length = nds x.n := by rw [hm1.len]; simp; omega
      have hcl2 : ClosedTo x.n B1 (kB x.n (k - fst_ x.n)) := by
        refine hm1.closed hn (by simp; omega) fun j hj hjm hB => ?_
        rw [hset] at hB
        have h1 := hcl j hj (by omega) (hB.resolve_left (by omega))
        exact ⟨(hset _).2 (.inr h1.1), (hset _).2 (.inr h1.2)⟩
      refine D_draw hp (by kernel_rfl) (by kernel_rfl) rfl rfl ?_; intro w hx hp; have hs := hp; (repeat (refine gLoad ?_; first | refine D_ldB rfl rfl rfl ?_ | refine D_ldF rfl (by omega) (by omega) rfl rfl rfl ?_))
      refine gCall ?_
      rw [hz, ← eB']
      refine h_callq rfl Try.func113 (by kernel_rfl) rfl (ih (kB x.n (k - fst_ x.n)) (by omega) (by omega) _ _ _ hp.f1 hB1l hcl2) ?_; rintro _ w ⟨B2, rfl, hm2, hp⟩; refine ⟨fun hq => Bool.noConfusion (hq.symm.trans (by kernel_rfl : flagAt _ _ = false)), ?_⟩; refine D_ops rfl rfl ?_; (repeat (refine R_ret ?_))
      refine ⟨B2, rfl, ⟨by rw [hm2.len, hm1.len]; simp, fun j hj => ?_⟩, hp.f1.drop⟩
      rw [hm2.iff j (by omega), hm1.iff j (by simp; omega), hset]
      have h3 := InCone.and_ (n := x.n) (b := j) hi
      rw [hki] at h3
      rw [h3]
      constructor
      · rintro (((h | h) | h) | h)
        · exact .inr (.inl h)
        · exact .inl h
        · exact .inr (.inr (.inl h))
        · exact .inr (.inr (.inr h))
      · rintro (h | h | h | h)
        · exact .inl (.inl (.inr h))
        · exact .inl (.inl (.inl h))
        · exact .inl (.inr h)
        · exact .inr h
    · refine h_cond_f rfl rfl ?_; (repeat (refine R_ret ?_))
      refine ⟨B.set k true, rfl, ⟨by simp, fun j hj => ?_⟩, hp.drop⟩
      rw [hset]
      constructor
      · rintro (rfl | h)
        · exact .inr (.refl _)
        · exact .inl h
      · rintro (h | h)
        · exact .inr h
        · exact .inl (h.leaf (by omega))

theorem implReached_h (x : NetA) (w0 : World) (hX : NetR w0 x) (hok : NetOkP x.n) :
    Ret Try.prog 100 [x.v] w0 (fun v w => ∃ b c, v = .slice b (nds x.n) c ∧ Hp w0 w [rO 4 1 eB b c (reachedL x.n)]) := by
  have hn := hok.nums
  obtain ⟨n1, n2, n3, n4, n5, n6⟩ := hn
  have hn := hok.nums
  have hnd := hok.nodes
  have hrB := rootsB hok
  refine enter Try.S100ok _ _ rfl rfl (by show _ ≤ _; simp only [List.length]; decide) (fun C => ?_); have hp := Hp.nil w0; refine h_run rfl ?_; skip; (first | (refine H_box hp ?_; intro w b1 hx hp) | (refine H_alloc hp rfl ?_; intro w b1 hx hp)); refine ops_run nopre rfl ?_; (repeat (refine H_ldB hp rfl rfl ?_))
  refine h_call rfl Try.func56 (by kernel_rfl) rfl (nodeCount_h x _ hok.b) ?_; rintro _ w ⟨rfl, hx⟩; have hp := hp.ext hx; refine ops_run nopre rfl ?_; skip
  rw [← n4]
  refine H_make hp eB false rfl rfl rfl rfl (s := 1) rfl (by decide) rfl (by unfold maxLen; omega) (by show 1 * _ ≤ _; omega) ?_; intro w b3 hx hp; refine ops_run nopre rfl ?_; (repeat (refine H_ldB hp rfl rfl ?_))
  refine h_call rfl Try.func42 (by kernel_rfl) rfl (implRoots_ok x _ hp.net hok) ?_; rintro _ w ⟨b2, c2, rfl, hq⟩; have hx := hq.x; have hp := hp.call1 hq; refine ops_run nopre rfl ?_; skip
  refine h_loop2 [1, 3, 10, 11, 12] (fun (i : Nat) (_ : List Bool) => [(1, .pointer (some ⟨b1, 0, none⟩)), (3, .slice (some ⟨b3, 0, none⟩) (nds x.n) (nds x.n)), (10, .slice b2 (rootsL x.n).length c2), (11, .int .i64 (rootsL x.n).length), (12, .int .i64 (i : Int))])
    (fun i B w' => i ≤ (rootsL x.n).length ∧ (B.length = nds x.n ∧ ClosedTo x.n B (nds x.n) ∧ ∀ k, k < nds x.n → (B.getD k default = true ↔ ∃ j, j < i ∧ InCone x.n ((rootsL x.n).getD j default / 2).toNat k)) ∧ Hp w0 w' [rO 4 1 eB (some ⟨b3, 0, none⟩) (nds x.n) B, rO 3 1 eI b2 c2 (rootsL x.n), rB b1 28 x.cs]) (fun i _ => (rootsL x.n).length - i) 0 _ rfl ⟨by omega, ⟨by simp, ?_, ?_⟩, hp.f1⟩ ?_
  · intro i hi _ h
    simp [List.getD_eq_getElem?_getD, List.getElem?_replicate] at h
    split at h <;> simp at h
  · intro k hk
    simp [List.getD_eq_getElem?_getD, List.getElem?_replicate, hk]
  rintro i B w1 ⟨hi, ⟨hBl, hcl, hB⟩, hp⟩ IH C
  refine h_run rfl ?_; skip
  refine h_cond_dec (fun hlt => ?_) (fun hlt => ?_)
  · have hlt' : i < (rootsL x.n).length := by omega
    have hr := rootsP hok hlt'
    have eR : ((((rootsL x.n).getD i default / 2).toNat : Nat) : Int) = (rootsL x.n).getD i default / 2 := Int.toNat_of_nonneg (by omega)
    refine h_cond_t rfl rfl ?_; (repeat (refine gLoad ?_; first | refine H_ldB hp rfl rfl ?_ | refine H_ldEN hp rfl (by omega) rfl rfl ?_))
    refine gCall ?_
    rw [← eR]
    refine h_call rfl Try.func113 (by kernel_rfl) rfl (markCone_h x hX hok _ _ ((rootsL x.n).getD i default / 2).toNat (by omega) _ _ _ hp hBl (fun j hj hjm => hcl j hj (by omega))) ?_; rintro _ w ⟨B', rfl, hm, hp⟩; refine ops_run nopre rfl ?_; skip
    refine IH (i + 1) B' _ _ _ (by omega) rfl ⟨by omega, ⟨by rw [hm.len]; exact hBl, hm.closed hn hBl hcl, fun k hk => ?_⟩, hp⟩
    rw [hm.iff k (by omega), hB k hk]
    constructor
    · rintro (⟨j, h1, h2⟩ | h)
      · exact ⟨j, by omega, h2⟩
      · exact ⟨i, by omega, h⟩
    · rintro ⟨j, h1, h2⟩
      by_cases hj : j < i
      · exact .inl ⟨j, hj, h2⟩
      · obtain rfl : j = i := by omega
        exact .inr h2
  · refine h_cond_f rfl rfl ?_; (repeat (refine R_ret ?_))
    obtain rfl : i = (rootsL x.n).length := by omega
    refine ⟨some ⟨b3, 0, none⟩, nds x.n, rfl, ?_⟩
    rw [show B = reachedL x.n from listB_eq hBl hB] at hp
    exact hp.sub (by simp)

end Go.Proofs
end
