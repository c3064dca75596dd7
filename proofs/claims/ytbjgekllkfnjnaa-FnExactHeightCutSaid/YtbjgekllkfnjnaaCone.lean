/- The contracts of Reached and Cone on both sides; each under its stated conditions. -/
import Derived.Test.YtbjgekllkfnjnaaReach
set_option linter.all false
namespace Go.Proofs
open Go.Xw
set_option maxRecDepth 100000
set_option maxHeartbeats 1000000
attribute [local irreducible] Holds elemAddr
noncomputable def coneF (n : NetL) (k : Int) : List Int := @ite _ (NetOkP n ∧ 0 ≤ k ∧ k < nodesL n) (Classical.propDecidable _) (coneL n k.toNat) []
theorem coneF_yes {n : NetL} {k : Int} (h : NetOkP n ∧ 0 ≤ k ∧ k < nodesL n) : coneF n k = coneL n k.toNat := by unfold coneF; rw [if_pos h]
theorem coneF_no {n : NetL} {k : Int} (h : ¬ (NetOkP n ∧ 0 ≤ k ∧ k < nodesL n)) : coneF n k = [] := by unfold coneF; rw [if_neg h]
theorem coneL_len (n : NetL) (k : Nat) : (coneL n k).length ≤ nds n := by
 unfold coneL markedL
 have := markedTo_len (listB (nds n) (InCone n k)) (listB (nds n) (InCone n k)).length
 rw [listB_len] at this ⊢
 exact this
theorem specCone_x (x : NetA) (k : Int) (w0 : World) (hX : NetR w0 x) (hS : NetS x.n) (hW : NetW x.n) (hK : i64R k) :
  Ret Try.prog 109 [x.v, .int .i64 k] w0 (fun v w => ∃ b c, v = .slice b (coneF x.n k).length c ∧ Hp w0 w [rO 3 1 eI b c (coneF x.n k)]) := by
 refine enter Try.S109ok _ _ rfl rfl (by show _ ≤ _; simp only [List.length]; decide) (fun C => ?_); have hp := Hp.nil w0; refine h_run rfl ?_; skip; (first | refine H_box hp ?_ | refine H_alloc hp rfl ?_); intro w b2 hx hp; refine ops_run nopre rfl ?_; (repeat (first | (refine gLoad ?_; refine H_ldB hp rfl rfl ?_) | (refine gBuild ?_; refine U_litI hp rfl rfl rfl rfl rfl rfl rfl rfl rfl rfl ?_; intro w _ hx hp; refine ops_run nopre rfl ?_)))
 by_cases hok : NetOkP x.n
 ·have n4 := hok.nums.n2
  have hnd := hok.nodes
  have hcnt : nodeCountL x.n = nodesL x.n := if_pos hok.size
  refine h_call rfl Try.func56 (by kernel_rfl) rfl ((specNetOk_h x _ hp.net hS hW).tt (netOkB_yes hok)) ?_; rintro _ w ⟨rfl, hx⟩; have hp := hp.ext hx; refine ops_run nopre rfl ?_; (repeat (refine h_guard_y rfl nopre rfl ?_))
  refine h_guard_by (fun h1 => ?_) (fun h1 => ?_); all_goals (rw [h1]; (first | replace h1 := of_decide_eq_true h1 | replace h1 := of_decide_eq_false h1 | skip); (repeat (first | (refine gGuard ?_; first | refine h_guard_y rfl nopre rfl ?_ | refine h_guard_n rfl nopre rfl ?_) | (refine gLoad ?_; refine H_ldB hp rfl rfl ?_))))
  ·refine h_cond_t rfl rfl ?_; (repeat (refine R_ret ?_))
   rw [coneF_no (fun h => by omega)]
   exact ⟨_, _, rfl, hp.sub (by simp)⟩
  ·refine h_call rfl Try.func13 (by kernel_rfl) rfl (specNodeCount_h x _) ?_; rintro _ w ⟨rfl, hx⟩; have hp := hp.ext hx; refine ops_run nopre rfl ?_; (repeat (refine h_guard_y rfl nopre rfl ?_))
   rw [hcnt]
   refine h_cond_dec (fun h2 => ?_) (fun h2 => ?_)
   ·refine h_cond_t rfl rfl ?_; (repeat (refine R_ret ?_))
    rw [coneF_no (fun h => by omega)]
    exact ⟨_, _, rfl, hp.sub (by simp)⟩
   ·refine h_cond_f rfl rfl ?_; (repeat (refine H_ldB hp rfl rfl ?_))
    obtain ⟨k', rfl⟩ := Int.eq_ofNat_of_zero_le (show 0 ≤ k by omega)
    rw [coneF_yes ⟨hok, by omega, by omega⟩]
    refine h_call rfl Try.func13 (by kernel_rfl) rfl (specNodeCount_h x _) ?_; rintro _ w ⟨rfl, hx⟩; have hp := hp.ext hx; refine ops_run nopre rfl ?_; skip
    rw [hcnt, ← n4]
    have hrl : (List.replicate (nds x.n) false).length = nds x.n := by simp
    refine H_make hp eB false rfl rfl rfl rfl (s := 1) rfl (by decide) rfl (by unfold maxLen; omega) (by show 1 * _ ≤ _; omega) ?_; intro w b6 hx hp; refine ops_run nopre rfl ?_; (repeat (first | (refine gLoad ?_; refine H_ldB hp rfl rfl ?_) | (refine gStore ?_; refine U_st0N hp rfl rfl rfl (by omega) (by decide) rfl rfl ?_; intro w hp; refine ops_run nopre rfl ?_)))
    refine h_call rfl Try.func146 (by kernel_rfl) rfl (l08Mark_h x _ _ ((List.replicate (nds x.n) false).set k' true) _ hp.net hok hp.rd (by simp)) ?_; rintro _ w ⟨b, c, B', rfl, hm, hq⟩; have hx := hq.x; have hp := hp.call1 hq; refine ops_run nopre rfl ?_; skip
    have e : B' = listB (nds x.n) (InCone x.n k') := listB_eq hm.1 fun j hj => by
     have hrep : ∀ i, (List.replicate (nds x.n) false).getD i default = false := fun i => by
      simp only [List.getD_eq_getElem?_getD, List.getElem?_replicate]; split <;> rfl
     rw [hm.2 j hj]
     constructor
     ·rintro ⟨i, h1, h2, h3⟩
      rw [bget_set (by simp; omega), hrep] at h2
      rcases h2 with rfl | h2
      ·exact h3
      ·cases h2
     ·intro h
      exact ⟨k', by omega, (bget_set (by simp; omega)).2 (.inl rfl), h⟩
    subst e
    have hBl := hm.1
    refine h_loop3 [5, 6, 7] (fun (i : Nat) (b5 : Option Addr) (c5 : Nat) => [(5, .slice b5 (markedTo (listB (nds x.n) (InCone x.n k')) i).length c5), (6, .slice b (nds x.n) c), (7, .int .i64 (i : Int))])
     (fun i b5 c5 w' => i ≤ nds x.n ∧ Hp w0 w' [rO 3 1 eI b5 c5 (markedTo (listB (nds x.n) (InCone x.n k')) i), rO 4 1 eB b c (listB (nds x.n) (InCone x.n k'))]) (fun i _ _ => nds x.n - i) 0 _ _ rfl ⟨by omega, (hp.f2.sub (L' := [_, _]) (.cons_cons _ (.cons_cons _ (List.nil_sublist _))))⟩ ?_
    rintro i b5 c5 w1 ⟨hi, hp⟩ IH C
    have hml := markedTo_len (listB (nds x.n) (InCone x.n k')) i
    refine h_run rfl ?_; skip
    refine h_cond_dec (fun hlt => ?_) (fun hlt => ?_)
    ·refine h_cond_t rfl rfl ?_; (repeat (refine H_ldEN hp rfl (by omega) rfl rfl ?_))
     refine h_cond_b (fun hb2 => ?_) (fun hb2 => ?_)
     ·refine h_cond_t rfl rfl ?_; (repeat (refine U_litI hp rfl rfl rfl rfl rfl rfl rfl rfl rfl rfl ?_; intro w _ hx hp; refine ops_run nopre rfl ?_))
      refine U_append hp rfl rfl rfl rfl rfl rfl rfl (by decide) rfl (by first | omega | (simp only [List.length_append, List.length_cons, List.length_nil, List.length_take, List.length_drop, List.length_set, List.length_replicate, List.length_map]; omega)) rfl rfl ?_; intro b' c'' w hp hnil; refine ops_run nopre rfl ?_; skip
      have e : markedTo (listB (nds x.n) (InCone x.n k')) (i + 1) = markedTo (listB (nds x.n) (InCone x.n k')) i ++ [(i : Int)] := by rw [markedTo, if_pos hb2]
      refine IH (i + 1) b' c'' _ _ _ (by omega) (by rw [e]; rfl) ⟨by omega, ?_⟩
      rw [e]
      exact hp.drop
     ·refine h_cond_f rfl rfl ?_; skip
      have e : markedTo (listB (nds x.n) (InCone x.n k')) (i + 1) = markedTo (listB (nds x.n) (InCone x.n k')) i := by rw [markedTo, if_neg (by rw [hb2]; decide)]
      refine IH (i + 1) b5 c5 _ _ _ (by omega) (by rw [e]; rfl) ⟨by omega, ?_⟩
      rw [e]
      exact hp
    ·refine h_cond_f rfl rfl ?_; (repeat (refine R_ret ?_))
     obtain rfl : i = nds x.n := by omega
     have e : coneL x.n ((k' : Int).toNat) = markedTo (listB (nds x.n) (InCone x.n k')) (nds x.n) := by
      show markedL _ = _
      unfold markedL
      rw [listB_len]; rfl
     rw [e]
     exact ⟨b5, c5, rfl, hp.sub (by simp)⟩
 ·refine h_call rfl Try.func56 (by kernel_rfl) rfl ((specNetOk_h x _ hp.net hS hW).ff (netOkB_no hok)) ?_; rintro _ w ⟨rfl, hx⟩; have hp := hp.ext hx; refine ops_run nopre rfl ?_; (repeat (refine h_guard_n rfl nopre rfl ?_))
  refine h_cond_t rfl rfl ?_; (repeat (refine R_ret ?_))
  rw [coneF_no (fun h => hok h.1)]
  exact ⟨_, _, rfl, hp.sub (by simp)⟩
end Go.Proofs
