/- The contracts of the functions that give the literals below a conjunction; each under its stated conditions. -/
import Derived.Test.YtfcafmbcmdeomaaIns
import Derived.Test.YtfcafmbcmdeomaaCone
import Derived.Test.YtfcafmbcmdeomaaConjLaw
set_option linter.all false
namespace Go.Proofs
open Go.Xw
set_option maxRecDepth 100000
set_option maxHeartbeats 1000000
attribute [local irreducible] Holds elemAddr

noncomputable def conjF (n : NetL) (k : Int) : List Int := @ite _ (NetOkP n ∧ firstAndL n ≤ k ∧ k < nodesL n) (Classical.propDecidable _) (conjL n k.toNat) []
theorem conjF_yes {n : NetL} {k : Int} (h : NetOkP n ∧ firstAndL n ≤ k ∧ k < nodesL n) : conjF n k = conjL n k.toNat := by unfold conjF; rw [if_pos h]
theorem conjF_no {n : NetL} {k : Int} (h : ¬ (NetOkP n ∧ firstAndL n ≤ k ∧ k < nodesL n)) : conjF n k = [] := by unfold conjF; rw [if_neg h]
theorem lenConj (n : NetL) (k : Int) : (conjF n k).length < 1000000000 := by
  by_cases h : NetOkP n ∧ firstAndL n ≤ k ∧ k < nodesL n
  · rw [conjF_yes h]
    have := conjL_len n k.toNat
    have := h.1.count
    have := h.1.nums.n2
    omega
  · rw [conjF_no h]; decide
theorem specConjuncts_x (x : NetA) (k : Int) (w0 : World) (hX : NetR w0 x) (hS : NetS x.n) (hW : NetW x.n) (hK : i64R k) :
    Ret Try.prog 136 [x.v, .int .i64 k] w0 (fun v w => ∃ b c, v = .slice b (conjF x.n k).length c ∧ Hp w0 w [rO 3 1 eI b c (conjF x.n k)]) := by
  refine enter Try.S136ok _ _ rfl rfl (by show _ ≤ _; simp only [List.length]; decide) (fun C => ?_); have hp := Hp.nil w0; refine h_run rfl ?_; skip; (first | (refine H_box hp ?_; intro w b2 hx hp) | (refine H_alloc hp rfl ?_; intro w b2 hx hp)); refine ops_run nopre rfl ?_; (repeat (first | (refine gLoad ?_; refine H_ldB hp rfl rfl ?_) | (refine gBuild ?_; refine U_litI hp rfl rfl rfl rfl rfl rfl rfl rfl rfl rfl ?_; intro w _ hx hp; refine ops_run nopre rfl ?_)))
  by_cases hok : NetOkP x.n
  · have hn := hok.nums
    obtain ⟨n1, n2, n3, n4, n5, n6⟩ := hn
    have hn := hok.nums
    have hnd := hok.nodes
    have hal : x.n.ands.length = x.ands.length := rfl
    have hcnt : nodeCountL x.n = nodesL x.n := if_pos hok.size
    refine h_call rfl Try.func62 (by kernel_rfl) rfl ((specNetOk_h x _ hp.net hS hW).tt (netOkB_yes hok)) ?_; rintro _ w ⟨rfl, hx⟩; have hp := hp.ext hx; refine ops_run nopre rfl ?_; (repeat (first | (refine gGuard ?_; refine h_guard_y rfl nopre rfl ?_) | (refine gLoad ?_; refine H_ldB hp rfl rfl ?_)))
    refine h_call rfl Try.func63 (by kernel_rfl) rfl (l08First_h x _ hok.b) ?_; rintro _ w ⟨rfl, hx⟩; have hp := hp.ext hx; refine ops_run nopre rfl ?_; (repeat (refine h_guard_y rfl nopre rfl ?_))
    refine h_guard_by (fun h1 => ?_) (fun h1 => ?_); all_goals (rw [h1]; (first | replace h1 := of_decide_eq_true h1 | replace h1 := of_decide_eq_false h1 | skip); (repeat (first | (refine gGuard ?_; first | refine h_guard_y rfl nopre rfl ?_ | refine h_guard_n rfl nopre rfl ?_) | (refine gLoad ?_; refine H_ldB hp rfl rfl ?_))))
    · refine h_cond_t rfl rfl ?_; (repeat (refine R_ret ?_))
      rw [conjF_no (fun h => by omega)]
      exact ⟨_, _, rfl, hp.sub (by simp)⟩
    · refine h_call rfl Try.func64 (by kernel_rfl) rfl (specNodeCount_h x _) ?_; rintro _ w ⟨rfl, hx⟩; have hp := hp.ext hx; refine ops_run nopre rfl ?_; (repeat (refine h_guard_y rfl nopre rfl ?_))
      rw [hcnt]
      refine h_cond_dec (fun h2 => ?_) (fun h2 => ?_)
      · refine h_cond_t rfl rfl ?_; (repeat (refine R_ret ?_))
        rw [conjF_no (fun h => by omega)]
        exact ⟨_, _, rfl, hp.sub (by simp)⟩
      · obtain ⟨k', rfl⟩ := Int.eq_ofNat_of_zero_le (show 0 ≤ k by omega)
        have hk : k' < nds x.n := by omega
        rw [conjF_yes ⟨hok, by omega, by omega⟩]
        show Holds _ _ (fun v w => ∃ b c, v = .slice b (conjL x.n k').length c ∧ Hp w0 w [rO 3 1 eI b c (conjL x.n k')]) _ _ _
        refine h_cond_f rfl rfl ?_; (repeat (refine H_ldB hp rfl rfl ?_))
        refine h_call rfl Try.func64 (by kernel_rfl) rfl (specNodeCount_h x _) ?_; rintro _ w ⟨rfl, hx⟩; have hp := hp.ext hx; refine ops_run nopre rfl ?_; skip
        rw [hcnt, show 2 * nodesL x.n = ((2 * nds x.n : Nat) : Int) by omega]
        have hrl : (List.replicate (2 * nds x.n) false).length = 2 * nds x.n := by simp
        refine H_make hp eB false rfl rfl rfl rfl (s := 1) rfl (by decide) rfl (by unfold maxLen; omega) (by show 1 * _ ≤ _; omega) ?_; intro w b6 hx hp; refine ops_run nopre rfl ?_; (repeat (refine U_st0 hp rfl rfl rfl (by omega) (by decide) rfl rfl ?_; intro w hp; refine ops_run nopre rfl ?_))
        have hz0 : (2 * (k' : Int)).toNat = 2 * k' := by omega
        rw [hz0] at hp
        refine h_loop4 [2, 5, 6, 7] (fun (K : Nat) (_ : List Bool) (ob : Option Addr) (oc : Nat) => [(2, .pointer (some ⟨b2, 0, none⟩)), (5, .slice ob 0 oc), (6, .slice (some ⟨b6, 0, none⟩) (2 * nds x.n) (2 * nds x.n)), (7, .int .i64 ((K : Int) - 1))])
          (fun K B ob oc w' => (fst_ x.n ≤ K ∧ K ≤ k' + 1) ∧ CTop x.n k' B K ∧ Hp w0 w' [rO 4 1 eB (some ⟨b6, 0, none⟩) (2 * nds x.n) B, rO 3 1 eI ob oc ([] : List Int), rB b2 32 x.cs]) (fun K _ _ _ => K) (k' + 1) ((List.replicate (2 * nds x.n) false).set (2 * k') true) _ _ (by rw [show (((k' + 1 : Nat) : Int)) - 1 = (k' : Int) by omega]; rfl) ⟨by omega, .start hk, hp⟩ ?_
        clear hp
        rintro K B ob oc w1 ⟨⟨hK1, hK2⟩, hT, hp⟩ IH C
        have hBl := hT.len
        refine h_run rfl ?_; (repeat (refine H_ldB hp rfl rfl ?_))
        refine h_call rfl Try.func63 (by kernel_rfl) rfl (l08First_h x _ hok.b) ?_; rintro _ w ⟨rfl, hx⟩; have hp := hp.ext hx; refine ops_run nopre rfl ?_; skip
        refine h_cond_dec (fun hlt => ?_) (fun hlt => ?_)
        · have hz : (2 * ((K : Int) - 1)).toNat = 2 * (K - 1) := by omega
          have hTK : CTop x.n k' B (K - 1 + 1) := by rw [show K - 1 + 1 = K by omega]; exact hT
          have hi : K - 1 - fst_ x.n < x.ands.length := by omega
          have hki : fst_ x.n + (K - 1 - fst_ x.n) = K - 1 := by omega
          have hz3 : ((K : Int) - 1 - firstAndL x.n).toNat = K - 1 - fst_ x.n := by omega
          refine h_cond_t rfl rfl ?_; (repeat (refine H_ldE hp rfl (by omega) (by omega) rfl rfl ?_))
          refine h_cond_b (fun hb => ?_) (fun hb => ?_)
          · rw [hz] at hb
            have Q := hok.and_ hi
            have Q' := Q
            rw [← hz3] at Q'
            obtain ⟨Q1, Q2, Q3, Q4⟩ := Q
            obtain ⟨Q1', Q2', Q3', Q4'⟩ := Q'
            have hTd := CTop.down hok hi (by rw [hki]; exact hTK) (by rw [hki]; exact hb)
            rw [hki] at hTd
            have hl1 : (B.set (2 * ((K : Int) - 1)).toNat false).length = B.length := by simp
            have hl2 : ((B.set (2 * ((K : Int) - 1)).toNat false).set (x.ands.getD ((K : Int) - 1 - firstAndL x.n).toNat default).1.toNat true).length = B.length := by simp
            refine h_cond_t rfl rfl ?_; skip
            refine N_draw hp (by kernel_rfl) (by kernel_rfl) rfl rfl ?_; (repeat (refine N_ldB rfl rfl rfl ?_))
            refine N_call Try.func63 (by kernel_rfl) rfl (fun F w hp => ?_); refine Ret.mono (l08First_h x _ hok.b) ?_; rintro _ w ⟨rfl, hx⟩; have hp := hp.ext hx; refine ⟨fun _ => hp.sub (by (repeat (first | exact List.sublist_append_left _ _ | apply List.Sublist.cons))), _, hp, ?_⟩; clear hp; refine N_ops rfl rfl ?_; (repeat (refine N_ldE rfl (by omega) (by omega) rfl rfl rfl ?_))
            (first | refine N_box ?_ | refine N_alloc rfl ?_); intro b8; refine N_ops rfl rfl ?_; (repeat (refine N_stBN rfl rfl rfl rfl (by kernel_rfl) ?_; refine N_ops rfl rfl ?_))
            refine N_end ?_; intro w hp C; refine h_run rfl ?_; (repeat (first | (refine gLoad ?_; refine H_ldB hp rfl rfl ?_) | (refine gStore ?_; refine U_st0 hp rfl rfl rfl (by omega) (by decide) rfl rfl ?_; intro w hp; refine ops_run nopre rfl ?_)))
            rw [hz3, hz] at hp
            exact IH (K - 1) _ ob oc _ _ _ (by omega) (by rw [show (((K - 1 : Nat) : Int)) - 1 = (K : Int) - 1 - 1 by omega]; rfl) ⟨by omega, hTd, hp.drop⟩
          · rw [hz] at hb
            refine h_cond_f rfl rfl ?_; skip
            exact IH (K - 1) B ob oc _ _ _ (by omega) (by rw [show (((K - 1 : Nat) : Int)) - 1 = (K : Int) - 1 - 1 by omega]; rfl) ⟨by omega, hTK.skip (by rw [hb]; decide), hp⟩
        · have hKe : K = fst_ x.n := by omega
          have hBe := hT.done hok (by omega)
          subst hBe
          clear IH
          refine h_cond_f rfl rfl ?_; skip
          refine h_loop3 [5, 6, 9] (fun (i : Nat) (b5 : Option Addr) (c5 : Nat) => [(5, .slice b5 (markedTo (listB (2 * nds x.n) fun l => CLf x.n (2 * (k' : Int)) (l : Int)) i).length c5), (6, .slice (some ⟨b6, 0, none⟩) (2 * nds x.n) (2 * nds x.n)), (9, .int .i64 (i : Int))])
            (fun i b5 c5 w' => i ≤ 2 * nds x.n ∧ Hp w0 w' [rO 3 1 eI b5 c5 (markedTo (listB (2 * nds x.n) fun l => CLf x.n (2 * (k' : Int)) (l : Int)) i), rO 4 1 eB (some ⟨b6, 0, none⟩) (2 * nds x.n) (listB (2 * nds x.n) fun l => CLf x.n (2 * (k' : Int)) (l : Int))]) (fun i _ _ => 2 * nds x.n - i) 0 ob oc rfl ⟨by omega, Hp.tk hp.f1 2⟩ ?_
          clear hp hBl hT hK1 hK2
          rintro i b5 c5 w1 ⟨hi, hp⟩ IH C
          have hBl := listB_len (2 * nds x.n) fun l => CLf x.n (2 * (k' : Int)) (l : Int)
          have hml := markedTo_len (listB (2 * nds x.n) fun l => CLf x.n (2 * (k' : Int)) (l : Int)) i
          refine h_run rfl ?_; skip
          refine h_cond_dec (fun hlt => ?_) (fun hlt => ?_)
          · refine h_cond_t rfl rfl ?_; (repeat (refine H_ldEN hp rfl (by omega) rfl rfl ?_))
            refine h_cond_b (fun hb2 => ?_) (fun hb2 => ?_)
            · refine h_cond_t rfl rfl ?_; (repeat (refine U_litI hp rfl rfl rfl rfl rfl rfl rfl rfl rfl rfl ?_; intro w _ hx hp; refine ops_run nopre rfl ?_))
              refine U_append hp rfl rfl rfl rfl rfl rfl rfl (by decide) rfl (by first | omega | (simp only [List.length_append, List.length_cons, List.length_nil, List.length_take, List.length_drop, List.length_set, List.length_replicate, List.length_map]; omega)) rfl rfl ?_; intro b' c'' w hp hnil; refine ops_run nopre rfl ?_; skip
              have e : markedTo (listB (2 * nds x.n) fun l => CLf x.n (2 * (k' : Int)) (l : Int)) (i + 1) = markedTo (listB (2 * nds x.n) fun l => CLf x.n (2 * (k' : Int)) (l : Int)) i ++ [(i : Int)] := by rw [markedTo, if_pos hb2]
              refine IH (i + 1) b' c'' _ _ _ (by omega) (by rw [e]; rfl) ⟨by omega, ?_⟩
              rw [e]
              exact hp.drop
            · refine h_cond_f rfl rfl ?_; skip
              have e : markedTo (listB (2 * nds x.n) fun l => CLf x.n (2 * (k' : Int)) (l : Int)) (i + 1) = markedTo (listB (2 * nds x.n) fun l => CLf x.n (2 * (k' : Int)) (l : Int)) i := by rw [markedTo, if_neg (by rw [hb2]; decide)]
              refine IH (i + 1) b5 c5 _ _ _ (by omega) (by rw [e]; rfl) ⟨by omega, ?_⟩
              rw [e]
              exact hp
          · refine h_cond_f rfl rfl ?_; (repeat (refine R_ret ?_))
            obtain rfl : i = 2 * nds x.n := by omega
            have e : conjL x.n k' = markedTo (listB (2 * nds x.n) fun l => CLf x.n (2 * (k' : Int)) (l : Int)) (2 * nds x.n) := by
              unfold conjL markedL
              rw [listB_len]
            rw [e]
            exact ⟨b5, c5, rfl, hp.sub (by simp)⟩
  · refine h_call rfl Try.func62 (by kernel_rfl) rfl ((specNetOk_h x _ hp.net hS hW).ff (netOkB_no hok)) ?_; rintro _ w ⟨rfl, hx⟩; have hp := hp.ext hx; refine ops_run nopre rfl ?_; (repeat (refine h_guard_n rfl nopre rfl ?_))
    refine h_cond_t rfl rfl ?_; (repeat (refine R_ret ?_))
    rw [conjF_no (fun h => hok h.1)]
    exact ⟨_, _, rfl, hp.sub (by simp)⟩
end Go.Proofs
