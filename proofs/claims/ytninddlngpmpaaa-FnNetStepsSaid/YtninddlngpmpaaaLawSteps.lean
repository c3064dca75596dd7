/- The law that a run consists of steps; no condition but the stated ones. -/
import Derived.Test.YtninddlngpmpaaaDrawDeep
import Derived.Test.YtninddlngpmpaaaSimLow
import Derived.Test.YtninddlngpmpaaaRun
set_option linter.all false
namespace Go.Proofs
open Go.Xw
set_option maxRecDepth 100000
set_option maxHeartbeats 4000000
attribute [local irreducible] Holds elemAddr

theorem sameInts_h (a b : Option Addr) (c d : Nat) (X : List Int) (w0 : World) (hA : Rd w0 a 1 eI X) (hB : Rd w0 b 1 eI X) (hl : X.length ≤ 1000000) :
    Ret Try.prog 35 [.slice a X.length c, .slice b X.length d] w0 (fun v w => v = .bool true ∧ Ext w0 w) := by
  refine enter Try.S35ok _ _ rfl rfl (by show _ ≤ _; simp only [List.length]; decide) (fun C => ?_); have hp := Hp.nil w0; refine h_run rfl ?_; skip
  refine h_cond_f (by simp) rfl ?_; skip
  refine h_loop [0, 1, 5] (fun (i : Nat) => [(0, .slice a X.length c), (1, .slice b X.length d), (5, .int .i64 (i : Int))])
    (fun i w' => i ≤ X.length ∧ Hp w0 w' []) (fun i => X.length - i) 0 rfl ⟨by omega, hp⟩ ?_
  rintro i w1 ⟨hi, hp⟩ IH C
  refine h_run rfl ?_; skip
  refine h_cond_dec (fun hlt => ?_) (fun hlt => ?_)
  · have hlt' : i < X.length := by omega
    refine h_cond_t rfl rfl ?_; skip
    refine N_draw hp (by kernel_rfl) (by kernel_rfl) rfl rfl ?_; (repeat (refine N_ldEN rfl (by omega) rfl rfl rfl ?_))
    refine N_end ?_; intro w hp C; refine h_run rfl ?_; skip
    refine h_cond_f (by simp) rfl ?_; skip
    exact IH (i + 1) _ _ _ (by omega) rfl ⟨by omega, hp⟩
  · refine h_cond_f rfl rfl ?_; (repeat (refine R_ret ?_))
    exact ⟨rfl, hp.x⟩
theorem runF_eq {n m : NetL} (hn : NetOkP n) (hm : NetOkP m) {ins : List Int} (hl : ins.length ≤ 16) (h : runL m ins = runL n ins) : runF m ins = runF n ins := by
  rw [runF_yes hn hl, runF_yes hm hl, h]
theorem st_i64 {n : NetL} {st : List Int} (h : stP n st) : ∀ i, i < st.length → i64R (st.getD i default) := fun i hi => by
  have := h.2 i hi
  have h2 : seqMostL (n.seqs.getD i default).kind ≤ 31 := by unfold seqMostL; repeat' split
                                                             all_goals omega
  unfold i64R
  omega
theorem pow_20 {m : Nat} (h : m ≤ 20) : (1 : Int) ≤ 2 ^ m ∧ (2 : Int) ^ m ≤ 1048576 := by
  have h1 : (2 : Int) ^ m ≤ 2 ^ 20 := by
    obtain ⟨d, hd⟩ : ∃ d, 20 = m + d := ⟨20 - m, by omega⟩
    rw [hd, Int.pow_add]
    have h2 : (0 : Int) < 2 ^ m := Int.pow_pos (by decide)
    have h3 : (0 : Int) < 2 ^ d := Int.pow_pos (by decide)
    have h4 := Int.mul_le_mul_of_nonneg_left (show (1 : Int) ≤ 2 ^ d by omega) (show (0 : Int) ≤ 2 ^ m by omega)
    rw [Int.mul_one] at h4
    exact h4
  have h2 : (0 : Int) < 2 ^ m := Int.pow_pos (by decide)
  have h3 : (2 : Int) ^ 20 = 1048576 := by decide
  omega
theorem FnNetSteps_h (w0 : World) (a : Option Addr) (c : Nat) (code : List Int) (hR : Rd w0 a 1 eU8 code) (hM : code.length ≤ maxLen) (hB : AllB code) :
    Ret Try.prog 5 [.slice a code.length c] w0 (fun v w => v = .bool true ∧ Ext w0 w) := by
  have hM' : (code.length : Int) ≤ 9223372036854775807 := by unfold maxLen at hM; omega
  refine enter Try.S5ok _ _ rfl rfl (by show _ ≤ _; simp only [List.length]; decide) (fun C => ?_); have hp := Hp.nil w0; refine h_run rfl ?_; skip
  refine h_call rfl Try.func15 (by kernel_rfl) rfl (big_h a code.length c _) ?_; rintro _ w ⟨rfl, hx⟩; have hp := hp.ext hx; refine ops_run nopre rfl ?_; skip
  refine h_cond_dec (fun hbig => ?_) (fun hbig => ?_)
  · refine h_cond_t rfl rfl ?_; (repeat (refine R_ret ?_))
    exact ⟨rfl, hp.x⟩
  · refine h_cond_f rfl rfl ?_; skip
    refine h_call rfl Try.func28 (by kernel_rfl) rfl (DrawNet_h a c code _ hp.rd hB (by omega)) ?_; rintro _ w ⟨x, ⟨hok, rfl⟩, hq⟩; have hx := hq.x; have hp := hp.call1 hq; refine ops_run nopre rfl ?_; skip
    (first | (refine H_box hp ?_; intro w b3 hx hp) | (refine H_alloc hp rfl ?_; intro w b3 hx hp)); refine ops_run nopre rfl ?_; (repeat (refine U_stBN hp rfl rfl rfl rfl ?_; intro w hp; refine ops_run nopre rfl ?_))
    refine h_call rfl Try.func29 (by kernel_rfl) rfl (DrawMasks_h a c code _ hp.rd hB (by omega)) ?_; rintro _ w ⟨bi, ci, W, ⟨rfl, hWl, hWi⟩, hq⟩; have hx := hq.x; have hp := hp.call1 hq; refine ops_run nopre rfl ?_; (repeat (refine H_ldB hp rfl rfl ?_))
    have hsz := hok.size'
    have hrl : (runF x.n W).length ≤ 1000000 := by rw [runF_yes hok (by omega)]; show (runTo x.n W W.length).length ≤ _; rw [runTo_len]; omega
    have hq := hok.fsq
    have hcn := hok.count
    refine h_call rfl Try.func30 (by kernel_rfl) rfl (implNetRun_x x bi ci W _ (rNet_r (hp.take (rNet x))) hok.S' hok.W hp.rd (by omega) hWi) ?_; rintro _ w ⟨bw, cw, rfl, hq⟩; have hx := hq.x; have hp := hp.call1 hq; refine ops_run nopre rfl ?_; skip
    have hrun : runF x.n W = runL x.n W := runF_yes hok (by omega)
    have hrle : (runF x.n W).length = W.length := by rw [hrun]; exact runTo_len _ _ _
    refine h_cond_f (by rw [hrle]; simp) rfl ?_; (repeat (refine H_ldB hp rfl rfl ?_))
    refine h_call rfl Try.func31 (by kernel_rfl) rfl (implNetStart_x x _ (rNet_r (hp.take (rNet x))) hok.S' hok.W) ?_; rintro _ w ⟨bs, cs, rfl, hq⟩; have hx := hq.x; have hp := hp.call1 hq; refine ops_run nopre rfl ?_; (repeat (refine U_litI hp rfl rfl rfl rfl rfl rfl rfl rfl rfl rfl ?_; intro w _ hx hp; refine ops_run nopre rfl ?_))
    rw [ifOk_yes hok] at hp ⊢
    refine h_loop5 [3, 4, 5, 6, 7, 8] (fun (t : Nat) (bs : Option Addr) (cs : Nat) (bl : Option Addr) (cl : Nat) => [(3, .pointer (some ⟨b3, 0, none⟩)), (4, .slice bi W.length ci), (5, .slice bw (runF x.n W).length cw), (6, .slice bs (stAt x.n W t).length cs), (7, .slice bl ((W.take t).map (lowM x.n)).length cl), (8, .int .i64 (t : Int))])
      (fun t bs cs bl cl w' => t ≤ W.length ∧ Hp w0 w' [rO 3 1 eI bl cl ((W.take t).map (lowM x.n)), rO 3 1 eI bs cs (stAt x.n W t), rO 3 1 eI bw cw (runF x.n W), rO 3 1 eI bi ci W, rB b3 32 x.cs, rNet x]) (fun t _ _ _ _ => W.length - t) 0 bs cs _ _ rfl ⟨by omega, hp⟩ ?_
    clear hp
    rintro t bs cs bl cl w1 ⟨ht, hp⟩ IH C
    have hsp := stAt_stP hok W t
    have hsi := st_i64 hsp
    have hsl : (stAt x.n W t).length ≤ 1048576 := by rw [hsp.1]; have := x.slen; omega
    have hv : NetOkP x.n ∧ stP x.n (stAt x.n W t) := ⟨hok, hsp⟩
    refine h_run rfl ?_; skip
    refine h_cond_dec (fun hlt => ?_) (fun hlt => ?_)
    · have hlt' : t < W.length := by omega
      have hwt := hWi t hlt'
      have hget : (runF x.n W).getD t default = outL x.n (stAt x.n W t) (W.getD t default) := by rw [hrun]; exact runTo_get x.n W hlt'
      have hpw := pow_20 (m := x.inputs.toNat) (by omega)
      have hbk : x.inputs ≤ ((IntKind.i64.bits : Nat) : Int) := by show x.inputs ≤ 64; omega
      refine h_cond_t rfl rfl ?_; (repeat (refine H_ldB hp rfl rfl ?_))
      refine h_call rfl Try.func32 (by kernel_rfl) rfl ((implStateOk_x x bs cs (stAt x.n W t) _ (rNet_r (hp.take (rNet x))) hok.S' hok.W hp.rd hsl hsi).tt (stOkB_yes hv)) ?_; rintro _ w ⟨rfl, hx⟩; have hp := hp.ext hx; refine ops_run nopre rfl ?_; skip
      refine h_cond_f rfl rfl ?_; skip
      refine N_draw hp (by kernel_rfl) (by kernel_rfl) rfl rfl ?_; (repeat (refine nLoad ?_; first | refine N_ldB rfl rfl rfl ?_ | refine N_ldEN rfl (by omega) rfl rfl rfl ?_))
      refine N_call Try.func33 (by kernel_rfl) rfl (fun F w hp => ?_); refine Ret.mono (implNetStep_x x bs cs (stAt x.n W t) (W.getD t default) _ (rNet_r (hp.pre.take (rNet x))) hok.S' hok.W hp.pre.rd hsl hsi hwt) ?_; rintro _ w ⟨bn, cn, rfl, hq⟩; have hp := hp.callF1 hq; refine ⟨fun _ => hp.sub (by (repeat (first | exact List.sublist_append_left _ _ | apply List.Sublist.cons))), _, hp, ?_⟩; clear hp; refine N_ops rfl rfl ?_; skip
      rw [ifSt_yes hv, outF_yes hv]
      refine N_end ?_; intro w hp C; refine h_run rfl ?_; skip
      refine N_draw hp (by kernel_rfl) (by kernel_rfl) rfl rfl ?_; (repeat (refine N_ldEN rfl (by omega) rfl rfl rfl ?_))
      refine N_guard_by (fun h1 => ?_) (fun h1 => ?_); all_goals (rw [h1]; (first | replace h1 := of_decide_eq_true h1 | replace h1 := of_decide_eq_false h1 | skip); (repeat (first | (refine nGuard ?_; first | refine N_guard_y rfl rfl rfl ?_ | refine N_guard_n rfl rfl rfl ?_) | (refine nLoad ?_; first | refine N_ldB rfl rfl rfl ?_ | refine N_ldEN rfl (by omega) rfl rfl rfl ?_))))
      · exact absurd hget.symm h1
      · refine N_call Try.func34 (by kernel_rfl) rfl (fun F w hp => ?_); refine Ret.mono (implNodeValues_x x bs cs (stAt x.n W t) (W.getD t default) _ (rNet_r (hp.pre.take (rNet x))) hok.S' hok.W hp.pre.rd hsl hsi hwt) ?_; rintro _ w ⟨bv, cv, rfl, hq⟩; have hp := hp.callF1 hq; refine ⟨fun _ => hp.sub (by (repeat (first | exact List.sublist_append_left _ _ | apply List.Sublist.cons))), _, hp, ?_⟩; clear hp; refine N_ops rfl rfl ?_; (repeat (first | (refine nGuard ?_; refine N_guard_y rfl rfl rfl ?_) | (refine nLoad ?_; refine N_ldB rfl rfl rfl ?_)))
        rw [ifSt_yes hv]
        refine N_call Try.func22 (by kernel_rfl) rfl (fun F w hp => ?_); refine Ret.mono (nodeCount_N x (nodesL x.n) (if_pos hok.size) _) ?_; rintro _ w ⟨rfl, hx⟩; have hp := hp.ext hx; refine ⟨fun _ => hp.sub (by (repeat (first | exact List.sublist_append_left _ _ | apply List.Sublist.cons))), _, hp, ?_⟩; clear hp; refine N_ops rfl rfl ?_; (repeat (refine N_guard_y rfl rfl rfl ?_))
        refine N_end ?_; intro w hp C; refine h_run rfl ?_; skip
        have hvl : ((valsL x.n (stAt x.n W t) (W.getD t default)).length : Int) = nodesL x.n := by rw [valsL_len]; exact hok.nums.n2
        refine h_cond_f (decide_eq_false (fun h => h hvl)) rfl ?_; skip
        refine N_draw hp (by kernel_rfl) (by kernel_rfl) rfl rfl ?_; (repeat (first | (refine nLoad ?_; first | refine N_ldB rfl rfl rfl ?_ | refine N_ldEN rfl (by omega) rfl rfl rfl ?_) | (refine nBuild ?_; refine N_litI rfl rfl rfl rfl rfl rfl rfl rfl rfl rfl ?_; intro _; refine N_ops rfl rfl ?_)))
        refine N_append rfl rfl rfl rfl rfl rfl rfl (by decide) rfl (by first | omega | (simp only [List.length_append, List.length_cons, List.length_nil, List.length_take, List.length_drop, List.length_set, List.length_replicate, List.length_map]; omega)) rfl rfl (fun hq => Bool.noConfusion (hq.symm.trans (by kernel_rfl : flagAt _ _ = false))) ?_; intro bl' cl' hnil; refine N_ops rfl rfl ?_; skip
        refine N_end ?_; intro w hp C; refine h_run rfl ?_; skip
        have ht1 : (W.take (t + 1)).map (lowM x.n) = (W.take t).map (lowM x.n) ++ [bits .and .i64 (W.getD t default) (1 * 2 ^ x.inputs.toNat - 1)] := by
          rw [take_snoc hlt', List.map_append]; rfl
        refine IH (t + 1) bn cn bl' cl' _ _ _ (by omega) (by rw [ht1]; rfl) ⟨by omega, ?_⟩
        rw [ht1]
        exact hp.drop.drop.f2.drop.f1
    · obtain rfl : t = W.length := by omega
      rw [List.take_length] at hp ⊢
      have hll : (W.map (lowM x.n)).length = W.length := List.length_map ..
      have hli : ∀ i, i < (W.map (lowM x.n)).length → i64R ((W.map (lowM x.n)).getD i default) := fun i hi => by
        rw [List.length_map] at hi
        rw [map_getD hi, lowM_eq hok]
        have hpw := pow_20 (m := x.n.inputs.toNat) (by have := hok.size.1; omega)
        have h1 := Int.emod_nonneg (W.getD i default) (show (2 : Int) ^ x.n.inputs.toNat ≠ 0 by omega)
        have h2 := Int.emod_lt_of_pos (W.getD i default) (show (0 : Int) < 2 ^ x.n.inputs.toNat by omega)
        unfold i64R
        omega
      have hlr : runF x.n (W.map (lowM x.n)) = runF x.n W := by rw [runF_yes hok (by omega), hrun, low_run hok]
      refine h_cond_f rfl rfl ?_; (repeat (refine H_ldB hp rfl rfl ?_))
      refine h_call rfl Try.func30 (by kernel_rfl) rfl (implNetRun_x x bl cl (W.map (lowM x.n)) _ (rNet_r (hp.take (rNet x))) hok.S' hok.W hp.rd (by omega) hli) ?_; rintro _ w ⟨br, cr, rfl, hq⟩; have hx := hq.x; have hp := hp.call1 hq; refine ops_run nopre rfl ?_; skip
      rw [hlr] at hp ⊢
      refine h_call rfl Try.func35 (by kernel_rfl) rfl (sameInts_h br bw cr cw (runF x.n W) _ hp.rd hp.rd hrl) ?_; rintro _ w ⟨rfl, hx⟩; have hp := hp.ext hx; refine ops_run nopre rfl ?_; (repeat (refine R_ret ?_))
      exact ⟨rfl, hp.x⟩
end Go.Proofs
