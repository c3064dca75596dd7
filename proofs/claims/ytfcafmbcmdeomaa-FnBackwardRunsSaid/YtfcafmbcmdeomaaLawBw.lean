/- The laws that retiming keeps the runs of a drawn net; no condition but the stated ones. -/
import Derived.Test.YtfcafmbcmdeomaaDrawNet
import Derived.Test.YtfcafmbcmdeomaaSimRetB
import Derived.Test.YtfcafmbcmdeomaaRun
import Derived.Test.YtfcafmbcmdeomaaRetV
import Derived.Test.YtfcafmbcmdeomaaRetB
set_option linter.all false
namespace Go.Proofs
open Go.Xw
set_option maxRecDepth 100000
set_option maxHeartbeats 4000000
attribute [local irreducible] Holds elemAddr

theorem sameInts_h (a b : Option Addr) (c d : Nat) (X : List Int) (w0 : World) (hA : Rd w0 a 1 eI X) (hB : Rd w0 b 1 eI X) (hl : X.length ≤ 1000000) :
    Ret Try.prog 28 [.slice a X.length c, .slice b X.length d] w0 (fun v w => v = .bool true ∧ Ext w0 w) := by
  refine enter Try.S28ok _ _ rfl rfl (by show _ ≤ _; simp only [List.length]; decide) (fun C => ?_); have hp := Hp.nil w0; refine h_run rfl ?_; skip
  refine h_cond_f (by simp) rfl ?_; skip
  refine h_loop [0, 1, 5] (fun (i : Nat) => [(0, .slice a X.length c), (1, .slice b X.length d), (5, .int .i64 (i : Int))])
    (fun i w' => i ≤ X.length ∧ Hp w0 w' []) (fun i => X.length - i) 0 rfl ⟨by omega, hp⟩ ?_
  rintro i w1 ⟨hi, hp⟩ IH C
  refine h_run rfl ?_; skip
  refine h_cond_dec (fun hlt => ?_) (fun hlt => ?_)
  · have hlt' : i < X.length := by omega
    refine h_cond_t rfl rfl ?_; skip
    refine N_draw hp (by kernel_rfl) (by kernel_rfl) rfl rfl ?_; (repeat (refine N_ldEN rfl (by omega) rfl rfl rfl ?_))
    refine N_end ?_; intro w hp C; refine h_run rfl ?_; skip
    refine h_cond_f (by simp) rfl ?_; skip
    exact IH (i + 1) _ _ _ (by omega) rfl ⟨by omega, hp⟩
  · refine h_cond_f rfl rfl ?_; (repeat (refine R_ret ?_))
    exact ⟨rfl, hp.x⟩
theorem runF_eq {n m : NetL} (hn : NetOkP n) (hm : NetOkP m) {ins : List Int} (hl : ins.length ≤ 16) (h : runL m ins = runL n ins) : runF m ins = runF n ins := by
  rw [runF_yes hn hl, runF_yes hm hl, h]
theorem FnBackwardRuns_h (w0 : World) (a : Option Addr) (c : Nat) (code : List Int) (hR : Rd w0 a 1 eU8 code) (hM : code.length ≤ maxLen) (hB : AllB code) :
    Ret Try.prog 9 [.slice a code.length c] w0 (fun v w => v = .bool true ∧ Ext w0 w) := by
  have hM' : (code.length : Int) ≤ 9223372036854775807 := by unfold maxLen at hM; omega
  refine enter Try.S9ok _ _ rfl rfl (by show _ ≤ _; simp only [List.length]; decide) (fun C => ?_); have hp := Hp.nil w0; refine h_run rfl ?_; skip
  refine h_call rfl Try.func24 (by kernel_rfl) rfl (big_h a code.length c _) ?_; rintro _ w ⟨rfl, hx⟩; have hp := hp.ext hx; refine ops_run nopre rfl ?_; skip
  refine h_cond_dec (fun hbig => ?_) (fun hbig => ?_)
  · refine h_cond_t rfl rfl ?_; (repeat (refine R_ret ?_))
    exact ⟨rfl, hp.x⟩
  · refine h_cond_f rfl rfl ?_; skip
    refine h_call rfl Try.func51 (by kernel_rfl) rfl (DrawFlops_h a c code _ hp.rd hB (by omega)) ?_; rintro _ w ⟨x, ⟨hok, hin, rfl⟩, hq⟩; have hx := hq.x; have hp := hp.call1 hq; refine ops_run nopre rfl ?_; skip
    (first | (refine H_box hp ?_; intro w b3 hx hp) | (refine H_alloc hp rfl ?_; intro w b3 hx hp)); refine ops_run nopre rfl ?_; (repeat (refine U_stBN hp rfl rfl rfl rfl ?_; intro w hp; refine ops_run nopre rfl ?_))
    refine h_call rfl Try.func26 (by kernel_rfl) rfl (DrawMasks_h a c code _ hp.rd hB (by omega)) ?_; rintro _ w ⟨bi, ci, W, ⟨rfl, hWl, hWi⟩, hq⟩; have hx := hq.x; have hp := hp.call1 hq; refine ops_run nopre rfl ?_; (repeat (refine H_ldB hp rfl rfl ?_))
    have hsz := hok.size'
    have hlr := lenRun x.n W
    have hrl : (runF x.n W).length ≤ 1000000 := by rw [runF_yes hok (by omega)]; show (runTo x.n W W.length).length ≤ _; rw [runTo_len]; omega
    refine h_call rfl Try.func30 (by kernel_rfl) rfl (specNetRun_x x bi ci W _ (rNet_r (hp.take (rNet x))) hok.S' hok.W hp.rd (by omega) hWi) ?_; rintro _ w ⟨bw, cw, rfl, hq⟩; have hx := hq.x; have hp := hp.call1 hq; refine ops_run nopre rfl ?_; skip
    refine h_loop [3, 4, 5, 6] (fun (k : Nat) => [(3, .pointer (some ⟨b3, 0, none⟩)), (4, .slice bi W.length ci), (5, .slice bw (runF x.n W).length cw), (6, .int .i64 (k : Int))])
      (fun k w' => k ≤ x.seqs.length ∧ Hp w0 w' [rO 3 1 eI bw cw (runF x.n W), rO 3 1 eI bi ci W, rB b3 32 x.cs, rNet x]) (fun k => x.seqs.length - k) 0 rfl ⟨by omega, hp⟩ ?_
    clear hp
    rintro k w1 ⟨hk, hp⟩ IH C
    refine h_run rfl ?_; (repeat (refine H_ldB hp rfl rfl ?_))
    refine h_cond_dec (fun hlt => ?_) (fun hlt => ?_)
    · have hlt' : k < x.seqs.length := by omega
      have hki : i64R (k : Int) := by unfold i64R; omega
      refine h_cond_t rfl rfl ?_; (repeat (refine H_ldB hp rfl rfl ?_))
      refine h_call rfl Try.func49 (by kernel_rfl) rfl (specRetimeBackward_x x k _ (rNet_r (hp.take (rNet x))) hok.S' hok.W hki) ?_; rintro _ w ⟨u, ⟨hu, rfl⟩, hq⟩; have hx := hq.x; have hp := hp.call1 hq; refine ops_run nopre rfl ?_; skip
      (first | (refine H_box hp ?_; intro w b7 hx hp) | (refine H_alloc hp rfl ?_; intro w b7 hx hp)); refine ops_run nopre rfl ?_; (repeat (first | (refine gLoad ?_; refine H_ldB hp rfl rfl ?_) | (refine gStore ?_; refine U_stBN hp rfl rfl rfl rfl ?_; intro w hp; refine ops_run nopre rfl ?_)))
      refine h_call rfl Try.func50 (by kernel_rfl) rfl (implRetimeBackward_x x k _ (rNet_r (hp.take (rNet x))) hok.S' hok.W hki) ?_; rintro _ w ⟨m, ⟨hm, rfl⟩, hq⟩; have hx := hq.x; have hp := hp.call1 hq; refine ops_run nopre rfl ?_; skip
      (first | (refine H_box hp ?_; intro w b9 hx hp) | (refine H_alloc hp rfl ?_; intro w b9 hx hp)); refine ops_run nopre rfl ?_; (repeat (refine U_stBN hp rfl rfl rfl rfl ?_; intro w hp; refine ops_run nopre rfl ?_))
      have hmok : NetOkP m.n := by rw [hm]; exact rbL_ok hok k
      have hmr : runF m.n W = runF x.n W := runF_eq hok hmok (by omega) (by rw [hm]; exact rbL_run hok k W)
      cases hb : (rbL x.n k).2 with
      | false =>
        (repeat (refine gGuard ?_; first | refine h_guard_y rfl nopre rfl ?_ | refine h_guard_n rfl nopre rfl ?_))
        refine h_cond_f rfl rfl ?_; skip
        exact IH (k + 1) _ _ _ (by omega) rfl ⟨by omega, hp.drop.drop.drop.drop⟩
      | true =>
        (repeat (first | (refine gGuard ?_; refine h_guard_y rfl nopre rfl ?_) | (refine gLoad ?_; refine H_ldB hp rfl rfl ?_)))
        refine h_call rfl Try.func29 (by kernel_rfl) rfl (implNetRun_x m bi ci W _ (rNet_r (hp.take (rNet m))) hmok.S' hmok.W hp.rd (by omega) hWi) ?_; rintro _ w ⟨br, cr, rfl, hq⟩; have hx := hq.x; have hp := hp.call1 hq; refine ops_run nopre rfl ?_; (repeat (refine h_guard_y rfl nopre rfl ?_))
        rw [hmr] at hp ⊢
        refine h_call rfl Try.func28 (by kernel_rfl) rfl (sameInts_h br bw cr cw (runF x.n W) _ hp.rd hp.rd hrl) ?_; rintro _ w ⟨rfl, hx⟩; have hp := hp.ext hx; refine ops_run nopre rfl ?_; (repeat (refine h_guard_y rfl nopre rfl ?_))
        refine h_cond_f rfl rfl ?_; skip
        exact IH (k + 1) _ _ _ (by omega) rfl ⟨by omega, hp.drop.drop.drop.drop.drop⟩
    · refine h_cond_f rfl rfl ?_; (repeat (refine H_ldB hp rfl rfl ?_))
      refine h_call rfl Try.func29 (by kernel_rfl) rfl (implNetRun_x x bi ci W _ (rNet_r (hp.take (rNet x))) hok.S' hok.W hp.rd (by omega) hWi) ?_; rintro _ w ⟨br, cr, rfl, hq⟩; have hx := hq.x; have hp := hp.call1 hq; refine ops_run nopre rfl ?_; skip
      refine h_call rfl Try.func28 (by kernel_rfl) rfl (sameInts_h br bw cr cw (runF x.n W) _ hp.rd hp.rd hrl) ?_; rintro _ w ⟨rfl, hx⟩; have hp := hp.ext hx; refine ops_run nopre rfl ?_; (repeat (refine R_ret ?_))
      exact ⟨rfl, hp.x⟩
end Go.Proofs
