/- The law that balancing keeps the runs of a drawn net and does not make it deeper; no condition but the stated ones. -/
import Derived.Test.YtfcafmbcmdeomaaDrawDeep
import Derived.Test.YtfcafmbcmdeomaaRun
import Derived.Test.YtfcafmbcmdeomaaBal
import Derived.Test.YtfcafmbcmdeomaaGraph4
set_option linter.all false
namespace Go.Proofs
open Go.Xw
set_option maxRecDepth 100000
set_option maxHeartbeats 4000000
attribute [local irreducible] Holds elemAddr

theorem sameInts_h (a b : Option Addr) (c d : Nat) (X : List Int) (w0 : World) (hA : Rd w0 a 1 eI X) (hB : Rd w0 b 1 eI X) (hl : X.length ≤ 1000000) :
    Ret Try.prog 28 [.slice a X.length c, .slice b X.length d] w0 (fun v w => v = .bool true ∧ Ext w0 w) := by
  refine enter Try.S28ok _ _ rfl rfl (by show _ ≤ _; simp only [List.length]; decide) (fun C => ?_); have hp := Hp.nil w0; refine h_run rfl ?_; skip
  refine h_cond_f (by simp) rfl ?_; skip
  refine h_loop [0, 1, 5] (fun (i : Nat) => [(0, .slice a X.length c), (1, .slice b X.length d), (5, .int .i64 (i : Int))])
    (fun i w' => i ≤ X.length ∧ Hp w0 w' []) (fun i => X.length - i) 0 rfl ⟨by omega, hp⟩ ?_
  rintro i w1 ⟨hi, hp⟩ IH C
  refine h_run rfl ?_; skip
  refine h_cond_dec (fun hlt => ?_) (fun hlt => ?_)
  · have hlt' : i < X.length := by omega
    refine h_cond_t rfl rfl ?_; skip
    refine N_draw hp (by kernel_rfl) (by kernel_rfl) rfl rfl ?_; (repeat (refine N_ldEN rfl (by omega) rfl rfl rfl ?_))
    refine N_end ?_; intro w hp C; refine h_run rfl ?_; skip
    refine h_cond_f (by simp) rfl ?_; skip
    exact IH (i + 1) _ _ _ (by omega) rfl ⟨by omega, hp⟩
  · refine h_cond_f rfl rfl ?_; (repeat (refine R_ret ?_))
    exact ⟨rfl, hp.x⟩
theorem runF_eq {n m : NetL} (hn : NetOkP n) (hm : NetOkP m) {ins : List Int} (hl : ins.length ≤ 16) (h : runL m ins = runL n ins) : runF m ins = runF n ins := by
  rw [runF_yes hn hl, runF_yes hm hl, h]
theorem balance_inputs {n : NetL} : (balanceL n).inputs = n.inputs := by
  have e1 : (hashL n).inputs = n.inputs := rfl
  unfold balanceL balL
  split
  · exact e1
  · exact e1
theorem FnBalanceRuns_h (w0 : World) (a : Option Addr) (c : Nat) (code : List Int) (hR : Rd w0 a 1 eU8 code) (hM : code.length ≤ maxLen) (hB : AllB code) :
    Ret Try.prog 4 [.slice a code.length c] w0 (fun v w => v = .bool true ∧ Ext w0 w) := by
  have hM' : (code.length : Int) ≤ 9223372036854775807 := by unfold maxLen at hM; omega
  refine enter Try.S4ok _ _ rfl rfl (by show _ ≤ _; simp only [List.length]; decide) (fun C => ?_); have hp := Hp.nil w0; refine h_run rfl ?_; skip
  refine h_call rfl Try.func24 (by kernel_rfl) rfl (big_h a code.length c _) ?_; rintro _ w ⟨rfl, hx⟩; have hp := hp.ext hx; refine ops_run nopre rfl ?_; skip
  refine h_cond_dec (fun hbig => ?_) (fun hbig => ?_)
  · refine h_cond_t rfl rfl ?_; (repeat (refine R_ret ?_))
    exact ⟨rfl, hp.x⟩
  · refine h_cond_f rfl rfl ?_; skip
    refine h_call rfl Try.func25 (by kernel_rfl) rfl (DrawDeep_h a c code _ hp.rd hB (by omega)) ?_; rintro _ w ⟨x, ⟨hok, rfl⟩, hq⟩; have hx := hq.x; have hp := hp.call1 hq; refine ops_run nopre rfl ?_; skip
    (first | (refine H_box hp ?_; intro w b3 hx hp) | (refine H_alloc hp rfl ?_; intro w b3 hx hp)); refine ops_run nopre rfl ?_; (repeat (refine U_stBN hp rfl rfl rfl rfl ?_; intro w hp; refine ops_run nopre rfl ?_))
    refine h_call rfl Try.func26 (by kernel_rfl) rfl (DrawMasks_h a c code _ hp.rd hB (by omega)) ?_; rintro _ w ⟨bi, ci, W, ⟨rfl, hWl, hWi⟩, hq⟩; have hx := hq.x; have hp := hp.call1 hq; refine ops_run nopre rfl ?_; (repeat (refine H_ldB hp rfl rfl ?_))
    have hsz := hok.size'
    have hrl : (runF x.n W).length ≤ 1000000 := by rw [runF_yes hok (by omega)]; show (runTo x.n W W.length).length ≤ _; rw [runTo_len]; omega
    refine h_call rfl Try.func27 (by kernel_rfl) rfl (implBalance_x x _ (rNet_r (hp.take (rNet x))) hok.S' hok.W) ?_; rintro _ w ⟨m, ⟨hm, rfl⟩, hq⟩; have hx := hq.x; have hp := hp.call1 hq; refine ops_run nopre rfl ?_; skip
    (first | (refine H_box hp ?_; intro w b5 hx hp) | (refine H_alloc hp rfl ?_; intro w b5 hx hp)); refine ops_run nopre rfl ?_; (repeat (refine U_stBN hp rfl rfl rfl rfl ?_; intro w hp; refine ops_run nopre rfl ?_))
    rw [ifNet_yes hok] at hm
    have hmok : NetOkP m.n := by rw [hm]; exact balanceL_ok hok
    have hmr : runF m.n W = runF x.n W := runF_eq hok hmok (by omega) (by rw [hm]; exact balance_run hok W)
    have hmi : m.inputs = x.inputs := by
      have : m.n.inputs = x.n.inputs := by rw [hm]; exact balance_inputs
      exact this
    refine N_draw hp (by kernel_rfl) (by kernel_rfl) rfl rfl ?_; (repeat (refine N_ldB rfl rfl rfl ?_))
    refine N_call Try.func29 (by kernel_rfl) rfl (fun F w hp => ?_); refine Ret.mono (implNetRun_x m bi ci W _ (rNet_r (hp.pre.take (rNet m))) hmok.S' hmok.W hp.pre.rd (by omega) hWi) ?_; rintro _ w ⟨br, cr, rfl, hq⟩; have hp := hp.callF1 hq; refine ⟨fun _ => hp.sub (by (repeat (first | exact List.sublist_append_left _ _ | apply List.Sublist.cons))), _, hp, ?_⟩; clear hp; refine N_ops rfl rfl ?_; (repeat (refine N_ldB rfl rfl rfl ?_))
    rw [hmr]
    refine N_call Try.func30 (by kernel_rfl) rfl (fun F w hp => ?_); refine Ret.mono (specNetRun_x x bi ci W _ (rNet_r (hp.pre.take (rNet x))) hok.S' hok.W hp.pre.rd (by omega) hWi) ?_; rintro _ w ⟨bw, cw, rfl, hq⟩; have hp := hp.callF1 hq; refine ⟨fun _ => hp.sub (by (repeat (first | exact List.sublist_append_left _ _ | apply List.Sublist.cons))), _, hp, ?_⟩; clear hp; refine N_ops rfl rfl ?_; skip
    refine N_call Try.func28 (by kernel_rfl) rfl (fun F w hp => ?_); refine Ret.mono (sameInts_h br bw cr cw (runF x.n W) _ hp.pre.rd hp.pre.rd hrl) ?_; rintro _ w ⟨rfl, hx⟩; have hp := hp.ext hx; refine ⟨fun _ => hp.sub (by (repeat (first | exact List.sublist_append_left _ _ | apply List.Sublist.cons))), _, hp, ?_⟩; clear hp; refine N_ops rfl rfl ?_; (repeat (first | (refine nGuard ?_; refine N_guard_y rfl rfl rfl ?_) | (refine nLoad ?_; refine N_ldB rfl rfl rfl ?_)))
    refine N_call Try.func31 (by kernel_rfl) rfl (fun F w hp => ?_); refine Ret.mono (implDepth_x m _ (rNet_r (hp.pre.take (rNet m))) hmok.S' hmok.W) ?_; rintro _ w ⟨rfl, hx⟩; have hp := hp.ext hx; refine ⟨fun _ => hp.sub (by (repeat (first | exact List.sublist_append_left _ _ | apply List.Sublist.cons))), _, hp, ?_⟩; clear hp; refine N_ops rfl rfl ?_; (repeat (first | (refine nGuard ?_; refine N_guard_y rfl rfl rfl ?_) | (refine nLoad ?_; refine N_ldB rfl rfl rfl ?_)))
    refine N_call Try.func32 (by kernel_rfl) rfl (fun F w hp => ?_); refine Ret.mono (specDepth_x x _ (rNet_r (hp.pre.take (rNet x))) hok.S' hok.W) ?_; rintro _ w ⟨rfl, hx⟩; have hp := hp.ext hx; refine ⟨fun _ => hp.sub (by (repeat (first | exact List.sublist_append_left _ _ | apply List.Sublist.cons))), _, hp, ?_⟩; clear hp; refine N_ops rfl rfl ?_; (repeat (refine N_guard_y rfl rfl rfl ?_))
    rw [decide_eq_true (show depthL m.n ≤ depthL x.n by rw [hm]; exact balance_depth hok)]
    (repeat (first | (refine nGuard ?_; refine N_guard_y rfl rfl rfl ?_) | (refine nLoad ?_; refine N_ldB rfl rfl rfl ?_)))
    refine N_call Try.func33 (by kernel_rfl) rfl (fun F w hp => ?_); refine Ret.mono ((implNetOk_h m _ (rNet_r (hp.pre.take (rNet m))) hmok.S').tt (netOkB_yes hmok)) ?_; rintro _ w ⟨rfl, hx⟩; have hp := hp.ext hx; refine ⟨fun _ => hp.sub (by (repeat (first | exact List.sublist_append_left _ _ | apply List.Sublist.cons))), _, hp, ?_⟩; clear hp; refine N_ops rfl rfl ?_; (repeat (first | (refine nGuard ?_; refine N_guard_y rfl rfl rfl ?_) | (refine nLoad ?_; refine N_ldB rfl rfl rfl ?_)))
    refine N_end ?_; intro w hp C; refine h_run rfl ?_; (repeat (refine R_ret ?_))
    exact ⟨by rw [decide_eq_true hmi], hp.x⟩
end Go.Proofs
