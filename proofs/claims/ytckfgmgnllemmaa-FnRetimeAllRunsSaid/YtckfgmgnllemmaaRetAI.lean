/- The contracts of RetimeAll , the program's; each under its stated conditions. -/
import Derived.Test.YtckfgmgnllemmaaRetF
import Derived.Test.YtckfgmgnllemmaaRetLaw2
import Derived.Test.YtckfgmgnllemmaaGraph4
set_option linter.all false
namespace Go.Proofs
open Go.Xw
set_option maxRecDepth 100000
set_option maxHeartbeats 4000000
attribute [local irreducible] Holds elemAddr
theorem raAll_stop {n : NetL} {j : Nat} (h : ¬ (raIn n n.ands.length).2 = true) : raAll j n = n := by
  cases j with
  | zero => rfl
  | succ j => rw [raAll, if_neg h]
theorem raAll_go {n : NetL} {j : Nat} (h : (raIn n n.ands.length).2 = true) : raAll (j + 1) n = raAll j (raIn n n.ands.length).1 := by rw [raAll, if_pos h]
theorem raIn_go {n : NetL} {k : Nat} (h : (raIn n k).2 = false) : raIn n (k + 1) = if (rfL n k).2 = true ∧ depthL (rfL n k).1 < depthL n then ((rfL n k).1, true) else (n, false) := by
  rw [raIn, if_neg (by rw [h]; decide)]
theorem implRetimeAll_x (x : NetA) (w0 : World) (hX : NetR w0 x) (hS : NetS x.n) (hW : NetW x.n) :
    Ret Try.prog 50 [x.v] w0 (fun v w => ∃ y, (y.n = ifNet x.n (rallL x.n) ∧ v = y.v) ∧ Hp w0 w [rNet y]) := by
  refine enter Try.S50ok _ _ rfl rfl (by show _ ≤ _; simp only [List.length]; decide) (fun C => ?_); have hp := Hp.nil w0; refine h_run rfl ?_; skip; (first | (refine H_box hp ?_; intro w b1 hx hp) | (refine H_alloc hp rfl ?_; intro w b1 hx hp)); refine ops_run nopre rfl ?_; skip; (first | (refine H_box hp ?_; intro w b2 hx hp) | (refine H_alloc hp rfl ?_; intro w b2 hx hp)); refine ops_run nopre rfl ?_; (repeat (refine H_ldB hp rfl rfl ?_))
  by_cases hok : NetOkP x.n
  · rw [ifNet_yes hok]
    refine h_call rfl Try.func51 (by kernel_rfl) rfl ((implNetOk_h x _ hp.net hS).tt (netOkB_yes hok)) ?_; rintro _ w ⟨rfl, hx⟩; have hp := hp.ext hx; refine ops_run nopre rfl ?_; skip
    refine h_cond_f rfl rfl ?_; (repeat (refine H_ldB hp rfl rfl ?_))
    refine h_call rfl Try.func83 (by kernel_rfl) rfl (prune_h x _ hp.net hok) ?_; rintro _ w ⟨y0, ⟨hy0, rfl⟩, hq⟩; have hx := hq.x; have hp := hp.call1 hq; refine ops_run nopre rfl ?_; skip
    (first | (refine H_box hp ?_; intro w b3 hx hp) | (refine H_alloc hp rfl ?_; intro w b3 hx hp)); refine ops_run nopre rfl ?_; (repeat (refine U_stBN hp rfl rfl rfl rfl ?_; intro w hp; refine ops_run nopre rfl ?_))
    refine h_loop2 [2, 3, 4] (fun (j : Nat) (_ : NetA) => [(2, .pointer (some ⟨b2, 0, none⟩)), (3, .pointer (some ⟨b3, 0, none⟩)), (4, .int .i64 (j : Int))])
      (fun j y w' => (j ≤ 8 ∧ NetOkP y.n ∧ raAll (8 - j) y.n = rallL x.n) ∧ Hp w0 w' [rB b3 32 y.cs, rNet y, rB b2 32 (cellsV Try.ti32.zero), rB b1 32 x.cs]) (fun j _ => 8 - j) 0 y0 rfl
      ⟨⟨by omega, by rw [hy0]; exact pruneL_ok hok, by rw [hy0]; rfl⟩, hp⟩ ?_
    clear hp
    rintro j y w1 ⟨⟨hj, hyok, hyr⟩, hp⟩ IH C
    refine h_run rfl ?_; skip
    refine h_cond_dec (fun hlt => ?_) (fun hlt => ?_)
    · have hlt' : j < 8 := by omega
      refine h_cond_t rfl rfl ?_; skip
      refine h_loop3 [2, 3, 4, 5, 6] (fun (k : Nat) (f : Bool) (_ : NetA) => [(2, .pointer (some ⟨b2, 0, none⟩)), (3, .pointer (some ⟨b3, 0, none⟩)), (4, .int .i64 (j : Int)), (5, .bool f), (6, .int .i64 (k : Int))])
        (fun k f z w' => (k ≤ y.n.ands.length ∧ z.n = (raIn y.n k).1 ∧ f = (raIn y.n k).2) ∧ Hp w0 w' [rB b3 32 z.cs, rNet z, rB b2 32 (cellsV Try.ti32.zero), rB b1 32 x.cs]) (fun k f _ => if f = true then 0 else y.n.ands.length + 1 - k) 0 false y rfl
        ⟨⟨by omega, rfl, rfl⟩, hp⟩ ?_
      clear hp
      rintro k f z w2 ⟨⟨hk, hz, hf⟩, hp⟩ IH2 C2
      have hzok : NetOkP z.n := by rw [hz]; exact raIn_ok hyok k
      have hlen : z.n.ands.length = z.ands.length := rfl
      have hsz := hzok.size'
      cases f with
      | true =>
        have hst : raIn y.n y.n.ands.length = raIn y.n k := raIn_stay hf.symm hk
        refine h_run rfl ?_; (repeat (refine H_ldB hp rfl rfl ?_))
        have hgo : ∀ w', Hp w0 w' [rB b3 32 z.cs, rNet z, rB b2 32 (cellsV Try.ti32.zero), rB b1 32 x.cs] → raAll (8 - (j + 1)) z.n = rallL x.n := fun _ _ => by
          rw [← hyr, show 8 - j = (8 - (j + 1)) + 1 by omega, raAll_go (by rw [hst]; exact hf.symm), hst, ← hz]
        refine h_guard_by (fun h4 => ?_) (fun h4 => ?_); all_goals (rw [h4]; (first | replace h4 := of_decide_eq_true h4 | replace h4 := of_decide_eq_false h4 | skip); (repeat (refine gGuard ?_; first | refine h_guard_y rfl nopre rfl ?_ | refine h_guard_n rfl nopre rfl ?_)))
        · refine h_cond_f rfl rfl ?_; skip
          refine h_cond_f rfl rfl ?_; skip
          exact IH (j + 1) z _ _ _ (by omega) rfl ⟨⟨by omega, hzok, hgo _ hp⟩, hp⟩
        · refine h_cond_f rfl rfl ?_; skip
          refine h_cond_f rfl rfl ?_; skip
          exact IH (j + 1) z _ _ _ (by omega) rfl ⟨⟨by omega, hzok, hgo _ hp⟩, hp⟩
      | false =>
        have hzy : z.n = y.n := by rw [hz]; exact raIn_no hf.symm
        have hin := raIn_go hf.symm
        rw [← hzy] at hin
        refine h_run rfl ?_; (repeat (refine H_ldB hp rfl rfl ?_))
        refine h_guard_by (fun h4 => ?_) (fun h4 => ?_); all_goals (rw [h4]; (first | replace h4 := of_decide_eq_true h4 | replace h4 := of_decide_eq_false h4 | skip); (repeat (refine gGuard ?_; first | refine h_guard_y rfl nopre rfl ?_ | refine h_guard_n rfl nopre rfl ?_)))
        · have hk4 : k < z.ands.length := by omega
          have hki : i64R (k : Int) := by unfold i64R; omega
          refine h_cond_t rfl rfl ?_; (repeat (refine H_ldB hp rfl rfl ?_))
          refine h_call rfl Try.func113 (by kernel_rfl) rfl (implRetimeForward_x z k _ (rNet_r (hp.take (rNet z))) hzok.S' hzok.W hki) ?_; rintro _ w ⟨u, ⟨hu, rfl⟩, hq⟩; have hx := hq.x; have hp := hp.call1 hq; refine ops_run nopre rfl ?_; skip
          (first | (refine H_box hp ?_; intro w b7 hx hp) | (refine H_alloc hp rfl ?_; intro w b7 hx hp)); refine ops_run nopre rfl ?_; (repeat (refine U_stBN hp rfl rfl rfl rfl ?_; intro w hp; refine ops_run nopre rfl ?_))
          have huok : NetOkP u.n := by rw [hu]; exact rfL_ok hzok k
          cases hb : (rfL z.n k).2 with
          | false =>
            refine N_draw hp (by kernel_rfl) (by kernel_rfl) rfl rfl ?_; (repeat (refine N_guard_n rfl rfl rfl ?_))
            refine N_end ?_; intro w hp C; refine h_run rfl ?_; skip
            refine h_cond_f rfl rfl ?_; skip
            rw [if_neg (by rw [hb]; intro h; exact absurd h.1 (by decide))] at hin
            exact IH2 (k + 1) false z _ _ _ (by simp; omega) rfl ⟨⟨by rw [← hzy]; omega, by rw [← hzy, hin], by rw [← hzy, hin]⟩, hp.drop.drop⟩
          | true =>
            refine N_draw hp (by kernel_rfl) (by kernel_rfl) rfl rfl ?_; (repeat (first | (refine nGuard ?_; refine N_guard_y rfl rfl rfl ?_) | (refine nLoad ?_; refine N_ldB rfl rfl rfl ?_)))
            refine N_call Try.func39 (by kernel_rfl) rfl (fun F w hp => ?_); refine Ret.mono (implDepth_x u _ (rNet_r (hp.pre.take (rNet u))) huok.S' huok.W) ?_; rintro _ w ⟨rfl, hx⟩; have hp := hp.ext hx; refine ⟨fun _ => hp.sub (by (repeat (first | exact List.sublist_append_left _ _ | apply List.Sublist.cons))), _, hp, ?_⟩; clear hp; refine N_ops rfl rfl ?_; (repeat (first | (refine nGuard ?_; refine N_guard_y rfl rfl rfl ?_) | (refine nLoad ?_; refine N_ldB rfl rfl rfl ?_)))
            refine N_call Try.func39 (by kernel_rfl) rfl (fun F w hp => ?_); refine Ret.mono (implDepth_x z _ (rNet_r (hp.pre.take (rNet z))) hzok.S' hzok.W) ?_; rintro _ w ⟨rfl, hx⟩; have hp := hp.ext hx; refine ⟨fun _ => hp.sub (by (repeat (first | exact List.sublist_append_left _ _ | apply List.Sublist.cons))), _, hp, ?_⟩; clear hp; refine N_ops rfl rfl ?_; (repeat (refine N_guard_y rfl rfl rfl ?_))
            refine N_end ?_; intro w hp C; refine h_run rfl ?_; skip
            refine h_cond_dec (fun hd => ?_) (fun hd => ?_)
            · refine h_cond_t rfl rfl ?_; (repeat (first | (refine gLoad ?_; refine H_ldB hp rfl rfl ?_) | (refine gStore ?_; refine U_stBN hp rfl rfl rfl rfl ?_; intro w hp; refine ops_run nopre rfl ?_)))
              rw [hu] at hd
              rw [if_pos ⟨hb, hd⟩] at hin
              exact IH2 (k + 1) true u _ _ _ (by simp; omega) rfl ⟨⟨by rw [← hzy]; omega, by rw [← hzy, hin]; exact hu, by rw [← hzy, hin]⟩, hp.drop.f2.drop.f1⟩
            · refine h_cond_f rfl rfl ?_; skip
              rw [hu] at hd
              rw [if_neg (fun h => hd h.2)] at hin
              exact IH2 (k + 1) false z _ _ _ (by simp; omega) rfl ⟨⟨by rw [← hzy]; omega, by rw [← hzy, hin], by rw [← hzy, hin]⟩, hp.drop.drop⟩
        · have hke : k = y.n.ands.length := by rw [← hzy]; rw [← hzy] at hk; omega
          refine h_cond_f rfl rfl ?_; skip
          refine h_cond_t rfl rfl ?_; (repeat (first | (refine gLoad ?_; refine H_ldB hp rfl rfl ?_) | (refine gStore ?_; refine U_stBN hp rfl rfl rfl rfl ?_; intro w hp; refine ops_run nopre rfl ?_) | (refine gRetc ?_; refine R_ret1 hp rfl ?_)))
          refine ⟨z, ⟨?_, rfl⟩, Hp.tk hp.f1 1⟩
          rw [← hyr, raAll_stop (by rw [← hke, ← hf]; decide), hzy]
    · obtain rfl : j = 8 := by omega
      refine h_cond_f rfl rfl ?_; (repeat (first | (refine gLoad ?_; refine H_ldB hp rfl rfl ?_) | (refine gStore ?_; refine U_stBN hp rfl rfl rfl rfl ?_; intro w hp; refine ops_run nopre rfl ?_) | (refine gRetc ?_; refine R_ret1 hp rfl ?_)))
      refine ⟨y, ⟨?_, rfl⟩, Hp.tk hp.f1 1⟩
      rw [← hyr]
      rfl
  · refine h_call rfl Try.func51 (by kernel_rfl) rfl ((implNetOk_h x _ hp.net hS).ff (netOkB_no hok)) ?_; rintro _ w ⟨rfl, hx⟩; have hp := hp.ext hx; refine ops_run nopre rfl ?_; skip
    refine h_cond_t rfl rfl ?_; (repeat (first | (refine gStore ?_; refine U_stBN hp rfl rfl rfl rfl ?_; intro w hp; refine ops_run nopre rfl ?_) | (refine gRetc ?_; refine R_ret1 hp rfl ?_)))
    rw [ifNet_no hok]
    exact ⟨nilA, ⟨rfl, rfl⟩, Hp.tk (hpNil hp) 1⟩
end Go.Proofs
