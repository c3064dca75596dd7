/- The contracts of the reference's RetimeForward; each under its stated conditions. -/
import Derived.Test.YtfcafmbcmdeomaaRetT
set_option linter.all false
namespace Go.Proofs
open Go.Xw
set_option maxRecDepth 100000
set_option maxHeartbeats 8000000
attribute [local irreducible] Holds elemAddr

theorem l15Forward_h (x : NetA) (k : Int) (w0 : World) (hX : NetR w0 x) (hS : NetS x.n) (hW : NetW x.n) (hK : i64R k) :
    Ret Try.prog 130 [x.v, .int .i64 k] w0 (fun v w => ∃ y, (y.n = (fwF x.n k).1 ∧ v = .tuple ⟨[y.v, .bool (fwF x.n k).2]⟩) ∧ Hp w0 w [rNet y]) := by
  have hal : x.n.ands.length = x.ands.length := rfl
  have hsl := x.slen
  refine enter Try.S130ok _ _ rfl rfl (by show _ ≤ _; simp only [List.length]; decide) (fun C => ?_); have hp := Hp.nil w0; refine h_run rfl ?_; skip; (first | (refine H_box hp ?_; intro w b2 hx hp) | (refine H_alloc hp rfl ?_; intro w b2 hx hp)); refine ops_run nopre rfl ?_; skip; (first | (refine H_box hp ?_; intro w b4 hx hp) | (refine H_alloc hp rfl ?_; intro w b4 hx hp)); refine ops_run nopre rfl ?_; (repeat (refine H_ldB hp rfl rfl ?_))
  by_cases hok : NetOkP x.n
  · have hn := hok.nums
    have n1 := hn.n1
    have n4 := hn.n2
    have f2 := hn.f2
    have hnd := hok.nodes
    have hsz := hok.size'
    refine h_call rfl Try.func62 (by kernel_rfl) rfl ((specNetOk_h x _ hp.net hS hW).tt (netOkB_yes hok)) ?_; rintro _ w ⟨rfl, hx⟩; have hp := hp.ext hx; refine ops_run nopre rfl ?_; (repeat (refine h_guard_y rfl nopre rfl ?_))
    refine h_guard_by (fun h0 => ?_) (fun h0 => ?_); all_goals (rw [h0]; (first | replace h0 := of_decide_eq_true h0 | replace h0 := of_decide_eq_false h0 | skip); (repeat (first | (refine gGuard ?_; first | refine h_guard_y rfl nopre rfl ?_ | refine h_guard_n rfl nopre rfl ?_) | (refine gLoad ?_; refine H_ldB hp rfl rfl ?_))))
    · have hbad : ¬ fwOkP x.n k := fun h => by have := h.2.1; omega
      refine h_cond_t rfl rfl ?_; (repeat (refine H_ldB hp rfl rfl ?_))
      refine h_call rfl Try.func106 (by kernel_rfl) rfl (specCopyNet_h x _ hp.net hS) ?_; rintro _ w ⟨z, ⟨hz, rfl⟩, hq⟩; have hx := hq.x; have hp := hp.call1 hq; refine ops_run nopre rfl ?_; (repeat (first | (refine gStore ?_; refine U_stBN hp rfl rfl rfl rfl ?_; intro w hp; refine ops_run nopre rfl ?_) | (refine gRetc ?_; refine R_ret2v hp rfl ?_)))
      rw [fwF_no (fwO_bad hbad)]
      exact ⟨z, ⟨hz, rfl⟩, Hp.tk hp 1⟩
    · refine h_guard_by (fun h00 => ?_) (fun h00 => ?_); all_goals (rw [h00]; (first | replace h00 := of_decide_eq_true h00 | replace h00 := of_decide_eq_false h00 | skip); (repeat (first | (refine gGuard ?_; first | refine h_guard_y rfl nopre rfl ?_ | refine h_guard_n rfl nopre rfl ?_) | (refine gLoad ?_; refine H_ldB hp rfl rfl ?_))))
      · have hbad : ¬ fwOkP x.n k := fun h => by have := h.2.1; omega
        refine h_cond_t rfl rfl ?_; (repeat (refine H_ldB hp rfl rfl ?_))
        refine h_call rfl Try.func106 (by kernel_rfl) rfl (specCopyNet_h x _ hp.net hS) ?_; rintro _ w ⟨z, ⟨hz, rfl⟩, hq⟩; have hx := hq.x; have hp := hp.call1 hq; refine ops_run nopre rfl ?_; (repeat (first | (refine gStore ?_; refine U_stBN hp rfl rfl rfl rfl ?_; intro w hp; refine ops_run nopre rfl ?_) | (refine gRetc ?_; refine R_ret2v hp rfl ?_)))
        rw [fwF_no (fwO_bad hbad)]
        exact ⟨z, ⟨hz, rfl⟩, Hp.tk hp 1⟩
      · refine h_cond_dec (fun h3 => ?_) (fun h3 => ?_)
        · have hbad : ¬ fwOkP x.n k := fun h => by have := h.2.2.1; omega
          refine h_cond_t rfl rfl ?_; (repeat (refine H_ldB hp rfl rfl ?_))
          refine h_call rfl Try.func106 (by kernel_rfl) rfl (specCopyNet_h x _ hp.net hS) ?_; rintro _ w ⟨z, ⟨hz, rfl⟩, hq⟩; have hx := hq.x; have hp := hp.call1 hq; refine ops_run nopre rfl ?_; (repeat (first | (refine gStore ?_; refine U_stBN hp rfl rfl rfl rfl ?_; intro w hp; refine ops_run nopre rfl ?_) | (refine gRetc ?_; refine R_ret2v hp rfl ?_)))
          rw [fwF_no (fwO_bad hbad)]
          exact ⟨z, ⟨hz, rfl⟩, Hp.tk hp 1⟩
        · obtain ⟨k', rfl⟩ := Int.eq_ofNat_of_zero_le (show 0 ≤ k by omega)
          have hk' : k' < x.ands.length := by omega
          obtain ⟨a1, a2, a3, a4⟩ := hok.and_ hk'
          refine h_cond_f rfl rfl ?_; (repeat (refine gLoad ?_; first | refine H_ldB hp rfl rfl ?_ | refine H_ldFN hp rfl (by omega) rfl rfl ?_))
          refine h_call rfl Try.func177 (by kernel_rfl) rfl (l15Flop_h x (x.ands.getD k' default).1 _ hp.net hok a1 (by omega)) ?_; rintro _ w ⟨rfl, hx⟩; have hp := hp.ext hx; refine ops_run nopre rfl ?_; (repeat (refine H_ldB hp rfl rfl ?_))
          refine h_call rfl Try.func177 (by kernel_rfl) rfl (l15Flop_h x (x.ands.getD k' default).2 _ hp.net hok a3 (by omega)) ?_; rintro _ w ⟨rfl, hx⟩; have hp := hp.ext hx; refine ops_run nopre rfl ?_; skip
          refine h_guard_by (fun h1 => ?_) (fun h1 => ?_); all_goals (rw [h1]; (first | replace h1 := of_decide_eq_true h1 | replace h1 := of_decide_eq_false h1 | skip); (repeat (refine gGuard ?_; first | refine h_guard_y rfl nopre rfl ?_ | refine h_guard_n rfl nopre rfl ?_)))
          · have hbad : ¬ fwOkP x.n k' := fun h => by have h5 : 0 ≤ flopL x.n (x.ands.getD k' default).1 := h.2.2.2.1; omega
            refine h_cond_t rfl rfl ?_; (repeat (refine H_ldB hp rfl rfl ?_))
            refine h_call rfl Try.func106 (by kernel_rfl) rfl (specCopyNet_h x _ hp.net hS) ?_; rintro _ w ⟨z, ⟨hz, rfl⟩, hq⟩; have hx := hq.x; have hp := hp.call1 hq; refine ops_run nopre rfl ?_; (repeat (first | (refine gStore ?_; refine U_stBN hp rfl rfl rfl rfl ?_; intro w hp; refine ops_run nopre rfl ?_) | (refine gRetc ?_; refine R_ret2v hp rfl ?_)))
            rw [fwF_no (fwO_bad hbad)]
            exact ⟨z, ⟨hz, rfl⟩, Hp.tk hp 1⟩
          · refine h_cond_dec (fun h2 => ?_) (fun h2 => ?_)
            · have hbad : ¬ fwOkP x.n k' := fun h => by have h5 : 0 ≤ flopL x.n (x.ands.getD k' default).2 := h.2.2.2.2; omega
              refine h_cond_t rfl rfl ?_; (repeat (refine H_ldB hp rfl rfl ?_))
              refine h_call rfl Try.func106 (by kernel_rfl) rfl (specCopyNet_h x _ hp.net hS) ?_; rintro _ w ⟨z, ⟨hz, rfl⟩, hq⟩; have hx := hq.x; have hp := hp.call1 hq; refine ops_run nopre rfl ?_; (repeat (first | (refine gStore ?_; refine U_stBN hp rfl rfl rfl rfl ?_; intro w hp; refine ops_run nopre rfl ?_) | (refine gRetc ?_; refine R_ret2v hp rfl ?_)))
              rw [fwF_no (fwO_bad hbad)]
              exact ⟨z, ⟨hz, rfl⟩, Hp.tk hp 1⟩
            · have hgood : fwOkP x.n k' := ⟨hok, ⟨by omega, by omega⟩, by omega, by show 0 ≤ flopL x.n (x.ands.getD k' default).1; omega, by show 0 ≤ flopL x.n (x.ands.getD k' default).2; omega⟩
              have hfa : 0 ≤ flopL x.n (x.ands.getD k' default).1 := by omega
              have hfb : 0 ≤ flopL x.n (x.ands.getD k' default).2 := by omega
              obtain ⟨fa1, fa2, _⟩ := flopL_yes hfa
              obtain ⟨fb1, fb2, _⟩ := flopL_yes hfb
              have fa3 : flopL x.n (x.ands.getD k' default).1 < x.seqs.length := by omega
              have fb3 : flopL x.n (x.ands.getD k' default).2 < x.seqs.length := by omega
              have hi01 : fwInit x.n (x.ands.getD k' default).1 (x.ands.getD k' default).2 = 0 ∨ fwInit x.n (x.ands.getD k' default).1 (x.ands.getD k' default).2 = 1 := by
                have i1 := bitX_01 (l := (x.ands.getD k' default).1) (flopL_seq hok hfa).2
                have i2 := bitX_01 (l := (x.ands.getD k' default).2) (flopL_seq hok hfb).2
                unfold fwInit
                rw [and_01 i1 i2]
                split <;> omega
              have eInit : fwInit x.n (x.ands.getD k' default).1 (x.ands.getD k' default).2 = bits .and .i64 (bits .xor .i64 (x.seqs.getD (flopL x.n (x.ands.getD k' default).1).toNat default).init (bits .and .i64 (x.ands.getD k' default).1 1)) (bits .xor .i64 (x.seqs.getD (flopL x.n (x.ands.getD k' default).2).toNat default).init (bits .and .i64 (x.ands.getD k' default).2 1)) := by
                unfold fwInit bitX; rw [x.sinit, x.sinit]
              have hSO := bgS_ok hok (inits := [fwInit x.n (x.ands.getD k' default).1 (x.ands.getD k' default).2]) (by simp; omega) (by simp; exact hi01)
              have hr0 := fw_start hok hgood.2.2.1
              have hll := leafL_len x.n
              refine h_cond_f rfl rfl ?_; skip
              refine N_draw hp (by kernel_rfl) (by kernel_rfl) rfl rfl ?_; (repeat (first | (refine nLoad ?_; first | refine N_ldB rfl rfl rfl ?_ | refine N_ldF rfl (by omega) (by omega) rfl rfl rfl ?_) | (refine nBuild ?_; refine N_litI rfl rfl rfl rfl rfl rfl rfl rfl rfl rfl ?_; intro _; refine N_ops rfl rfl ?_)))
              rw [← eInit]
              obtain ⟨iv, hiv⟩ : ∃ iv, iv = fwInit x.n (x.ands.getD k' default).1 (x.ands.getD k' default).2 := ⟨_, rfl⟩
              rw [← hiv] at hSO ⊢
              have hSO : SOk x.n (bgS x.n [iv]) (firstAndL x.n + 1) := hSO
              refine N_call Try.func122 (by kernel_rfl) rfl (fun F w hp => ?_); refine Ret.mono (l15Begin_F x _ _ 1 [iv] rfl hp hp.pre.net hok hS hp.pre.rd (by omega)) ?_; rintro _ w ⟨y0, b5, c5, ⟨hy0, rfl⟩, hp⟩; refine ⟨fun hq => Bool.noConfusion (hq.symm.trans (by kernel_rfl : flagAt _ _ = false)), _, hp, ?_⟩; clear hp; refine N_ops rfl rfl ?_; skip
              (first | refine N_box ?_ | refine N_alloc rfl ?_); intro b10; refine N_ops rfl rfl ?_; (repeat (refine N_stBN rfl rfl rfl rfl (by kernel_rfl) ?_; refine N_ops rfl rfl ?_))
              refine N_end ?_; intro w hp C; refine h_run rfl ?_; skip
              have hinst : litP (2 * firstAndL x.n) (firstAndL x.n + 1) := by unfold litP; omega
              refine N_draw hp (by kernel_rfl) (by kernel_rfl) rfl rfl ?_; (repeat (refine N_ldB rfl rfl rfl ?_))
              refine N_call Try.func63 (by kernel_rfl) rfl (fun F w hp => ?_); refine Ret.mono (l08First_h x _ hok.b) ?_; rintro _ w ⟨rfl, hx⟩; have hp := hp.ext hx; refine ⟨fun _ => hp.sub (by (repeat (first | exact List.sublist_append_left _ _ | apply List.Sublist.cons))), _, hp, ?_⟩; clear hp; refine N_ops rfl rfl ?_; skip
              refine N_f2 ?_; refine N_f2 ?_
              refine N_call Try.func123 (by kernel_rfl) rfl (fun F w hp => ?_); refine Ret.mono (l15Ands_F (bgS x.n [iv]) (firstAndL x.n + 1) (k' : Int) (2 * firstAndL x.n) [] (leafL x.n) y0 x b5 c5 _ rfl hp hX hok hSO hy0 hr0 hinst) ?_; rintro _ w ⟨z, tb, tc, X, ok, ⟨rfl, hokb, hT⟩, hp⟩; refine ⟨fun hq => Bool.noConfusion (hq.symm.trans (by kernel_rfl : flagAt _ _ = false)), _, hp, ?_⟩; clear hp; refine N_ops rfl rfl ?_; (repeat (refine N_stBN rfl rfl rfl rfl (by kernel_rfl) ?_; refine N_ops rfl rfl ?_))
              refine N_end ?_; intro w hp C; refine h_run rfl ?_; skip
              cases hTT : raTo (firstAndL x.n + 1) x.n k' (2 * firstAndL x.n) ([], leafL x.n) x.n.ands.length with
              | none =>
                rw [hTT] at hokb
                obtain rfl : ok = false := hokb
                refine h_cond_t rfl rfl ?_; (repeat (refine H_ldB hp rfl rfl ?_))
                refine h_call rfl Try.func106 (by kernel_rfl) rfl (specCopyNet_h x _ hp.net hS) ?_; rintro _ w ⟨u, ⟨hu, rfl⟩, hq⟩; have hx := hq.x; have hp := hp.call1 hq; refine ops_run nopre rfl ?_; (repeat (first | (refine gStore ?_; refine U_stBN hp rfl rfl rfl rfl ?_; intro w hp; refine ops_run nopre rfl ?_) | (refine gRetc ?_; refine R_ret2v hp rfl ?_)))
                rw [fwF_no (fwO_none hgood (Nat.le_refl _) hTT)]
                exact ⟨u, ⟨hu, rfl⟩, Hp.tk hp 1⟩
              | some T =>
                rw [hTT] at hokb
                obtain rfl : ok = true := hokb
                obtain ⟨hz, rfl⟩ := hT T hTT
                clear hT
                have hra := fwT_ok hok hgood.2.2.1 (Nat.le_refl _) hTT
                have hTl := hra.len
                have hB := hra.b
                have g1 := hB.f1
                have g2 := hB.alen
                have hrowA := hX.seqs.at_ (i := (flopL x.n (x.ands.getD k' default).1).toNat) (by omega)
                have hrowB := hX.seqs.at_ (i := (flopL x.n (x.ands.getD k' default).2).toNat) (by omega)
                have inA := (flopL_seq hok hfa).1
                have inB := (flopL_seq hok hfb).1
                rw [x.sins] at inA inB
                have lA := fwA_lit hok hfa hra
                have lB := fwA_lit hok hfb hra
                have eA : fwA x.n T.2 (x.ands.getD k' default).1 = bits .xor .i64 (litV T.2 ((x.seqs.getD (flopL x.n (x.ands.getD k' default).1).toNat default).ins.getD 0 default)) (bits .and .i64 (x.ands.getD k' default).1 1) := by unfold fwA bitX; rw [x.sins]
                have eB2 : fwA x.n T.2 (x.ands.getD k' default).2 = bits .xor .i64 (litV T.2 ((x.seqs.getD (flopL x.n (x.ands.getD k' default).2).toNat default).ins.getD 0 default)) (bits .and .i64 (x.ands.getD k' default).2 1) := by unfold fwA bitX; rw [x.sins]
                have tA := hok.inp (getD_mem fa1) ((x.seqs.getD (flopL x.n (x.ands.getD k' default).1).toNat default).ins.getD 0 default) (by rw [x.sins]; exact getD_mem (by omega))
                have tB := hok.inp (getD_mem fb1) ((x.seqs.getD (flopL x.n (x.ands.getD k' default).2).toNat default).ins.getD 0 default) (by rw [x.sins]; exact getD_mem (by omega))
                have tA' := tA
                have tB' := tB
                unfold litP at tA' tB'
                have hml : (mapL T.2 [(x.seqs.getD (flopL x.n (x.ands.getD k' default).1).toNat default).ins.getD 0 default, (x.seqs.getD (flopL x.n (x.ands.getD k' default).2).toNat default).ins.getD 0 default]).length = 2 := rfl
                have hadd := addF_netX hok hSO hB lA lB
                have hzok := netX_ok hok hSO hB
                have hiA := lA.i64 (by omega)
                have hiB := lB.i64 (by omega)
                refine h_cond_f rfl rfl ?_; skip
                refine N_draw hp (by kernel_rfl) (by kernel_rfl) rfl rfl ?_; (repeat (first | (refine nLoad ?_; first | refine N_ldB rfl rfl rfl ?_ | refine N_ldE rfl (by omega) (by omega) rfl rfl rfl ?_ | refine N_ldF rfl (by omega) (by omega) rfl rfl rfl ?_) | (refine nBuild ?_; refine N_litI rfl rfl rfl rfl rfl rfl rfl rfl rfl rfl ?_; intro _; refine N_ops rfl rfl ?_)))
                refine N_call Try.func124 (by kernel_rfl) rfl (fun F w hp => ?_); refine Ret.mono (l10Map_h _ _ _ _ T.2 [(x.seqs.getD (flopL x.n (x.ands.getD k' default).1).toNat default).ins.getD 0 default, (x.seqs.getD (flopL x.n (x.ands.getD k' default).2).toNat default).ins.getD 0 default] _ _ rfl rfl _ hp.pre.rd hp.pre.rd (two_in (p := fun l => 0 ≤ l ∧ l / 2 < (T.2.length : Int)) ⟨tA'.1, by omega⟩ ⟨tB'.1, by omega⟩) (by omega) (by simp)) ?_; rintro _ w ⟨r8, e8, rfl, hq⟩; have hp := hp.callF1 hq; refine ⟨fun _ => hp.sub (by (repeat (first | exact List.sublist_append_left _ _ | apply List.Sublist.cons))), _, hp, ?_⟩; clear hp; refine N_ops rfl rfl ?_; skip
                refine N_end ?_; intro w hp C; refine h_run rfl ?_; skip
                refine N_draw hp (by kernel_rfl) (by kernel_rfl) rfl rfl ?_; (repeat (refine nLoad ?_; first | refine N_ldB rfl rfl rfl ?_ | refine N_ldE rfl (by omega) (by omega) rfl rfl rfl ?_))
                show HoldsF _ _ _ _ _ _ (G.act (.call _ [_, .int .i64 (bits .xor .i64 (litV T.2 ((x.seqs.getD (flopL x.n (x.ands.getD k' default).1).toNat default).ins.getD 0 default)) (bits .and .i64 (x.ands.getD k' default).1 1)), .int .i64 (bits .xor .i64 (litV T.2 ((x.seqs.getD (flopL x.n (x.ands.getD k' default).2).toNat default).ins.getD 0 default)) (bits .and .i64 (x.ands.getD k' default).2 1))]) _)
                rw [← eA, ← eB2]
                refine N_call Try.func108 (by kernel_rfl) rfl (fun F w hp => ?_); refine Ret.mono (specAddAnd_x z (fwA x.n T.2 (x.ands.getD k' default).1) (fwA x.n T.2 (x.ands.getD k' default).2) _ (rNet_r (hp.pre.take (rNet z))) (by rw [hz]; exact hzok.S') (by rw [hz]; exact hzok.W) hiA hiB) ?_; rintro _ w ⟨y, ⟨hy, rfl⟩, hq⟩; have hp := hp.callF1 hq; refine ⟨fun _ => hp.sub (by (repeat (first | exact List.sublist_append_left _ _ | apply List.Sublist.cons))), _, hp, ?_⟩; clear hp; refine N_ops rfl rfl ?_; (repeat (refine N_stBN rfl rfl rfl rfl (by kernel_rfl) ?_; refine N_ops rfl rfl ?_))
                refine N_end ?_; intro w hp C; refine h_run rfl ?_; skip
                have hfw : fwO x.n k' = fwN x.n (x.ands.getD k' default).1 (x.ands.getD k' default).2 T := by rw [fwO_good hgood, show fwT x.n k' x.n.ands.length = some T from hTT]; rfl
                rw [hz, hadd] at hy ⊢
                by_cases hneg : (addC (firstAndL x.n + 1) T.1 (fwA x.n T.2 (x.ands.getD k' default).1) (fwA x.n T.2 (x.ands.getD k' default).2)).2 < 0
                · rw [if_pos hneg] at hy ⊢
                  refine h_cond_t rfl rfl ?_; (repeat (refine H_ldB hp rfl rfl ?_))
                  refine h_call rfl Try.func106 (by kernel_rfl) rfl (specCopyNet_h x _ hp.net hS) ?_; rintro _ w ⟨u, ⟨hu, rfl⟩, hq⟩; have hx := hq.x; have hp := hp.call1 hq; refine ops_run nopre rfl ?_; (repeat (first | (refine gStore ?_; refine U_stBN hp rfl rfl rfl rfl ?_; intro w hp; refine ops_run nopre rfl ?_) | (refine gRetc ?_; refine R_ret2v hp rfl ?_)))
                  rw [fwF_no (by rw [hfw]; unfold fwN; rw [if_pos hneg])]
                  exact ⟨u, ⟨hu, rfl⟩, Hp.tk hp 1⟩
                · rw [if_neg hneg] at hy ⊢
                  obtain ⟨A', hA'⟩ : ∃ A', A' = (addC (firstAndL x.n + 1) T.1 (fwA x.n T.2 (x.ands.getD k' default).1) (fwA x.n T.2 (x.ands.getD k' default).2)).1 := ⟨_, rfl⟩
                  obtain ⟨lt, hlt5⟩ : ∃ lt, lt = (addC (firstAndL x.n + 1) T.1 (fwA x.n T.2 (x.ands.getD k' default).1) (fwA x.n T.2 (x.ands.getD k' default).2)).2 := ⟨_, rfl⟩
                  rw [← hA'] at hy
                  rw [← hlt5] at hneg ⊢
                  have hfin : fwO x.n k' = some (finX x.n A' T.2 (mapS x.n T.2 ++ [⟨0, iv, [lt]⟩])) := by rw [hfw]; unfold fwN; rw [← hlt5, if_neg hneg, hA', hiv]
                  rw [fwF_yes hfin]
                  refine h_cond_f (decide_eq_false hneg) rfl ?_; skip
                  have hy : y.n = netX x.n (bgS x.n [iv]) A' := hy
                  have hya : y.ands = A' := congrArg NetL.ands hy
                  have hyi : y.inputs = x.inputs := congrArg NetL.inputs hy
                  have hys : seqsOf y.seqs = bgS x.n [iv] := congrArg NetL.seqs hy
                  have hyl : y.seqs.length = x.seqs.length + 1 := by rw [← seqsOf_len y.seqs, hys, bgS_len, x.slen]; rfl
                  have hlit : ∀ l, litP l (nodesL x.n) → 0 ≤ l ∧ l / 2 < (T.2.length : Int) := fun l h => by unfold litP at h; omega
                  have hp := rSq_open (rNet_open hp.f1.drop.f1.drop.f1.drop.f3.drop)
                  refine h_loop2 [2, 4, 10, 11, 14, 15] (fun (i : Nat) (_ : List SeqA) => [(2, .pointer (some ⟨b2, 0, none⟩)), (4, .pointer (some ⟨b4, 0, none⟩)), (10, .pointer (some ⟨b10, 0, none⟩)), (11, .slice tb T.2.length tc), (14, .int .i64 lt), (15, .int .i64 (i : Int))])
                    (fun i R w' => (i ≤ x.seqs.length ∧ R.length = y.seqs.length ∧ seqsOf R = upTo (crF (seqsOf y.seqs) x.n T.2) i (seqsOf y.seqs)) ∧ Hp w0 w' [rO 99 3 eSq y.sa y.sc R, rIns R, rO 103 2 eII y.aa y.ac y.ands, rO 3 1 eI y.oa y.oc y.outs, rO 3 1 eI tb tc T.2, rB b10 32 y.cs, rB b4 32 (cellsV Try.ti32.zero), rB b2 32 x.cs]) (fun i _ => x.seqs.length - i) 0 y.seqs rfl
                    ⟨⟨by omega, rfl, by rw [upTo_zero]⟩, hp⟩ ?_
                  clear hp
                  rintro i R w1 ⟨⟨hi, hR, hRs⟩, hp⟩ IH C
                  refine h_run rfl ?_; (repeat (refine H_ldB hp rfl rfl ?_))
                  refine h_cond_dec (fun hlt => ?_) (fun hlt => ?_)
                  · have hlt' : i < x.seqs.length := by omega
                    have hil := hok.ins hlt'
                    have hsx := x.sins i
                    have hq : ∀ j, j < (x.seqs.getD i default).ins.length → 0 ≤ (x.seqs.getD i default).ins.getD j default ∧ (x.seqs.getD i default).ins.getD j default / 2 < (T.2.length : Int) := fun j hj =>
                      hlit _ (hok.inp (getD_mem (show i < x.n.seqs.length by omega)) _ (by rw [hsx]; exact getD_mem hj))
                    have hrow := hX.seqs.at_ hlt'
                    have hne : y.sa ≠ none := nn_of hp (X := R) (by omega)
                    refine h_cond_t rfl rfl ?_; skip
                    refine N_draw hp (by kernel_rfl) (by kernel_rfl) rfl rfl ?_; (repeat (refine nLoad ?_; first | refine N_ldB rfl rfl rfl ?_ | refine N_ldFN rfl (by omega) rfl rfl rfl ?_))
                    refine N_call Try.func124 (by kernel_rfl) rfl (fun F w hp => ?_); refine Ret.mono (l10Map_h _ _ _ _ T.2 (x.seqs.getD i default).ins _ _ rfl rfl _ hp.pre.rd hp.pre.rd hq (by omega) (by omega)) ?_; rintro _ w ⟨r, e, rfl, hq⟩; have hp := hp.callF1 hq; refine ⟨fun _ => hp.sub (by (repeat (first | exact List.sublist_append_left _ _ | apply List.Sublist.cons))), _, hp, ?_⟩; clear hp; refine N_ops rfl rfl ?_; skip
                    first | refine N_st1N ({ R.getD i default with ins := mapL T.2 (x.seqs.getD i default).ins, ia := r, ic := e }) rfl rfl rfl (by omega) (by decide) rfl rfl (by kernel_rfl) ?_ | refine N_st1 ({ R.getD i default with ins := mapL T.2 (x.seqs.getD i default).ins, ia := r, ic := e }) rfl rfl rfl (by omega) (by decide) rfl rfl (by kernel_rfl) ?_
                    refine N_ops rfl rfl ?_; skip
                    refine N_end ?_; intro w hp C; refine h_run rfl ?_; skip
                    obtain ⟨Q, hq, hback⟩ := rIns_at hp.f2 (i := i) (by omega)
                    have hp := (hback _ _ { R.getD i default with ins := mapL T.2 (x.seqs.getD i default).ins, ia := r, ic := e } hq.drop.f1).f1
                    refine IH (i + 1) _ _ _ _ (by omega) rfl ⟨⟨by omega, by simp; omega, ?_⟩, hp⟩
                    have hix : i < (seqsOf y.seqs).length := by rw [seqsOf_len]; omega
                    rw [seqsOf_set, hRs, ← upTo_set (f := crF (seqsOf y.seqs) x.n T.2) hix]
                    congr 1
                    have h1 : (R.getD i default).s = (seqsOf y.seqs).getD i default := by
                      rw [← seqsOf_get, hRs, upTo_at (Nat.le_refl _) (by omega)]
                    unfold crF
                    rw [← h1, hsx]
                    rfl
                  · obtain rfl : i = x.seqs.length := by omega
                    clear IH
                    have hRs2 : seqsOf R = mapS x.n T.2 ++ [⟨0, iv, [0]⟩] := by
                      rw [hRs, hys, ← x.slen]
                      exact cr_ext zer_at.1 zer_at.2
                    have hne : y.sa ≠ none := nn_of hp (X := R) (by omega)
                    have hat : (R.getD x.seqs.length default).kind = 0 ∧ (R.getD x.seqs.length default).init = iv := by
                      have h1 : (R.getD x.seqs.length default).s = (⟨0, iv, [0]⟩ : SeqL) := by
                        rw [← seqsOf_get, hRs2, ← x.slen, ← mapS_len x.n T.2]
                        exact snoc_eq
                      exact ⟨congrArg SeqL.kind h1, congrArg SeqL.init h1⟩
                    refine h_cond_f rfl rfl ?_; (repeat (first | (refine gLoad ?_; refine H_ldB hp rfl rfl ?_) | (refine gBuild ?_; refine U_litI hp rfl rfl rfl rfl rfl rfl rfl rfl rfl rfl ?_; intro w _ hx hp; refine ops_run nopre rfl ?_)))
                    rename_i b17
                    refine U_st1N hp ({ R.getD x.seqs.length default with ins := [lt], ia := some ⟨b17, 0, none⟩, ic := 1 }) rfl rfl rfl (by omega) (by decide) rfl rfl ?_; intro w hp; refine ops_run nopre rfl ?_; (repeat (refine H_ldB hp rfl rfl ?_))
                    obtain ⟨Q, hq, hback⟩ := rIns_at hp.f2 (i := x.seqs.length) (by omega)
                    have hp := (hback _ _ { R.getD x.seqs.length default with ins := [lt], ia := some ⟨b17, 0, none⟩, ic := 1 } hq.drop.f1).f1
                    refine h_call rfl Try.func124 (by kernel_rfl) rfl (l10Map_h _ _ _ _ T.2 x.outs _ _ rfl rfl _ hp.rd hp.rd (fun j hj => hlit _ (hok.out _ (getD_mem hj))) (by omega) (by omega)) ?_; rintro _ w ⟨r, e, rfl, hq⟩; have hx := hq.x; have hp := hp.call1 hq; refine ops_run nopre rfl ?_; (repeat (first | (refine gLoad ?_; refine H_ldB hp rfl rfl ?_) | (refine gStore ?_; (first | refine U_stB hp rfl rfl rfl rfl ?_ | refine U_stBN hp rfl rfl rfl rfl ?_); intro w hp; refine ops_run nopre rfl ?_) | (refine gRetc ?_; refine R_ret2v hp rfl ?_)))
                    have hp := rNet_shut (x := ⟨y.inputs, R.set x.seqs.length ({ R.getD x.seqs.length default with ins := [lt], ia := some ⟨b17, 0, none⟩, ic := 1 }), y.sa, y.sc, y.ands, y.aa, y.ac, mapL T.2 x.outs, r, e⟩) ((rSq_shut (hp.f2.f2)).f1.f2.f2)
                    refine ⟨⟨y.inputs, R.set x.seqs.length ({ R.getD x.seqs.length default with ins := [lt], ia := some ⟨b17, 0, none⟩, ic := 1 }), y.sa, y.sc, y.ands, y.aa, y.ac, mapL T.2 x.outs, r, e⟩, ⟨?_, ?_⟩, Hp.tk hp 1⟩
                    · have e2 : (SeqA.s { R.getD x.seqs.length default with ins := [lt], ia := some ⟨b17, 0, none⟩, ic := 1 }) = ⟨0, iv, [lt]⟩ := by
                        show SeqL.mk (R.getD x.seqs.length default).kind (R.getD x.seqs.length default).init [lt] = _
                        rw [hat.1, hat.2]
                      unfold NetA.n
                      rw [seqsOf_set, e2, hRs2, hyi, hya, ← x.slen, ← mapS_len x.n T.2, List.set_append_right _ _ (Nat.le_refl _), Nat.sub_self]
                      rfl
                    · unfold NetA.v NetA.cs
                      rw [List.length_set, hR]
  · refine h_call rfl Try.func62 (by kernel_rfl) rfl ((specNetOk_h x _ hp.net hS hW).ff (netOkB_no hok)) ?_; rintro _ w ⟨rfl, hx⟩; have hp := hp.ext hx; refine ops_run nopre rfl ?_; (repeat (refine h_guard_n rfl nopre rfl ?_))
    have hbad : ¬ fwOkP x.n k := fun h => hok h.1
    refine h_cond_t rfl rfl ?_; (repeat (refine H_ldB hp rfl rfl ?_))
    refine h_call rfl Try.func106 (by kernel_rfl) rfl (specCopyNet_h x _ hp.net hS) ?_; rintro _ w ⟨z, ⟨hz, rfl⟩, hq⟩; have hx := hq.x; have hp := hp.call1 hq; refine ops_run nopre rfl ?_; (repeat (first | (refine gStore ?_; refine U_stBN hp rfl rfl rfl rfl ?_; intro w hp; refine ops_run nopre rfl ?_) | (refine gRetc ?_; refine R_ret2v hp rfl ?_)))
    rw [fwF_no (fwO_bad hbad)]
    exact ⟨z, ⟨hz, rfl⟩, Hp.tk hp 1⟩
theorem specRetimeForward_x (x : NetA) (k : Int) (w0 : World) (hX : NetR w0 x) (hS : NetS x.n) (hW : NetW x.n) (hK : i64R k) :
    Ret Try.prog 52 [x.v, .int .i64 k] w0 (fun v w => ∃ y, (y.n = (rfL x.n k).1 ∧ v = .tuple ⟨[y.v, .bool (rfL x.n k).2]⟩) ∧ Hp w0 w [rNet y]) := by
  refine enter Try.S52ok _ _ rfl rfl (by show _ ≤ _; simp only [List.length]; decide) (fun C => ?_); have hp := Hp.nil w0; refine h_run rfl ?_; skip; (first | (refine H_box hp ?_; intro w b2 hx hp) | (refine H_alloc hp rfl ?_; intro w b2 hx hp)); refine ops_run nopre rfl ?_; skip; (first | (refine H_box hp ?_; intro w b4 hx hp) | (refine H_alloc hp rfl ?_; intro w b4 hx hp)); refine ops_run nopre rfl ?_; (repeat (refine H_ldB hp rfl rfl ?_))
  cases hf : fwO x.n k with
  | none =>
    rw [rfL_no hf]
    have e := fwF_no hf
    refine h_call rfl Try.func130 (by kernel_rfl) rfl (l15Forward_h x k _ hp.net hS hW hK) ?_; rintro _ w ⟨y, ⟨hy, rfl⟩, hq⟩; have hx := hq.x; have hp := hp.call1 hq; refine ops_run nopre rfl ?_; skip
    rw [e] at hy ⊢
    (first | (refine H_box hp ?_; intro w b6 hx hp) | (refine H_alloc hp rfl ?_; intro w b6 hx hp)); refine ops_run nopre rfl ?_; (repeat (refine U_stBN hp rfl rfl rfl rfl ?_; intro w hp; refine ops_run nopre rfl ?_))
    refine h_cond_t rfl rfl ?_; (repeat (first | (refine gLoad ?_; refine H_ldB hp rfl rfl ?_) | (refine gStore ?_; refine U_stBN hp rfl rfl rfl rfl ?_; intro w hp; refine ops_run nopre rfl ?_) | (refine gRetc ?_; refine R_ret2v hp rfl ?_)))
    exact ⟨y, ⟨hy, rfl⟩, Hp.tk hp.f1 1⟩
  | some m =>
    rw [rfL_yes hf]
    have e := fwF_yes hf
    refine h_call rfl Try.func130 (by kernel_rfl) rfl (l15Forward_h x k _ hp.net hS hW hK) ?_; rintro _ w ⟨y, ⟨hy, rfl⟩, hq⟩; have hx := hq.x; have hp := hp.call1 hq; refine ops_run nopre rfl ?_; skip
    rw [e] at hy ⊢
    have hy : y.n = m := hy
    have hok : NetOkP y.n := by rw [hy]; exact fwO_ok hf
    (first | (refine H_box hp ?_; intro w b6 hx hp) | (refine H_alloc hp rfl ?_; intro w b6 hx hp)); refine ops_run nopre rfl ?_; (repeat (refine U_stBN hp rfl rfl rfl rfl ?_; intro w hp; refine ops_run nopre rfl ?_))
    refine h_cond_f rfl rfl ?_; (repeat (refine H_ldB hp rfl rfl ?_))
    refine h_call rfl Try.func125 (by kernel_rfl) rfl (specPrune_x y _ (rNet_r (hp.take (rNet y))) hok.S' hok.W) ?_; rintro _ w ⟨z, ⟨hz, rfl⟩, hq⟩; have hx := hq.x; have hp := hp.call1 hq; refine ops_run nopre rfl ?_; (repeat (first | (refine gStore ?_; refine U_stBN hp rfl rfl rfl rfl ?_; intro w hp; refine ops_run nopre rfl ?_) | (refine gRetc ?_; refine R_ret2v hp rfl ?_)))
    rw [ifNet_yes hok, hy] at hz
    exact ⟨z, ⟨hz, rfl⟩, Hp.tk hp 1⟩
end Go.Proofs
