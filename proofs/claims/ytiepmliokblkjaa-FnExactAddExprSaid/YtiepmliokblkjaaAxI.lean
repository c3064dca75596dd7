/- The contract of the program's AddExpr; under its stated conditions. -/
import Derived.Test.YtiepmliokblkjaaExprW
import Derived.Test.YtiepmliokblkjaaExprA
import Derived.Test.YtiepmliokblkjaaIntSS
import Derived.Test.YtiepmliokblkjaaCopy
set_option linter.all false
namespace Go.Proofs
open Go.Xw
set_option maxRecDepth 100000
set_option maxHeartbeats 2000000
attribute [local irreducible] Holds elemAddr
theorem implAddExpr_x (x : NetA) (sa : Option Addr) (sc : Nat) (R : List (RowA Int)) (oa : Option Addr) (oc : Nat) (ops : List OpL) (wv : Int) (w0 : World) (hX : NetR w0 x) (hS : NetS x.n) (hW : NetW x.n) (hR : Rd w0 sa 1 eRo R) (hQ : RsR w0 R) (hO : Rd w0 oa 3 eOp ops) (hRl : R.length ≤ 1048576) (hRg : ∀ i, i < R.length → (R.getD i default).ins.length ≤ 1048576) (hRv : ∀ i, i < R.length → ∀ j, j < (R.getD i default).ins.length → i64R ((R.getD i default).ins.getD j default)) (hol : ops.length ≤ 1048576) (hov : ∀ i, i < ops.length → i64O (ops.getD i default)) (hw : i64R wv) :
  Ret Try.prog 11 [x.v, .slice sa R.length sc, .slice oa ops.length oc, .int .i64 wv] w0 (fun v w' => ∃ y b c, (y.n = (axF x.n (insOf R) ops wv).1 ∧ v = .tuple ⟨[y.v, .slice b (axF x.n (insOf R) ops wv).2.length c]⟩) ∧ Hp w0 w' [rNet y, rO 3 1 eI b c (axF x.n (insOf R) ops wv).2]) := by
 have hil : (insOf R).length = R.length := insOf_len R
 unfold i64R at hw
 refine enter Try.S11ok _ _ rfl rfl (by show _ ≤ _; simp only [List.length]; decide) (fun C => ?_); have hp := Hp.nil w0; refine h_run rfl ?_; skip; (first | refine H_box hp ?_ | refine H_alloc hp rfl ?_); intro w b4 hx hp; refine ops_run nopre rfl ?_; skip; (first | refine H_box hp ?_ | refine H_alloc hp rfl ?_); intro w b8 hx hp; refine ops_run nopre rfl ?_; (repeat (refine H_ldB hp rfl rfl ?_))
 by_cases hok : NetOkP x.n
 ·have hc := hok.count
  refine h_call rfl Try.func37 (by kernel_rfl) rfl ((implNetOk_h x _ hp.net hS).tt (netOkB_yes hok)) ?_; rintro _ w ⟨rfl, hx⟩; have hp := hp.ext hx; refine ops_run nopre rfl ?_; (repeat (refine h_guard_y rfl nopre rfl ?_))
  refine h_guard_by (fun h30 => ?_) (fun h30 => ?_); all_goals (rw [h30]; (first | replace h30 := of_decide_eq_true h30 | replace h30 := of_decide_eq_false h30 | skip); (repeat (refine gGuard ?_; first | refine h_guard_y rfl nopre rfl ?_ | refine h_guard_n rfl nopre rfl ?_)))
  ·have hno := axF_no (n := x.n) (sig := insOf R) (ops := ops) (w := wv) (fun h => by have := h.cnt; omega)
   refine h_cond_t rfl rfl ?_; (repeat (refine H_ldB hp rfl rfl ?_))
   refine h_call rfl Try.func41 (by kernel_rfl) rfl (implCopyNet_h x _ hp.net hS) ?_; rintro _ w ⟨y, ⟨hy, rfl⟩, hq⟩; have hx := hq.x; have hp := hp.call1 hq; refine ops_run nopre rfl ?_; (repeat (first | (refine gStore ?_; refine U_stBN hp rfl rfl rfl rfl ?_; intro w hp; refine ops_run nopre rfl ?_) | (refine gRetc ?_; refine R_ret2v hp rfl ?_)))
   rw [hno]
   exact ⟨y, none, 0, ⟨hy, rfl⟩, ((hp.tk 1).ownN (Ext.refl _) (Own.nil _ _ _ _ _)).f1⟩
  ·by_cases hop : OpsOkP ops R.length
   ·refine h_call rfl Try.func38 (by kernel_rfl) rfl (implOpsOk_h oa oc ops.length ops rfl R.length _ hp.rd hol hov) ?_; rintro _ w ⟨rfl, hx⟩; have hp := hp.ext hx; refine ops_run nopre rfl ?_; (repeat (refine h_guard_y rfl nopre rfl ?_))
    rw [opsB_yes hop]
    (repeat (refine h_guard_y rfl nopre rfl ?_))
    by_cases hpar : ∃ o, o ∈ ops ∧ o.kind = 1
    ·refine h_call rfl Try.func39 (by kernel_rfl) rfl (hasParam_h oa oc ops.length ops rfl _ hp.rd hol) ?_; rintro _ w ⟨rfl, hx⟩; have hp := hp.ext hx; refine ops_run nopre rfl ?_; skip
     rw [parB_yes hpar]
     (repeat (refine h_guard_n rfl nopre rfl ?_))
     have hno := axF_no (n := x.n) (sig := insOf R) (ops := ops) (w := wv) (fun h => by obtain ⟨o, h1, h2⟩ := hpar; exact h.par o h1 h2)
     refine h_cond_t rfl rfl ?_; (repeat (refine H_ldB hp rfl rfl ?_))
     refine h_call rfl Try.func41 (by kernel_rfl) rfl (implCopyNet_h x _ hp.net hS) ?_; rintro _ w ⟨y, ⟨hy, rfl⟩, hq⟩; have hx := hq.x; have hp := hp.call1 hq; refine ops_run nopre rfl ?_; (repeat (first | (refine gStore ?_; refine U_stBN hp rfl rfl rfl rfl ?_; intro w hp; refine ops_run nopre rfl ?_) | (refine gRetc ?_; refine R_ret2v hp rfl ?_)))
     rw [hno]
     exact ⟨y, none, 0, ⟨hy, rfl⟩, ((hp.tk 1).ownN (Ext.refl _) (Own.nil _ _ _ _ _)).f1⟩
    ·refine h_call rfl Try.func39 (by kernel_rfl) rfl (hasParam_h oa oc ops.length ops rfl _ hp.rd hol) ?_; rintro _ w ⟨rfl, hx⟩; have hp := hp.ext hx; refine ops_run nopre rfl ?_; skip
     rw [parB_no hpar]
     (repeat (refine h_guard_y rfl nopre rfl ?_))
     by_cases hwd : 1 ≤ wv ∧ wv ≤ 4
     ·refine h_call rfl Try.func40 (by kernel_rfl) rfl ((inRange_h wv 1 4 _).yes hwd) ?_; rintro _ w ⟨rfl, hx⟩; have hp := hp.ext hx; refine ops_run nopre rfl ?_; (repeat (refine h_guard_y rfl nopre rfl ?_))
      refine h_cond_f rfl rfl ?_; skip
      refine h_loop [1, 2, 3, 4, 8, 44, 45, 46] (fun (i : Nat) => [(1, .slice sa R.length sc), (2, .slice oa ops.length oc), (3, .int .i64 wv), (4, .pointer (some ⟨b4, 0, none⟩)), (8, .pointer (some ⟨b8, 0, none⟩)), (44, .slice sa R.length sc), (45, .int .i64 R.length), (46, .int .i64 (i : Int))])
       (fun i w' => (i ≤ R.length ∧ ∀ j, j < i → (R.getD j default).ins.length ≤ 4 ∧ ∀ z, z ∈ (R.getD j default).ins → litP z (nodesL x.n)) ∧ Hp w0 w' [rB b8 35 (cellsV Try.ti35.zero), rB b4 35 x.cs]) (fun i => R.length - i) 0 rfl ⟨⟨by omega, fun j hj => by omega⟩, hp⟩ ?_
      clear hp
      rintro i w1 ⟨⟨hi, hall⟩, hp⟩ IH C
      refine h_run rfl ?_; skip
      refine h_cond_dec (fun hlt => ?_) (fun hlt => ?_)
      ·have hlt' : i < R.length := by omega
       have hgi := hRg i hlt'
       have hvi := hRv i hlt'
       have hqi := hQ.at_ hlt'
       refine h_cond_t rfl rfl ?_; (repeat (refine H_ldEN hp rfl (by omega) rfl rfl ?_))
       refine h_cond_dec (fun h4 => ?_) (fun h4 => ?_)
       ·have hno := axF_no (n := x.n) (sig := insOf R) (ops := ops) (w := wv) (fun h => by
         have := (h.sg _ (by rw [← insOf_get]; exact getD_mem (by omega) : (R.getD i default).ins ∈ insOf R)).1
         omega)
        refine h_cond_t rfl rfl ?_; (repeat (refine H_ldB hp rfl rfl ?_))
        refine h_call rfl Try.func41 (by kernel_rfl) rfl (implCopyNet_h x _ hp.net hS) ?_; rintro _ w ⟨y, ⟨hy, rfl⟩, hq⟩; have hx := hq.x; have hp := hp.call1 hq; refine ops_run nopre rfl ?_; (repeat (first | (refine gStore ?_; refine U_stBN hp rfl rfl rfl rfl ?_; intro w hp; refine ops_run nopre rfl ?_) | (refine gRetc ?_; refine R_ret2v hp rfl ?_)))
        rw [hno]
        exact ⟨y, none, 0, ⟨hy, rfl⟩, ((hp.tk 1).ownN (Ext.refl _) (Own.nil _ _ _ _ _)).f1⟩
       ·refine h_cond_f rfl rfl ?_; skip
        refine h_loop [1, 2, 3, 4, 8, 44, 45, 46, 55, 56, 57] (fun (j : Nat) => [(1, .slice sa R.length sc), (2, .slice oa ops.length oc), (3, .int .i64 wv), (4, .pointer (some ⟨b4, 0, none⟩)), (8, .pointer (some ⟨b8, 0, none⟩)), (44, .slice sa R.length sc), (45, .int .i64 R.length), (46, .int .i64 (i : Int)), (55, .slice (R.getD i default).ia (R.getD i default).ins.length (R.getD i default).ic), (56, .int .i64 (R.getD i default).ins.length), (57, .int .i64 (j : Int))])
         (fun j w' => (j ≤ (R.getD i default).ins.length ∧ ∀ q, q < j → litP ((R.getD i default).ins.getD q default) (nodesL x.n)) ∧ Hp w0 w' [rB b8 35 (cellsV Try.ti35.zero), rB b4 35 x.cs]) (fun j => (R.getD i default).ins.length - j) 0 rfl ⟨⟨by omega, fun q hq => by omega⟩, hp⟩ ?_
        clear hp
        rintro j w1 ⟨⟨hj, hq⟩, hp⟩ IH2 C
        refine h_run rfl ?_; skip
        refine h_cond_dec (fun hlt2 => ?_) (fun hlt2 => ?_)
        ·have hlj : j < (R.getD i default).ins.length := by omega
         refine h_cond_t rfl rfl ?_; (repeat (refine gLoad ?_; first | refine H_ldB hp rfl rfl ?_ | refine H_ldEN hp rfl (by omega) rfl rfl ?_))
         refine h_call rfl Try.func42 (by kernel_rfl) rfl (nodeCount_h x _ hok.b) ?_; rintro _ w ⟨rfl, hx⟩; have hp := hp.ext hx; refine ops_run nopre rfl ?_; skip
         by_cases hl : litP ((R.getD i default).ins.getD j default) (nodesL x.n)
         ·have hl' := hl
          unfold litP at hl'
          refine h_call rfl Try.func40 (by kernel_rfl) rfl ((inRange_h ((R.getD i default).ins.getD j default) 0 (2 * nodesL x.n - 1) _).yes (by omega)) ?_; rintro _ w ⟨rfl, hx⟩; have hp := hp.ext hx; refine ops_run nopre rfl ?_; skip
          refine h_cond_f rfl rfl ?_; skip
          refine IH2 (j + 1) _ _ _ (by omega) rfl ⟨⟨by omega, fun q hq2 => ?_⟩, hp⟩
          by_cases hqj : q = j
          ·subst hqj; exact hl
          ·exact hq q (by omega)
         ·have hl' := hl
          unfold litP at hl'
          refine h_call rfl Try.func40 (by kernel_rfl) rfl ((inRange_h ((R.getD i default).ins.getD j default) 0 (2 * nodesL x.n - 1) _).no (by omega)) ?_; rintro _ w ⟨rfl, hx⟩; have hp := hp.ext hx; refine ops_run nopre rfl ?_; skip
          have hno := axF_no (n := x.n) (sig := insOf R) (ops := ops) (w := wv) (fun h => hl ((h.sg _ (by rw [← insOf_get]; exact getD_mem (by omega) : (R.getD i default).ins ∈ insOf R)).2 _ (getD_mem hlj)))
          refine h_cond_t rfl rfl ?_; (repeat (refine H_ldB hp rfl rfl ?_))
          refine h_call rfl Try.func41 (by kernel_rfl) rfl (implCopyNet_h x _ hp.net hS) ?_; rintro _ w ⟨y, ⟨hy, rfl⟩, hq⟩; have hx := hq.x; have hp := hp.call1 hq; refine ops_run nopre rfl ?_; (repeat (first | (refine gStore ?_; refine U_stBN hp rfl rfl rfl rfl ?_; intro w hp; refine ops_run nopre rfl ?_) | (refine gRetc ?_; refine R_ret2v hp rfl ?_)))
          rw [hno]
          exact ⟨y, none, 0, ⟨hy, rfl⟩, ((hp.tk 1).ownN (Ext.refl _) (Own.nil _ _ _ _ _)).f1⟩
        ·refine h_cond_f rfl rfl ?_; skip
         refine IH (i + 1) _ _ _ (by omega) rfl ⟨⟨by omega, fun q hq2 => ?_⟩, hp⟩
         by_cases hqi' : q = i
         ·subst hqi'
          exact ⟨by omega, mem_iff_getD.2 fun u hu => hq u (by omega)⟩
         ·exact hall q (by omega)
      ·refine h_cond_f rfl rfl ?_; (repeat (refine H_ldB hp rfl rfl ?_))
       obtain rfl : i = R.length := by omega
       clear IH
       have hsig : ∀ l, l ∈ insOf R → l.length ≤ 4 ∧ ∀ z, z ∈ l → litP z (nodesL x.n) := mem_iff_getD.2 fun u hu => by rw [insOf_get]; exact hall u (by omega)
       have hax : AxP x.n (insOf R) ops wv := ⟨hok, by omega, by rw [hil]; exact hop, fun o ho hk => hpar ⟨o, ho, hk⟩, hwd, hsig⟩
       obtain ⟨ht1, ht2⟩ := treeOf_ok hax.okp hax.par
       obtain ⟨wd, rfl⟩ := Int.eq_ofNat_of_zero_le (show 0 ≤ wv by omega)
       obtain ⟨t, htt⟩ : ∃ t, t = treeOf ops (insOf R).length := ⟨_, rfl⟩
       rw [← htt] at ht1 ht2
       have hlo := hax.okp.len
       refine h_call rfl Try.func41 (by kernel_rfl) rfl (implCopyNet_h x _ hp.net hS) ?_; rintro _ w ⟨y, ⟨hy, rfl⟩, hq⟩; have hx := hq.x; have hp := hp.call1 hq; refine ops_run nopre rfl ?_; skip
       (first | refine H_box hp ?_ | refine H_alloc hp rfl ?_); intro w b14 hx hp; refine ops_run nopre rfl ?_; (repeat (refine U_stBN hp rfl rfl rfl rfl ?_; intro w hp; refine ops_run nopre rfl ?_))
       (first | refine H_box hp ?_ | refine H_alloc hp rfl ?_); intro w bx hx hp; refine ops_run nopre rfl ?_; skip
       have hp := rNet_open (hp.f1.f1.f2)
       have hp := hp.f2.f1.f2.f4.f4
       have hexp := expr_h w0 R sa sc bx b14 wd (by omega) y ops oa oc hlo (by omega) (fun i hi => by have := (hall i hi).1; omega) t [] [] (by simpa using ht1) (by rw [hil] at ht2; exact ht2) (y.n, false) rfl (by show NetOkP y.n; rw [hy]; exact hok) (fun l hl z hz => by show litP z (nodesL y.n); rw [hy]; exact (hsig l hl).2 z hz) y.aa y.ac _ _ inferInstance inferInstance inferInstance hp
       have eR : evA adP (insOf R) wd t (y.n, false) = axR (insOf R) (wd : Int) t x.n := by unfold axR; rw [hy, Int.toNat_natCast]
       rw [eR] at hexp
       refine h_call rfl Try.func43 (by kernel_rfl) rfl (hexp) ?_; rintro _ w ⟨b, c, aa, ac, rfl, hp⟩; refine ops_run nopre rfl ?_; (repeat (refine H_ldB hp rfl rfl ?_))
       cases hb : (axR (insOf R) (wd : Int) t x.n).1.2 with
       | true =>
        have hno := axF_bad (n := x.n) (sig := insOf R) (ops := ops) (w := (wd : Int)) (by rw [← htt]; exact hb)
        refine h_cond_t rfl rfl ?_; (repeat (refine H_ldB hp rfl rfl ?_))
        refine h_call rfl Try.func41 (by kernel_rfl) rfl (implCopyNet_h x _ hp.net hS) ?_; rintro _ w ⟨y, ⟨hy, rfl⟩, hq⟩; have hx := hq.x; have hp := hp.call1 hq; refine ops_run nopre rfl ?_; (repeat (first | (refine gStore ?_; refine U_stBN hp rfl rfl rfl rfl ?_; intro w hp; refine ops_run nopre rfl ?_) | (refine gRetc ?_; refine R_ret2v hp rfl ?_)))
        rw [hno]
        exact ⟨y, none, 0, ⟨hy, rfl⟩, ((hp.tk 1).ownN (Ext.refl _) (Own.nil _ _ _ _ _)).f1⟩
       | false =>
        have hyes := axF_yes (n := x.n) (sig := insOf R) (ops := ops) (w := (wd : Int)) hax (by rw [← htt]; exact hb)
        rw [← htt] at hyes
        have hlen : (axR (insOf R) (wd : Int) t x.n).2.length = wd := by rw [axR_len, Int.toNat_natCast]
        have hlk : (axR (insOf R) (wd : Int) t x.n).1.1 = { y.n with ands := (axR (insOf R) (wd : Int) t x.n).1.1.ands } := by
         have h := (axR_good hax t).le_.1.2
         rw [hy]; exact h
        refine h_cond_f rfl rfl ?_; (repeat (first | (refine gLoad ?_; refine H_ldB hp rfl rfl ?_) | (refine gStore ?_; refine U_stBN hp rfl rfl rfl rfl ?_; intro w hp; refine ops_run nopre rfl ?_) | (refine gRetc ?_; refine R_ret2v hp rfl ?_)))
        rw [hyes]
        refine ⟨y.wA aa ac (axR (insOf R) (wd : Int) t x.n).1.1.ands, b, c, ⟨hlk.symm, rfl⟩, ?_⟩
        exact (rNet_shut (x := y.wA aa ac (axR (insOf R) (wd : Int) t x.n).1.1.ands) (hp.f5.f4.f5)).tk 2
     ·refine h_call rfl Try.func40 (by kernel_rfl) rfl ((inRange_h wv 1 4 _).no hwd) ?_; rintro _ w ⟨rfl, hx⟩; have hp := hp.ext hx; refine ops_run nopre rfl ?_; (repeat (refine h_guard_y rfl nopre rfl ?_))
      have hno := axF_no (n := x.n) (sig := insOf R) (ops := ops) (w := wv) (fun h => hwd h.wid)
      refine h_cond_t rfl rfl ?_; (repeat (refine H_ldB hp rfl rfl ?_))
      refine h_call rfl Try.func41 (by kernel_rfl) rfl (implCopyNet_h x _ hp.net hS) ?_; rintro _ w ⟨y, ⟨hy, rfl⟩, hq⟩; have hx := hq.x; have hp := hp.call1 hq; refine ops_run nopre rfl ?_; (repeat (first | (refine gStore ?_; refine U_stBN hp rfl rfl rfl rfl ?_; intro w hp; refine ops_run nopre rfl ?_) | (refine gRetc ?_; refine R_ret2v hp rfl ?_)))
      rw [hno]
      exact ⟨y, none, 0, ⟨hy, rfl⟩, ((hp.tk 1).ownN (Ext.refl _) (Own.nil _ _ _ _ _)).f1⟩
   ·refine h_call rfl Try.func38 (by kernel_rfl) rfl (implOpsOk_h oa oc ops.length ops rfl R.length _ hp.rd hol hov) ?_; rintro _ w ⟨rfl, hx⟩; have hp := hp.ext hx; refine ops_run nopre rfl ?_; (repeat (refine h_guard_y rfl nopre rfl ?_))
    rw [opsB_no hop]
    (repeat (refine h_guard_n rfl nopre rfl ?_))
    have hno := axF_no (n := x.n) (sig := insOf R) (ops := ops) (w := wv) (fun h => hop (by have := h.okp; rw [hil] at this; exact this))
    refine h_cond_t rfl rfl ?_; (repeat (refine H_ldB hp rfl rfl ?_))
    refine h_call rfl Try.func41 (by kernel_rfl) rfl (implCopyNet_h x _ hp.net hS) ?_; rintro _ w ⟨y, ⟨hy, rfl⟩, hq⟩; have hx := hq.x; have hp := hp.call1 hq; refine ops_run nopre rfl ?_; (repeat (first | (refine gStore ?_; refine U_stBN hp rfl rfl rfl rfl ?_; intro w hp; refine ops_run nopre rfl ?_) | (refine gRetc ?_; refine R_ret2v hp rfl ?_)))
    rw [hno]
    exact ⟨y, none, 0, ⟨hy, rfl⟩, ((hp.tk 1).ownN (Ext.refl _) (Own.nil _ _ _ _ _)).f1⟩
 ·refine h_call rfl Try.func37 (by kernel_rfl) rfl ((implNetOk_h x _ hp.net hS).ff (netOkB_no hok)) ?_; rintro _ w ⟨rfl, hx⟩; have hp := hp.ext hx; refine ops_run nopre rfl ?_; (repeat (refine h_guard_n rfl nopre rfl ?_))
  have hno := axF_no (n := x.n) (sig := insOf R) (ops := ops) (w := wv) (fun h => hok h.net)
  refine h_cond_t rfl rfl ?_; (repeat (refine H_ldB hp rfl rfl ?_))
  refine h_call rfl Try.func41 (by kernel_rfl) rfl (implCopyNet_h x _ hp.net hS) ?_; rintro _ w ⟨y, ⟨hy, rfl⟩, hq⟩; have hx := hq.x; have hp := hp.call1 hq; refine ops_run nopre rfl ?_; (repeat (first | (refine gStore ?_; refine U_stBN hp rfl rfl rfl rfl ?_; intro w hp; refine ops_run nopre rfl ?_) | (refine gRetc ?_; refine R_ret2v hp rfl ?_)))
  rw [hno]
  exact ⟨y, none, 0, ⟨hy, rfl⟩, ((hp.tk 1).ownN (Ext.refl _) (Own.nil _ _ _ _ _)).f1⟩
end Go.Proofs
