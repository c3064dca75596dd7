/- The contract of the reference's AddExpr; under its stated conditions. -/
import Derived.Test.YtiepmliokblkjaaAxE
import Derived.Test.YtiepmliokblkjaaExprA
import Derived.Test.YtiepmliokblkjaaIntSS
import Derived.Test.YtiepmliokblkjaaCopy
set_option linter.all false
namespace Go.Proofs
open Go.Xw
set_option maxRecDepth 100000
set_option maxHeartbeats 2000000
attribute [local irreducible] Holds elemAddr
theorem specAddExpr_x (x : NetA) (sa : Option Addr) (sc : Nat) (R : List (RowA Int)) (oa : Option Addr) (oc : Nat) (ops : List OpL) (wv : Int) (w0 : World) (hX : NetR w0 x) (hS : NetS x.n) (hW : NetW x.n) (hR : Rd w0 sa 1 eRo R) (hQ : RsR w0 R) (hO : Rd w0 oa 3 eOp ops) (hRl : R.length ≤ 1048576) (hRg : ∀ i, i < R.length → (R.getD i default).ins.length ≤ 1048576) (hRv : ∀ i, i < R.length → ∀ j, j < (R.getD i default).ins.length → i64R ((R.getD i default).ins.getD j default)) (hol : ops.length ≤ 1048576) (hov : ∀ i, i < ops.length → i64O (ops.getD i default)) (hw : i64R wv) :
  Ret Try.prog 7 [x.v, .slice sa R.length sc, .slice oa ops.length oc, .int .i64 wv] w0 (fun v w' => ∃ y b c, (y.n = (axF x.n (insOf R) ops wv).1 ∧ v = .tuple ⟨[y.v, .slice b (axF x.n (insOf R) ops wv).2.length c]⟩) ∧ Hp w0 w' [rNet y, rO 3 1 eI b c (axF x.n (insOf R) ops wv).2]) := by
 have hil : (insOf R).length = R.length := insOf_len R
 unfold i64R at hw
 refine enter Try.S7ok _ _ rfl rfl (by show _ ≤ _; simp only [List.length]; decide) (fun C => ?_); have hp := Hp.nil w0; refine h_run rfl ?_; skip; (first | refine H_box hp ?_ | refine H_alloc hp rfl ?_); intro w b4 hx hp; refine ops_run nopre rfl ?_; skip; (first | refine H_box hp ?_ | refine H_alloc hp rfl ?_); intro w b8 hx hp; refine ops_run nopre rfl ?_; (repeat (first | (refine gLoad ?_; refine H_ldB hp rfl rfl ?_) | (refine gBuild ?_; refine U_litI hp rfl rfl rfl rfl rfl rfl rfl rfl rfl rfl ?_; intro w _ hx hp; refine ops_run nopre rfl ?_)))
 by_cases hok : NetOkP x.n
 ·have hc := hok.count
  refine h_call rfl Try.func25 (by kernel_rfl) rfl ((specNetOk_h x _ hp.net hS hW).tt (netOkB_yes hok)) ?_; rintro _ w ⟨rfl, hx⟩; have hp := hp.ext hx; refine ops_run nopre rfl ?_; (repeat (refine h_guard_y rfl nopre rfl ?_))
  refine h_guard_by (fun h30 => ?_) (fun h30 => ?_); all_goals (rw [h30]; (first | replace h30 := of_decide_eq_true h30 | replace h30 := of_decide_eq_false h30 | skip); (repeat (refine gGuard ?_; first | refine h_guard_y rfl nopre rfl ?_ | refine h_guard_n rfl nopre rfl ?_)))
  ·have hno := axF_no (n := x.n) (sig := insOf R) (ops := ops) (w := wv) (fun h => by have := h.cnt; omega)
   refine h_cond_t rfl rfl ?_; (repeat (refine H_ldB hp rfl rfl ?_))
   refine h_call rfl Try.func28 (by kernel_rfl) rfl (specCopyNet_h x _ hp.net hS) ?_; rintro _ w ⟨y, ⟨hy, rfl⟩, hq⟩; have hx := hq.x; have hp := hp.call1 hq; refine ops_run nopre rfl ?_; (repeat (first | (refine gStore ?_; refine U_stBN hp rfl rfl rfl rfl ?_; intro w hp; refine ops_run nopre rfl ?_) | (refine gRetc ?_; refine R_ret2v hp rfl ?_)))
   rw [hno]
   exact ⟨y, _, _, ⟨hy, rfl⟩, hp.tk 2⟩
  ·by_cases hop : OpsOkP ops R.length
   ·refine h_call rfl Try.func26 (by kernel_rfl) rfl (specOpsOk_h oa oc ops.length ops rfl R.length _ hp.rd hol hov) ?_; rintro _ w ⟨rfl, hx⟩; have hp := hp.ext hx; refine ops_run nopre rfl ?_; (repeat (refine h_guard_y rfl nopre rfl ?_))
    rw [opsB_yes hop]
    (repeat (refine h_guard_y rfl nopre rfl ?_))
    by_cases hwd : 1 ≤ wv ∧ wv ≤ 4
    ·refine h_call rfl Try.func27 (by kernel_rfl) rfl ((l01In_h wv 1 4 _).yes hwd) ?_; rintro _ w ⟨rfl, hx⟩; have hp := hp.ext hx; refine ops_run nopre rfl ?_; (repeat (refine h_guard_y rfl nopre rfl ?_))
     refine h_cond_f rfl rfl ?_; skip
     refine h_loop3 [1, 2, 3, 4, 8, 10, 11] (fun (i : Nat) (b10 : Option Addr) (c10 : Nat) => [(1, .slice sa R.length sc), (2, .slice oa ops.length oc), (3, .int .i64 wv), (4, .pointer (some ⟨b4, 0, none⟩)), (8, .pointer (some ⟨b8, 0, none⟩)), (10, .slice b10 0 c10), (11, .int .i64 (i : Int))])
      (fun i b10 c10 w' => (i ≤ R.length ∧ ∀ j, j < i → (R.getD j default).ins.length ≤ 4 ∧ ∀ z, z ∈ (R.getD j default).ins → litP z (nodesL x.n)) ∧ Hp w0 w' [rO 3 1 eI b10 c10 ([] : List Int), rB b8 35 (cellsV Try.ti35.zero), rB b4 35 x.cs]) (fun i _ _ => R.length - i) 0 _ _ rfl ⟨⟨by omega, fun j hj => by omega⟩, hp⟩ ?_
     clear hp
     rintro i b10 c10 w1 ⟨⟨hi, hall⟩, hp⟩ IH C
     refine h_run rfl ?_; skip
     refine h_cond_dec (fun hlt => ?_) (fun hlt => ?_)
     ·have hlt' : i < R.length := by omega
      have hgi := hRg i hlt'
      have hvi := hRv i hlt'
      have hqi := hQ.at_ hlt'
      refine h_cond_t rfl rfl ?_; (repeat (refine H_ldEN hp rfl (by omega) rfl rfl ?_))
      refine h_cond_dec (fun h4 => ?_) (fun h4 => ?_)
      ·have hno := axF_no (n := x.n) (sig := insOf R) (ops := ops) (w := wv) (fun h => by
        have := (h.sg _ (by rw [← insOf_get]; exact getD_mem (by omega) : (R.getD i default).ins ∈ insOf R)).1
        omega)
       refine h_cond_t rfl rfl ?_; (repeat (refine H_ldB hp rfl rfl ?_))
       refine h_call rfl Try.func28 (by kernel_rfl) rfl (specCopyNet_h x _ hp.net hS) ?_; rintro _ w ⟨y, ⟨hy, rfl⟩, hq⟩; have hx := hq.x; have hp := hp.call1 hq; refine ops_run nopre rfl ?_; (repeat (first | (refine gStore ?_; refine U_stBN hp rfl rfl rfl rfl ?_; intro w hp; refine ops_run nopre rfl ?_) | (refine gRetc ?_; refine R_ret2v hp rfl ?_)))
       rw [hno]
       exact ⟨y, _, _, ⟨hy, rfl⟩, hp.tk 2⟩
      ·refine h_cond_f rfl rfl ?_; skip
       refine h_loop [1, 2, 3, 4, 8, 10, 11, 12] (fun (j : Nat) => [(1, .slice sa R.length sc), (2, .slice oa ops.length oc), (3, .int .i64 wv), (4, .pointer (some ⟨b4, 0, none⟩)), (8, .pointer (some ⟨b8, 0, none⟩)), (10, .slice b10 0 c10), (11, .int .i64 (i : Int)), (12, .int .i64 (j : Int))])
        (fun j w' => (j ≤ (R.getD i default).ins.length ∧ ∀ q, q < j → litP ((R.getD i default).ins.getD q default) (nodesL x.n)) ∧ Hp w0 w' [rO 3 1 eI b10 c10 ([] : List Int), rB b8 35 (cellsV Try.ti35.zero), rB b4 35 x.cs]) (fun j => (R.getD i default).ins.length - j) 0 rfl ⟨⟨by omega, fun q hq => by omega⟩, hp⟩ ?_
       clear hp
       rintro j w1 ⟨⟨hj, hq⟩, hp⟩ IH2 C
       refine h_run rfl ?_; (repeat (refine H_ldEN hp rfl (by omega) rfl rfl ?_))
       refine h_cond_dec (fun hlt2 => ?_) (fun hlt2 => ?_)
       ·have hlj : j < (R.getD i default).ins.length := by omega
        have eNC : nodeCountL x.n = nodesL x.n := if_pos hok.size
        refine h_cond_t rfl rfl ?_; skip
        refine D_draw hp (by kernel_rfl) (by kernel_rfl) rfl rfl ?_; intro w hx hp; have hs := hp; (repeat (refine gLoad ?_; first | refine D_ldB rfl rfl rfl ?_ | refine D_ldEN rfl (by omega) rfl rfl rfl ?_))
        refine gCall ?_
        refine h_callq rfl Try.func30 (by kernel_rfl) rfl (specNodeCount_h x _) ?_; rintro _ w ⟨rfl, hx⟩; have hp := hp.ext hx; have hs := hs.ext hx; refine ⟨fun _ => hs, ?_⟩; refine D_ops rfl rfl ?_; skip
        rw [eNC]
        refine h_callq rfl Try.func29 (by kernel_rfl) rfl (l08Lit_h ((R.getD i default).ins.getD j default) (nodesL x.n) _ (hvi j hlj)) ?_; rintro _ w ⟨rfl, hx⟩; have hp := hp.ext hx; have hs := hs.ext hx; refine ⟨fun _ => hs, ?_⟩; refine D_ops rfl rfl ?_; skip
        skip
        by_cases hl : litP ((R.getD i default).ins.getD j default) (nodesL x.n)
        ·rw [decide_eq_true hl]
         refine h_cond_f rfl rfl ?_; skip
         refine IH2 (j + 1) _ _ _ (by omega) rfl ⟨⟨by omega, fun q hq2 => ?_⟩, hp⟩
         by_cases hqj : q = j
         ·subst hqj; exact hl
         ·exact hq q (by omega)
        ·have hno := axF_no (n := x.n) (sig := insOf R) (ops := ops) (w := wv) (fun h => hl ((h.sg _ (by rw [← insOf_get]; exact getD_mem (by omega) : (R.getD i default).ins ∈ insOf R)).2 _ (getD_mem hlj)))
         rw [decide_eq_false hl]
         refine h_cond_t rfl rfl ?_; (repeat (refine H_ldB hp rfl rfl ?_))
         refine h_call rfl Try.func28 (by kernel_rfl) rfl (specCopyNet_h x _ hp.net hS) ?_; rintro _ w ⟨y, ⟨hy, rfl⟩, hq⟩; have hx := hq.x; have hp := hp.call1 hq; refine ops_run nopre rfl ?_; (repeat (first | (refine gStore ?_; refine U_stBN hp rfl rfl rfl rfl ?_; intro w hp; refine ops_run nopre rfl ?_) | (refine gRetc ?_; refine R_ret2v hp rfl ?_)))
         rw [hno]
         exact ⟨y, _, _, ⟨hy, rfl⟩, hp.tk 2⟩
       ·refine h_cond_f rfl rfl ?_; skip
        refine IH (i + 1) b10 c10 _ _ _ (by omega) rfl ⟨⟨by omega, fun q hq2 => ?_⟩, hp⟩
        by_cases hqi' : q = i
        ·subst hqi'
         exact ⟨by omega, mem_iff_getD.2 fun u hu => hq u (by omega)⟩
        ·exact hall q (by omega)
     ·refine h_cond_f rfl rfl ?_; skip
      obtain rfl : i = R.length := by omega
      clear IH
      refine h_loop [1, 2, 3, 4, 8, 10, 13] (fun (j : Nat) => [(1, .slice sa R.length sc), (2, .slice oa ops.length oc), (3, .int .i64 wv), (4, .pointer (some ⟨b4, 0, none⟩)), (8, .pointer (some ⟨b8, 0, none⟩)), (10, .slice b10 0 c10), (13, .int .i64 (j : Int))])
       (fun j w' => (j ≤ ops.length ∧ ∀ q, q < j → (ops.getD q default).kind ≠ 1) ∧ Hp w0 w' [rO 3 1 eI b10 c10 ([] : List Int), rB b8 35 (cellsV Try.ti35.zero), rB b4 35 x.cs]) (fun j => ops.length - j) 0 rfl ⟨⟨by omega, fun q hq => by omega⟩, hp⟩ ?_
      clear hp
      rintro j w1 ⟨⟨hj, hq⟩, hp⟩ IH2 C
      refine h_run rfl ?_; skip
      refine h_cond_dec (fun hlt2 => ?_) (fun hlt2 => ?_)
      ·have hlj : j < ops.length := by omega
       refine h_cond_t rfl rfl ?_; (repeat (refine H_ldFN hp rfl (by omega) rfl rfl ?_))
       refine h_cond_dec (fun h1 => ?_) (fun h1 => ?_)
       ·have hno := axF_no (n := x.n) (sig := insOf R) (ops := ops) (w := wv) (fun h => h.par _ (getD_mem hlj) (by omega))
        refine h_cond_t rfl rfl ?_; (repeat (refine H_ldB hp rfl rfl ?_))
        refine h_call rfl Try.func28 (by kernel_rfl) rfl (specCopyNet_h x _ hp.net hS) ?_; rintro _ w ⟨y, ⟨hy, rfl⟩, hq⟩; have hx := hq.x; have hp := hp.call1 hq; refine ops_run nopre rfl ?_; (repeat (first | (refine gStore ?_; refine U_stBN hp rfl rfl rfl rfl ?_; intro w hp; refine ops_run nopre rfl ?_) | (refine gRetc ?_; refine R_ret2v hp rfl ?_)))
        rw [hno]
        exact ⟨y, _, _, ⟨hy, rfl⟩, hp.tk 2⟩
       ·refine h_cond_f rfl rfl ?_; skip
        refine IH2 (j + 1) _ _ _ (by omega) rfl ⟨⟨by omega, fun q hq2 => ?_⟩, hp⟩
        by_cases hqj : q = j
        ·subst hqj; exact h1
        ·exact hq q (by omega)
      ·refine h_cond_f rfl rfl ?_; (repeat (refine H_ldB hp rfl rfl ?_))
       obtain rfl : j = ops.length := by omega
       clear IH2
       have hsig : ∀ l, l ∈ insOf R → l.length ≤ 4 ∧ ∀ z, z ∈ l → litP z (nodesL x.n) := mem_iff_getD.2 fun u hu => by rw [insOf_get]; exact hall u (by omega)
       have hax : AxP x.n (insOf R) ops wv := ⟨hok, by omega, by rw [hil]; exact hop, mem_iff_getD.2 hq, hwd, hsig⟩
       obtain ⟨ht1, ht2⟩ := treeOf_ok hax.okp hax.par
       have href := axR_ref hax (treeOf ops (insOf R).length)
       obtain ⟨wd, rfl⟩ := Int.eq_ofNat_of_zero_le (show 0 ≤ wv by omega)
       obtain ⟨t, htt⟩ : ∃ t, t = treeOf ops (insOf R).length := ⟨_, rfl⟩
       rw [← htt] at ht1 ht2 href
       rw [Int.toNat_natCast] at href
       have hlo := hax.okp.len
       have hcall := l11Expr_h R sa sc wd (by omega) ops oa oc hlo (by omega) (fun i hi => by have := (hall i hi).1; omega) t [] [] (by simpa using ht1) (by rw [hil] at ht2; exact ht2) x _ hp.net hok (fun l hl => (hsig l hl).2) hp.rd hp.rs hp.rd
       have hrl := evA_len adR (insOf R) wd t x.n
       obtain ⟨r, hr⟩ : ∃ r, r = evA adR (insOf R) wd t x.n := ⟨_, rfl⟩
       have gd := ev_good adR_ok (sig := insOf R) wd t hok (fun l hl z hz => .inl ((hsig l hl).2 z hz))
       rw [← hr] at hcall href gd hrl
       refine h_call rfl Try.func31 (by kernel_rfl) rfl hcall ?_
       rintro _ w ⟨y1, ba1, ca1, ⟨hy1, rfl⟩, hq'⟩
       obtain ⟨L1, hp, hN1, hd1⟩ := Hp.nextN (K := [_, _, _]) (L := []) hp hq'
       have hp : Hp w0 _ (_ :: _ :: _ :: _ :: L1) := hp
       clear hq' hcall
       refine ops_run nopre rfl ?_; skip
       (first | refine H_box hp ?_ | refine H_alloc hp rfl ?_); intro w b14 hx hp; refine ops_run nopre rfl ?_; (repeat (refine U_stBN hp rfl rfl rfl rfl ?_; intro w hp; refine ops_run nopre rfl ?_))
       have ok1 : NetOkP y1.n := by rw [hy1]; exact gd.i
       refine h_call rfl Try.func32 (by kernel_rfl) rfl (l11Right_h ba1 ca1 wd r.2 hrl _ hp.rd (by omega)) ?_; rintro _ w ⟨rfl, hx⟩; have hp := hp.ext hx; refine ops_run nopre rfl ?_; skip
       rcases href with ⟨hb, he, hpos⟩ | ⟨hb, hneg⟩
       ·have hyes := axF_yes (n := x.n) (sig := insOf R) (ops := ops) (w := (wd : Int)) hax (by rw [← htt]; exact hb)
        rw [← htt] at hyes
        have er1 : r.1 = (axR (insOf R) (wd : Int) t x.n).1.1 := by rw [he]
        have er2 : r.2 = (axR (insOf R) (wd : Int) t x.n).2 := by rw [he]
        rw [hyes, ← er1, ← er2]
        rw [decide_eq_true (fun z (hz : z ∈ r.2) => hpos z (by rw [← er2]; exact hz))]
        skip
        refine h_cond_f rfl rfl ?_; (repeat (refine H_ldB hp rfl rfl ?_))
        refine h_call rfl Try.func28 (by kernel_rfl) rfl (specCopyNet_h y1 _ hp.net ok1.S') ?_; rintro _ w ⟨y, ⟨hy, rfl⟩, hq⟩; have hx := hq.x; have hp := hp.call1 hq; refine ops_run nopre rfl ?_; (repeat (first | (refine gStore ?_; refine U_stBN hp rfl rfl rfl rfl ?_; intro w hp; refine ops_run nopre rfl ?_) | (refine gRetc ?_; refine R_ret2v hp rfl ?_)))
        exact ⟨y, ba1, ca1, ⟨by rw [hy, hy1], by rw [hrl]; rfl⟩, (hp.f2.f1).tk 2⟩
       ·have hno := axF_bad (n := x.n) (sig := insOf R) (ops := ops) (w := (wd : Int)) (by rw [← htt]; exact hb)
        rw [decide_eq_false (by intro hh; obtain ⟨z, hz, hz0⟩ := hneg; exact absurd (hh z hz) (by omega))]
        skip
        refine h_cond_t rfl rfl ?_; (repeat (refine H_ldB hp rfl rfl ?_))
        refine h_call rfl Try.func28 (by kernel_rfl) rfl (specCopyNet_h x _ hp.net hS) ?_; rintro _ w ⟨y, ⟨hy, rfl⟩, hq⟩; have hx := hq.x; have hp := hp.call1 hq; refine ops_run nopre rfl ?_; (repeat (first | (refine gStore ?_; refine U_stBN hp rfl rfl rfl rfl ?_; intro w hp; refine ops_run nopre rfl ?_) | (refine gRetc ?_; refine R_ret2v hp rfl ?_)))
        rw [hno]
        exact ⟨y, b10, c10, ⟨hy, rfl⟩, (hp.f3.f1).tk 2⟩
    ·refine h_call rfl Try.func27 (by kernel_rfl) rfl ((l01In_h wv 1 4 _).no hwd) ?_; rintro _ w ⟨rfl, hx⟩; have hp := hp.ext hx; refine ops_run nopre rfl ?_; (repeat (refine h_guard_y rfl nopre rfl ?_))
     have hno := axF_no (n := x.n) (sig := insOf R) (ops := ops) (w := wv) (fun h => hwd h.wid)
     refine h_cond_t rfl rfl ?_; (repeat (refine H_ldB hp rfl rfl ?_))
     refine h_call rfl Try.func28 (by kernel_rfl) rfl (specCopyNet_h x _ hp.net hS) ?_; rintro _ w ⟨y, ⟨hy, rfl⟩, hq⟩; have hx := hq.x; have hp := hp.call1 hq; refine ops_run nopre rfl ?_; (repeat (first | (refine gStore ?_; refine U_stBN hp rfl rfl rfl rfl ?_; intro w hp; refine ops_run nopre rfl ?_) | (refine gRetc ?_; refine R_ret2v hp rfl ?_)))
     rw [hno]
     exact ⟨y, _, _, ⟨hy, rfl⟩, hp.tk 2⟩
   ·refine h_call rfl Try.func26 (by kernel_rfl) rfl (specOpsOk_h oa oc ops.length ops rfl R.length _ hp.rd hol hov) ?_; rintro _ w ⟨rfl, hx⟩; have hp := hp.ext hx; refine ops_run nopre rfl ?_; (repeat (refine h_guard_y rfl nopre rfl ?_))
    rw [opsB_no hop]
    (repeat (refine h_guard_n rfl nopre rfl ?_))
    have hno := axF_no (n := x.n) (sig := insOf R) (ops := ops) (w := wv) (fun h => hop (by have := h.okp; rw [hil] at this; exact this))
    refine h_cond_t rfl rfl ?_; (repeat (refine H_ldB hp rfl rfl ?_))
    refine h_call rfl Try.func28 (by kernel_rfl) rfl (specCopyNet_h x _ hp.net hS) ?_; rintro _ w ⟨y, ⟨hy, rfl⟩, hq⟩; have hx := hq.x; have hp := hp.call1 hq; refine ops_run nopre rfl ?_; (repeat (first | (refine gStore ?_; refine U_stBN hp rfl rfl rfl rfl ?_; intro w hp; refine ops_run nopre rfl ?_) | (refine gRetc ?_; refine R_ret2v hp rfl ?_)))
    rw [hno]
    exact ⟨y, _, _, ⟨hy, rfl⟩, hp.tk 2⟩
 ·refine h_call rfl Try.func25 (by kernel_rfl) rfl ((specNetOk_h x _ hp.net hS hW).ff (netOkB_no hok)) ?_; rintro _ w ⟨rfl, hx⟩; have hp := hp.ext hx; refine ops_run nopre rfl ?_; (repeat (refine h_guard_n rfl nopre rfl ?_))
  have hno := axF_no (n := x.n) (sig := insOf R) (ops := ops) (w := wv) (fun h => hok h.net)
  refine h_cond_t rfl rfl ?_; (repeat (refine H_ldB hp rfl rfl ?_))
  refine h_call rfl Try.func28 (by kernel_rfl) rfl (specCopyNet_h x _ hp.net hS) ?_; rintro _ w ⟨y, ⟨hy, rfl⟩, hq⟩; have hx := hq.x; have hp := hp.call1 hq; refine ops_run nopre rfl ?_; (repeat (first | (refine gStore ?_; refine U_stBN hp rfl rfl rfl rfl ?_; intro w hp; refine ops_run nopre rfl ?_) | (refine gRetc ?_; refine R_ret2v hp rfl ?_)))
  rw [hno]
  exact ⟨y, _, _, ⟨hy, rfl⟩, hp.tk 2⟩
end Go.Proofs
