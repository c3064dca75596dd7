/- Texts that belong together; each under its stated conditions. -/
import Derived.Test.YtiepmliokblkjaaGreatAxE
import Derived.Test.YtiepmliokblkjaaGreatModR
import Derived.Test.YtiepmliokblkjaaGreatAxS
import Derived.Test.YtiepmliokblkjaaGreatAddLaw
import Derived.Test.YtiepmliokblkjaaGreatFlatI
set_option linter.all false
section
namespace Go.Proofs
open Go.Xw
set_option maxRecDepth 100000
set_option maxHeartbeats 2000000
attribute [local irreducible] Holds elemAddr
theorem specAddExpr_x (x : NetA) (sa : Option Addr) (sc : Nat) (R : List (RowA Int)) (oa : Option Addr) (oc : Nat) (ops : List OpL) (wv : Int) (w0 : World) (hX : NetR w0 x) (hS : NetS x.n) (hW : NetW x.n) (hR : Rd w0 sa 1 eRo R) (hQ : RsR w0 R) (hO : Rd w0 oa 3 eOp ops) (hRl : R.length ≤ 1048576) (hRg : ∀ i, i < R.length → (R.getD i default).ins.length ≤ 1048576) (hRv : ∀ i, i < R.length → ∀ j, j < (R.getD i default).ins.length → i64R ((R.getD i default).ins.getD j default)) (hol : ops.length ≤ 1048576) (hov : ∀ i, i < ops.length → i64O (ops.getD i default)) (hw : i64R wv) :
  Ret Tryz.prog 30 [x.v, .slice sa R.length sc, .slice oa ops.length oc, .int .i64 wv] w0 (fun v w' => ∃ y b c, (y.n = (axF x.n (insOf R) ops wv).1 ∧ v = .tuple ⟨[y.v, .slice b (axF x.n (insOf R) ops wv).2.length c]⟩) ∧ Hp w0 w' [rNet y, rO 3 1 eI b c (axF x.n (insOf R) ops wv).2]) := by
 have hil : (insOf R).length = R.length := insOf_len R
 unfold i64R at hw
 refine enter Tryz.S30ok _ _ rfl rfl (by show _ ≤ _; simp only [List.length]; decide) (fun C => ?_); have hp := Hp.nil w0; refine h_run rfl ?_; skip; (first | refine H_box hp ?_ | refine H_alloc hp rfl ?_); intro w b4 hx hp; refine ops_run nopre rfl ?_; skip; (first | refine H_box hp ?_ | refine H_alloc hp rfl ?_); intro w b8 hx hp; refine ops_run nopre rfl ?_; (repeat (first | (refine gLoad ?_; refine H_ldB hp rfl rfl ?_) | (refine gBuild ?_; refine U_litI hp rfl rfl rfl rfl rfl rfl rfl rfl rfl rfl ?_; intro w _ hx hp; refine ops_run nopre rfl ?_)))
 by_cases hok : NetOkP x.n
 ·have hc := hok.count
  refine h_call rfl Tryz.func77 (by kernel_rfl) rfl ((specNetOk_h x _ hp.net hS hW).tt (netOkB_yes hok)) ?_; rintro _ w ⟨rfl, hx⟩; have hp := hp.ext hx; refine ops_run nopre rfl ?_; (repeat (refine h_guard_y rfl nopre rfl ?_))
  refine h_guard_by (fun h30 => ?_) (fun h30 => ?_); all_goals (rw [h30]; (first | replace h30 := of_decide_eq_true h30 | replace h30 := of_decide_eq_false h30 | skip); (repeat (refine gGuard ?_; first | refine h_guard_y rfl nopre rfl ?_ | refine h_guard_n rfl nopre rfl ?_)))
  ·have hno := axF_no (n := x.n) (sig := insOf R) (ops := ops) (w := wv) (fun h => by have := h.cnt; omega)
   refine h_cond_t rfl rfl ?_; (repeat (refine H_ldB hp rfl rfl ?_))
   refine h_call rfl Tryz.func80 (by kernel_rfl) rfl (specCopyNet_h x _ hp.net hS) ?_; rintro _ w ⟨y, ⟨hy, rfl⟩, hq⟩; have hx := hq.x; have hp := hp.call1 hq; refine ops_run nopre rfl ?_; (repeat (first | (refine gStore ?_; refine U_stBN hp rfl rfl rfl rfl ?_; intro w hp; refine ops_run nopre rfl ?_) | (refine gRetc ?_; refine R_ret2v hp rfl ?_)))
   rw [hno]
   exact ⟨y, _, _, ⟨hy, rfl⟩, hp.tk 2⟩
  ·by_cases hop : OpsOkP ops R.length
   ·refine h_call rfl Tryz.func78 (by kernel_rfl) rfl (specOpsOk_h oa oc ops.length ops rfl R.length _ hp.rd hol hov) ?_; rintro _ w ⟨rfl, hx⟩; have hp := hp.ext hx; refine ops_run nopre rfl ?_; (repeat (refine h_guard_y rfl nopre rfl ?_))
    rw [opsB_yes hop]
    (repeat (refine h_guard_y rfl nopre rfl ?_))
    by_cases hwd : 1 ≤ wv ∧ wv ≤ 4
    ·refine h_call rfl Tryz.func79 (by kernel_rfl) rfl ((l01In_h wv 1 4 _).yes hwd) ?_; rintro _ w ⟨rfl, hx⟩; have hp := hp.ext hx; refine ops_run nopre rfl ?_; (repeat (refine h_guard_y rfl nopre rfl ?_))
     refine h_cond_f rfl rfl ?_; skip
     refine h_loop3 [1, 2, 3, 4, 8, 10, 11] (fun (i : Nat) (b10 : Option Addr) (c10 : Nat) => [(1, .slice sa R.length sc), (2, .slice oa ops.length oc), (3, .int .i64 wv), (4, .pointer (some ⟨b4, 0, none⟩)), (8, .pointer (some ⟨b8, 0, none⟩)), (10, .slice b10 0 c10), (11, .int .i64 (i : Int))])
      (fun i b10 c10 w' => (i ≤ R.length ∧ ∀ j, j < i → (R.getD j default).ins.length ≤ 4 ∧ ∀ z, z ∈ (R.getD j default).ins → litP z (nodesL x.n)) ∧ Hp w0 w' [rO 3 1 eI b10 c10 ([] : List Int), rB b8 33 (cellsV Tryz.ti33.zero), rB b4 33 x.cs]) (fun i _ _ => R.length - i) 0 _ _ rfl ⟨⟨by omega, fun j hj => by omega⟩, hp⟩ ?_
     clear hp
     rintro i b10 c10 w1 ⟨⟨hi, hall⟩, hp⟩ IH C
     refine h_run rfl ?_; skip
     refine h_cond_dec (fun hlt => ?_) (fun hlt => ?_)
     ·have hlt' : i < R.length := by omega
      have hgi := hRg i hlt'
      have hvi := hRv i hlt'
      have hqi := hQ.at_ hlt'
      refine h_cond_t rfl rfl ?_; (repeat (refine H_ldEN hp rfl (by omega) rfl rfl ?_))
      refine h_cond_dec (fun h4 => ?_) (fun h4 => ?_)
      ·have hno := axF_no (n := x.n) (sig := insOf R) (ops := ops) (w := wv) (fun h => by
        have := (h.sg _ (by rw [← insOf_get]; exact getD_mem (by omega) : (R.getD i default).ins ∈ insOf R)).1
        omega)
       refine h_cond_t rfl rfl ?_; (repeat (refine H_ldB hp rfl rfl ?_))
       refine h_call rfl Tryz.func80 (by kernel_rfl) rfl (specCopyNet_h x _ hp.net hS) ?_; rintro _ w ⟨y, ⟨hy, rfl⟩, hq⟩; have hx := hq.x; have hp := hp.call1 hq; refine ops_run nopre rfl ?_; (repeat (first | (refine gStore ?_; refine U_stBN hp rfl rfl rfl rfl ?_; intro w hp; refine ops_run nopre rfl ?_) | (refine gRetc ?_; refine R_ret2v hp rfl ?_)))
       rw [hno]
       exact ⟨y, _, _, ⟨hy, rfl⟩, hp.tk 2⟩
      ·refine h_cond_f rfl rfl ?_; skip
       refine h_loop [1, 2, 3, 4, 8, 10, 11, 12] (fun (j : Nat) => [(1, .slice sa R.length sc), (2, .slice oa ops.length oc), (3, .int .i64 wv), (4, .pointer (some ⟨b4, 0, none⟩)), (8, .pointer (some ⟨b8, 0, none⟩)), (10, .slice b10 0 c10), (11, .int .i64 (i : Int)), (12, .int .i64 (j : Int))])
        (fun j w' => (j ≤ (R.getD i default).ins.length ∧ ∀ q, q < j → litP ((R.getD i default).ins.getD q default) (nodesL x.n)) ∧ Hp w0 w' [rO 3 1 eI b10 c10 ([] : List Int), rB b8 33 (cellsV Tryz.ti33.zero), rB b4 33 x.cs]) (fun j => (R.getD i default).ins.length - j) 0 rfl ⟨⟨by omega, fun q hq => by omega⟩, hp⟩ ?_
       clear hp
       rintro j w1 ⟨⟨hj, hq⟩, hp⟩ IH2 C
       refine h_run rfl ?_; (repeat (refine H_ldEN hp rfl (by omega) rfl rfl ?_))
       refine h_cond_dec (fun hlt2 => ?_) (fun hlt2 => ?_)
       ·have hlj : j < (R.getD i default).ins.length := by omega
        have eNC : nodeCountL x.n = nodesL x.n := if_pos hok.size
        refine h_cond_t rfl rfl ?_; skip
        refine D_draw hp (by kernel_rfl) (by kernel_rfl) rfl rfl ?_; intro w hx hp; have hs := hp; (repeat (refine gLoad ?_; first | refine D_ldB rfl rfl rfl ?_ | refine D_ldEN rfl (by omega) rfl rfl rfl ?_))
        refine gCall ?_
        refine h_callq rfl Tryz.func82 (by kernel_rfl) rfl (specNodeCount_h x _) ?_; rintro _ w ⟨rfl, hx⟩; have hp := hp.ext hx; have hs := hs.ext hx; refine ⟨fun _ => hs, ?_⟩; refine D_ops rfl rfl ?_; skip
        rw [eNC]
        refine h_callq rfl Tryz.func81 (by kernel_rfl) rfl (l08Lit_h ((R.getD i default).ins.getD j default) (nodesL x.n) _ (hvi j hlj)) ?_; rintro _ w ⟨rfl, hx⟩; have hp := hp.ext hx; have hs := hs.ext hx; refine ⟨fun _ => hs, ?_⟩; refine D_ops rfl rfl ?_; skip
        skip
        by_cases hl : litP ((R.getD i default).ins.getD j default) (nodesL x.n)
        ·rw [decide_eq_true hl]
         refine h_cond_f rfl rfl ?_; skip
         refine IH2 (j + 1) _ _ _ (by omega) rfl ⟨⟨by omega, fun q hq2 => ?_⟩, hp⟩
         by_cases hqj : q = j
         ·subst hqj; exact hl
         ·exact hq q (by omega)
        ·have hno := axF_no (n := x.n) (sig := insOf R) (ops := ops) (w := wv) (fun h => hl ((h.sg _ (by rw [← insOf_get]; exact getD_mem (by omega) : (R.getD i default).ins ∈ insOf R)).2 _ (getD_mem hlj)))
         rw [decide_eq_false hl]
         refine h_cond_t rfl rfl ?_; (repeat (refine H_ldB hp rfl rfl ?_))
         refine h_call rfl Tryz.func80 (by kernel_rfl) rfl (specCopyNet_h x _ hp.net hS) ?_; rintro _ w ⟨y, ⟨hy, rfl⟩, hq⟩; have hx := hq.x; have hp := hp.call1 hq; refine ops_run nopre rfl ?_; (repeat (first | (refine gStore ?_; refine U_stBN hp rfl rfl rfl rfl ?_; intro w hp; refine ops_run nopre rfl ?_) | (refine gRetc ?_; refine R_ret2v hp rfl ?_)))
         rw [hno]
         exact ⟨y, _, _, ⟨hy, rfl⟩, hp.tk 2⟩
       ·refine h_cond_f rfl rfl ?_; skip
        refine IH (i + 1) b10 c10 _ _ _ (by omega) rfl ⟨⟨by omega, fun q hq2 => ?_⟩, hp⟩
        by_cases hqi' : q = i
        ·subst hqi'
         exact ⟨by omega, mem_iff_getD.2 fun u hu => hq u (by omega)⟩
        ·exact hall q (by omega)
     ·refine h_cond_f rfl rfl ?_; skip
      obtain rfl : i = R.length := by omega
      clear IH
      refine h_loop [1, 2, 3, 4, 8, 10, 13] (fun (j : Nat) => [(1, .slice sa R.length sc), (2, .slice oa ops.length oc), (3, .int .i64 wv), (4, .pointer (some ⟨b4, 0, none⟩)), (8, .pointer (some ⟨b8, 0, none⟩)), (10, .slice b10 0 c10), (13, .int .i64 (j : Int))])
       (fun j w' => (j ≤ ops.length ∧ ∀ q, q < j → (ops.getD q default).kind ≠ 1) ∧ Hp w0 w' [rO 3 1 eI b10 c10 ([] : List Int), rB b8 33 (cellsV Tryz.ti33.zero), rB b4 33 x.cs]) (fun j => ops.length - j) 0 rfl ⟨⟨by omega, fun q hq => by omega⟩, hp⟩ ?_
      clear hp
      rintro j w1 ⟨⟨hj, hq⟩, hp⟩ IH2 C
      refine h_run rfl ?_; skip
      refine h_cond_dec (fun hlt2 => ?_) (fun hlt2 => ?_)
      ·have hlj : j < ops.length := by omega
       refine h_cond_t rfl rfl ?_; (repeat (refine H_ldFN hp rfl (by omega) rfl rfl ?_))
       refine h_cond_dec (fun h1 => ?_) (fun h1 => ?_)
       ·have hno := axF_no (n := x.n) (sig := insOf R) (ops := ops) (w := wv) (fun h => h.par _ (getD_mem hlj) (by omega))
        refine h_cond_t rfl rfl ?_; (repeat (refine H_ldB hp rfl rfl ?_))
        refine h_call rfl Tryz.func80 (by kernel_rfl) rfl (specCopyNet_h x _ hp.net hS) ?_; rintro _ w ⟨y, ⟨hy, rfl⟩, hq⟩; have hx := hq.x; have hp := hp.call1 hq; refine ops_run nopre rfl ?_; (repeat (first | (refine gStore ?_; refine U_stBN hp rfl rfl rfl rfl ?_; intro w hp; refine ops_run nopre rfl ?_) | (refine gRetc ?_; refine R_ret2v hp rfl ?_)))
        rw [hno]
        exact ⟨y, _, _, ⟨hy, rfl⟩, hp.tk 2⟩
       ·refine h_cond_f rfl rfl ?_; skip
        refine IH2 (j + 1) _ _ _ (by omega) rfl ⟨⟨by omega, fun q hq2 => ?_⟩, hp⟩
        by_cases hqj : q = j
        ·subst hqj; exact h1
        ·exact hq q (by omega)
      ·refine h_cond_f rfl rfl ?_; (repeat (refine H_ldB hp rfl rfl ?_))
       obtain rfl : j = ops.length := by omega
       clear IH2
       have hsig : ∀ l, l ∈ insOf R → l.length ≤ 4 ∧ ∀ z, z ∈ l → litP z (nodesL x.n) := mem_iff_getD.2 fun u hu => by rw [insOf_get]; exact hall u (by omega)
       have hax : AxP x.n (insOf R) ops wv := ⟨hok, by omega, by rw [hil]; exact hop, mem_iff_getD.2 hq, hwd, hsig⟩
       obtain ⟨ht1, ht2⟩ := treeOf_ok hax.okp hax.par
       have href := axR_ref hax (treeOf ops (insOf R).length)
       obtain ⟨wd, rfl⟩ := Int.eq_ofNat_of_zero_le (show 0 ≤ wv by omega)
       obtain ⟨t, htt⟩ : ∃ t, t = treeOf ops (insOf R).length := ⟨_, rfl⟩
       rw [← htt] at ht1 ht2 href
       rw [Int.toNat_natCast] at href
       have hlo := hax.okp.len
       have hcall := l11Expr_h R sa sc wd (by omega) ops oa oc hlo (by omega) (fun i hi => by have := (hall i hi).1; omega) t [] [] (by simpa using ht1) (by rw [hil] at ht2; exact ht2) x _ hp.net hok (fun l hl => (hsig l hl).2) hp.rd hp.rs hp.rd
       have hrl := evA_len adR (insOf R) wd t x.n
       obtain ⟨r, hr⟩ : ∃ r, r = evA adR (insOf R) wd t x.n := ⟨_, rfl⟩
       have gd := ev_good adR_ok (sig := insOf R) wd t hok (fun l hl z hz => .inl ((hsig l hl).2 z hz))
       rw [← hr] at hcall href gd hrl
       refine h_call rfl Tryz.func83 (by kernel_rfl) rfl hcall ?_
       rintro _ w ⟨y1, ba1, ca1, ⟨hy1, rfl⟩, hq'⟩
       obtain ⟨L1, hp, hN1, hd1⟩ := Hp.nextN (K := [_, _, _]) (L := []) hp hq'
       have hp : Hp w0 _ (_ :: _ :: _ :: _ :: L1) := hp
       clear hq' hcall
       refine ops_run nopre rfl ?_; skip
       (first | refine H_box hp ?_ | refine H_alloc hp rfl ?_); intro w b14 hx hp; refine ops_run nopre rfl ?_; (repeat (refine U_stBN hp rfl rfl rfl rfl ?_; intro w hp; refine ops_run nopre rfl ?_))
       have ok1 : NetOkP y1.n := by rw [hy1]; exact gd.i
       refine h_call rfl Tryz.func84 (by kernel_rfl) rfl (l11Right_h ba1 ca1 wd r.2 hrl _ hp.rd (by omega)) ?_; rintro _ w ⟨rfl, hx⟩; have hp := hp.ext hx; refine ops_run nopre rfl ?_; skip
       rcases href with ⟨hb, he, hpos⟩ | ⟨hb, hneg⟩
       ·have hyes := axF_yes (n := x.n) (sig := insOf R) (ops := ops) (w := (wd : Int)) hax (by rw [← htt]; exact hb)
        rw [← htt] at hyes
        have er1 : r.1 = (axR (insOf R) (wd : Int) t x.n).1.1 := by rw [he]
        have er2 : r.2 = (axR (insOf R) (wd : Int) t x.n).2 := by rw [he]
        rw [hyes, ← er1, ← er2]
        rw [decide_eq_true (fun z (hz : z ∈ r.2) => hpos z (by rw [← er2]; exact hz))]
        skip
        refine h_cond_f rfl rfl ?_; (repeat (refine H_ldB hp rfl rfl ?_))
        refine h_call rfl Tryz.func80 (by kernel_rfl) rfl (specCopyNet_h y1 _ hp.net ok1.S') ?_; rintro _ w ⟨y, ⟨hy, rfl⟩, hq⟩; have hx := hq.x; have hp := hp.call1 hq; refine ops_run nopre rfl ?_; (repeat (first | (refine gStore ?_; refine U_stBN hp rfl rfl rfl rfl ?_; intro w hp; refine ops_run nopre rfl ?_) | (refine gRetc ?_; refine R_ret2v hp rfl ?_)))
        exact ⟨y, ba1, ca1, ⟨by rw [hy, hy1], by rw [hrl]; rfl⟩, (hp.f2.f1).tk 2⟩
       ·have hno := axF_bad (n := x.n) (sig := insOf R) (ops := ops) (w := (wd : Int)) (by rw [← htt]; exact hb)
        rw [decide_eq_false (by intro hh; obtain ⟨z, hz, hz0⟩ := hneg; exact absurd (hh z hz) (by omega))]
        skip
        refine h_cond_t rfl rfl ?_; (repeat (refine H_ldB hp rfl rfl ?_))
        refine h_call rfl Tryz.func80 (by kernel_rfl) rfl (specCopyNet_h x _ hp.net hS) ?_; rintro _ w ⟨y, ⟨hy, rfl⟩, hq⟩; have hx := hq.x; have hp := hp.call1 hq; refine ops_run nopre rfl ?_; (repeat (first | (refine gStore ?_; refine U_stBN hp rfl rfl rfl rfl ?_; intro w hp; refine ops_run nopre rfl ?_) | (refine gRetc ?_; refine R_ret2v hp rfl ?_)))
        rw [hno]
        exact ⟨y, b10, c10, ⟨hy, rfl⟩, (hp.f3.f1).tk 2⟩
    ·refine h_call rfl Tryz.func79 (by kernel_rfl) rfl ((l01In_h wv 1 4 _).no hwd) ?_; rintro _ w ⟨rfl, hx⟩; have hp := hp.ext hx; refine ops_run nopre rfl ?_; (repeat (refine h_guard_y rfl nopre rfl ?_))
     have hno := axF_no (n := x.n) (sig := insOf R) (ops := ops) (w := wv) (fun h => hwd h.wid)
     refine h_cond_t rfl rfl ?_; (repeat (refine H_ldB hp rfl rfl ?_))
     refine h_call rfl Tryz.func80 (by kernel_rfl) rfl (specCopyNet_h x _ hp.net hS) ?_; rintro _ w ⟨y, ⟨hy, rfl⟩, hq⟩; have hx := hq.x; have hp := hp.call1 hq; refine ops_run nopre rfl ?_; (repeat (first | (refine gStore ?_; refine U_stBN hp rfl rfl rfl rfl ?_; intro w hp; refine ops_run nopre rfl ?_) | (refine gRetc ?_; refine R_ret2v hp rfl ?_)))
     rw [hno]
     exact ⟨y, _, _, ⟨hy, rfl⟩, hp.tk 2⟩
   ·refine h_call rfl Tryz.func78 (by kernel_rfl) rfl (specOpsOk_h oa oc ops.length ops rfl R.length _ hp.rd hol hov) ?_; rintro _ w ⟨rfl, hx⟩; have hp := hp.ext hx; refine ops_run nopre rfl ?_; (repeat (refine h_guard_y rfl nopre rfl ?_))
    rw [opsB_no hop]
    (repeat (refine h_guard_n rfl nopre rfl ?_))
    have hno := axF_no (n := x.n) (sig := insOf R) (ops := ops) (w := wv) (fun h => hop (by have := h.okp; rw [hil] at this; exact this))
    refine h_cond_t rfl rfl ?_; (repeat (refine H_ldB hp rfl rfl ?_))
    refine h_call rfl Tryz.func80 (by kernel_rfl) rfl (specCopyNet_h x _ hp.net hS) ?_; rintro _ w ⟨y, ⟨hy, rfl⟩, hq⟩; have hx := hq.x; have hp := hp.call1 hq; refine ops_run nopre rfl ?_; (repeat (first | (refine gStore ?_; refine U_stBN hp rfl rfl rfl rfl ?_; intro w hp; refine ops_run nopre rfl ?_) | (refine gRetc ?_; refine R_ret2v hp rfl ?_)))
    rw [hno]
    exact ⟨y, _, _, ⟨hy, rfl⟩, hp.tk 2⟩
 ·refine h_call rfl Tryz.func77 (by kernel_rfl) rfl ((specNetOk_h x _ hp.net hS hW).ff (netOkB_no hok)) ?_; rintro _ w ⟨rfl, hx⟩; have hp := hp.ext hx; refine ops_run nopre rfl ?_; (repeat (refine h_guard_n rfl nopre rfl ?_))
  have hno := axF_no (n := x.n) (sig := insOf R) (ops := ops) (w := wv) (fun h => hok h.net)
  refine h_cond_t rfl rfl ?_; (repeat (refine H_ldB hp rfl rfl ?_))
  refine h_call rfl Tryz.func80 (by kernel_rfl) rfl (specCopyNet_h x _ hp.net hS) ?_; rintro _ w ⟨y, ⟨hy, rfl⟩, hq⟩; have hx := hq.x; have hp := hp.call1 hq; refine ops_run nopre rfl ?_; (repeat (first | (refine gStore ?_; refine U_stBN hp rfl rfl rfl rfl ?_; intro w hp; refine ops_run nopre rfl ?_) | (refine gRetc ?_; refine R_ret2v hp rfl ?_)))
  rw [hno]
  exact ⟨y, _, _, ⟨hy, rfl⟩, hp.tk 2⟩
end Go.Proofs
end
section
namespace Go.Xw
def kdL (n : ModL) (s : Int) : Int := if 0 ≤ s ∧ s < n.sg.length then kindL n s else -1
theorem kdL_yes {n : ModL} {s : Int} (h : inL n s) : kdL n s = kindL n s := if_pos h
theorem kdL_no {n : ModL} {s : Int} (h : ¬ inL n s) : kdL n s = -1 := if_neg h
theorem drvs_iff {n : ModL} {s : Int} : (kdL n s = 1 ∨ kdL n s = 2) ↔ drvsP n s := by
 by_cases h : inL n s
 ·rw [kdL_yes h]
  exact ⟨fun h2 => ⟨h, h2⟩, fun h2 => h2.2⟩
 ·rw [kdL_no h]
  exact ⟨fun h2 => by omega, fun h2 => absurd h2.1 h⟩
noncomputable def opL (n : ModL) (todo : List Nat) : List Bool := listB n.sg.length fun s => openP n todo s
theorem opL_len (n : ModL) (todo : List Nat) : (opL n todo).length = n.sg.length := listB_len _ _
theorem opL_get {n : ModL} {todo : List Nat} {s : Nat} (h : s < n.sg.length) : (opL n todo).getD s default = true ↔ openP n todo s := listB_get h
theorem opL_nil (n : ModL) : opL n [] = List.replicate n.sg.length false := by
 refine (listB_eq (by simp) fun j hj => ?_).symm
 constructor
 ·intro h; simp [List.getD_eq_getElem?_getD, hj] at h
 ·rintro ⟨q, hq, _⟩; cases hq
theorem opL_add {n : ModL} {T : List Nat} {i : Nat} (hs : inL n (tgL n i)) : (opL n T).set (tgL n i).toNat true = opL n (T ++ [i]) := by
 unfold inL at hs
 refine listB_eq (by rw [List.length_set, opL_len]) fun j hj => ?_
 rw [set_getE (by rw [opL_len]; omega)]
 by_cases h : j = (tgL n i).toNat
 ·rw [if_pos h]
  exact ⟨fun _ => ⟨i, by simp, by omega⟩, fun _ => rfl⟩
 ·rw [if_neg h, opL_get hj]
  constructor
  ·rintro ⟨q, h1, h2⟩; exact ⟨q, by simp [h1], h2⟩
  ·rintro ⟨q, h1, h2⟩
   rcases List.mem_append.1 h1 with h1 | h1
   ·exact ⟨q, h1, h2⟩
   ·simp only [List.mem_singleton] at h1
    subst h1; exact absurd h2 (by omega)
theorem opL_del {n : ModL} (hm : ModOkP n) {todo out : List Nat} (h : TodoP n todo out) {k : Nat} (hk : k < todo.length) : (opL n todo).set (tgL n (todo.getD k 0)).toNat false = opL n (todo.eraseIdx k) := by
 have g0 : todo.getD k 0 = todo[k] := by rw [List.getD_eq_getElem?_getD, List.getElem?_eq_getElem hk]; rfl
 have hi := h.tin _ (List.getElem_mem hk)
 have hs : inL n (tgL n todo[k]) := (hm.asg _ hi.1).1
 unfold inL at hs
 rw [g0]
 refine listB_eq (by rw [List.length_set, opL_len]) fun j hj => ?_
 rw [set_getE (by rw [opL_len]; omega)]
 have hne : ∀ q (hq : q < todo.length), q ≠ k → todo[q] ≠ todo[k] := fun q hq hqk he => by
  rcases Nat.lt_or_gt_of_ne hqk with hlt | hgt
  ·have := List.pairwise_iff_getElem.1 h.asc q k hq hk hlt; omega
  ·have := List.pairwise_iff_getElem.1 h.asc k q hk hq hgt; omega
 by_cases hj2 : j = (tgL n todo[k]).toNat
 ·rw [if_pos hj2]
  refine ⟨fun hh => Bool.noConfusion hh, fun hh => ?_⟩
  rw [show ((j : Nat) : Int) = tgL n todo[k] by omega] at hh
  have := (open_iff hm (h.step hk) hi.1).1 hh
  rw [List.mem_eraseIdx_iff_getElem] at this
  obtain ⟨q, h1, h2, h3⟩ := this
  exact absurd h3 (hne q h1 h2)
 ·rw [if_neg hj2, opL_get hj]
  constructor
  ·rintro ⟨q, h1, h2⟩
   refine ⟨q, ?_, h2⟩
   obtain ⟨p, hp, rfl⟩ := List.getElem_of_mem h1
   rw [List.mem_eraseIdx_iff_getElem]
   refine ⟨p, hp, fun hpk => ?_, rfl⟩
   subst hpk; omega
  ·rintro ⟨q, h1, h2⟩
   exact ⟨q, (List.eraseIdx_sublist _ _).subset h1, h2⟩
end Go.Xw
namespace Go.Proofs
open Go.Xw
set_option maxRecDepth 100000
set_option maxHeartbeats 2000000
attribute [local irreducible] Holds elemAddr
theorem l04Kind_h (x : ModA) (s : Int) (w0 : World) (hM : ModR w0 x) (hl : x.sg.length ≤ 1048576) : Ret Tryz.prog 170 [x.v, .int .i64 s] w0 (fun v w => v = .int .i64 (kdL x.n s) ∧ Ext w0 w) := by
 have en : x.n.sg.length = x.sg.length := rfl
 refine enter Tryz.S170ok _ _ rfl rfl (by show _ ≤ _; simp only [List.length]; decide) (fun C => ?_); have hp := Hp.nil w0; refine h_run rfl ?_; skip; (first | refine H_box hp ?_ | refine H_alloc hp rfl ?_); intro w b2 hx hp; refine ops_run nopre rfl ?_; skip
 refine h_guard_by (fun h1 => ?_) (fun h1 => ?_); all_goals (rw [h1]; (first | replace h1 := of_decide_eq_true h1 | replace h1 := of_decide_eq_false h1 | skip); (repeat (first | (refine gGuard ?_; first | refine h_guard_y rfl nopre rfl ?_ | refine h_guard_n rfl nopre rfl ?_) | (refine gLoad ?_; refine H_ldB hp rfl rfl ?_))))
 ·refine h_cond_t rfl rfl ?_; (repeat (refine R_ret ?_))
  exact ⟨by unfold kdL; rw [if_neg (by omega)], hp.x⟩
 ·refine h_cond_dec (fun h2 => ?_) (fun h2 => ?_)
  ·refine h_cond_t rfl rfl ?_; (repeat (refine R_ret ?_))
   exact ⟨by unfold kdL; rw [if_neg (by omega)], hp.x⟩
  ·refine h_cond_f rfl rfl ?_; (repeat (first | (refine gLoad ?_; first | refine H_ldB hp rfl rfl ?_ | refine H_ldF hp rfl (by omega) (by omega) rfl rfl ?_) | refine R_ret ?_))
   exact ⟨by unfold kdL; rw [if_pos (by omega)]; rfl, hp.x⟩
theorem l04Driven_h (x : ModA) (s : Int) (w0 : World) (hM : ModR w0 x) (hl : x.sg.length ≤ 1048576) : Ret Tryz.prog 169 [x.v, .int .i64 s] w0 (fun v w => v = .bool (pB (drvsP x.n s)) ∧ Ext w0 w) := by
 refine enter Tryz.S169ok _ _ rfl rfl (by show _ ≤ _; simp only [List.length]; decide) (fun C => ?_); have hp := Hp.nil w0; refine h_run rfl ?_; skip; (first | refine H_box hp ?_ | refine H_alloc hp rfl ?_); intro w b2 hx hp; refine ops_run nopre rfl ?_; (repeat (refine H_ldB hp rfl rfl ?_))
 refine h_call rfl Tryz.func170 (by kernel_rfl) rfl (l04Kind_h x s _ hp.mod hl) ?_; rintro _ w ⟨rfl, hx⟩; have hp := hp.ext hx; refine ops_run nopre rfl ?_; skip
 refine h_guard_by (fun h1 => ?_) (fun h1 => ?_); all_goals (rw [h1]; (first | replace h1 := of_decide_eq_true h1 | replace h1 := of_decide_eq_false h1 | skip); (repeat (first | (refine gGuard ?_; first | refine h_guard_y rfl nopre rfl ?_ | refine h_guard_n rfl nopre rfl ?_) | refine R_ret ?_)))
 ·exact ⟨by rw [pB_iff.2 (drvs_iff.1 (.inl h1))], hp.x⟩
 ·refine ⟨?_, hp.x⟩
  by_cases h2 : kdL x.n s = 2
  ·rw [pB_iff.2 (drvs_iff.1 (.inr h2)), decide_eq_true h2]
  ·rw [pB_no' (fun h => by rcases drvs_iff.2 h with h | h; exact h1 h; exact h2 h), decide_eq_false h2]
theorem l04Counts_h (a : Option Addr) (c : Nat) (D : List ModA) (hD1 : D.length = 1) (x : ModA) (hDx : D.getD 0 default = x) (hi0 : x.ins = []) (w0 : World) (hD : Rd w0 a 4 ModA.cs D) (hl1 : x.sg.length ≤ 1048576) (hl2 : x.asg.length ≤ 1048576) (hl3 : x.ms.length ≤ 1048576) :
  Ret Tryz.prog 167 [.agg ⟨[.slice a 1 c]⟩, .int .i64 0] w0 (fun v w => v = .bool (pB (x.sg.length ≤ 30 ∧ x.asg.length ≤ 30 ∧ x.ms.length ≤ 2)) ∧ Ext w0 w) := by
 have hil : x.ins.length = 0 := by rw [hi0]; rfl
 subst hDx
 have e0 : D.getD (Int.toNat 0) default = D.getD 0 default := rfl
 refine enter Tryz.S167ok _ _ rfl rfl (by show _ ≤ _; simp only [List.length]; decide) (fun C => ?_); have hp := Hp.nil w0; refine h_run rfl ?_; skip; (first | refine H_box hp ?_ | refine H_alloc hp rfl ?_); intro w b2 hx hp; refine ops_run nopre rfl ?_; (repeat (first | (refine gGuard ?_; refine h_guard_y rfl nopre rfl ?_) | (refine gLoad ?_; refine H_ldB hp rfl rfl ?_)))
 refine h_cond_f rfl rfl ?_; skip
 refine h_loop [1, 2, 5] (fun (i : Nat) => [(1, .int .i64 0), (2, .pointer (some ⟨b2, 0, none⟩)), (5, .int .i64 (i : Int))])
  (fun i w' => (i ≤ 1 ∧ (0 < i → (D.getD 0 default).sg.length ≤ 30 ∧ (D.getD 0 default).asg.length ≤ 30 ∧ (D.getD 0 default).ms.length ≤ 2)) ∧ Hp w0 w' [rB b2 136 [.slice a 1 c]]) (fun i => 1 - i) 0 rfl ⟨⟨by omega, fun h => by omega⟩, hp⟩ ?_
 clear hp
 rintro i w1 ⟨⟨hi1, hdone⟩, hp⟩ IH C
 refine h_run rfl ?_; (repeat (refine H_ldB hp rfl rfl ?_))
 refine h_cond_dec (fun hlt => ?_) (fun hlt => ?_)
 ·obtain rfl : i = 0 := by omega
  refine h_cond_t rfl rfl ?_; (repeat (refine gLoad ?_; first | refine H_ldB hp rfl rfl ?_ | refine H_ldEN hp rfl (by omega) rfl rfl ?_))
  (first | refine H_box hp ?_ | refine H_alloc hp rfl ?_); intro w b6 hx hp; refine ops_run nopre rfl ?_; (repeat (first | (refine gLoad ?_; refine H_ldB hp rfl rfl ?_) | (refine gStore ?_; refine U_stBN hp rfl rfl rfl rfl ?_; intro w hp; refine ops_run nopre rfl ?_)))
  refine h_guard_by (fun h1 => ?_) (fun h1 => ?_); all_goals (rw [h1]; (first | replace h1 := of_decide_eq_true h1 | replace h1 := of_decide_eq_false h1 | skip); (repeat (first | (refine gGuard ?_; first | refine h_guard_y rfl nopre rfl ?_ | refine h_guard_n rfl nopre rfl ?_) | (refine gLoad ?_; refine H_ldB hp rfl rfl ?_))))
  ·refine h_cond_t rfl rfl ?_; (repeat (refine R_ret ?_))
   exact ⟨by rw [pB_no' (fun h => by omega)], hp.x⟩
  ·refine h_guard_by (fun h2 => ?_) (fun h2 => ?_); all_goals (rw [h2]; (first | replace h2 := of_decide_eq_true h2 | replace h2 := of_decide_eq_false h2 | skip); (repeat (first | (refine gGuard ?_; first | refine h_guard_y rfl nopre rfl ?_ | refine h_guard_n rfl nopre rfl ?_) | (refine gLoad ?_; refine H_ldB hp rfl rfl ?_))))
   ·refine h_cond_t rfl rfl ?_; (repeat (refine R_ret ?_))
    exact ⟨by rw [pB_no' (fun h => by omega)], hp.x⟩
   ·refine h_guard_by (fun h3 => ?_) (fun h3 => ?_); all_goals (rw [h3]; (first | replace h3 := of_decide_eq_true h3 | replace h3 := of_decide_eq_false h3 | skip); (repeat (first | (refine gGuard ?_; first | refine h_guard_y rfl nopre rfl ?_ | refine h_guard_n rfl nopre rfl ?_) | (refine gLoad ?_; refine H_ldB hp rfl rfl ?_))))
    ·omega
    ·refine h_cond_dec (fun h4 => ?_) (fun h4 => ?_)
     ·refine h_cond_t rfl rfl ?_; (repeat (refine R_ret ?_))
      exact ⟨by rw [pB_no' (fun h => by omega)], hp.x⟩
     ·refine h_cond_f rfl rfl ?_; skip
      exact IH 1 _ _ _ (by omega) rfl ⟨⟨by omega, fun _ => by omega⟩, hp.drop⟩
 ·refine h_cond_f rfl rfl ?_; skip
  obtain rfl : i = 1 := by omega
  clear IH
  refine h_loop [1, 2, 7] (fun (i : Nat) => [(1, .int .i64 0), (2, .pointer (some ⟨b2, 0, none⟩)), (7, .int .i64 (i : Int))])
   (fun i w' => Hp w0 w' [rB b2 136 [.slice a 1 c]] ∧ True) (fun i => 0) 0 rfl ⟨hp, trivial⟩ ?_
  clear hp
  rintro i w1 ⟨hp, _⟩ IH C
  refine h_run rfl ?_; (repeat (refine gLoad ?_; first | refine H_ldB hp rfl rfl ?_ | refine H_ldF hp rfl (by omega) (by omega) rfl rfl ?_))
  rw [e0]
  refine h_cond_dec (fun hlt => ?_) (fun hlt => ?_)
  ·omega
  ·refine h_cond_f rfl rfl ?_; (repeat (refine R_ret ?_))
   exact ⟨by rw [pB_iff.2 (hdone (by omega))], hp.x⟩
theorem driverCount_h (a : Option Addr) (c : Nat) (D : List ModA) (hD1 : D.length = 1) (x : ModA) (hDx : D.getD 0 default = x) (hi0 : x.ins = []) (l1 : x.sg.length ≤ 30) (l2 : x.asg.length ≤ 30) (l3 : x.ms.length ≤ 2) (s : Nat) (hs : s < x.sg.length) (w0 : World) (hD : Rd w0 a 4 ModA.cs D) (hM : ModR w0 x) :
  Ret Tryz.prog 168 [.agg ⟨[.slice a 1 c]⟩, .int .i64 0, .int .i64 (s : Int)] w0 (fun v w => v = .int .i64 (drvL x.n s) ∧ Ext w0 w) := by
 have hil : x.ins.length = 0 := by rw [hi0]; rfl
 have e0 : D.getD (Int.toNat 0) default = x := hDx
 refine enter Tryz.S168ok _ _ rfl rfl (by show _ ≤ _; simp only [List.length]; decide) (fun C => ?_); have hp := Hp.nil w0; refine h_run rfl ?_; skip; (first | refine H_box hp ?_ | refine H_alloc hp rfl ?_); intro w b3 hx hp; refine ops_run nopre rfl ?_; (repeat (refine H_ldB hp rfl rfl ?_))
 refine h_call rfl Tryz.func167 (by kernel_rfl) rfl ((l04Counts_h a c D hD1 x hDx hi0 _ hp.rd (by omega) (by omega) (by omega)).tt (pB_iff.2 ⟨l1, l2, l3⟩)) ?_; rintro _ w ⟨rfl, hx⟩; have hp := hp.ext hx; refine ops_run nopre rfl ?_; (repeat (first | (refine gGuard ?_; refine h_guard_y rfl nopre rfl ?_) | (refine gLoad ?_; first | refine H_ldB hp rfl rfl ?_ | refine H_ldF hp rfl (by omega) (by omega) rfl rfl ?_)))
 rw [e0]
 refine h_cond_dec (fun hg => False.elim (by omega)) (fun _ => ?_); refine h_cond_f rfl rfl ?_; (repeat (refine gLoad ?_; first | refine H_ldB hp rfl rfl ?_ | refine H_ldE hp rfl (by omega) (by omega) rfl rfl ?_))
 rw [e0]
 (first | refine H_box hp ?_ | refine H_alloc hp rfl ?_); intro w b7 hx hp; refine ops_run nopre rfl ?_; (repeat (refine U_stBN hp rfl rfl rfl rfl ?_; intro w hp; refine ops_run nopre rfl ?_))
 have hp : Hp w0 _ [rB b7 41 x.cs, rB b3 136 [.slice a 1 c]] := hp
 refine h_loop [2, 3, 7, 8, 9] (fun (i : Nat) => [(2, .int .i64 (s : Int)), (3, .pointer (some ⟨b3, 0, none⟩)), (7, .pointer (some ⟨b7, 0, none⟩)), (8, .int .i64 (cntA x.n.asg s i)), (9, .int .i64 (i : Int))])
  (fun i w' => i ≤ x.asg.length ∧ Hp w0 w' [rB b7 41 x.cs, rB b3 136 [.slice a 1 c]]) (fun i => x.asg.length - i) 0 rfl ⟨by omega, hp⟩ ?_
 clear hp
 rintro i w1 ⟨hi, hp⟩ IH C
 have bA := cntA_b x.n.asg s i
 refine h_run rfl ?_; (repeat (refine H_ldB hp rfl rfl ?_))
 refine h_cond_dec (fun hlt => ?_) (fun hlt => ?_)
 ·have hlt' : i < x.asg.length := by omega
  have eat := asAt x i
  refine h_cond_t rfl rfl ?_; (repeat (refine gLoad ?_; first | refine H_ldB hp rfl rfl ?_ | refine H_ldFN hp rfl (by omega) rfl rfl ?_))
  refine h_cond_dec (fun he => ?_) (fun he => ?_)
  ·refine h_cond_t rfl rfl ?_; skip
   refine IH (i + 1) _ _ _ (by omega) (by rw [cntA, eat, if_pos he]; rfl) ⟨by omega, hp⟩
  ·refine h_cond_f rfl rfl ?_; skip
   refine IH (i + 1) _ _ _ (by omega) (by rw [cntA, eat, if_neg he]; rfl) ⟨by omega, hp⟩
 ·refine h_cond_f rfl rfl ?_; skip
  obtain rfl : i = x.asg.length := by omega
  clear IH
  refine h_loop [2, 3, 7, 8, 10] (fun (i : Nat) => [(2, .int .i64 (s : Int)), (3, .pointer (some ⟨b3, 0, none⟩)), (7, .pointer (some ⟨b7, 0, none⟩)), (8, .int .i64 (cntA x.n.asg s x.asg.length + cntM x.n.ms s i)), (10, .int .i64 (i : Int))])
   (fun i w' => i ≤ x.ms.length ∧ Hp w0 w' [rB b7 41 x.cs, rB b3 136 [.slice a 1 c]]) (fun i => x.ms.length - i) 0 (by rw [show cntM x.n.ms s 0 = 0 from rfl, Int.add_zero]; rfl) ⟨by omega, hp⟩ ?_
  clear hp
  rintro i w1 ⟨hi, hp⟩ IH C
  have bM := cntM_b x.n.ms s i
  have emt : x.n.ms = x.ms := rfl
  refine h_run rfl ?_; (repeat (refine H_ldB hp rfl rfl ?_))
  refine h_cond_dec (fun hlt => ?_) (fun hlt => ?_)
  ·have hlt' : i < x.ms.length := by omega
   refine h_cond_t rfl rfl ?_; (repeat (refine gLoad ?_; first | refine H_ldB hp rfl rfl ?_ | refine H_ldFN hp rfl (by omega) rfl rfl ?_))
   refine h_cond_dec (fun he => ?_) (fun he => ?_)
   ·refine h_cond_t rfl rfl ?_; skip
    refine IH (i + 1) _ _ _ (by omega) (by rw [cntM, emt, if_pos he, ← Int.add_assoc]; rfl) ⟨by omega, hp⟩
   ·refine h_cond_f rfl rfl ?_; skip
    refine IH (i + 1) _ _ _ (by omega) (by rw [cntM, emt, if_neg he]; rfl) ⟨by omega, hp⟩
  ·refine h_cond_f rfl rfl ?_; skip
   obtain rfl : i = x.ms.length := by omega
   clear IH
   refine h_loop [2, 3, 7, 8, 11] (fun (i : Nat) => [(2, .int .i64 (s : Int)), (3, .pointer (some ⟨b3, 0, none⟩)), (7, .pointer (some ⟨b7, 0, none⟩)), (8, .int .i64 (drvL x.n s)), (11, .int .i64 (i : Int))])
    (fun i w' => Hp w0 w' [rB b7 41 x.cs, rB b3 136 [.slice a 1 c]] ∧ True) (fun i => 0) 0 (by unfold drvL; rw [x.alen]; rfl) ⟨hp, trivial⟩ ?_
   clear hp
   rintro i w1 ⟨hp, _⟩ IH C
   refine h_run rfl ?_; (repeat (refine H_ldB hp rfl rfl ?_))
   refine h_cond_dec (fun hlt => ?_) (fun hlt => ?_)
   ·omega
   ·refine h_cond_f rfl rfl ?_; (repeat (refine R_ret ?_))
    exact ⟨rfl, hp.x⟩
end Go.Proofs
end
