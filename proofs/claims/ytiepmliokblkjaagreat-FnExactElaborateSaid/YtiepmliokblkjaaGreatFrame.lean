/- Texts that belong together; each under its stated conditions. -/
import Derived.Test.YtiepmliokblkjaaGreatGraph4
import Derived.Test.YtiepmliokblkjaaGreatElabI
import Derived.Test.YtiepmliokblkjaaGreatElabS
import Derived.Test.YtiepmliokblkjaaGreatModT
import Derived.Test.YtiepmliokblkjaaGreatAxS
import Derived.Test.YtiepmliokblkjaaGreatModR
import Derived.KernelRfl
import Derived.ProofKit
import Derived.Deep.Slices
import Derived.Deep.Fields
import Derived.ChangeSame
import Derived.ChangeArms
import Derived.ChangeShapes
import Derived.Test.YtiepmliokblkjaaGreatStep
set_option linter.all false
section
namespace Go.Proofs
open Go.Xw
set_option maxRecDepth 100000
set_option maxHeartbeats 1000000
attribute [local irreducible] Holds elemAddr
theorem heldAndS_h (a : Option Addr) (c n : Nat) (k : Int) (w0 : World) (ha : Rd w0 a 2 eII ((List.range n).map fun (i : Nat) => (k + 2 * (i : Int), k + 2 * (i : Int) + 1))) (hl : n < 1000000000) (hk : 0 ≤ k) (hk2 : k < 100000000000000) :
  Ret Tryz.prog 57 [.slice a n c, .int .i64 k] w0 (fun v w' => v = .int .i64 (k + 2 * n) ∧ Ext w0 w') := by
 have hlen : ((List.range n).map fun (i : Nat) => (k + 2 * (i : Int), k + 2 * (i : Int) + 1)).length = n := by simp
 refine enter Tryz.S57ok _ _ rfl rfl (by show _ ≤ _; simp only [List.length]; decide) (fun C => ?_); have hp := Hp.nil w0; refine h_run rfl ?_; skip
 refine h_loop [0, 1, 5] (fun i : Nat => [(0, .slice a n c), (1, .int .i64 (k + 2 * (i : Int))), (5, .int .i64 (i : Int))])
  (fun i w' => i ≤ n ∧ Hp w0 w' []) (fun i => n - i) 0 (by rw [show k + 2 * ((0 : Nat) : Int) = k by omega]; rfl) ⟨by omega, hp⟩ ?_
 rintro i w1 ⟨hi, hp⟩ IH C
 refine h_run rfl ?_; skip
 refine h_cond_dec (fun hlt => ?_) (fun hlt => ?_)
 ·have hlt' : i < n := by omega
  have hat := range_get (f := fun (i : Nat) => (k + 2 * (i : Int), k + 2 * (i : Int) + 1)) hlt'
  have hat1 : (((List.range n).map fun (i : Nat) => (k + 2 * (i : Int), k + 2 * (i : Int) + 1)).getD i default).1 = k + 2 * (i : Int) := by rw [hat]
  have hat2 : (((List.range n).map fun (i : Nat) => (k + 2 * (i : Int), k + 2 * (i : Int) + 1)).getD i default).2 = k + 2 * (i : Int) + 1 := by rw [hat]
  refine h_cond_t rfl rfl ?_; (repeat (refine H_ldFN hp rfl (by omega) rfl rfl ?_))
  refine h_cond_f (decide_eq_false (by rw [hat1]; simp)) rfl ?_; (repeat (refine H_ldFN hp rfl (by omega) rfl rfl ?_))
  refine h_cond_f (decide_eq_false (by rw [hat2]; simp)) rfl ?_; skip
  exact IH (i + 1) _ _ _ (by omega) (by rw [show k + 2 * ((i + 1 : Nat) : Int) = k + 2 * (i : Int) + 1 + 1 by omega]; rfl) ⟨by omega, hp⟩
 ·refine h_cond_f rfl rfl ?_; (repeat (refine R_ret ?_))
  obtain rfl : i = n := by omega
  exact ⟨rfl, hp.x⟩
theorem heldSeqS_h (a : Option Addr) (c : Nat) (R : List SeqA) (m : Nat) (hm : R.length = m) (k : Int) (w0 : World) (ha : SeqsR w0 a ((List.range m).map (mSq k R))) (hl : m ≤ 1048576) (hl2 : ∀ i, i < R.length → (R.getD i default).ins.length ≤ 1048576) (hk : 0 ≤ k) (hk2 : k < 10000000000000) :
  Ret Tryz.prog 56 [.slice a m c, .int .i64 k] w0 (fun v w' => v = .int .i64 (kSq k R m) ∧ Ext w0 w') := by
 subst hm
 have hlen : ((List.range R.length).map (mSq k R)).length = R.length := by simp
 have hrow := ha.row
 refine enter Tryz.S56ok _ _ rfl rfl (by show _ ≤ _; simp only [List.length]; decide) (fun C => ?_); have hp := Hp.nil w0; refine h_run rfl ?_; skip
 refine h_loop [0, 1, 5] (fun i : Nat => [(0, .slice a R.length c), (1, .int .i64 (kSq k R i)), (5, .int .i64 (i : Int))])
  (fun i w' => i ≤ R.length ∧ Hp w0 w' []) (fun i => R.length - i) 0 rfl ⟨by omega, hp⟩ ?_
 rintro i w1 ⟨hi, hp⟩ IH C
 have hkb := kSq_le (k := k) hl2 i hi
 refine h_run rfl ?_; skip
 refine h_cond_dec (fun hlt => ?_) (fun hlt => ?_)
 ·have hlt' : i < R.length := by omega
  have hat := range_get (f := mSq k R) hlt'
  have hat1 : (((List.range R.length).map (mSq k R)).getD i default).kind = kSq k R i := by rw [hat]; rfl
  have hat2 : (((List.range R.length).map (mSq k R)).getD i default).init = kSq k R i + 1 := by rw [hat]; rfl
  have hin := ha.at_ (i := i) (by omega)
  have hat3 : (((List.range R.length).map (mSq k R)).getD i default).ins = marks (kSq k R i + 1 + 1) (R.getD i default).ins.length := by rw [hat]; rfl
  have hl3 := hl2 i hlt'
  rw [hat3] at hin
  refine h_cond_t rfl rfl ?_; (repeat (refine H_ldFN hp rfl (by omega) rfl rfl ?_))
  refine h_cond_f (decide_eq_false (by rw [hat1]; simp)) rfl ?_; (repeat (refine H_ldFN hp rfl (by omega) rfl rfl ?_))
  refine h_cond_f (decide_eq_false (by rw [hat2]; simp)) rfl ?_; (repeat (refine H_ldFN hp rfl (by omega) rfl rfl ?_))
  refine gCall ?_
  rw [hat3, marks_len]
  refine h_call rfl Tryz.func58 (by kernel_rfl) rfl (heldIntS_h _ _ _ (kSq k R i + 1 + 1) _ hp.rd (by omega) (by omega) (by omega)) ?_; rintro _ w ⟨rfl, hx⟩; have hp := hp.ext hx; refine ops_run nopre rfl ?_; skip
  refine h_cond_f (decide_eq_false (by omega)) rfl ?_; skip
  exact IH (i + 1) _ _ _ (by omega) rfl ⟨by omega, hp⟩
 ·refine h_cond_f rfl rfl ?_; (repeat (refine R_ret ?_))
  obtain rfl : i = R.length := by omega
  exact ⟨rfl, hp.x⟩
theorem heldNet_h (x : NetA) (k : Int) (w0 : World) (hX : NetR w0 (mNet k x)) (hs : NetS x.n) (hk : 0 ≤ k) (hk2 : k < 1000000000000) :
  Ret Tryz.prog 13 [x.v, .int .i64 k] w0 (fun v w' => v = .int .i64 (kNet k x) ∧ Ext w0 w') := by
 have hb := kNet_le (k := k) hs
 obtain ⟨s1, s2, s3, s4⟩ := hs
 rw [x.slen] at s1 s2
 simp only [x.sins] at s2
 have s3 : x.ands.length ≤ 1048576 := s3
 have s4 : x.outs.length ≤ 1048576 := s4
 have h1 := kSq_le (k := k) s2 _ (Nat.le_refl _)
 have r1 : SeqsR w0 x.sa ((List.range x.seqs.length).map (mSq k x.seqs)) := hX.seqs
 have r2 : Rd w0 x.aa 2 eII ((List.range x.ands.length).map fun (i : Nat) => (kSq k x.seqs x.seqs.length + 2 * (i : Int), kSq k x.seqs x.seqs.length + 2 * (i : Int) + 1)) := hX.ands
 have r3 : Rd w0 x.oa 1 eI (marks (kSq k x.seqs x.seqs.length + 2 * x.ands.length) x.outs.length) := hX.outs
 refine enter Tryz.S13ok _ _ rfl rfl (by show _ ≤ _; simp only [List.length]; decide) (fun C => ?_); have hp := Hp.nil w0; refine h_run rfl ?_; skip; (first | refine H_box hp ?_ | refine H_alloc hp rfl ?_); intro w b2 hx hp; refine ops_run nopre rfl ?_; (repeat (refine H_ldB hp rfl rfl ?_))
 refine h_call rfl Tryz.func56 (by kernel_rfl) rfl (heldSeqS_h _ _ x.seqs _ rfl k _ (r1.ext hp.x) s1 s2 hk (by omega)) ?_; rintro _ w ⟨rfl, hx⟩; have hp := hp.ext hx; refine ops_run nopre rfl ?_; skip
 refine h_cond_f (decide_eq_false (by omega)) rfl ?_; (repeat (refine H_ldB hp rfl rfl ?_))
 refine h_call rfl Tryz.func57 (by kernel_rfl) rfl (heldAndS_h _ _ _ (kSq k x.seqs x.seqs.length) _ hp.rd (by omega) (by omega) (by omega)) ?_; rintro _ w ⟨rfl, hx⟩; have hp := hp.ext hx; refine ops_run nopre rfl ?_; skip
 refine h_cond_f (decide_eq_false (by omega)) rfl ?_; (repeat (refine H_ldB hp rfl rfl ?_))
 refine h_call rfl Tryz.func58 (by kernel_rfl) rfl (heldIntS_h _ _ _ (kSq k x.seqs x.seqs.length + 2 * x.ands.length) _ hp.rd (by omega) (by omega) (by omega)) ?_; rintro _ w ⟨rfl, hx⟩; have hp := hp.ext hx; refine ops_run nopre rfl ?_; skip
 refine h_cond_f (decide_eq_false (by omega)) rfl ?_; (repeat (refine R_ret ?_))
 exact ⟨rfl, hp.x⟩
end Go.Proofs
end
section
namespace Go.Proofs
open Go.Xw
set_option maxRecDepth 100000
set_option maxHeartbeats 4000000
attribute [local irreducible] Holds elemAddr
theorem specEl_y (x : ModA) (w0 : World) (hM : ModR w0 x) (hS : ModS x.n) (hW : ModW x.n) (n : ModL) (hn : x.n = n) :
  Ret Tryz.prog 6 [x.v] w0 (fun v w => ∃ y, (y.n = (elF n).1 ∧ v = .tuple ⟨[y.v, .bool (elF n).2]⟩) ∧ Hp w0 w [rNet y]) := by
 subst hn
 exact specElab_x x w0 hM hS hW
theorem implEl_y (x : ModA) (w0 : World) (hM : ModR w0 x) (hS : ModS x.n) (hW : ModW x.n) (n : ModL) (hn : x.n = n) :
  Ret Tryz.prog 8 [x.v] w0 (fun v w => ∃ y, (y.n = (elF n).1 ∧ v = .tuple ⟨[y.v, .bool (elF n).2]⟩) ∧ Hp w0 w [rNet y]) := by
 subst hn
 exact implElab_x x w0 hM hS hW
theorem FnExactElaborate_h (w0 : World) (x0 : ModA) (Rx0 : ModR w0 x0) (Mx0 : ModM x0.n) (Wx0 : ModW x0.n) :
  Ret Tryz.prog 3 [x0.v] w0 (fun v w => v = .bool true ∧ Ext w0 w) := by
 refine enter Tryz.S3ok _ _ rfl rfl (by show _ ≤ _; simp only [List.length]; decide) (fun C => ?_); have hp := Hp.nil w0; refine h_run rfl ?_; skip; (first | refine H_box hp ?_ | refine H_alloc hp rfl ?_); intro w b0 hx hp; refine ops_run nopre rfl ?_; (repeat (refine H_ldB hp rfl rfl ?_))
 refine h_call rfl Tryz.func5 (by kernel_rfl) rfl (szModule_h x0 1048576 _ hp.mod Mx0 (by decide) (by decide)) ?_; rintro _ w ⟨⟨z0, rfl, hz⟩, hx⟩; have hp := hp.ext hx; refine ops_run nopre rfl ?_; skip
 rcases hz with rfl | ⟨hz0, hz1, S0⟩
 ·refine h_cond_t rfl rfl ?_; (repeat (refine R_ret ?_))
  exact ⟨rfl, hp.x⟩
 ·refine h_cond_f (decide_eq_false (by omega)) rfl ?_; (repeat (refine H_ldB hp rfl rfl ?_))
  have hFS := sEl x0.n
  refine h_call rfl Tryz.func7 (by kernel_rfl) rfl (toModule_h x0 _ hp.mod S0) ?_; rintro _ w ⟨y1, ⟨e1, rfl⟩, hq⟩; have hx := hq.x; have hp := hp.call1 hq; refine ops_run nopre rfl ?_; skip
  refine h_call rfl Tryz.func6 (by kernel_rfl) rfl (specEl_y y1 _ hp.mod (by rw [e1]; exact S0) (by rw [e1]; exact Wx0) x0.n e1) ?_; rintro _ w ⟨aS, ⟨eS, rfl⟩, hq⟩; have hx := hq.x; have hp := hp.call1 hq; refine ops_run nopre rfl ?_; skip
  (first | refine H_box hp ?_ | refine H_alloc hp rfl ?_); intro w qS hx hp; refine ops_run nopre rfl ?_; (repeat (first | (refine gLoad ?_; refine H_ldB hp rfl rfl ?_) | (refine gStore ?_; refine U_stBN hp rfl rfl rfl rfl ?_; intro w hp; refine ops_run nopre rfl ?_)))
  have sS : NetS aS.n := by rw [eS]; exact hFS
  refine h_call rfl Tryz.func7 (by kernel_rfl) rfl (toModule_h x0 _ hp.mod S0) ?_; rintro _ w ⟨y2, ⟨e2, rfl⟩, hq⟩; have hx := hq.x; have hp := hp.call1 hq; refine ops_run nopre rfl ?_; skip
  have s2 : ModS y2.n := by rw [e2]; exact S0
  (first | refine H_box hp ?_ | refine H_alloc hp rfl ?_); intro w q2 hx hp; refine ops_run nopre rfl ?_; (repeat (first | (refine gLoad ?_; refine H_ldB hp rfl rfl ?_) | (refine gStore ?_; refine U_stBN hp rfl rfl rfl rfl ?_; intro w hp; refine ops_run nopre rfl ?_)))
  refine h_call rfl Tryz.func8 (by kernel_rfl) rfl (implEl_y y2 _ hp.mod s2 (by rw [e2]; exact Wx0) x0.n e2) ?_; rintro _ w ⟨aG, ⟨eG, rfl⟩, hq⟩; have hx := hq.x; have hp := hp.call1 hq; refine ops_run nopre rfl ?_; skip
  (first | refine H_box hp ?_ | refine H_alloc hp rfl ?_); intro w qG hx hp; refine ops_run nopre rfl ?_; (repeat (first | (refine gLoad ?_; refine H_ldB hp rfl rfl ?_) | (refine gStore ?_; refine U_stBN hp rfl rfl rfl rfl ?_; intro w hp; refine ops_run nopre rfl ?_)))
  have sG : NetS aG.n := by rw [eG]; exact hFS
  refine h_call rfl Tryz.func9 (by kernel_rfl) rfl ((eqNet_h aG aS _ hp.net hp.net sG sS).yes (by rw [eG, eS])) ?_; rintro _ w ⟨rfl, hx⟩; have hp := hp.ext hx; refine ops_run nopre rfl ?_; (repeat (refine h_guard_y rfl nopre rfl ?_))
  refine h_cond_f (by simp) rfl ?_; skip
  refine D_draw hp (by kernel_rfl) (by kernel_rfl) rfl rfl ?_; intro w hx hp; have hs := hp; (repeat (refine D_ldB rfl rfl rfl ?_))
  refine h_callq rfl Tryz.func7 (by kernel_rfl) rfl (toModule_h x0 _ hp.mod S0) ?_; rintro _ w ⟨y3, ⟨e3, rfl⟩, hq⟩; have hx := hq.x; have hp := hp.call1 hq; have hs := hs.ext hx; refine ⟨fun _ => hs, ?_⟩; refine D_ops rfl rfl ?_; skip
  refine h_callq rfl Tryz.func10 (by kernel_rfl) rfl (eqModule_h y2 y3 _ hp.mod hp.mod s2 (by rw [e3]; exact S0)) ?_; rintro _ w ⟨rfl, hx⟩; have hp := hp.ext hx; have hs := hs.ext hx; refine ⟨fun _ => hs, ?_⟩; refine D_ops rfl rfl ?_; skip
  rw [decide_eq_true (show y2.n = y3.n by rw [e2, e3])]
  refine h_cond_f rfl rfl ?_; (repeat (refine H_ldB hp rfl rfl ?_))
  have hp := hp.drop
  refine h_call rfl Tryz.func11 (by kernel_rfl) rfl (markModule_h (x := y2) (hp.f4.f3.f3.f3.f4) s2) ?_; rintro _ w ⟨y4, ⟨rfl, hk4⟩, hp⟩; refine ops_run nopre rfl ?_; skip
  try (refine h_guard_by (fun h => ?_) (fun h => ?_); (exfalso; replace h := of_decide_eq_true h; omega); rw [h]; clear h; (repeat (first | (refine gGuard ?_; refine h_guard_y rfl nopre rfl ?_) | (refine gLoad ?_; refine H_ldB hp rfl rfl ?_))))
  refine h_call rfl Tryz.func9 (by kernel_rfl) rfl ((eqNet_h aG aS _ hp.net hp.net sG sS).yes (by rw [eG, eS])) ?_; rintro _ w ⟨rfl, hx⟩; have hp := hp.ext hx; refine ops_run nopre rfl ?_; (repeat (refine h_guard_y rfl nopre rfl ?_))
  refine h_cond_f (by simp) rfl ?_; (repeat (refine H_ldB hp rfl rfl ?_))
  have hkG := kNet_le (k := 1) sG
  refine h_call rfl Tryz.func12 (by kernel_rfl) rfl (markNet_u hp (x := aG) 1 sG (by decide) (by decide)) ?_; rintro _ w ⟨rfl, hp⟩; refine ops_run nopre rfl ?_; (repeat (refine H_ldB hp rfl rfl ?_))
  refine h_call rfl Tryz.func13 (by kernel_rfl) rfl (heldNet_h aG 1 _ hp.net sG (by decide) (by decide)) ?_; rintro _ w ⟨rfl, hx⟩; have hp := hp.ext hx; refine ops_run nopre rfl ?_; skip
  refine h_cond_f (by simp; try omega) rfl ?_; skip
  refine h_cond_f (by simp) rfl ?_; (repeat (refine H_ldB hp rfl rfl ?_))
  refine h_call rfl Tryz.func7 (by kernel_rfl) rfl (toModule_h x0 _ hp.mod S0) ?_; rintro _ w ⟨y5, ⟨e5, rfl⟩, hq⟩; have hx := hq.x; have hp := hp.call1 hq; refine ops_run nopre rfl ?_; skip
  refine h_call rfl Tryz.func8 (by kernel_rfl) rfl (implEl_y y5 _ hp.mod (by rw [e5]; exact S0) (by rw [e5]; exact Wx0) x0.n e5) ?_; rintro _ w ⟨aH, ⟨eH, rfl⟩, hq⟩; have hx := hq.x; have hp := hp.call1 hq; refine ops_run nopre rfl ?_; skip
  (first | refine H_box hp ?_ | refine H_alloc hp rfl ?_); intro w qH hx hp; refine ops_run nopre rfl ?_; (repeat (first | (refine gLoad ?_; refine H_ldB hp rfl rfl ?_) | (refine gStore ?_; refine U_stBN hp rfl rfl rfl rfl ?_; intro w hp; refine ops_run nopre rfl ?_)))
  have sH : NetS aH.n := by rw [eH]; exact hFS
  refine h_call rfl Tryz.func9 (by kernel_rfl) rfl ((eqNet_h aH aS _ hp.net hp.net sH sS).yes (by rw [eH, eS])) ?_; rintro _ w ⟨rfl, hx⟩; have hp := hp.ext hx; refine ops_run nopre rfl ?_; (repeat (refine h_guard_y rfl nopre rfl ?_))
  refine h_cond_f (by simp) rfl ?_; (repeat (refine H_ldB hp rfl rfl ?_))
  refine h_call rfl Tryz.func13 (by kernel_rfl) rfl (heldNet_h aG 1 _ hp.net sG (by decide) (by decide)) ?_; rintro _ w ⟨rfl, hx⟩; have hp := hp.ext hx; refine ops_run nopre rfl ?_; skip
  refine h_cond_f (by simp; try omega) rfl ?_; skip
  refine h_cond_f (by simp) rfl ?_; (repeat (refine R_ret ?_))
  exact ⟨rfl, hp.x⟩
end Go.Proofs
end
section
namespace Go.Proofs
open Go.Xw Go.Deep Go.ChangeShapes Go.WideShapes
set_option maxRecDepth 100000
theorem dec_op {H : Type} {enc : TypeId × Value → H} {w : World} {base : Nat} {spare : Nat → Bool} {held : Bool} {fuel : Nat} {cs : List Value} {y : DataW H × List MemPlace}
  (h : DataW.trod enc Tryz.prog w base spare held fuel 205 cs = some y) : ∃ p : OpL, cs = eOp p ∧ i64R p.kind ∧ i64R p.a ∧ i64R p.b := by
 obtain ⟨h1, h2⟩ := dec_fields Tryz.underlying205 (by kernel_rfl) (by kernel_rfl) h
 obtain ⟨n0, v0, z0, c0, t0⟩ := h2 0 _ rfl
 obtain ⟨n1, v1, z1, c1, t1⟩ := h2 1 _ rfl
 obtain ⟨n2, v2, z2, c2, t2⟩ := h2 2 _ rfl
 obtain ⟨x0, e0, r0⟩ := dec_int Tryz.underlying3 t0
 obtain ⟨x1, e1, r1⟩ := dec_int Tryz.underlying3 t1
 obtain ⟨x2, e2, r2⟩ := dec_int Tryz.underlying3 t2
 injection e0 with e0 _
 injection e1 with e1 _
 injection e2 with e2 _
 subst e0; subst e1; subst e2
 refine ⟨⟨x0, x1, x2⟩, ?_, r0, r1, r2⟩
 match cs, h1 with
 | [a, b, c], _ => simp at c0 c1 c2; rw [c0, c1, c2]; rfl
theorem dec_ops {H : Type} {enc : TypeId × Value → H} {w : World} {base : Nat} {spare : Nat → Bool} {held : Bool} {fuel : Nat} {cs : List Value} {y : DataW H × List MemPlace}
  (h : DataW.trod enc Tryz.prog w base spare held fuel 125 cs = some y) : ∃ (a : Option Addr) (X : List OpL) (c : Nat), cs = [.slice a X.length c] ∧ Sl w a X.length 3 (fL eOp X) ∧ X.length ≤ maxLen ∧ ∀ i, i < X.length → i64R (X.getD i default).kind ∧ i64R (X.getD i default).a ∧ i64R (X.getD i default).b := by
 obtain ⟨a, X, c, h1, h2, _, h3, h4⟩ := dec_slice Tryz.underlying125 (by kernel_rfl) eOp_ok (fun _ _ _ hz => dec_op hz) h
 exact ⟨a, X, c, h1, h2, h3, h4⟩
end Go.Proofs
end
section
namespace Go.Proofs
open Go.Xw Go.Deep Go.ChangeShapes Go.WideShapes
set_option maxRecDepth 100000
theorem dec_signal {H : Type} {enc : TypeId × Value → H} {w : World} {base : Nat} {spare : Nat → Bool} {held : Bool} {fuel : Nat} {cs : List Value} {y : DataW H × List MemPlace}
  (h : DataW.trod enc Tryz.prog w base spare held fuel 148 cs = some y) : ∃ p : SgL, cs = eSg p ∧ i64G p := by
 obtain ⟨h1, h2⟩ := dec_fields Tryz.underlying148 (by kernel_rfl) (by kernel_rfl) h
 obtain ⟨n0, v0, z0, c0, t0⟩ := h2 0 _ rfl
 obtain ⟨n1, v1, z1, c1, t1⟩ := h2 1 _ rfl
 obtain ⟨n2, v2, z2, c2, t2⟩ := h2 2 _ rfl
 obtain ⟨x0, e0, r0⟩ := dec_int Tryz.underlying3 t0
 obtain ⟨x1, e1, r1⟩ := dec_int Tryz.underlying3 t1
 obtain ⟨x2, e2, r2⟩ := dec_int Tryz.underlying3 t2
 injection e0 with e0 _
 injection e1 with e1 _
 injection e2 with e2 _
 subst e0; subst e1; subst e2
 refine ⟨⟨x0, x1, x2⟩, ?_, r0, r1, r2⟩
 match cs, h1 with
 | [u, v, x], _ => simp at c0 c1 c2; rw [c0, c1, c2]; rfl
theorem dec_mem {H : Type} {enc : TypeId × Value → H} {w : World} {base : Nat} {spare : Nat → Bool} {held : Bool} {fuel : Nat} {cs : List Value} {y : DataW H × List MemPlace}
  (h : DataW.trod enc Tryz.prog w base spare held fuel 153 cs = some y) : ∃ p : MmL, cs = eMm p ∧ i64M p := by
 obtain ⟨h1, h2⟩ := dec_fields Tryz.underlying153 (by kernel_rfl) (by kernel_rfl) h
 obtain ⟨n0, v0, z0, c0, t0⟩ := h2 0 _ rfl
 obtain ⟨n1, v1, z1, c1, t1⟩ := h2 1 _ rfl
 obtain ⟨n2, v2, z2, c2, t2⟩ := h2 2 _ rfl
 obtain ⟨n3, v3, z3, c3, t3⟩ := h2 3 _ rfl
 obtain ⟨x0, e0, r0⟩ := dec_int Tryz.underlying3 t0
 obtain ⟨x1, e1, r1⟩ := dec_int Tryz.underlying3 t1
 obtain ⟨x2, e2, r2⟩ := dec_int Tryz.underlying3 t2
 obtain ⟨x3, e3, r3⟩ := dec_int Tryz.underlying3 t3
 injection e0 with e0 _
 injection e1 with e1 _
 injection e2 with e2 _
 injection e3 with e3 _
 subst e0; subst e1; subst e2; subst e3
 refine ⟨⟨x0, x1, x2, x3⟩, ?_, r0, r1, r2, r3⟩
 match cs, h1 with
 | [u, v, x, y], _ => simp at c0 c1 c2 c3; rw [c0, c1, c2, c3]; rfl
theorem dec_inst {H : Type} {enc : TypeId × Value → H} {w : World} {base : Nat} {spare : Nat → Bool} {held : Bool} {fuel : Nat} {cs : List Value} {y : DataW H × List MemPlace}
  (h : DataW.trod enc Tryz.prog w base spare held fuel 130 cs = some y) : ∃ s : SeqA, cs = eSq s ∧ Sl w s.ia s.ins.length 1 (fL eI s.ins) ∧ s.ins.length ≤ maxLen := by
 obtain ⟨h1, h2⟩ := dec_fields Tryz.underlying130 (by kernel_rfl) (by kernel_rfl) h
 obtain ⟨n0, v0, z0, c0, t0⟩ := h2 0 _ rfl
 obtain ⟨n1, v1, z1, c1, t1⟩ := h2 1 _ rfl
 obtain ⟨n2, v2, z2, c2, t2⟩ := h2 2 _ rfl
 obtain ⟨x0, e0, r0⟩ := dec_int Tryz.underlying3 t0
 obtain ⟨x1, e1, r1⟩ := dec_int Tryz.underlying3 t1
 obtain ⟨a, X, c, e2, hs, hm, _⟩ := dec_ints t2
 injection e0 with e0 _
 injection e1 with e1 _
 injection e2 with e2 _
 subst e0; subst e1; subst e2
 refine ⟨⟨x0, x1, X, a, c⟩, ?_, hs, hm⟩
 match cs, h1 with
 | [u, v, x], _ => simp at c0 c1 c2; rw [c0, c1, c2]; rfl
theorem dec_assign {H : Type} {enc : TypeId × Value → H} {w : World} {base : Nat} {spare : Nat → Bool} {held : Bool} {fuel : Nat} {cs : List Value} {y : DataW H × List MemPlace}
  (h : DataW.trod enc Tryz.prog w base spare held fuel 127 cs = some y) : ∃ s : AsA, cs = eAs s ∧ Sl w s.oa s.ops.length 3 (fL eOp s.ops) ∧ s.ops.length ≤ maxLen ∧ i64R s.tg ∧ ∀ j, j < s.ops.length → i64P (s.ops.getD j default) := by
 obtain ⟨h1, h2⟩ := dec_fields Tryz.underlying127 (by kernel_rfl) (by kernel_rfl) h
 obtain ⟨n0, v0, z0, c0, t0⟩ := h2 0 _ rfl
 obtain ⟨n1, v1, z1, c1, t1⟩ := h2 1 _ rfl
 obtain ⟨x0, e0, r0⟩ := dec_int Tryz.underlying3 t0
 obtain ⟨a, X, c, e1, hs, hm, hr⟩ := dec_ops t1
 injection e0 with e0 _
 injection e1 with e1 _
 subst e0; subst e1
 refine ⟨⟨x0, X, a, c⟩, ?_, hs, hm, r0, hr⟩
 match cs, h1 with
 | [u, v], _ => simp at c0 c1; rw [c0, c1]; rfl
theorem dec_module {H : Type} {enc : TypeId × Value → H} {w : World} {base : Nat} {spare : Nat → Bool} {held : Bool} {fuel : Nat} {cs : List Value} {y : DataW H × List MemPlace}
  (h : DataW.trod enc Tryz.prog w base spare held fuel 27 cs = some y) : ∃ x : ModA, cs = x.cs ∧ ModR w x ∧ ModM x.n ∧ ModW x.n := by
 obtain ⟨h1, h2⟩ := dec_fields Tryz.underlying27 (by kernel_rfl) (by kernel_rfl) h
 obtain ⟨n0, v0, z0, c0, t0⟩ := h2 0 _ rfl
 obtain ⟨n1, v1, z1, c1, t1⟩ := h2 1 _ rfl
 obtain ⟨n2, v2, z2, c2, t2⟩ := h2 2 _ rfl
 obtain ⟨n3, v3, z3, c3, t3⟩ := h2 3 _ rfl
 obtain ⟨a0, X0, c0', e0, hs0, _, hm0, hr0⟩ := dec_slice Tryz.underlying22 (by kernel_rfl) eSg_ok (fun _ _ _ hz => dec_signal hz) t0
 obtain ⟨a1, X1, c1', e1, hs1, _, hm1, hr1⟩ := dec_slice Tryz.underlying23 (by kernel_rfl) eAs_ok (fun _ _ _ hz => dec_assign hz) t1
 obtain ⟨a2, X2, c2', e2, hs2, _, hm2, hr2⟩ := dec_slice Tryz.underlying24 (by kernel_rfl) eSq_ok (fun _ _ _ hz => dec_inst hz) t2
 obtain ⟨a3, X3, c3', e3, hs3, _, hm3, hr3⟩ := dec_slice Tryz.underlying25 (by kernel_rfl) eMm_ok (fun _ _ _ hz => dec_mem hz) t3
 injection e0 with e0 _
 injection e1 with e1 _
 injection e2 with e2 _
 injection e3 with e3 _
 subst e0; subst e1; subst e2; subst e3
 have mx : ∀ n : Nat, n ≤ maxLen → (n : Int) ≤ 9223372036854775807 := fun n hn => by unfold maxLen at hn; omega
 refine ⟨⟨X0, a0, c0', X1, a1, c1', X2, a2, c2', X3, a3, c3'⟩, ?_, ⟨⟨hs0⟩, ⟨⟨hs1⟩, fun s hs => ?_⟩, ⟨⟨hs2⟩, fun s hs => ?_⟩, ⟨hs3⟩⟩, ⟨mx _ hm0, ?_, fun i hi => ?_, ?_, fun i hi => ?_, mx _ hm3⟩, ⟨fun i hi => hr0 i hi, fun i hi => ?_, fun i hi => ?_, fun i hi => hr3 i hi⟩⟩
 ·match cs, h1 with
  | [u, v, x, y], _ => simp at c0 c1 c2 c3; rw [c0, c1, c2, c3]; rfl
 ·obtain ⟨i, hi, he⟩ := List.getElem_of_mem hs
  have h := (hr1 i hi).1
  rw [List.getD_eq_getElem?_getD, List.getElem?_eq_getElem hi] at h
  rw [← he]; exact ⟨h⟩
 ·obtain ⟨i, hi, he⟩ := List.getElem_of_mem hs
  have h := (hr2 i hi).1
  rw [List.getD_eq_getElem?_getD, List.getElem?_eq_getElem hi] at h
  rw [← he]; exact ⟨h⟩
 ·rw [ModA.alen]; exact mx _ hm1
 ·rw [ModA.alen] at hi; rw [ModA.aops]; exact mx _ (hr1 i hi).2.1
 ·rw [ModA.ilen]; exact mx _ hm2
 ·rw [ModA.ilen] at hi; rw [ModA.iins]; exact mx _ (hr2 i hi).2
 ·rw [ModA.alen] at hi; rw [ModA.atg]; exact (hr1 i hi).2.2.1
 ·rw [ModA.alen] at hi; rw [ModA.aops]; exact (hr1 i hi).2.2.2
end Go.Proofs
end
section
namespace Go.Xw
open Go.RowKit
theorem row_sl {k : IntKind} {enc : Int → List Value} (henc : ∀ x, enc x = [.int k x]) {w : World} {a : Option Addr} {len cap : Nat} {zs : List Int}
  (h : (a = none ∧ len = 0 ∧ cap = 0 ∧ zs = []) ∨ ∃ x, a = some x ∧ len ≤ cap ∧ cap ≤ maxLen ∧ zs.length = cap ∧ (∀ i, i < zs.length → w.cell? (x.add i) = some (.int k (zs.getD i 0))) ∧ ∀ n ∈ zs, (Lit.int k n).wf = true) :
  ∃ xs : List Int, xs.length = len ∧ Sl w a xs.length 1 (fL enc xs) ∧ ∀ x ∈ xs, (Lit.int k x).wf = true := by
 rcases h with ⟨rfl, rfl, _, _⟩ | ⟨x, rfl, hl, _, hz, hc, hw⟩
 ·exact ⟨[], rfl, Sl.nil _ _ _ _, fun x hx => by simp at hx⟩
 ·refine ⟨zs.take len, by simp; omega, ⟨fun _ => by simp, fun i j hi hj => ?_⟩, fun x hx => hw x (List.mem_of_mem_take hx)⟩
  obtain rfl : j = 0 := by omega
  simp only [List.length_take] at hi
  have h1 := hc i (by omega)
  have ha : (elemAddr (some x) 1 (i : Int)).add 0 = x.add i := by
   simp [elemAddr, Addr.add]
  rw [ha, h1]
  simp only [fL, henc, nthL]
  congr 2
  rw [List.getD_eq_getElem?_getD, List.getD_eq_getElem?_getD, List.getElem?_take, if_pos (by omega)]
  rfl
theorem wf_i64 {x : Int} (h : (Lit.int .i64 x).wf = true) : -9223372036854775808 ≤ x ∧ x ≤ 9223372036854775807 := by
 have h1 : IntKind.i64.min = -9223372036854775808 := rfl
 have h2 : IntKind.i64.max = 9223372036854775807 := rfl
 simp only [Lit.wf, Bool.and_eq_true, decide_eq_true_eq] at h
 omega
theorem wf_u8 {x : Int} (h : (Lit.int .u8 x).wf = true) : 0 ≤ x ∧ x ≤ 255 := by
 have h1 : IntKind.u8.min = 0 := rfl
 have h2 : IntKind.u8.max = 255 := rfl
 simp only [Lit.wf, Bool.and_eq_true, decide_eq_true_eq] at h
 omega
theorem law_calls {P : Program} {f : FuncId} {args : List Value} {w : World} (h : Ret P f args w fun v w' => v = .bool true ∧ Ext w w') :
  Calls P f ⟨args⟩ w fun e w' => e = .returned (.bool true) ∧ Below w.heap.size w w' :=
 Calls.mono h fun _ _ ⟨_, he, hv, hx⟩ => ⟨by rw [he, hv], hx⟩
end Go.Xw
end
