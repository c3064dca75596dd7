/- The contract of the function that checks a net's marks; each under its stated conditions. -/
import Derived.Test.YtiepmliokblkjaaGraph4
set_option linter.all false
namespace Go.Proofs
open Go.Xw
set_option maxRecDepth 100000
set_option maxHeartbeats 1000000
attribute [local irreducible] Holds elemAddr
theorem heldAndS_h (a : Option Addr) (c n : Nat) (k : Int) (w0 : World) (ha : Rd w0 a 2 eII ((List.range n).map fun (i : Nat) => (k + 2 * (i : Int), k + 2 * (i : Int) + 1))) (hl : n < 1000000000) (hk : 0 ≤ k) (hk2 : k < 100000000000000) :
  Ret Try.prog 50 [.slice a n c, .int .i64 k] w0 (fun v w' => v = .int .i64 (k + 2 * n) ∧ Ext w0 w') := by
 have hlen : ((List.range n).map fun (i : Nat) => (k + 2 * (i : Int), k + 2 * (i : Int) + 1)).length = n := by simp
 refine enter Try.S50ok _ _ rfl rfl (by show _ ≤ _; simp only [List.length]; decide) (fun C => ?_); have hp := Hp.nil w0; refine h_run rfl ?_; skip
 refine h_loop [0, 1, 5] (fun i : Nat => [(0, .slice a n c), (1, .int .i64 (k + 2 * (i : Int))), (5, .int .i64 (i : Int))])
  (fun i w' => i ≤ n ∧ Hp w0 w' []) (fun i => n - i) 0 (by rw [show k + 2 * ((0 : Nat) : Int) = k by omega]; rfl) ⟨by omega, hp⟩ ?_
 rintro i w1 ⟨hi, hp⟩ IH C
 refine h_run rfl ?_; skip
 refine h_cond_dec (fun hlt => ?_) (fun hlt => ?_)
 ·have hlt' : i < n := by omega
  have hat := range_get (f := fun (i : Nat) => (k + 2 * (i : Int), k + 2 * (i : Int) + 1)) hlt'
  have hat1 : (((List.range n).map fun (i : Nat) => (k + 2 * (i : Int), k + 2 * (i : Int) + 1)).getD i default).1 = k + 2 * (i : Int) := by rw [hat]
  have hat2 : (((List.range n).map fun (i : Nat) => (k + 2 * (i : Int), k + 2 * (i : Int) + 1)).getD i default).2 = k + 2 * (i : Int) + 1 := by rw [hat]
  refine h_cond_t rfl rfl ?_; (repeat (refine H_ldFN hp rfl (by omega) rfl rfl ?_))
  refine h_cond_f (decide_eq_false (by rw [hat1]; simp)) rfl ?_; (repeat (refine H_ldFN hp rfl (by omega) rfl rfl ?_))
  refine h_cond_f (decide_eq_false (by rw [hat2]; simp)) rfl ?_; skip
  exact IH (i + 1) _ _ _ (by omega) (by rw [show k + 2 * ((i + 1 : Nat) : Int) = k + 2 * (i : Int) + 1 + 1 by omega]; rfl) ⟨by omega, hp⟩
 ·refine h_cond_f rfl rfl ?_; (repeat (refine R_ret ?_))
  obtain rfl : i = n := by omega
  exact ⟨rfl, hp.x⟩
theorem heldSeqS_h (a : Option Addr) (c : Nat) (R : List SeqA) (m : Nat) (hm : R.length = m) (k : Int) (w0 : World) (ha : SeqsR w0 a ((List.range m).map (mSq k R))) (hl : m ≤ 1048576) (hl2 : ∀ i, i < R.length → (R.getD i default).ins.length ≤ 1048576) (hk : 0 ≤ k) (hk2 : k < 10000000000000) :
  Ret Try.prog 49 [.slice a m c, .int .i64 k] w0 (fun v w' => v = .int .i64 (kSq k R m) ∧ Ext w0 w') := by
 subst hm
 have hlen : ((List.range R.length).map (mSq k R)).length = R.length := by simp
 have hrow := ha.row
 refine enter Try.S49ok _ _ rfl rfl (by show _ ≤ _; simp only [List.length]; decide) (fun C => ?_); have hp := Hp.nil w0; refine h_run rfl ?_; skip
 refine h_loop [0, 1, 5] (fun i : Nat => [(0, .slice a R.length c), (1, .int .i64 (kSq k R i)), (5, .int .i64 (i : Int))])
  (fun i w' => i ≤ R.length ∧ Hp w0 w' []) (fun i => R.length - i) 0 rfl ⟨by omega, hp⟩ ?_
 rintro i w1 ⟨hi, hp⟩ IH C
 have hkb := kSq_le (k := k) hl2 i hi
 refine h_run rfl ?_; skip
 refine h_cond_dec (fun hlt => ?_) (fun hlt => ?_)
 ·have hlt' : i < R.length := by omega
  have hat := range_get (f := mSq k R) hlt'
  have hat1 : (((List.range R.length).map (mSq k R)).getD i default).kind = kSq k R i := by rw [hat]; rfl
  have hat2 : (((List.range R.length).map (mSq k R)).getD i default).init = kSq k R i + 1 := by rw [hat]; rfl
  have hin := ha.at_ (i := i) (by omega)
  have hat3 : (((List.range R.length).map (mSq k R)).getD i default).ins = marks (kSq k R i + 1 + 1) (R.getD i default).ins.length := by rw [hat]; rfl
  have hl3 := hl2 i hlt'
  rw [hat3] at hin
  refine h_cond_t rfl rfl ?_; (repeat (refine H_ldFN hp rfl (by omega) rfl rfl ?_))
  refine h_cond_f (decide_eq_false (by rw [hat1]; simp)) rfl ?_; (repeat (refine H_ldFN hp rfl (by omega) rfl rfl ?_))
  refine h_cond_f (decide_eq_false (by rw [hat2]; simp)) rfl ?_; (repeat (refine H_ldFN hp rfl (by omega) rfl rfl ?_))
  refine gCall ?_
  rw [hat3, marks_len]
  refine h_call rfl Try.func21 (by kernel_rfl) rfl (heldIntS_h _ _ _ (kSq k R i + 1 + 1) _ hp.rd (by omega) (by omega) (by omega)) ?_; rintro _ w ⟨rfl, hx⟩; have hp := hp.ext hx; refine ops_run nopre rfl ?_; skip
  refine h_cond_f (decide_eq_false (by omega)) rfl ?_; skip
  exact IH (i + 1) _ _ _ (by omega) rfl ⟨by omega, hp⟩
 ·refine h_cond_f rfl rfl ?_; (repeat (refine R_ret ?_))
  obtain rfl : i = R.length := by omega
  exact ⟨rfl, hp.x⟩
theorem heldNet_h (x : NetA) (k : Int) (w0 : World) (hX : NetR w0 (mNet k x)) (hs : NetS x.n) (hk : 0 ≤ k) (hk2 : k < 1000000000000) :
  Ret Try.prog 20 [x.v, .int .i64 k] w0 (fun v w' => v = .int .i64 (kNet k x) ∧ Ext w0 w') := by
 have hb := kNet_le (k := k) hs
 obtain ⟨s1, s2, s3, s4⟩ := hs
 rw [x.slen] at s1 s2
 simp only [x.sins] at s2
 have s3 : x.ands.length ≤ 1048576 := s3
 have s4 : x.outs.length ≤ 1048576 := s4
 have h1 := kSq_le (k := k) s2 _ (Nat.le_refl _)
 have r1 : SeqsR w0 x.sa ((List.range x.seqs.length).map (mSq k x.seqs)) := hX.seqs
 have r2 : Rd w0 x.aa 2 eII ((List.range x.ands.length).map fun (i : Nat) => (kSq k x.seqs x.seqs.length + 2 * (i : Int), kSq k x.seqs x.seqs.length + 2 * (i : Int) + 1)) := hX.ands
 have r3 : Rd w0 x.oa 1 eI (marks (kSq k x.seqs x.seqs.length + 2 * x.ands.length) x.outs.length) := hX.outs
 refine enter Try.S20ok _ _ rfl rfl (by show _ ≤ _; simp only [List.length]; decide) (fun C => ?_); have hp := Hp.nil w0; refine h_run rfl ?_; skip; (first | refine H_box hp ?_ | refine H_alloc hp rfl ?_); intro w b2 hx hp; refine ops_run nopre rfl ?_; (repeat (refine H_ldB hp rfl rfl ?_))
 refine h_call rfl Try.func49 (by kernel_rfl) rfl (heldSeqS_h _ _ x.seqs _ rfl k _ (r1.ext hp.x) s1 s2 hk (by omega)) ?_; rintro _ w ⟨rfl, hx⟩; have hp := hp.ext hx; refine ops_run nopre rfl ?_; skip
 refine h_cond_f (decide_eq_false (by omega)) rfl ?_; (repeat (refine H_ldB hp rfl rfl ?_))
 refine h_call rfl Try.func50 (by kernel_rfl) rfl (heldAndS_h _ _ _ (kSq k x.seqs x.seqs.length) _ hp.rd (by omega) (by omega) (by omega)) ?_; rintro _ w ⟨rfl, hx⟩; have hp := hp.ext hx; refine ops_run nopre rfl ?_; skip
 refine h_cond_f (decide_eq_false (by omega)) rfl ?_; (repeat (refine H_ldB hp rfl rfl ?_))
 refine h_call rfl Try.func21 (by kernel_rfl) rfl (heldIntS_h _ _ _ (kSq k x.seqs x.seqs.length + 2 * x.ands.length) _ hp.rd (by omega) (by omega) (by omega)) ?_; rintro _ w ⟨rfl, hx⟩; have hp := hp.ext hx; refine ops_run nopre rfl ?_; skip
 refine h_cond_f (decide_eq_false (by omega)) rfl ?_; (repeat (refine R_ret ?_))
 exact ⟨rfl, hp.x⟩
end Go.Proofs
