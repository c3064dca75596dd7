/- Comparison of lists of lists, and marks in them; each under its stated conditions. -/
import Derived.Test.YtfcafmbcmdeomaaEnumT
set_option linter.all false
namespace Go.Proofs
open Go.Xw
set_option maxRecDepth 100000
set_option maxHeartbeats 2000000
attribute [local irreducible] Holds elemAddr
theorem enum_sz {n : NetL} {k : Int} {R : List (RowA Int)} (h : insOf R = enumF n k) : R.length ≤ 8 ∧ ∀ r, r ∈ R → r.ins.length ≤ 4 := by
  by_cases hc : NetOkP n ∧ 0 ≤ k ∧ k < nodesL n
  · rw [enumF_yes hc] at h
    have n2 := hc.1.nums.n2
    have hk : k.toNat < nds n := by omega
    refine ⟨by rw [← insOf_len, h]; exact (cutsOf_len hc.1 hk).2, fun r hr => cutsOf_four hc.1 hk _ (by rw [← h]; exact List.mem_map.2 ⟨r, hr, rfl⟩)⟩
  · rw [enumF_no hc] at h
    have hl : R.length = 0 := by rw [← insOf_len, h]; rfl
    have := List.eq_nil_of_length_eq_zero hl
    subst this
    exact ⟨by simp, fun r hr => by simp at hr⟩
theorem eqIntSS_h (a b : Option Addr) (ca cb : Nat) (RA RB : List (RowA Int)) (w0 : World) (hA : Rd w0 a 1 eRo RA) (hAr : RowsR w0 RA) (hB : Rd w0 b 1 eRo RB) (hBr : RowsR w0 RB) (hl : RA.length ≤ 1000) (hg : ∀ r, r ∈ RA → r.ins.length ≤ 1000) (he : insOf RA = insOf RB) :
    Ret Try.prog 46 [.slice a RA.length ca, .slice b RB.length cb] w0 (fun v w => v = .bool true ∧ Ext w0 w) := by
  have hlen : RA.length = RB.length := by have := congrArg List.length he; rwa [insOf_len, insOf_len] at this
  refine enter Try.S46ok _ _ rfl rfl (by show _ ≤ _; simp only [List.length]; decide) (fun C => ?_); have hp := Hp.nil w0; refine h_run rfl ?_; skip
  refine h_cond_dec (fun h => ?_) (fun h => ?_)
  · exact absurd h (by omega)
  · refine h_cond_f rfl rfl ?_; skip
    refine h_loop [0, 1, 5] (fun i : Nat => [(0, .slice a RA.length ca), (1, .slice b RB.length cb), (5, .int .i64 (i : Int))])
      (fun i w' => i ≤ RA.length ∧ Hp w0 w' []) (fun i => RA.length - i) 0 rfl ⟨by omega, hp⟩ ?_
    clear hp
    rintro i w1 ⟨hi, hp⟩ IH C
    refine h_run rfl ?_; skip
    refine h_cond_dec (fun hlt => ?_) (fun hlt => ?_)
    · have hlt' : i < RA.length := by omega
      have hai := hAr.at_ hlt'
      have hbi := hBr.at_ (show i < RB.length by omega)
      have hgi := hg _ (getD_memR hlt')
      have hei : (RA.getD i default).ins = (RB.getD i default).ins := by rw [← insOf_get, ← insOf_get, he]
      have hli : (RA.getD i default).ins.length = (RB.getD i default).ins.length := by rw [hei]
      refine h_cond_t rfl rfl ?_; skip
      refine D_draw hp (by kernel_rfl) (by kernel_rfl) rfl rfl ?_; intro w hx hp; have hs := hp; (repeat (refine D_ldEN rfl (by omega) rfl rfl rfl ?_))
      refine h_callq rfl Try.func19 (by kernel_rfl) rfl ((eqIntS_h _ _ _ _ (RA.getD i default).ins (RB.getD i default).ins _ hp.rd hp.rd (by omega) (by omega)).yes hei) ?_; rintro _ w ⟨rfl, hx⟩; have hp := hp.ext hx; have hs := hs.ext hx; refine ⟨fun _ => hs, ?_⟩; refine D_ops rfl rfl ?_; skip
      refine h_cond_f rfl rfl ?_; skip
      exact IH (i + 1) _ _ _ (by omega) rfl ⟨by omega, hp⟩
    · refine h_cond_f rfl rfl ?_; (repeat (refine R_ret ?_))
      exact ⟨rfl, hp.x⟩
/-- how many numbers stand in the first rows -/
def offR (R : List (RowA Int)) (j : Nat) : Nat := ((R.take j).map fun r => r.ins.length).sum
theorem offR_next {R : List (RowA Int)} {j : Nat} (h : j < R.length) : offR R (j + 1) = offR R j + (R.getD j default).ins.length := by
  unfold offR
  rw [take_snocC h, List.map_append, List.sum_append]
  simp
theorem offR_le {R : List (RowA Int)} {m : Nat} (hg : ∀ r, r ∈ R → r.ins.length ≤ m) : ∀ j, offR R j ≤ j * m
  | 0 => by simp [offR]
  | j + 1 => by
    have ih := offR_le hg j
    by_cases h : j < R.length
    · have := hg _ (getD_memR h)
      rw [offR_next h, Nat.succ_mul]
      omega
    · have e : offR R (j + 1) = offR R j := by unfold offR; rw [List.take_of_length_le (by omega), List.take_of_length_le (by omega)]
      rw [e, Nat.succ_mul]
      omega
/-- the rows of R below i with marks in them, the others as they were -/
structure MarkR (k : Int) (R : List (RowA Int)) (i : Nat) (Q : List (RowA Int)) : Prop where
  len : Q.length = R.length
  lo : ∀ j, j < i → Q.getD j default = ⟨marks (k + offR R j) (R.getD j default).ins.length, (R.getD j default).ia, (R.getD j default).ic⟩
  hi : ∀ j, i ≤ j → Q.getD j default = R.getD j default
theorem MarkR.next {k : Int} {R : List (RowA Int)} {i : Nat} {Q : List (RowA Int)} (h : MarkR k R i Q) (hi : i < R.length) : MarkR k R (i + 1) (Q.set i ⟨marks (k + offR R i) (R.getD i default).ins.length, (R.getD i default).ia, (R.getD i default).ic⟩) := by
  have hl := h.len
  refine ⟨by rw [List.length_set]; exact hl, fun j hj => ?_, fun j hj => ?_⟩
  · rw [set_getE (by omega)]
    by_cases hji : j = i
    · rw [if_pos hji, hji]
    · rw [if_neg hji]; exact h.lo j (by omega)
  · rw [set_getE (by omega), if_neg (by omega)]
    exact h.hi j (by omega)
theorem markIntSS_h {w0 w : World} {L : List Res} {a : Option Addr} {c : Nat} {R : List (RowA Int)} (hp : Hp w0 w (rRows 3 1 eI R :: L)) [hr : RdH w0 L a 1 eRo R] (k : Int) (hl : R.length ≤ 1000) (hg : ∀ r, r ∈ R → r.ins.length ≤ 1000) (hk : 0 ≤ k) (hk2 : k < 100000000000000) :
    Ret Try.prog 47 [.slice a R.length c, .int .i64 k] w (fun v w' => ∃ Q, (v = .int .i64 (k + offR R R.length) ∧ MarkR k R R.length Q) ∧ Hp w0 w' (rRows 3 1 eI Q :: L)) := by
  refine enter Try.S47ok _ _ rfl rfl (by show _ ≤ _; simp only [List.length]; decide) (fun C => ?_); refine h_run rfl ?_
  refine h_loop [0, 1, 5] (fun i : Nat => [(0, .slice a R.length c), (1, .int .i64 (k + offR R i)), (5, .int .i64 (i : Int))])
    (fun i w' => i ≤ R.length ∧ ∃ Q, MarkR k R i Q ∧ Hp w0 w' (rRows 3 1 eI Q :: L)) (fun i => R.length - i) 0 (by rw [show k + ((offR R 0 : Nat) : Int) = k by simp [offR]]; rfl) ⟨by omega, R, ⟨rfl, fun j hj => by omega, fun j _ => rfl⟩, hp⟩ ?_
  clear hp
  rintro i w1 ⟨hi, Q, hQ, hp⟩ IH C
  have hQl := hQ.len
  refine h_run rfl ?_; skip
  refine h_cond_dec (fun hlt => ?_) (fun hlt => ?_)
  · have hlt' : i < R.length := by omega
    have hgi := hg _ (getD_memR hlt')
    have ho := offR_le hg i
    have hon := offR_next hlt'
    have hqi := hQ.hi i (Nat.le_refl _)
    obtain ⟨Z, h2, hback⟩ := rRows_at hp (show i < Q.length by omega)
    rw [hqi] at h2
    refine h_cond_t rfl rfl ?_; (repeat (refine H_ldEN hp rfl (by omega) rfl rfl ?_))
    have ho2 : i * 1000 ≤ 1000000 := by omega
    refine h_call rfl Try.func22 (by kernel_rfl) rfl (markIntS_h h2 (k + offR R i) (by omega) (by omega) (by omega)) ?_; rintro _ w2 ⟨rfl, h3⟩
    have hp := hback _ _ ⟨marks (k + offR R i) (R.getD i default).ins.length, (R.getD i default).ia, (R.getD i default).ic⟩ h3
    refine ops_run nopre rfl ?_; skip
    exact IH (i + 1) _ _ _ (by omega) (by rw [hon, show k + ((offR R i + (R.getD i default).ins.length : Nat) : Int) = k + (offR R i : Int) + ((R.getD i default).ins.length : Int) by omega]; rfl) ⟨by omega, _, hQ.next hlt', hp⟩
  · refine h_cond_f rfl rfl ?_; (repeat (refine R_ret ?_))
    obtain rfl : i = R.length := by omega
    exact ⟨Q, ⟨rfl, hQ⟩, hp⟩
theorem heldIntSS_h (a : Option Addr) (c : Nat) (R Q : List (RowA Int)) (k : Int) (w0 : World) (hA : Rd w0 a 1 eRo R) (hQr : RowsR w0 Q) (hQ : MarkR k R R.length Q) (hl : R.length ≤ 1000) (hg : ∀ r, r ∈ R → r.ins.length ≤ 1000) (hk : 0 ≤ k) (hk2 : k < 100000000000000) :
    Ret Try.prog 48 [.slice a R.length c, .int .i64 k] w0 (fun v w => v = .int .i64 (k + offR R R.length) ∧ Ext w0 w) := by
  have hQl := hQ.len
  refine enter Try.S48ok _ _ rfl rfl (by show _ ≤ _; simp only [List.length]; decide) (fun C => ?_); have hp := Hp.nil w0; refine h_run rfl ?_; skip
  refine h_loop [0, 1, 5] (fun i : Nat => [(0, .slice a R.length c), (1, .int .i64 (k + offR R i)), (5, .int .i64 (i : Int))])
    (fun i w' => i ≤ R.length ∧ Hp w0 w' []) (fun i => R.length - i) 0 (by rw [show k + ((offR R 0 : Nat) : Int) = k by simp [offR]]; rfl) ⟨by omega, hp⟩ ?_
  clear hp
  rintro i w1 ⟨hi, hp⟩ IH C
  refine h_run rfl ?_; skip
  refine h_cond_dec (fun hlt => ?_) (fun hlt => ?_)
  · have hlt' : i < R.length := by omega
    have hgi := hg _ (getD_memR hlt')
    have ho := offR_le hg i
    have hon := offR_next hlt'
    have hqi := hQ.lo i hlt'
    have hri := hQr.at_ (show i < Q.length by omega)
    rw [hqi] at hri
    have ho2 : i * 1000 ≤ 1000000 := by omega
    refine h_cond_t rfl rfl ?_; (repeat (refine H_ldEN hp rfl (by omega) rfl rfl ?_))
    refine h_call rfl Try.func23 (by kernel_rfl) rfl (heldIntS_h _ _ (R.getD i default).ins.length (k + offR R i) _ hp.rd (by omega) (by omega) (by omega)) ?_; rintro _ w ⟨rfl, hx⟩; have hp := hp.ext hx; refine ops_run nopre rfl ?_; skip
    refine h_cond_dec (fun hneg => ?_) (fun hneg => ?_)
    · exact absurd hneg (by omega)
    · refine h_cond_f rfl rfl ?_; skip
      exact IH (i + 1) _ _ _ (by omega) (by rw [hon, show k + ((offR R i + (R.getD i default).ins.length : Nat) : Int) = k + (offR R i : Int) + ((R.getD i default).ins.length : Int) by omega]; rfl) ⟨by omega, hp⟩
  · refine h_cond_f rfl rfl ?_; (repeat (refine R_ret ?_))
    obtain rfl : i = R.length := by omega
    exact ⟨rfl, hp.x⟩
end Go.Proofs
