/- The contracts of SeqNext on both sides; no condition but the stated ones. -/
import Derived.Test.YtbjgekllkfnjnaaBase
import Derived.Test.YtbjgekllkfnjnaaBits
set_option linter.all false
namespace Go.Proofs
open Go.Xw
set_option maxRecDepth 100000

def seqMostL (k : Int) : Int := if k = 0 then 1 else if k = 1 then 31 else -1

theorem seqMost_ok (k : Int) (w : World) : Ret Try.prog 151 [.int .i64 k] w (fun v w' => v = .int .i64 (seqMostL k) ∧ w' = w) := by
  refine enter Try.S151ok _ _ rfl rfl (by show _ ≤ _; simp only [List.length]; decide) (fun C => ?_); refine h_run rfl ?_; (repeat (first | refine h_guard_y rfl nopre rfl ?_ | refine h_guard_n rfl nopre rfl ?_))
  refine h_cond_dec (fun h => ?_) (fun h => ?_)
  · refine h_cond_t rfl rfl ?_; (repeat (first | refine h_guard_y rfl nopre rfl ?_ | refine h_guard_n rfl nopre rfl ?_))
    exact ⟨by unfold seqMostL; rw [if_pos h], rfl⟩
  · refine h_cond_f rfl rfl ?_; (repeat (first | refine h_guard_y rfl nopre rfl ?_ | refine h_guard_n rfl nopre rfl ?_))
    refine h_cond_dec (fun h2 => ?_) (fun h2 => ?_)
    · refine h_cond_t rfl rfl ?_; (repeat (first | refine h_guard_y rfl nopre rfl ?_ | refine h_guard_n rfl nopre rfl ?_))
      exact ⟨by unfold seqMostL; rw [if_neg h, if_pos h2], rfl⟩
    · refine h_cond_f rfl rfl ?_; (repeat (first | refine h_guard_y rfl nopre rfl ?_ | refine h_guard_n rfl nopre rfl ?_))
      exact ⟨by unfold seqMostL; rw [if_neg h, if_neg h2], rfl⟩

/-- the memory's next state: v the state, a the place, d the bit, e: is it written -/
def ramO (v : Int) (a : Nat) : Int := bits .or .i64 (bits .and .i64 (v / 2 ^ a) 1) (bits .andNot .i64 v 1)
def ramW (v : Int) (a : Nat) (d : Int) : Int := bits .or .i64 (bits .andNot .i64 (ramO v a) (2 ^ a)) (d * 2 ^ a)
def ramNext (v i : Int) : Int := if i / 8 % 2 = 1 then ramW v (i % 4 + 1).toNat (i / 4 % 2) else ramO v (i % 4 + 1).toNat

theorem ram_all : ∀ v : Fin 32, ∀ a : Fin 4, ∀ d : Fin 2, ramO v.val (a.val + 1) = bits .andNot .i64 (v.val : Int) 1 + bits .and .i64 ((v.val : Int) / 2 ^ (a.val + 1)) 1 ∧ 0 ≤ ramO v.val (a.val + 1) ∧ ramO v.val (a.val + 1) ≤ 31 ∧
    ramW v.val (a.val + 1) d.val = bits .andNot .i64 (ramO v.val (a.val + 1)) (2 ^ (a.val + 1)) + d.val * 2 ^ (a.val + 1) ∧ 0 ≤ ramW v.val (a.val + 1) d.val ∧ ramW v.val (a.val + 1) d.val ≤ 31 := by
  decide +kernel

theorem ram_is {v i : Int} (h0 : 0 ≤ v) (h1 : v ≤ 31) : ramO v (i % 4 + 1).toNat = bits .andNot .i64 v 1 + bits .and .i64 (v / 2 ^ (i % 4 + 1).toNat) 1 ∧ 0 ≤ ramO v (i % 4 + 1).toNat ∧ ramO v (i % 4 + 1).toNat ≤ 31 ∧
    ramW v (i % 4 + 1).toNat (i / 4 % 2) = bits .andNot .i64 (ramO v (i % 4 + 1).toNat) (2 ^ (i % 4 + 1).toNat) + (i / 4 % 2) * 2 ^ (i % 4 + 1).toNat ∧ 0 ≤ ramW v (i % 4 + 1).toNat (i / 4 % 2) ∧ ramW v (i % 4 + 1).toNat (i / 4 % 2) ≤ 31 := by
  have h := ram_all ⟨v.toNat, by omega⟩ ⟨(i % 4).toNat, by omega⟩ ⟨(i / 4 % 2).toNat, by omega⟩
  have e1 : ((v.toNat : Nat) : Int) = v := by omega
  have e2 : (i % 4).toNat + 1 = (i % 4 + 1).toNat := by omega
  have e3 : (((i / 4 % 2).toNat : Nat) : Int) = i / 4 % 2 := by omega
  simp only [e1, e2, e3] at h
  exact h

def seqNextL (k v i : Int) : Int :=
  if k = 0 ∧ 0 ≤ v ∧ v ≤ 1 then i % 2 else if k = 1 ∧ 0 ≤ v ∧ v ≤ 31 then ramNext v i else -1

theorem pow_a (i : Int) : 2 ≤ (2 : Int) ^ (i % 4 + 1).toNat ∧ (2 : Int) ^ (i % 4 + 1).toNat ≤ 16 := by
  have h : i % 4 = 0 ∨ i % 4 = 1 ∨ i % 4 = 2 ∨ i % 4 = 3 := by omega
  rcases h with h | h | h | h <;> rw [h] <;> decide
theorem shr0 (i : Int) (n : Nat) : i / 2 ^ (Int.toNat (n : Int)) = i / 2 ^ n := rfl

theorem implSeqNext_ok (k v i : Int) (w : World) :
    Ret Try.prog 126 [.int .i64 k, .int .i64 v, .int .i64 i] w (fun r w' => r = .int .i64 (seqNextL k v i) ∧ w' = w) := by
  refine enter Try.S126ok _ _ rfl rfl (by show _ ≤ _; simp only [List.length]; decide) (fun C => ?_); refine h_run rfl ?_; (repeat (first | refine h_guard_y rfl nopre rfl ?_ | refine h_guard_n rfl nopre rfl ?_))
  refine h_call rfl Try.func151 (by kernel_rfl) rfl (seqMost_ok _ _) ?_
  rintro _ w' ⟨rfl, rfl⟩
  refine ops_run nopre rfl ?_; (repeat (first | refine h_guard_y rfl nopre rfl ?_ | refine h_guard_n rfl nopre rfl ?_))
  refine h_call rfl Try.func48 (by kernel_rfl) rfl (inRange_ok _ _ _ _) ?_
  rintro _ w' ⟨rfl, rfl⟩
  refine ops_run nopre rfl ?_; (repeat (first | refine h_guard_y rfl nopre rfl ?_ | refine h_guard_n rfl nopre rfl ?_))
  refine h_cond_ndec (fun h3 => ?_) (fun h3 => ?_)
  · refine h_cond_t rfl rfl ?_; (repeat (first | refine h_guard_y rfl nopre rfl ?_ | refine h_guard_n rfl nopre rfl ?_))
    exact ⟨by unfold seqNextL seqMostL at *; rw [if_neg (by split at h3 <;> omega), if_neg (by split at h3 <;> (try split at h3) <;> omega)], rfl⟩
  · refine h_cond_f rfl rfl ?_; (repeat (first | refine h_guard_y rfl nopre rfl ?_ | refine h_guard_n rfl nopre rfl ?_))
    refine h_cond_dec (fun h4 => ?_) (fun h4 => ?_)
    · refine h_cond_t rfl rfl ?_; (repeat (first | refine h_guard_y rfl nopre rfl ?_ | refine h_guard_n rfl nopre rfl ?_))
      exact ⟨by unfold seqNextL seqMostL at *; rw [if_pos (by simp [h4] at h3 ⊢; omega), bits_and_one], rfl⟩
    · have hk : k = 1 ∧ v ≤ 31 := by unfold seqMostL at h3; split at h3 <;> (try split at h3) <;> omega
      have e3 := bits_and_three i
      have e4 := bits_and_one (i / 4)
      have e8 := bits_and_one (i / 8)
      have hp := pow_a i
      have hr := ram_is (i := i) h3.1 hk.2
      have h64 : (IntKind.i64.bits : Int) = 64 := rfl
      have c8 : i / 2 ^ Int.toNat 3 = i / 8 := rfl
      have c4 : i / 2 ^ Int.toNat 2 = i / 4 := rfl
      rw [← e3] at hp hr
      refine h_cond_f rfl rfl ?_; (repeat (first | refine h_guard_y rfl nopre rfl ?_ | refine h_guard_n rfl nopre rfl ?_))
      have hns : seqNextL k v i = ramNext v i := by unfold seqNextL; rw [if_neg (by omega), if_pos (by omega)]
      refine h_cond_dec (fun h5 => ?_) (fun h5 => ?_)
      · rw [c8, e8] at h5
        have hd : 0 ≤ i / 4 % 2 * 2 ^ (bits .and .i64 i 3 + 1).toNat ∧ i / 4 % 2 * 2 ^ (bits .and .i64 i 3 + 1).toNat ≤ 16 := by
          have : i / 4 % 2 = 0 ∨ i / 4 % 2 = 1 := by omega
          rcases this with h | h <;> rw [h] <;> omega
        rw [← e4, ← c4] at hd
        refine h_cond_t rfl rfl ?_; (repeat (first | refine h_guard_y rfl nopre rfl ?_ | refine h_guard_n rfl nopre rfl ?_))
        refine ⟨?_, rfl⟩
        rw [hns]; unfold ramNext
        rw [if_pos h5, c4, e4, Int.one_mul, ← e3]
        rfl
      · rw [c8, e8] at h5
        refine h_cond_f rfl rfl ?_; (repeat (first | refine h_guard_y rfl nopre rfl ?_ | refine h_guard_n rfl nopre rfl ?_))
        refine ⟨?_, rfl⟩
        rw [hns]; unfold ramNext
        rw [if_neg h5, ← e3]
        rfl

theorem specSeqNext_ok (k v i : Int) (w : World) :
    Ret Try.prog 130 [.int .i64 k, .int .i64 v, .int .i64 i] w (fun r w' => r = .int .i64 (seqNextL k v i) ∧ Ext w w') := by
  have e3 := bits_and_three i
  have e4 := bits_and_one (i / 4)
  have e8 := bits_and_one (i / 8)
  have hp := pow_a i
  have h64 : (IntKind.i64.bits : Int) = 64 := rfl
  have c8 : i / 2 ^ Int.toNat 3 = i / 8 := rfl
  have c4 : i / 2 ^ Int.toNat 2 = i / 4 := rfl
  rw [← e3] at hp
  refine enter Try.S130ok _ _ rfl rfl (by show _ ≤ _; simp only [List.length]; decide) (fun C => ?_); refine h_run rfl ?_; (repeat (first | refine h_guard_y rfl nopre rfl ?_ | refine h_guard_n rfl nopre rfl ?_))
  refine h_guard_by (fun h1 => ?_) (fun h1 => ?_); all_goals (rw [h1]; (first | replace h1 := of_decide_eq_true h1 | replace h1 := of_decide_eq_false h1 | skip); repeat (first | refine h_guard_y rfl nopre rfl ?_ | refine h_guard_n rfl nopre rfl ?_))
  · refine h_call rfl Try.func45 (by kernel_rfl) rfl (l01In_ok _ _ _ _) ?_
    rintro _ w' ⟨rfl, rfl⟩
    refine ops_run nopre rfl ?_; (repeat (first | refine h_guard_y rfl nopre rfl ?_ | refine h_guard_n rfl nopre rfl ?_))
    refine h_cond_dec (fun h2 => ?_) (fun h2 => ?_)
    · refine h_cond_t rfl rfl ?_; (repeat (first | refine h_guard_y rfl nopre rfl ?_ | refine h_guard_n rfl nopre rfl ?_))
      exact ⟨by unfold seqNextL; rw [if_pos ⟨h1, h2⟩, bits_and_one], Ext.refl _⟩
    · refine h_cond_f rfl rfl ?_; (repeat (first | refine h_guard_y rfl nopre rfl ?_ | refine h_guard_n rfl nopre rfl ?_))
      refine h_guard_by (fun h3 => ?_) (fun h3 => ?_); all_goals (rw [h3]; (first | replace h3 := of_decide_eq_true h3 | replace h3 := of_decide_eq_false h3 | skip); repeat (first | refine h_guard_y rfl nopre rfl ?_ | refine h_guard_n rfl nopre rfl ?_))
      · refine h_cond_t rfl rfl ?_; (repeat (first | refine h_guard_y rfl nopre rfl ?_ | refine h_guard_n rfl nopre rfl ?_))
        exact ⟨by unfold seqNextL; rw [if_neg (by omega), if_neg (by omega)], Ext.refl _⟩
      · exact absurd h1 (by omega)
  · refine h_cond_f rfl rfl ?_; (repeat (first | refine h_guard_y rfl nopre rfl ?_ | refine h_guard_n rfl nopre rfl ?_))
    refine h_guard_by (fun h3 => ?_) (fun h3 => ?_); all_goals (rw [h3]; (first | replace h3 := of_decide_eq_true h3 | replace h3 := of_decide_eq_false h3 | skip); repeat (first | refine h_guard_y rfl nopre rfl ?_ | refine h_guard_n rfl nopre rfl ?_))
    · refine h_cond_t rfl rfl ?_; (repeat (first | refine h_guard_y rfl nopre rfl ?_ | refine h_guard_n rfl nopre rfl ?_))
      exact ⟨by unfold seqNextL; rw [if_neg (by omega), if_neg (by omega)], Ext.refl _⟩
    · have hk : k = 1 := by omega
      refine h_call rfl Try.func45 (by kernel_rfl) rfl (l01In_ok _ _ _ _) ?_
      rintro _ w' ⟨rfl, rfl⟩
      refine ops_run nopre rfl ?_; (repeat (first | refine h_guard_y rfl nopre rfl ?_ | refine h_guard_n rfl nopre rfl ?_))
      refine h_cond_ndec (fun h4 => ?_) (fun h4 => ?_)
      · refine h_cond_t rfl rfl ?_; (repeat (first | refine h_guard_y rfl nopre rfl ?_ | refine h_guard_n rfl nopre rfl ?_))
        exact ⟨by unfold seqNextL; rw [if_neg (by omega), if_neg (by omega)], Ext.refl _⟩
      · have hr := ram_is (i := i) h4.1 h4.2
        rw [← e3] at hr
        have hns : seqNextL k v i = ramNext v i := by unfold seqNextL; rw [if_neg (by omega), if_pos (by omega)]
        refine h_cond_f rfl rfl ?_; (repeat (first | refine h_guard_y rfl nopre rfl ?_ | refine h_guard_n rfl nopre rfl ?_))
        have hd : 0 ≤ i / 4 % 2 * 2 ^ (bits .and .i64 i 3 + 1).toNat ∧ i / 4 % 2 * 2 ^ (bits .and .i64 i 3 + 1).toNat ≤ 16 := by
          have : i / 4 % 2 = 0 ∨ i / 4 % 2 = 1 := by omega
          rcases this with h | h <;> rw [h] <;> omega
        rw [← e4, ← c4] at hd
        have hW : bits .andNot .i64 (bits .andNot .i64 v 1 + bits .and .i64 (v / 2 ^ (bits .and .i64 i 3 + 1).toNat) 1) (1 * 2 ^ (bits .and .i64 i 3 + 1).toNat) + bits .and .i64 (i / 2 ^ Int.toNat 2) 1 * 2 ^ (bits .and .i64 i 3 + 1).toNat = ramW v (bits .and .i64 i 3 + 1).toNat (i / 4 % 2) := by
          rw [Int.one_mul, c4, e4, ← hr.1, hr.2.2.2.1]
        refine h_cond_dec (fun h5 => ?_) (fun h5 => ?_)
        · refine h_cond_t rfl rfl ?_; (repeat (first | refine h_guard_y rfl nopre rfl ?_ | refine h_guard_n rfl nopre rfl ?_))
          refine h_drawE (by kernel_rfl) (by kernel_rfl) rfl rfl (fun w1 hx => ?_); (repeat (first | refine h_guard_yd rfl rfl rfl ?_ | refine h_guard_nd rfl rfl rfl ?_))
          refine ⟨?_, hx⟩
          rw [c8, e8] at h5
          rw [hns]; unfold ramNext
          rw [if_pos h5, ← e3, ← hW]
        · rw [c8, e8] at h5
          refine h_cond_f rfl rfl ?_; (repeat (first | refine h_guard_y rfl nopre rfl ?_ | refine h_guard_n rfl nopre rfl ?_))
          refine ⟨?_, Ext.refl _⟩
          rw [hns]; unfold ramNext
          rw [if_neg h5, ← e3, hr.1]

end Go.Proofs
