/- Only the low bits of the inputs count in a run; plain data, no condition. -/
import Derived.Test.YtninddlngpmpaaaSimLaw
set_option linter.all false
namespace Go.Xw
open Go.Proofs
set_option maxHeartbeats 1000000
theorem low_bit (z : Int) {k m : Nat} (h : k < m) : z % 2 ^ m / 2 ^ k % 2 = z / 2 ^ k % 2 := by
  obtain ⟨d, rfl⟩ : ∃ d, m = k + 1 + d := ⟨m - (k + 1), by omega⟩
  have hp0 : (0 : Int) < 2 ^ k := Int.pow_pos (by decide)
  have hp : (2 : Int) ^ k ≠ 0 := by omega
  have e : (2 : Int) ^ (k + 1 + d) = 2 ^ k * (2 * 2 ^ d) := by rw [Int.pow_add, Int.pow_succ, Int.mul_assoc]
  have h1 := Int.emod_add_mul_ediv z (2 ^ (k + 1 + d))
  obtain ⟨X, hX⟩ : ∃ X, X = z / 2 ^ (k + 1 + d) := ⟨_, rfl⟩
  obtain ⟨Y, hY⟩ : ∃ Y, Y = z % 2 ^ (k + 1 + d) := ⟨_, rfl⟩
  rw [← hX, ← hY, e, Int.mul_assoc, Int.mul_assoc] at h1
  rw [← hY, ← h1, Int.add_mul_ediv_left _ _ hp, Int.add_mul_emod_self_left]
def lowM (n : NetL) (z : Int) : Int := bits .and .i64 z (1 * 2 ^ n.inputs.toNat - 1)
theorem lowM_eq {n : NetL} (h : NetOkP n) (z : Int) : lowM n z = z % 2 ^ n.inputs.toNat := by
  have hs := h.size.1
  have := bits_and_mask z n.inputs.toNat (by omega)
  unfold lowM
  rw [Int.one_mul]
  exact this
theorem low_leaf {n : NetL} (h : NetOkP n) (st : List Int) (z : Int) : leafV n st (lowM n z) = leafV n st z := by
  unfold leafV
  congr 2
  refine List.map_congr_left fun k hk => ?_
  rw [List.mem_range] at hk
  unfold bitI
  rw [bits_and_one, bits_and_one, lowM_eq h, low_bit z hk]
theorem low_vals {n : NetL} (h : NetOkP n) {st : List Int} (hs : st.length = n.seqs.length) (z : Int) : valsL n st (lowM n z) = valsL n st z := by
  rw [valsL_eq h hs, valsL_eq h hs, low_leaf h]
theorem low_st {n : NetL} (h : NetOkP n) (ins : List Int) : ∀ k, k ≤ ins.length → stAt n (ins.map (lowM n)) k = stAt n ins k
  | 0, _ => rfl
  | k + 1, hk => by
    rw [stAt, stAt, low_st h ins k (by omega), map_getD (show k < ins.length by omega)]
    unfold nextL
    rw [low_vals h (stAt_stP h ins k).1]
theorem low_run {n : NetL} (h : NetOkP n) (ins : List Int) : runL n (ins.map (lowM n)) = runL n ins := by
  have : ∀ k, k ≤ ins.length → runTo n (ins.map (lowM n)) k = runTo n ins k := fun k => by
    induction k with
    | zero => intro _; rfl
    | succ k ih =>
      intro hk
      rw [runTo, runTo, ih (by omega), low_st h ins k (by omega), map_getD (show k < ins.length by omega)]
      unfold outL
      rw [low_vals h (stAt_stP h ins k).1]
  unfold runL
  rw [List.length_map]
  exact this _ (Nat.le_refl _)
theorem runTo_get (n : NetL) (ins : List Int) {k m : Nat} (h : k < m) : (runTo n ins m).getD k default = outL n (stAt n ins k) (ins.getD k default) := by
  induction h with
  | refl =>
    rw [runTo]
    have := snoc_eq (R := runTo n ins k) (y := outL n (stAt n ins k) (ins.getD k default))
    rw [runTo_len] at this
    exact this
  | @step m hm ih => rw [runTo, snoc_lt (by rw [runTo_len]; exact hm), ih]
end Go.Xw
