/- The bit operations of 64-bit integers as arithmetic; no condition but the stated ones. -/
import Derived.Laws.BitsAllLaws
import Derived.Laws.BitsLemmas
import Derived.IntWalk
set_option linter.all false
namespace Go.Xw

theorem ofInt_toNat (z : Int) : ((BitVec.ofInt 64 z).toNat : Int) = z % 18446744073709551616 := by
  rw [BitVec.toNat_ofInt]
  have : (0 : Int) ≤ z % 18446744073709551616 := Int.emod_nonneg _ (by decide)
  simp
  omega

theorem bits_and_mask (z : Int) (k : Nat) (hk : k ≤ 62) : bits .and .i64 z (2 ^ k - 1) = z % 2 ^ k := by
  have hp : (2 : Int) ^ k = ((2 ^ k : Nat) : Int) := by simp
  have hpos : 0 < 2 ^ k := Nat.two_pow_pos k
  have hle : 2 ^ k ≤ 2 ^ 62 := Nat.pow_le_pow_right (by decide) hk
  have hm : (BitVec.ofInt 64 ((2 : Int) ^ k - 1)).toNat = 2 ^ k - 1 := by
    have h := ofInt_toNat ((2 : Int) ^ k - 1)
    rw [hp] at h ⊢
    omega
  show IntKind.i64.wrap (((BitVec.ofInt 64 z) &&& (BitVec.ofInt 64 (2 ^ k - 1))).toNat : Int) = _
  rw [BitVec.toNat_and, hm, Nat.and_two_pow_sub_one_eq_mod]
  have h1 := ofInt_toNat z
  have h2 : (((BitVec.ofInt 64 z).toNat % 2 ^ k : Nat) : Int) = z % 2 ^ k := by
    rw [Int.natCast_emod, h1, hp]
    have hd : ((2 ^ k : Nat) : Int) ∣ 18446744073709551616 := by
      have : (2 ^ k : Nat) ∣ 18446744073709551616 := by
        have : (18446744073709551616 : Nat) = 2 ^ 64 := by decide
        rw [this]
        exact Nat.pow_dvd_pow 2 (by omega)
      exact Int.natCast_dvd_natCast.2 this
    exact Int.emod_emod_of_dvd z hd
  rw [h2]
  have h3 : 0 ≤ z % 2 ^ k := Int.emod_nonneg _ (by rw [hp]; omega)
  have h4 : z % 2 ^ k < 2 ^ k := Int.emod_lt_of_pos _ (by rw [hp]; omega)
  rw [hp] at h3 h4 ⊢
  exact IntWalk.i64_in _ (by omega)

theorem bits_and_one (z : Int) : bits .and .i64 z 1 = z % 2 := by
  have := bits_and_mask z 1 (by decide)
  simpa using this
theorem bits_and_three (z : Int) : bits .and .i64 z 3 = z % 4 := by
  have := bits_and_mask z 2 (by decide)
  simpa using this

theorem ofNat_toNat (a : Nat) (ha : a < 9223372036854775808) : (BitVec.ofInt 64 (a : Int)).toNat = a := by
  have := ofInt_toNat (a : Int)
  omega

theorem bits_and_nat (a b : Nat) (ha : a < 9223372036854775808) (hb : b < 9223372036854775808) : bits .and .i64 (a : Int) (b : Int) = ((a &&& b : Nat) : Int) := by
  have hx : a &&& b < 9223372036854775808 := Nat.lt_of_le_of_lt Nat.and_le_left ha
  show IntKind.i64.wrap ((BitVec.ofInt 64 (a : Int) &&& BitVec.ofInt 64 (b : Int)).toNat : Int) = _
  rw [BitVec.toNat_and, ofNat_toNat a ha, ofNat_toNat b hb]
  exact IntWalk.i64_in _ (by omega)
theorem bits_or_nat (a b : Nat) (ha : a < 9223372036854775808) (hb : b < 9223372036854775808) : bits .or .i64 (a : Int) (b : Int) = ((a ||| b : Nat) : Int) := by
  have hx : a ||| b < 9223372036854775808 := Nat.or_lt_two_pow (n := 63) ha hb
  show IntKind.i64.wrap ((BitVec.ofInt 64 (a : Int) ||| BitVec.ofInt 64 (b : Int)).toNat : Int) = _
  rw [BitVec.toNat_or, ofNat_toNat a ha, ofNat_toNat b hb]
  exact IntWalk.i64_in _ (by omega)
theorem bits_xor_nat (a b : Nat) (ha : a < 9223372036854775808) (hb : b < 9223372036854775808) : bits .xor .i64 (a : Int) (b : Int) = ((a ^^^ b : Nat) : Int) := by
  have hx : a ^^^ b < 9223372036854775808 := Nat.xor_lt_two_pow (n := 63) ha hb
  show IntKind.i64.wrap ((BitVec.ofInt 64 (a : Int) ^^^ BitVec.ofInt 64 (b : Int)).toNat : Int) = _
  rw [BitVec.toNat_xor, ofNat_toNat a ha, ofNat_toNat b hb]
  exact IntWalk.i64_in _ (by omega)

theorem pow_le_ {s t : Nat} (h : s ≤ t) : (2 : Int) ^ s ≤ 2 ^ t := by
  have : (2 : Nat) ^ s ≤ 2 ^ t := Nat.pow_le_pow_right (by decide) h
  have h2 : ((2 ^ s : Nat) : Int) ≤ ((2 ^ t : Nat) : Int) := Int.ofNat_le.2 this
  simpa using h2
/-- a bit laid above a number is added -/
theorem or_bit {p m : Int} {s : Nat} (h0 : 0 ≤ p) (h1 : p < 2 ^ s) (hm : m = 0 ∨ m = 1) (hs : s ≤ 61) : bits .or .i64 p (m * 2 ^ s) = p + m * 2 ^ s := by
  have hp := pow_le_ hs
  have hp2 : (2 : Int) ^ 61 = 2305843009213693952 := by decide
  obtain ⟨p', rfl⟩ := Int.eq_ofNat_of_zero_le h0
  have e2 : (2 : Int) ^ s = ((2 ^ s : Nat) : Int) := by simp
  rw [e2] at h1 hp
  rcases hm with rfl | rfl
  · rw [Int.zero_mul, show (0 : Int) = ((0 : Nat) : Int) from rfl, bits_or_nat _ _ (by omega) (by omega)]; simp
  · rw [Int.one_mul, e2, bits_or_nat _ _ (by omega) (by omega), Nat.or_comm, show 2 ^ s ||| p' = 2 ^ s * 1 ||| p' by rw [Nat.mul_one], ← Nat.two_pow_add_eq_or_of_lt (by omega)]
    omega
theorem bit_add_lt {p m : Int} {s : Nat} (h0 : 0 ≤ p) (h1 : p < 2 ^ s) (hm : m = 0 ∨ m = 1) : 0 ≤ p + m * 2 ^ s ∧ p + m * 2 ^ s < 2 ^ (s + 1) := by
  have e : (2 : Int) ^ (s + 1) = 2 ^ s * 2 := Int.pow_succ _ _
  rcases hm with rfl | rfl
  · rw [Int.zero_mul]; omega
  · rw [Int.one_mul]; omega
/-- literals of values 0 and 1 -/
theorem xor_01 {a b : Int} (ha : a = 0 ∨ a = 1) (hb : b = 0 ∨ b = 1) : bits .xor .i64 a b = (if a = b then 0 else 1) := by
  have e00 := bits_xor_nat 0 0 (by decide) (by decide)
  have e01 := bits_xor_nat 0 1 (by decide) (by decide)
  have e10 := bits_xor_nat 1 0 (by decide) (by decide)
  have e11 := bits_xor_nat 1 1 (by decide) (by decide)
  rcases ha with rfl | rfl <;> rcases hb with rfl | rfl
  · exact e00
  · exact e01
  · exact e10
  · exact e11
theorem and_01 {a b : Int} (ha : a = 0 ∨ a = 1) (hb : b = 0 ∨ b = 1) : bits .and .i64 a b = (if a = 1 ∧ b = 1 then 1 else 0) := by
  have e00 := bits_and_nat 0 0 (by decide) (by decide)
  have e01 := bits_and_nat 0 1 (by decide) (by decide)
  have e10 := bits_and_nat 1 0 (by decide) (by decide)
  have e11 := bits_and_nat 1 1 (by decide) (by decide)
  rcases ha with rfl | rfl <;> rcases hb with rfl | rfl
  · exact e00
  · exact e01
  · exact e10
  · exact e11
theorem bits_or_zero_l {b : Int} (h0 : 0 ≤ b) (h1 : b < 9223372036854775808) : bits .or .i64 0 b = b := by
  obtain ⟨b', rfl⟩ := Int.eq_ofNat_of_zero_le h0
  have := bits_or_nat 0 b' (by decide) (by omega)
  simpa using this

end Go.Xw
