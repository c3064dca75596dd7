/- The bit operations of 64-bit integers as arithmetic; no condition but the stated ones. -/
import Derived.Laws.BitsAllLaws
import Derived.Laws.BitsLemmas
import Derived.IntWalk
set_option linter.all false
namespace Go.Xw
theorem ofInt_toNat (z : Int) : ((BitVec.ofInt 64 z).toNat : Int) = z % 18446744073709551616 := by
 rw [BitVec.toNat_ofInt]
 have : (0 : Int) ≤ z % 18446744073709551616 := Int.emod_nonneg _ (by decide)
 simp
 omega
theorem bits_and_mask (z : Int) (k : Nat) (hk : k ≤ 62) : bits .and .i64 z (2 ^ k - 1) = z % 2 ^ k := by
 have hp : (2 : Int) ^ k = ((2 ^ k : Nat) : Int) := by simp
 have hpos : 0 < 2 ^ k := Nat.two_pow_pos k
 have hle : 2 ^ k ≤ 2 ^ 62 := Nat.pow_le_pow_right (by decide) hk
 have hm : (BitVec.ofInt 64 ((2 : Int) ^ k - 1)).toNat = 2 ^ k - 1 := by
  have h := ofInt_toNat ((2 : Int) ^ k - 1)
  rw [hp] at h ⊢
  omega
 show IntKind.i64.wrap (((BitVec.ofInt 64 z) &&& (BitVec.ofInt 64 (2 ^ k - 1))).toNat : Int) = _
 rw [BitVec.toNat_and, hm, Nat.and_two_pow_sub_one_eq_mod]
 have h1 := ofInt_toNat z
 have h2 : (((BitVec.ofInt 64 z).toNat % 2 ^ k : Nat) : Int) = z % 2 ^ k := by
  rw [Int.natCast_emod, h1, hp]
  have hd : ((2 ^ k : Nat) : Int) ∣ 18446744073709551616 := by
   have : (2 ^ k : Nat) ∣ 18446744073709551616 := by
    have : (18446744073709551616 : Nat) = 2 ^ 64 := by decide
    rw [this]
    exact Nat.pow_dvd_pow 2 (by omega)
   exact Int.natCast_dvd_natCast.2 this
  exact Int.emod_emod_of_dvd z hd
 rw [h2]
 have h3 : 0 ≤ z % 2 ^ k := Int.emod_nonneg _ (by rw [hp]; omega)
 have h4 : z % 2 ^ k < 2 ^ k := Int.emod_lt_of_pos _ (by rw [hp]; omega)
 rw [hp] at h3 h4 ⊢
 exact IntWalk.i64_in _ (by omega)
theorem bits_and_one (z : Int) : bits .and .i64 z 1 = z % 2 := by
 have := bits_and_mask z 1 (by decide)
 simpa using this
theorem ofNat_toNat (a : Nat) (ha : a < 9223372036854775808) : (BitVec.ofInt 64 (a : Int)).toNat = a := by
 have := ofInt_toNat (a : Int)
 omega
theorem bits_xor_nat (a b : Nat) (ha : a < 9223372036854775808) (hb : b < 9223372036854775808) : bits .xor .i64 (a : Int) (b : Int) = ((a ^^^ b : Nat) : Int) := by
 have hx : a ^^^ b < 9223372036854775808 := Nat.xor_lt_two_pow (n := 63) ha hb
 show IntKind.i64.wrap ((BitVec.ofInt 64 (a : Int) ^^^ BitVec.ofInt 64 (b : Int)).toNat : Int) = _
 rw [BitVec.toNat_xor, ofNat_toNat a ha, ofNat_toNat b hb]
 exact IntWalk.i64_in _ (by omega)
end Go.Xw
