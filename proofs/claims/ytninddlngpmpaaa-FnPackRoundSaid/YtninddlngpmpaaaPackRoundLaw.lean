/- Words unpacked from packed bits, as plain data; no condition. -/
import Derived.Test.YtninddlngpmpaaaUnpack
set_option linter.all false
namespace Go.Proofs
open Go.Xw

theorem pk_digit {xs ys : List Int} : ∀ {n : Nat}, widRow xs n → ∀ {i : Nat}, i < n → pk xs ys n / 2 ^ (psum xs i).toNat % 2 ^ (xs.getD i default).toNat = ys.getD i default % 2 ^ (xs.getD i default).toNat
  | 0, _, i, hi => absurd hi (by omega)
  | n + 1, h, i, hi => by
    have hr : widRow xs n := fun j hj => h j (by omega)
    have hpi := pow_pos_ (psum xs i).toNat
    have hwi := pow_pos_ (xs.getD i default).toNat
    by_cases hlt : i < n
    · have ih := pk_digit (ys := ys) hr hlt
      have hri : widRow xs (i + 1) := fun j hj => h j (by omega)
      have h1 := pow_psum hri
      have h2 := psum_mono hr (i := i + 1) (by omega)
      have h3 := psum_le hri
      have h4 : (2 : Int) ^ (psum xs n).toNat = 2 ^ (psum xs (i + 1)).toNat * 2 ^ ((psum xs n).toNat - (psum xs (i + 1)).toNat) := by
        rw [← Int.pow_add]; congr 1; omega
      rw [← ih]
      show (pk xs ys n + ys.getD n default % 2 ^ (xs.getD n default).toNat * 2 ^ (psum xs n).toNat) / _ % _ = _
      rw [h4, h1]
      generalize (2 : Int) ^ ((psum xs n).toNat - (psum xs (i + 1)).toNat) = D
      generalize ys.getD n default % 2 ^ (xs.getD n default).toNat = m
      rw [show m * (2 ^ (xs.getD i default).toNat * 2 ^ (psum xs i).toNat * D) = (m * D * 2 ^ (xs.getD i default).toNat) * 2 ^ (psum xs i).toNat by
        rw [Int.mul_comm (2 ^ (xs.getD i default).toNat * 2 ^ (psum xs i).toNat) D, ← Int.mul_assoc, ← Int.mul_assoc], Int.add_mul_ediv_right _ _ (by omega), Int.add_mul_emod_self_right]
    · obtain rfl : i = n := by omega
      have h5 := pk_lt (ys := ys) hr
      show (pk xs ys i + ys.getD i default % 2 ^ (xs.getD i default).toNat * 2 ^ (psum xs i).toNat) / _ % _ = _
      rw [Int.add_mul_ediv_right _ _ (by omega), Int.ediv_eq_zero_of_lt h5.1 h5.2, Int.zero_add, Int.emod_emod_of_dvd _ (Int.dvd_refl _)]
theorem upk_get (xs : List Int) (b : Int) : ∀ {m i : Nat}, i < m → (upk xs b m).getD i default = b / 2 ^ (psum xs i).toNat % 2 ^ (xs.getD i default).toNat
  | 0, i, h => absurd h (by omega)
  | m + 1, i, h => by
    have hl := upk_len xs b m
    simp only [upk, List.getD_eq_getElem?_getD]
    by_cases h2 : i < m
    · rw [List.getElem?_append_left (by omega)]
      have := upk_get xs b h2
      rwa [List.getD_eq_getElem?_getD] at this
    · obtain rfl : i = m := by omega
      rw [List.getElem?_append_right (by omega), hl, Nat.sub_self]
      simp [List.getD_eq_getElem?_getD]
theorem pk_congr {xs ys zs : List Int} : ∀ {n : Nat}, (∀ i, i < n → ys.getD i default % 2 ^ (xs.getD i default).toNat = zs.getD i default % 2 ^ (xs.getD i default).toNat) → pk xs ys n = pk xs zs n
  | 0, _ => rfl
  | n + 1, h => by
    simp only [pk]
    rw [pk_congr fun i hi => h i (by omega), h n (by omega)]
theorem pack_back {xs ys : List Int} (hl : xs.length = ys.length) (hw : widOk xs) : (∀ i, i < xs.length → (unpackV xs (packV xs ys)).getD i default = ys.getD i default % 2 ^ (xs.getD i default).toNat) ∧ (unpackV xs (packV xs ys)).length = xs.length ∧ packV xs (unpackV xs (packV xs ys)) = packV xs ys := by
  have hB := widB_pos hw
  have e1 : packV xs ys = pk xs ys xs.length := by rw [packV, if_pos ⟨hl, hB⟩]
  have e2 : unpackV xs (packV xs ys) = upk xs (packV xs ys) xs.length := by rw [unpackV, if_pos hB]
  have h1 : ∀ i, i < xs.length → (unpackV xs (packV xs ys)).getD i default = ys.getD i default % 2 ^ (xs.getD i default).toNat := fun i hi => by
    rw [e2, upk_get _ _ hi, e1, pk_digit hw.1 hi]
  have h2 : (unpackV xs (packV xs ys)).length = xs.length := by rw [e2, upk_len]
  refine ⟨h1, h2, ?_⟩
  rw [packV, if_pos ⟨h2.symm, hB⟩]
  rw [e1] at h1 ⊢
  exact pk_congr fun i hi => by rw [h1 i hi, Int.emod_emod_of_dvd _ (Int.dvd_refl _)]
end Go.Proofs
