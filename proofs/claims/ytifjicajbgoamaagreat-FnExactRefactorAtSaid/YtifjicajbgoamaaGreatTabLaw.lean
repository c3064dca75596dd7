/- The table of a node over a cut, as plain data; no condition. -/
import Derived.Test.YtifjicajbgoamaaGreatCutLaw
import Derived.Test.YtifjicajbgoamaaGreatMapLaw
set_option linter.all false
namespace Go.Xw
/-- the value of node k, if those below have the values V and those of the cut the bits of i -/
def cvAt (n : NetL) (cut : List Int) (i : Int) (V : List Int) (k : Nat) : Int :=
  if (k : Int) ∈ cut then bitI i (cut.idxOf (k : Int)) else if fst_ n ≤ k then bits .and .i64 (litV V (n.ands.getD (k - fst_ n) default).1) (litV V (n.ands.getD (k - fst_ n) default).2) else 0
def cvTo (n : NetL) (cut : List Int) (i : Int) : Nat → List Int
  | 0 => []
  | k + 1 => cvTo n cut i k ++ [cvAt n cut i (cvTo n cut i k) k]
theorem cvTo_len (n : NetL) (cut : List Int) (i : Int) : ∀ k, (cvTo n cut i k).length = k
  | 0 => rfl
  | k + 1 => by rw [cvTo, List.length_append, cvTo_len n cut i k]; rfl
theorem cvTo_pre (n : NetL) (cut : List Int) (i : Int) (k : Nat) : ∀ d, ∃ T, cvTo n cut i (k + d) = cvTo n cut i k ++ T
  | 0 => ⟨[], by simp⟩
  | d + 1 => by
    obtain ⟨T, h⟩ := cvTo_pre n cut i k d
    exact ⟨T ++ [cvAt n cut i (cvTo n cut i (k + d)) (k + d)], by rw [show k + (d + 1) = k + d + 1 by omega, cvTo, h, List.append_assoc]⟩
theorem get_left {α : Type} [Inhabited α] {A B : List α} {i : Nat} (h : i < A.length) : (A ++ B).getD i default = A.getD i default := by
  simp [List.getD_eq_getElem?_getD, List.getElem?_append_left h]
theorem cvTo_get {n : NetL} {cut : List Int} {i : Int} {k m : Nat} (h : k < m) : (cvTo n cut i m).getD k default = cvAt n cut i (cvTo n cut i k) k := by
  obtain ⟨T, e⟩ := cvTo_pre n cut i (k + 1) (m - (k + 1))
  rw [show k + 1 + (m - (k + 1)) = m by omega] at e
  rw [e, get_left (by rw [cvTo_len]; omega), cvTo]
  have := snoc_eq (R := cvTo n cut i k) (y := cvAt n cut i (cvTo n cut i k) k)
  rw [cvTo_len] at this
  exact this
theorem cvTo_01 (n : NetL) (cut : List Int) (i : Int) : ∀ k, All01 (cvTo n cut i k)
  | 0 => fun j => by simp only [cvTo, List.getD_eq_getElem?_getD]; exact .inl rfl
  | k + 1 => fun j => by
    have ih := cvTo_01 n cut i k
    rw [cvTo]
    by_cases h1 : j < (cvTo n cut i k).length
    · rw [snoc_lt h1]; exact ih j
    · by_cases h2 : j = (cvTo n cut i k).length
      · subst h2
        rw [snoc_eq]
        unfold cvAt
        split
        · exact and1_01 _
        · split
          · exact and_is01 (litV_01 ih _) (litV_01 ih _)
          · exact .inl rfl
      · rw [List.getD_eq_getElem?_getD, List.getElem?_eq_none (by simp; omega)]; exact .inl rfl
/-- the value of a node at index i -/
def cvL (n : NetL) (cut : List Int) (r : Nat) (i : Nat) : Int := (cvTo n cut i (nds n)).getD r default
theorem cvL_01 (n : NetL) (cut : List Int) (r i : Nat) : is01 (cvL n cut r i) := cvTo_01 n cut i (nds n) r
def tbTo (n : NetL) (cut : List Int) (r : Nat) : Nat → Int
  | 0 => 0
  | i + 1 => tbTo n cut r i + cvL n cut r i * 2 ^ i
theorem tbTo_lt (n : NetL) (cut : List Int) (r : Nat) : ∀ i, 0 ≤ tbTo n cut r i ∧ tbTo n cut r i < 2 ^ i
  | 0 => by simp [tbTo]
  | i + 1 => by
    have h1 := tbTo_lt n cut r i
    exact bit_add_lt h1.1 h1.2 (cvL_01 n cut r i)
def tabL (n : NetL) (cut : List Int) (r : Nat) : Int × Int := (cut.length, tbTo n cut r (2 ^ cut.length))
noncomputable def tabF (n : NetL) (k : Int) (cut : List Int) : Int × Int := if cutOkB n k cut = true then tabL n cut k.toNat else (0, 0)
theorem asc_lt {cut : List Int} (h : Asc cut) {a b : Nat} (hab : a < b) (hb : b < cut.length) : cut.getD a default < cut.getD b default := by
  induction hab with
  | refl => exact asc_get.2 h (a + 1) (by omega) hb
  | @step b hab ih => exact Int.lt_trans (ih (by omega)) (asc_get.2 h (b + 1) (by omega) hb)
theorem asc_idx {cut : List Int} (h : Asc cut) {x : Int} {j : Nat} (hj : j < cut.length) (he : cut.getD j default = x) : cut.idxOf x = j := by
  have hm : x ∈ cut := by rw [← he]; exact getD_mem hj
  have h2 : cut.idxOf x < cut.length := List.idxOf_lt_length_iff.2 hm
  have h3 : cut.getD (cut.idxOf x) default = x := by rw [List.getD_eq_getElem?_getD, List.getElem?_eq_getElem h2, Option.getD_some, List.getElem_idxOf]
  rcases Nat.lt_trichotomy (cut.idxOf x) j with h4 | h4 | h4
  · have := asc_lt h h4 hj; omega
  · exact h4
  · have := asc_lt h h4 h2; omega
end Go.Xw
