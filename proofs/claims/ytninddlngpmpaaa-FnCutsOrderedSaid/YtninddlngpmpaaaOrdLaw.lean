/- The enumerated cuts of a node are ordered, and none lies in another; plain lists. -/
import Derived.Test.YtninddlngpmpaaaEnumLaw
set_option linter.all false
namespace Go.Xw
open Go.Proofs
theorem ord_cuts {n : NetL} (h : NetOkP n) {k : Nat} (hk : k < nds n) : ∃ S z, cutsOf n k = S ++ [z] ∧ S.length ≤ 7 ∧ SrtC S ∧ (∀ u v, u ∈ S → v ∈ S → (∀ x, x ∈ u → x ∈ v) → u = v) ∧ (k = 0 → S = [] ∧ z = []) ∧ (0 < k → z = [(k : Int)]) := by
  have n1 := h.nums.n1
  by_cases h0 : k = 0
  · exact ⟨[], [], by rw [h0, cutsOf_0]; rfl, by simp, List.Pairwise.nil, fun u v hu => by simp at hu, fun _ => ⟨rfl, rfl⟩, fun hh => by omega⟩
  · by_cases h1 : k < fst_ n
    · exact ⟨[], [(k : Int)], cutsOf_leaf (by omega) h1, by simp, List.Pairwise.nil, fun u v hu => by simp at hu, fun hh => absurd hh h0, fun _ => rfl⟩
    · have := cutsOf_and h (i := k - fst_ n) (by omega)
      rw [show fst_ n + (k - fst_ n) = k by omega] at this
      exact ⟨_, _, this, selL_len _ _, srt_selL _ _, fun u v hu hv hs => selL_apart hu hv hs, fun hh => absurd hh h0, fun _ => rfl⟩
theorem ord_next {S : List (List Int)} {z : List Int} (h : SrtC S) {i : Nat} (hi : 0 < i) (hl : i < S.length) : cutLt ((S ++ [z]).getD (i - 1) default) ((S ++ [z]).getD i default) = true := by
  have h1 := List.pairwise_iff_getElem.1 h (i - 1) i (by omega) hl (by omega)
  simp only [List.getD_eq_getElem?_getD, List.getElem?_append_left (show i - 1 < S.length by omega), List.getElem?_append_left hl, List.getElem?_eq_getElem (show i - 1 < S.length by omega), List.getElem?_eq_getElem hl, Option.getD_some]
  exact h1
theorem ord_apart {S : List (List Int)} {z : List Int} (h : SrtC S) (ha : ∀ u v, u ∈ S → v ∈ S → (∀ x, x ∈ u → x ∈ v) → u = v) {i j : Nat} (hi : i < S.length) (hj : j < S.length) (hij : j ≠ i) (hok : mergeOk ((S ++ [z]).getD i default) ((S ++ [z]).getD j default) = true) : mergeL ((S ++ [z]).getD i default) ((S ++ [z]).getD j default) ≠ (S ++ [z]).getD j default := by
  have e : ∀ q, (hq : q < S.length) → (S ++ [z]).getD q default = S[q] := fun q hq => by
    simp only [List.getD_eq_getElem?_getD, List.getElem?_append_left hq, List.getElem?_eq_getElem hq, Option.getD_some]
  rw [merge_yes hok, e i hi, e j hj]
  intro he
  have hsub : ∀ x, x ∈ S[i] → x ∈ S[j] := fun x hx => by
    have := (mem_mrg (z := x) _ (xs := S[i]) (ys := S[j]) (Nat.le_refl _)).2 (.inl hx)
    rwa [he] at this
  have heq := ha _ _ (List.getElem_mem hi) (List.getElem_mem hj) hsub
  rcases Nat.lt_or_gt_of_ne hij with hlt | hgt
  · have := List.pairwise_iff_getElem.1 h j i hj hi hlt
    rw [heq, cutLt_irr] at this
    cases this
  · have := List.pairwise_iff_getElem.1 h i j hi hj hgt
    rw [heq, cutLt_irr] at this
    cases this
end Go.Xw
