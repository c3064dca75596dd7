/- Swept and hashed nets have the runs of the net and are not deeper; plain data, no condition. -/
import Derived.Test.YtifjicajbgoamaaGreatSimLaw
set_option linter.all false
namespace Go.Xw
open Go.Proofs
set_option maxHeartbeats 1000000

/-! ### sweeping and hashing keep the runs -/
theorem reach_kids {n : NetL} (h : NetOkP n) {i : Nat} (hi : i < n.ands.length) (hK : (reachedL n).getD (fst_ n + i) default = true) : (reachedL n).getD (kA n i) default = true ∧ (reachedL n).getD (kB n i) default = true := by
  have hn := h.nums
  have hn1 := hn.n1
  have ka := hn.ka i hi
  have kb := hn.kb i hi
  have hr : isReached n (fst_ n + i) := (listB_get (by omega)).1 hK
  refine ⟨(listB_get (by omega)).2 ?_, (listB_get (by omega)).2 ?_⟩
  · obtain ⟨x, hx, hc⟩ := hr
    exact ⟨x, hx, hc.trans (.left hi (.refl _))⟩
  · obtain ⟨x, hx, hc⟩ := hr
    exact ⟨x, hx, hc.trans (.right hi (.refl _))⟩
theorem reach_root {n : NetL} (h : NetOkP n) {x : Int} (hx : x ∈ rootsL n) : (reachedL n).getD (x / 2).toNat default = true := by
  have hlt := (h.root x hx).nat h.nums
  refine (listB_get hlt).2 ?_
  obtain ⟨i, hi, rfl⟩ := List.getElem_of_mem hx
  exact ⟨i, hi, by rw [List.getD_eq_getElem?_getD, List.getElem?_eq_getElem hi]; exact .refl _⟩
theorem sweep_run {n : NetL} (h : NetOkP n) (ins : List Int) : runL (sweepL n) ins = runL n ins := by
  refine fin_run h fun st inp hs x hx => ?_
  have hB := swTo_ok h (reachedL n) _ (Nat.le_refl _)
  have hl := swTo_len n (reachedL n) n.ands.length
  have hn := h.nums
  have hn1 := hn.n1
  have f1 := hB.f1
  have f2 := hB.alen
  have hlt := (h.root x hx).nat hn
  have hsw : NetOkP (finN n (swTo n (reachedL n) n.ands.length).1 (swTo n (reachedL n) n.ands.length).2) := sweepL_ok h
  refine litV_comp (valsL_01 _ _ _) (valsL_01 _ _ _) (k := firstAndL n + (swTo n (reachedL n) n.ands.length).1.length) (by omega) (hB.tok _ (by omega)) ?_
  rw [fin_vals hsw hs, valsL_eq h hs]
  exact sw_sim h (fun i hi hK => ⟨.inr (reach_kids h hi hK).1, .inr (reach_kids h hi hK).2⟩) (leafV_len h hs inp) (leafV_01 _ _ _) n.ands.length (Nat.le_refl _) _ (by omega) (.inr (reach_root h hx))
theorem hash_run {n : NetL} (h : NetOkP n) (ins : List Int) : runL (hashL n) ins = runL n ins := by
  unfold hashL
  rw [sweep_run (preL_ok h), preL_run h]

/-! ### levels -/
def nl (V : List Int) (l : Int) : Int := V.getD (l / 2).toNat default
def levA (U : List Int) (A : List (Int × Int)) : List Int := A.foldl (fun V x => V ++ [1 + max (nl V x.1) (nl V x.2)]) U
def AllN (V : List Int) : Prop := ∀ j, 0 ≤ V.getD j default
theorem AllN.snoc {V : List Int} (h : AllN V) {z : Int} (hz : 0 ≤ z) : AllN (V ++ [z]) := fun j => by
  by_cases h1 : j < V.length
  · rw [snoc_lt h1]; exact h j
  · by_cases h2 : j = V.length
    · subst h2; rw [snoc_eq]; exact hz
    · rw [List.getD_eq_getElem?_getD, List.getElem?_eq_none (by simp; omega)]; exact Int.le_refl _
/-! ### depths -/
end Go.Xw
