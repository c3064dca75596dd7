/- Covers added to a net, as plain data; no condition. -/
import Derived.Test.YtfcafmbcmdeomaaAdd
import Derived.Test.YtfcafmbcmdeomaaValLaw
set_option linter.all false
namespace Go.Xw
open Go.Proofs
def cubeOkP (m : Int) (c : Int × Int) : Prop := (0 ≤ m ∧ m ≤ 4) ∧ (0 ≤ c.1 ∧ c.1 ≤ 2 ^ m.toNat - 1) ∧ (0 ≤ c.2 ∧ c.2 ≤ 2 ^ m.toNat - 1) ∧ bits .andNot .i64 c.2 c.1 = 0
def coverOkP (m : Int) (C : List (Int × Int)) : Prop := (0 ≤ m ∧ m ≤ 4) ∧ C.length ≤ 81 ∧ ∀ c, c ∈ C → cubeOkP m c
def litC (l v : Int) (k : Nat) : Int := if bitI v k = 0 then notL l else l
def cubeTo (n : NetL) (lits : List Int) (c : Int × Int) : Nat → NetL × Int
  | 0 => (n, 1)
  | k + 1 => if (cubeTo n lits c k).2 < 0 then cubeTo n lits c k else if bitI c.1 k = 0 then cubeTo n lits c k
    else addAndL (cubeTo n lits c k).1 (cubeTo n lits c k).2 (litC (lits.getD k default) c.2 k)
def coverTo (n : NetL) (lits : List Int) (C : List (Int × Int)) : Nat → NetL × Int
  | 0 => (n, 0)
  | i + 1 => if (coverTo n lits C i).2 < 0 then coverTo n lits C i
    else if (cubeTo (coverTo n lits C i).1 lits (C.getD i default) lits.length).2 < 0 then ((cubeTo (coverTo n lits C i).1 lits (C.getD i default) lits.length).1, -1)
    else if (addOrL (cubeTo (coverTo n lits C i).1 lits (C.getD i default) lits.length).1 (coverTo n lits C i).2 (cubeTo (coverTo n lits C i).1 lits (C.getD i default) lits.length).2).2 < 0 then ((addOrL (cubeTo (coverTo n lits C i).1 lits (C.getD i default) lits.length).1 (coverTo n lits C i).2 (cubeTo (coverTo n lits C i).1 lits (C.getD i default) lits.length).2).1, -1)
    else addOrL (cubeTo (coverTo n lits C i).1 lits (C.getD i default) lits.length).1 (coverTo n lits C i).2 (cubeTo (coverTo n lits C i).1 lits (C.getD i default) lits.length).2
theorem cubeTo_stay {n : NetL} {lits : List Int} {c : Int × Int} {k : Nat} (h : (cubeTo n lits c k).2 < 0) : ∀ {m : Nat}, k ≤ m → cubeTo n lits c m = cubeTo n lits c k := by
  intro m hm
  induction hm with
  | refl => rfl
  | step _ ih => rw [cubeTo, ih, if_pos h]
theorem cubeTo_skip {n : NetL} {lits : List Int} {c : Int × Int} {k : Nat} (h : ¬ (cubeTo n lits c k).2 < 0) (h0 : bitI c.1 k = 0) : cubeTo n lits c (k + 1) = cubeTo n lits c k := by rw [cubeTo, if_neg h, if_pos h0]
theorem cubeTo_add {n : NetL} {lits : List Int} {c : Int × Int} {k : Nat} (h : ¬ (cubeTo n lits c k).2 < 0) (h0 : ¬ bitI c.1 k = 0) : cubeTo n lits c (k + 1) = addAndL (cubeTo n lits c k).1 (cubeTo n lits c k).2 (litC (lits.getD k default) c.2 k) := by rw [cubeTo, if_neg h, if_neg h0]
theorem coverTo_stay {n : NetL} {lits : List Int} {C : List (Int × Int)} {k : Nat} (h : (coverTo n lits C k).2 < 0) : ∀ {m : Nat}, k ≤ m → coverTo n lits C m = coverTo n lits C k := by
  intro m hm
  induction hm with
  | refl => rfl
  | step _ ih => rw [coverTo, ih, if_pos h]
theorem litC_lit {l v k : Int} {j : Nat} (h : litP l k) (hk : k ≤ 1000000) : litP (litC l v j) k := by
  unfold litC
  split
  · exact litP_not h hk
  · exact h
theorem good_one {n : NetL} (h : NetOkP n) {v : Int} (hv : litP v (nodesL n)) : GoodN n (n, v) := ⟨h, rfl, Int.le_refl _, .inl hv, fun hn => by unfold litP at hv; dsimp only at hn; omega⟩
theorem good_cube {n : NetL} (h : NetOkP n) {lits : List Int} (hl : ∀ l, l ∈ lits → litP l (nodesL n)) (c : Int × Int) : ∀ k, k ≤ lits.length → GoodN n (cubeTo n lits c k)
  | 0, _ => good_one h (by have := h.count; unfold litP; omega)
  | k + 1, hk => by
    have ih := good_cube h hl c k (by omega)
    unfold cubeTo
    split
    · exact ih
    · rename_i h0
      split
      · exact ih
      · have hc := ih.ok.count
        exact ih.trans (good_and ih.ok (ih.litP h0) (litC_lit ((hl _ (getD_mem (by omega))).mono ih.nodes) (by omega)))
theorem good_cover {n : NetL} (h : NetOkP n) {lits : List Int} (hl : ∀ l, l ∈ lits → litP l (nodesL n)) (C : List (Int × Int)) : ∀ i, i ≤ C.length → GoodN n (coverTo n lits C i)
  | 0, _ => good_one h (by have := h.count; unfold litP; omega)
  | i + 1, hi => by
    have ih := good_cover h hl C i (by omega)
    have g := good_cube ih.ok (fun l hm => (hl l hm).mono ih.nodes) (C.getD i default) lits.length (Nat.le_refl _)
    unfold coverTo
    split
    · exact ih
    · rename_i h0
      split
      · exact (ih.trans g).fail
      · rename_i h1
        have g2 := good_or g.ok ((ih.litP h0).mono g.nodes) (g.litP h1)
        split
        · exact (ih.trans (g.trans g2)).fail
        · exact ih.trans (g.trans g2)
open Classical in
noncomputable def covF (n : NetL) (lits : List Int) (C : List (Int × Int)) : NetL × Int := if coverOkP lits.length C then addF n lits (coverTo n lits C C.length) else (n, -1)
theorem covF_yes {n : NetL} {lits : List Int} {C : List (Int × Int)} (h : coverOkP lits.length C) : covF n lits C = addF n lits (coverTo n lits C C.length) := by unfold covF; rw [if_pos h]
theorem covF_no {n : NetL} {lits : List Int} {C : List (Int × Int)} (h : ¬ coverOkP lits.length C) : covF n lits C = (n, -1) := by unfold covF; rw [if_neg h]
theorem sCover {n : NetL} (h : NetS n) (lits : List Int) (C : List (Int × Int)) : NetS (covF n lits C).1 := by
  by_cases hc : coverOkP lits.length C
  · rw [covF_yes hc]; exact addF_S h fun h hl => good_cover h hl C _ (Nat.le_refl _)
  · rw [covF_no hc]; exact h
end Go.Xw
