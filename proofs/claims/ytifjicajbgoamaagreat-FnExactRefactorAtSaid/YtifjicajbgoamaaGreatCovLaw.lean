/- Texts that belong together; each under its stated conditions. -/
import Derived.Test.YtifjicajbgoamaaGreatReachLaw
import Derived.Test.YtifjicajbgoamaaGreatBits
import Derived.Test.YtifjicajbgoamaaGreatAdd
set_option linter.all false
section
/- Values of nodes, packed values, steps and runs of a net, as plain data; no condition. -/
namespace Go.Xw

def bitI (inp : Int) (k : Nat) : Int := bits .and .i64 (inp / 2 ^ k) 1
def litV (V : List Int) (l : Int) : Int := bits .xor .i64 (V.getD (l / 2).toNat default) (bits .and .i64 l 1)
def is01 (z : Int) : Prop := z = 0 ∨ z = 1
def All01 (V : List Int) : Prop := ∀ j, is01 (V.getD j default)
theorem All01.set {V : List Int} (h : All01 V) {i : Nat} {z : Int} (hz : is01 z) : All01 (V.set i z) := by
  intro j
  have hj := h j
  simp only [List.getD_eq_getElem?_getD, List.getElem?_set] at hj ⊢
  split
  · split
    · exact hz
    · exact .inl rfl
  · exact hj
theorem and1_01 (z : Int) : is01 (bits .and .i64 z 1) := by rw [bits_and_one]; unfold is01; omega
theorem litV_01 {V : List Int} (h : All01 V) (l : Int) : is01 (litV V l) := by
  unfold litV
  rw [xor_01 (h _) (and1_01 l)]
  unfold is01
  split <;> simp
theorem and_is01 {a b : Int} (ha : is01 a) (hb : is01 b) : is01 (bits .and .i64 a b) := by
  rw [and_01 ha hb]; unfold is01; split <;> simp
end Go.Xw
end
section
/- Covers added to a net, as plain data; no condition. -/
namespace Go.Xw
open Go.Proofs
def cubeOkP (m : Int) (c : Int × Int) : Prop := (0 ≤ m ∧ m ≤ 4) ∧ (0 ≤ c.1 ∧ c.1 ≤ 2 ^ m.toNat - 1) ∧ (0 ≤ c.2 ∧ c.2 ≤ 2 ^ m.toNat - 1) ∧ bits .andNot .i64 c.2 c.1 = 0
def coverOkP (m : Int) (C : List (Int × Int)) : Prop := (0 ≤ m ∧ m ≤ 4) ∧ C.length ≤ 81 ∧ ∀ c, c ∈ C → cubeOkP m c
def litC (l v : Int) (k : Nat) : Int := if bitI v k = 0 then notL l else l
def cubeTo (n : NetL) (lits : List Int) (c : Int × Int) : Nat → NetL × Int
  | 0 => (n, 1)
  | k + 1 => if (cubeTo n lits c k).2 < 0 then cubeTo n lits c k else if bitI c.1 k = 0 then cubeTo n lits c k
    else addAndL (cubeTo n lits c k).1 (cubeTo n lits c k).2 (litC (lits.getD k default) c.2 k)
def coverTo (n : NetL) (lits : List Int) (C : List (Int × Int)) : Nat → NetL × Int
  | 0 => (n, 0)
  | i + 1 => if (coverTo n lits C i).2 < 0 then coverTo n lits C i
    else if (cubeTo (coverTo n lits C i).1 lits (C.getD i default) lits.length).2 < 0 then ((cubeTo (coverTo n lits C i).1 lits (C.getD i default) lits.length).1, -1)
    else if (addOrL (cubeTo (coverTo n lits C i).1 lits (C.getD i default) lits.length).1 (coverTo n lits C i).2 (cubeTo (coverTo n lits C i).1 lits (C.getD i default) lits.length).2).2 < 0 then ((addOrL (cubeTo (coverTo n lits C i).1 lits (C.getD i default) lits.length).1 (coverTo n lits C i).2 (cubeTo (coverTo n lits C i).1 lits (C.getD i default) lits.length).2).1, -1)
    else addOrL (cubeTo (coverTo n lits C i).1 lits (C.getD i default) lits.length).1 (coverTo n lits C i).2 (cubeTo (coverTo n lits C i).1 lits (C.getD i default) lits.length).2
theorem cubeTo_stay {n : NetL} {lits : List Int} {c : Int × Int} {k : Nat} (h : (cubeTo n lits c k).2 < 0) : ∀ {m : Nat}, k ≤ m → cubeTo n lits c m = cubeTo n lits c k := by
  intro m hm
  induction hm with
  | refl => rfl
  | step _ ih => rw [cubeTo, ih, if_pos h]
theorem cubeTo_skip {n : NetL} {lits : List Int} {c : Int × Int} {k : Nat} (h : ¬ (cubeTo n lits c k).2 < 0) (h0 : bitI c.1 k = 0) : cubeTo n lits c (k + 1) = cubeTo n lits c k := by rw [cubeTo, if_neg h, if_pos h0]
theorem cubeTo_add {n : NetL} {lits : List Int} {c : Int × Int} {k : Nat} (h : ¬ (cubeTo n lits c k).2 < 0) (h0 : ¬ bitI c.1 k = 0) : cubeTo n lits c (k + 1) = addAndL (cubeTo n lits c k).1 (cubeTo n lits c k).2 (litC (lits.getD k default) c.2 k) := by rw [cubeTo, if_neg h, if_neg h0]
theorem coverTo_stay {n : NetL} {lits : List Int} {C : List (Int × Int)} {k : Nat} (h : (coverTo n lits C k).2 < 0) : ∀ {m : Nat}, k ≤ m → coverTo n lits C m = coverTo n lits C k := by
  intro m hm
  induction hm with
  | refl => rfl
  | step _ ih => rw [coverTo, ih, if_pos h]
theorem litC_lit {l v k : Int} {j : Nat} (h : litP l k) (hk : k ≤ 1000000) : litP (litC l v j) k := by
  unfold litC
  split
  · exact litP_not h hk
  · exact h
theorem good_one {n : NetL} (h : NetOkP n) {v : Int} (hv : litP v (nodesL n)) : GoodN n (n, v) := ⟨h, rfl, Int.le_refl _, .inl hv, fun hn => by unfold litP at hv; dsimp only at hn; omega⟩
theorem good_cube {n : NetL} (h : NetOkP n) {lits : List Int} (hl : ∀ l, l ∈ lits → litP l (nodesL n)) (c : Int × Int) : ∀ k, k ≤ lits.length → GoodN n (cubeTo n lits c k)
  | 0, _ => good_one h (by have := h.count; unfold litP; omega)
  | k + 1, hk => by
    have ih := good_cube h hl c k (by omega)
    unfold cubeTo
    split
    · exact ih
    · rename_i h0
      split
      · exact ih
      · have hc := ih.ok.count
        exact ih.trans (good_and ih.ok (ih.litP h0) (litC_lit ((hl _ (getD_mem (by omega))).mono ih.nodes) (by omega)))
theorem good_cover {n : NetL} (h : NetOkP n) {lits : List Int} (hl : ∀ l, l ∈ lits → litP l (nodesL n)) (C : List (Int × Int)) : ∀ i, i ≤ C.length → GoodN n (coverTo n lits C i)
  | 0, _ => good_one h (by have := h.count; unfold litP; omega)
  | i + 1, hi => by
    have ih := good_cover h hl C i (by omega)
    have g := good_cube ih.ok (fun l hm => (hl l hm).mono ih.nodes) (C.getD i default) lits.length (Nat.le_refl _)
    unfold coverTo
    split
    · exact ih
    · rename_i h0
      split
      · exact (ih.trans g).fail
      · rename_i h1
        have g2 := good_or g.ok ((ih.litP h0).mono g.nodes) (g.litP h1)
        split
        · exact (ih.trans (g.trans g2)).fail
        · exact ih.trans (g.trans g2)
open Classical in
noncomputable def covF (n : NetL) (lits : List Int) (C : List (Int × Int)) : NetL × Int := if coverOkP lits.length C then addF n lits (coverTo n lits C C.length) else (n, -1)
theorem covF_yes {n : NetL} {lits : List Int} {C : List (Int × Int)} (h : coverOkP lits.length C) : covF n lits C = addF n lits (coverTo n lits C C.length) := by unfold covF; rw [if_pos h]
theorem covF_no {n : NetL} {lits : List Int} {C : List (Int × Int)} (h : ¬ coverOkP lits.length C) : covF n lits C = (n, -1) := by unfold covF; rw [if_neg h]
end Go.Xw
end
