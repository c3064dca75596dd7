/- Texts that belong together; each under its stated conditions. -/
import Derived.Test.YtifjicajbgoamaaGreatSimLaw
import Derived.Test.YtifjicajbgoamaaGreatRfLaw
import Derived.Test.YtifjicajbgoamaaGreatBase
set_option linter.all false
section
namespace Go.Xw
open Go.Proofs
set_option maxHeartbeats 1000000
theorem reach_kids {n : NetL} (h : NetOkP n) {i : Nat} (hi : i < n.ands.length) (hK : (reachedL n).getD (fst_ n + i) default = true) : (reachedL n).getD (kA n i) default = true ∧ (reachedL n).getD (kB n i) default = true := by
 have hn := h.nums
 have hn1 := hn.n1
 have ka := hn.ka i hi
 have kb := hn.kb i hi
 have hr : isReached n (fst_ n + i) := (listB_get (by omega)).1 hK
 refine ⟨(listB_get (by omega)).2 ?_, (listB_get (by omega)).2 ?_⟩
 ·obtain ⟨x, hx, hc⟩ := hr
  exact ⟨x, hx, hc.trans (.left hi (.refl _))⟩
 ·obtain ⟨x, hx, hc⟩ := hr
  exact ⟨x, hx, hc.trans (.right hi (.refl _))⟩
theorem reach_root {n : NetL} (h : NetOkP n) {x : Int} (hx : x ∈ rootsL n) : (reachedL n).getD (x / 2).toNat default = true := by
 have hlt := (h.root x hx).nat h.nums
 refine (listB_get hlt).2 ?_
 obtain ⟨i, hi, rfl⟩ := List.getElem_of_mem hx
 exact ⟨i, hi, by rw [List.getD_eq_getElem?_getD, List.getElem?_eq_getElem hi]; exact .refl _⟩
theorem sweep_run {n : NetL} (h : NetOkP n) (ins : List Int) : runL (sweepL n) ins = runL n ins := by
 refine fin_run h fun st inp hs x hx => ?_
 have hB := swTo_ok h (reachedL n) _ (Nat.le_refl _)
 have hl := swTo_len n (reachedL n) n.ands.length
 have hn := h.nums
 have hn1 := hn.n1
 have f1 := hB.f1
 have f2 := hB.alen
 have hlt := (h.root x hx).nat hn
 have hsw : NetOkP (finN n (swTo n (reachedL n) n.ands.length).1 (swTo n (reachedL n) n.ands.length).2) := sweepL_ok h
 refine litV_comp (valsL_01 _ _ _) (valsL_01 _ _ _) (k := firstAndL n + (swTo n (reachedL n) n.ands.length).1.length) (by omega) (hB.tok _ (by omega)) ?_
 rw [fin_vals hsw hs, valsL_eq h hs]
 exact sw_sim h (fun i hi hK => ⟨.inr (reach_kids h hi hK).1, .inr (reach_kids h hi hK).2⟩) (leafV_len h hs inp) (leafV_01 _ _ _) n.ands.length (Nat.le_refl _) _ (by omega) (.inr (reach_root h hx))
theorem hash_run {n : NetL} (h : NetOkP n) (ins : List Int) : runL (hashL n) ins = runL n ins := by
 unfold hashL
 rw [sweep_run (preL_ok h), preL_run h]
def nl (V : List Int) (l : Int) : Int := V.getD (l / 2).toNat default
def levA (U : List Int) (A : List (Int × Int)) : List Int := A.foldl (fun V x => V ++ [1 + max (nl V x.1) (nl V x.2)]) U
theorem levA_app (U : List Int) (A B : List (Int × Int)) : levA U (A ++ B) = levA (levA U A) B := by unfold levA; rw [List.foldl_append]
theorem levA_snoc (U : List Int) (A : List (Int × Int)) (x : Int × Int) : levA U (A ++ [x]) = levA U A ++ [1 + max (nl (levA U A) x.1) (nl (levA U A) x.2)] := by rw [levA_app]; rfl
theorem levA_pre : ∀ (A : List (Int × Int)) (U : List Int), ∃ T, levA U A = U ++ T ∧ T.length = A.length
 | [], U => ⟨[], by simp [levA]⟩
 | x :: A, U => by
  obtain ⟨T, h, hl⟩ := levA_pre A (U ++ [1 + max (nl U x.1) (nl U x.2)])
  refine ⟨(1 + max (nl U x.1) (nl U x.2)) :: T, ?_, by simp [hl]⟩
  show levA (U ++ [1 + max (nl U x.1) (nl U x.2)]) A = _
  rw [h, List.append_assoc]
  rfl
theorem levA_len (U : List Int) (A : List (Int × Int)) : (levA U A).length = U.length + A.length := by
 obtain ⟨T, h, hl⟩ := levA_pre A U
 rw [h, List.length_append, hl]
theorem levA_litlow {U : List Int} {A B : List (Int × Int)} {l : Int} (h : (l / 2).toNat < U.length + A.length) : nl (levA U (A ++ B)) l = nl (levA U A) l := by
 obtain ⟨T, h1, _⟩ := levA_pre B (levA U A)
 unfold nl
 rw [levA_app, h1, getD_left (by rw [levA_len]; exact h)]
def AllN (V : List Int) : Prop := ∀ j, 0 ≤ V.getD j default
theorem AllN.snoc {V : List Int} (h : AllN V) {z : Int} (hz : 0 ≤ z) : AllN (V ++ [z]) := fun j => by
 by_cases h1 : j < V.length
 ·rw [snoc_lt h1]; exact h j
 ·by_cases h2 : j = V.length
  ·subst h2; rw [snoc_eq]; exact hz
  ·rw [List.getD_eq_getElem?_getD, List.getElem?_eq_none (by simp; omega)]; exact Int.le_refl _
theorem levA_nn : ∀ (A : List (Int × Int)) {U : List Int}, AllN U → AllN (levA U A)
 | [], _, h => h
 | x :: A, U, h => levA_nn A (h.snoc (by have h1 := h (x.1 / 2).toNat; have h2 := h (x.2 / 2).toNat; unfold nl; omega))
theorem rep_get {m j : Nat} : (List.replicate m (0 : Int)).getD j default = 0 := by
 simp only [List.getD_eq_getElem?_getD, List.getElem?_replicate]
 split <;> rfl
theorem rep_nn (m : Nat) : AllN (List.replicate m 0) := fun j => by rw [rep_get]; exact Int.le_refl _
theorem levelsTo_eq {n : NetL} (h : NetOkP n) : ∀ i, i ≤ n.ands.length → levelsTo n i = levA (List.replicate (fst_ n) 0) (n.ands.take i) ++ List.replicate (n.ands.length - i) 0
 | 0, _ => by
  have h2 := h.nums.n1
  show List.replicate (nds n) (0 : Int) = List.replicate (fst_ n) 0 ++ List.replicate (n.ands.length - 0) 0
  rw [h2, Nat.sub_zero, List.replicate_append_replicate]
 | i + 1, hi => by
  have hf := h.nums.f2
  have e : (firstAndL n + (i : Int)).toNat = (levA (List.replicate (fst_ n) 0) (n.ands.take i)).length := by rw [levA_len]; simp; omega
  rw [levelsTo, levelsTo_eq h i (by omega), pad_get, pad_get, show n.ands.length - i = (n.ands.length - (i + 1)) + 1 by omega, e, pad_set, take_snoc (show i < n.ands.length by omega), levA_snoc]
  rfl
theorem levelsL_eq {n : NetL} (h : NetOkP n) : levelsL n = levA (List.replicate (fst_ n) 0) n.ands := by
 rw [levelsL, levelsTo_eq h _ (Nat.le_refl _), List.take_length, Nat.sub_self]
 simp
end Go.Xw
end
section
namespace Go.Xw
open Go.Proofs
set_option maxHeartbeats 1000000
theorem bld_net {z : NetL} (h : NetOkP z) : Bld (firstAndL z) z.ands [] := by
 have hc := h.count
 have hs := h.size
 have hfa : firstAndL z = 1 + z.inputs + z.seqs.length := rfl
 unfold sizeOk at hs
 exact ⟨⟨hc.1, by omega⟩, hs.2.2.1, fun i hi => h.andP hi, fun i hi => by simp at hi⟩
theorem good_first {n : NetL} {r : NetL × Int} (g : GoodN n r) : firstAndL r.1 = firstAndL n := by rw [g.eq]; rfl
theorem good_fst {n : NetL} {r : NetL × Int} (g : GoodN n r) : fst_ r.1 = fst_ n := by unfold fst_; rw [good_first g]
theorem addAndL_pre (n : NetL) (a b : Int) : ∃ T, (addAndL n a b).1.ands = n.ands ++ T := by rw [addAndL_C]; exact addC_pre
theorem cube_pre (z : NetL) (lits : List Int) (c : Int × Int) : ∀ k, ∃ T, (cubeTo z lits c k).1.ands = z.ands ++ T
 | 0 => ⟨[], by simp [cubeTo]⟩
 | k + 1 => by
  obtain ⟨T, h⟩ := cube_pre z lits c k
  unfold cubeTo
  split
  ·exact ⟨T, h⟩
  ·split
   ·exact ⟨T, h⟩
   ·obtain ⟨T2, h2⟩ := addAndL_pre (cubeTo z lits c k).1 (cubeTo z lits c k).2 (litC (lits.getD k default) c.2 k)
    exact ⟨T ++ T2, by rw [h2, h, List.append_assoc]⟩
theorem orL_ands (r : NetL × Int) : (orL r).1 = r.1 := by unfold orL; split <;> rfl
theorem cover_pre (z : NetL) (lits : List Int) (C : List (Int × Int)) : ∀ i, ∃ T, (coverTo z lits C i).1.ands = z.ands ++ T
 | 0 => ⟨[], by simp [coverTo]⟩
 | i + 1 => by
  obtain ⟨T, h⟩ := cover_pre z lits C i
  obtain ⟨T2, h2⟩ := cube_pre (coverTo z lits C i).1 lits (C.getD i default) lits.length
  obtain ⟨T3, h3⟩ := addAndL_pre (cubeTo (coverTo z lits C i).1 lits (C.getD i default) lits.length).1 (notL (coverTo z lits C i).2) (notL (cubeTo (coverTo z lits C i).1 lits (C.getD i default) lits.length).2)
  have h4 : (addOrL (cubeTo (coverTo z lits C i).1 lits (C.getD i default) lits.length).1 (coverTo z lits C i).2 (cubeTo (coverTo z lits C i).1 lits (C.getD i default) lits.length).2).1.ands = z.ands ++ (T ++ (T2 ++ T3)) := by
   unfold addOrL
   rw [orL_ands, h3, h2, h, List.append_assoc, List.append_assoc]
  unfold coverTo
  split
  ·exact ⟨T, h⟩
  ·split
   ·exact ⟨T ++ T2, by rw [h2, h, List.append_assoc]⟩
   ·split
    ·exact ⟨_, h4⟩
    ·exact ⟨_, h4⟩
theorem addAndL_val {z : NetL} (hz : NetOkP z) {U : List Int} (hU : U.length = fst_ z) (h1 : All01 U) (h0 : U.getD 0 default = 0) {a b : Int} (ha : litP a (nodesL z)) (hb : litP b (nodesL z)) (hn : ¬ (addAndL z a b).2 < 0) :
  litV (valA U (addAndL z a b).1.ands) (addAndL z a b).2 = bits .and .i64 (litV (valA U z.ands) a) (litV (valA U z.ands) b) := by
 rw [addAndL_C] at hn ⊢
 have hc := hz.count
 have f2 := hz.nums.f2
 exact addC_val (by omega) h1 h0 (bld_net hz) (by rw [hc.2.1]; exact ha) (by rw [hc.2.1]; exact hb) (by dsimp only at hn; omega)
theorem net_low {U : List Int} {z : NetL} (hz : NetOkP z) (hU : U.length = fst_ z) {A T : List (Int × Int)} (hA : A = z.ands ++ T) {l : Int} (hl : litP l (nodesL z)) : litV (valA U A) l = litV (valA U z.ands) l := by
 rw [hA]
 have := hl.nat hz.nums
 have n1 := hz.nums.n1
 exact valA_litlow (by omega)
def cubeH (U : List Int) (z : NetL) (lits : List Int) (c : Int × Int) (k : Nat) : Prop := ∀ j, j < k → bitI c.1 j ≠ 0 → litV (valA U z.ands) (lits.getD j default) = bitI c.2 j
theorem litC_val {V : List Int} (h : All01 V) {l v : Int} {j : Nat} (h0 : 0 ≤ l) (h1 : l ≤ 9223372036854775807) : litV V (litC l v j) = if litV V l = bitI v j then 1 else 0 := by
 have hl := litV_01 h l
 have hb := bitI_01 v j
 unfold is01 at hl hb
 unfold litC
 split
 ·rename_i h2
  rw [litV_not h h0 h1, h2]
  split <;> omega
 ·split <;> omega
theorem cube_val {z : NetL} (hz : NetOkP z) {U : List Int} (hU : U.length = fst_ z) (h1 : All01 U) (h0 : U.getD 0 default = 0) {lits : List Int} (hl : ∀ l, l ∈ lits → litP l (nodesL z)) (c : Int × Int) :
  ∀ k, k ≤ lits.length → ¬ (cubeTo z lits c k).2 < 0 → (cubeH U z lits c k → litV (valA U (cubeTo z lits c k).1.ands) (cubeTo z lits c k).2 = 1) ∧ (¬ cubeH U z lits c k → litV (valA U (cubeTo z lits c k).1.ands) (cubeTo z lits c k).2 = 0)
 | 0, _, _ => by
  have n1 := hz.nums.f1
  have hv : litV (valA U z.ands) 1 = 1 := by rw [litV_if (valA_01 _ h1)]; show 1 - (valA U z.ands).getD 0 default = 1; rw [valA_low (by omega), h0]; rfl
  exact ⟨fun _ => hv, fun h => absurd (fun j hj => by omega) h⟩
 | k + 1, hk, hn => by
  by_cases hneg : (cubeTo z lits c k).2 < 0
  ·rw [cubeTo_stay hneg (by omega)] at hn; exact absurd hneg hn
  ·have ih := cube_val hz hU h1 h0 hl c k (by omega) hneg
   have g := good_cube hz hl c k (by omega)
   have hc := g.ok.count
   have hlk := hl (lits.getD k default) (getD_mem (by omega))
   by_cases hb : bitI c.1 k = 0
   ·rw [cubeTo_skip hneg hb]
    refine ⟨fun h => ih.1 fun j hj => h j (by omega), fun h => ih.2 fun h2 => h fun j hj hjb => ?_⟩
    by_cases hjk : j = k
    ·subst hjk; exact absurd hb hjb
    ·exact h2 j (by omega) hjb
   ·rw [cubeTo_add hneg hb] at hn ⊢
    have hlm := hlk.mono g.nodes
    have hlm' := hlm
    unfold litP at hlm'
    rw [addAndL_val g.ok (by rw [good_fst g]; exact hU) h1 h0 (g.litP hneg) (litC_lit hlm (by omega)) hn]
    obtain ⟨T, hT⟩ := cube_pre z lits c k
    rw [litC_val (valA_01 _ h1) hlm'.1 (by omega), net_low hz hU hT hlk]
    have hv := litV_01 (valA_01 (cubeTo z lits c k).1.ands h1) (cubeTo z lits c k).2
    refine ⟨fun h => ?_, fun h => ?_⟩
    ·rw [ih.1 fun j hj => h j (by omega), if_pos (h k (by omega) hb)]; decide
    ·by_cases h2 : litV (valA U z.ands) (lits.getD k default) = bitI c.2 k
     ·rw [if_pos h2, ih.2 fun h3 => h fun j hj hjb => by
       by_cases hjk : j = k
       ·subst hjk; exact h2
       ·exact h3 j (by omega) hjb]
      decide
     ·rw [if_neg h2]
      unfold is01 at hv
      rcases hv with hv | hv <;> rw [hv] <;> decide
theorem addOrL_val {z : NetL} (hz : NetOkP z) {U : List Int} (hU : U.length = fst_ z) (h1 : All01 U) (h0 : U.getD 0 default = 0) {a b : Int} (ha : litP a (nodesL z)) (hb : litP b (nodesL z)) (hn : ¬ (addOrL z a b).2 < 0) :
  litV (valA U (addOrL z a b).1.ands) (addOrL z a b).2 = if litV (valA U z.ands) a = 1 ∨ litV (valA U z.ands) b = 1 then 1 else 0 := by
 have hc := hz.count
 have ha' := ha
 have hb' := hb
 unfold litP at ha' hb'
 have la := litP_not ha (by omega)
 have lb := litP_not hb (by omega)
 have g := good_and hz la lb
 have gb := g.b
 have hV := valA_01 z.ands h1
 by_cases h2 : (addAndL z (notL a) (notL b)).2 < 0
 ·unfold addOrL orL at hn
  rw [if_pos h2] at hn
  exact absurd (show (-1 : Int) < 0 by decide) hn
 ·have e : addOrL z a b = ((addAndL z (notL a) (notL b)).1, notL (addAndL z (notL a) (notL b)).2) := by unfold addOrL orL; rw [if_neg h2]
  rw [e]
  dsimp only
  rw [litV_not (valA_01 _ h1) (by omega) (by omega), addAndL_val hz hU h1 h0 la lb h2, litV_not hV ha'.1 (by omega), litV_not hV hb'.1 (by omega)]
  have va := litV_01 hV a
  have vb := litV_01 hV b
  unfold is01 at va vb
  rcases va with va | va <;> rcases vb with vb | vb <;> rw [va, vb] <;> decide
theorem cover_val {z : NetL} (hz : NetOkP z) {U : List Int} (hU : U.length = fst_ z) (h1 : All01 U) (h0 : U.getD 0 default = 0) {lits : List Int} (hl : ∀ l, l ∈ lits → litP l (nodesL z)) (C : List (Int × Int)) :
  ∀ i, i ≤ C.length → ¬ (coverTo z lits C i).2 < 0 → ((∃ j, j < i ∧ cubeH U z lits (C.getD j default) lits.length) → litV (valA U (coverTo z lits C i).1.ands) (coverTo z lits C i).2 = 1) ∧ (¬ (∃ j, j < i ∧ cubeH U z lits (C.getD j default) lits.length) → litV (valA U (coverTo z lits C i).1.ands) (coverTo z lits C i).2 = 0)
 | 0, _, _ => by
  have n1 := hz.nums.f1
  have hv : litV (valA U z.ands) 0 = 0 := by rw [litV_if (valA_01 _ h1)]; show (valA U z.ands).getD 0 default = 0; rw [valA_low (by omega), h0]
  exact ⟨fun ⟨j, hj, _⟩ => by omega, fun _ => hv⟩
 | i + 1, hi, hn => by
  by_cases hneg : (coverTo z lits C i).2 < 0
  ·rw [coverTo_stay hneg (by omega)] at hn; exact absurd hneg hn
  ·have ih := cover_val hz hU h1 h0 hl C i (by omega) hneg
   have g := good_cover hz hl C i (by omega)
   have hl2 : ∀ l, l ∈ lits → litP l (nodesL (coverTo z lits C i).1) := fun l hm => (hl l hm).mono g.nodes
   have g2 := good_cube g.ok hl2 (C.getD i default) lits.length (Nat.le_refl _)
   have hU2 : U.length = fst_ (coverTo z lits C i).1 := by rw [good_fst g]; exact hU
   rw [coverTo, if_neg hneg] at hn ⊢
   by_cases hneg2 : (cubeTo (coverTo z lits C i).1 lits (C.getD i default) lits.length).2 < 0
   ·rw [if_pos hneg2] at hn; exact absurd (show (-1 : Int) < 0 by decide) hn
   ·rw [if_neg hneg2] at hn ⊢
    by_cases hneg3 : (addOrL (cubeTo (coverTo z lits C i).1 lits (C.getD i default) lits.length).1 (coverTo z lits C i).2 (cubeTo (coverTo z lits C i).1 lits (C.getD i default) lits.length).2).2 < 0
    ·rw [if_pos hneg3] at hn; exact absurd (show (-1 : Int) < 0 by decide) hn
    ·rw [if_neg hneg3]
     rw [addOrL_val g2.ok (by rw [good_fst g2]; exact hU2) h1 h0 ((g.litP hneg).mono g2.nodes) (g2.litP hneg2) hneg3]
     obtain ⟨T, hT⟩ := cube_pre (coverTo z lits C i).1 lits (C.getD i default) lits.length
     obtain ⟨T2, hT2⟩ := cover_pre z lits C i
     rw [net_low g.ok hU2 hT (g.litP hneg)]
     have hc := cube_val g.ok hU2 h1 h0 hl2 (C.getD i default) lits.length (Nat.le_refl _) hneg2
     have e : cubeH U (coverTo z lits C i).1 lits (C.getD i default) lits.length ↔ cubeH U z lits (C.getD i default) lits.length := by
      unfold cubeH
      constructor
      ·intro h j hj hb; rw [← net_low hz hU hT2 (hl _ (getD_mem hj))]; exact h j hj hb
      ·intro h j hj hb; rw [net_low hz hU hT2 (hl _ (getD_mem hj))]; exact h j hj hb
     rw [e] at hc
     refine ⟨fun ⟨j, hj, h⟩ => if_pos ?_, fun h => if_neg ?_⟩
     ·by_cases hji : j = i
      ·subst hji; exact .inr (hc.1 h)
      ·exact .inl (ih.1 ⟨j, by omega, h⟩)
     ·rw [ih.2 fun ⟨j, hj, h2⟩ => h ⟨j, by omega, h2⟩, hc.2 fun h2 => h ⟨i, by omega, h2⟩]
      decide
def idxV (v : Nat → Int) (m : Nat) : Int := bsB (fun j => decide (v j = 1)) m
theorem idxV_b (v : Nat → Int) (m : Nat) : ∃ i : Nat, idxV v m = i ∧ i < 2 ^ m := by
 have h := bsB_lt (fun j => decide (v j = 1)) m
 obtain ⟨i, hi⟩ := Int.eq_ofNat_of_zero_le h.1
 rw [pw_nat] at h
 exact ⟨i, hi, by omega⟩
theorem idxV_bit {v : Nat → Int} (h01 : ∀ j, is01 (v j)) {m j : Nat} (hj : j < m) : bitI (idxV v m) j = v j := by
 unfold idxV
 rw [bsB_bit _ _ hj]
 have := h01 j
 unfold is01 at this
 split <;> rename_i h <;> simp at h <;> omega
theorem cube_has {m : Nat} (hm : m ≤ 4) {c : Int × Int} (hc : cubeOkP (m : Int) c) {v : Nat → Int} (h01 : ∀ j, is01 (v j)) {i : Nat} (hi : idxV v m = (i : Int)) (hil : i < 2 ^ m) : hasC c i = true ↔ ∀ j, j < m → bitI c.1 j ≠ 0 → v j = bitI c.2 j := by
 obtain ⟨a, b⟩ := c
 obtain ⟨_, h1, h2, h3⟩ := hc
 rw [Int.toNat_natCast, pw_nat] at h1 h2
 dsimp only at h1 h2 h3 ⊢
 obtain ⟨a, rfl⟩ := Int.eq_ofNat_of_zero_le h1.1
 obtain ⟨b, rfl⟩ := Int.eq_ofNat_of_zero_le h2.1
 have h16 := pw_4 hm
 have hok : okC ((a : Int), (b : Int)) = true := by unfold okC; rw [decide_eq_true_iff]; exact h3
 have hsub := (okC_iff (by omega) (by omega)).1 hok
 have hbit : ∀ j, j < m → (v j = 1 ↔ i.testBit j = true) := fun j hj => by
  rw [← bitI_one, ← hi, idxV_bit h01 hj]
 have hhi : ∀ x, x < 2 ^ m → ∀ k, m ≤ k → x.testBit k = false := fun x hx k hk => Nat.testBit_lt_two_pow (Nat.lt_of_lt_of_le hx (Nat.pow_le_pow_right (by decide) hk))
 rw [hasC_iff (by omega) (by omega)]
 constructor
 ·intro h j hj hb
  have ha : a.testBit j = true := by
   rw [bitI_tb] at hb
   cases h4 : a.testBit j
   ·rw [h4] at hb; exact absurd rfl hb
   ·rfl
  have h5 := h j
  rw [ha, Bool.and_true] at h5
  rw [bitI_tb, ← h5]
  have h6 := hbit j hj
  have h7 := h01 j
  unfold is01 at h7
  split <;> rename_i h8
  ·exact h6.2 h8
  ·have : ¬ v j = 1 := fun h9 => h8 (h6.1 h9)
   omega
 ·intro h k
  by_cases hk : k < m
  ·cases h4 : a.testBit k
   ·cases h5 : b.testBit k
    ·simp
    ·rw [hsub k h5] at h4; cases h4
   ·have h5 := h k hk (by rw [bitI_tb, h4]; decide)
    rw [bitI_tb] at h5
    have h6 := hbit k hk
    rw [Bool.and_true]
    cases h7 : b.testBit k
    ·rw [h7] at h5
     cases h8 : i.testBit k
     ·rfl
     ·rw [h6.2 h8] at h5; simp at h5
    ·rw [h7] at h5
     exact h6.1 (by rw [h5]; rfl)
  ·rw [hhi a (by omega) k (by omega), hhi b (by omega) k (by omega), Bool.and_false]
theorem cover_G {m : Nat} (hm : m ≤ 4) {z : NetL} (hz : NetOkP z) {U : List Int} (hU : U.length = fst_ z) (h1 : All01 U) (h0 : U.getD 0 default = 0) {lits : List Int} (hl : ∀ l, l ∈ lits → litP l (nodesL z)) (hlm : lits.length = m) {C : List (Int × Int)} (hC : coverOkP (m : Int) C) (hn : ¬ (coverTo z lits C C.length).2 < 0)
  {i : Nat} (hi : idxV (fun j => litV (valA U z.ands) (lits.getD j default)) m = (i : Int)) (hil : i < 2 ^ m) :
  litV (valA U (coverTo z lits C C.length).1.ands) (coverTo z lits C C.length).2 = if covG C i = true then 1 else 0 := by
 have hv := cover_val hz hU h1 h0 hl C C.length (Nat.le_refl _) hn
 have h01 : ∀ j, is01 (litV (valA U z.ands) (lits.getD j default)) := fun j => litV_01 (valA_01 _ h1) _
 have e : (∃ j, j < C.length ∧ cubeH U z lits (C.getD j default) lits.length) ↔ covG C i = true := by
  rw [covG_iff]
  constructor
  ·rintro ⟨j, hj, h⟩
   rw [hlm] at h
   exact ⟨_, getD_mem hj, (cube_has hm (hC.2.2 _ (getD_mem hj)) h01 hi hil).2 h⟩
  ·rintro ⟨c, hc, h⟩
   obtain ⟨j, hj, he⟩ := List.getElem_of_mem hc
   have e : C.getD j default = c := by rw [List.getD_eq_getElem?_getD, List.getElem?_eq_getElem hj]; exact he
   refine ⟨j, hj, ?_⟩
   rw [e, hlm]
   exact (cube_has hm (hC.2.2 _ hc) h01 hi hil).1 h
 rw [e] at hv
 split
 ·rename_i h; exact hv.1 h
 ·rename_i h; exact hv.2 h
theorem tb_bs (n : NetL) (cut : List Int) (r : Nat) : ∀ i, tbTo n cut r i = bsB (fun j => decide (cvL n cut r j = 1)) i
 | 0 => rfl
 | i + 1 => by
  have h := cvL_01 n cut r i
  unfold is01 at h
  rw [tbTo, bsB, tb_bs n cut r i]
  rcases h with h | h <;> rw [h] <;> rfl
theorem tb_bit (n : NetL) (cut : List Int) (r : Nat) {i m : Nat} (h : i < m) : bitI (tbTo n cut r m) i = cvL n cut r i := by
 rw [tb_bs, bsB_bit _ _ h]
 have h := cvL_01 n cut r i
 unfold is01 at h
 split <;> rename_i h2 <;> simp at h2 <;> omega
theorem open_val {n : NetL} (hok : NetOkP n) {U : List Int} (hU : U.length = fst_ n) (h1 : All01 U) (h0 : U.getD 0 default = 0) {cut : List Int} {r : Nat} (hr : r < nds n) (hesc : ¬ Esc n cut r) {i : Nat}
  (hi : ∀ j, j < cut.length → bitI (i : Int) j = (valA U n.ands).getD (cut.getD j default).toNat default) :
  ∀ m k, k < m → Opn n cut r k → (cvTo n cut i (nds n)).getD k default = (valA U n.ands).getD k default
 | 0, _, h, _ => by omega
 | m + 1, k, hk, ho => by
  have hkr := ho.le hok.nums
  have ih := fun k' (hk' : k' < k) => open_val hok hU h1 h0 hr hesc hi m k' (by omega)
  rw [cvTo_get (by omega)]
  unfold cvAt
  by_cases hc : (k : Int) ∈ cut
  ·have hlt : cut.idxOf (k : Int) < cut.length := List.idxOf_lt_length_iff.2 hc
   have hg : cut.getD (cut.idxOf (k : Int)) default = (k : Int) := by rw [List.getD_eq_getElem?_getD, List.getElem?_eq_getElem hlt, Option.getD_some, List.getElem_idxOf]
   rw [if_pos hc, hi _ hlt, hg, Int.toNat_natCast]
  ·rw [if_neg hc]
   by_cases hf : fst_ n ≤ k
   ·obtain ⟨q, rfl⟩ : ∃ q, k = fst_ n + q := ⟨k - fst_ n, by omega⟩
    have n1 := hok.nums.n1
    have hq : q < n.ands.length := by omega
    have ka := hok.nums.ka q hq
    have kb := hok.nums.kb q hq
    have ia := ih (kA n q) (by omega) (.left hq ho hc)
    have ib := ih (kB n q) (by omega) (.right hq ho hc)
    have f2 := hok.nums.f2
    have hat := valA_at (U := U) (A := n.ands) (f := firstAndL n) (by omega) (by omega) (i := q) hq (hok.andP hq)
    rw [if_pos hf, show fst_ n + q - fst_ n = q by omega]
    have e1 : litV (cvTo n cut i (fst_ n + q)) (n.ands.getD q default).1 = litV (valA U n.ands) (n.ands.getD q default).1 := by
     rw [← cvTo_lit (m := nds n) (k := fst_ n + q) (by omega) (by unfold kA at ka; omega)]
     exact litV_congr ia
    have e2 : litV (cvTo n cut i (fst_ n + q)) (n.ands.getD q default).2 = litV (valA U n.ands) (n.ands.getD q default).2 := by
     rw [← cvTo_lit (m := nds n) (k := fst_ n + q) (by omega) (by unfold kB at kb; omega)]
     exact litV_congr ib
    rw [e1, e2]
    exact hat.symm
   ·rw [if_neg hf, valA_low (by omega)]
    by_cases hz : k = 0
    ·rw [hz, h0]
    ·exact absurd ⟨k, ho, hc, by omega, by omega⟩ hesc
theorem rf_pre {n : NetL} {q : Nat} {cut : List Int} {C : List (Int × Int)} {fl : Int} {S : List (Int × Int) × List Int} {i : Nat} : ∃ T, (rfS n q cut C fl S i).1 = S.1 ++ T := by
 unfold rfS
 split
 ·exact cover_pre (zerL n S.1) _ C C.length
 ·exact addC_pre
theorem fst_zer (n : NetL) (A : List (Int × Int)) : fst_ (zerL n A) = fst_ n := by unfold fst_; rw [firstAndL_zer]
def cvrP (m : Nat) (t : Int) (C : List (Int × Int)) (fl : Int) : Prop := coverOkP (m : Int) C ∧ ((fl = 0 ∧ covT m C = t) ∨ (fl = 1 ∧ covT m C = notT m t))
theorem cvr_P {m : Nat} (hm : m ≤ 4) {t : Int} (h0 : 0 ≤ t) (h1 : t < 2 ^ 2 ^ m) : cvrP m t (cvrL m t) (cvrF m t) := by
 have hn := notT_b h0 h1
 refine ⟨cvrL_ok hm t, ?_⟩
 unfold cvrL cvrF
 split
 ·exact .inr ⟨rfl, min_T hm hn.1 hn.2⟩
 ·exact .inl ⟨rfl, min_T hm h0 h1⟩
theorem cvrP_G {m : Nat} {t : Int} (h0 : 0 ≤ t) (h1 : t < 2 ^ 2 ^ m) {C : List (Int × Int)} {fl : Int} (h : cvrP m t C fl) {i : Nat} (hi : i < 2 ^ m) : (if covG C i = true then (1 : Int) else 0) = if fl = 0 then bitI t i else 1 - bitI t i := by
 have hb := bitI_01 t i
 unfold is01 at hb
 rcases h.2 with ⟨hf, hT⟩ | ⟨hf, hT⟩
 ·rw [if_pos hf]
  have h2 : bsB (covG C) (2 ^ m) = t := hT
  rw [← h2, bsB_bit _ _ hi]
 ·rw [if_neg (show ¬ fl = 0 by omega)]
  have h2 : bsB (covG C) (2 ^ m) = bsB (fun j => !decide (bitI t j = 1)) (2 ^ m) := by rw [bsB_notT h0 h1]; exact hT
  have h3 := bsB_inj h2 hi
  rw [h3]
  rcases hb with hb | hb <;> rw [hb] <;> rfl
theorem rfTo_sim {n : NetL} (hok : NetOkP n) {q : Nat} {cut : List Int} (hb : rfBel n q cut) (hc4 : cut.length ≤ 4) (hesc : ¬ Esc n cut (fst_ n + q)) {C : List (Int × Int)} {fl : Int} (hC : cvrP cut.length (tabL n cut (fst_ n + q)).2 C fl)
  {U : List Int} (hU : U.length = fst_ n) (h1 : All01 U) (h0 : U.getD 0 default = 0) :
  ∀ i, i ≤ n.ands.length → ∀ S, rfTo n q cut C fl i = some S → ∀ k, k < fst_ n + i → litV (valA U S.1) (S.2.getD k default) = (valA U n.ands).getD k default
 | 0, _, S, hS => by
  simp only [rfTo, Option.some.injEq] at hS
  subst hS
  intro k hk
  show litV U ((leafL n).getD k default) = _
  rw [leafL_val h1 (by omega), valA_low (by omega)]
 | i + 1, hi, T, hT => by
  obtain ⟨S, s1, s2, rfl⟩ := rfTo_pre hT
  have hf : fl = 0 ∨ fl = 1 := by rcases hC.2 with h | h <;> omega
  have ih := rfTo_sim hok hb hc4 hesc hC hU h1 h0 i (by omega) S s1
  have r := rfTo_ok hok hb hf i (by omega) S s1
  have rl := r.len
  have hB := r.b
  have f1 := hB.f1
  have f3 := hB.alen
  have g2 := hok.nums.f2
  have n1 := hok.nums.n1
  obtain ⟨Tl, hTl⟩ := rf_pre (n := n) (q := q) (cut := cut) (C := C) (fl := fl) (S := S) (i := i)
  intro k hk
  by_cases hk2 : k < S.2.length
  ·have ht := hB.tok k hk2
   unfold litP at ht
   dsimp only
   rw [snoc_lt hk2, hTl, valA_litlow (by omega)]
   exact ih k (by omega)
  ·obtain rfl : k = S.2.length := by omega
   dsimp only
   rw [snoc_eq]
   by_cases hiq : i = q
   ·subst hiq
    have e : rfS n i cut C fl S i = ((rfV n cut C S).1.ands, if (rfV n cut C S).2 < 0 then -1 else xorL (rfV n cut C S).2 fl) := by unfold rfS; rw [if_pos rfl]
    rw [e] at s2 ⊢
    dsimp only at s2 ⊢
    by_cases hn : (rfV n cut C S).2 < 0
    ·rw [if_pos hn] at s2; exact absurd (show (-1 : Int) < 0 by decide) s2
    ·rw [if_neg hn]
     have g := rfV_good hok hb (C := C) hB rl
     have hgc := g.ok.count
     have hlit := g.litP hn
     have hlit' := hlit
     unfold litP at hlit'
     have hz := zerL_ok hok hB
     have hUz : U.length = fst_ (zerL n S.1) := by rw [fst_zer]; exact hU
     have hll := rfLits_ok hb hB rl
     have hv : ∀ j, j < cut.length → litV (valA U (zerL n S.1).ands) ((rfLits cut S.2).getD j default) = (valA U n.ands).getD (cut.getD j default).toNat default := fun j hj => by
      have hcj := hb.2 (cut.getD j default) (getD_mem hj)
      have e2 : (rfLits cut S.2).getD j default = S.2.getD (cut.getD j default).toNat default := map_getD (f := fun c : Int => S.2.getD c.toNat default) hj
      rw [e2]
      exact ih _ (by omega)
     obtain ⟨x, hx, hxl⟩ := idxV_b (fun j => litV (valA U (zerL n S.1).ands) ((rfLits cut S.2).getD j default)) cut.length
     have h01 : ∀ j, is01 (litV (valA U (zerL n S.1).ands) ((rfLits cut S.2).getD j default)) := fun j => litV_01 (valA_01 _ h1) _
     have hcov := cover_G hc4 hz hUz h1 h0 hll (rfLits_len _ _) hC.1 hn hx hxl
     have hbits : ∀ j, j < cut.length → bitI (x : Int) j = (valA U n.ands).getD (cut.getD j default).toNat default := fun j hj => by
      rw [← hx, idxV_bit h01 hj]; exact hv j hj
     have hop := open_val hok hU h1 h0 (r := fst_ n + i) (by omega) hesc hbits (fst_ n + i + 1) (fst_ n + i) (by omega) .refl
     have htl := tbTo_lt n cut (fst_ n + i) (2 ^ cut.length)
     have htb := tb_bit n cut (fst_ n + i) hxl
     have hG := cvrP_G htl.1 htl.2 hC hxl
     have hbv : bitI (tabL n cut (fst_ n + i)).2 x = (valA U n.ands).getD (fst_ n + i) default := by
      show bitI (tbTo n cut (fst_ n + i) (2 ^ cut.length)) x = _
      rw [htb]; exact hop
     have hG' : litV (valA U (rfV n cut C S).1.ands) (rfV n cut C S).2 = if fl = 0 then bitI (tabL n cut (fst_ n + i)).2 x else 1 - bitI (tabL n cut (fst_ n + i)).2 x := hcov.trans hG
     rw [xorL_eq hlit'.1 (by omega) hf, rl]
     split
     ·rename_i hf0
      rw [hG', if_pos hf0, hbv]
     ·rename_i hf0
      rw [litV_not (valA_01 _ h1) hlit'.1 (by omega), hG', if_neg hf0, hbv]
      omega
   ·have e : rfS n q cut C fl S i = addC (firstAndL n) S.1 (litV S.2 (n.ands.getD i default).1) (litV S.2 (n.ands.getD i default).2) := by unfold rfS; rw [if_neg hiq]
    rw [e] at s2 ⊢
    obtain ⟨q1, q2⟩ := hok.andP (show i < n.ands.length by omega)
    have q1' := q1
    have q2' := q2
    unfold litP at q1' q2'
    have c1 := litV_comp (V := valA U n.ands) (V' := valA U S.1) (to := S.2) (l := (n.ands.getD i default).1) (valA_01 _ h1) (valA_01 _ h1) (k := firstAndL n + S.1.length) (by omega) (hB.tok _ (by omega)) (ih _ (by omega))
    have c2 := litV_comp (V := valA U n.ands) (V' := valA U S.1) (to := S.2) (l := (n.ands.getD i default).2) (valA_01 _ h1) (valA_01 _ h1) (k := firstAndL n + S.1.length) (by omega) (hB.tok _ (by omega)) (ih _ (by omega))
    have hat := valA_at (U := U) (A := n.ands) (f := firstAndL n) (by omega) (by omega) (i := i) (by omega) ⟨q1, q2⟩
    rw [addC_val (by omega) h1 h0 hB (hB.lit (by omega)) (hB.lit (by omega)) (by omega), c1, c2, ← hat, rl]
    rfl
theorem rfN_run {n m : NetL} (hok : NetOkP n) {q : Nat} {cut : List Int} (hb : rfBel n q cut) (hc4 : cut.length ≤ 4) (hesc : ¬ Esc n cut (fst_ n + q)) (h : rfN n q cut = some m) (ins : List Int) : runL m ins = runL n ins := by
 unfold rfN at h
 rw [Option.map_eq_some_iff] at h
 obtain ⟨S, h1, rfl⟩ := h
 have r := rfTo_ok hok hb (cvrF_01 _ _) _ (Nat.le_refl _) S h1
 have rl := r.len
 have n1 := hok.nums.n1
 have f1 := r.b.f1
 have f2 := r.b.alen
 have hfok := finN_ok hok r.b (by omega)
 have ht := tbTo_lt n cut (fst_ n + q) (2 ^ cut.length)
 rw [sweep_run hfok]
 refine fin_run hok fun st inp hs => roots_sim hok (valsL_01 _ _ _) (valsL_01 _ _ _) (k := firstAndL n + S.1.length) (by omega) fun i hi => ⟨r.b.tok i (by omega), ?_⟩
 rw [fin_vals hfok hs, valsL_eq hok hs]
 exact rfTo_sim hok hb hc4 hesc (cvr_P hc4 ht.1 ht.2) (leafV_len hok hs inp) (leafV_01 _ _ _) (leafV_0 _ _ _) _ (Nat.le_refl _) S h1 i (by omega)
theorem rfF_run {n : NetL} {k : Int} {cut : List Int} (ins : List Int) : runL (rfF n k cut).1 ins = runL n ins := by
 by_cases h1 : rfP n k cut
 ·cases h2 : rfN n (k.toNat - fst_ n) cut with
  | none => rw [rfF_no h1 h2]
  | some m =>
   rw [rfF_yes h1 h2]
   have e : fst_ n + (k.toNat - fst_ n) = k.toNat := by have := h1.2.1; omega
   exact rfN_run h1.1.1 (rfP_bel h1) h1.1.2.2.1.1 (by rw [e]; exact h1.1.2.2.2.2) h2 ins
 ·rw [rfF_bad h1]
end Go.Xw
end
section
namespace Go.Proofs
open Go.Xw
set_option maxRecDepth 100000
def lexLt : List Int → List Int → Bool
 | x :: xs, y :: ys => if x ≠ y then decide (x < y) else lexLt xs ys
 | _, _ => false
def cutLt (xs ys : List Int) : Bool := if xs.length ≠ ys.length then decide (xs.length < ys.length) else lexLt xs ys
theorem lexLt_at : ∀ {i : Nat} {xs ys : List Int}, xs.length = ys.length → i < xs.length → (∀ j, j < i → xs.getD j default = ys.getD j default) → xs.getD i default ≠ ys.getD i default →
  lexLt xs ys = decide (xs.getD i default < ys.getD i default) := by
 intro i
 induction i with
 | zero =>
  intro xs ys hl hi _ hne
  cases xs with
  | nil => simp at hi
  | cons x xs => cases ys with
   | nil => simp at hl
   | cons y ys => simp at hne ⊢; simp [lexLt, hne]
 | succ i ih =>
  intro xs ys hl hi hall hne
  cases xs with
  | nil => simp at hi
  | cons x xs => cases ys with
   | nil => simp at hl
   | cons y ys =>
    have h0 := hall 0 (by omega)
    simp at h0
    simp only [lexLt, h0, ne_eq, not_true, if_false, List.getD_cons_succ] at *
    exact ih (by simpa using hl) (by simpa using hi) (fun j hj => by simpa using hall (j + 1) (by omega)) hne
theorem lexLt_self (xs : List Int) : lexLt xs xs = false := by
 induction xs with
 | nil => rfl
 | cons x xs ih => simp [lexLt, ih]
theorem all_eq {xs ys : List Int} (hlen : xs.length = ys.length) (hall : ∀ j, j < xs.length → xs.getD j default = ys.getD j default) : xs = ys :=
 List.ext_getElem hlen fun j h1 h2 => by
  have := hall j (by omega)
  simpa [List.getD_eq_getElem?_getD, h1, h2] using this
theorem implCutLess_ok (a b : Option Addr) (ca cb : Nat) (xs ys : List Int) (w : World) (ha : Sl w a xs.length 1 (fL eI xs)) (hb : Sl w b ys.length 1 (fL eI ys)) (hl : xs.length < 1000000000) :
  Ret Tryz.prog 133 [.slice a xs.length ca, .slice b ys.length cb] w (fun v w' => v = .bool (cutLt xs ys) ∧ Ext w w') := by
 refine enter Tryz.S133ok _ _ rfl rfl (by show _ ≤ _; simp only [List.length]; decide) (fun C => ?_); refine h_run rfl ?_; (repeat (first | refine h_guard_y rfl nopre rfl ?_ | refine h_guard_n rfl nopre rfl ?_))
 refine h_cond_dec (fun h => ?_) (fun h => ?_)
 ·refine h_cond_t rfl rfl ?_; (repeat (first | refine h_guard_y rfl nopre rfl ?_ | refine h_guard_n rfl nopre rfl ?_))
  have hne : xs.length ≠ ys.length := by omega
  exact ⟨by unfold cutLt; rw [if_pos hne]; simp, Ext.refl _⟩
 ·refine h_cond_f rfl rfl ?_; (repeat (first | refine h_guard_y rfl nopre rfl ?_ | refine h_guard_n rfl nopre rfl ?_))
  have hlen : xs.length = ys.length := by omega
  refine h_loop [0, 1, 17, 18] (fun i : Nat => [(0, .slice a xs.length ca), (1, .slice b ys.length cb), (17, .int .i64 (xs.length : Int)), (18, .int .i64 (i : Int))])
   (fun i w' => i ≤ xs.length ∧ (∀ j, j < i → xs.getD j default = ys.getD j default) ∧ Ext w w') (fun i => xs.length - i) 0 rfl ⟨by omega, fun j hj => by omega, Ext.refl _⟩ ?_
  rintro i w1 ⟨hi, hall, hx⟩ IH C
  have ha1 := ha.ext hx
  have hb1 := hb.ext hx
  refine h_run rfl ?_; (repeat (first | refine h_guard_y rfl nopre rfl ?_ | refine h_guard_n rfl nopre rfl ?_))
  refine h_cond_dec (fun hlt => ?_) (fun hlt => ?_)
  ·refine h_cond_t rfl rfl ?_; (repeat (first | refine h_guard_y rfl nopre rfl ?_ | refine h_guard_n rfl nopre rfl ?_))
   have hlt' : i < xs.length := by omega
   refine h_drawE (by kernel_rfl) (by kernel_rfl) rfl rfl (fun w2 hd => ?_); (repeat (first | refine h_guard_yd rfl rfl rfl ?_ | refine h_guard_nd rfl rfl rfl ?_))
   refine h_loadd (fun wx hwx => ld_elN Tryz.ttOk rfl (ha1.ext hwx) hlt' (by decide)) rfl rfl ?_; (repeat (first | refine h_guard_yd rfl rfl rfl ?_ | refine h_guard_nd rfl rfl rfl ?_))
   refine h_loadd (fun wx hwx => ld_elN Tryz.ttOk rfl (hb1.ext hwx) (by omega) (by decide)) rfl rfl ?_; (repeat (first | refine h_guard_yd rfl rfl rfl ?_ | refine h_guard_nd rfl rfl rfl ?_))
   refine h_cond_dec (fun hne => ?_) (fun hne => ?_)
   ·refine h_cond_t rfl rfl ?_; (repeat (first | refine h_guard_y rfl nopre rfl ?_ | refine h_guard_n rfl nopre rfl ?_))
    refine h_drawE (by kernel_rfl) (by kernel_rfl) rfl rfl (fun w3 hd3 => ?_); (repeat (first | refine h_guard_yd rfl rfl rfl ?_ | refine h_guard_nd rfl rfl rfl ?_))
    refine h_loadd (fun wx hwx => ld_elN Tryz.ttOk rfl ((ha1.ext hd).ext hwx) hlt' (by decide)) rfl rfl ?_; (repeat (first | refine h_guard_yd rfl rfl rfl ?_ | refine h_guard_nd rfl rfl rfl ?_))
    refine h_loadd (fun wx hwx => ld_elN Tryz.ttOk rfl ((hb1.ext hd).ext hwx) (by omega) (by decide)) rfl rfl ?_; (repeat (first | refine h_guard_yd rfl rfl rfl ?_ | refine h_guard_nd rfl rfl rfl ?_))
    refine ⟨?_, (hx.trans hd).trans hd3⟩
    unfold cutLt
    rw [if_neg (by omega), lexLt_at hlen hlt' hall hne]
   ·refine h_cond_f rfl rfl ?_; (repeat (first | refine h_guard_y rfl nopre rfl ?_ | refine h_guard_n rfl nopre rfl ?_))
    refine IH (i + 1) _ _ _ (by omega) rfl ⟨by omega, fun j hj => ?_, hx.trans hd⟩
    by_cases hj2 : j < i
    ·exact hall j hj2
    ·obtain rfl : j = i := by omega
     exact Decidable.not_not.1 hne
  ·refine h_cond_f rfl rfl ?_; (repeat (first | refine h_guard_y rfl nopre rfl ?_ | refine h_guard_n rfl nopre rfl ?_))
   refine ⟨?_, hx⟩
   have : xs = ys := all_eq hlen fun j hj => hall j (by omega)
   unfold cutLt
   rw [if_neg (by omega), this, lexLt_self]
theorem specCutLess_ok (a b : Option Addr) (ca cb : Nat) (xs ys : List Int) (w : World) (ha : Sl w a xs.length 1 (fL eI xs)) (hb : Sl w b ys.length 1 (fL eI ys)) (hl : xs.length < 1000000000) :
  Ret Tryz.prog 147 [.slice a xs.length ca, .slice b ys.length cb] w (fun v w' => v = .bool (cutLt xs ys) ∧ Ext w w') := by
 refine enter Tryz.S147ok _ _ rfl rfl (by show _ ≤ _; simp only [List.length]; decide) (fun C => ?_); refine h_run rfl ?_; (repeat (first | refine h_guard_y rfl nopre rfl ?_ | refine h_guard_n rfl nopre rfl ?_))
 refine h_cond_dec (fun h => ?_) (fun h => ?_)
 ·refine h_cond_t rfl rfl ?_; (repeat (first | refine h_guard_y rfl nopre rfl ?_ | refine h_guard_n rfl nopre rfl ?_))
  have hne : xs.length ≠ ys.length := by omega
  exact ⟨by unfold cutLt; rw [if_pos hne]; simp, Ext.refl _⟩
 ·refine h_cond_f rfl rfl ?_; (repeat (first | refine h_guard_y rfl nopre rfl ?_ | refine h_guard_n rfl nopre rfl ?_))
  have hlen : xs.length = ys.length := by omega
  refine h_loop [0, 1, 5] (fun i : Nat => [(0, .slice a xs.length ca), (1, .slice b ys.length cb), (5, .int .i64 (i : Int))])
   (fun i w' => i ≤ xs.length ∧ (∀ j, j < i → xs.getD j default = ys.getD j default) ∧ Ext w w') (fun i => xs.length - i) 0 rfl ⟨by omega, fun j hj => by omega, Ext.refl _⟩ ?_
  rintro i w1 ⟨hi, hall, hx⟩ IH C
  have ha1 := ha.ext hx
  have hb1 := hb.ext hx
  refine h_run rfl ?_; (repeat (first | refine h_guard_y rfl nopre rfl ?_ | refine h_guard_n rfl nopre rfl ?_))
  refine h_cond_dec (fun hlt => ?_) (fun hlt => ?_)
  ·refine h_cond_t rfl rfl ?_; (repeat (first | refine h_guard_y rfl nopre rfl ?_ | refine h_guard_n rfl nopre rfl ?_))
   have hlt' : i < xs.length := by omega
   refine h_drawE (by kernel_rfl) (by kernel_rfl) rfl rfl (fun w2 hd => ?_); (repeat (first | refine h_guard_yd rfl rfl rfl ?_ | refine h_guard_nd rfl rfl rfl ?_))
   refine h_loadd (fun wx hwx => ld_elN Tryz.ttOk rfl (ha1.ext hwx) hlt' (by decide)) rfl rfl ?_; (repeat (first | refine h_guard_yd rfl rfl rfl ?_ | refine h_guard_nd rfl rfl rfl ?_))
   refine h_loadd (fun wx hwx => ld_elN Tryz.ttOk rfl (hb1.ext hwx) (by omega) (by decide)) rfl rfl ?_; (repeat (first | refine h_guard_yd rfl rfl rfl ?_ | refine h_guard_nd rfl rfl rfl ?_))
   refine h_cond_dec (fun hne => ?_) (fun hne => ?_)
   ·refine h_cond_t rfl rfl ?_; (repeat (first | refine h_guard_y rfl nopre rfl ?_ | refine h_guard_n rfl nopre rfl ?_))
    refine h_drawE (by kernel_rfl) (by kernel_rfl) rfl rfl (fun w3 hd3 => ?_); (repeat (first | refine h_guard_yd rfl rfl rfl ?_ | refine h_guard_nd rfl rfl rfl ?_))
    refine h_loadd (fun wx hwx => ld_elN Tryz.ttOk rfl ((ha1.ext hd).ext hwx) hlt' (by decide)) rfl rfl ?_; (repeat (first | refine h_guard_yd rfl rfl rfl ?_ | refine h_guard_nd rfl rfl rfl ?_))
    refine h_loadd (fun wx hwx => ld_elN Tryz.ttOk rfl ((hb1.ext hd).ext hwx) (by omega) (by decide)) rfl rfl ?_; (repeat (first | refine h_guard_yd rfl rfl rfl ?_ | refine h_guard_nd rfl rfl rfl ?_))
    refine ⟨?_, (hx.trans hd).trans hd3⟩
    unfold cutLt
    rw [if_neg (by omega), lexLt_at hlen hlt' hall hne]
   ·refine h_cond_f rfl rfl ?_; (repeat (first | refine h_guard_y rfl nopre rfl ?_ | refine h_guard_n rfl nopre rfl ?_))
    refine IH (i + 1) _ _ _ (by omega) rfl ⟨by omega, fun j hj => ?_, hx.trans hd⟩
    by_cases hj2 : j < i
    ·exact hall j hj2
    ·obtain rfl : j = i := by omega
     exact Decidable.not_not.1 hne
  ·refine h_cond_f rfl rfl ?_; (repeat (first | refine h_guard_y rfl nopre rfl ?_ | refine h_guard_n rfl nopre rfl ?_))
   refine ⟨?_, hx⟩
   have : xs = ys := all_eq hlen fun j hj => hall j (by omega)
   unfold cutLt
   rw [if_neg (by omega), this, lexLt_self]
end Go.Proofs
end
