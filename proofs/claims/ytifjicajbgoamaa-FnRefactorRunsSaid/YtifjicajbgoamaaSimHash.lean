/- Swept and hashed nets have the runs of the net and are not deeper; plain data, no condition. -/
import Derived.Test.YtifjicajbgoamaaSimLaw
set_option linter.all false
namespace Go.Xw
open Go.Proofs
set_option maxHeartbeats 1000000

/-! ### sweeping and hashing keep the runs -/
theorem reach_kids {n : NetL} (h : NetOkP n) {i : Nat} (hi : i < n.ands.length) (hK : (reachedL n).getD (fst_ n + i) default = true) : (reachedL n).getD (kA n i) default = true ∧ (reachedL n).getD (kB n i) default = true := by
  have hn := h.nums
  have hn1 := hn.n1
  have ka := hn.ka i hi
  have kb := hn.kb i hi
  have hr : isReached n (fst_ n + i) := (listB_get (by omega)).1 hK
  refine ⟨(listB_get (by omega)).2 ?_, (listB_get (by omega)).2 ?_⟩
  · obtain ⟨x, hx, hc⟩ := hr
    exact ⟨x, hx, hc.trans (.left hi (.refl _))⟩
  · obtain ⟨x, hx, hc⟩ := hr
    exact ⟨x, hx, hc.trans (.right hi (.refl _))⟩
theorem reach_root {n : NetL} (h : NetOkP n) {x : Int} (hx : x ∈ rootsL n) : (reachedL n).getD (x / 2).toNat default = true := by
  have hlt := (h.root x hx).nat h.nums
  refine (listB_get hlt).2 ?_
  obtain ⟨i, hi, rfl⟩ := List.getElem_of_mem hx
  exact ⟨i, hi, by rw [List.getD_eq_getElem?_getD, List.getElem?_eq_getElem hi]; exact .refl _⟩
theorem sweep_run {n : NetL} (h : NetOkP n) (ins : List Int) : runL (sweepL n) ins = runL n ins := by
  refine fin_run h fun st inp hs x hx => ?_
  have hB := swTo_ok h (reachedL n) _ (Nat.le_refl _)
  have hl := swTo_len n (reachedL n) n.ands.length
  have hn := h.nums
  have hn1 := hn.n1
  have f1 := hB.f1
  have f2 := hB.alen
  have hlt := (h.root x hx).nat hn
  have hsw : NetOkP (finN n (swTo n (reachedL n) n.ands.length).1 (swTo n (reachedL n) n.ands.length).2) := sweepL_ok h
  refine litV_comp (valsL_01 _ _ _) (valsL_01 _ _ _) (k := firstAndL n + (swTo n (reachedL n) n.ands.length).1.length) (by omega) (hB.tok _ (by omega)) ?_
  rw [fin_vals hsw hs, valsL_eq h hs]
  exact sw_sim h (fun i hi hK => ⟨.inr (reach_kids h hi hK).1, .inr (reach_kids h hi hK).2⟩) (leafV_len h hs inp) (leafV_01 _ _ _) n.ands.length (Nat.le_refl _) _ (by omega) (.inr (reach_root h hx))
theorem hash_run {n : NetL} (h : NetOkP n) (ins : List Int) : runL (hashL n) ins = runL n ins := by
  unfold hashL
  rw [sweep_run (preL_ok h), preL_run h]

/-! ### levels -/
def nl (V : List Int) (l : Int) : Int := V.getD (l / 2).toNat default
def levA (U : List Int) (A : List (Int × Int)) : List Int := A.foldl (fun V x => V ++ [1 + max (nl V x.1) (nl V x.2)]) U
theorem levA_app (U : List Int) (A B : List (Int × Int)) : levA U (A ++ B) = levA (levA U A) B := by unfold levA; rw [List.foldl_append]
theorem levA_snoc (U : List Int) (A : List (Int × Int)) (x : Int × Int) : levA U (A ++ [x]) = levA U A ++ [1 + max (nl (levA U A) x.1) (nl (levA U A) x.2)] := by rw [levA_app]; rfl
theorem levA_pre : ∀ (A : List (Int × Int)) (U : List Int), ∃ T, levA U A = U ++ T ∧ T.length = A.length
  | [], U => ⟨[], by simp [levA]⟩
  | x :: A, U => by
    obtain ⟨T, h, hl⟩ := levA_pre A (U ++ [1 + max (nl U x.1) (nl U x.2)])
    refine ⟨(1 + max (nl U x.1) (nl U x.2)) :: T, ?_, by simp [hl]⟩
    show levA (U ++ [1 + max (nl U x.1) (nl U x.2)]) A = _
    rw [h, List.append_assoc]
    rfl
theorem levA_len (U : List Int) (A : List (Int × Int)) : (levA U A).length = U.length + A.length := by
  obtain ⟨T, h, hl⟩ := levA_pre A U
  rw [h, List.length_append, hl]
theorem levA_low {U : List Int} {A : List (Int × Int)} {k : Nat} (h : k < U.length) : (levA U A).getD k default = U.getD k default := by
  obtain ⟨T, h1, _⟩ := levA_pre A U
  rw [h1, getD_left h]
theorem levA_litlow {U : List Int} {A B : List (Int × Int)} {l : Int} (h : (l / 2).toNat < U.length + A.length) : nl (levA U (A ++ B)) l = nl (levA U A) l := by
  obtain ⟨T, h1, _⟩ := levA_pre B (levA U A)
  unfold nl
  rw [levA_app, h1, getD_left (by rw [levA_len]; exact h)]
theorem levA_at {U : List Int} {A : List (Int × Int)} {f : Int} (hf : U.length = f.toNat) (h0 : 0 ≤ f) {i : Nat} (hi : i < A.length) (ok : litP (A.getD i default).1 (f + i) ∧ litP (A.getD i default).2 (f + i)) :
    (levA U A).getD (f.toNat + i) default = 1 + max (nl (levA U A) (A.getD i default).1) (nl (levA U A) (A.getD i default).2) := by
  obtain ⟨o1, o2⟩ := ok
  unfold litP at o1 o2
  have hl : (A.take i).length = i := by simp; omega
  have g1 : (((A.getD i default).1) / 2).toNat < U.length + (A.take i).length := by omega
  have g2 : (((A.getD i default).2) / 2).toNat < U.length + (A.take i).length := by omega
  have e : levA U A = levA U (A.take i ++ ([A.getD i default] ++ A.drop (i + 1))) := by rw [← List.append_assoc, ← split_at hi]
  have e2 : levA U A = levA (levA U (A.take i) ++ [1 + max (nl (levA U (A.take i)) (A.getD i default).1) (nl (levA U (A.take i)) (A.getD i default).2)]) (A.drop (i + 1)) := by
    rw [← levA_snoc, ← levA_app, ← split_at hi]
  rw [show nl (levA U A) (A.getD i default).1 = nl (levA U (A.take i)) (A.getD i default).1 by rw [e, levA_litlow g1], show nl (levA U A) (A.getD i default).2 = nl (levA U (A.take i)) (A.getD i default).2 by rw [e, levA_litlow g2], e2, levA_low (by simp [levA_len]; omega),
    show f.toNat + i = (levA U (A.take i)).length by rw [levA_len]; omega, snoc_eq]
def AllN (V : List Int) : Prop := ∀ j, 0 ≤ V.getD j default
theorem AllN.snoc {V : List Int} (h : AllN V) {z : Int} (hz : 0 ≤ z) : AllN (V ++ [z]) := fun j => by
  by_cases h1 : j < V.length
  · rw [snoc_lt h1]; exact h j
  · by_cases h2 : j = V.length
    · subst h2; rw [snoc_eq]; exact hz
    · rw [List.getD_eq_getElem?_getD, List.getElem?_eq_none (by simp; omega)]; exact Int.le_refl _
theorem levA_nn : ∀ (A : List (Int × Int)) {U : List Int}, AllN U → AllN (levA U A)
  | [], _, h => h
  | x :: A, U, h => levA_nn A (h.snoc (by have h1 := h (x.1 / 2).toNat; have h2 := h (x.2 / 2).toNat; unfold nl; omega))
theorem rep_get {m j : Nat} : (List.replicate m (0 : Int)).getD j default = 0 := by
  simp only [List.getD_eq_getElem?_getD, List.getElem?_replicate]
  split <;> rfl
theorem rep_nn (m : Nat) : AllN (List.replicate m 0) := fun j => by rw [rep_get]; exact Int.le_refl _
theorem levelsTo_eq {n : NetL} (h : NetOkP n) : ∀ i, i ≤ n.ands.length → levelsTo n i = levA (List.replicate (fst_ n) 0) (n.ands.take i) ++ List.replicate (n.ands.length - i) 0
  | 0, _ => by
    have h2 := h.nums.n1
    show List.replicate (nds n) (0 : Int) = List.replicate (fst_ n) 0 ++ List.replicate (n.ands.length - 0) 0
    rw [h2, Nat.sub_zero, List.replicate_append_replicate]
  | i + 1, hi => by
    have hf := h.nums.f2
    have e : (firstAndL n + (i : Int)).toNat = (levA (List.replicate (fst_ n) 0) (n.ands.take i)).length := by rw [levA_len]; simp; omega
    rw [levelsTo, levelsTo_eq h i (by omega), pad_get, pad_get, show n.ands.length - i = (n.ands.length - (i + 1)) + 1 by omega, e, pad_set, take_snoc (show i < n.ands.length by omega), levA_snoc]
    rfl
theorem levelsL_eq {n : NetL} (h : NetOkP n) : levelsL n = levA (List.replicate (fst_ n) 0) n.ands := by
  rw [levelsL, levelsTo_eq h _ (Nat.le_refl _), List.take_length, Nat.sub_self]
  simp
theorem nl_not {V : List Int} {a : Int} (h0 : 0 ≤ a) (h1 : a ≤ 9223372036854775807) : nl V (notL a) = nl V a := by unfold nl; rw [(notL_b h0 h1).2.2.1]
theorem nl_comp {V to : List Int} {l : Int} {k : Int} (hk : k ≤ 1000000) (ht : litP (to.getD (l / 2).toNat default) k) : nl V (litV to l) = nl V (to.getD (l / 2).toNat default) := by
  unfold litP at ht
  rw [litV_eq to ht.1 (by omega)]
  split
  · rfl
  · exact nl_not ht.1 (by omega)
theorem addC_lev {U : List Int} {f : Int} {A : List (Int × Int)} {to : List Int} (hU : U.length = f.toNat) (h1 : AllN U) (hz : U.getD 0 default = 0) (hB : Bld f A to) {a b : Int} (ha : litP a (f + A.length)) (hb : litP b (f + A.length)) (h0 : 0 ≤ (addC f A a b).2) :
    nl (levA U (addC f A a b).1) (addC f A a b).2 ≤ 1 + max (nl (levA U A) a) (nl (levA U A) b) := by
  have f1 := hB.f1
  have f2 := hB.alen
  have hV := levA_nn A h1
  have na : 0 ≤ nl (levA U A) a := hV _
  have nb : 0 ≤ nl (levA U A) b := hV _
  have hz' : nl (levA U A) 0 = 0 := by show (levA U A).getD 0 default = 0; rw [levA_low (by omega), hz]
  unfold addC at h0 ⊢
  split at h0
  · rename_i h
    rw [if_pos h]
    show nl (levA U A) 0 ≤ _
    omega
  · rename_i h
    rw [if_neg h]
    split at h0
    · rename_i h2
      rw [if_pos h2]
      show nl (levA U A) b ≤ _
      omega
    · rename_i h2
      rw [if_neg h2]
      split at h0
      · rename_i h3
        rw [if_pos h3]
        show nl (levA U A) a ≤ _
        omega
      · rename_i h3
        rw [if_neg h3]
        have hmm : max (nl (levA U A) (min a b)) (nl (levA U A) (max a b)) = max (nl (levA U A) a) (nl (levA U A) b) := by
          by_cases hab : a ≤ b
          · rw [Int.min_eq_left hab, Int.max_eq_right hab]
          · rw [Int.min_eq_right (by omega), Int.max_eq_left (show b ≤ a by omega)]
            omega
        split at h0
        · rename_i h4
          rw [if_pos h4]
          have e : A.getD (A.idxOf (min a b, max a b)) default = (min a b, max a b) := by
            rw [List.getD_eq_getElem?_getD, List.getElem?_eq_getElem h4, Option.getD_some, List.getElem_idxOf]
          have hat := levA_at hU (by omega) h4 (hB.aok _ h4)
          rw [e] at hat
          show nl (levA U A) (2 * (f + (A.idxOf (min a b, max a b) : Nat))) ≤ _
          unfold nl at hat hmm ⊢
          rw [show (2 * (f + (A.idxOf (min a b, max a b) : Nat)) / 2).toNat = f.toNat + A.idxOf (min a b, max a b) by omega, hat]
          dsimp only at hmm ⊢
          omega
        · rename_i h4
          rw [if_neg h4]
          split at h0
          · exact absurd h0 (by dsimp only; omega)
          · rename_i h5
            rw [if_neg h5]
            show nl (levA U (A ++ [(min a b, max a b)])) (2 * (f + (A.length : Int))) ≤ _
            rw [levA_snoc]
            unfold nl at hmm ⊢
            rw [show (2 * (f + (A.length : Int)) / 2).toNat = (levA U A).length by rw [levA_len]; omega, snoc_eq]
            dsimp only at hmm ⊢
            omega
theorem ha_lev {n : NetL} (h : NetOkP n) : ∀ i, i ≤ n.ands.length → ∀ k, k < fst_ n + i → nl (levA (List.replicate (fst_ n) 0) (haTo n i).1) ((haTo n i).2.getD k default) ≤ (levA (List.replicate (fst_ n) 0) n.ands).getD k default
  | 0, _, k, hk => by
    show (List.replicate (fst_ n) (0 : Int)).getD (((leafL n).getD k default) / 2).toNat default ≤ _
    rw [rep_get, levA_low (by simp; omega), rep_get]
    exact Int.le_refl _
  | i + 1, hi, k, hk => by
    have ih := ha_lev h i (by omega)
    have hB := haTo_ok h i (by omega)
    have hl := haTo_len n i
    have f1 := hB.f1
    have f2 := hB.alen
    have g2 := h.nums.f2
    have hs := h.size
    unfold sizeOk at hs
    obtain ⟨l1, l2⟩ := haTo_lits h (show i < n.ands.length by omega) hB
    obtain ⟨q1, q2⟩ := h.andP (show i < n.ands.length by omega)
    have q1' := q1
    have q2' := q2
    unfold litP at q1' q2'
    have e : haTo n (i + 1) = ((addC (firstAndL n) (haTo n i).1 (litV (haTo n i).2 (n.ands.getD i default).1) (litV (haTo n i).2 (n.ands.getD i default).2)).1, (haTo n i).2 ++ [(addC (firstAndL n) (haTo n i).1 (litV (haTo n i).2 (n.ands.getD i default).1) (litV (haTo n i).2 (n.ands.getD i default).2)).2]) := rfl
    obtain ⟨B2, hB2⟩ := addC_pre (f := firstAndL n) (A := (haTo n i).1) (a := litV (haTo n i).2 (n.ands.getD i default).1) (b := litV (haTo n i).2 (n.ands.getD i default).2)
    have hroom : 0 ≤ (addC (firstAndL n) (haTo n i).1 (litV (haTo n i).2 (n.ands.getD i default).1) (litV (haTo n i).2 (n.ands.getD i default).2)).2 := by
      rcases hB.addLit l1 l2 with h1 | ⟨_, h1⟩
      · exact h1.1
      · omega
    rw [e]
    dsimp only
    by_cases hk2 : k < (haTo n i).2.length
    · have ht := hB.tok k hk2
      unfold litP at ht
      rw [snoc_lt hk2, hB2, levA_litlow (U := List.replicate (fst_ n) 0) (A := (haTo n i).1) (B := B2) (l := (haTo n i).2.getD k default) (by rw [List.length_replicate]; omega)]
      exact ih k (by omega)
    · obtain rfl : k = (haTo n i).2.length := by omega
      have hadd := addC_lev (U := List.replicate (fst_ n) 0) (by simp; omega) (rep_nn _) rep_get hB l1 l2 hroom
      have c1 := nl_comp (V := levA (List.replicate (fst_ n) 0) (haTo n i).1) (to := (haTo n i).2) (l := (n.ands.getD i default).1) (k := firstAndL n + (haTo n i).1.length) (by omega) (hB.tok _ (by omega))
      have c2 := nl_comp (V := levA (List.replicate (fst_ n) 0) (haTo n i).1) (to := (haTo n i).2) (l := (n.ands.getD i default).2) (k := firstAndL n + (haTo n i).1.length) (by omega) (hB.tok _ (by omega))
      have i1 := ih ((n.ands.getD i default).1 / 2).toNat (by omega)
      have i2 := ih ((n.ands.getD i default).2 / 2).toNat (by omega)
      have hat := levA_at (U := List.replicate (fst_ n) 0) (A := n.ands) (f := firstAndL n) (by simp; omega) (by omega) (i := i) (by omega) ⟨q1, q2⟩
      rw [snoc_eq, hl.2, show fst_ n + i = (firstAndL n).toNat + i by omega, hat]
      unfold nl at *
      omega
theorem sw_lev {n : NetL} (h : NetOkP n) {K : List Bool} (hK : ∀ i, i < n.ands.length → K.getD (fst_ n + i) default = true → (kA n i < fst_ n ∨ K.getD (kA n i) default = true) ∧ (kB n i < fst_ n ∨ K.getD (kB n i) default = true)) :
    ∀ i, i ≤ n.ands.length → ∀ k, k < fst_ n + i → (k < fst_ n ∨ K.getD k default = true) → nl (levA (List.replicate (fst_ n) 0) (swTo n K i).1) ((swTo n K i).2.getD k default) = (levA (List.replicate (fst_ n) 0) n.ands).getD k default
  | 0, _, k, hk, _ => by
    show (List.replicate (fst_ n) (0 : Int)).getD (((leafL n).getD k default) / 2).toNat default = _
    rw [rep_get, levA_low (by simp; omega), rep_get]
  | i + 1, hi, k, hk, hkk => by
    have ih := sw_lev h hK i (by omega)
    have hB := swTo_ok h K i (by omega)
    have hl := swTo_len n K i
    have f1 := hB.f1
    have f2 := hB.alen
    have g2 := h.nums.f2
    by_cases hKi : K.getD (fst_ n + i) default = true
    · have e : swTo n K (i + 1) = ((swTo n K i).1 ++ [(litV (swTo n K i).2 (n.ands.getD i default).1, litV (swTo n K i).2 (n.ands.getD i default).2)], (swTo n K i).2 ++ [2 * (firstAndL n + (swTo n K i).1.length)]) := by rw [swTo, if_pos hKi]
      rw [e]
      by_cases hk2 : k < (swTo n K i).2.length
      · dsimp only
        have ht := hB.tok k hk2
        unfold litP at ht
        rw [snoc_lt hk2, levA_litlow (U := List.replicate (fst_ n) 0) (A := (swTo n K i).1) (l := (swTo n K i).2.getD k default) (by rw [List.length_replicate]; omega)]
        exact ih k (by omega) hkk
      · obtain rfl : k = (swTo n K i).2.length := by omega
        dsimp only
        obtain ⟨q1, q2⟩ := h.andP (show i < n.ands.length by omega)
        have q1' := q1
        have q2' := q2
        unfold litP at q1' q2'
        obtain ⟨k1, k2⟩ := hK i (by omega) hKi
        have c1 := nl_comp (V := levA (List.replicate (fst_ n) 0) (swTo n K i).1) (to := (swTo n K i).2) (l := (n.ands.getD i default).1) (k := firstAndL n + (swTo n K i).1.length) (by omega) (hB.tok _ (by omega))
        have c2 := nl_comp (V := levA (List.replicate (fst_ n) 0) (swTo n K i).1) (to := (swTo n K i).2) (l := (n.ands.getD i default).2) (k := firstAndL n + (swTo n K i).1.length) (by omega) (hB.tok _ (by omega))
        have i1 := ih ((n.ands.getD i default).1 / 2).toNat (by omega) k1
        have i2 := ih ((n.ands.getD i default).2 / 2).toNat (by omega) k2
        have hat := levA_at (U := List.replicate (fst_ n) 0) (A := n.ands) (f := firstAndL n) (by simp; omega) (by omega) (i := i) (by omega) ⟨q1, q2⟩
        rw [snoc_eq, hl.2, show fst_ n + i = (firstAndL n).toNat + i by omega, hat, levA_snoc]
        unfold nl at *
        rw [show (2 * (firstAndL n + ((swTo n K i).1.length : Int)) / 2).toNat = (levA (List.replicate (fst_ n) 0) (swTo n K i).1).length by rw [levA_len]; simp; omega, snoc_eq]
        dsimp only
        omega
    · have e : swTo n K (i + 1) = ((swTo n K i).1, (swTo n K i).2 ++ [0]) := by rw [swTo, if_neg hKi]
      rw [e]
      by_cases hk2 : k < (swTo n K i).2.length
      · dsimp only
        rw [snoc_lt hk2]
        exact ih k (by omega) hkk
      · obtain rfl : k = fst_ n + i := by omega
        exact absurd hkk (fun h => h.elim (by omega) hKi)

/-! ### depths -/
theorem depthTo_nn (n : NetL) : ∀ i, 0 ≤ depthTo n i
  | 0 => Int.le_refl _
  | i + 1 => by have := depthTo_nn n i; unfold depthTo; omega
theorem depthTo_ge {n : NetL} : ∀ {i j : Nat}, j < i → nl (levelsL n) ((rootsL n).getD j default) ≤ depthTo n i
  | i + 1, j, h => by
    unfold depthTo
    by_cases h2 : j < i
    · have := depthTo_ge (n := n) h2; omega
    · obtain rfl : j = i := by omega
      unfold nl
      omega
theorem depthTo_le {n : NetL} {d : Int} (hd : 0 ≤ d) : ∀ i, (∀ j, j < i → nl (levelsL n) ((rootsL n).getD j default) ≤ d) → depthTo n i ≤ d
  | 0, _ => hd
  | i + 1, h => by
    have h1 := depthTo_le hd i fun j hj => h j (by omega)
    have h2 := h i (by omega)
    unfold nl at h2
    unfold depthTo
    omega
theorem roots_fin (n : NetL) (A : List (Int × Int)) (to : List Int) : rootsL (finN n A to) = (rootsL n).map (litV to) := by
  rw [rootsL_eq, rootsL_eq]
  unfold finN mapL
  simp only [List.map_append, List.flatMap_map, List.map_flatMap]
theorem fin_depth {n : NetL} (h : NetOkP n) {A : List (Int × Int)} {to : List Int} (hm : NetOkP (finN n A to)) (hv : ∀ x, x ∈ rootsL n → nl (levA (List.replicate (fst_ n) 0) A) (litV to x) ≤ nl (levA (List.replicate (fst_ n) 0) n.ands) x) : depthL (finN n A to) ≤ depthL n := by
  unfold depthL
  rw [if_pos (netOkB_yes hm), if_pos (netOkB_yes h)]
  refine depthTo_le (depthTo_nn _ _) _ fun j hj => ?_
  rw [roots_fin, List.length_map] at hj
  have hge := depthTo_ge (n := n) hj
  rw [levelsL_eq h] at hge
  rw [roots_fin, map_getD hj, levelsL_eq hm]
  have hf : fst_ (finN n A to) = fst_ n := by unfold fst_; rw [firstAndL_fin]
  rw [hf]
  exact Int.le_trans (hv _ (getD_mem hj)) hge
theorem sweep_depth {n : NetL} (h : NetOkP n) : depthL (sweepL n) ≤ depthL n := by
  have hB := swTo_ok h (reachedL n) _ (Nat.le_refl _)
  have hl := swTo_len n (reachedL n) n.ands.length
  have hn := h.nums
  have hn1 := hn.n1
  have f1 := hB.f1
  have f2 := hB.alen
  refine fin_depth h (sweepL_ok h) fun x hx => ?_
  have hlt := (h.root x hx).nat hn
  rw [nl_comp (k := firstAndL n + (swTo n (reachedL n) n.ands.length).1.length) (by omega) (hB.tok _ (by omega))]
  exact Int.le_of_eq (sw_lev h (fun i hi hK => ⟨.inr (reach_kids h hi hK).1, .inr (reach_kids h hi hK).2⟩) n.ands.length (Nat.le_refl _) _ (by omega) (.inr (reach_root h hx)))
theorem hash_depth {n : NetL} (h : NetOkP n) : depthL (hashL n) ≤ depthL n := by
  refine Int.le_trans (sweep_depth (preL_ok h)) ?_
  have hB := haTo_ok h _ (Nat.le_refl _)
  have hl := haTo_len n n.ands.length
  have hn := h.nums
  have hn1 := hn.n1
  have f1 := hB.f1
  have f2 := hB.alen
  refine fin_depth h (preL_ok h) fun x hx => ?_
  have hlt := (h.root x hx).nat hn
  rw [nl_comp (k := firstAndL n + (haTo n n.ands.length).1.length) (by omega) (hB.tok _ (by omega))]
  exact ha_lev h n.ands.length (Nat.le_refl _) _ (by omega)
theorem hash_ands (n : NetL) : (hashL n).ands.length ≤ n.ands.length := by
  have h1 := (haTo_len n n.ands.length).1
  have h2 := (swTo_len (preL n) (reachedL (preL n)) (preL n).ands.length).1
  show (swTo (preL n) (reachedL (preL n)) (preL n).ands.length).1.length ≤ _
  have h3 : (preL n).ands.length = (haTo n n.ands.length).1.length := rfl
  omega
end Go.Xw
