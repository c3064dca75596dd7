/- Hashed nets: normal, every AND node reached, and not changed by hashing again; plain data, no condition. -/
import Derived.Test.YtbjgekllkfnjnaaSimHash
import Derived.Test.YtbjgekllkfnjnaaHashed
set_option linter.all false
namespace Go.Xw
open Go.Proofs
set_option maxHeartbeats 1000000

/-! ### normal lists of AND nodes -/
structure NormAt (A : List (Int × Int)) (i : Nat) : Prop where
  lt : (A.getD i default).1 < (A.getD i default).2
  one : 1 < (A.getD i default).1
  ne : ¬ ((A.getD i default).1 % 2 = 0 ∧ (A.getD i default).2 = (A.getD i default).1 + 1)
  un : ∀ k, k < i → A.getD k default ≠ A.getD i default
def NormL (A : List (Int × Int)) : Prop := ∀ i, i < A.length → NormAt A i
theorem NormL.snoc {A : List (Int × Int)} (h : NormL A) {x : Int × Int} (h1 : x.1 < x.2) (h2 : 1 < x.1) (h3 : ¬ (x.1 % 2 = 0 ∧ x.2 = x.1 + 1)) (h4 : x ∉ A) : NormL (A ++ [x]) := by
  intro i hi
  simp at hi
  by_cases hi2 : i < A.length
  · obtain ⟨a1, a2, a3, a4⟩ := h i hi2
    refine ⟨?_, ?_, ?_, fun k hk => ?_⟩
    · rw [snoc_lt hi2]; exact a1
    · rw [snoc_lt hi2]; exact a2
    · rw [snoc_lt hi2]; exact a3
    · rw [snoc_lt hi2, snoc_lt (by omega)]; exact a4 k hk
  · obtain rfl : i = A.length := by omega
    refine ⟨?_, ?_, ?_, fun k hk => ?_⟩
    · rw [snoc_eq]; exact h1
    · rw [snoc_eq]; exact h2
    · rw [snoc_eq]; exact h3
    · rw [snoc_eq, snoc_lt hk]
      intro he
      exact h4 (he ▸ getD_mem hk)
theorem addC_norm {f : Int} {A : List (Int × Int)} (h : NormL A) {a b : Int} (ha : 0 ≤ a ∧ a ≤ 1000000) (hb : 0 ≤ b ∧ b ≤ 1000000) : NormL (addC f A a b).1 := by
  have na := notL_eq ha.1 (show a ≤ 9223372036854775807 by omega)
  unfold addC
  repeat' split
  all_goals first | exact h | skip
  rename_i h1 h2 h3 h4 h5
  refine h.snoc ?_ ?_ ?_ ?_
  · show min a b < max a b; omega
  · show 1 < min a b; omega
  · show ¬ (min a b % 2 = 0 ∧ max a b = min a b + 1)
    split at na <;> omega
  · intro hm
    exact h4 (List.idxOf_lt_length_of_mem hm)
theorem ha_norm {n : NetL} (h : NetOkP n) : ∀ i, i ≤ n.ands.length → NormL (haTo n i).1
  | 0, _ => fun i hi => by simp [haTo] at hi
  | i + 1, hi => by
    have hB := haTo_ok h i (by omega)
    obtain ⟨l1, l2⟩ := haTo_lits h (show i < n.ands.length by omega) hB
    have f1 := hB.f1
    have f2 := hB.alen
    unfold litP at l1 l2
    exact addC_norm (ha_norm h i (by omega)) (by omega) (by omega)

/-! ### sweeping renumbers -/
def Kept (n : NetL) (K : List Bool) (k : Nat) : Prop := k < fst_ n ∨ K.getD k default = true
structure SwS (n : NetL) (K : List Bool) (i : Nat) (A : List (Int × Int)) (T : List Int) : Prop where
  leaf : ∀ k, k < fst_ n → T.getD k default = 2 * (k : Int)
  to : ∀ j, j < i → K.getD (fst_ n + j) default = true → ∃ r, r < A.length ∧ T.getD (fst_ n + j) default = 2 * (firstAndL n + (r : Int)) ∧ A.getD r default = (litV T (n.ands.getD j default).1, litV T (n.ands.getD j default).2)
  fro : ∀ r, r < A.length → ∃ j, j < i ∧ K.getD (fst_ n + j) default = true ∧ T.getD (fst_ n + j) default = 2 * (firstAndL n + (r : Int))
  mono : ∀ j k, j < k → k < fst_ n + i → Kept n K j → Kept n K k → T.getD j default < T.getD k default
theorem sw_S {n : NetL} (h : NetOkP n) (K : List Bool) : ∀ i, i ≤ n.ands.length → SwS n K i (swTo n K i).1 (swTo n K i).2
  | 0, _ => ⟨fun k hk => leafL_get hk, fun j hj => by omega, fun r hr => by simp [swTo] at hr, fun j k hj hk _ _ => by
      show (leafL n).getD j default < (leafL n).getD k default
      rw [leafL_get (by omega), leafL_get (by omega)]; omega⟩
  | i + 1, hi => by
    obtain ⟨s1, s2, s3, s4⟩ := sw_S h K i (by omega)
    have hB := swTo_ok h K i (by omega)
    have hl := swTo_len n K i
    have f1 := hB.f1
    have f2 := hB.alen
    have g2 := h.nums.f2
    by_cases hKi : K.getD (fst_ n + i) default = true
    · have e : swTo n K (i + 1) = ((swTo n K i).1 ++ [(litV (swTo n K i).2 (n.ands.getD i default).1, litV (swTo n K i).2 (n.ands.getD i default).2)], (swTo n K i).2 ++ [2 * (firstAndL n + (swTo n K i).1.length)]) := by rw [swTo, if_pos hKi]
      have hlit : ∀ j, j ≤ i → litV ((swTo n K i).2 ++ [2 * (firstAndL n + ((swTo n K i).1.length : Int))]) (n.ands.getD j default).1 = litV (swTo n K i).2 (n.ands.getD j default).1 ∧ litV ((swTo n K i).2 ++ [2 * (firstAndL n + ((swTo n K i).1.length : Int))]) (n.ands.getD j default).2 = litV (swTo n K i).2 (n.ands.getD j default).2 := fun j hj => by
        obtain ⟨q1, q2⟩ := h.andP (show j < n.ands.length by omega)
        unfold litP at q1 q2
        exact ⟨litV_app (by omega), litV_app (by omega)⟩
      rw [e]
      dsimp only
      refine ⟨fun k hk => ?_, fun j hj hj2 => ?_, fun r hr => ?_, fun j k hj hk hj2 hk2 => ?_⟩
      · rw [snoc_lt (by omega)]; exact s1 k hk
      · rw [(hlit j (by omega)).1, (hlit j (by omega)).2]
        by_cases hj3 : j < i
        · obtain ⟨r, r1, r2, r3⟩ := s2 j hj3 hj2
          exact ⟨r, by simp; omega, by rw [snoc_lt (by omega)]; exact r2, by rw [snoc_lt r1]; exact r3⟩
        · obtain rfl : j = i := by omega
          exact ⟨(swTo n K j).1.length, by simp, by rw [show fst_ n + j = (swTo n K j).2.length by omega, snoc_eq], by rw [snoc_eq]⟩
      · simp at hr
        by_cases hr2 : r < (swTo n K i).1.length
        · obtain ⟨j, j1, j2, j3⟩ := s3 r hr2
          exact ⟨j, by omega, j2, by rw [snoc_lt (by omega)]; exact j3⟩
        · obtain rfl : r = (swTo n K i).1.length := by omega
          exact ⟨i, by omega, hKi, by rw [show fst_ n + i = (swTo n K i).2.length by omega, snoc_eq]⟩
      · by_cases hk3 : k < fst_ n + i
        · rw [snoc_lt (by omega), snoc_lt (by omega)]; exact s4 j k hj hk3 hj2 hk2
        · obtain rfl : k = (swTo n K i).2.length := by omega
          have ht := hB.tok j (by omega)
          unfold litP at ht
          rw [snoc_eq, snoc_lt (by omega)]
          rcases hj2 with hj2 | hj2
          · rw [s1 j hj2] at ht ⊢; omega
          · by_cases hj3 : j < fst_ n
            · rw [s1 j hj3] at ht ⊢; omega
            · obtain ⟨r, r1, r2, r3⟩ := s2 (j - fst_ n) (by omega) (by rw [show fst_ n + (j - fst_ n) = j by omega]; exact hj2)
              rw [show fst_ n + (j - fst_ n) = j by omega] at r2
              rw [r2]; omega
    · have e : swTo n K (i + 1) = ((swTo n K i).1, (swTo n K i).2 ++ [0]) := by rw [swTo, if_neg hKi]
      have hlit : ∀ j, j < i → litV ((swTo n K i).2 ++ [0]) (n.ands.getD j default).1 = litV (swTo n K i).2 (n.ands.getD j default).1 ∧ litV ((swTo n K i).2 ++ [0]) (n.ands.getD j default).2 = litV (swTo n K i).2 (n.ands.getD j default).2 := fun j hj => by
        obtain ⟨q1, q2⟩ := h.andP (show j < n.ands.length by omega)
        unfold litP at q1 q2
        exact ⟨litV_app (by omega), litV_app (by omega)⟩
      rw [e]
      dsimp only
      have hne : ∀ j, j < i + 1 → K.getD (fst_ n + j) default = true → j < i := fun j hj hj2 => by
        by_cases hj3 : j < i
        · exact hj3
        · obtain rfl : j = i := by omega
          exact absurd hj2 hKi
      refine ⟨fun k hk => ?_, fun j hj hj2 => ?_, fun r hr => ?_, fun j k hj hk hj2 hk2 => ?_⟩
      · rw [snoc_lt (by omega)]; exact s1 k hk
      · have hj3 := hne j hj hj2
        rw [(hlit j hj3).1, (hlit j hj3).2]
        obtain ⟨r, r1, r2, r3⟩ := s2 j hj3 hj2
        exact ⟨r, r1, by rw [snoc_lt (by omega)]; exact r2, r3⟩
      · obtain ⟨j, j1, j2, j3⟩ := s3 r hr
        exact ⟨j, by omega, j2, by rw [snoc_lt (by omega)]; exact j3⟩
      · have hk3 : k < fst_ n + i := by
          rcases hk2 with hk2 | hk2
          · omega
          · by_cases hk4 : k < fst_ n
            · omega
            · have := hne (k - fst_ n) (by omega) (by rw [show fst_ n + (k - fst_ n) = k by omega]; exact hk2)
              omega
        rw [snoc_lt (by omega), snoc_lt (by omega)]; exact s4 j k hj hk3 hj2 hk2

theorem Kept.even {n : NetL} {K : List Bool} {i : Nat} {A : List (Int × Int)} {T : List Int} (s : SwS n K i A T) {k : Nat} (hk : k < fst_ n + i) (hK : Kept n K k) : T.getD k default % 2 = 0 := by
  by_cases h : k < fst_ n
  · rw [s.leaf k h]; omega
  · rcases hK with hK | hK
    · omega
    · obtain ⟨r, _, r2, _⟩ := s.to (k - fst_ n) (by omega) (by rw [show fst_ n + (k - fst_ n) = k by omega]; exact hK)
      rw [show fst_ n + (k - fst_ n) = k by omega] at r2
      rw [r2]; omega
theorem even_lit {T : List Int} {l : Int} (h : T.getD (l / 2).toNat default % 2 = 0) (h0 : 0 ≤ T.getD (l / 2).toNat default) (h1 : T.getD (l / 2).toNat default ≤ 1000000) : litV T l = T.getD (l / 2).toNat default + l % 2 := by
  rw [litV_eq T h0 (by omega)]
  have e := notL_eq h0 (show T.getD (l / 2).toNat default ≤ 9223372036854775807 by omega)
  rw [if_pos h] at e
  split <;> omega

/-- everything about a net that was swept with a closed set of nodes -/
structure SwP (n : NetL) (K : List Bool) (T : List Int) : Prop where
  lit : ∀ l, 0 ≤ l → l / 2 < nodesL n → Kept n K (l / 2).toNat → litV T l = T.getD (l / 2).toNat default + l % 2 ∧ T.getD (l / 2).toNat default % 2 = 0
  lt : ∀ l m, 0 ≤ l → l < m → m / 2 < nodesL n → Kept n K (l / 2).toNat → Kept n K (m / 2).toNat → litV T l < litV T m
  one : ∀ l, 1 < l → l / 2 < nodesL n → Kept n K (l / 2).toNat → 1 < litV T l
theorem sw_P {n : NetL} (h : NetOkP n) (K : List Bool) : SwP n K (swTo n K n.ands.length).2 := by
  have s := sw_S h K _ (Nat.le_refl _)
  have hB := swTo_ok h K n.ands.length (Nat.le_refl _)
  have hl := swTo_len n K n.ands.length
  have f1 := hB.f1
  have f2 := hB.alen
  have hn := h.nums
  have n1 := hn.n1
  have n2 := hn.n2
  have n3 := hn.f1
  have hlit : ∀ l, 0 ≤ l → l / 2 < nodesL n → Kept n K (l / 2).toNat → litV (swTo n K n.ands.length).2 l = (swTo n K n.ands.length).2.getD (l / 2).toNat default + l % 2 ∧ (swTo n K n.ands.length).2.getD (l / 2).toNat default % 2 = 0 := fun l h0 h1 hK => by
    have hev := Kept.even s (k := (l / 2).toNat) (by omega) hK
    have ht := hB.tok (l / 2).toNat (by omega)
    unfold litP at ht
    exact ⟨even_lit hev ht.1 (by omega), hev⟩
  refine ⟨hlit, fun l m h0 h1 h2 k1 k2 => ?_, fun l h1 h2 k1 => ?_⟩
  · obtain ⟨a1, a2⟩ := hlit l h0 (by omega) k1
    obtain ⟨b1, b2⟩ := hlit m (by omega) h2 k2
    rw [a1, b1]
    by_cases he : (l / 2).toNat = (m / 2).toNat
    · rw [he]; omega
    · have := s.mono (l / 2).toNat (m / 2).toNat (by omega) (by omega) k1 k2
      omega
  · obtain ⟨a1, a2⟩ := hlit l (by omega) h2 k1
    have := s.mono 0 (l / 2).toNat (by omega) (by omega) (.inl (by omega)) k1
    rw [s.leaf 0 (by omega)] at this
    rw [a1]; omega

theorem kept_kids {n : NetL} (h : NetOkP n) {i : Nat} (hi : i < n.ands.length) (hK : (reachedL n).getD (fst_ n + i) default = true) : Kept n (reachedL n) (kA n i) ∧ Kept n (reachedL n) (kB n i) :=
  ⟨.inr (reach_kids h hi hK).1, .inr (reach_kids h hi hK).2⟩
theorem sweep_norm {n : NetL} (h : NetOkP n) (hN : NormL n.ands) : NormL (sweepL n).ands := by
  have s := sw_S h (reachedL n) _ (Nat.le_refl _)
  have p := sw_P h (reachedL n)
  have hn := h.nums
  have n2 := hn.n2
  have n1 := hn.n1
  have g2 := hn.f2
  show NormL (swTo n (reachedL n) n.ands.length).1
  generalize (swTo n (reachedL n) n.ands.length).1 = A at *
  generalize (swTo n (reachedL n) n.ands.length).2 = T at *
  have hat : ∀ r, r < A.length → ∃ j, j < n.ands.length ∧ (reachedL n).getD (fst_ n + j) default = true ∧ T.getD (fst_ n + j) default = 2 * (firstAndL n + (r : Int)) ∧ A.getD r default = (litV T (n.ands.getD j default).1, litV T (n.ands.getD j default).2) := fun r hr => by
    obtain ⟨j, j1, j2, j3⟩ := s.fro r hr
    obtain ⟨r', r1, r2, r3⟩ := s.to j j1 j2
    obtain rfl : r' = r := by omega
    exact ⟨j, j1, j2, j3, r3⟩
  have hinj : ∀ l m, 0 ≤ l → 0 ≤ m → l / 2 < nodesL n → m / 2 < nodesL n → Kept n (reachedL n) (l / 2).toNat → Kept n (reachedL n) (m / 2).toNat → litV T l = litV T m → l = m := fun l m h1 h2 h3 h4 k1 k2 he => by
    rcases Int.lt_trichotomy l m with hlt | hlt | hlt
    · have := p.lt l m h1 hlt h4 k1 k2; omega
    · exact hlt
    · have := p.lt m l h2 hlt h3 k2 k1; omega
  intro r hr
  obtain ⟨j, j1, j2, j3, j4⟩ := hat r hr
  obtain ⟨a1, a2, a3, a4⟩ := hN j j1
  obtain ⟨k1, k2⟩ := kept_kids h j1 j2
  obtain ⟨q1, q2⟩ := h.andP j1
  unfold litP at q1 q2
  unfold kA at k1
  unfold kB at k2
  have m1 := p.lit _ (by omega) (by omega) k1
  have m2 := p.lit _ (by omega) (by omega) k2
  have m3 := p.lt _ _ (by omega) a1 (by omega) k1 k2
  have m4 := p.one _ a2 (by omega) k1
  refine ⟨by rw [j4]; exact m3, by rw [j4]; exact m4, ?_, fun r2 hr2 => ?_⟩
  · rw [j4]
    dsimp only
    rintro ⟨e1, e2⟩
    have m5 := p.lit ((n.ands.getD j default).1 + 1) (by omega) (by omega) (by rw [show ((n.ands.getD j default).1 + 1) / 2 = (n.ands.getD j default).1 / 2 by omega]; exact k1)
    rw [show ((n.ands.getD j default).1 + 1) / 2 = (n.ands.getD j default).1 / 2 by omega] at m5
    have m6 := hinj (n.ands.getD j default).2 ((n.ands.getD j default).1 + 1) (by omega) (by omega) (by omega) (by omega) k2 (by rw [show ((n.ands.getD j default).1 + 1) / 2 = (n.ands.getD j default).1 / 2 by omega]; exact k1) (by omega)
    omega
  · obtain ⟨i, i1, i2, i3, i4⟩ := hat r2 (by omega)
    obtain ⟨c1, c2⟩ := kept_kids h i1 i2
    obtain ⟨p1, p2⟩ := h.andP i1
    unfold litP at p1 p2
    unfold kA at c1
    unfold kB at c2
    rw [j4, i4]
    intro he
    rw [Prod.mk.injEq] at he
    have e1 := hinj _ _ (by omega) (by omega) (by omega) (by omega) c1 k1 he.1
    have e2 := hinj _ _ (by omega) (by omega) (by omega) (by omega) c2 k2 he.2
    have e3 : n.ands.getD i default = n.ands.getD j default := Prod.ext e1 e2
    have hij : i ≠ j := fun hij => by subst hij; omega
    rcases Nat.lt_or_gt_of_ne hij with hlt | hlt
    · exact a4 i hlt e3
    · exact (hN i i1).un j hlt e3.symm

/-! ### all that is left is reached -/
theorem fst_sweep (n : NetL) : fst_ (sweepL n) = fst_ n := by unfold fst_ sweepL; rw [firstAndL_fin]
theorem sweep_cone {n : NetL} (h : NetOkP n) {a b : Nat} (hc : InCone n a b) : a < nds n → (reachedL n).getD a default = true → InCone (sweepL n) (((swTo n (reachedL n) n.ands.length).2.getD a default) / 2).toNat (((swTo n (reachedL n) n.ands.length).2.getD b default) / 2).toNat := by
  have s := sw_S h (reachedL n) _ (Nat.le_refl _)
  have p := sw_P h (reachedL n)
  have hn := h.nums
  have n2 := hn.n2
  have n1 := hn.n1
  have g2 := hn.f2
  have hfs := fst_sweep n
  have hA : (sweepL n).ands = (swTo n (reachedL n) n.ands.length).1 := rfl
  induction hc with
  | refl k => exact fun _ _ => .refl _
  | @left i k hi _ ih =>
    intro ha hr
    obtain ⟨k1, k2⟩ := reach_kids h hi hr
    obtain ⟨q1, q2⟩ := h.andP hi
    unfold litP at q1 q2
    have ih2 := ih (by have := hn.ka i hi; omega) k1
    obtain ⟨r, r1, r2, r3⟩ := s.to i hi hr
    have m1 := p.lit (n.ands.getD i default).1 (by omega) (by omega) (.inr k1)
    have e : kA (sweepL n) r = (((swTo n (reachedL n) n.ands.length).2.getD (kA n i) default) / 2).toNat := by
      unfold kA
      rw [hA, r3, m1.1]
      dsimp only
      omega
    rw [r2, show ((2 * (firstAndL n + (r : Int))) / 2).toNat = fst_ (sweepL n) + r by omega]
    exact .left (by rw [hA]; exact r1) (by rw [e]; exact ih2)
  | @right i k hi _ ih =>
    intro ha hr
    obtain ⟨k1, k2⟩ := reach_kids h hi hr
    obtain ⟨q1, q2⟩ := h.andP hi
    unfold litP at q1 q2
    have ih2 := ih (by have := hn.kb i hi; omega) k2
    obtain ⟨r, r1, r2, r3⟩ := s.to i hi hr
    have m1 := p.lit (n.ands.getD i default).2 (by omega) (by omega) (.inr k2)
    have e : kB (sweepL n) r = (((swTo n (reachedL n) n.ands.length).2.getD (kB n i) default) / 2).toNat := by
      unfold kB
      rw [hA, r3, m1.1]
      dsimp only
      omega
    rw [r2, show ((2 * (firstAndL n + (r : Int))) / 2).toNat = fst_ (sweepL n) + r by omega]
    exact .right (by rw [hA]; exact r1) (by rw [e]; exact ih2)
theorem sweep_reached {n : NetL} (h : NetOkP n) {r : Nat} (hr : r < (sweepL n).ands.length) : isReached (sweepL n) (fst_ (sweepL n) + r) := by
  have s := sw_S h (reachedL n) _ (Nat.le_refl _)
  have p := sw_P h (reachedL n)
  have hn := h.nums
  have n2 := hn.n2
  have n1 := hn.n1
  have g2 := hn.f2
  have hfs := fst_sweep n
  have hA : (sweepL n).ands = (swTo n (reachedL n) n.ands.length).1 := rfl
  rw [hA] at hr
  obtain ⟨j, j1, j2, j3⟩ := s.fro r hr
  obtain ⟨q, q1, q2⟩ := (listB_get (m := nds n) (by omega)).1 j2
  have hroot := reach_root h (getD_mem q1)
  have hlt := (h.root _ (getD_mem q1)).nat hn
  have h0 := h.root _ (getD_mem q1)
  unfold litP at h0
  have hc := sweep_cone h q2 hlt hroot
  have m1 := p.lit ((rootsL n).getD q default) (by omega) (by omega) (.inr hroot)
  refine ⟨q, ?_, ?_⟩
  · show q < (rootsL (finN n _ _)).length
    rw [roots_fin, List.length_map]; exact q1
  · show InCone _ (((rootsL (finN n (swTo n (reachedL n) n.ands.length).1 (swTo n (reachedL n) n.ands.length).2)).getD q default) / 2).toNat _
    rw [roots_fin, map_getD q1, m1.1, show (((swTo n (reachedL n) n.ands.length).2.getD ((rootsL n).getD q default / 2).toNat default + (rootsL n).getD q default % 2) / 2).toNat = (((swTo n (reachedL n) n.ands.length).2.getD ((rootsL n).getD q default / 2).toNat default) / 2).toNat by omega]
    rw [j3, show ((2 * (firstAndL n + (r : Int))) / 2).toNat = fst_ (sweepL n) + r by omega] at hc
    exact hc
theorem hash_P {n : NetL} (h : NetOkP n) : hashP (hashL n) := by
  refine ⟨hashL_ok h, fun i hi => ?_⟩
  obtain ⟨a1, a2, a3, a4⟩ := sweep_norm (preL_ok h) (ha_norm h _ (Nat.le_refl _)) i hi
  exact ⟨sweep_reached (preL_ok h) hi, a1, a2, a3, a4⟩

/-! ### hashing a hashed net -/
def idL (m : Nat) : List Int := (List.range m).map fun k => 2 * ((k : Nat) : Int)
theorem idL_get {m k : Nat} (h : k < m) : (idL m).getD k default = 2 * (k : Int) := range_get (f := fun k => 2 * ((k : Nat) : Int)) h
theorem idL_snoc (m : Nat) : idL m ++ [2 * (m : Int)] = idL (m + 1) := by simp [idL, List.range_succ]
theorem idL_lit {m : Nat} {l : Int} (h0 : 0 ≤ l) (h1 : l / 2 < m) (h2 : l ≤ 1000000) : litV (idL m) l = l := by
  have e := idL_get (m := m) (k := (l / 2).toNat) (by omega)
  rw [even_lit (by rw [e]; omega) (by rw [e]; omega) (by rw [e]; omega), e]
  omega
theorem fin_id {n : NetL} (h : NetOkP n) {m : Nat} (hm : m = nds n) : finN n n.ands (idL m) = n := by
  have hn := h.nums
  have n2 := hn.n2
  have hs := h.count
  have hsz := h.size
  unfold sizeOk at hsz
  have hnd : nodesL n = 1 + n.inputs + n.seqs.length + n.ands.length := rfl
  have hl : ∀ l, litP l (nodesL n) → litV (idL m) l = l := fun l hl => by
    unfold litP at hl
    exact idL_lit hl.1 (by omega) (by omega)
  have e1 : mapL (idL m) n.outs = n.outs := by
    unfold mapL
    exact (List.map_congr_left fun l hl2 => hl l (h.out l hl2)).trans (List.map_id _)
  have e2 : (n.seqs.map fun s => (⟨s.kind, s.init, mapL (idL m) s.ins⟩ : SeqL)) = n.seqs := by
    refine (List.map_congr_left fun s hs2 => ?_).trans (List.map_id _)
    have e3 : mapL (idL m) s.ins = s.ins := by
      unfold mapL
      exact (List.map_congr_left fun l hl2 => hl l (h.inp hs2 l hl2)).trans (List.map_id _)
    rw [e3]; rfl
  unfold finN
  rw [e1, e2]
theorem ha_id {h : NetL} (hp : hashP h) : ∀ i, i ≤ h.ands.length → haTo h i = (h.ands.take i, idL (fst_ h + i))
  | 0, _ => rfl
  | i + 1, hi => by
    have ok := hp.1
    have hn := ok.nums
    have g2 := hn.f2
    have hsz := ok.size
    unfold sizeOk at hsz
    have hc := ok.count
    have hfa : firstAndL h = 1 + h.inputs + h.seqs.length := rfl
    obtain ⟨a0, a1, a2, a3, a4⟩ := hp.2 i (by omega)
    obtain ⟨q1, q2⟩ := ok.andP (show i < h.ands.length by omega)
    unfold litP at q1 q2
    rw [haTo, ha_id hp i (by omega)]
    dsimp only
    rw [idL_lit (l := (h.ands.getD i default).1) (by omega) (by omega) (by omega), idL_lit (l := (h.ands.getD i default).2) (by omega) (by omega) (by omega)]
    have na := notL_eq q1.1 (show (h.ands.getD i default).1 ≤ 9223372036854775807 by omega)
    have htl : (h.ands.take i).length = i := by simp; omega
    have hno : (min (h.ands.getD i default).1 (h.ands.getD i default).2, max (h.ands.getD i default).1 (h.ands.getD i default).2) = h.ands.getD i default := by
      rw [Int.min_eq_left (by omega), Int.max_eq_right (by omega)]
    have hnm : ¬ (h.ands.take i).idxOf (h.ands.getD i default) < (h.ands.take i).length := fun hlt => by
      have e := List.getElem_idxOf hlt
      have hk := htl
      refine a4 ((h.ands.take i).idxOf (h.ands.getD i default)) (by omega) ?_
      rw [List.getElem_take] at e
      rw [List.getD_eq_getElem?_getD, List.getElem?_eq_getElem (by omega), Option.getD_some]
      exact e
    have e : addC (firstAndL h) (h.ands.take i) (h.ands.getD i default).1 (h.ands.getD i default).2 = (h.ands.take i ++ [h.ands.getD i default], 2 * (firstAndL h + ((h.ands.take i).length : Int))) := by
      unfold addC
      rw [if_neg (by split at na <;> omega), if_neg (by omega), if_neg (by omega), hno, if_neg hnm, if_neg (by omega)]
    rw [e, ← take_snoc (show i < h.ands.length by omega)]
    dsimp only
    rw [htl, ← g2, show (2 * (((fst_ h : Nat) : Int) + (i : Int))) = 2 * ((fst_ h + i : Nat) : Int) by omega, idL_snoc]
    rfl
theorem sw_id {h : NetL} (ok : NetOkP h) (hr : ∀ i, i < h.ands.length → isReached h (fst_ h + i)) : ∀ i, i ≤ h.ands.length → swTo h (reachedL h) i = (h.ands.take i, idL (fst_ h + i))
  | 0, _ => rfl
  | i + 1, hi => by
    have hn := ok.nums
    have g2 := hn.f2
    have n1 := hn.n1
    have hsz := ok.size
    unfold sizeOk at hsz
    have hfa : firstAndL h = 1 + h.inputs + h.seqs.length := rfl
    obtain ⟨q1, q2⟩ := ok.andP (show i < h.ands.length by omega)
    unfold litP at q1 q2
    have hK : (reachedL h).getD (fst_ h + i) default = true := (listB_get (by omega)).2 (hr i (by omega))
    have htl : (h.ands.take i).length = i := by simp; omega
    rw [swTo, if_pos hK, sw_id ok hr i (by omega)]
    dsimp only
    rw [idL_lit (l := (h.ands.getD i default).1) (by omega) (by omega) (by omega), idL_lit (l := (h.ands.getD i default).2) (by omega) (by omega) (by omega)]
    rw [htl, ← g2, show (2 * (((fst_ h : Nat) : Int) + (i : Int))) = 2 * ((fst_ h + i : Nat) : Int) by omega, idL_snoc, show ((h.ands.getD i default).1, (h.ands.getD i default).2) = h.ands.getD i default from rfl, ← take_snoc (show i < h.ands.length by omega)]
    rfl
theorem sweep_id {h : NetL} (hp : hashP h) : sweepL h = h := by
  unfold sweepL
  rw [sw_id hp.1 (fun i hi => (hp.2 i hi).r) _ (Nat.le_refl _), List.take_length]
  exact fin_id hp.1 (by have := hp.1.nums.n1; omega)
theorem hash_id {h : NetL} (hp : hashP h) : hashL h = h := by
  have e : preL h = h := by
    unfold preL
    rw [ha_id hp _ (Nat.le_refl _), List.take_length]
    exact fin_id hp.1 (by have := hp.1.nums.n1; omega)
  unfold hashL
  rw [e, sweep_id hp]
end Go.Xw
