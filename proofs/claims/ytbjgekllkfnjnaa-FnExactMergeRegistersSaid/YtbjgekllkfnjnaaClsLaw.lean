/- Classes of sequential elements and their refinement, as plain data; no condition. -/
import Derived.Test.YtbjgekllkfnjnaaState
import Derived.Test.YtbjgekllkfnjnaaSimLaw
set_option linter.all false
namespace Go.Xw
open Go.Proofs
set_option maxHeartbeats 1000000

/-! ### the first that fits -/
noncomputable def fstJ (p : Nat → Prop) (i : Nat) : Nat := ((List.range i).find? fun j => pB (p j)).getD i
theorem fstJ_no {p : Nat → Prop} {i : Nat} (h : ∀ j, j < i → ¬ p j) : fstJ p i = i := by
  unfold fstJ
  rw [List.find?_eq_none.2 (fun j hj => by rw [pB_iff]; exact h j (List.mem_range.1 hj))]
  rfl
theorem fstJ_at {p : Nat → Prop} {i j : Nat} (hj : j < i) (hp : p j) (h : ∀ k, k < j → ¬ p k) : fstJ p i = j := by
  unfold fstJ
  have e : List.range i = List.range j ++ ([j] ++ (List.range (i - (j + 1))).map fun k => j + 1 + k) := by
    rw [← List.append_assoc, show List.range j ++ [j] = List.range (j + 1) by rw [List.range_succ], ← List.range_add, show j + 1 + (i - (j + 1)) = i by omega]
  rw [e, List.find?_append, List.find?_eq_none.2 (fun k hk => by rw [pB_iff]; exact h k (List.mem_range.1 hk)), Option.none_or, List.find?_append]
  simp [pB_iff.2 hp]
theorem fstJ_or (p : Nat → Prop) (i : Nat) : (fstJ p i = i ∧ ∀ j, j < i → ¬ p j) ∨ (fstJ p i < i ∧ p (fstJ p i) ∧ ∀ k, k < fstJ p i → ¬ p k) := by
  by_cases h : ∃ j, j < i ∧ p j
  · have hw : ∃ j, (j < i ∧ p j) ∧ ∀ k, k < j → ¬ (k < i ∧ p k) := by
      obtain ⟨j, hj⟩ := h
      induction j using Nat.strongRecOn with
      | ind j ih =>
        by_cases h2 : ∃ k, k < j ∧ (k < i ∧ p k)
        · obtain ⟨k, hk, hk2⟩ := h2
          exact ih k hk hk2
        · exact ⟨j, hj, fun k hk hk2 => h2 ⟨k, hk, hk2⟩⟩
    obtain ⟨j, ⟨hj, hp⟩, hmin⟩ := hw
    have hm : ∀ k, k < j → ¬ p k := fun k hk hpk => hmin k hk ⟨by omega, hpk⟩
    right
    rw [fstJ_at hj hp hm]
    exact ⟨hj, hp, hm⟩
  · left
    have hm : ∀ j, j < i → ¬ p j := fun j hj hp => h ⟨j, hj, hp⟩
    exact ⟨fstJ_no hm, hm⟩
theorem fstJ_congr {p q : Nat → Prop} {i : Nat} (h : ∀ j, j < i → (p j ↔ q j)) : fstJ p i = fstJ q i := by
  rcases fstJ_or p i with ⟨h1, h2⟩ | ⟨h1, h2, h3⟩
  · rw [h1, fstJ_no fun j hj hq => h2 j hj ((h j hj).2 hq)]
  · exact (fstJ_at h1 ((h _ h1).1 h2) fun k hk hq => h3 k hk ((h k (by omega)).2 hq)).symm

/-! ### how many classes there are, and the states of a partition -/
def clNTo (cl : List Int) : Nat → Nat
  | 0 => 0
  | i + 1 => if cl.getD i default = (i : Int) then clNTo cl i + 1 else clNTo cl i
def clNL (cl : List Int) : Nat := clNTo cl cl.length
theorem clNTo_le (cl : List Int) : ∀ i, clNTo cl i ≤ i
  | 0 => Nat.le_refl _
  | i + 1 => by have := clNTo_le cl i; unfold clNTo; split <;> omega
theorem clNTo_mono (cl : List Int) {i j : Nat} (h : i ≤ j) : clNTo cl i ≤ clNTo cl j := by
  induction j with
  | zero => obtain rfl : i = 0 := by omega
            exact Nat.le_refl _
  | succ j ih =>
    by_cases h2 : i = j + 1
    · rw [h2]; exact Nat.le_refl _
    · have := ih (by omega)
      rw [clNTo]
      split <;> omega
theorem clNL_le (cl : List Int) : clNL cl ≤ cl.length := clNTo_le _ _
def stCT (m : Int) (cl : List Int) (x : Int) : Nat → List Int
  | 0 => []
  | i + 1 => stCT m cl x i ++ [if cl.getD i default = (i : Int) then bits .and .i64 (x / 2 ^ (m + (clNTo cl i : Nat)).toNat) 1 else (stCT m cl x i).getD (cl.getD i default).toNat default]
def stC (n : NetL) (cl : List Int) (x : Int) : List Int := stCT n.inputs cl x cl.length
theorem stCT_len (m : Int) (cl : List Int) (x : Int) : ∀ i, (stCT m cl x i).length = i
  | 0 => rfl
  | i + 1 => by rw [stCT, List.length_append, stCT_len]; rfl
theorem stC_len (n : NetL) (cl : List Int) (x : Int) : (stC n cl x).length = cl.length := stCT_len _ _ _ _
theorem stCT_01 (m : Int) (cl : List Int) (x : Int) : ∀ i, All01 (stCT m cl x i)
  | 0 => fun j => by simp [stCT]; exact .inl rfl
  | i + 1 => by
    rw [stCT]
    refine (stCT_01 m cl x i).snoc ?_
    split
    · exact and1_01 _
    · exact stCT_01 m cl x i _
theorem stCT_get (m : Int) (cl : List Int) (x : Int) {i j : Nat} (h : j < i) : (stCT m cl x i).getD j default = if cl.getD j default = (j : Int) then bits .and .i64 (x / 2 ^ (m + (clNTo cl j : Nat)).toNat) 1 else (stCT m cl x j).getD (cl.getD j default).toNat default := by
  induction i with
  | zero => omega
  | succ i ih =>
    rw [stCT]
    by_cases h2 : j < i
    · rw [snoc_lt (by rw [stCT_len]; exact h2), ih h2]
    · obtain rfl : j = i := by omega
      have := snoc_eq (R := stCT m cl x j) (y := if cl.getD j default = (j : Int) then bits .and .i64 (x / 2 ^ (m + (clNTo cl j : Nat)).toNat) 1 else (stCT m cl x j).getD (cl.getD j default).toNat default)
      rw [stCT_len] at this
      exact this
theorem stCT_pre (m : Int) (cl : List Int) (x : Int) {i j k : Nat} (h : j < i) (hk : i ≤ k) : (stCT m cl x i).getD j default = (stCT m cl x k).getD j default := by
  rw [stCT_get _ _ _ h, stCT_get _ _ _ (show j < k by omega)]
theorem stC_P {n : NetL} {cl : List Int} (hok : NetOkP n) (hl : cl.length = n.seqs.length) (x : Int) : stP n (stC n cl x) := by
  refine ⟨by rw [stC_len, hl], fun i hi => ?_⟩
  rw [stC_len, hl] at hi
  have h := stCT_01 n.inputs cl x cl.length i
  have h2 : 1 ≤ seqMostL (n.seqs.getD i default).kind := by
    have h3 := hok.seqs i hi
    unfold seqOkP at h3
    unfold seqMostL
    repeat' split
    all_goals omega
  have e : (stC n cl x).getD i default = (stCT n.inputs cl x cl.length).getD i default := rfl
  unfold is01 at h
  rw [e]
  omega

/-! ### the next values, and the refinement -/
def kN (n : NetL) (cl : List Int) (x : Int) (i : Nat) : Int := litV (valsL n (stC n cl x) x) ((n.seqs.getD i default).ins.getD 0 default)
theorem kN_01 (n : NetL) (cl : List Int) (x : Int) (i : Nat) : is01 (kN n cl x i) := litV_01 (valsL_01 _ _ _) _
def totC (n : NetL) (cl : List Int) : Nat := 2 ^ (n.inputs.toNat + clNL cl)
def sameK (n : NetL) (cl : List Int) (i j : Nat) : Prop := ∀ x : Nat, x < totC n cl → kN n cl (x : Int) i = kN n cl (x : Int) j
def toJ (n : NetL) (cl : List Int) (i j : Nat) : Prop := cl.getD j default = cl.getD i default ∧ sameK n cl i j
noncomputable def refAt (n : NetL) (cl : List Int) (i : Nat) : Int := ((fstJ (toJ n cl i) i : Nat) : Int)
noncomputable def refL (n : NetL) (cl : List Int) : List Int := (List.range cl.length).map (refAt n cl)
theorem refL_len (n : NetL) (cl : List Int) : (refL n cl).length = cl.length := by simp [refL]
theorem refL_get (n : NetL) (cl : List Int) {i : Nat} (h : i < cl.length) : (refL n cl).getD i default = ((fstJ (toJ n cl i) i : Nat) : Int) := range_get (f := refAt n cl) h
theorem refAt_le (n : NetL) (cl : List Int) (i : Nat) : fstJ (toJ n cl i) i ≤ i := by
  rcases fstJ_or (toJ n cl i) i with ⟨h, _⟩ | ⟨h, _⟩ <;> omega
theorem refAt_to (n : NetL) (cl : List Int) (i : Nat) : toJ n cl i (fstJ (toJ n cl i) i) := by
  rcases fstJ_or (toJ n cl i) i with ⟨h, _⟩ | ⟨_, h, _⟩
  · rw [h]; exact ⟨rfl, fun _ _ => rfl⟩
  · exact h
theorem refAt_min (n : NetL) (cl : List Int) {i k : Nat} (h : k < fstJ (toJ n cl i) i) : ¬ toJ n cl i k := by
  rcases fstJ_or (toJ n cl i) i with ⟨h1, h2⟩ | ⟨_, _, h2⟩
  · exact h2 k (by omega)
  · exact h2 k h
theorem refAt_idem (n : NetL) (cl : List Int) (i : Nat) : fstJ (toJ n cl (fstJ (toJ n cl i) i)) (fstJ (toJ n cl i) i) = fstJ (toJ n cl i) i := by
  refine fstJ_no fun k hk hk2 => refAt_min n cl hk ?_
  obtain ⟨h1, h2⟩ := refAt_to n cl i
  exact ⟨hk2.1.trans h1, fun x hx => (h2 x hx).trans (hk2.2 x hx)⟩

/-- what a partition must be -/
theorem clP.rep {n : NetL} {cl : List Int} (h : clP n cl) {i : Nat} (hi : i < cl.length) : ∃ c : Nat, cl.getD i default = (c : Int) ∧ c ≤ i ∧ cl.getD c default = (c : Int) := by
  obtain ⟨⟨h1, h2⟩, h3, h4⟩ := h.2 i hi
  refine ⟨(cl.getD i default).toNat, by omega, by omega, ?_⟩
  rw [h3]; omega
theorem ref_rep {n : NetL} {cl : List Int} (h : clP n cl) {i : Nat} (hi : i < cl.length) (hr : cl.getD i default = (i : Int)) : fstJ (toJ n cl i) i = i := by
  refine fstJ_no fun j hj hj2 => ?_
  obtain ⟨c, h1, h2, h3⟩ := h.rep (show j < cl.length by omega)
  have := hj2.1
  omega
theorem refL_P {n : NetL} {cl : List Int} (h : clP n cl) : clP n (refL n cl) := by
  refine ⟨by rw [refL_len, h.1], fun i hi => ?_⟩
  rw [refL_len] at hi
  have hle := refAt_le n cl i
  rw [refL_get n cl hi, Int.toNat_natCast, refL_get n cl (by omega), refAt_idem]
  refine ⟨⟨by omega, by omega⟩, rfl, ?_⟩
  obtain ⟨h1, h2⟩ := refAt_to n cl i
  by_cases hr : fstJ (toJ n cl i) i = i
  · left; rw [hr]
  · right
    have hni : cl.getD i default ≠ (i : Int) := fun he => hr (ref_rep h hi he)
    obtain ⟨⟨a1, a2⟩, a3, a4⟩ := h.2 i hi
    obtain ⟨⟨b1, b2⟩, b3, b4⟩ := h.2 (fstJ (toJ n cl i) i) (by omega)
    rcases a4 with a4 | a4
    · exact absurd a4 hni
    · refine ⟨a4.1, ?_⟩
      rcases b4 with b4 | b4
      · have e : (cl.getD i default).toNat = fstJ (toJ n cl i) i := by rw [← h1, b4]; rfl
        rw [← e]; exact a4.2
      · exact b4.1
theorem cnt_le_of {cl cl' : List Int} (h : ∀ i, cl.getD i default = (i : Int) → i < cl.length → cl'.getD i default = (i : Int)) : ∀ i, i ≤ cl.length → clNTo cl i ≤ clNTo cl' i
  | 0, _ => Nat.le_refl _
  | i + 1, hi => by
    have ih := cnt_le_of h i (by omega)
    unfold clNTo
    split
    · rename_i h1
      rw [if_pos (h i h1 (by omega))]; omega
    · split <;> omega
theorem cnt_lt_of {cl cl' : List Int} (h : ∀ i, cl.getD i default = (i : Int) → i < cl.length → cl'.getD i default = (i : Int)) {k : Nat} (h1 : cl.getD k default ≠ (k : Int)) (h2 : cl'.getD k default = (k : Int)) : ∀ i, i ≤ cl.length → k < i → clNTo cl i < clNTo cl' i
  | 0, _, hk => by omega
  | i + 1, hi, hk => by
    have hle := cnt_le_of h i (by omega)
    by_cases hki : k = i
    · subst hki
      rw [clNTo, if_neg h1, clNTo, if_pos h2]; omega
    · have ih := cnt_lt_of h h1 h2 i (by omega) (by omega)
      unfold clNTo
      split
      · rename_i h3
        rw [if_pos (h i h3 (by omega))]; omega
      · split <;> omega
/-- a refinement that changes anything has more classes -/
theorem ref_more {n : NetL} {cl : List Int} (h : clP n cl) (hne : refL n cl ≠ cl) : clNL cl < clNL (refL n cl) := by
  unfold clNL
  rw [refL_len]
  have hrep : ∀ i, cl.getD i default = (i : Int) → i < cl.length → (refL n cl).getD i default = (i : Int) := fun i hr hi => by rw [refL_get n cl hi, ref_rep h hi hr]
  have hk : ∃ k, k < cl.length ∧ cl.getD k default ≠ (k : Int) ∧ (refL n cl).getD k default = (k : Int) := by
    refine Classical.byContradiction fun hno => hne ?_
    refine List.ext_getElem (refL_len n cl) fun i h1 h2 => ?_
    have e1 : (refL n cl).getD i default = (refL n cl)[i] := by rw [List.getD_eq_getElem?_getD, List.getElem?_eq_getElem h1]; rfl
    have e2 : cl.getD i default = cl[i] := by rw [List.getD_eq_getElem?_getD, List.getElem?_eq_getElem h2]; rfl
    rw [← e1, ← e2, refL_get n cl h2]
    have hle := refAt_le n cl i
    have hr : cl.getD (fstJ (toJ n cl i) i) default = ((fstJ (toJ n cl i) i : Nat) : Int) := by
      refine Classical.byContradiction fun hh => hno ⟨fstJ (toJ n cl i) i, by omega, hh, ?_⟩
      rw [refL_get n cl (by omega), refAt_idem]
    rw [← hr]
    exact (refAt_to n cl i).1
  obtain ⟨k, k1, k2, k3⟩ := hk
  exact cnt_lt_of hrep k2 k3 _ (Nat.le_refl _) k1

/-! ### partitions that hold -/
def hldP (n : NetL) (cl : List Int) : Prop := (NetOkP n ∧ clP n cl) ∧ n.inputs + (clNL cl : Nat) ≤ 10 ∧ (∀ i, i < cl.length → (n.seqs.getD i default).init = (n.seqs.getD (cl.getD i default).toNat default).init) ∧ ∀ i, i < cl.length → sameK n cl i (cl.getD i default).toNat
theorem hld_ref {n : NetL} {cl : List Int} (h : clP n cl) : (∀ i, i < cl.length → sameK n cl i (cl.getD i default).toNat) ↔ refL n cl = cl := by
  constructor
  · intro hs
    refine List.ext_getElem (refL_len n cl) fun i h1 h2 => ?_
    have e1 : (refL n cl).getD i default = (refL n cl)[i] := by rw [List.getD_eq_getElem?_getD, List.getElem?_eq_getElem h1]; rfl
    have e2 : cl.getD i default = cl[i] := by rw [List.getD_eq_getElem?_getD, List.getElem?_eq_getElem h2]; rfl
    rw [← e1, ← e2, refL_get n cl h2]
    obtain ⟨c, c1, c2, c3⟩ := h.rep h2
    have hsi := hs i h2
    rw [c1] at hsi ⊢
    rw [Int.toNat_natCast] at hsi
    by_cases hc : c = i
    · subst hc
      rw [ref_rep h h2 c1]
    · rw [fstJ_at (j := c) (by omega) ⟨by rw [c3, c1], hsi⟩ fun k hk hk2 => ?_]
      obtain ⟨d, d1, d2, d3⟩ := h.rep (show k < cl.length by omega)
      have := hk2.1
      omega
  · intro he i hi
    have := refAt_to n cl i
    have e : cl.getD i default = ((fstJ (toJ n cl i) i : Nat) : Int) := by rw [← refL_get n cl hi, he]
    rw [e, Int.toNat_natCast]
    exact this.2

/-! ### the coarsest partition -/
def flP (n : NetL) (i j : Nat) : Prop := (n.seqs.getD i default).kind = 0 ∧ (n.seqs.getD j default).kind = 0 ∧ (n.seqs.getD j default).init = (n.seqs.getD i default).init
noncomputable def begC (n : NetL) : List Int := (List.range n.seqs.length).map fun i => ((fstJ (flP n i) i : Nat) : Int)
def ownL (m : Nat) : List Int := (List.range m).map fun i => ((i : Nat) : Int)
noncomputable def regF (n : NetL) : Nat → List Int → List Int
  | 0, cl => cl
  | f + 1, cl => if 10 < n.inputs + (clNL cl : Nat) then ownL n.seqs.length else if refL n cl = cl then cl else regF n f (refL n cl)
noncomputable def regL (n : NetL) : List Int := regF n (n.seqs.length + 1) (begC n)
theorem begC_len (n : NetL) : (begC n).length = n.seqs.length := by simp [begC]
theorem begC_get (n : NetL) {i : Nat} (h : i < n.seqs.length) : (begC n).getD i default = ((fstJ (flP n i) i : Nat) : Int) := range_get (f := fun i => ((fstJ (flP n i) i : Nat) : Int)) h
theorem ownL_get {m i : Nat} (h : i < m) : (ownL m).getD i default = (i : Int) := range_get (f := fun i => ((i : Nat) : Int)) h
theorem begC_P (n : NetL) : clP n (begC n) := by
  refine ⟨begC_len n, fun i hi => ?_⟩
  rw [begC_len] at hi
  rw [begC_get n hi, Int.toNat_natCast]
  rcases fstJ_or (flP n i) i with ⟨h1, h2⟩ | ⟨h1, h2, h3⟩
  · rw [h1]
    exact ⟨⟨by omega, by omega⟩, by rw [begC_get n hi, h1], .inl rfl⟩
  · refine ⟨⟨by omega, by omega⟩, ?_, .inr ⟨h2.1, h2.2.1⟩⟩
    rw [begC_get n (by omega), fstJ_no fun k hk hk2 => h3 k hk ⟨h2.1, hk2.2.1, hk2.2.2.trans h2.2.2⟩]
theorem ownL_P (n : NetL) : clP n (ownL n.seqs.length) := by
  refine ⟨by simp [ownL], fun i hi => ?_⟩
  simp [ownL] at hi
  rw [ownL_get hi, Int.toNat_natCast, ownL_get hi]
  exact ⟨⟨by omega, by omega⟩, rfl, .inl rfl⟩
theorem regF_P {n : NetL} : ∀ (f : Nat) {cl : List Int}, clP n cl → clP n (regF n f cl)
  | 0, _, h => h
  | f + 1, cl, h => by
    unfold regF
    split
    · exact ownL_P n
    · split
      · exact h
      · exact regF_P f (refL_P h)
theorem regL_P (n : NetL) : clP n (regL n) := regF_P _ (begC_P n)
theorem regL_len (n : NetL) : (regL n).length = n.seqs.length := (regL_P n).1
end Go.Xw
