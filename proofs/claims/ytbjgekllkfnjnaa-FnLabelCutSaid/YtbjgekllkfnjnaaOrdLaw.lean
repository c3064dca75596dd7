/- Texts that belong together; each under its stated conditions. -/
import Derived.Test.YtbjgekllkfnjnaaEnumLaw
import Derived.Test.YtbjgekllkfnjnaaCutLaw
set_option linter.all false
section
namespace Go.Xw
open Go.Proofs
set_option maxHeartbeats 1000000
theorem Opn.first {n : NetL} (hn : Nums n) {cut : List Int} {r j : Nat} (h : Opn n cut r j) : j = r ∨ ∃ i, i < n.ands.length ∧ r = fst_ n + i ∧ (r : Int) ∉ cut ∧ (Opn n cut (kA n i) j ∨ Opn n cut (kB n i) j) := by
 induction h with
 | refl => exact .inl rfl
 | @left i hi ho hc ih =>
  right
  rcases ih with h | ⟨q, q1, q2, q3, q4⟩
  ·exact ⟨i, hi, h.symm, by rw [← h]; exact hc, .inl .refl⟩
  ·exact ⟨q, q1, q2, q3, q4.imp (fun h => .left hi h hc) (fun h => .left hi h hc)⟩
 | @right i hi ho hc ih =>
  right
  rcases ih with h | ⟨q, q1, q2, q3, q4⟩
  ·exact ⟨i, hi, h.symm, by rw [← h]; exact hc, .inr .refl⟩
  ·exact ⟨q, q1, q2, q3, q4.imp (fun h => .right hi h hc) (fun h => .right hi h hc)⟩
theorem Opn.less {n : NetL} {u x : List Int} (hs : ∀ z, z ∈ x → z ∈ u) {r j : Nat} (h : Opn n u r j) : Opn n x r j := by
 induction h with
 | refl => exact .refl
 | left hi _ hc ih => exact .left hi ih fun h => hc (hs _ h)
 | right hi _ hc ih => exact .right hi ih fun h => hc (hs _ h)
theorem Esc.less {n : NetL} {u x : List Int} (hs : ∀ z, z ∈ x → z ∈ u) {r : Nat} (h : Esc n u r) : Esc n x r := by
 obtain ⟨k, h1, h2, h3⟩ := h
 exact ⟨k, h1.less hs, fun h => h2 (hs _ h), h3⟩
theorem esc_own {n : NetL} (hn : Nums n) {k : Nat} : ¬ Esc n [(k : Int)] k := by
 rintro ⟨j, h1, h2, h3, h4⟩
 rcases h1.first hn with h | ⟨i, _, _, h, _⟩
 ·exact h2 (by rw [h]; simp)
 ·exact h (by simp)
theorem esc_zero {n : NetL} (hn : Nums n) {cut : List Int} : ¬ Esc n cut 0 := by
 rintro ⟨j, h1, h2, h3, h4⟩
 have := h1.le hn
 omega
theorem asc_one (z : Int) : Asc [z] := asc_get.1 fun i h1 h2 => by simp at h2; omega
theorem mrg_mem {xs ys : List Int} {z : Int} : z ∈ mrg xs ys ↔ z ∈ xs ∨ z ∈ ys := mem_mrg _ (Nat.le_refl _)
theorem joinL_mem {a b : List (List Int)} {u : List Int} (h : u ∈ joinL a b) : ∃ x y, x ∈ a ∧ y ∈ b ∧ mergeOk x y = true ∧ u = mrg x y :=
 mem_joinL (P := fun u => ∃ x y, x ∈ a ∧ y ∈ b ∧ mergeOk x y = true ∧ u = mrg x y) (fun x hx y hy hm => ⟨x, y, hx, hy, hm, rfl⟩) u h
structure CutK (n : NetL) (k : Nat) (u : List Int) : Prop where
 good : u.length ≤ 4 ∧ Asc u
 cone : ∀ c, c ∈ u → ∃ j : Nat, c = j ∧ InCone n k j
 esc : ¬ Esc n u k
theorem cuts_K {n : NetL} (h : NetOkP n) : ∀ m k, k < m → k < nds n → ∀ u, u ∈ cutsOf n k → CutK n k u
 | 0, _, hm, _ => by omega
 | m + 1, k, hm, hk => by
  have hn := h.nums
  intro u hu
  by_cases h0 : k = 0
  ·subst h0
   rw [cutsOf_0, List.mem_singleton] at hu
   subst hu
   exact ⟨⟨by simp, asc_get.1 fun i h1 h2 => by simp at h2⟩, fun c hc => (by cases hc), esc_zero hn⟩
  ·by_cases hf : k < fst_ n
   ·rw [cutsOf_leaf (by omega) hf, List.mem_singleton] at hu
    subst hu
    exact ⟨⟨by simp, asc_one _⟩, fun c hc => ⟨k, List.mem_singleton.1 hc, .refl _⟩, esc_own hn⟩
   ·obtain ⟨i, rfl⟩ : ∃ i, k = fst_ n + i := ⟨k - fst_ n, by omega⟩
    have n1 := hn.n1
    have hi : i < n.ands.length := by omega
    rw [cutsOf_and h hi, List.mem_append] at hu
    rcases hu with hu | hu
    ·have ka := hn.ka i hi
     have kb := hn.kb i hi
     have hj := (selL_mem hu).1
     have hg := joinL_good _ _ u hj
     obtain ⟨x, y, hx, hy, _, rfl⟩ := joinL_mem hj
     have ia := cuts_K h m (kA n i) (by omega) (by omega) x hx
     have ib := cuts_K h m (kB n i) (by omega) (by omega) y hy
     refine ⟨⟨hg.1, (cutB_Asc.1 hg.2).1⟩, fun c hc => ?_, fun he => ?_⟩
     ·rcases mrg_mem.1 hc with hc | hc
      ·obtain ⟨j, j1, j2⟩ := ia.cone c hc
       exact ⟨j, j1, .left hi j2⟩
      ·obtain ⟨j, j1, j2⟩ := ib.cone c hc
       exact ⟨j, j1, .right hi j2⟩
     ·obtain ⟨j, j1, j2, j3, j4⟩ := he
      rcases j1.first hn with hh | ⟨q, _, q2, _, q4⟩
      ·omega
      ·obtain rfl : q = i := by omega
       rcases q4 with q4 | q4
       ·exact ia.esc (Esc.less (u := mrg x y) (fun z hz => mrg_mem.2 (.inl hz)) ⟨j, q4, j2, j3, j4⟩)
       ·exact ib.esc (Esc.less (u := mrg x y) (fun z hz => mrg_mem.2 (.inr hz)) ⟨j, q4, j2, j3, j4⟩)
    ·rw [List.mem_singleton] at hu
     subst hu
     exact ⟨⟨by simp, asc_one _⟩, fun c hc => ⟨fst_ n + i, List.mem_singleton.1 hc, .refl _⟩, esc_own hn⟩
theorem coneL_in {n : NetL} {k : Nat} {z : Int} : z ∈ coneL n k ↔ ∃ j : Nat, j < nds n ∧ z = j ∧ InCone n k j := by
 unfold coneL markedL
 rw [marked_mem, listB_len]
 constructor
 ·rintro ⟨l, h1, h2, h3⟩; exact ⟨l, h1, h2, (listB_get h1).1 h3⟩
 ·rintro ⟨l, h1, h2, h3⟩; exact ⟨l, h1, h2, (listB_get h1).2 h3⟩
theorem cuts_P {n : NetL} (h : NetOkP n) {k : Nat} (hk : k < nds n) {u : List Int} (hu : u ∈ cutsOf n k) : cutP n k u := by
 have c := cuts_K h (k + 1) k (by omega) hk u hu
 refine ⟨c.good, fun z hz => ?_, c.esc⟩
 obtain ⟨j, rfl, hj⟩ := c.cone z hz
 exact coneL_in.2 ⟨j, by have := hj.le h.nums; omega, rfl, hj⟩
theorem cuts_not {n : NetL} (h : NetOkP n) {i : Nat} (hi : i < n.ands.length) {u : List Int} (hu : u ∈ selL (cutsOf n (kA n i)) (cutsOf n (kB n i))) : ((fst_ n + i : Nat) : Int) ∉ u := fun hm => by
 have hn := h.nums
 have n1 := hn.n1
 have ka := hn.ka i hi
 have kb := hn.kb i hi
 obtain ⟨x, y, hx, hy, _, rfl⟩ := joinL_mem (selL_mem hu).1
 rcases mrg_mem.1 hm with hm | hm
 ·obtain ⟨j, j1, j2⟩ := (cuts_K h _ (kA n i) (Nat.lt_succ_self _) (by omega) x hx).cone _ hm
  have := j2.le hn
  omega
 ·obtain ⟨j, j1, j2⟩ := (cuts_K h _ (kB n i) (Nat.lt_succ_self _) (by omega) y hy).cone _ hm
  have := j2.le hn
  omega
end Go.Xw
end
section
namespace Go.Xw
open Go.Proofs
theorem ord_cuts {n : NetL} (h : NetOkP n) {k : Nat} (hk : k < nds n) : ∃ S z, cutsOf n k = S ++ [z] ∧ S.length ≤ 7 ∧ SrtC S ∧ (∀ u v, u ∈ S → v ∈ S → (∀ x, x ∈ u → x ∈ v) → u = v) ∧ (k = 0 → S = [] ∧ z = []) ∧ (0 < k → z = [(k : Int)]) := by
 have n1 := h.nums.n1
 by_cases h0 : k = 0
 ·exact ⟨[], [], by rw [h0, cutsOf_0]; rfl, by simp, List.Pairwise.nil, fun u v hu => by simp at hu, fun _ => ⟨rfl, rfl⟩, fun hh => by omega⟩
 ·by_cases h1 : k < fst_ n
  ·exact ⟨[], [(k : Int)], cutsOf_leaf (by omega) h1, by simp, List.Pairwise.nil, fun u v hu => by simp at hu, fun hh => absurd hh h0, fun _ => rfl⟩
  ·have := cutsOf_and h (i := k - fst_ n) (by omega)
   rw [show fst_ n + (k - fst_ n) = k by omega] at this
   exact ⟨_, _, this, selL_len _ _, srt_selL _ _, fun u v hu hv hs => selL_apart hu hv hs, fun hh => absurd hh h0, fun _ => rfl⟩
end Go.Xw
end
