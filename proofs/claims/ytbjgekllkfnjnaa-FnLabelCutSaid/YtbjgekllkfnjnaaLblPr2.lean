/- How the program sends a unit along the way that it found, as plain data; no condition but the stated ones. -/
import Derived.Test.YtbjgekllkfnjnaaLblPr
set_option linter.all false
namespace Go.Xw
set_option maxHeartbeats 1000000
theorem PSr.uniq {G : GrF} {f : Flo} {k0 : Nat} {FR : List ((Nat × Bool) × (Nat × Bool))} {q : Nat} (hP : PSr G f k0 FR q) {i j : Nat} (hi : i < FR.length) (hj : j < FR.length) (h : (FR.getD i default).1 = (FR.getD j default).1) : i = j := by
 have h1 := hP.nd
 rw [List.getD_eq_getElem?_getD, List.getElem?_eq_getElem hi, List.getD_eq_getElem?_getD, List.getElem?_eq_getElem hj] at h
 have h : (FR[i]).1 = (FR[j]).1 := h
 unfold List.Nodup at h1
 rw [List.pairwise_iff_getElem] at h1
 rcases Nat.lt_trichotomy i j with hij | hij | hij
 ·exact absurd (by rw [List.getElem_map, List.getElem_map]; exact h) (h1 i j (by simpa using hi) (by simpa using hj) hij)
 ·exact hij
 ·exact absurd (by rw [List.getElem_map, List.getElem_map]; exact h.symm) (h1 j i (by simpa using hj) (by simpa using hi) hij)
structure PushP (G : GrF) (f : Flo) (FR : List ((Nat × Bool) × (Nat × Bool))) (j : Nat) (f' : Flo) : Prop where
 jq : j < FR.length
 n0 : (FR.getD j default).1.1 ≠ 0
 pin : ∃ seen, PIn G f f' (FR.getD j default).1 seen ∧ ∀ s, seen s → ∃ i, j ≤ i ∧ i < FR.length ∧ (FR.getD i default).1 = s
theorem PushP.start {G : GrF} {f : Flo} (hf : FlP G f) {FR : List ((Nat × Bool) × (Nat × Bool))} {j l : Nat} (hj : j < FR.length) (hx : (FR.getD j default).1 = (l, false)) (hl : G.leaf l) (hlf : ¬ G.free l) (h0 : l ≠ 0) : PushP G f FR j f where
 jq := hj
 n0 := by rw [hx]; exact h0
 pin := ⟨_, by rw [hx]; exact PIn.start hf hl hlf, fun s hs => ⟨j, Nat.le_refl _, hj, by rw [hx, hs]⟩⟩
theorem PushP.step {G : GrF} (hG : GrOk G) {f f' : Flo} {k0 : Nat} {FR : List ((Nat × Bool) × (Nat × Bool))} {q j : Nat} (hP : PSr G f k0 FR q) (h : PushP G f FR j f') (hj : 0 < j) :
  ∃ i, i < j ∧ (FR.getD i default).1 = (FR.getD j default).2 ∧ (FR.getD j default).2 ≠ (FR.getD j default).1 ∧ Stp G f (FR.getD j default).2 (FR.getD j default).1 ∧ PushP G f FR i (bump f' (FR.getD j default).2 (FR.getD j default).1) := by
 obtain ⟨seen, hp, hs⟩ := h.pin
 have hjq := h.jq
 obtain ⟨i, i1, i2, i3, i4⟩ := hP.frm j hj hjq h.n0
 have hne : (FR.getD j default).2 ≠ (FR.getD j default).1 := fun he => by
  have := hP.uniq (i := i) (j := j) (by omega) hjq (i2.trans he)
  omega
 have hns : ¬ seen (FR.getD j default).2 := fun hh => by
  obtain ⟨i', j1, j2, j3⟩ := hs _ hh
  have := hP.uniq (i := i) (j := i') (by omega) j2 (i2.trans j3.symm)
  omega
 have hN : (FR.getD j default).2.1 < G.N := by
  rw [← i2]
  have hi : i < FR.length := by omega
  have := hP.dom (FR[i]'hi) (List.getElem_mem hi)
  rw [List.getD_eq_getElem?_getD, List.getElem?_eq_getElem hi]
  exact this
 have hst := hp.step hG i4 hns hN
 refine ⟨i, i1, i2, hne, i4, by omega, i3, _, by rw [i2]; exact hst, fun s hh => ?_⟩
 rcases hh with rfl | hh
 ·exact ⟨i, Nat.le_refl _, by omega, i2⟩
 ·obtain ⟨i', j1, j2, j3⟩ := hs _ hh
  exact ⟨i', by omega, j2, j3⟩
theorem PushP.done {G : GrF} {f f' : Flo} {k0 : Nat} {FR : List ((Nat × Bool) × (Nat × Bool))} {q : Nat} (hP : PSr G f k0 FR q) (h : PushP G f FR 0 f') (hk : G.free k0) : FlP G f' ∧ f'.tot G = f.tot G + 1 := by
 obtain ⟨seen, hp, _⟩ := h.pin
 rw [hP.st] at hp
 exact hp.done hk
structure RepP (N : Nat) (I : List Int) (E : Nat × Nat → Int) (f : Flo) : Prop where
 len : I.length = N
 g : ∀ k, k < N → I.getD k default = f.g k
 e : ∀ c p, E (c, p) = f.e p c
theorem RepP.zero (N : Nat) : RepP N (List.replicate N 0) (fun _ => 0) ⟨fun _ => 0, fun _ _ => 0⟩ :=
 ⟨by simp, fun k hk => by rw [List.getD_eq_getElem?_getD, List.getElem?_replicate, if_pos hk]; rfl, fun _ _ => rfl⟩
theorem RepP.thru {N : Nat} {I : List Int} {E : Nat × Nat → Int} {f : Flo} (h : RepP N I E f) {k : Nat} {b c : Bool} (hk : k < N) : RepP N (I.set k (I.getD k default + if b = true then 1 else -1)) E (bump f (k, b) (k, c)) := by
 have e : bump f (k, b) (k, c) = ⟨upd1 f.g k (if b = true then 1 else -1), f.e⟩ := by unfold bump; rw [if_pos rfl]
 have hl := h.len
 rw [e]
 refine ⟨by rw [List.length_set]; exact hl, fun j hj => ?_, h.e⟩
 show _ = upd1 f.g k _ j
 by_cases hjk : j = k
 ·subst hjk
  rw [List.getD_eq_getElem?_getD, List.getElem?_set_self (by omega), upd1_at, ← h.g j hj]; rfl
 ·rw [List.getD_eq_getElem?_getD, List.getElem?_set_ne (fun h => hjk h.symm), upd1_ne hjk, ← h.g j hj, List.getD_eq_getElem?_getD]
theorem RepP.arc {N : Nat} {I : List Int} {E : Nat × Nat → Int} {f : Flo} (h : RepP N I E f) {p c : Nat} (hpc : p ≠ c) : RepP N I (fun y => if y = (c, p) then E (c, p) + 1 else E y) (bump f (p, false) (c, true)) := by
 have e : bump f (p, false) (c, true) = ⟨f.g, upd2 f.e p c 1⟩ := by unfold bump; rw [if_neg hpc]; rfl
 rw [e]
 refine ⟨h.len, h.g, fun c' p' => ?_⟩
 show (if (c', p') = (c, p) then _ else _) = upd2 f.e p c 1 p' c'
 by_cases hh : p' = p ∧ c' = c
 ·rw [hh.1, hh.2, if_pos rfl, upd2_at, h.e]
 ·rw [if_neg (fun he => hh (by rw [Prod.mk.injEq] at he; exact ⟨he.2, he.1⟩)), upd2_ne hh, h.e]
theorem RepP.undo {N : Nat} {I : List Int} {E : Nat × Nat → Int} {f : Flo} (h : RepP N I E f) {p c : Nat} (hpc : p ≠ c) : RepP N I (fun y => if y = (c, p) then E (c, p) - 1 else E y) (bump f (c, true) (p, false)) := by
 have e : bump f (c, true) (p, false) = ⟨f.g, upd2 f.e p c (-1)⟩ := by unfold bump; rw [if_neg (fun h => hpc h.symm)]; rfl
 rw [e]
 refine ⟨h.len, h.g, fun c' p' => ?_⟩
 show (if (c', p') = (c, p) then _ else _) = upd2 f.e p c (-1) p' c'
 by_cases hh : p' = p ∧ c' = c
 ·rw [hh.1, hh.2, if_pos rfl, upd2_at, h.e]; rfl
 ·rw [if_neg (fun he => hh (by rw [Prod.mk.injEq] at he; exact ⟨he.2, he.1⟩)), upd2_ne hh, h.e]
end Go.Xw
