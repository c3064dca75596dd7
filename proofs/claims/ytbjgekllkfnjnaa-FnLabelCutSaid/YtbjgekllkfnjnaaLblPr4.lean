/- The program's way back, step by step, as plain data; no condition but the stated ones. -/
import Derived.Test.YtbjgekllkfnjnaaLblPr3
set_option linter.all false
namespace Go.Xw
set_option maxHeartbeats 1000000
structure BndP (I : List Int) (E : Nat × Nat → Int) (b : Int) : Prop where
 i : ∀ k, -b ≤ I.getD k default ∧ I.getD k default ≤ b
 e : ∀ y, -b ≤ E y ∧ E y ≤ b
theorem BndP.zero (N : Nat) : BndP (List.replicate N 0) (fun _ => 0) 0 := ⟨fun k => by
 rw [List.getD_eq_getElem?_getD, List.getElem?_replicate]
 split
 ·exact ⟨by decide, by decide⟩
 ·exact ⟨by decide, by decide⟩, fun _ => ⟨by decide, by decide⟩⟩
theorem BndP.set {I : List Int} {E : Nat × Nat → Int} {b b' : Int} (h : BndP I E b) (hb : b' = b + 1) {k : Nat} {z : Int} (hz : I.getD k default - 1 ≤ z ∧ z ≤ I.getD k default + 1) : BndP (I.set k z) E b' := ⟨fun j => by
 have hj := h.i j
 have hk := h.i k
 by_cases hjk : j = k
 ·subst hjk
  by_cases hl : j < I.length
  ·rw [List.getD_eq_getElem?_getD, List.getElem?_set_self hl, Option.getD_some]; omega
  ·rw [List.set_eq_of_length_le (by omega)]; omega
 ·rw [List.getD_eq_getElem?_getD, List.getElem?_set_ne (fun h => hjk h.symm), ← List.getD_eq_getElem?_getD]; omega, fun y => by have := h.e y; omega⟩
theorem BndP.upd {I : List Int} {E : Nat × Nat → Int} {b b' : Int} (h : BndP I E b) (hb : b' = b + 1) {y : Nat × Nat} {z : Int} (hz : E y - 1 ≤ z ∧ z ≤ E y + 1) : BndP I (fun u => if u = y then z else E u) b' := ⟨fun j => by have := h.i j; omega, fun u => by
 have h1 := h.e u
 have h2 := h.e y
 show -b' ≤ (if u = y then z else E u) ∧ (if u = y then z else E u) ≤ b'
 split <;> omega⟩
theorem BndP.le {I : List Int} {E : Nat × Nat → Int} {b b' : Int} (h : BndP I E b) (hb : b ≤ b') : BndP I E b' := ⟨fun j => by have := h.i j; omega, fun y => by have := h.e y; omega⟩
theorem PushP.all {G : GrF} (hG : GrOk G) {f : Flo} {k0 : Nat} {FR : Fr} {q : Nat} (hP : PSr G f k0 FR q) (hk : G.free k0) : ∀ m j f', j < m → PushP G f FR j f' → ∃ f'', FlP G f'' ∧ f''.tot G = f.tot G + 1
 | 0, _, _, h, _ => by omega
 | m + 1, j, f', hj, h => by
  by_cases h0 : j = 0
  ·subst h0; exact ⟨f', h.done hP hk⟩
  ·obtain ⟨i, hi, _, _, _, h2⟩ := h.step hG hP (by omega)
   exact PushP.all hG hP hk m i _ (by omega) h2
theorem push_case {G : GrF} (hG : GrOk G) {f f' : Flo} {x y : Nat × Bool} (hs : Stp G f y x) {N : Nat} {I : List Int} {E : Nat × Nat → Int} (hR : RepP N I E f') (hx : x.1 < N) :
  (x.1 = y.1 ∧ x.2 = false ∧ y.2 = true ∧ RepP N (I.set x.1 (I.getD x.1 default + 1)) E (bump f' y x)) ∨ (x.1 = y.1 ∧ x.2 = true ∧ y.2 = false ∧ RepP N (I.set x.1 (I.getD x.1 default - 1)) E (bump f' y x)) ∨
   (x.1 ≠ y.1 ∧ x.2 = true ∧ RepP N I (fun u => if u = (x.1, y.1) then E (x.1, y.1) + 1 else E u) (bump f' y x)) ∨ (x.1 ≠ y.1 ∧ x.2 = false ∧ RepP N I (fun u => if u = (y.1, x.1) then E (y.1, x.1) - 1 else E u) (bump f' y x)) := by
 cases hs with
 | thru h => exact .inl ⟨rfl, rfl, rfl, hR.thru (b := true) hx⟩
 | rev h => exact .inr (.inl ⟨rfl, rfl, rfl, hR.thru (b := false) hx⟩)
 | arc h =>
  have hne := hG.arcI _ _ h
  exact .inr (.inr (.inl ⟨fun he => hne he.symm, rfl, hR.arc hne⟩))
 | undo h ha =>
  have hne := hG.arcI _ _ ha
  exact .inr (.inr (.inr ⟨hne, rfl, hR.undo hne⟩))
theorem Rch.ne0 {n : NetL} (hn : Nums n) {k0 : Nat} {L : List Int} {h : Int} (hL : LblOk n L k0) (hk : fst_ n ≤ k0) (hh : 1 ≤ h) {f : Flo} (hf : FlP (lgG n k0 L h) f) {k : Nat} {b : Bool} (r : Rch (lgG n k0 L h) f k b) : k ≠ 0 := by
 have f1 := hn.f1
 have hfr : ∀ k, lgFree n k0 L h k → k ≠ 0 := fun k hk2 h0 => by
  subst h0
  rcases hk2 with h2 | ⟨_, h2⟩
  ·omega
  ·rw [hL.leaf 0 (by omega)] at h2; omega
 induction r with
 | srcT h => exact hfr _ h
 | srcF h => exact hfr _ h
 | thru _ _ _ ih => exact ih
 | @undo k p _ h0 _ =>
  have := lgArc.lt hn (hf.ea p k (by omega))
  omega
 | arc _ ha _ => exact ha.2.1
 | rev _ _ ih => exact ih
theorem search_nil {n : NetL} (hok : NetOkP n) {k0 : Nat} {L : List Int} {h : Int} (hL : LblOk n L k0) (hk : fst_ n ≤ k0) (hk2 : k0 < nds n) (hh : 1 ≤ h) {f : Flo} (hf : FlP (lgG n k0 L h) f) (h4 : f.tot (lgG n k0 L h) ≤ 4) {FR : Fr} (hP : PSr (lgG n k0 L h) f k0 FR FR.length) :
  hcP n k0 L h ∧ ∀ k, k < nds n → (hcN n k0 L h k ↔ (KeyIn FR (k, true) ∧ ¬ KeyIn FR (k, false) ∧ k ≠ 0)) := by
 have hn := hok.nums
 have hG := lgG_ok (h := h) hn hL hk2
 have hk0 : (lgG n k0 L h).free k0 := .inl rfl
 have hst : KeyIn FR (k0, true) := ⟨0, hP.pos, by rw [hP.st]⟩
 have hfree : ∀ k b, (lgG n k0 L h).free k → KeyIn FR (k, b) := fun k b hfk => by
  have hc : InCone n k0 k := by
   rcases hfk with rfl | h1
   ·exact .refl _
   ·exact h1.1
  exact hP.free hn hL hk hh k0 k hc (.refl _) (.inl rfl) hst hfk b
 have hl0 : ¬ (lgG n k0 L h).leaf 0 := fun hl => by have := hl.1; omega
 have ht := hP.term hG hf hk0 hfree hl0
 obtain ⟨h1, h2⟩ := hc_yes hn hL hk2 hf ht h4
 refine ⟨h1, fun k hkn => ?_⟩
 rw [h2 k]
 constructor
 ·intro hr
  have h0 := hr.1.ne0 hn hL hk hh hf
  have := (hP.near hG hf hk0 hfree h0).1 hr
  exact ⟨this.1, this.2, h0⟩
 ·rintro ⟨h3, h5, h0⟩
  exact (hP.near hG hf hk0 hfree h0).2 ⟨h3, h5⟩
theorem search_five {n : NetL} (hok : NetOkP n) {k0 : Nat} {L : List Int} {h : Int} (hL : LblOk n L k0) (hk : fst_ n ≤ k0) (hk2 : k0 < nds n) (hh : 1 ≤ h) {f : Flo} (hf : FlP (lgG n k0 L h) f) (h4 : f.tot (lgG n k0 L h) = 4) {FR : Fr} {q l : Nat} (hP : PSr (lgG n k0 L h) f k0 FR q) (hq : q < FR.length) (hx : (FR.getD q default).1 = (l, false)) (hl : 0 < l ∧ l < fst_ n) : ¬ hcP n k0 L h := by
 have hn := hok.nums
 have hG := lgG_ok (h := h) hn hL hk2
 obtain ⟨f', h1, h2⟩ := PushP.all hG hP (.inl rfl) (q + 1) q f (by omega) (PushP.start hf hq hx hl (lgLeaf hL hk hh hl) (by omega))
 exact hc_no hn hL hk2 h1 (by omega)
end Go.Xw
