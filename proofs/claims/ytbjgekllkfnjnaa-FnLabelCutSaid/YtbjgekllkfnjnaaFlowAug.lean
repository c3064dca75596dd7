/- One more unit along a way that can be gone; plain data, no condition but the stated ones. -/
import Derived.Test.YtbjgekllkfnjnaaFlow
set_option linter.all false
namespace Go.Xw
set_option maxHeartbeats 1000000
def upd1 (g : Nat → Int) (k : Nat) (d : Int) : Nat → Int := fun i => if i = k then g i + d else g i
def upd2 (e : Nat → Nat → Int) (p c : Nat) (d : Int) : Nat → Nat → Int := fun i j => if i = p ∧ j = c then e i j + d else e i j
theorem upd1_at (g : Nat → Int) (k : Nat) (d : Int) : upd1 g k d k = g k + d := if_pos rfl
theorem upd1_ne {g : Nat → Int} {k i : Nat} {d : Int} (h : i ≠ k) : upd1 g k d i = g i := if_neg h
theorem upd2_at (e : Nat → Nat → Int) (p c : Nat) (d : Int) : upd2 e p c d p c = e p c + d := if_pos ⟨rfl, rfl⟩
theorem upd2_ne {e : Nat → Nat → Int} {p c i j : Nat} {d : Int} (h : ¬ (i = p ∧ j = c)) : upd2 e p c d i j = e i j := if_neg h
theorem upd2_in {e : Nat → Nat → Int} {p c k N : Nat} {d : Int} (hp : p < N) : sumN (fun i => upd2 e p c d i k) N = sumN (fun i => e i k) N + if k = c then d else 0 := by
 by_cases h : k = c
 ·subst h
  rw [if_pos rfl, sumN_upd (f := fun i => e i k) (g := fun i => upd2 e p k d i k) (j := p) (d := d) N (fun i hi => upd2_ne fun h => hi h.1) (upd2_at _ _ _ _), if_pos hp]
 ·rw [if_neg h, Int.add_zero]
  exact sumN_congr _ fun i _ => upd2_ne fun h2 => h h2.2
theorem upd2_out {e : Nat → Nat → Int} {p c k N : Nat} {d : Int} (hc : c < N) : sumN (fun j => upd2 e p c d k j) N = sumN (fun j => e k j) N + if k = p then d else 0 := by
 by_cases h : k = p
 ·subst h
  rw [if_pos rfl, sumN_upd (f := fun j => e k j) (g := fun j => upd2 e k c d k j) (j := c) (d := d) N (fun i hi => upd2_ne fun h => hi h.2) (upd2_at _ _ _ _), if_pos hc]
 ·rw [if_neg h, Int.add_zero]
  exact sumN_congr _ fun i _ => upd2_ne fun h2 => h h2.1
theorem tot_g (G : GrF) (f : Flo) (g : Nat → Int) : Flo.tot G ⟨g, f.e⟩ = f.tot G := rfl
theorem tot_upd {G : GrF} {f : Flo} {p c : Nat} {d : Int} (hp : p < G.N) (hc : c < G.N) : Flo.tot G ⟨f.g, upd2 f.e p c d⟩ = f.tot G + ind (G.free p) * (ind (¬ G.free c) * d) := by
 unfold Flo.tot
 have h := sumN_upd (f := fun p => ind (G.free p) * sumN (fun c => ind (¬ G.free c) * f.e p c) G.N) (g := fun i => ind (G.free i) * sumN (fun j => ind (¬ G.free j) * upd2 f.e p c d i j) G.N) (j := p) (d := ind (G.free p) * (ind (¬ G.free c) * d)) G.N (fun i hi => by
  congr 1
  exact sumN_congr _ fun j _ => by rw [upd2_ne fun h => hi h.1]) (by
  rw [← Int.mul_add]
  congr 1
  have h2 := sumN_upd (f := fun j => ind (¬ G.free j) * f.e p j) (g := fun j => ind (¬ G.free j) * upd2 f.e p c d p j) (j := c) (d := ind (¬ G.free c) * d) G.N (fun j hj => by
    rw [upd2_ne fun h => hj h.2]) (by
    rw [upd2_at, Int.mul_add])
  rw [h2, if_pos hc])
 rw [h, if_pos hp]
inductive Stp (G : GrF) (f : Flo) : Nat × Bool → Nat × Bool → Prop where
 | thru {k : Nat} (h : G.free k ∨ f.g k = 0) : Stp G f (k, true) (k, false)
 | rev {k : Nat} (h : 0 < f.g k) : Stp G f (k, false) (k, true)
 | arc {p c : Nat} (h : G.arc p c) : Stp G f (p, false) (c, true)
 | undo {p c : Nat} (h : 0 < f.e p c) (ha : G.arc p c) : Stp G f (c, true) (p, false)
theorem Stp.res {G : GrF} {f : Flo} {y x : Nat × Bool} (h : Stp G f y x) (r : Rch G f y.1 y.2) : Rch G f x.1 x.2 := by
 cases h with
 | @thru k h =>
  by_cases hf : G.free k
  ·exact .srcF hf
  ·exact .thru r hf (h.resolve_left hf)
 | rev h => exact .rev r h
 | arc h => exact .arc r h
 | undo h _ => exact .undo r h
def bump (f : Flo) (y x : Nat × Bool) : Flo :=
 if y.1 = x.1 then ⟨upd1 f.g y.1 (if y.2 = true then 1 else -1), f.e⟩
 else if y.2 = true then ⟨f.g, upd2 f.e x.1 y.1 (-1)⟩ else ⟨f.g, upd2 f.e y.1 x.1 1⟩
structure PIn (G : GrF) (f0 f : Flo) (x : Nat × Bool) (seen : Nat × Bool → Prop) : Prop where
 e0 : ∀ p c, 0 ≤ f.e p c
 ea : ∀ p c, f.e p c ≠ 0 → G.arc p c
 cap : ∀ k, ¬ G.free k → 0 ≤ f.g k ∧ f.g k ≤ 1
 inn : ∀ k, k < G.N → ¬ G.free k → f.g k = sumN (fun p => f.e p k) G.N + ind (x = (k, true))
 out : ∀ k, k < G.N → ¬ G.free k → ¬ G.leaf k → f.g k + ind (x = (k, false)) = sumN (fun c => f.e k c) G.N
 tot : f.tot G = f0.tot G + ind (G.free x.1)
 oldT : ∀ k, ¬ seen (k, true) → f.g k = f0.g k ∧ ∀ p, f.e p k = f0.e p k
 oldF : ∀ k, ¬ seen (k, false) → f.g k = f0.g k ∧ ∀ c, f.e k c = f0.e k c
 here : seen x
theorem PIn.start {G : GrF} {f : Flo} (h : FlP G f) {l : Nat} (hl : G.leaf l) (hf : ¬ G.free l) : PIn G f f (l, false) fun z => z = (l, false) where
 e0 := h.e0
 ea := h.ea
 cap := h.cap
 inn k hk hfk := by rw [ind_no (by simp), Int.add_zero]; exact h.inn k hk hfk
 out k hk hfk hlk := by
  rw [ind_no (fun he => by rw [Prod.mk.injEq] at he; exact hlk (he.1 ▸ hl)), Int.add_zero]; exact h.out k hk hfk hlk
 tot := by rw [ind_no hf, Int.add_zero]
 oldT _ _ := ⟨rfl, fun _ => rfl⟩
 oldF _ _ := ⟨rfl, fun _ => rfl⟩
 here := rfl
theorem PIn.step {G : GrF} (hG : GrOk G) {f0 f : Flo} {x y : Nat × Bool} {seen : Nat × Bool → Prop} (h : PIn G f0 f x seen) (hs : Stp G f0 y x) (hy : ¬ seen y) (hN : y.1 < G.N) : PIn G f0 (bump f y x) y fun z => z = y ∨ seen z := by
 cases hs with
 | @thru k hk =>
  have e : bump f (k, true) (k, false) = ⟨upd1 f.g k 1, f.e⟩ := by unfold bump; rw [if_pos rfl]; rfl
  rw [e]
  obtain ⟨hg, _⟩ := h.oldT k hy
  refine ⟨h.e0, h.ea, fun i hi => ?_, fun i hi hf => ?_, fun i hi hf hl => ?_, ?_, fun i hi => ?_, fun i hi => ?_, .inl rfl⟩
  ·by_cases hik : i = k
   ·subst hik
    have := hk.resolve_left hi
    show 0 ≤ upd1 f.g i 1 i ∧ upd1 f.g i 1 i ≤ 1
    rw [upd1_at]; omega
   ·show 0 ≤ upd1 f.g k 1 i ∧ upd1 f.g k 1 i ≤ 1
    rw [upd1_ne hik]; exact h.cap i hi
  ·have h1 := h.inn i hi hf
   rw [ind_no (by simp), Int.add_zero] at h1
   show upd1 f.g k 1 i = sumN (fun p => f.e p i) G.N + _
   by_cases hik : i = k
   ·subst hik; rw [upd1_at, ind_yes rfl, h1]
   ·rw [upd1_ne hik, ind_no (fun he => hik (by rw [Prod.mk.injEq] at he; exact he.1.symm)), h1, Int.add_zero]
  ·have h1 := h.out i hi hf hl
   show upd1 f.g k 1 i + _ = sumN (fun c => f.e i c) G.N
   rw [ind_no (by simp), Int.add_zero, ← h1]
   by_cases hik : i = k
   ·subst hik; rw [upd1_at, ind_yes rfl]
   ·rw [upd1_ne hik, ind_no (fun he => hik (by rw [Prod.mk.injEq] at he; exact he.1.symm)), Int.add_zero]
  ·rw [tot_g]; exact h.tot
  ·have hik : i ≠ k := fun he => hi (.inl (by rw [he]))
   have h1 := h.oldT i fun hh => hi (.inr hh)
   exact ⟨by show upd1 f.g k 1 i = _; rw [upd1_ne hik]; exact h1.1, h1.2⟩
  ·have hik : i ≠ k := fun he => hi (.inr (by rw [he]; exact h.here))
   have h1 := h.oldF i fun hh => hi (.inr hh)
   exact ⟨by show upd1 f.g k 1 i = _; rw [upd1_ne hik]; exact h1.1, h1.2⟩
 | @rev k hk =>
  have e : bump f (k, false) (k, true) = ⟨upd1 f.g k (-1), f.e⟩ := by unfold bump; rw [if_pos rfl]; rfl
  rw [e]
  obtain ⟨hg, _⟩ := h.oldF k hy
  refine ⟨h.e0, h.ea, fun i hi => ?_, fun i hi hf => ?_, fun i hi hf hl => ?_, ?_, fun i hi => ?_, fun i hi => ?_, .inl rfl⟩
  ·by_cases hik : i = k
   ·subst hik
    have := h.cap i hi
    show 0 ≤ upd1 f.g i (-1) i ∧ upd1 f.g i (-1) i ≤ 1
    rw [upd1_at]; omega
   ·show 0 ≤ upd1 f.g k (-1) i ∧ upd1 f.g k (-1) i ≤ 1
    rw [upd1_ne hik]; exact h.cap i hi
  ·have h1 := h.inn i hi hf
   show upd1 f.g k (-1) i = sumN (fun p => f.e p i) G.N + _
   rw [ind_no (by simp), Int.add_zero]
   by_cases hik : i = k
   ·subst hik; rw [upd1_at]; rw [ind_yes rfl] at h1; omega
   ·rw [upd1_ne hik]; rw [ind_no (fun he => hik (by rw [Prod.mk.injEq] at he; exact he.1.symm))] at h1; omega
  ·have h1 := h.out i hi hf hl
   rw [ind_no (by simp), Int.add_zero] at h1
   show upd1 f.g k (-1) i + _ = sumN (fun c => f.e i c) G.N
   by_cases hik : i = k
   ·subst hik; rw [upd1_at, ind_yes rfl]; omega
   ·rw [upd1_ne hik, ind_no (fun he => hik (by rw [Prod.mk.injEq] at he; exact he.1.symm))]; omega
  ·rw [tot_g]; exact h.tot
  ·have hik : i ≠ k := fun he => hi (.inr (by rw [he]; exact h.here))
   have h1 := h.oldT i fun hh => hi (.inr hh)
   exact ⟨by show upd1 f.g k (-1) i = _; rw [upd1_ne hik]; exact h1.1, h1.2⟩
  ·have hik : i ≠ k := fun he => hi (.inl (by rw [he]))
   have h1 := h.oldF i fun hh => hi (.inr hh)
   exact ⟨by show upd1 f.g k (-1) i = _; rw [upd1_ne hik]; exact h1.1, h1.2⟩
 | @arc p c ha =>
  have hpc : p ≠ c := hG.arcI p c ha
  obtain ⟨hpN, hcN⟩ := hG.arcN p c ha
  have e : bump f (p, false) (c, true) = ⟨f.g, upd2 f.e p c 1⟩ := by unfold bump; rw [if_neg hpc]; rfl
  rw [e]
  refine ⟨fun i j => ?_, fun i j hij => ?_, h.cap, fun i hi hf => ?_, fun i hi hf hl => ?_, ?_, fun i hi => ?_, fun i hi => ?_, .inl rfl⟩
  ·show 0 ≤ upd2 f.e p c 1 i j
   have := h.e0 i j
   unfold upd2; split <;> omega
  ·by_cases hh : i = p ∧ j = c
   ·rw [hh.1, hh.2]; exact ha
   ·have hij : upd2 f.e p c 1 i j ≠ 0 := hij
    rw [upd2_ne hh] at hij
    exact h.ea i j hij
  ·have h1 := h.inn i hi hf
   show f.g i = sumN (fun q => upd2 f.e p c 1 q i) G.N + _
   rw [upd2_in hpN, ind_no (by simp), h1]
   by_cases hic : i = c
   ·subst hic; rw [ind_yes rfl, if_pos rfl]; omega
   ·rw [ind_no (fun he => hic (by rw [Prod.mk.injEq] at he; exact he.1.symm)), if_neg hic]; omega
  ·have h1 := h.out i hi hf hl
   rw [ind_no (by simp), Int.add_zero] at h1
   show f.g i + _ = sumN (fun q => upd2 f.e p c 1 i q) G.N
   rw [upd2_out hcN, h1]
   by_cases hip : i = p
   ·subst hip; rw [ind_yes rfl, if_pos rfl]
   ·rw [ind_no (fun he => hip (by rw [Prod.mk.injEq] at he; exact he.1.symm)), if_neg hip]
  ·rw [tot_upd hpN hcN, h.tot]
   dsimp only
   by_cases hfc : G.free c
   ·rw [ind_yes hfc, ind_yes (hG.arcF p c ha hfc), ind_no (fun h => h hfc)]; omega
   ·rw [ind_no hfc, ind_yes hfc]; omega
  ·have h1 := h.oldT i fun hh => hi (.inr hh)
   have hic : i ≠ c := fun he => hi (.inr (by rw [he]; exact h.here))
   exact ⟨h1.1, fun q => by show upd2 f.e p c 1 q i = _; rw [upd2_ne fun hh => hic hh.2]; exact h1.2 q⟩
  ·have h1 := h.oldF i fun hh => hi (.inr hh)
   have hip : i ≠ p := fun he => hi (.inl (by rw [he]))
   exact ⟨h1.1, fun q => by show upd2 f.e p c 1 i q = _; rw [upd2_ne fun hh => hip hh.1]; exact h1.2 q⟩
 | @undo p c h0 ha =>
  have hpc : p ≠ c := hG.arcI p c ha
  obtain ⟨hpN, hcN⟩ := hG.arcN p c ha
  have e : bump f (c, true) (p, false) = ⟨f.g, upd2 f.e p c (-1)⟩ := by unfold bump; rw [if_neg (fun h => hpc h.symm)]; rfl
  rw [e]
  obtain ⟨_, he⟩ := h.oldT c hy
  have hep := he p
  refine ⟨fun i j => ?_, fun i j hij => ?_, h.cap, fun i hi hf => ?_, fun i hi hf hl => ?_, ?_, fun i hi => ?_, fun i hi => ?_, .inl rfl⟩
  ·show 0 ≤ upd2 f.e p c (-1) i j
   have := h.e0 i j
   unfold upd2; split
   ·rename_i hh; rw [hh.1, hh.2]; omega
   ·exact this
  ·by_cases hh : i = p ∧ j = c
   ·rw [hh.1, hh.2]; exact ha
   ·have hij : upd2 f.e p c (-1) i j ≠ 0 := hij
    rw [upd2_ne hh] at hij
    exact h.ea i j hij
  ·have h1 := h.inn i hi hf
   rw [ind_no (by simp), Int.add_zero] at h1
   show f.g i = sumN (fun q => upd2 f.e p c (-1) q i) G.N + _
   rw [upd2_in hpN, h1]
   by_cases hic : i = c
   ·subst hic; rw [ind_yes rfl, if_pos rfl]; omega
   ·rw [ind_no (fun he => hic (by rw [Prod.mk.injEq] at he; exact he.1.symm)), if_neg hic]; omega
  ·have h1 := h.out i hi hf hl
   show f.g i + _ = sumN (fun q => upd2 f.e p c (-1) i q) G.N
   rw [upd2_out hcN, ind_no (by simp), ← h1]
   by_cases hip : i = p
   ·subst hip; rw [ind_yes rfl, if_pos rfl]; omega
   ·rw [ind_no (fun he => hip (by rw [Prod.mk.injEq] at he; exact he.1.symm)), if_neg hip]; omega
  ·rw [tot_upd hpN hcN, h.tot]
   dsimp only
   by_cases hfc : G.free c
   ·rw [ind_yes hfc, ind_yes (hG.arcF p c ha hfc), ind_no (fun h => h hfc)]; omega
   ·rw [ind_no hfc, ind_yes hfc]
    rcases ind_01 (G.free p) with h3 | h3 <;> rw [h3] <;> omega
  ·have h1 := h.oldT i fun hh => hi (.inr hh)
   have hic : i ≠ c := fun he => hi (.inl (by rw [he]))
   exact ⟨h1.1, fun q => by show upd2 f.e p c (-1) q i = _; rw [upd2_ne fun hh => hic hh.2]; exact h1.2 q⟩
  ·have h1 := h.oldF i fun hh => hi (.inr hh)
   have hip : i ≠ p := fun he => hi (.inr (by rw [he]; exact h.here))
   exact ⟨h1.1, fun q => by show upd2 f.e p c (-1) i q = _; rw [upd2_ne fun hh => hip hh.1]; exact h1.2 q⟩
theorem PIn.done {G : GrF} {f0 f : Flo} {x : Nat × Bool} {seen : Nat × Bool → Prop} (h : PIn G f0 f x seen) (hx : G.free x.1) : FlP G f ∧ f.tot G = f0.tot G + 1 := by
 have hne : ∀ k b, ¬ G.free k → x ≠ (k, b) := fun k b hk he => hk (by rw [he] at hx; exact hx)
 refine ⟨⟨h.e0, h.ea, h.cap, fun k hk hf => ?_, fun k hk hf hl => ?_⟩, ?_⟩
 ·have := h.inn k hk hf
  rw [ind_no (hne k true hf), Int.add_zero] at this
  exact this
 ·have := h.out k hk hf hl
  rw [ind_no (hne k false hf), Int.add_zero] at this
  exact this
 ·rw [h.tot, ind_yes hx]
inductive Way (G : GrF) (f : Flo) : Nat → Nat × Bool → Prop where
 | src {x : Nat × Bool} (h : G.free x.1) : Way G f 0 x
 | step {n : Nat} {y x : Nat × Bool} (h : Way G f n y) (hs : Stp G f y x) : Way G f (n + 1) x
theorem Rch.way {G : GrF} {f : Flo} (h : FlP G f) {k : Nat} {b : Bool} (r : Rch G f k b) : ∃ n, Way G f n (k, b) := by
 induction r with
 | srcT h => exact ⟨0, .src h⟩
 | srcF h => exact ⟨0, .src h⟩
 | thru _ _ h0 ih => obtain ⟨n, hn⟩ := ih; exact ⟨n + 1, .step hn (.thru (.inr h0))⟩
 | @undo k p _ h0 ih => obtain ⟨n, hn⟩ := ih; exact ⟨n + 1, .step hn (.undo h0 (h.ea p k (by omega)))⟩
 | arc _ ha ih => obtain ⟨n, hn⟩ := ih; exact ⟨n + 1, .step hn (.arc ha)⟩
 | rev _ h0 ih => obtain ⟨n, hn⟩ := ih; exact ⟨n + 1, .step hn (.rev h0)⟩
theorem Way.rch {G : GrF} {f : Flo} {n : Nat} {x : Nat × Bool} (h : Way G f n x) : Rch G f x.1 x.2 := by
 induction h with
 | @src x h =>
  cases hb : x.2
  ·exact .srcF h
  ·exact .srcT h
 | step _ hs ih => exact hs.res ih
theorem aug_core {G : GrF} (hG : GrOk G) {f0 : Flo} (h0 : FlP G f0) (hf : ∀ k, G.free k → k < G.N) : ∀ (n : Nat) (x : Nat × Bool) (f : Flo) (seen : Nat × Bool → Prop), Way G f0 n x → (∀ m, m < n → ¬ Way G f0 m x) → PIn G f0 f x seen → (∀ z, seen z → ∀ m, m < n → ¬ Way G f0 m z) → ∃ f', FlP G f' ∧ f'.tot G = f0.tot G + 1
 | 0, x, f, seen, hw, _, hp, _ => by
  cases hw with
  | src h => exact ⟨f, hp.done h⟩
 | n + 1, x, f, seen, hw, hmin, hp, hs => by
  cases hw with
  | @step _ y _ hy hst =>
   have hny : ¬ seen y := fun h => hs y h n (by omega) hy
   have hym : ∀ m, m < n → ¬ Way G f0 m y := fun m hm h => hmin (m + 1) (by omega) (.step h hst)
   refine aug_core hG h0 hf n y _ _ hy hym (hp.step hG hst hny (hy.rch.lt hG h0 hf)) fun z hz m hm => ?_
   rcases hz with rfl | hz
   ·exact hym m hm
   ·exact hs z hz m (by omega)
theorem way_min {G : GrF} {f : Flo} {x : Nat × Bool} : ∀ n, Way G f n x → ∃ m, Way G f m x ∧ ∀ j, j < m → ¬ Way G f j x := by
 intro n
 induction n using Nat.strongRecOn with
 | _ n ih =>
  intro h
  by_cases hex : ∃ j, j < n ∧ Way G f j x
  ·obtain ⟨j, hj, hw⟩ := hex; exact ih j hj hw
  ·exact ⟨n, h, fun j hj hw => hex ⟨j, hj, hw⟩⟩
theorem aug {G : GrF} (hG : GrOk G) {f : Flo} (h : FlP G f) (hf : ∀ k, G.free k → k < G.N) (hl : ∀ k, G.leaf k → ¬ G.free k) (ht : ¬ Term G f) : ∃ f', FlP G f' ∧ f'.tot G = f.tot G + 1 := by
 have hex : ∃ k, Rch G f k false ∧ G.leaf k := Classical.byContradiction fun hno => ht fun k hr hk => hno ⟨k, hr, hk⟩
 obtain ⟨k, hr, hk⟩ := hex
 obtain ⟨n, hn⟩ := hr.way h
 obtain ⟨m, hm, hmin⟩ := way_min n hn
 refine aug_core hG h hf m (k, false) f _ hm hmin (PIn.start h hk (hl k hk)) fun z hz j hj => ?_
 rw [hz]; exact hmin j hj
theorem flow_zero (G : GrF) : FlP G ⟨fun _ => 0, fun _ _ => 0⟩ ∧ Flo.tot G ⟨fun _ => 0, fun _ _ => 0⟩ = 0 := by
 refine ⟨⟨fun _ _ => Int.le_refl _, fun _ _ h => absurd rfl h, fun _ _ => ⟨Int.le_refl _, show (0 : Int) ≤ 1 by decide⟩, fun k _ _ => (sumN_zero _).symm, fun k _ _ _ => (sumN_zero _).symm⟩, ?_⟩
 unfold Flo.tot
 have e : ∀ p, ind (G.free p) * sumN (fun c => ind (¬ G.free c) * (0 : Int)) G.N = 0 := fun p => by
  rw [sumN_congr G.N (g := fun _ => 0) fun c _ => Int.mul_zero _, sumN_zero, Int.mul_zero]
 rw [sumN_congr G.N (g := fun _ => 0) fun p _ => e p, sumN_zero]
theorem flow_or {G : GrF} (hG : GrOk G) (hf : ∀ k, G.free k → k < G.N) (hl : ∀ k, G.leaf k → ¬ G.free k) : ∀ j : Nat, (∃ f, FlP G f ∧ Term G f ∧ f.tot G < j) ∨ ∃ f, FlP G f ∧ f.tot G = j
 | 0 => .inr ⟨_, flow_zero G⟩
 | j + 1 => by
  rcases flow_or hG hf hl j with ⟨f, h1, h2, h3⟩ | ⟨f, h1, h2⟩
  ·exact .inl ⟨f, h1, h2, by omega⟩
  ·by_cases ht : Term G f
   ·exact .inl ⟨f, h1, ht, by omega⟩
   ·obtain ⟨f', h3, h4⟩ := aug hG h1 hf hl ht
    exact .inr ⟨f', h3, by rw [h4, h2]; rfl⟩
end Go.Xw
