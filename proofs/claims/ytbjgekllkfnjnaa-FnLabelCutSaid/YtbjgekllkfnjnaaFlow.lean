/- Flows and cuts in a graph of numbered nodes; plain data, no condition but the stated ones. -/
import Derived.Test.YtbjgekllkfnjnaaCutLaw
set_option linter.all false
namespace Go.Xw
set_option maxHeartbeats 1000000
def sumN (f : Nat → Int) : Nat → Int
 | 0 => 0
 | n + 1 => sumN f n + f n
theorem sumN_congr {f g : Nat → Int} : ∀ n, (∀ i, i < n → f i = g i) → sumN f n = sumN g n
 | 0, _ => rfl
 | n + 1, h => by rw [sumN, sumN, sumN_congr n (fun i hi => h i (by omega)), h n (by omega)]
theorem sumN_zero : ∀ n, sumN (fun _ => 0) n = 0
 | 0 => rfl
 | n + 1 => by rw [sumN, sumN_zero n]; rfl
theorem sumN_add (f g : Nat → Int) : ∀ n, sumN (fun i => f i + g i) n = sumN f n + sumN g n
 | 0 => rfl
 | n + 1 => by rw [sumN, sumN, sumN, sumN_add f g n]; omega
theorem sumN_nn {f : Nat → Int} : ∀ n, (∀ i, i < n → 0 ≤ f i) → 0 ≤ sumN f n
 | 0, _ => Int.le_refl _
 | n + 1, h => by
  have := sumN_nn n fun i hi => h i (by omega)
  have := h n (by omega)
  rw [sumN]; omega
theorem sumN_le {f g : Nat → Int} : ∀ n, (∀ i, i < n → f i ≤ g i) → sumN f n ≤ sumN g n
 | 0, _ => Int.le_refl _
 | n + 1, h => by
  have := sumN_le n fun i hi => h i (by omega)
  have := h n (by omega)
  rw [sumN, sumN]; omega
theorem sumN_comm (f : Nat → Nat → Int) (m : Nat) : ∀ n, sumN (fun i => sumN (fun j => f i j) m) n = sumN (fun j => sumN (fun i => f i j) n) m
 | 0 => by
  have : sumN (fun j => sumN (fun i => f i j) 0) m = sumN (fun _ => 0) m := sumN_congr m fun _ _ => rfl
  rw [this, sumN_zero]; rfl
 | n + 1 => by
  rw [sumN, sumN_comm f m n, ← sumN_add]
  rfl
theorem sumN_each {f : Nat → Int} : ∀ n, (∀ i, i < n → 0 ≤ f i) → sumN f n ≤ 0 → ∀ i, i < n → f i = 0
 | 0, _, _, _, h => by omega
 | n + 1, h, hs, i, hi => by
  have h1 := sumN_nn n fun i hi => h i (by omega)
  have h2 := h n (by omega)
  rw [sumN] at hs
  by_cases hin : i = n
  ·subst hin; omega
  ·exact sumN_each n (fun i hi => h i (by omega)) (by omega) i (by omega)
theorem sumN_ge {f : Nat → Int} : ∀ n, (∀ i, i < n → 0 ≤ f i) → ∀ i, i < n → f i ≤ sumN f n
 | 0, _, _, h => by omega
 | n + 1, h, i, hi => by
  have h1 := sumN_nn n fun i hi => h i (by omega)
  have h2 := h n (by omega)
  rw [sumN]
  by_cases hin : i = n
  ·subst hin; omega
  ·have := sumN_ge n (fun i hi => h i (by omega)) i (by omega)
   omega
theorem sumN_upd {f g : Nat → Int} {j : Nat} {d : Int} : ∀ n, (∀ i, i ≠ j → g i = f i) → g j = f j + d → sumN g n = sumN f n + if j < n then d else 0
 | 0, _, _ => by simp [sumN]
 | n + 1, h, hj => by
  rw [sumN, sumN, sumN_upd n h hj]
  by_cases hn : n = j
  ·subst hn; rw [hj, if_neg (by omega), if_pos (by omega)]; omega
  ·rw [h n hn]
   by_cases h2 : j < n
   ·rw [if_pos h2, if_pos (by omega)]; omega
   ·rw [if_neg h2, if_neg (by omega)]; omega
noncomputable def ind (p : Prop) : Int := @ite _ p (Classical.propDecidable _) 1 0
theorem ind_yes {p : Prop} (h : p) : ind p = 1 := by unfold ind; rw [if_pos h]
theorem ind_no {p : Prop} (h : ¬ p) : ind p = 0 := by unfold ind; rw [if_neg h]
theorem ind_or {p q : Prop} (h : p → ¬ q) : ind (p ∨ q) = ind p + ind q := by
 by_cases h1 : p
 ·rw [ind_yes (.inl h1), ind_yes h1, ind_no (h h1)]; rfl
 ·by_cases h2 : q
  ·rw [ind_yes (.inr h2), ind_no h1, ind_yes h2]; rfl
  ·rw [ind_no (fun h => h.elim h1 h2), ind_no h1, ind_no h2]; rfl
theorem ind_01 (p : Prop) : ind p = 0 ∨ ind p = 1 := by
 by_cases h : p
 ·exact .inr (ind_yes h)
 ·exact .inl (ind_no h)
theorem ind_iff {p q : Prop} (h : p ↔ q) : ind p = ind q := by rw [propext h]
noncomputable def cntN (p : Nat → Prop) (n : Nat) : Int := sumN (fun i => ind (p i)) n
structure GrF where
 N : Nat
 arc : Nat → Nat → Prop
 free : Nat → Prop
 leaf : Nat → Prop
structure GrOk (G : GrF) : Prop where
 arcN : ∀ p c, G.arc p c → p < G.N ∧ c < G.N
 arcL : ∀ p c, G.arc p c → ¬ G.leaf p
 arcF : ∀ p c, G.arc p c → G.free c → G.free p
 arcI : ∀ p c, G.arc p c → p ≠ c
structure Flo where
 g : Nat → Int
 e : Nat → Nat → Int
structure FlP (G : GrF) (f : Flo) : Prop where
 e0 : ∀ p c, 0 ≤ f.e p c
 ea : ∀ p c, f.e p c ≠ 0 → G.arc p c
 cap : ∀ k, ¬ G.free k → 0 ≤ f.g k ∧ f.g k ≤ 1
 inn : ∀ k, k < G.N → ¬ G.free k → f.g k = sumN (fun p => f.e p k) G.N
 out : ∀ k, k < G.N → ¬ G.free k → ¬ G.leaf k → f.g k = sumN (fun c => f.e k c) G.N
noncomputable def Flo.tot (G : GrF) (f : Flo) : Int := sumN (fun p => ind (G.free p) * sumN (fun c => ind (¬ G.free c) * f.e p c) G.N) G.N
structure CutG (G : GrF) (A Y : Nat → Prop) : Prop where
 down : ∀ p c, A p → G.arc p c → A c ∨ Y c
 apart : ∀ k, A k → ¬ Y k
 free : ∀ k, G.free k → A k
 leaf : ∀ k, A k → ¬ G.leaf k
 yn : ∀ k, Y k → k < G.N
noncomputable def Flo.back (G : GrF) (f : Flo) (A Y : Nat → Prop) : Int := sumN (fun p => ind (¬ A p) * sumN (fun c => ind ((A c ∧ ¬ G.free c) ∨ Y c) * f.e p c) G.N) G.N
theorem cut_flow {G : GrF} (hG : GrOk G) {f : Flo} (h : FlP G f) {A Y : Nat → Prop} (hc : CutG G A Y) : sumN (fun k => ind (Y k) * f.g k) G.N = f.tot G + f.back G A Y := by
 have hYf : ∀ k, Y k → ¬ G.free k := fun k hy hf => hc.apart k (hc.free k hf) hy
 have s1 : sumN (fun k => ind (A k ∧ ¬ G.free k) * f.g k) G.N = sumN (fun k => ind (A k ∧ ¬ G.free k) * sumN (fun c => f.e k c) G.N) G.N := sumN_congr _ fun k hk => by
  by_cases ha : A k ∧ ¬ G.free k
  ·rw [h.out k hk ha.2 (hc.leaf k ha.1)]
  ·rw [ind_no ha, Int.zero_mul, Int.zero_mul]
 have s2 : sumN (fun k => ind ((A k ∧ ¬ G.free k) ∨ Y k) * f.g k) G.N = sumN (fun k => ind (A k ∧ ¬ G.free k) * f.g k) G.N + sumN (fun k => ind (Y k) * f.g k) G.N := by
  rw [← sumN_add]
  refine sumN_congr _ fun k _ => ?_
  rw [ind_or (fun ha => hc.apart k ha.1), Int.add_mul]
 have s3 : sumN (fun k => ind ((A k ∧ ¬ G.free k) ∨ Y k) * f.g k) G.N = sumN (fun k => sumN (fun p => ind ((A k ∧ ¬ G.free k) ∨ Y k) * f.e p k) G.N) G.N := sumN_congr _ fun k hk => by
  by_cases ha : (A k ∧ ¬ G.free k) ∨ Y k
  ·have hf : ¬ G.free k := ha.elim (fun h => h.2) (hYf k)
   rw [ind_yes ha, Int.one_mul, h.inn k hk hf]
   exact sumN_congr _ fun p _ => by rw [Int.one_mul]
  ·rw [ind_no ha, Int.zero_mul]
   have : sumN (fun p => 0 * f.e p k) G.N = sumN (fun _ => 0) G.N := sumN_congr _ fun p _ => Int.zero_mul _
   rw [this, sumN_zero]
 rw [sumN_comm] at s3
 have s4 : sumN (fun p => sumN (fun k => ind ((A k ∧ ¬ G.free k) ∨ Y k) * f.e p k) G.N) G.N =
   sumN (fun p => (ind (G.free p) * sumN (fun c => ind (¬ G.free c) * f.e p c) G.N + ind (A p ∧ ¬ G.free p) * sumN (fun c => f.e p c) G.N) + ind (¬ A p) * sumN (fun c => ind ((A c ∧ ¬ G.free c) ∨ Y c) * f.e p c) G.N) G.N := sumN_congr _ fun p _ => by
  by_cases hfp : G.free p
  ·have hap := hc.free p hfp
   rw [ind_yes hfp, ind_no (fun h => h.2 hfp), ind_no (fun h => h hap), Int.zero_mul, Int.zero_mul, Int.one_mul, Int.add_zero, Int.add_zero]
   refine sumN_congr _ fun c _ => ?_
   by_cases he : f.e p c = 0
   ·rw [he, Int.mul_zero, Int.mul_zero]
   ·congr 1
    refine ind_iff ⟨fun h => h.elim (fun h => h.2) (hYf c), fun h2 => ?_⟩
    exact (hc.down p c hap (h.ea p c he)).imp (fun h => ⟨h, h2⟩) id
  ·by_cases hap : A p
   ·rw [ind_no hfp, ind_yes ⟨hap, hfp⟩, ind_no (fun h => h hap), Int.zero_mul, Int.zero_mul, Int.one_mul, Int.add_zero, Int.zero_add]
    refine sumN_congr _ fun c _ => ?_
    by_cases he : f.e p c = 0
    ·rw [he, Int.mul_zero]
    ·have harc := h.ea p c he
     rw [ind_yes ((hc.down p c hap harc).imp (fun h2 => ⟨h2, fun h3 => hfp (hG.arcF p c harc h3)⟩) id), Int.one_mul]
   ·rw [ind_no hfp, ind_no (fun h => hap h.1), ind_yes hap, Int.zero_mul, Int.zero_mul, Int.one_mul, Int.add_zero, Int.zero_add]
 rw [s4, sumN_add, sumN_add] at s3
 unfold Flo.tot Flo.back
 omega
theorem back_nn {G : GrF} {f : Flo} (h : FlP G f) (A Y : Nat → Prop) : 0 ≤ f.back G A Y := by
 refine sumN_nn _ fun p _ => ?_
 have h2 : 0 ≤ sumN (fun c => ind ((A c ∧ ¬ G.free c) ∨ Y c) * f.e p c) G.N := sumN_nn _ fun c _ => by
  have := h.e0 p c
  rcases ind_01 ((A c ∧ ¬ G.free c) ∨ Y c) with h3 | h3 <;> rw [h3] <;> omega
 rcases ind_01 (¬ A p) with h3 | h3 <;> rw [h3] <;> omega
theorem cut_le {G : GrF} {f : Flo} (h : FlP G f) {A Y : Nat → Prop} (hc : CutG G A Y) : sumN (fun k => ind (Y k) * f.g k) G.N ≤ cntN Y G.N := by
 refine sumN_le _ fun k _ => ?_
 by_cases hy : Y k
 ·have := h.cap k fun hf => hc.apart k (hc.free k hf) hy
  rw [ind_yes hy]; omega
 ·rw [ind_no hy, Int.zero_mul]; exact Int.le_refl _
theorem flow_le {G : GrF} (hG : GrOk G) {f : Flo} (h : FlP G f) {A Y : Nat → Prop} (hc : CutG G A Y) : f.tot G ≤ cntN Y G.N := by
 have h1 := cut_flow hG h hc
 have h2 := back_nn h A Y
 have h3 := cut_le h hc
 omega
theorem flow_tight {G : GrF} (hG : GrOk G) {f : Flo} (h : FlP G f) {A Y : Nat → Prop} (hc : CutG G A Y) (he : cntN Y G.N ≤ f.tot G) : (∀ k, Y k → f.g k = 1) ∧ ∀ p c, ¬ A p → ((A c ∧ ¬ G.free c) ∨ Y c) → f.e p c = 0 := by
 have h1 := cut_flow hG h hc
 have h2 := back_nn h A Y
 have h3 := cut_le h hc
 constructor
 ·intro k hk
  have h4 : sumN (fun k => ind (Y k) * (1 - f.g k)) G.N ≤ 0 := by
   have e : sumN (fun k => ind (Y k) * (1 - f.g k)) G.N + sumN (fun k => ind (Y k) * f.g k) G.N = cntN Y G.N := by
    rw [← sumN_add]
    exact sumN_congr _ fun k _ => by rw [← Int.mul_add]; rw [show (1 - f.g k + f.g k) = 1 by omega, Int.mul_one]
   omega
  have h5 := sumN_each (f := fun k => ind (Y k) * (1 - f.g k)) G.N (fun k _ => by
   by_cases hy : Y k
   ·have := h.cap k fun hf => hc.apart k (hc.free k hf) hy
    rw [ind_yes hy]; omega
   ·rw [ind_no hy, Int.zero_mul]; exact Int.le_refl _) h4 k (hc.yn k hk)
  rw [ind_yes hk] at h5
  omega
 ·intro p c hp hcc
  refine Classical.byContradiction fun hne => ?_
  have harc := hG.arcN p c (h.ea p c hne)
  have h0 := h.e0 p c
  have hin : ∀ p, 0 ≤ sumN (fun c => ind ((A c ∧ ¬ G.free c) ∨ Y c) * f.e p c) G.N := fun p => sumN_nn _ fun c _ => by
   have := h.e0 p c
   rcases ind_01 ((A c ∧ ¬ G.free c) ∨ Y c) with h3 | h3 <;> rw [h3] <;> omega
  have h4 := sumN_ge (f := fun p => ind (¬ A p) * sumN (fun c => ind ((A c ∧ ¬ G.free c) ∨ Y c) * f.e p c) G.N) G.N (fun p _ => by
   have := hin p
   rcases ind_01 (¬ A p) with h3 | h3 <;> rw [h3] <;> omega) p harc.1
  have h5 := sumN_ge (f := fun c => ind ((A c ∧ ¬ G.free c) ∨ Y c) * f.e p c) G.N (fun c _ => by
   have := h.e0 p c
   rcases ind_01 ((A c ∧ ¬ G.free c) ∨ Y c) with h3 | h3 <;> rw [h3] <;> omega) c harc.2
  rw [ind_yes hp] at h4
  rw [ind_yes hcc] at h5
  have e : f.back G A Y = sumN (fun p => ind (¬ A p) * sumN (fun c => ind ((A c ∧ ¬ G.free c) ∨ Y c) * f.e p c) G.N) G.N := rfl
  omega
inductive Rch (G : GrF) (f : Flo) : Nat → Bool → Prop where
 | srcT {k : Nat} (h : G.free k) : Rch G f k true
 | srcF {k : Nat} (h : G.free k) : Rch G f k false
 | thru {k : Nat} (h : Rch G f k true) (hk : ¬ G.free k) (h0 : f.g k = 0) : Rch G f k false
 | undo {k p : Nat} (h : Rch G f k true) (h0 : 0 < f.e p k) : Rch G f p false
 | arc {k c : Nat} (h : Rch G f k false) (ha : G.arc k c) : Rch G f c true
 | rev {k : Nat} (h : Rch G f k false) (h0 : 0 < f.g k) : Rch G f k true
def Term (G : GrF) (f : Flo) : Prop := ∀ k, Rch G f k false → ¬ G.leaf k
def NrC (G : GrF) (f : Flo) (k : Nat) : Prop := Rch G f k true ∧ ¬ Rch G f k false
theorem Rch.lt {G : GrF} (hG : GrOk G) {f : Flo} (h : FlP G f) (hf : ∀ k, G.free k → k < G.N) {k : Nat} {b : Bool} (r : Rch G f k b) : k < G.N := by
 induction r with
 | srcT h1 => exact hf _ h1
 | srcF h1 => exact hf _ h1
 | thru _ _ _ ih => exact ih
 | @undo k p _ h0 _ => exact (hG.arcN p k (h.ea p k (by omega))).1
 | arc _ ha _ => exact (hG.arcN _ _ ha).2
 | rev _ _ ih => exact ih
theorem near_cut {G : GrF} (hG : GrOk G) {f : Flo} (h : FlP G f) (hf : ∀ k, G.free k → k < G.N) (ht : Term G f) : CutG G (fun k => Rch G f k false) (NrC G f) where
 down p c hp ha := by
  by_cases h1 : Rch G f c false
  ·exact .inl h1
  ·exact .inr ⟨.arc hp ha, h1⟩
 apart k h1 h2 := h2.2 h1
 free k h1 := .srcF h1
 leaf k h1 := ht k h1
 yn k h1 := Rch.lt hG h hf h1.1
theorem near_cnt {G : GrF} (hG : GrOk G) {f : Flo} (h : FlP G f) (hf : ∀ k, G.free k → k < G.N) (ht : Term G f) : cntN (NrC G f) G.N = f.tot G := by
 have hc := near_cut hG h hf ht
 have h1 := cut_flow hG h hc
 have h2 : f.back G (fun k => Rch G f k false) (NrC G f) = 0 := by
  have e : f.back G (fun k => Rch G f k false) (NrC G f) = sumN (fun _ => 0) G.N := sumN_congr _ fun p hp => by
   by_cases hr : Rch G f p false
   ·rw [ind_no (fun h => h hr), Int.zero_mul]
   ·have e2 : sumN (fun c => ind ((Rch G f c false ∧ ¬ G.free c) ∨ NrC G f c) * f.e p c) G.N = sumN (fun _ => 0) G.N := sumN_congr _ fun c hcN => by
     by_cases hx : (Rch G f c false ∧ ¬ G.free c) ∨ NrC G f c
     ·have h0 := h.e0 p c
      have hz : f.e p c = 0 := Classical.byContradiction fun hne => hr (by
       rcases hx with ⟨h3, h4⟩ | h3
       ·have h5 := h.inn c hcN h4
        have h6 := sumN_ge (f := fun p => f.e p c) G.N (fun q _ => h.e0 q c) p hp
        exact .undo (.rev h3 (by omega)) (by omega)
       ·exact .undo h3.1 (by omega))
      rw [hz, Int.mul_zero]
     ·rw [ind_no hx, Int.zero_mul]
    rw [e2, sumN_zero, Int.mul_zero]
  rw [e, sumN_zero]
 have h3 : sumN (fun k => ind (NrC G f k) * f.g k) G.N = cntN (NrC G f) G.N := sumN_congr _ fun k _ => by
  by_cases hx : NrC G f k
  ·have hnf : ¬ G.free k := fun h4 => hx.2 (.srcF h4)
   have hcap := h.cap k hnf
   have hne : f.g k ≠ 0 := fun h4 => hx.2 (.thru hx.1 hnf h4)
   rw [ind_yes hx]; omega
  ·rw [ind_no hx, Int.zero_mul]
 omega
theorem near_in {G : GrF} (hG : GrOk G) {f : Flo} (h : FlP G f) {A Y : Nat → Prop} (hc : CutG G A Y) (he : cntN Y G.N ≤ f.tot G) {k : Nat} {b : Bool} (r : Rch G f k b) : (b = true → A k ∨ Y k) ∧ (b = false → A k) := by
 obtain ⟨t1, t2⟩ := flow_tight hG h hc he
 induction r with
 | srcT h1 => exact ⟨fun _ => .inl (hc.free _ h1), fun h => by cases h⟩
 | srcF h1 => exact ⟨fun h => (by cases h), fun _ => hc.free _ h1⟩
 | thru h1 h2 h3 ih =>
  refine ⟨fun h => (by cases h), fun _ => (ih.1 rfl).resolve_right fun hy => ?_⟩
  have := t1 _ hy
  omega
 | @undo k p h1 h2 ih =>
  refine ⟨fun h => (by cases h), fun _ => Classical.byContradiction fun hp => ?_⟩
  have harc := h.ea p k (by omega)
  by_cases hfk : G.free k
  ·exact hp (hc.free p (hG.arcF p k harc hfk))
  ·have := t2 p k hp ((ih.1 rfl).imp (fun h => ⟨h, hfk⟩) id)
   omega
 | arc h1 h2 ih => exact ⟨fun _ => hc.down _ _ (ih.2 rfl) h2, fun h => by cases h⟩
 | rev h1 h2 ih => exact ⟨fun _ => .inl (ih.2 rfl), fun h => by cases h⟩
theorem near_one {G : GrF} (hG : GrOk G) {f f' : Flo} (h : FlP G f) (h' : FlP G f') (hf : ∀ k, G.free k → k < G.N) (ht : Term G f) (ht' : Term G f') : (∀ k, NrC G f k ↔ NrC G f' k) ∧ f.tot G = f'.tot G := by
 have c := near_cut hG h hf ht
 have c' := near_cut hG h' hf ht'
 have n := near_cnt hG h hf ht
 have n' := near_cnt hG h' hf ht'
 have l := flow_le hG h c'
 have l' := flow_le hG h' c
 have key : ∀ {f f' : Flo}, FlP G f → FlP G f' → Term G f → Term G f' → cntN (NrC G f') G.N ≤ f.tot G → cntN (NrC G f) G.N ≤ f'.tot G → ∀ k, NrC G f k → NrC G f' k := fun {f f'} h h' ht ht' he he' k hk => by
  have h1 := (near_in hG h (near_cut hG h' hf ht') he hk.1).1 rfl
  refine h1.resolve_left fun h2 => ?_
  have h3 := (near_in hG h' (near_cut hG h hf ht) he' h2).2 rfl
  exact hk.2 h3
 exact ⟨fun k => ⟨key h h' ht ht' (by omega) (by omega) k, key h' h ht' ht (by omega) (by omega) k⟩, by omega⟩
end Go.Xw
