/- Expressions: the program's adder and the reference's give the same net and literals, or both have no room; plain data, no condition but the stated ones. -/
import Derived.Test.YtiepmliokblkjaaGreatExprLaw
set_option linter.all false
namespace Go.Xw
open Go.Proofs
set_option maxHeartbeats 1000000
section
variable {σ : Type} (A : Ad σ)
theorem bitTo_len (f : σ → Int → Int → σ × Int) (s : σ) (a b : List Int) : ∀ k, (bitTo f s a b k).2.length = k
 | 0 => rfl
 | k + 1 => by rw [bitTo, List.length_append, bitTo_len f s a b k]; rfl
theorem sumTo_len (s : σ) (a b : List Int) (c : Int) : ∀ k, (sumTo A s a b c k).2.1.length = k
 | 0 => rfl
 | k + 1 => by
  have ih := sumTo_len s a b c k
  unfold sumTo
  split
  ·rw [List.length_append, ih]; rfl
  ·rw [List.length_append, ih]; rfl
theorem leafE_len (sig : List (List Int)) (w : Nat) (o : OpL) : (leafE sig w o).length = w := by simp [leafE]
theorem twoA_len {w : Nat} (kind : Int) (s : σ) {a b : List Int} (ha : a.length = w) : (twoA A w kind s a b).2.length = w := by
 unfold twoA
 split
 ·exact (sumTo_len A s a b _ _).trans ha
 split
 ·exact (sumTo_len A s a _ _ _).trans ha
 split
 ·simp [loneL]
 split
 ·simp [loneL]
 split
 ·exact (bitTo_len _ s a b _).trans ha
 split
 ·exact (bitTo_len _ s a b _).trans ha
 ·exact (bitTo_len _ s a b _).trans ha
theorem evA_len (sig : List (List Int)) (w : Nat) : ∀ (t : ExT) (s : σ), (evA A sig w t s).2.length = w
 | .leaf o, s => leafE_len sig w o
 | .un o x, s => by show ((evA A sig w x s).2.map A.not).length = w; rw [List.length_map]; exact evA_len sig w x s
 | .bin o x y, s => twoA_len A _ _ (evA_len sig w x s)
 | .tri o x y z, s => (bitTo_len _ _ _ _ _).trans (evA_len sig w y _)
structure AdOk (I : σ → Prop) (V : σ → Int → Prop) (le : σ → σ → Prop) : Prop where
 refl : ∀ s, le s s
 trans : ∀ {a b c}, le a b → le b c → le a c
 mono : ∀ {s s' z}, le s s' → V s z → V s' z
 zero : ∀ s, I s → V s 0
 one : ∀ s, I s → V s 1
 and : ∀ {s a b}, I s → V s a → V s b → I (A.and s a b).1 ∧ V (A.and s a b).1 (A.and s a b).2 ∧ le s (A.and s a b).1
 or : ∀ {s a b}, I s → V s a → V s b → I (A.or s a b).1 ∧ V (A.or s a b).1 (A.or s a b).2 ∧ le s (A.or s a b).1
 xor : ∀ {s a b}, I s → V s a → V s b → I (A.xor s a b).1 ∧ V (A.xor s a b).1 (A.xor s a b).2 ∧ le s (A.xor s a b).1
 mux : ∀ {s c a b}, I s → V s c → V s a → V s b → I (A.mux s c a b).1 ∧ V (A.mux s c a b).1 (A.mux s c a b).2 ∧ le s (A.mux s c a b).1
 not : ∀ {s a}, I s → V s a → V s (A.not a)
variable {A} {I : σ → Prop} {V : σ → Int → Prop} {le : σ → σ → Prop} (H : AdOk A I V le)
structure Gd (I : σ → Prop) (V : σ → Int → Prop) (le : σ → σ → Prop) (s : σ) (r : σ × List Int) : Prop where
 i : I r.1
 v : ∀ z, z ∈ r.2 → V r.1 z
 le_ : le s r.1
include H
theorem getD_V {s : σ} {a : List Int} (hI : I s) (ha : ∀ z, z ∈ a → V s z) (k : Nat) : V s (a.getD k default) := by
 by_cases h : k < a.length
 ·exact ha _ (getD_mem h)
 ·rw [List.getD_eq_getElem?_getD, List.getElem?_eq_none (by omega)]
  exact H.zero s hI
theorem bit_good {s : σ} {f : σ → Int → Int → σ × Int} (hf : ∀ s' x y, le s s' → I s' → V s' x → V s' y → I (f s' x y).1 ∧ V (f s' x y).1 (f s' x y).2 ∧ le s' (f s' x y).1) {a b : List Int} (hI : I s) (ha : ∀ z, z ∈ a → V s z) (hb : ∀ z, z ∈ b → V s z) : ∀ k, Gd I V le s (bitTo f s a b k)
 | 0 => ⟨hI, by simp [bitTo], H.refl s⟩
 | k + 1 => by
  have ih := bit_good hf hI ha hb k
  obtain ⟨h1, h2, h3⟩ := hf _ _ _ ih.le_ ih.i (H.mono ih.le_ (getD_V H hI ha k)) (H.mono ih.le_ (getD_V H hI hb k))
  refine ⟨h1, fun z hz => ?_, H.trans ih.le_ h3⟩
  rcases List.mem_append.1 hz with hz | hz
  ·exact H.mono h3 (ih.v z hz)
  ·simp at hz; subst hz; exact h2
theorem sum_good {s : σ} {a b : List Int} {c : Int} (hI : I s) (ha : ∀ z, z ∈ a → V s z) (hb : ∀ z, z ∈ b → V s z) (hc : V s c) : ∀ k, Gd I V le s ((sumTo A s a b c k).1, (sumTo A s a b c k).2.1) ∧ V (sumTo A s a b c k).1 (sumTo A s a b c k).2.2
 | 0 => ⟨⟨hI, by simp [sumTo], H.refl s⟩, hc⟩
 | k + 1 => by
  obtain ⟨ih, ihc⟩ := sum_good hI ha hb hc k
  obtain ⟨r, hr⟩ : ∃ r, r = sumTo A s a b c k := ⟨_, rfl⟩
  rw [← hr] at ih ihc
  have va := H.mono ih.le_ (getD_V H hI ha k)
  have vb := H.mono ih.le_ (getD_V H hI hb k)
  obtain ⟨x1, x2, x3⟩ := H.xor ih.i va vb
  obtain ⟨y1, y2, y3⟩ := H.xor x1 x2 (H.mono x3 ihc)
  have l1 := H.trans x3 y3
  obtain ⟨p1, p2, p3⟩ := H.and y1 (H.mono l1 va) (H.mono l1 vb)
  have l2 := H.trans l1 p3
  obtain ⟨q1, q2, q3⟩ := H.and p1 (H.mono (H.trans y3 p3) x2) (H.mono l2 ihc)
  obtain ⟨c1, c2, c3⟩ := H.or q1 (H.mono q3 p2) q2
  have l3 := H.trans (H.trans l2 q3) c3
  unfold sumTo
  rw [← hr]
  split
  ·refine ⟨⟨c1, fun z hz => ?_, H.trans ih.le_ l3⟩, c2⟩
   rcases List.mem_append.1 hz with hz | hz
   ·exact H.mono l3 (ih.v z hz)
   ·simp at hz; subst hz; exact H.mono (H.trans (H.trans p3 q3) c3) y2
  ·refine ⟨⟨y1, fun z hz => ?_, H.trans ih.le_ l1⟩, H.mono l1 ihc⟩
   rcases List.mem_append.1 hz with hz | hz
   ·exact H.mono l1 (ih.v z hz)
   ·simp at hz; subst hz; exact y2
theorem cmp_good (eq : Bool) {s : σ} {a b : List Int} (hI : I s) (ha : ∀ z, z ∈ a → V s z) (hb : ∀ z, z ∈ b → V s z) : ∀ k, I (cmpTo A eq s a b k).1 ∧ V (cmpTo A eq s a b k).1 (cmpTo A eq s a b k).2 ∧ le s (cmpTo A eq s a b k).1
 | 0 => ⟨hI, by unfold cmpTo; cases eq; exact H.zero s hI; exact H.one s hI, H.refl s⟩
 | k + 1 => by
  obtain ⟨i1, i2, i3⟩ := cmp_good eq hI ha hb k
  have va := H.mono i3 (getD_V H hI ha k)
  have vb := H.mono i3 (getD_V H hI hb k)
  obtain ⟨x1, x2, x3⟩ := H.xor i1 va vb
  unfold cmpTo
  split
  ·obtain ⟨y1, y2, y3⟩ := H.and x1 (H.mono x3 i2) (H.not x1 x2)
   exact ⟨y1, y2, H.trans i3 (H.trans x3 y3)⟩
  ·obtain ⟨y1, y2, y3⟩ := H.mux x1 x2 (H.mono x3 vb) (H.mono x3 i2)
   exact ⟨y1, y2, H.trans i3 (H.trans x3 y3)⟩
theorem any_good {s : σ} {a : List Int} (hI : I s) (ha : ∀ z, z ∈ a → V s z) : ∀ k, I (anyTo A s a k).1 ∧ V (anyTo A s a k).1 (anyTo A s a k).2 ∧ le s (anyTo A s a k).1
 | 0 => ⟨hI, H.zero s hI, H.refl s⟩
 | k + 1 => by
  obtain ⟨i1, i2, i3⟩ := any_good hI ha k
  obtain ⟨y1, y2, y3⟩ := H.or i1 i2 (H.mono i3 (getD_V H hI ha k))
  exact ⟨y1, y2, H.trans i3 y3⟩
theorem lone_V {s : σ} (hI : I s) {w : Nat} {e : Int} (he : V s e) : ∀ z, z ∈ loneL w e → V s z := fun z hz => by
 rcases List.mem_or_eq_of_mem_set hz with hz | rfl
 ·rw [List.eq_of_mem_replicate hz]; exact H.zero s hI
 ·exact he
theorem two_good {w : Nat} (kind : Int) {s : σ} {a b : List Int} (hI : I s) (ha : ∀ z, z ∈ a → V s z) (hb : ∀ z, z ∈ b → V s z) : Gd I V le s (twoA A w kind s a b) := by
 unfold twoA
 split
 ·exact (sum_good H hI ha hb (H.zero s hI) _).1
 split
 ·refine (sum_good H hI ha (fun z hz => ?_) (H.one s hI) _).1
  obtain ⟨y, hy, rfl⟩ := List.mem_map.1 hz
  exact H.not hI (hb y hy)
 split
 ·obtain ⟨h1, h2, h3⟩ := cmp_good H true hI ha hb a.length
  exact ⟨h1, lone_V H h1 h2, h3⟩
 split
 ·obtain ⟨h1, h2, h3⟩ := cmp_good H false hI ha hb a.length
  exact ⟨h1, lone_V H h1 h2, h3⟩
 split
 ·exact bit_good H (fun _ _ _ _ h1 h2 h3 => H.and h1 h2 h3) hI ha hb _
 split
 ·exact bit_good H (fun _ _ _ _ h1 h2 h3 => H.or h1 h2 h3) hI ha hb _
 ·exact bit_good H (fun _ _ _ _ h1 h2 h3 => H.xor h1 h2 h3) hI ha hb _
theorem mux_good {s : σ} {a b c : List Int} (hI : I s) (ha : ∀ z, z ∈ a → V s z) (hb : ∀ z, z ∈ b → V s z) (hc : ∀ z, z ∈ c → V s z) : Gd I V le s (muxA A s a b c) := by
 obtain ⟨h1, h2, h3⟩ := any_good H hI ha a.length
 have g := bit_good H (s := (anyTo A s a a.length).1) (f := fun s' x y => A.mux s' (anyTo A s a a.length).2 x y) (fun s' x y hl hi hx hy => H.mux hi (H.mono hl h2) hx hy) h1 (fun z hz => H.mono h3 (hb z hz)) (fun z hz => H.mono h3 (hc z hz)) b.length
 exact ⟨g.i, g.v, H.trans h3 g.le_⟩
theorem leaf_V {s : σ} (hI : I s) {sig : List (List Int)} (hs : ∀ l, l ∈ sig → ∀ z, z ∈ l → V s z) (w : Nat) {o : OpL} : ∀ z, z ∈ leafE sig w o → V s z := fun z hz => by
 obtain ⟨k, _, rfl⟩ := List.mem_map.1 hz
 have hp : ∀ i k, V s (pickL (sig.getD i default) k) := fun i k => by
  unfold pickL
  by_cases h : i < sig.length
  ·by_cases hk : k < (sig.getD i default).length
   ·rw [List.getD_eq_getElem?_getD (l := sig.getD i default), List.getElem?_eq_getElem hk]
    exact hs _ (getD_mem h) _ (List.getElem_mem hk)
   ·rw [List.getD_eq_getElem?_getD (l := sig.getD i default), List.getElem?_eq_none (by omega)]
    exact H.zero s hI
  ·rw [List.getD_eq_getElem?_getD (l := sig), List.getElem?_eq_none (by omega)]
   exact H.zero s hI
 split
 ·have : o.a / 2 ^ k % 2 = 0 ∨ o.a / 2 ^ k % 2 = 1 := by omega
  rcases this with h | h
  ·rw [h]; exact H.zero s hI
  ·rw [h]; exact H.one s hI
 split
 ·exact hp _ _
 split
 ·exact hp _ _
 ·exact H.zero s hI
theorem ev_good {sig : List (List Int)} (w : Nat) : ∀ (t : ExT) {s : σ}, I s → (∀ l, l ∈ sig → ∀ z, z ∈ l → V s z) → Gd I V le s (evA A sig w t s)
 | .leaf o, s, hI, hs => ⟨hI, leaf_V H hI hs w, H.refl s⟩
 | .un o x, s, hI, hs => by
  have g := ev_good w x hI hs
  refine ⟨g.i, fun z hz => ?_, g.le_⟩
  obtain ⟨y, hy, rfl⟩ := List.mem_map.1 hz
  exact H.not g.i (g.v y hy)
 | .bin o x y, s, hI, hs => by
  have g1 := ev_good w x hI hs
  have g2 := ev_good w y g1.i (fun l hl z hz => H.mono g1.le_ (hs l hl z hz))
  have g3 := two_good H (w := w) o.kind g2.i (fun z hz => H.mono g2.le_ (g1.v z hz)) g2.v
  exact ⟨g3.i, g3.v, H.trans g1.le_ (H.trans g2.le_ g3.le_)⟩
 | .tri o x y z, s, hI, hs => by
  have g1 := ev_good w x hI hs
  have g2 := ev_good w y g1.i (fun l hl z hz => H.mono g1.le_ (hs l hl z hz))
  have l12 := H.trans g1.le_ g2.le_
  have g3 := ev_good w z g2.i (fun l hl z hz => H.mono l12 (hs l hl z hz))
  have g4 := mux_good H g3.i (fun z hz => H.mono (H.trans g2.le_ g3.le_) (g1.v z hz)) (fun z hz => H.mono g3.le_ (g2.v z hz)) g3.v
  exact ⟨g4.i, g4.v, H.trans l12 (H.trans g3.le_ g4.le_)⟩
end
def adK (bad : Bool) (r : NetL × Int) : (NetL × Bool) × Int := if r.2 < 0 then ((r.1, true), 0) else ((r.1, bad), r.2)
def adP : Ad (NetL × Bool) where
 and s a b := adK s.2 (addAndL s.1 a b)
 or s a b := adK s.2 (addOrL s.1 a b)
 xor s a b := adK s.2 (addXorL s.1 a b)
 mux s c a b := adK s.2 (addMuxL s.1 c a b)
 not := notL
noncomputable def adR : Ad NetL where
 and n a b := addF n [a, b] (addAndL n a b)
 or n a b := addF n [a, b] (addOrL n a b)
 xor n a b := addF n [a, b] (addXorL n a b)
 mux n c a b := addF n [c, a, b] (addMuxL n c a b)
 not := lNot
def leN (n n' : NetL) : Prop := nodesL n ≤ nodesL n' ∧ n' = { n with ands := n'.ands }
theorem leN.refl (n : NetL) : leN n n := ⟨Int.le_refl _, rfl⟩
theorem leN.trans {a b c : NetL} (h : leN a b) (k : leN b c) : leN a c := ⟨Int.le_trans h.1 k.1, by rw [k.2, h.2]⟩
def leP (s s' : NetL × Bool) : Prop := leN s.1 s'.1 ∧ (s.2 = true → s'.2 = true)
theorem litP0 {n : NetL} (h : NetOkP n) : litP 0 (nodesL n) ∧ litP 1 (nodesL n) := by
 have := h.count
 unfold litP
 omega
theorem adK_good {n : NetL} {bad : Bool} {r : NetL × Int} (g : GoodN n r) : NetOkP (adK bad r).1.1 ∧ litP (adK bad r).2 (nodesL (adK bad r).1.1) ∧ leP (n, bad) (adK bad r).1 := by
 unfold adK
 split
 ·exact ⟨g.ok, (litP0 g.ok).1, ⟨g.nodes, g.eq⟩, fun _ => rfl⟩
 ·rename_i h
  exact ⟨g.ok, g.litP h, ⟨g.nodes, g.eq⟩, fun h => h⟩
theorem adP_ok : AdOk adP (fun s => NetOkP s.1) (fun s z => litP z (nodesL s.1)) leP where
 refl s := ⟨leN.refl _, id⟩
 trans h k := ⟨h.1.trans k.1, fun e => k.2 (h.2 e)⟩
 mono h v := v.mono h.1.1
 zero s h := (litP0 h).1
 one s h := (litP0 h).2
 and h a b := adK_good (good_and h a b)
 or h a b := adK_good (good_or h a b)
 xor h a b := adK_good (good_xor h a b)
 mux h c a b := adK_good (good_mux h c a b)
 not h a := litP_not a (by have := NetOkP.count h; omega)
def litR (n : NetL) (z : Int) : Prop := litP z (nodesL n) ∨ z = -1 ∨ z = -2
theorem addF_good {n : NetL} {lits : List Int} {r : NetL × Int} (hn : NetOkP n) (g : (∀ l, l ∈ lits → litP l (nodesL n)) → GoodN n r) : NetOkP (addF n lits r).1 ∧ litR (addF n lits r).1 (addF n lits r).2 ∧ leN n (addF n lits r).1 := by
 by_cases h : NetOkP n ∧ ∀ l, l ∈ lits → litP l (nodesL n)
 ·have g := g h.2
  by_cases h2 : r.2 < 0
  ·rw [addF_neg h h2]; exact ⟨hn, .inr (.inl rfl), leN.refl n⟩
  ·rw [addF_yes h h2]; exact ⟨g.ok, .inl (g.litP h2), g.nodes, g.eq⟩
 ·rw [addF_no h]; exact ⟨hn, .inr (.inl rfl), leN.refl n⟩
theorem three_lits {n : NetL} {a b c : Int} : (∀ l, l ∈ [a, b, c] → litP l (nodesL n)) ↔ litP a (nodesL n) ∧ litP b (nodesL n) ∧ litP c (nodesL n) := by simp
theorem adR_ok : AdOk adR NetOkP litR leN where
 refl := leN.refl
 trans h k := h.trans k
 mono h v := v.imp (fun v => v.mono h.1) id
 zero s h := .inl (litP0 h).1
 one s h := .inl (litP0 h).2
 and h a b := addF_good h fun hl => good_and h (two_lits.1 hl).1 (two_lits.1 hl).2
 or h a b := addF_good h fun hl => good_or h (two_lits.1 hl).1 (two_lits.1 hl).2
 xor h a b := addF_good h fun hl => good_xor h (two_lits.1 hl).1 (two_lits.1 hl).2
 mux h c a b := addF_good h fun hl => good_mux h (three_lits.1 hl).1 (three_lits.1 hl).2.1 (three_lits.1 hl).2.2
 not {s a} h v := by
  show litR s (lNot a)
  unfold lNot
  split
  ·exact .inr (.inr rfl)
  ·rcases v with v | v
   ·exact .inl (litP_not v (by have := NetOkP.count h; omega))
   ·omega
theorem litP.nn {z k : Int} (h : litP z k) : 0 ≤ z := h.1
def StepS (N0 : Int) (f : NetL × Bool → Int → Int → (NetL × Bool) × Int) (g : NetL → Int → Int → NetL × Int) : Prop :=
 (∀ n a b, NetOkP n → N0 ≤ nodesL n → litP a (nodesL n) → litP b (nodesL n) → (∃ m l, f (n, false) a b = ((m, false), l) ∧ g n a b = (m, l) ∧ NetOkP m ∧ litP l (nodesL m) ∧ nodesL n ≤ nodesL m) ∨ ((f (n, false) a b).1.2 = true ∧ (g n a b).2 < 0)) ∧
 (∀ s a b, s.2 = true → (f s a b).1.2 = true) ∧ ∀ n a b, a < 0 ∨ b < 0 → (g n a b).2 < 0
theorem adK_bad {s : NetL × Bool} {r : NetL × Int} (h : s.2 = true) : (adK s.2 r).1.2 = true := by
 unfold adK; split
 ·rfl
 ·exact h
theorem addF_sim {n : NetL} {lits : List Int} {r : NetL × Int} (hn : NetOkP n) (hl : ∀ l, l ∈ lits → litP l (nodesL n)) (g : GoodN n r) : (∃ m l, adK false r = ((m, false), l) ∧ addF n lits r = (m, l) ∧ NetOkP m ∧ litP l (nodesL m) ∧ nodesL n ≤ nodesL m) ∨ ((adK false r).1.2 = true ∧ (addF n lits r).2 < 0) := by
 by_cases h2 : r.2 < 0
 ·right
  rw [addF_neg ⟨hn, hl⟩ h2]
  unfold adK
  rw [if_pos h2]
  exact ⟨rfl, by show (-1 : Int) < 0; decide⟩
 ·left
  rw [addF_yes ⟨hn, hl⟩ h2]
  unfold adK
  rw [if_neg h2]
  exact ⟨r.1, r.2, rfl, rfl, g.ok, g.litP h2, g.nodes⟩
theorem addF_bad {n : NetL} {lits : List Int} {r : NetL × Int} {z : Int} (hz : z ∈ lits) (h : z < 0) : (addF n lits r).2 < 0 := by
 rw [addF_no (fun hh => by have := (hh.2 z hz).1; omega)]
 show (-1 : Int) < 0
 decide
theorem two_bad {a b : Int} (h : a < 0 ∨ b < 0) : ∃ z, z ∈ [a, b] ∧ z < 0 := by
 rcases h with h | h
 ·exact ⟨a, by simp, h⟩
 ·exact ⟨b, by simp, h⟩
theorem step_and (N0 : Int) : StepS N0 adP.and adR.and :=
 ⟨fun n a b hn _ ha hb => addF_sim hn (two_lits.2 ⟨ha, hb⟩) (good_and hn ha hb), fun s a b h => adK_bad h, fun n a b h => by obtain ⟨z, h1, h2⟩ := two_bad h; exact addF_bad h1 h2⟩
theorem step_or (N0 : Int) : StepS N0 adP.or adR.or :=
 ⟨fun n a b hn _ ha hb => addF_sim hn (two_lits.2 ⟨ha, hb⟩) (good_or hn ha hb), fun s a b h => adK_bad h, fun n a b h => by obtain ⟨z, h1, h2⟩ := two_bad h; exact addF_bad h1 h2⟩
theorem step_xor (N0 : Int) : StepS N0 adP.xor adR.xor :=
 ⟨fun n a b hn _ ha hb => addF_sim hn (two_lits.2 ⟨ha, hb⟩) (good_xor hn ha hb), fun s a b h => adK_bad h, fun n a b h => by obtain ⟨z, h1, h2⟩ := two_bad h; exact addF_bad h1 h2⟩
theorem mux_bad {n : NetL} {c a b : Int} (h : c < 0 ∨ a < 0 ∨ b < 0) : (adR.mux n c a b).2 < 0 := by
 rcases h with h | h | h
 ·exact addF_bad (z := c) (by simp) h
 ·exact addF_bad (z := a) (by simp) h
 ·exact addF_bad (z := b) (by simp) h
theorem step_mux {N0 c : Int} (hc : litP c N0) : StepS N0 (fun s x y => adP.mux s c x y) (fun n x y => adR.mux n c x y) :=
 ⟨fun n a b hn h0 ha hb => addF_sim hn (three_lits.2 ⟨hc.mono h0, ha, hb⟩) (good_mux hn (hc.mono h0) ha hb), fun s a b h => adK_bad h, fun n a b h => mux_bad (.inr h)⟩
def negL (l : List Int) : Prop := ∃ z, z ∈ l ∧ z < 0
theorem negL.app {l l' : List Int} (h : negL l) : negL (l ++ l') := by obtain ⟨z, h1, h2⟩ := h; exact ⟨z, List.mem_append_left _ h1, h2⟩
theorem negL.snoc {l : List Int} {z : Int} (h : z < 0) : negL (l ++ [z]) := ⟨z, by simp, h⟩
theorem negL.at_ {l : List Int} (h : negL l) : ∃ i, i < l.length ∧ l.getD i default < 0 := by
 obtain ⟨z, h1, h2⟩ := h
 obtain ⟨i, hi, he⟩ := List.getElem_of_mem h1
 exact ⟨i, hi, by rw [List.getD_eq_getElem?_getD, List.getElem?_eq_getElem hi]; show l[i] < 0; rw [he]; exact h2⟩
def SimS (p : (NetL × Bool) × List Int) (r : NetL × List Int) : Prop :=
 (∃ m l, p = ((m, false), l) ∧ r = (m, l) ∧ NetOkP m ∧ (∀ z, z ∈ l → litP z (nodesL m))) ∨ (p.1.2 = true ∧ negL r.2)
theorem litsAt {n : NetL} (hn : NetOkP n) {a : List Int} (ha : ∀ z, z ∈ a → litP z (nodesL n)) (k : Nat) : litP (a.getD k default) (nodesL n) := by
 by_cases h : k < a.length
 ·exact ha _ (getD_mem h)
 ·rw [List.getD_eq_getElem?_getD, List.getElem?_eq_none (by omega)]
  exact (litP0 hn).1
theorem bit_sim {N0 : Int} {f : NetL × Bool → Int → Int → (NetL × Bool) × Int} {g : NetL → Int → Int → NetL × Int} (hs : StepS N0 f g) {n : NetL} (hn : NetOkP n) (h0 : N0 ≤ nodesL n) {a b : List Int} (ha : ∀ z, z ∈ a → litP z (nodesL n)) (hb : ∀ z, z ∈ b → litP z (nodesL n)) : ∀ k,
  (∃ m l, bitTo f (n, false) a b k = ((m, false), l) ∧ bitTo g n a b k = (m, l) ∧ NetOkP m ∧ (∀ z, z ∈ l → litP z (nodesL m)) ∧ nodesL n ≤ nodesL m) ∨ ((bitTo f (n, false) a b k).1.2 = true ∧ negL (bitTo g n a b k).2)
 | 0 => .inl ⟨n, [], rfl, rfl, hn, by simp, Int.le_refl _⟩
 | k + 1 => by
  rcases bit_sim hs hn h0 ha hb k with ⟨m, l, e1, e2, h1, h2, h3⟩ | ⟨h1, h2⟩
  ·rw [bitTo, bitTo, e1, e2]
   rcases hs.1 m (a.getD k default) (b.getD k default) h1 (by omega) ((litsAt hn ha k).mono h3) ((litsAt hn hb k).mono h3) with ⟨m', l', i1, i2, i3, i4, i5⟩ | ⟨i1, i2⟩
   ·left
    dsimp only
    rw [i1, i2]
    refine ⟨m', l ++ [l'], rfl, rfl, i3, fun z hz => ?_, by omega⟩
    rcases List.mem_append.1 hz with hz | hz
    ·exact (h2 z hz).mono i5
    ·simp at hz; subst hz; exact i4
   ·exact .inr ⟨i1, negL.snoc i2⟩
  ·exact .inr ⟨hs.2.1 _ _ _ h1, h2.app⟩
theorem bit_neg {g : NetL → Int → Int → NetL × Int} (hg : ∀ n a b, a < 0 ∨ b < 0 → (g n a b).2 < 0) {n : NetL} {a b : List Int} : ∀ k i, i < k → (a.getD i default < 0 ∨ b.getD i default < 0) → negL (bitTo g n a b k).2
 | 0, _, h, _ => by omega
 | k + 1, i, h, hi => by
  rw [bitTo]
  by_cases hik : i = k
  ·subst hik; exact negL.snoc (hg _ _ _ hi)
  ·exact (bit_neg hg k i (by omega) hi).app
theorem SimS.bit {N0 : Int} {f : NetL × Bool → Int → Int → (NetL × Bool) × Int} {g : NetL → Int → Int → NetL × Int} (hs : StepS N0 f g) {n : NetL} (hn : NetOkP n) (h0 : N0 ≤ nodesL n) {a b : List Int} (ha : ∀ z, z ∈ a → litP z (nodesL n)) (hb : ∀ z, z ∈ b → litP z (nodesL n)) (k : Nat) : SimS (bitTo f (n, false) a b k) (bitTo g n a b k) := by
 rcases bit_sim hs hn h0 ha hb k with ⟨m, l, e1, e2, h1, h2, _⟩ | h
 ·exact .inl ⟨m, l, e1, e2, h1, h2⟩
 ·exact .inr h
theorem sum_sim {n : NetL} (hn : NetOkP n) {a b : List Int} {c : Int} (ha : ∀ z, z ∈ a → litP z (nodesL n)) (hb : ∀ z, z ∈ b → litP z (nodesL n)) (hc : litP c (nodesL n)) : ∀ k, k ≤ a.length →
  (∃ m l e, sumTo adP (n, false) a b c k = ((m, false), l, e) ∧ sumTo adR n a b c k = (m, l, e) ∧ NetOkP m ∧ (∀ z, z ∈ l → litP z (nodesL m)) ∧ litP e (nodesL m) ∧ nodesL n ≤ nodesL m) ∨
   ((sumTo adP (n, false) a b c k).1.2 = true ∧ (negL (sumTo adR n a b c k).2.1 ∨ ((sumTo adR n a b c k).2.2 < 0 ∧ k < a.length)))
 | 0, _ => .inl ⟨n, [], c, rfl, rfl, hn, by simp, hc, Int.le_refl _⟩
 | k + 1, hk => by
  have xb := (step_xor 0).2.1
  have ab := (step_and 0).2.1
  have ob := (step_or 0).2.1
  have xn := (step_xor 0).2.2
  have an := (step_and 0).2.2
  have on := (step_or 0).2.2
  have stay : ∀ (r : (NetL × Bool) × List Int × Int) (u v : Int), (sumY adP r u v).1.2 = true → (sumC adP r u v).1.2 = true := fun r u v h => ob _ _ _ (ab _ _ _ (ab _ _ _ h))
  rcases sum_sim hn ha hb hc k (by omega) with ⟨m, l, e, e1, e2, h1, h2, h3, h4⟩ | ⟨h1, h2⟩
  ·have va := (litsAt hn ha k).mono h4
   have vb := (litsAt hn hb k).mono h4
   have n0 : ∀ {m}, NetOkP m → (0 : Int) ≤ nodesL m := fun h => by have := h.count; omega
   have hX := (step_xor 0).1 m _ _ h1 (n0 h1) va vb
   obtain ⟨u, hu⟩ : ∃ u, u = a.getD k default := ⟨_, rfl⟩
   obtain ⟨v, hv⟩ : ∃ v, v = b.getD k default := ⟨_, rfl⟩
   rw [← hu] at va
   rw [← hv] at vb
   have fin : (sumY adP ((m, false), l, e) u v).1.2 = true → (sumY adR (m, l, e) u v).2 < 0 →
     ((sumTo adP (n, false) a b c (k + 1)).1.2 = true ∧ (negL (sumTo adR n a b c (k + 1)).2.1 ∨ ((sumTo adR n a b c (k + 1)).2.2 < 0 ∧ k + 1 < a.length))) := fun hp hr => by
    unfold sumTo
    rw [e1, e2, ← hu, ← hv]
    split
    ·exact ⟨stay _ _ _ hp, .inl (negL.snoc hr)⟩
    ·exact ⟨hp, .inl (negL.snoc hr)⟩
   rcases (step_xor 0).1 m u v h1 (n0 h1) va vb with ⟨mx, x, x1, x2, x3, x4, x5⟩ | ⟨x1, x2⟩
   ·rcases (step_xor 0).1 mx x e x3 (n0 x3) x4 (h3.mono x5) with ⟨my, y, y1, y2, y3, y4, y5⟩ | ⟨y1, y2⟩
    ·have eX : sumX adP ((m, false), l, e) u v = ((mx, false), x) := x1
     have eX' : sumX adR (m, l, e) u v = (mx, x) := x2
     have eY : sumY adP ((m, false), l, e) u v = ((my, false), y) := by unfold sumY; rw [eX]; exact y1
     have eY' : sumY adR (m, l, e) u v = (my, y) := by unfold sumY; rw [eX']; exact y2
     have hmy : nodesL m ≤ nodesL my := by omega
     have hlst : ∀ (m' : NetL), nodesL my ≤ nodesL m' → ∀ z, z ∈ l ++ [y] → litP z (nodesL m') := fun m' hm z hz => by
      rcases List.mem_append.1 hz with hz | hz
      ·exact (h2 z hz).mono (by omega)
      ·simp at hz; subst hz; exact y4.mono hm
     by_cases hk1 : k + 1 < a.length
     ·have badc : (sumC adP ((m, false), l, e) u v).1.2 = true → (sumC adR (m, l, e) u v).2 < 0 →
        ((sumTo adP (n, false) a b c (k + 1)).1.2 = true ∧ (negL (sumTo adR n a b c (k + 1)).2.1 ∨ ((sumTo adR n a b c (k + 1)).2.2 < 0 ∧ k + 1 < a.length))) := fun hp hr => by
       unfold sumTo
       rw [e1, e2, ← hu, ← hv, if_pos hk1, if_pos hk1]
       exact ⟨hp, .inr ⟨hr, hk1⟩⟩
      rcases (step_and 0).1 my u v y3 (n0 y3) (va.mono hmy) (vb.mono hmy) with ⟨mp, p, p1, p2, p3, p4, p5⟩ | ⟨p1, p2⟩
      ·have eP : sumP adP ((m, false), l, e) u v = ((mp, false), p) := by unfold sumP; rw [eY]; exact p1
       have eP' : sumP adR (m, l, e) u v = (mp, p) := by unfold sumP; rw [eY']; exact p2
       rcases (step_and 0).1 mp x e p3 (n0 p3) (x4.mono (by omega)) (h3.mono (by omega)) with ⟨mq, q, q1, q2, q3, q4, q5⟩ | ⟨q1, q2⟩
       ·have eQ : sumQ adP ((m, false), l, e) u v = ((mq, false), q) := by unfold sumQ; rw [eP, eX]; exact q1
        have eQ' : sumQ adR (m, l, e) u v = (mq, q) := by unfold sumQ; rw [eP', eX']; exact q2
        rcases (step_or 0).1 mq p q q3 (n0 q3) (p4.mono q5) q4 with ⟨mc, z, z1, z2, z3, z4, z5⟩ | ⟨z1, z2⟩
        ·have eC : sumC adP ((m, false), l, e) u v = ((mc, false), z) := by unfold sumC; rw [eQ, eP]; exact z1
         have eC' : sumC adR (m, l, e) u v = (mc, z) := by unfold sumC; rw [eQ', eP']; exact z2
         left
         refine ⟨mc, l ++ [y], z, ?_, ?_, z3, hlst mc (by omega), z4, by omega⟩
         ·unfold sumTo; rw [e1, ← hu, ← hv, if_pos hk1, eC, eY]
         ·unfold sumTo; rw [e2, ← hu, ← hv, if_pos hk1, eC', eY']
        ·exact .inr (badc (by unfold sumC; rw [eQ, eP]; exact z1) (by unfold sumC; rw [eQ', eP']; exact z2))
       ·exact .inr (badc (by unfold sumC; exact ob _ _ _ (by unfold sumQ; rw [eP, eX]; exact q1)) (by unfold sumC; exact on _ _ _ (.inr (by unfold sumQ; rw [eP', eX']; exact q2))))
      ·exact .inr (badc (by unfold sumC; exact ob _ _ _ (ab _ _ _ (by unfold sumP; rw [eY]; exact p1))) (by unfold sumC; exact on _ _ _ (.inl (by unfold sumP; rw [eY']; exact p2))))
     ·left
      refine ⟨my, l ++ [y], e, ?_, ?_, y3, hlst my (Int.le_refl _), h3.mono hmy, by omega⟩
      ·unfold sumTo; rw [e1, ← hu, ← hv, if_neg hk1, eY]
      ·unfold sumTo; rw [e2, ← hu, ← hv, if_neg hk1, eY']
    ·refine .inr (fin ?_ ?_)
     ·unfold sumY sumX; dsimp only; rw [x1]; exact y1
     ·unfold sumY sumX; dsimp only; rw [x2]; exact y2
   ·exact .inr (fin (by unfold sumY sumX; exact xb _ _ _ x1) (by unfold sumY sumX; exact xn _ _ _ (.inl x2)))
  ·right
   have hpY : ∀ u v, (sumY adP (sumTo adP (n, false) a b c k) u v).1.2 = true := fun u v => xb _ _ _ (xb _ _ _ h1)
   unfold sumTo
   split
   ·refine ⟨stay _ _ _ (hpY _ _), .inl ?_⟩
    rcases h2 with h2 | ⟨h2, _⟩
    ·exact h2.app
    ·exact negL.snoc (xn _ _ _ (.inr h2))
   ·refine ⟨hpY _ _, .inl ?_⟩
    rcases h2 with h2 | ⟨h2, _⟩
    ·exact h2.app
    ·exact negL.snoc (xn _ _ _ (.inr h2))
theorem sum_neg {n : NetL} {a b : List Int} {c : Int} : ∀ k, k ≤ a.length → ((c < 0 ∧ 0 < a.length) ∨ ∃ i, i < k ∧ (a.getD i default < 0 ∨ b.getD i default < 0)) → negL (sumTo adR n a b c k).2.1 ∨ ((sumTo adR n a b c k).2.2 < 0 ∧ k < a.length)
 | 0, _, h => by
  rcases h with h | ⟨i, hi, _⟩
  ·exact .inr h
  ·omega
 | k + 1, hk, h => by
  have xn := (step_xor 0).2.2
  by_cases hn : negL (sumTo adR n a b c k).2.1 ∨ ((sumTo adR n a b c k).2.2 < 0 ∧ k < a.length)
  ·left
   unfold sumTo
   split
   ·rcases hn with hn | ⟨hn, _⟩
    ·exact hn.app
    ·exact negL.snoc (xn _ _ _ (.inr hn))
   ·rcases hn with hn | ⟨hn, _⟩
    ·exact hn.app
    ·exact negL.snoc (xn _ _ _ (.inr hn))
  ·have hik : a.getD k default < 0 ∨ b.getD k default < 0 := by
    rcases h with h | ⟨i, hi, hab⟩
    ·exact absurd (sum_neg k (by omega) (.inl h)) hn
    ·by_cases hik : i = k
     ·subst hik; exact hab
     ·exact absurd (sum_neg k (by omega) (.inr ⟨i, by omega, hab⟩)) hn
   left
   unfold sumTo
   split
   ·exact negL.snoc (xn _ _ _ (.inl (xn _ _ _ hik)))
   ·exact negL.snoc (xn _ _ _ (.inl (xn _ _ _ hik)))
theorem SimS.sum {n : NetL} (hn : NetOkP n) {a b : List Int} {c : Int} (ha : ∀ z, z ∈ a → litP z (nodesL n)) (hb : ∀ z, z ∈ b → litP z (nodesL n)) (hc : litP c (nodesL n)) : SimS (sumA adP (n, false) a b c) (sumA adR n a b c) := by
 rcases sum_sim hn ha hb hc a.length (Nat.le_refl _) with ⟨m, l, e, e1, e2, h1, h2, _, _⟩ | ⟨h1, h2⟩
 ·left
  unfold sumA
  rw [e1, e2]
  exact ⟨m, l, rfl, rfl, h1, h2⟩
 ·exact .inr ⟨h1, h2.resolve_right (by omega)⟩
theorem cmp_sim (eq : Bool) {n : NetL} (hn : NetOkP n) {a b : List Int} (ha : ∀ z, z ∈ a → litP z (nodesL n)) (hb : ∀ z, z ∈ b → litP z (nodesL n)) : ∀ k,
  (∃ m e, cmpTo adP eq (n, false) a b k = ((m, false), e) ∧ cmpTo adR eq n a b k = (m, e) ∧ NetOkP m ∧ litP e (nodesL m) ∧ nodesL n ≤ nodesL m) ∨ ((cmpTo adP eq (n, false) a b k).1.2 = true ∧ (cmpTo adR eq n a b k).2 < 0)
 | 0 => .inl ⟨n, if eq then 1 else 0, rfl, rfl, hn, by cases eq; exact (litP0 hn).1; exact (litP0 hn).2, Int.le_refl _⟩
 | k + 1 => by
  have xb := (step_xor 0).2.1
  have ab := (step_and 0).2.1
  have mb : ∀ (s : NetL × Bool) (c x y : Int), s.2 = true → (adP.mux s c x y).1.2 = true := fun s c x y h => adK_bad h
  have n0 : ∀ {m}, NetOkP m → (0 : Int) ≤ nodesL m := fun h => by have := h.count; omega
  rcases cmp_sim eq hn ha hb k with ⟨m, e, e1, e2, h1, h2, h3⟩ | ⟨h1, h2⟩
  ·have va := (litsAt hn ha k).mono h3
   have vb := (litsAt hn hb k).mono h3
   unfold cmpTo
   rw [e1, e2]
   rcases (step_xor 0).1 m _ _ h1 (n0 h1) va vb with ⟨mx, x, x1, x2, x3, x4, x5⟩ | ⟨x1, x2⟩
   ·dsimp only
    rw [x1, x2]
    cases eq with
    | true =>
     have hnx : adR.not x = notL x := lNot_yes x4
     have hnv : litP (notL x) (nodesL mx) := litP_not x4 (by have := x3.count; omega)
     rw [if_pos rfl, if_pos rfl, hnx]
     rcases (step_and 0).1 mx e (notL x) x3 (n0 x3) (h2.mono x5) hnv with ⟨my, y, y1, y2, y3, y4, y5⟩ | ⟨y1, y2⟩
     ·exact .inl ⟨my, y, y1, y2, y3, y4, by omega⟩
     ·exact .inr ⟨y1, y2⟩
    | false =>
     rw [if_neg (by decide), if_neg (by decide)]
     rcases (step_mux (N0 := nodesL mx) x4).1 mx _ e x3 (Int.le_refl _) (vb.mono x5) (h2.mono x5) with ⟨my, y, y1, y2, y3, y4, y5⟩ | ⟨y1, y2⟩
     ·exact .inl ⟨my, y, y1, y2, y3, y4, by omega⟩
     ·exact .inr ⟨y1, y2⟩
   ·right
    dsimp only
    cases eq with
    | true => exact ⟨ab _ _ _ x1, (step_and 0).2.2 _ _ _ (.inr (by show lNot _ < 0; unfold lNot; rw [if_pos x2]; decide))⟩
    | false => exact ⟨mb _ _ _ _ x1, mux_bad (.inl x2)⟩
  ·right
   unfold cmpTo
   cases eq with
   | true => exact ⟨ab _ _ _ (xb _ _ _ h1), (step_and 0).2.2 _ _ _ (.inl h2)⟩
   | false => exact ⟨mb _ _ _ _ (xb _ _ _ h1), mux_bad (.inr (.inr h2))⟩
theorem cmp_neg (eq : Bool) {n : NetL} {a b : List Int} : ∀ k i, i < k → (a.getD i default < 0 ∨ b.getD i default < 0) → (cmpTo adR eq n a b k).2 < 0
 | 0, _, h, _ => by omega
 | k + 1, i, h, hi => by
  have xn := (step_xor 0).2.2
  unfold cmpTo
  by_cases hik : i = k
  ·subst hik
   cases eq with
   | true => exact (step_and 0).2.2 _ _ _ (.inr (by show lNot _ < 0; unfold lNot; rw [if_pos (xn _ _ _ hi)]; decide))
   | false => exact mux_bad (.inl (xn _ _ _ hi))
  ·have ih := cmp_neg eq (n := n) k i (by omega) hi
   cases eq with
   | true => exact (step_and 0).2.2 _ _ _ (.inl ih)
   | false => exact mux_bad (.inr (.inr ih))
theorem lone_neg {w : Nat} (hw : 0 < w) {e : Int} (h : e < 0) : negL (loneL w e) := by
 refine ⟨e, ?_, h⟩
 unfold loneL
 rw [List.mem_iff_getElem?]
 exact ⟨0, by rw [List.getElem?_set_self (by simpa using hw)]⟩
theorem SimS.cmp (eq : Bool) {w : Nat} (hw : 0 < w) {n : NetL} (hn : NetOkP n) {a b : List Int} (ha : ∀ z, z ∈ a → litP z (nodesL n)) (hb : ∀ z, z ∈ b → litP z (nodesL n)) (k : Nat) : SimS ((cmpTo adP eq (n, false) a b k).1, loneL w (cmpTo adP eq (n, false) a b k).2) ((cmpTo adR eq n a b k).1, loneL w (cmpTo adR eq n a b k).2) := by
 rcases cmp_sim eq hn ha hb k with ⟨m, e, e1, e2, h1, h2, _⟩ | ⟨h1, h2⟩
 ·left
  rw [e1, e2]
  exact ⟨m, _, rfl, rfl, h1, lone_V adP_ok (s := (m, false)) h1 h2⟩
 ·exact .inr ⟨h1, lone_neg hw h2⟩
theorem map_not {n : NetL} {a : List Int} (ha : ∀ z, z ∈ a → litP z (nodesL n)) : a.map adR.not = a.map adP.not := List.map_congr_left fun z hz => lNot_yes (ha z hz)
theorem not_neg {a : List Int} (h : negL a) : negL (a.map adR.not) := by
 obtain ⟨z, h1, h2⟩ := h
 exact ⟨_, List.mem_map.2 ⟨z, h1, rfl⟩, by show lNot z < 0; unfold lNot; rw [if_pos h2]; decide⟩
theorem not_at {a : List Int} {i : Nat} (h : a.getD i default < 0) : (a.map adR.not).getD i default < 0 := by
 rw [List.getD_eq_getElem?_getD, List.getElem?_map]
 rw [List.getD_eq_getElem?_getD] at h
 cases he : a[i]? with
 | none => rw [he] at h; exact absurd h (by decide)
 | some z =>
  rw [he] at h
  have h : z < 0 := h
  show lNot z < 0
  unfold lNot; rw [if_pos h]; decide
theorem SimS.two {w : Nat} (hw : 0 < w) (kind : Int) {n : NetL} (hn : NetOkP n) {a b : List Int} (ha : ∀ z, z ∈ a → litP z (nodesL n)) (hb : ∀ z, z ∈ b → litP z (nodesL n)) : SimS (twoA adP w kind (n, false) a b) (twoA adR w kind n a b) := by
 have hc := hn.count
 unfold twoA
 split
 ·exact SimS.sum hn ha hb (litP0 hn).1
 split
 ·rw [map_not hb]
  refine SimS.sum hn ha (fun z hz => ?_) (litP0 hn).2
  obtain ⟨y, hy, rfl⟩ := List.mem_map.1 hz
  exact litP_not (hb y hy) (by omega)
 split
 ·exact SimS.cmp true hw hn ha hb _
 split
 ·exact SimS.cmp false hw hn ha hb _
 split
 ·exact SimS.bit (step_and 0) hn (by omega) ha hb _
 split
 ·exact SimS.bit (step_or 0) hn (by omega) ha hb _
 ·exact SimS.bit (step_xor 0) hn (by omega) ha hb _
theorem two_neg {w : Nat} (hw : 0 < w) (kind : Int) {n : NetL} {a b : List Int} (ha : a.length = w) (hb : b.length = w) (h : negL a ∨ negL b) : negL (twoA adR w kind n a b).2 := by
 have hi : ∃ i, i < a.length ∧ (a.getD i default < 0 ∨ b.getD i default < 0) := by
  rcases h with h | h
  ·obtain ⟨i, h1, h2⟩ := h.at_; exact ⟨i, h1, .inl h2⟩
  ·obtain ⟨i, h1, h2⟩ := h.at_; exact ⟨i, by omega, .inr h2⟩
 obtain ⟨i, hil, hab⟩ := hi
 unfold twoA
 split
 ·exact (sum_neg a.length (Nat.le_refl _) (.inr ⟨i, hil, hab⟩)).resolve_right (by omega)
 split
 ·exact (sum_neg a.length (Nat.le_refl _) (.inr ⟨i, hil, hab.imp id not_at⟩)).resolve_right (by omega)
 split
 ·exact lone_neg hw (cmp_neg true _ i hil hab)
 split
 ·exact lone_neg hw (cmp_neg false _ i hil hab)
 split
 ·exact bit_neg (step_and 0).2.2 _ i hil hab
 split
 ·exact bit_neg (step_or 0).2.2 _ i hil hab
 ·exact bit_neg (step_xor 0).2.2 _ i hil hab
theorem two_bad2 {w : Nat} (kind : Int) {s : NetL × Bool} {a b : List Int} (h : s.2 = true) : (twoA adP w kind s a b).1.2 = true := by
 have hbit : ∀ (f : NetL × Bool → Int → Int → (NetL × Bool) × Int), (∀ s a b, s.2 = true → (f s a b).1.2 = true) → ∀ k, (bitTo f s a b k).1.2 = true := fun f hf k => by
  induction k with
  | zero => exact h
  | succ k ih => exact hf _ _ _ ih
 have xb := (step_xor 0).2.1
 have ab := (step_and 0).2.1
 have ob := (step_or 0).2.1
 have hsum : ∀ b c k, (sumTo adP s a b c k).1.2 = true := fun b c k => by
  induction k with
  | zero => exact h
  | succ k ih =>
   unfold sumTo
   split
   ·exact ob _ _ _ (ab _ _ _ (ab _ _ _ (xb _ _ _ (xb _ _ _ ih))))
   ·exact xb _ _ _ (xb _ _ _ ih)
 have hcmp : ∀ eq k, (cmpTo adP eq s a b k).1.2 = true := fun eq k => by
  induction k with
  | zero => exact h
  | succ k ih =>
   unfold cmpTo
   split
   ·exact ab _ _ _ (xb _ _ _ ih)
   ·exact adK_bad (xb _ _ _ ih)
 unfold twoA
 repeat' split
 ·exact hsum _ _ _
 ·exact hsum _ _ _
 ·exact hcmp _ _
 ·exact hcmp _ _
 ·exact hbit _ ab _
 ·exact hbit _ ob _
 ·exact hbit _ xb _
theorem any_sim {n : NetL} (hn : NetOkP n) {a : List Int} (ha : ∀ z, z ∈ a → litP z (nodesL n)) : ∀ k,
  (∃ m e, anyTo adP (n, false) a k = ((m, false), e) ∧ anyTo adR n a k = (m, e) ∧ NetOkP m ∧ litP e (nodesL m) ∧ nodesL n ≤ nodesL m) ∨ ((anyTo adP (n, false) a k).1.2 = true ∧ (anyTo adR n a k).2 < 0)
 | 0 => .inl ⟨n, 0, rfl, rfl, hn, (litP0 hn).1, Int.le_refl _⟩
 | k + 1 => by
  unfold anyTo
  rcases any_sim hn ha k with ⟨m, e, e1, e2, h1, h2, h3⟩ | ⟨h1, h2⟩
  ·rw [e1, e2]
   rcases (step_or 0).1 m e _ h1 (by have := h1.count; omega) h2 ((litsAt hn ha k).mono h3) with ⟨my, y, y1, y2, y3, y4, y5⟩ | ⟨y1, y2⟩
   ·exact .inl ⟨my, y, y1, y2, y3, y4, by omega⟩
   ·exact .inr ⟨y1, y2⟩
  ·exact .inr ⟨(step_or 0).2.1 _ _ _ h1, (step_or 0).2.2 _ _ _ (.inl h2)⟩
theorem any_neg {n : NetL} {a : List Int} : ∀ k i, i < k → a.getD i default < 0 → (anyTo adR n a k).2 < 0
 | 0, _, h, _ => by omega
 | k + 1, i, h, hi => by
  unfold anyTo
  by_cases hik : i = k
  ·subst hik; exact (step_or 0).2.2 _ _ _ (.inr hi)
  ·exact (step_or 0).2.2 _ _ _ (.inl (any_neg k i (by omega) hi))
theorem bit_all {g : NetL → Int → Int → NetL × Int} (hg : ∀ n a b, (g n a b).2 < 0) {n : NetL} {a b : List Int} : ∀ k, 0 < k → negL (bitTo g n a b k).2
 | 0, h => by omega
 | k + 1, _ => by rw [bitTo]; exact negL.snoc (hg _ _ _)
theorem bit_stay {f : NetL × Bool → Int → Int → (NetL × Bool) × Int} (hf : ∀ s a b, s.2 = true → (f s a b).1.2 = true) {s : NetL × Bool} (h : s.2 = true) {a b : List Int} : ∀ k, (bitTo f s a b k).1.2 = true
 | 0 => h
 | k + 1 => hf _ _ _ (bit_stay hf h k)
theorem SimS.mux {w : Nat} (hw : 0 < w) {n : NetL} (hn : NetOkP n) {a b c : List Int} (ha : ∀ z, z ∈ a → litP z (nodesL n)) (hb : ∀ z, z ∈ b → litP z (nodesL n)) (hc : ∀ z, z ∈ c → litP z (nodesL n)) (hbl : b.length = w) : SimS (muxA adP (n, false) a b c) (muxA adR n a b c) := by
 unfold muxA
 rcases any_sim hn ha a.length with ⟨m, e, e1, e2, h1, h2, h3⟩ | ⟨h1, h2⟩
 ·rw [e1, e2]
  exact SimS.bit (step_mux h2) h1 (Int.le_refl _) (fun z hz => (hb z hz).mono h3) (fun z hz => (hc z hz).mono h3) _
 ·exact .inr ⟨bit_stay (fun s a b h => adK_bad h) h1 _, bit_all (fun n x y => mux_bad (.inl h2)) _ (by omega)⟩
theorem mux_neg {w : Nat} (hw : 0 < w) {n : NetL} {a b c : List Int} (ha : a.length = w) (hb : b.length = w) (hc : c.length = w) (h : negL a ∨ negL b ∨ negL c) : negL (muxA adR n a b c).2 := by
 unfold muxA
 rcases h with h | h | h
 ·obtain ⟨i, h1, h2⟩ := h.at_
  exact bit_all (fun n x y => mux_bad (.inl (any_neg _ i h1 h2))) _ (by omega)
 ·obtain ⟨i, h1, h2⟩ := h.at_
  exact bit_neg (fun n x y hh => mux_bad (.inr hh)) _ i h1 (.inl h2)
 ·obtain ⟨i, h1, h2⟩ := h.at_
  exact bit_neg (fun n x y hh => mux_bad (.inr hh)) _ i (by omega) (.inr h2)
theorem mux_bad2 {s : NetL × Bool} {a b c : List Int} (h : s.2 = true) : (muxA adP s a b c).1.2 = true := by
 unfold muxA
 refine bit_stay (fun s a b h => adK_bad h) ?_ _
 have : ∀ k, (anyTo adP s a k).1.2 = true := fun k => by
  induction k with
  | zero => exact h
  | succ k ih => exact (step_or 0).2.1 _ _ _ ih
 exact this _
theorem ev_bad {sig : List (List Int)} {w : Nat} : ∀ (t : ExT) {s : NetL × Bool}, s.2 = true → (evA adP sig w t s).1.2 = true
 | .leaf o, s, h => h
 | .un o x, s, h => ev_bad x h
 | .bin o x y, s, h => two_bad2 _ (ev_bad y (ev_bad x h))
 | .tri o x y z, s, h => mux_bad2 (ev_bad z (ev_bad y (ev_bad x h)))
theorem SimS.ev {sig : List (List Int)} {w : Nat} (hw : 0 < w) : ∀ (t : ExT) {n : NetL}, NetOkP n → (∀ l, l ∈ sig → ∀ z, z ∈ l → litP z (nodesL n)) → SimS (evA adP sig w t (n, false)) (evA adR sig w t n)
 | .leaf o, n, hn, hs => .inl ⟨n, _, rfl, rfl, hn, leaf_V adP_ok (s := (n, false)) hn hs w⟩
 | .un o x, n, hn, hs => by
  rcases SimS.ev hw x hn hs with ⟨m, l, e1, e2, h1, h2⟩ | ⟨h1, h2⟩
  ·left
   unfold evA
   rw [e1, e2]
   refine ⟨m, l.map adP.not, rfl, by rw [map_not h2], h1, fun z hz => ?_⟩
   obtain ⟨y, hy, rfl⟩ := List.mem_map.1 hz
   exact litP_not (h2 y hy) (by have := h1.count; omega)
  ·exact .inr ⟨h1, not_neg h2⟩
 | .bin o x y, n, hn, hs => by
  have lx := evA_len adR sig w x n
  have gx := ev_good adP_ok (sig := sig) w x (s := (n, false)) hn hs
  rcases SimS.ev hw x hn hs with ⟨m, l, e1, e2, h1, h2⟩ | ⟨h1, h2⟩
  ·rw [e1] at gx
   have hm : nodesL n ≤ nodesL m := gx.le_.1.1
   have ly := evA_len adR sig w y m
   have gy := ev_good adP_ok (sig := sig) w y (s := (m, false)) h1 (fun l hl z hz => (hs l hl z hz).mono hm)
   unfold evA
   rw [e1, e2]
   rw [e2] at lx
   rcases SimS.ev hw y h1 (fun l hl z hz => (hs l hl z hz).mono hm) with ⟨m', l', i1, i2, i3, i4⟩ | ⟨i1, i2⟩
   ·rw [i1] at gy
    dsimp only
    rw [i1, i2]
    exact SimS.two hw _ i3 (fun z hz => (h2 z hz).mono gy.le_.1.1) i4
   ·exact .inr ⟨two_bad2 _ i1, two_neg hw _ lx ly (.inr i2)⟩
  ·exact .inr ⟨two_bad2 _ (ev_bad y h1), two_neg hw _ lx (evA_len adR sig w y _) (.inl h2)⟩
 | .tri o x y z, n, hn, hs => by
  have lx := evA_len adR sig w x n
  have gx := ev_good adP_ok (sig := sig) w x (s := (n, false)) hn hs
  rcases SimS.ev hw x hn hs with ⟨m, l, e1, e2, h1, h2⟩ | ⟨h1, h2⟩
  ·rw [e1] at gx
   have hm : nodesL n ≤ nodesL m := gx.le_.1.1
   have ly := evA_len adR sig w y m
   have gy := ev_good adP_ok (sig := sig) w y (s := (m, false)) h1 (fun l hl z hz => (hs l hl z hz).mono hm)
   unfold evA
   rw [e1, e2]
   rw [e2] at lx
   dsimp only
   rcases SimS.ev hw y h1 (fun l hl z hz => (hs l hl z hz).mono hm) with ⟨m', l', i1, i2, i3, i4⟩ | ⟨i1, i2⟩
   ·rw [i1] at gy
    have hm' : nodesL m ≤ nodesL m' := gy.le_.1.1
    have lz := evA_len adR sig w z m'
    have gz := ev_good adP_ok (sig := sig) w z (s := (m', false)) i3 (fun l hl z hz => (hs l hl z hz).mono (show nodesL n ≤ nodesL m' by omega))
    rw [i1, i2]
    rw [i2] at ly
    dsimp only
    rcases SimS.ev hw z i3 (fun l hl z hz => (hs l hl z hz).mono (by omega)) with ⟨m2, l2, j1, j2, j3, j4⟩ | ⟨j1, j2⟩
    ·rw [j1] at gz
     rw [j1, j2]
     have hm2 : nodesL m' ≤ nodesL m2 := gz.le_.1.1
     exact SimS.mux hw j3 (fun z hz => (h2 z hz).mono (by show _ ≤ nodesL m2; omega)) (fun z hz => (i4 z hz).mono hm2) j4 ly
    ·exact .inr ⟨mux_bad2 j1, mux_neg hw lx ly lz (.inr (.inr j2))⟩
   ·exact .inr ⟨mux_bad2 (ev_bad z i1), mux_neg hw lx ly (evA_len adR sig w z _) (.inr (.inl i2))⟩
  ·exact .inr ⟨mux_bad2 (ev_bad z (ev_bad y h1)), mux_neg hw lx (evA_len adR sig w y _) (evA_len adR sig w z _) (.inl h2)⟩
end Go.Xw
