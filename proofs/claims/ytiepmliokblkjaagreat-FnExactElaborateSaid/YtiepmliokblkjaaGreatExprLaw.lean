/- Expressions as trees, and their literals, as plain data; no condition but the stated ones. -/
import Derived.Test.YtiepmliokblkjaaGreatAdd
set_option linter.all false
namespace Go.Xw
open Go.Proofs
set_option maxHeartbeats 1000000
structure OpL where
 kind : Int
 a : Int
 b : Int
deriving Inhabited, DecidableEq
def arL (k : Int) : Int := if 0 ≤ k ∧ k ≤ 3 then 0 else if k = 4 then 1 else if 5 ≤ k ∧ k ≤ 11 then 2 else if k = 12 then 3 else -1
theorem arL_b (k : Int) : -1 ≤ arL k ∧ arL k ≤ 3 := by unfold arL; repeat' split <;> omega
def opOkP (o : OpL) (m : Int) : Prop := if o.kind = 0 then (0 ≤ o.a ∧ o.a ≤ 15) ∧ o.b = 0 else if o.kind = 2 then (0 ≤ o.a ∧ o.a < m) ∧ o.b = 0 else if o.kind = 3 then (0 ≤ o.a ∧ o.a < m) ∧ 0 ≤ o.b ∧ o.b ≤ 3 else 0 ≤ arL o.kind ∧ o.a = 0 ∧ o.b = 0
instance (o : OpL) (m : Int) : Decidable (opOkP o m) := by unfold opOkP; infer_instance
theorem opOkP.ar {o : OpL} {m : Int} (h : opOkP o m) : 0 ≤ arL o.kind := by
 unfold opOkP at h
 by_cases h0 : o.kind = 0
 ·rw [h0]; decide
 ·rw [if_neg h0] at h
  by_cases h2 : o.kind = 2
  ·rw [h2]; decide
  ·rw [if_neg h2] at h
   by_cases h3 : o.kind = 3
   ·rw [h3]; decide
   ·rw [if_neg h3] at h; exact h.1
def needTo (ops : List OpL) : Nat → Int
 | 0 => 1
 | i + 1 => needTo ops i - 1 + arL (ops.getD i default).kind
structure OpsOkP (ops : List OpL) (m : Int) : Prop where
 len : ops.length ≤ 15
 each : ∀ i, i < ops.length → needTo ops i ≠ 0 ∧ opOkP (ops.getD i default) m
 full : needTo ops ops.length = 0
inductive ExT where
 | leaf (o : OpL)
 | un (o : OpL) (x : ExT)
 | bin (o : OpL) (x y : ExT)
 | tri (o : OpL) (x y z : ExT)
def ExT.ser : ExT → List OpL
 | .leaf o => [o]
 | .un o x => o :: x.ser
 | .bin o x y => o :: (x.ser ++ y.ser)
 | .tri o x y z => o :: (x.ser ++ y.ser ++ z.ser)
def ExT.ok (m : Int) : ExT → Prop
 | .leaf o => arL o.kind = 0 ∧ opOkP o m ∧ o.kind ≠ 1
 | .un o x => arL o.kind = 1 ∧ x.ok m
 | .bin o x y => arL o.kind = 2 ∧ x.ok m ∧ y.ok m
 | .tri o x y z => arL o.kind = 3 ∧ x.ok m ∧ y.ok m ∧ z.ok m
theorem ExT.pos : ∀ t : ExT, 0 < t.ser.length
 | .leaf o => by simp [ExT.ser]
 | .un o x => by simp [ExT.ser]
 | .bin o x y => by simp [ExT.ser]
 | .tri o x y z => by simp [ExT.ser]
def chk : Nat → List OpL → Prop
 | n, [] => n = 0
 | n, o :: r => 0 < n ∧ 0 ≤ arL o.kind ∧ chk (n - 1 + (arL o.kind).toNat) r
theorem parse (m : Int) : ∀ (l : List OpL) (n : Nat), chk n l → (∀ o, o ∈ l → opOkP o m ∧ o.kind ≠ 1) → ∃ ts : List ExT, ts.length = n ∧ l = ts.flatMap ExT.ser ∧ ∀ t, t ∈ ts → t.ok m
 | [], n, h, _ => ⟨[], h.symm, rfl, by simp⟩
 | o :: r, n, h, ho => by
  obtain ⟨h1, h2, h3⟩ := h
  obtain ⟨ts, e1, e2, e3⟩ := parse m r _ h3 (fun p hp => ho p (List.mem_cons_of_mem _ hp))
  have hoo := ho o (by simp)
  have hb := arL_b o.kind
  have hc : arL o.kind = 0 ∨ arL o.kind = 1 ∨ arL o.kind = 2 ∨ arL o.kind = 3 := by omega
  rcases hc with hc | hc | hc | hc
  ·rw [hc] at e1
   refine ⟨.leaf o :: ts, by simp [e1]; omega, by rw [List.flatMap_cons, ← e2]; rfl, fun t ht => ?_⟩
   rcases List.mem_cons.1 ht with rfl | ht
   ·exact ⟨hc, hoo.1, hoo.2⟩
   ·exact e3 t ht
  ·rw [hc] at e1
   match ts, e1, e2, e3 with
   | [], e1, _, _ => simp at e1 <;> omega
   | x :: ts, e1, e2, e3 =>
    refine ⟨.un o x :: ts, by simp at e1 ⊢; omega, by rw [e2, List.flatMap_cons, List.flatMap_cons]; rfl, fun t ht => ?_⟩
    rcases List.mem_cons.1 ht with rfl | ht
    ·exact ⟨hc, e3 x (by simp)⟩
    ·exact e3 t (by simp [ht])
  ·rw [hc] at e1
   match ts, e1, e2, e3 with
   | [], e1, _, _ => simp at e1 <;> omega
   | [x], e1, _, _ => simp at e1 <;> omega
   | x :: y :: ts, e1, e2, e3 =>
    refine ⟨.bin o x y :: ts, by simp at e1 ⊢; omega, by rw [e2]; simp [ExT.ser], fun t ht => ?_⟩
    rcases List.mem_cons.1 ht with rfl | ht
    ·exact ⟨hc, e3 x (by simp), e3 y (by simp)⟩
    ·exact e3 t (by simp [ht])
  ·rw [hc] at e1
   match ts, e1, e2, e3 with
   | [], e1, _, _ => simp at e1 <;> omega
   | [x], e1, _, _ => simp at e1 <;> omega
   | [x, y], e1, _, _ => simp at e1 <;> omega
   | x :: y :: z :: ts, e1, e2, e3 =>
    refine ⟨.tri o x y z :: ts, by simp at e1 ⊢; omega, by rw [e2]; simp [ExT.ser], fun t ht => ?_⟩
    rcases List.mem_cons.1 ht with rfl | ht
    ·exact ⟨hc, e3 x (by simp), e3 y (by simp), e3 z (by simp)⟩
    ·exact e3 t (by simp [ht])
theorem OpsOkP.chk_ {ops : List OpL} {m : Int} (h : OpsOkP ops m) : ∀ j i, j + i = ops.length → 0 ≤ needTo ops i ∧ chk (needTo ops i).toNat (ops.drop i)
 | 0, i, hi => by
  obtain rfl : i = ops.length := by omega
  rw [h.full, List.drop_length]
  exact ⟨Int.le_refl _, rfl⟩
 | j + 1, i, hi => by
  have hil : i < ops.length := by omega
  obtain ⟨ih1, ih2⟩ := OpsOkP.chk_ h j (i + 1) (by omega)
  obtain ⟨h1, h2⟩ := h.each i hil
  have har := h2.ar
  have he : needTo ops (i + 1) = needTo ops i - 1 + arL (ops.getD i default).kind := rfl
  have key : ∀ i, i ≤ ops.length → 0 ≤ needTo ops i := fun i => by
   induction i with
   | zero => intro _; show (0 : Int) ≤ 1; decide
   | succ i ih =>
    intro hi
    have h3 := ih (by omega)
    obtain ⟨h4, h5⟩ := h.each i (by omega)
    have h6 := h5.ar
    show 0 ≤ needTo ops i - 1 + arL (ops.getD i default).kind
    omega
  have hpos := key i (by omega)
  refine ⟨hpos, ?_⟩
  have hg : ops[i] = ops.getD i default := by rw [List.getD_eq_getElem?_getD, List.getElem?_eq_getElem hil]; rfl
  rw [List.drop_eq_getElem_cons hil, hg]
  refine ⟨by omega, har, ?_⟩
  rw [show (needTo ops i).toNat - 1 + (arL (ops.getD i default).kind).toNat = (needTo ops (i + 1)).toNat by omega]
  exact ih2
theorem OpsOkP.tree {ops : List OpL} {m : Int} (h : OpsOkP ops m) (hp : ∀ o, o ∈ ops → o.kind ≠ 1) : ∃ t : ExT, ops = t.ser ∧ t.ok m := by
 have h1 := (h.chk_ ops.length 0 (by omega)).2
 rw [show (needTo ops 0).toNat = 1 from rfl, List.drop_zero] at h1
 obtain ⟨ts, e1, e2, e3⟩ := parse m ops 1 h1 fun o ho => ⟨by
  obtain ⟨i, hi, he⟩ := List.getElem_of_mem ho
  have := (h.each i hi).2
  rw [List.getD_eq_getElem?_getD, List.getElem?_eq_getElem hi] at this
  rw [← he]; exact this, hp o ho⟩
 match ts, e1, e2, e3 with
 | [t], _, e2, e3 => exact ⟨t, by rw [e2]; simp, e3 t (by simp)⟩
structure Ad (σ : Type) where
 and : σ → Int → Int → σ × Int
 or : σ → Int → Int → σ × Int
 xor : σ → Int → Int → σ × Int
 mux : σ → Int → Int → Int → σ × Int
 not : Int → Int
section
variable {σ : Type} (A : Ad σ)
def pickL (l : List Int) (k : Nat) : Int := l.getD k 0
def leafE (sig : List (List Int)) (w : Nat) (o : OpL) : List Int := (List.range w).map fun k =>
 if o.kind = 0 then o.a / 2 ^ k % 2 else if o.kind = 2 then pickL (sig.getD o.a.toNat default) k else if k = 0 then pickL (sig.getD o.a.toNat default) o.b.toNat else 0
def bitTo (f : σ → Int → Int → σ × Int) (s : σ) (a b : List Int) : Nat → σ × List Int
 | 0 => (s, [])
 | k + 1 => ((f (bitTo f s a b k).1 (a.getD k default) (b.getD k default)).1, (bitTo f s a b k).2 ++ [(f (bitTo f s a b k).1 (a.getD k default) (b.getD k default)).2])
def sumX (r : σ × List Int × Int) (a b : Int) : σ × Int := A.xor r.1 a b
def sumY (r : σ × List Int × Int) (a b : Int) : σ × Int := A.xor (sumX A r a b).1 (sumX A r a b).2 r.2.2
def sumP (r : σ × List Int × Int) (a b : Int) : σ × Int := A.and (sumY A r a b).1 a b
def sumQ (r : σ × List Int × Int) (a b : Int) : σ × Int := A.and (sumP A r a b).1 (sumX A r a b).2 r.2.2
def sumC (r : σ × List Int × Int) (a b : Int) : σ × Int := A.or (sumQ A r a b).1 (sumP A r a b).2 (sumQ A r a b).2
def sumTo (s : σ) (a b : List Int) (c : Int) : Nat → σ × List Int × Int
 | 0 => (s, [], c)
 | k + 1 => if k + 1 < a.length then ((sumC A (sumTo s a b c k) (a.getD k default) (b.getD k default)).1, (sumTo s a b c k).2.1 ++ [(sumY A (sumTo s a b c k) (a.getD k default) (b.getD k default)).2], (sumC A (sumTo s a b c k) (a.getD k default) (b.getD k default)).2)
  else ((sumY A (sumTo s a b c k) (a.getD k default) (b.getD k default)).1, (sumTo s a b c k).2.1 ++ [(sumY A (sumTo s a b c k) (a.getD k default) (b.getD k default)).2], (sumTo s a b c k).2.2)
def sumA (s : σ) (a b : List Int) (c : Int) : σ × List Int := ((sumTo A s a b c a.length).1, (sumTo A s a b c a.length).2.1)
def cmpTo (eq : Bool) (s : σ) (a b : List Int) : Nat → σ × Int
 | 0 => (s, if eq then 1 else 0)
 | k + 1 => if eq then A.and (A.xor (cmpTo eq s a b k).1 (a.getD k default) (b.getD k default)).1 (cmpTo eq s a b k).2 (A.not (A.xor (cmpTo eq s a b k).1 (a.getD k default) (b.getD k default)).2)
  else A.mux (A.xor (cmpTo eq s a b k).1 (a.getD k default) (b.getD k default)).1 (A.xor (cmpTo eq s a b k).1 (a.getD k default) (b.getD k default)).2 (b.getD k default) (cmpTo eq s a b k).2
def loneL (w : Nat) (z : Int) : List Int := (List.replicate w (0 : Int)).set 0 z
def anyTo (s : σ) (a : List Int) : Nat → σ × Int
 | 0 => (s, 0)
 | k + 1 => A.or (anyTo s a k).1 (anyTo s a k).2 (a.getD k default)
def twoA (w : Nat) (kind : Int) (s : σ) (a b : List Int) : σ × List Int :=
 if kind = 8 then sumA A s a b 0 else if kind = 9 then sumA A s a (b.map A.not) 1 else if kind = 10 then ((cmpTo A true s a b a.length).1, loneL w (cmpTo A true s a b a.length).2) else if kind = 11 then ((cmpTo A false s a b a.length).1, loneL w (cmpTo A false s a b a.length).2)
 else if kind = 5 then bitTo A.and s a b a.length else if kind = 6 then bitTo A.or s a b a.length else bitTo A.xor s a b a.length
def muxA (s : σ) (a b c : List Int) : σ × List Int := bitTo (fun s' x y => A.mux s' (anyTo A s a a.length).2 x y) (anyTo A s a a.length).1 b c b.length
def evA (sig : List (List Int)) (w : Nat) : ExT → σ → σ × List Int
 | .leaf o, s => (s, leafE sig w o)
 | .un _ x, s => ((evA sig w x s).1, (evA sig w x s).2.map A.not)
 | .bin o x y, s => twoA A w o.kind (evA sig w y (evA sig w x s).1).1 (evA sig w x s).2 (evA sig w y (evA sig w x s).1).2
 | .tri _ x y z, s => muxA A (evA sig w z (evA sig w y (evA sig w x s).1).1).1 (evA sig w x s).2 (evA sig w y (evA sig w x s).1).2 (evA sig w z (evA sig w y (evA sig w x s).1).1).2
end
end Go.Xw
