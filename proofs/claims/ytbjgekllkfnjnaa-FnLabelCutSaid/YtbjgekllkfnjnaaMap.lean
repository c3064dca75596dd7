/- Texts that belong together; each under its stated conditions. -/
import Derived.Test.YtbjgekllkfnjnaaNet
import Derived.Test.YtbjgekllkfnjnaaBits
import Derived.Test.YtbjgekllkfnjnaaReachLaw
set_option linter.all false
section
namespace Go.Xw
open Go.RowKit
def notL (a : Int) : Int := bits .xor .i64 a 1
theorem rootsTo_eq (n : NetL) : ∀ i, i ≤ n.seqs.length → rootsTo n i = n.outs ++ (n.seqs.take i).flatMap SeqL.ins
 | 0, _ => by simp [rootsTo]
 | i + 1, h => by
  rw [rootsTo, rootsTo_eq n i (by omega), List.take_succ_eq_append_getElem (by omega), List.flatMap_append, List.append_assoc]
  congr 2
  simp [List.getD_eq_getElem?_getD, List.getElem?_eq_getElem (show i < n.seqs.length by omega)]
theorem rootsL_eq (n : NetL) : rootsL n = n.outs ++ n.seqs.flatMap SeqL.ins := by
 rw [rootsL, rootsTo_eq n _ (Nat.le_refl _), List.take_length]
theorem mem_iff_getD {α : Type} [Inhabited α] {l : List α} {p : α → Prop} : (∀ x, x ∈ l → p x) ↔ ∀ i, i < l.length → p (l.getD i default) := by
 constructor
 ·intro h i hi; exact h _ (getD_mem hi)
 ·intro h x hx
  obtain ⟨i, hi, rfl⟩ := List.mem_iff_getElem.1 hx
  have := h i hi
  rwa [List.getD_eq_getElem?_getD, List.getElem?_eq_getElem hi, Option.getD_some] at this
theorem NetOkP.root {n : NetL} (h : NetOkP n) : ∀ x, x ∈ rootsL n → litP x (nodesL n) := mem_iff_getD.2 h.roots
theorem NetOkP.out {n : NetL} (h : NetOkP n) : ∀ x, x ∈ n.outs → litP x (nodesL n) := fun x hx => h.root x (by rw [rootsL_eq]; exact List.mem_append_left _ hx)
theorem NetOkP.inp {n : NetL} (h : NetOkP n) {s : SeqL} (hs : s ∈ n.seqs) : ∀ x, x ∈ s.ins → litP x (nodesL n) := fun x hx => h.root x (by
 rw [rootsL_eq]; exact List.mem_append_right _ (List.mem_flatMap.2 ⟨s, hs, hx⟩))
theorem NetOkP.count {n : NetL} (h : NetOkP n) : 1 ≤ firstAndL n ∧ firstAndL n + n.ands.length = nodesL n ∧ nodesL n ≤ 333 := by
 have := h.size
 unfold sizeOk at this
 unfold firstAndL nodesL
 omega
theorem litP.i64 {x k : Int} (h : litP x k) (hk : k ≤ 1000000) : i64R x := by unfold litP at h; unfold i64R; omega
theorem NetOkP.W {n : NetL} (h : NetOkP n) : NetW n := by
 have hc := h.count
 refine ⟨fun i hi => (h.out _ (getD_mem hi)).i64 (by omega), fun i hi j hj => (h.inp (getD_mem hi) _ (getD_mem hj)).i64 (by omega), fun i hi => ?_⟩
 have := h.ands i hi
 exact ⟨this.1.i64 (by omega), this.2.i64 (by omega)⟩
theorem NetOkP.S' {n : NetL} (h : NetOkP n) : NetS n := by
 have h1 := h.size
 unfold sizeOk at h1
 refine ⟨by omega, fun i hi => ?_, by omega, by omega⟩
 rcases h.seqs i hi with ⟨_, _, h2⟩ | ⟨_, _, h2⟩ <;> omega
theorem litP.mono {x k k' : Int} (h : litP x k) (hk : k ≤ k') : litP x k' := by unfold litP at h ⊢; omega
theorem NetOkP.snoc {n : NetL} (h : NetOkP n) {x : Int × Int} (h1 : litP x.1 (nodesL n)) (h2 : litP x.2 (nodesL n)) (hl : n.ands.length < 300) : NetOkP { n with ands := n.ands ++ [x] } := by
 obtain ⟨s1, s2, s3, s4⟩ := h.size
 have hc := h.count
 have e : nodesL { n with ands := n.ands ++ [x] } = nodesL n + 1 := by unfold nodesL; simp; omega
 have e2 : firstAndL { n with ands := n.ands ++ [x] } = firstAndL n := rfl
 refine ⟨⟨s1, s2, by simp; omega, s4⟩, h.seqs, fun i hi => ?_, fun i hi => ?_⟩
 ·rw [e]
  have e3 : rootsL { n with ands := n.ands ++ [x] } = rootsL n := by rw [rootsL_eq, rootsL_eq]
  rw [e3] at hi ⊢
  exact (h.roots i hi).mono (by omega)
 ·rw [e2]
  simp only [List.length_append, List.length_cons, List.length_nil] at hi
  show litP ((n.ands ++ [x]).getD i default).1 _ ∧ litP ((n.ands ++ [x]).getD i default).2 _
  by_cases hi2 : i < n.ands.length
  ·rw [snoc_lt hi2]; exact h.ands i hi2
  ·obtain rfl : i = n.ands.length := by omega
   rw [snoc_eq, hc.2.1]; exact ⟨h1, h2⟩
structure GoodN (n : NetL) (r : NetL × Int) : Prop where
 ok : NetOkP r.1
 eq : r.1 = { n with ands := r.1.ands }
 nodes : nodesL n ≤ nodesL r.1
 lit : litP r.2 (nodesL r.1) ∨ r.2 = -1
 neg : r.2 < 0 → r.2 = -1
theorem GoodN.b {n : NetL} {r : NetL × Int} (h : GoodN n r) : -1 ≤ r.2 ∧ r.2 ≤ 1000 := by
 have := h.ok.count
 rcases h.lit with h1 | h1
 ·unfold litP at h1; omega
 ·omega
theorem GoodN.litP {n : NetL} {r : NetL × Int} (h : GoodN n r) (h0 : ¬ r.2 < 0) : litP r.2 (nodesL r.1) := by
 rcases h.lit with h1 | h1
 ·exact h1
 ·omega
theorem GoodN.trans {n : NetL} {r r' : NetL × Int} (h : GoodN n r) (k : GoodN r.1 r') : GoodN n r' := by
 refine ⟨k.ok, ?_, Int.le_trans h.nodes k.nodes, k.lit, k.neg⟩
 rw [k.eq, h.eq]
end Go.Xw
end
section
namespace Go.Xw
class Bk (w0 : World) (b : Nat) (t : outParam TypeId) (cs : outParam (List Value)) : Prop where
 h : Blk w0 b t cs
instance (priority := low) BkH.base {w0 : World} {L : List Res} {b : Nat} {t : TypeId} {cs : List Value} [h : Bk w0 b t cs] : BkH w0 L b t cs := ⟨fun _ hp => h.h.ext hp.x⟩
end Go.Xw
namespace Go.Proofs
open Go.Xw
set_option maxRecDepth 100000
set_option maxHeartbeats 1000000
attribute [local irreducible] Holds elemAddr
end Go.Proofs
end
section
namespace Go.Xw
def is01 (z : Int) : Prop := z = 0 ∨ z = 1
def All01 (V : List Int) : Prop := ∀ j, is01 (V.getD j default)
theorem All01.set {V : List Int} (h : All01 V) {i : Nat} {z : Int} (hz : is01 z) : All01 (V.set i z) := by
 intro j
 have hj := h j
 simp only [List.getD_eq_getElem?_getD, List.getElem?_set] at hj ⊢
 split
 ·split
  ·exact hz
  ·exact .inl rfl
 ·exact hj
end Go.Xw
end
section
namespace Go.Xw
open Go.RowKit
def leafL (n : NetL) : List Int := (List.range (fst_ n)).map fun k => 2 * ((k : Nat) : Int)
theorem leafL_len (n : NetL) : (leafL n).length = fst_ n := by simp [leafL]
theorem leafL_get {n : NetL} {k : Nat} (h : k < fst_ n) : (leafL n).getD k default = 2 * (k : Int) := range_get (f := fun k => 2 * ((k : Nat) : Int)) h
def addC (f : Int) (A : List (Int × Int)) (a b : Int) : List (Int × Int) × Int :=
 if a = 0 ∨ b = 0 ∨ notL a = b then (A, 0)
 else if a = 1 ∨ a = b then (A, b)
 else if b = 1 then (A, a)
 else if A.idxOf (min a b, max a b) < A.length then (A, 2 * (f + (A.idxOf (min a b, max a b) : Nat)))
 else if 300 ≤ A.length then (A, -1)
 else (A ++ [(min a b, max a b)], 2 * (f + A.length))
structure Bld (f : Int) (A : List (Int × Int)) (to : List Int) : Prop where
 f1 : 1 ≤ f ∧ f ≤ 33
 alen : A.length ≤ 300
 aok : ∀ i, i < A.length → litP (A.getD i default).1 (f + i) ∧ litP (A.getD i default).2 (f + i)
 tok : ∀ i, i < to.length → litP (to.getD i default) (f + A.length)
theorem Bld.snoc {f : Int} {A : List (Int × Int)} {to : List Int} (h : Bld f A to) {y : Int} (hy : litP y (f + A.length)) : Bld f A (to ++ [y]) :=
 ⟨h.f1, h.alen, h.aok, fun i hi => by
  simp at hi
  by_cases hi2 : i < to.length
  ·rw [snoc_lt hi2]; exact h.tok i hi2
  ·obtain rfl : i = to.length := by omega
   rw [snoc_eq]; exact hy⟩
theorem Bld.and_ {f : Int} {A : List (Int × Int)} {to : List Int} (h : Bld f A to) {x : Int × Int} (h1 : litP x.1 (f + A.length)) (h2 : litP x.2 (f + A.length)) (hl : A.length < 300) : Bld f (A ++ [x]) to := by
 refine ⟨h.f1, by simp; omega, fun i hi => ?_, fun i hi => (h.tok i hi).mono (by simp; omega)⟩
 simp at hi
 by_cases hi2 : i < A.length
 ·rw [snoc_lt hi2]; exact h.aok i hi2
 ·obtain rfl : i = A.length := by omega
  rw [snoc_eq]; exact ⟨h1, h2⟩
theorem addC_cases (f : Int) (A : List (Int × Int)) (a b : Int) : (addC f A a b).1 = A ∨ ((addC f A a b).1 = A ++ [(min a b, max a b)] ∧ A.length < 300) := by
 unfold addC
 (repeat' split) <;> first | exact .inl rfl | (exact .inr ⟨rfl, by omega⟩)
theorem Bld.add {f : Int} {A : List (Int × Int)} {to : List Int} (h : Bld f A to) {a b : Int} (ha : litP a (f + A.length)) (hb : litP b (f + A.length)) : Bld f (addC f A a b).1 to := by
 rcases addC_cases f A a b with e | ⟨e, hl⟩
 ·rw [e]; exact h
 ·rw [e]
  refine h.and_ ?_ ?_ hl <;> unfold litP at * <;> dsimp only <;> omega
theorem Bld.addLit {f : Int} {A : List (Int × Int)} {to : List Int} (h : Bld f A to) {a b : Int} (ha : litP a (f + A.length)) (hb : litP b (f + A.length)) : litP (addC f A a b).2 (f + (addC f A a b).1.length) ∨ (addC f A a b = (A, -1) ∧ 300 ≤ A.length) := by
 have hc := h.f1
 unfold addC
 unfold litP at *
 repeat' split
 all_goals first | (right; exact ⟨rfl, by assumption⟩) | (left; dsimp only; first | omega | (simp only [List.length_append, List.length_cons, List.length_nil]; omega))
theorem Bld.step {f : Int} {A : List (Int × Int)} {to : List Int} (h : Bld f A to) {a b : Int} (ha : litP a (f + A.length)) (hb : litP b (f + A.length)) (h0 : 0 ≤ (addC f A a b).2) : Bld f (addC f A a b).1 (to ++ [(addC f A a b).2]) := by
 refine (h.add ha hb).snoc ?_
 rcases h.addLit ha hb with h1 | ⟨h1, _⟩
 ·exact h1
 ·rw [h1] at h0; exact absurd h0 (by dsimp only; omega)
theorem NetOkP.mk' {n : NetL} (h1 : sizeOk n) (h2 : ∀ s, s ∈ n.seqs → seqOkP s) (h3 : ∀ o, o ∈ n.outs → litP o (nodesL n)) (h4 : ∀ s, s ∈ n.seqs → ∀ l, l ∈ s.ins → litP l (nodesL n))
  (h5 : ∀ i, i < n.ands.length → litP (n.ands.getD i default).1 (firstAndL n + i) ∧ litP (n.ands.getD i default).2 (firstAndL n + i)) : NetOkP n :=
 ⟨h1, mem_iff_getD.1 h2, (mem_iff_getD (p := fun x => litP x (nodesL n))).1 (by
  intro x hx
  rw [rootsL_eq, List.mem_append, List.mem_flatMap] at hx
  rcases hx with hx | ⟨s, hs, hx⟩
  ·exact h3 x hx
  ·exact h4 s hs x hx), h5⟩
theorem Bld.leaf {n : NetL} (h : NetOkP n) : Bld (firstAndL n) [] (leafL n) := by
 have hc := h.count
 have hs := h.size
 have h2 := h.nums.f2
 unfold sizeOk at hs
 refine ⟨⟨hc.1, by unfold firstAndL; omega⟩, by simp, fun i hi => by simp at hi, fun i hi => ?_⟩
 rw [leafL_len] at hi
 rw [leafL_get hi]
 unfold litP
 simp
 omega
end Go.Xw
end
section
namespace Go.Proofs
open Go.Xw
set_option maxRecDepth 100000
set_option maxHeartbeats 1000000
attribute [local irreducible] Holds elemAddr
end Go.Proofs
end
