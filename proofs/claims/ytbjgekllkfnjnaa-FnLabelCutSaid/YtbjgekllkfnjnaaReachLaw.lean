/- Texts that belong together; each under its stated conditions. -/
import Derived.Test.YtbjgekllkfnjnaaGraph4
import Derived.Test.YtbjgekllkfnjnaaFam
import Derived.Test.YtbjgekllkfnjnaaNet
set_option linter.all false
section
namespace Go.Xw
theorem rIns_add {w0 w : World} {L : List Res} {R : List SeqA} {y : SeqA} (h : Hp w0 w (rO 3 1 eI y.ia y.ic y.ins :: rIns R :: L)) : Hp w0 w (rIns (R ++ [y]) :: L) := by
 have h1 := h.f1.unpack
 refine Hp.pack (Hp.perm h1 ?_)
 simp only [List.map_append, List.map_cons, List.map_nil, List.append_assoc]
 exact .refl _
end Go.Xw
namespace Go.Proofs
open Go.Xw
set_option maxRecDepth 100000
set_option maxHeartbeats 1000000
attribute [local irreducible] Holds elemAddr
theorem seqsOf_snoc (R : List SeqA) (y : SeqA) : seqsOf (R ++ [y]) = seqsOf R ++ [y.s] := by simp [seqsOf]
end Go.Proofs
end
section
namespace Go.Xw
def fst_ (n : NetL) : Nat := (firstAndL n).toNat
def kA (n : NetL) (i : Nat) : Nat := ((n.ands.getD i default).1 / 2).toNat
def kB (n : NetL) (i : Nat) : Nat := ((n.ands.getD i default).2 / 2).toNat
def nds (n : NetL) : Nat := (nodesL n).toNat
inductive InCone (n : NetL) : Nat → Nat → Prop where
 | refl (k : Nat) : InCone n k k
 | left {i k : Nat} (hi : i < n.ands.length) (h : InCone n (kA n i) k) : InCone n (fst_ n + i) k
 | right {i k : Nat} (hi : i < n.ands.length) (h : InCone n (kB n i) k) : InCone n (fst_ n + i) k
structure Nums (n : NetL) : Prop where
 f1 : 1 ≤ fst_ n
 f2 : ((fst_ n : Nat) : Int) = firstAndL n
 n1 : nds n = fst_ n + n.ands.length
 n2 : ((nds n : Nat) : Int) = nodesL n
 ka : ∀ i, i < n.ands.length → kA n i < fst_ n + i
 kb : ∀ i, i < n.ands.length → kB n i < fst_ n + i
theorem NetOkP.nums {n : NetL} (h : NetOkP n) : Nums n := by
 have h1 := h.size
 unfold sizeOk at h1
 have h2 : firstAndL n = 1 + n.inputs + n.seqs.length := rfl
 have h3 : nodesL n = 1 + n.inputs + n.seqs.length + n.ands.length := rfl
 refine ⟨by unfold fst_; omega, by unfold fst_; omega, by unfold nds fst_; omega, by unfold nds; omega, fun i hi => ?_, fun i hi => ?_⟩
 ·have h4 := (h.ands i hi).1
  unfold litP at h4
  unfold kA fst_
  omega
 ·have h4 := (h.ands i hi).2
  unfold litP at h4
  unfold kB fst_
  omega
theorem InCone.trans {n : NetL} {a b c : Nat} (h : InCone n a b) (k : InCone n b c) : InCone n a c := by
 induction h with
 | refl => exact k
 | left hi _ ih => exact .left hi (ih k)
 | right hi _ ih => exact .right hi (ih k)
theorem InCone.le {n : NetL} (hn : Nums n) {a b : Nat} (h : InCone n a b) : b ≤ a := by
 induction h with
 | refl => exact Nat.le_refl _
 | left hi _ ih => have := hn.ka _ hi; omega
 | right hi _ ih => have := hn.kb _ hi; omega
theorem InCone.leaf {n : NetL} {a b : Nat} (h : InCone n a b) (ha : a < fst_ n) : b = a := by
 cases h with
 | refl => rfl
 | left hi _ => omega
 | right hi _ => omega
theorem InCone.and_ {n : NetL} {i b : Nat} (hi : i < n.ands.length) : InCone n (fst_ n + i) b ↔ b = fst_ n + i ∨ InCone n (kA n i) b ∨ InCone n (kB n i) b := by
 constructor
 ·intro h
  generalize hg : fst_ n + i = a at h
  cases h with
  | refl => exact .inl rfl
  | left hi2 h2 => obtain rfl : i = _ := Nat.add_left_cancel hg; exact .inr (.inl h2)
  | right hi2 h2 => obtain rfl : i = _ := Nat.add_left_cancel hg; exact .inr (.inr h2)
 ·rintro (rfl | h | h)
  ·exact .refl _
  ·exact .left hi h
  ·exact .right hi h
def ClosedTo (n : NetL) (B : List Bool) (m : Nat) : Prop := ∀ i, i < n.ands.length → fst_ n + i ≤ m → B.getD (fst_ n + i) default = true → B.getD (kA n i) default = true ∧ B.getD (kB n i) default = true
theorem ClosedTo.cone {n : NetL} (hn : Nums n) {B : List Bool} {m : Nat} (h : ClosedTo n B m) {a b : Nat} (hc : InCone n a b) (ha : a ≤ m) (hB : B.getD a default = true) : B.getD b default = true := by
 induction hc with
 | refl => exact hB
 | left hi _ ih => exact ih (by have := hn.ka _ hi; omega) (h _ hi ha hB).1
 | right hi _ ih => exact ih (by have := hn.kb _ hi; omega) (h _ hi ha hB).2
structure Marked (n : NetL) (B : List Bool) (a : Nat) (B' : List Bool) : Prop where
 len : B'.length = B.length
 iff : ∀ k, k < B.length → (B'.getD k default = true ↔ B.getD k default = true ∨ InCone n a k)
theorem Marked.closed {n : NetL} (hn : Nums n) {B B' : List Bool} {a m : Nat} (h : Marked n B a B') (hl : B.length = nds n) (hc : ClosedTo n B m) : ClosedTo n B' m := by
 intro i hi him hB
 have hka := hn.ka i hi
 have hkb := hn.kb i hi
 have hn1 := hn.n1
 rw [h.iff _ (by omega)] at hB
 rw [h.iff _ (by omega), h.iff _ (by omega)]
 rcases hB with hB | hB
 ·have := hc i hi him hB
  exact ⟨.inl this.1, .inl this.2⟩
 ·exact ⟨.inr (hB.trans (.left hi (.refl _))), .inr (hB.trans (.right hi (.refl _)))⟩
theorem bget_set {B : List Bool} {i k : Nat} (hi : i < B.length) : (B.set i true).getD k default = true ↔ k = i ∨ B.getD k default = true := by
 simp only [List.getD_eq_getElem?_getD, List.getElem?_set]
 by_cases h : i = k
 ·subst h; simp [hi]
 ·rw [if_neg h]
  constructor
  ·exact .inr
  ·rintro (rfl | h2)
   ·exact absurd rfl h
   ·exact h2
noncomputable def pB (p : Prop) : Bool := @decide p (Classical.propDecidable p)
theorem pB_iff {p : Prop} : pB p = true ↔ p := by simp [pB]
theorem pB_no' {p : Prop} (h : ¬ p) : pB p = false := by simp [pB, h]
noncomputable def listB (m : Nat) (p : Nat → Prop) : List Bool := (List.range m).map fun k => pB (p k)
theorem listB_len (m : Nat) (p : Nat → Prop) : (listB m p).length = m := by simp [listB]
theorem listB_get {m k : Nat} {p : Nat → Prop} (h : k < m) : (listB m p).getD k default = true ↔ p k := by
 simp [listB, List.getD_eq_getElem?_getD, h, pB_iff]
theorem listB_eq {m : Nat} {p : Nat → Prop} {B : List Bool} (hl : B.length = m) (h : ∀ k, k < m → (B.getD k default = true ↔ p k)) : B = listB m p := by
 refine List.ext_getElem (by rw [hl, listB_len]) fun k h1 h2 => ?_
 have h3 := h k (by omega)
 have h4 := listB_get (m := m) (p := p) (k := k) (by omega)
 rw [List.getD_eq_getElem?_getD, List.getElem?_eq_getElem h1] at h3
 rw [List.getD_eq_getElem?_getD, List.getElem?_eq_getElem h2] at h4
 simp only [Option.getD_some] at h3 h4
 rw [Bool.eq_iff_iff, h3, h4]
def markedTo (B : List Bool) : Nat → List Int
 | 0 => []
 | i + 1 => if B.getD i default = true then markedTo B i ++ [(i : Int)] else markedTo B i
def markedL (B : List Bool) : List Int := markedTo B B.length
theorem markedTo_len (B : List Bool) : ∀ i, (markedTo B i).length ≤ i
 | 0 => by simp [markedTo]
 | i + 1 => by
  have := markedTo_len B i
  simp only [markedTo]
  split
  ·simp; omega
  ·omega
noncomputable def coneL (n : NetL) (k : Nat) : List Int := markedL (listB (nds n) (InCone n k))
end Go.Xw
end
