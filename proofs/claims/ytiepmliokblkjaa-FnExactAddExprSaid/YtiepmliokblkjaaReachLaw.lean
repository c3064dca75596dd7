/- Cones of nodes and the nodes that are reached, as plain data; no condition. -/
import Derived.Test.YtiepmliokblkjaaNetLaw
set_option linter.all false
namespace Go.Xw
def fst_ (n : NetL) : Nat := (firstAndL n).toNat
def kA (n : NetL) (i : Nat) : Nat := ((n.ands.getD i default).1 / 2).toNat
def kB (n : NetL) (i : Nat) : Nat := ((n.ands.getD i default).2 / 2).toNat
def nds (n : NetL) : Nat := (nodesL n).toNat
inductive InCone (n : NetL) : Nat → Nat → Prop where
 | refl (k : Nat) : InCone n k k
 | left {i k : Nat} (hi : i < n.ands.length) (h : InCone n (kA n i) k) : InCone n (fst_ n + i) k
 | right {i k : Nat} (hi : i < n.ands.length) (h : InCone n (kB n i) k) : InCone n (fst_ n + i) k
structure Nums (n : NetL) : Prop where
 f1 : 1 ≤ fst_ n
 f2 : ((fst_ n : Nat) : Int) = firstAndL n
 n1 : nds n = fst_ n + n.ands.length
 n2 : ((nds n : Nat) : Int) = nodesL n
 ka : ∀ i, i < n.ands.length → kA n i < fst_ n + i
 kb : ∀ i, i < n.ands.length → kB n i < fst_ n + i
theorem InCone.trans {n : NetL} {a b c : Nat} (h : InCone n a b) (k : InCone n b c) : InCone n a c := by
 induction h with
 | refl => exact k
 | left hi _ ih => exact .left hi (ih k)
 | right hi _ ih => exact .right hi (ih k)
theorem InCone.le {n : NetL} (hn : Nums n) {a b : Nat} (h : InCone n a b) : b ≤ a := by
 induction h with
 | refl => exact Nat.le_refl _
 | left hi _ ih => have := hn.ka _ hi; omega
 | right hi _ ih => have := hn.kb _ hi; omega
theorem InCone.leaf {n : NetL} {a b : Nat} (h : InCone n a b) (ha : a < fst_ n) : b = a := by
 cases h with
 | refl => rfl
 | left hi _ => omega
 | right hi _ => omega
noncomputable def pB (p : Prop) : Bool := @decide p (Classical.propDecidable p)
theorem pB_iff {p : Prop} : pB p = true ↔ p := by simp [pB]
end Go.Xw
