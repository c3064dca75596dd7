/- The contracts of the functions that hash a net; each under its stated conditions. -/
import Derived.Test.YtehopdjfgcnkgaaSweep
set_option linter.all false
namespace Go.Proofs
open Go.Xw
set_option maxRecDepth 100000
set_option maxHeartbeats 1000000
attribute [local irreducible] Holds elemAddr

theorem haTo_succ (n : NetL) (i : Nat) : haTo n (i + 1) = ((addC (firstAndL n) (haTo n i).1 (litV (haTo n i).2 (n.ands.getD i default).1) (litV (haTo n i).2 (n.ands.getD i default).2)).1,
    (haTo n i).2 ++ [(addC (firstAndL n) (haTo n i).1 (litV (haTo n i).2 (n.ands.getD i default).1) (litV (haTo n i).2 (n.ands.getD i default).2)).2]) := rfl

/-- adding to a net that is being built, in the reference's way -/
theorem addF_bld {n : NetL} (hok : NetOkP n) {A : List (Int × Int)} {to : List Int} (hB : Bld (firstAndL n) A to) {a b : Int} (ha : litP a (firstAndL n + A.length)) (hb : litP b (firstAndL n + A.length)) :
    addF (zerL n A) [a, b] (addAndL (zerL n A) a b) = if (addC (firstAndL n) A a b).2 < 0 then (zerL n A, -1) else (zerL n (addC (firstAndL n) A a b).1, (addC (firstAndL n) A a b).2) := by
  have hz := zerL_ok hok hB
  have hnd : nodesL (zerL n A) = firstAndL n + A.length := by have := firstAndL_zer n A; unfold firstAndL at this; unfold nodesL; rw [this]; rfl
  have hC : addAndL (zerL n A) a b = (zerL n (addC (firstAndL n) A a b).1, (addC (firstAndL n) A a b).2) := by
    rw [addAndL_C, firstAndL_zer]; rfl
  have hv : NetOkP (zerL n A) ∧ ∀ l, l ∈ [a, b] → litP l (nodesL (zerL n A)) := ⟨hz, two_lits.2 (by rw [hnd]; exact ⟨ha, hb⟩)⟩
  split
  · rename_i h
    exact addF_neg hv (by rw [hC]; exact h)
  · rename_i h
    rw [addF_yes hv (by rw [hC]; exact h), hC]
end Go.Proofs
