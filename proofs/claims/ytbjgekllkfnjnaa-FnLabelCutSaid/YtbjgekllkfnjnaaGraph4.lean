/- Texts that belong together; each under its stated conditions. -/
import Derived.Test.YtbjgekllkfnjnaaGraph1
set_option linter.all false
section
namespace Go.Proofs
open Go.Xw
set_option maxRecDepth 100000
set_option maxHeartbeats 1000000
attribute [local irreducible] Holds elemAddr
noncomputable def ifOk (n : NetL) (l : List Int) : List Int := if netOkB n = true then l else []
theorem ifOk_yes {n : NetL} {l : List Int} (h : NetOkP n) : ifOk n l = l := by rw [ifOk, if_pos (netOkB_iff.2 h)]
theorem ifOk_no {n : NetL} {l : List Int} (h : ¬ NetOkP n) : ifOk n l = [] := by rw [ifOk, if_neg (fun hh => h (netOkB_iff.1 hh))]
end Go.Proofs
end
section
namespace Go.Xw
theorem NetOkP.nodes {x : NetA} (h : NetOkP x.n) : 1 ≤ firstAndL x.n ∧ firstAndL x.n + x.ands.length = nodesL x.n ∧ nodesL x.n ≤ 333 := by
 have h1 := h.size'
 have h2 := nodesL_eq x
 have h3 := firstAndL_eq x
 omega
theorem NetOkP.and_ {x : NetA} (h : NetOkP x.n) {i : Nat} (hi : i < x.ands.length) : 0 ≤ (x.ands.getD i default).1 ∧ (x.ands.getD i default).1 / 2 < firstAndL x.n + i ∧ 0 ≤ (x.ands.getD i default).2 ∧ (x.ands.getD i default).2 / 2 < firstAndL x.n + i := by
 have h1 := h.ands i hi
 unfold litP at h1
 exact ⟨h1.1.1, h1.1.2, h1.2.1, h1.2.2⟩
end Go.Xw
namespace Go.Proofs
open Go.Xw
set_option maxRecDepth 100000
set_option maxHeartbeats 1000000
attribute [local irreducible] Holds elemAddr
end Go.Proofs
end
section
namespace Go.Proofs
open Go.Xw
set_option maxRecDepth 100000
end Go.Proofs
end
