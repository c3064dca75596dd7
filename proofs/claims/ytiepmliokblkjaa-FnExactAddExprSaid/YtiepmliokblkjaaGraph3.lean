/- The contracts of the functions that give a net's levels and depth; each under its stated conditions. -/
import Derived.Test.YtiepmliokblkjaaGraph2
set_option linter.all false
namespace Go.Xw
theorem NetOkP.nodes {x : NetA} (h : NetOkP x.n) : 1 ≤ firstAndL x.n ∧ firstAndL x.n + x.ands.length = nodesL x.n ∧ nodesL x.n ≤ 333 := by
 have h1 := h.size'
 have h2 := nodesL_eq x
 have h3 := firstAndL_eq x
 omega
end Go.Xw
namespace Go.Proofs
open Go.Xw
set_option maxRecDepth 100000
set_option maxHeartbeats 1000000
attribute [local irreducible] Holds elemAddr
end Go.Proofs
