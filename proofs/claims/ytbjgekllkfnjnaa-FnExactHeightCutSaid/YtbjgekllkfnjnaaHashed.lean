/- The contracts of the functions that tell whether a net is hashed; each under its stated conditions. -/
import Derived.Test.YtbjgekllkfnjnaaReach
set_option linter.all false
namespace Go.Xw
theorem pB_no {p : Prop} (h : ¬ p) : pB p = false := by simp [pB, h]
theorem pB_yes {p : Prop} (h : p) : pB p = true := by simp [pB, h]
end Go.Xw
namespace Go.Proofs
open Go.Xw
set_option maxRecDepth 100000
set_option maxHeartbeats 1000000
attribute [local irreducible] Holds elemAddr
end Go.Proofs
