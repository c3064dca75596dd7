/- The contracts of the functions that give a net's roots, levels and depth; each under its stated conditions. -/
import Derived.Test.YtbjgekllkfnjnaaGraph1
set_option linter.all false
namespace Go.Proofs
open Go.Xw
set_option maxRecDepth 100000
set_option maxHeartbeats 1000000
attribute [local irreducible] Holds elemAddr
noncomputable def ifOk (n : NetL) (l : List Int) : List Int := if netOkB n = true then l else []
theorem ifOk_yes {n : NetL} {l : List Int} (h : NetOkP n) : ifOk n l = l := by rw [ifOk, if_pos (netOkB_iff.2 h)]
theorem ifOk_no {n : NetL} {l : List Int} (h : ¬ NetOkP n) : ifOk n l = [] := by rw [ifOk, if_neg (fun hh => h (netOkB_iff.1 hh))]
end Go.Proofs
