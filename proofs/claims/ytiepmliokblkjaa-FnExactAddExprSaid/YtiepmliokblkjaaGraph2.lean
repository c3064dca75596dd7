/- The contracts of the functions that give a net's roots, levels and depth; each under its stated conditions. -/
import Derived.Test.YtiepmliokblkjaaGraph1
set_option linter.all false
namespace Go.Proofs
open Go.Xw
set_option maxRecDepth 100000
set_option maxHeartbeats 1000000
attribute [local irreducible] Holds elemAddr
end Go.Proofs
