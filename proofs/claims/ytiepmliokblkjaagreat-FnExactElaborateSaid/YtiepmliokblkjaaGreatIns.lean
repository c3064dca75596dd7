/- Texts that belong together; each under its stated conditions. -/
import Derived.Test.YtiepmliokblkjaaGreatStep
import Derived.Test.YtiepmliokblkjaaGreatGraph4
import Derived.Test.YtiepmliokblkjaaGreatFam
set_option linter.all false
section
namespace Go.Xw
end Go.Xw
end
section
namespace Go.Xw
theorem own_drop {w0 : World} {L : List Res} {a : Option Addr} {e : TypeId} {α : Type} [Inhabited α] {enc : α → List Value} {s c j : Nat} {X : List α} [he : EncOk enc s] (hj : j ≤ X.length) : RdH w0 (rO e s enc a c X :: L) (subA a c s j) s enc (X.drop j) :=
 ⟨fun w hp => Sl.dropL (hp.sl he) hj hp.own.cap⟩
end Go.Xw
namespace Go.Proofs
open Go.Xw
set_option maxRecDepth 100000
set_option maxHeartbeats 1000000
attribute [local irreducible] Holds elemAddr
end Go.Proofs
end
