/- The bit operations of 64-bit integers as arithmetic; no condition but the stated ones. -/
import Derived.Laws.BitsAllLaws
import Derived.Laws.BitsLemmas
import Derived.IntWalk
set_option linter.all false
namespace Go.Xw
end Go.Xw
