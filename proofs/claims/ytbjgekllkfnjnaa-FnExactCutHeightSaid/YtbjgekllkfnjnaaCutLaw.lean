/- Cuts of a node, as plain data; no condition. -/
import Derived.Test.YtbjgekllkfnjnaaMergeLaw
import Derived.Test.YtbjgekllkfnjnaaConjLaw
set_option linter.all false
namespace Go.Xw
end Go.Xw
