/- Texts that belong together; each under its stated conditions. -/
import Derived.Test.YtbjgekllkfnjnaaNetR
import Derived.Test.YtbjgekllkfnjnaaBits
import Derived.Test.YtbjgekllkfnjnaaReachLaw
import Derived.Test.YtbjgekllkfnjnaaStep
set_option linter.all false
section
namespace Go.Xw
open Go.RowKit
end Go.Xw
end
section
namespace Go.Xw
end Go.Xw
end
