/- The types of the law's arguments, in plain Lean, and as cold values. -/
import Derived.Test.YtbiooiikejcgbaaDoorAxX
set_option linter.unusedVariables false
namespace Go.Ax
open Go

end Go.Ax
