/- Slices that are owned: what append makes of them. -/
import Derived.Test.YtiiajdfjnamfcaaGreatAbsOwn
set_option autoImplicit false
set_option linter.unusedSimpArgs false
set_option linter.unusedVariables false
namespace Go.Abs
open Go
end Go.Abs
