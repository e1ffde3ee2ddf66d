/- Slices that are owned: what append makes of them. -/
import Derived.Test.YtiiajdfjnamfcaaGreatAbsView
set_option autoImplicit false
set_option linter.unusedSimpArgs false
set_option linter.unusedVariables false
namespace Go.Abs
open Go
end Go.Abs
