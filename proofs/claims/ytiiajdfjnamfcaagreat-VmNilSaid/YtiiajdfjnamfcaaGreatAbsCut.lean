/- A function whose first steps are told for themselves: behind them only some slots are kept. -/
import Derived.Test.YtiiajdfjnamfcaaGreatAbsLaw
set_option autoImplicit false
set_option linter.unusedSimpArgs false
set_option linter.unusedVariables false
namespace Go.Abs
open Go Go.RowKit
noncomputable section
end
section
variable {P : Program}
end
end Go.Abs
