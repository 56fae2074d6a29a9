/- Lists of structs of numbers and truths that are handed in, out of their reading. No condition. -/
import Derived.Test.YteemmpkhdllapaaDoorZM2
import Derived.Lib.SmallJoins
set_option linter.unusedVariables false
set_option linter.unusedSimpArgs false
namespace Go.V
open Go.RowKit

end Go.V
