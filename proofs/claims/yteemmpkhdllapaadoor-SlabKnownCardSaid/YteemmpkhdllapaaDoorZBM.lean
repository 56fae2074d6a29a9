/- croftlaw5: a deed. No condition. -/
import Derived.Test.YteemmpkhdllapaaDoorZBL
set_option linter.unusedSimpArgs false
set_option linter.unusedVariables false
namespace Go.Proofs.YteemmpkhdllapaaDoor
open Go.V Classical

end Go.Proofs.YteemmpkhdllapaaDoor
