/- croftlaw7: got, gone. No condition. -/
import Derived.Test.YteemmpkhdllapaaDoorZEF
import Derived.Test.YteemmpkhdllapaaDoorZGcroftlaw7worldgot
set_option linter.unusedSimpArgs false
set_option linter.unusedVariables false
namespace Go.Proofs.YteemmpkhdllapaaDoor
open Go.V Classical

end Go.Proofs.YteemmpkhdllapaaDoor
