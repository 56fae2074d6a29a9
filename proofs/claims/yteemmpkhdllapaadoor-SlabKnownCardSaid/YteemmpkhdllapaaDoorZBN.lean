/- croftlaw5: a world that begins; lives. No condition. -/
import Derived.Test.YteemmpkhdllapaaDoorZBM
set_option linter.unusedSimpArgs false
set_option linter.unusedVariables false
namespace Go.Proofs.YteemmpkhdllapaaDoor
open Go.V Classical

end Go.Proofs.YteemmpkhdllapaaDoor
