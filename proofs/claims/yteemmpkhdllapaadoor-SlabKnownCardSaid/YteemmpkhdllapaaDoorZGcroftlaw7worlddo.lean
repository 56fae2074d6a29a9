/- The conditions of functions as plain formulas, printed by a program of this project. No condition. -/
import Derived.Test.YteemmpkhdllapaaDoorZF
set_option maxRecDepth 100000
set_option maxHeartbeats 1000000
set_option linter.unusedVariables false
namespace Go.Proofs.YteemmpkhdllapaaDoor
open Go.V

end Go.Proofs.YteemmpkhdllapaaDoor
