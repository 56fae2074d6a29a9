/- croftlaw7: scripts that are handed in; SlabEnds. No condition. -/
import Derived.Test.YteemmpkhdllapaaDoorZEC
import Derived.Test.YteemmpkhdllapaaDoorZX3
import Derived.Test.YteemmpkhdllapaaDoorZGcroftlaw7SlabEnds
set_option linter.unusedSimpArgs false
set_option linter.unusedVariables false
namespace Go.Proofs.YteemmpkhdllapaaDoor
open Go.V Classical

end Go.Proofs.YteemmpkhdllapaaDoor
