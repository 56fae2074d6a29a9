/- croftlaw7: scripts of deeds; SlabExactly. No condition. -/
import Derived.Test.YteemmpkhdllapaaDoorZEI
import Derived.Test.YteemmpkhdllapaaDoorZED
set_option linter.unusedSimpArgs false
set_option linter.unusedVariables false
namespace Go.Proofs.YteemmpkhdllapaaDoor
open Go.V Classical

end Go.Proofs.YteemmpkhdllapaaDoor
