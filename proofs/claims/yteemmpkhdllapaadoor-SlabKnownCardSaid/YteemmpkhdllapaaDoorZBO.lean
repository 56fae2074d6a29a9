/- croftlaw5: rows of deeds; BuddyExactly. No condition. -/
import Derived.Test.YteemmpkhdllapaaDoorZBN
import Derived.Test.YteemmpkhdllapaaDoorZX3
set_option linter.unusedSimpArgs false
set_option linter.unusedVariables false
namespace Go.Proofs.YteemmpkhdllapaaDoor
open Go.V Classical

end Go.Proofs.YteemmpkhdllapaaDoor
