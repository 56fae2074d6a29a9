/- croftlaw7: gone; which regions go. No condition. -/
import Derived.Test.YteemmpkhdllapaaDoorZEG
set_option linter.unusedSimpArgs false
set_option linter.unusedVariables false
namespace Go.Proofs.YteemmpkhdllapaaDoor
open Go.V Classical

end Go.Proofs.YteemmpkhdllapaaDoor
