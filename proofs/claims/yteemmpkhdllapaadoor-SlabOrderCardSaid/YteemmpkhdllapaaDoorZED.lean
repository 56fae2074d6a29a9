/- croftlaw7: scripts that are handed in; SlabEnds. No condition. -/
import Derived.Test.YteemmpkhdllapaaDoorZEC
import Derived.Test.YteemmpkhdllapaaDoorZX3
import Derived.Test.YteemmpkhdllapaaDoorZGcroftlaw7SlabEnds
set_option linter.unusedSimpArgs false
set_option linter.unusedVariables false
namespace Go.Proofs.YteemmpkhdllapaaDoor
open Go.V Classical

theorem wf_bd63 {z : Int} (w : (Lit.int .i64 z).wf = true) : bd63 z := by have := Go.bounds_i64 w; unfold bd63; omega

end Go.Proofs.YteemmpkhdllapaaDoor
