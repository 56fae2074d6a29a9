/- croftlaw5: a deed. No condition. -/
import Derived.Test.YtnlcmfdmbgnpfaaGreatZBL
set_option linter.unusedSimpArgs false
set_option linter.unusedVariables false
namespace Go.Proofs.YtnlcmfdmbgnpfaaGreat
open Go.V Classical

end Go.Proofs.YtnlcmfdmbgnpfaaGreat
