/- croftlaw5: a deed. No condition. -/
import Derived.Test.YtippbfnhgooepaaZBL
set_option linter.unusedSimpArgs false
set_option linter.unusedVariables false
namespace Go.Proofs.Ytippbfnhgooepaa
open Go.V Classical

end Go.Proofs.Ytippbfnhgooepaa
