/- croftlaw6: RegionSame, RegionNews. No condition. -/
import Derived.Test.YtippbfnhgooepaaZC2
set_option linter.unusedSimpArgs false
set_option linter.unusedVariables false
namespace Go.Proofs.Ytippbfnhgooepaa
open Go.V Classical

end Go.Proofs.Ytippbfnhgooepaa
