/- croftlaw6: RegionGone. No condition. -/
import Derived.Test.YtippbfnhgooepaaZC3
import Derived.Test.YtippbfnhgooepaaZBV
import Derived.Test.YtippbfnhgooepaaZGcroftlaw6RegionGone
set_option linter.unusedSimpArgs false
set_option linter.unusedVariables false
namespace Go.Proofs.Ytippbfnhgooepaa
open Go.V Classical

end Go.Proofs.Ytippbfnhgooepaa
