/- croftlaw5: BuddyTiles. No condition. -/
import Derived.Test.YtippbfnhgooepaaZBT
set_option linter.unusedSimpArgs false
set_option linter.unusedVariables false
namespace Go.Proofs.Ytippbfnhgooepaa
open Go.V Classical

end Go.Proofs.Ytippbfnhgooepaa
