/- croftlaw5: rows of deeds; BuddyExactly. No condition. -/
import Derived.Test.YtnlcmfdmbgnpfaaGreatZBN
import Derived.Test.YtnlcmfdmbgnpfaaGreatZX3
set_option linter.unusedSimpArgs false
set_option linter.unusedVariables false
namespace Go.Proofs.YtnlcmfdmbgnpfaaGreat
open Go.V Classical

theorem wf_u64 {n : Int} (h : (Lit.int .u64 n).wf = true) : U64 n := by
  have := Go.bounds_u64 h; exact ⟨by omega, by omega⟩

end Go.Proofs.YtnlcmfdmbgnpfaaGreat
