/- croftlaw7: the book in the heap: meets, covered, noFit, without. No condition. -/
import Derived.Test.YteemmpkhdllapaaDoorZEE
set_option linter.unusedSimpArgs false
set_option linter.unusedVariables false
namespace Go.Proofs.YteemmpkhdllapaaDoor
open Go.V Classical

structure BdE (b0 : Int) (l : List CE) : Prop where
  b : 0 ≤ b0 ∧ b0 ≤ 9223372036854775808
  e : ∀ e ∈ l, e.a ≤ 8388608 ∧ e.n ≤ 8388608
  l : l.length ≤ 1073741824

end Go.Proofs.YteemmpkhdllapaaDoor
