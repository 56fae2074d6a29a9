/- croftlaw5: a world that begins; lives. No condition. -/
import Derived.Test.YteemmpkhdllapaaDoorZBM
set_option linter.unusedSimpArgs false
set_option linter.unusedVariables false
namespace Go.Proofs.YteemmpkhdllapaaDoor
open Go.V Classical

section
variable {w₀ : World} {h : Heap} {K : Value → Heap → Prop}

theorem sl_uL {h : Heap} {p : Option Addr} {c : Nat} {xs : List Int} (H : (slR p xs.length c 1 (uL xs)).P h) : Row h p xs.length (uL xs) := by
  have := sl_row H
  rwa [Nat.mul_one] at this

end
end Go.Proofs.YteemmpkhdllapaaDoor
