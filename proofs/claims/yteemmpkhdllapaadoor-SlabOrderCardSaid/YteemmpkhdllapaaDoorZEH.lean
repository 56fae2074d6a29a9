/- croftlaw7: gone; which regions go. No condition. -/
import Derived.Test.YteemmpkhdllapaaDoorZEG
set_option linter.unusedSimpArgs false
set_option linter.unusedVariables false
namespace Go.Proofs.YteemmpkhdllapaaDoor
open Go.V Classical

section
variable {w₀ : World} {h : Heap} {c : Cfg} {wb : Nat} {d : List Value} {Q : SL} {x : BU} {hp : Nat → Int} {S : Nat → Prop} {fl : Nat → List Nat} {L : List PBk} {cl : Nat → Nat} {fr pl : Nat → List Nat} {l : List CE} {K : Value → Heap → Prop}

theorem adr_off (c : Cfg) (q : Nat) (z : Nat) : c.base + ((4096 * q + z : Nat) : Int) = adr c q + ((z : Nat) : Int) := by unfold adr; omega

end
end Go.Proofs.YteemmpkhdllapaaDoor
