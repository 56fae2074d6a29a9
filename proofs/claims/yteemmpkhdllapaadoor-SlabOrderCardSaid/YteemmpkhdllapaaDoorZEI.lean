/- croftlaw7: a deed. No condition. -/
import Derived.Test.YteemmpkhdllapaaDoorZEH
import Derived.Test.YteemmpkhdllapaaDoorZGcroftlaw7worlddo
set_option linter.unusedSimpArgs false
set_option linter.unusedVariables false
namespace Go.Proofs.YteemmpkhdllapaaDoor
open Go.V Classical

structure DoOut (l l' : List CE) (st st' : Sto) : Prop where
  len : l'.length ≤ l.length + 1
  new : l.length < l'.length → ∃ e, l' = l ++ [e] ∧ 0 ≤ e.m ∧ e.m < 256
  old : l'.length ≤ l.length → ∀ e ∈ l', e ∈ l
  mem : ∀ e ∈ l', e ∈ l → ∀ o, e.a ≤ o → o < e.a + e.n → st'.M o = st.M o

theorem shl16 {k : Nat} (hk : k < 8) : IntKind.wrap .u64 ((16 : Int) * 2 ^ min (Int.toNat (IntKind.wrap .u64 (k : Int))) (IntKind.bits .u64)) = (wdt k : Int) := by
  rcases k8 hk with rfl | rfl | rfl | rfl | rfl | rfl | rfl | rfl <;> rfl

end Go.Proofs.YteemmpkhdllapaaDoor
