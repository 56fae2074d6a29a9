/- croftlaw7: a deed. No condition. -/
import Derived.Test.YteemmpkhdllapaaDoorZEH
import Derived.Test.YteemmpkhdllapaaDoorZGcroftlaw7worlddo
set_option linter.unusedSimpArgs false
set_option linter.unusedVariables false
namespace Go.Proofs.YteemmpkhdllapaaDoor
open Go.V Classical

structure DoOut (l l' : List CE) (st st' : Sto) : Prop where
  len : l'.length ≤ l.length + 1
  new : l.length < l'.length → ∃ e, l' = l ++ [e] ∧ 0 ≤ e.m ∧ e.m < 256
  old : l'.length ≤ l.length → ∀ e ∈ l', e ∈ l
  mem : ∀ e ∈ l', e ∈ l → ∀ o, e.a ≤ o → o < e.a + e.n → st'.M o = st.M o

end Go.Proofs.YteemmpkhdllapaaDoor
