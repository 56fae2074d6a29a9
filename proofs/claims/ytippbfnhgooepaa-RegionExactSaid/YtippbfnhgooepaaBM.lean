/- croftlaw5: a deed. No condition. -/
import Derived.Test.YtippbfnhgooepaaBL
set_option linter.unusedSimpArgs false
set_option linter.unusedVariables false
namespace Go.Proofs.Ytippbfnhgooepaa
open Go.V Classical

abbrev wbR (c : Cfg) (Q : WW) (x : BU) (bp : Option Addr) (bc : Nat) (l : List Bk) : Res := andR (wsR c Q x) (slR bp l.length bc 3 (bkV l))

section
variable {w₀ : World} {h : Heap} {K : Value → Heap → Prop} {c : Cfg} {Q : WW} {x : BU} {fl : Nat → List Nat} {l : List Bk} {bp : Option Addr} {bc : Nat}

end
end Go.Proofs.Ytippbfnhgooepaa
