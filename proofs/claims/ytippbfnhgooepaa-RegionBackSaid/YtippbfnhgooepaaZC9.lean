/- croftlaw6: spans: meets, full, equal; which regions go. No condition. -/
import Derived.Test.YtippbfnhgooepaaZC7
import Derived.Test.YtippbfnhgooepaaZX5
set_option linter.unusedSimpArgs false
set_option linter.unusedVariables false
namespace Go.Proofs.Ytippbfnhgooepaa
open Go.V Classical

structure Sn where
  p : Nat
  k : Nat
  dp : Option Addr
  dn : Nat
  dc : Nat
  g : Nat → Int

end Go.Proofs.Ytippbfnhgooepaa
