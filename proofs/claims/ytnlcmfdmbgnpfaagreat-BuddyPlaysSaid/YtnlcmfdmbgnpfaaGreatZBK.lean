/- croftlaw5: the book of live blocks: meets, stuck, without. No condition. -/
import Derived.Test.YtnlcmfdmbgnpfaaGreatZBJ
import Derived.Test.YtnlcmfdmbgnpfaaGreatZM2
set_option linter.unusedSimpArgs false
set_option linter.unusedVariables false
namespace Go.Proofs.YtnlcmfdmbgnpfaaGreat
open Go.V Classical

structure Bk where
  p : Nat
  k : Nat
  m : Int

abbrev Bk.b (b : Bk) : PBk := (b.p, b.k)
abbrev lvB (l : List Bk) : List PBk := l.map Bk.b

end Go.Proofs.YtnlcmfdmbgnpfaaGreat
