/- croftlaw6: RegionPlays. No condition. -/
import Derived.Test.YtippbfnhgooepaaZD5
import Derived.Test.YtippbfnhgooepaaZCB
import Derived.Test.YtippbfnhgooepaaZGcroftlaw6RegionPlays
set_option linter.unusedSimpArgs false
set_option linter.unusedVariables false
namespace Go.Proofs.Ytippbfnhgooepaa
open Go.V Classical

section
variable {w₀ : World} {h0 h : Heap} {c : Cfg} {Q : PL} {x : BU} {Y : RW6} {O : Nat} {fl : Nat → List Nat} {L : List PBk} {rs : List Res}

theorem off_Zp {q : Option Addr} {c' : Cfg} {Y' : RW6} (I : Hold h0 h rs) (hm : ptR c O Q x Y fl L ∈ rs) (ho : Off (fun b => h0.size ≤ b) q) : Off Q.B.Z q := fun a e hz => ho a e (I.ge _ hm _ (.inl (.inr (.inr (.inl (.inr hz))))))

end

end Go.Proofs.Ytippbfnhgooepaa
