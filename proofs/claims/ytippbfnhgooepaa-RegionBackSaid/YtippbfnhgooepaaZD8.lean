/- croftlaw6: what a pool tells: looked, same; RegionRefused. No condition. -/
import Derived.Test.YtippbfnhgooepaaZD6
import Derived.Test.YtippbfnhgooepaaZGcroftlaw6same
import Derived.Test.YtippbfnhgooepaaZGcroftlaw6RegionRefused
set_option linter.unusedSimpArgs false
set_option linter.unusedVariables false
namespace Go.Proofs.Ytippbfnhgooepaa
open Go.V Classical

section
variable {w₀ : World} {h h' : Heap} {K : Value → Heap → Prop} {c : Cfg} {Q : PL} {x : BU} {fl : Nat → List Nat} {L : List PBk}

theorem span_le (W : WI c x fl L) : x.st.n * c.size ≤ 4194304 := by
  have h1 := W.rep.rm.r
  have h2 := W.ok.m.n1
  have h3 := W.e
  have h4 := W.ok.o
  have e : c.order.toNat = x.m.o := by omega
  unfold Cfg.size
  rw [e, Nat.mul_left_comm, ← h3]
  omega

end

end Go.Proofs.Ytippbfnhgooepaa
