/- croftlaw5: a world that begins; lives. No condition. -/
import Derived.Test.YtippbfnhgooepaaZBM
set_option linter.unusedSimpArgs false
set_option linter.unusedVariables false
namespace Go.Proofs.Ytippbfnhgooepaa
open Go.V Classical

theorem wi0 {c : Cfg} (g : c.Good) : WI c (BU0 c) (fun _ => []) [] := ⟨rep0 g, by show 0 = 0 * _; omega, g⟩
theorem bu0_o {c : Cfg} (g : c.Good) : (BU0 c).m.o = c.order.toNat := clamp_o g

end Go.Proofs.Ytippbfnhgooepaa
