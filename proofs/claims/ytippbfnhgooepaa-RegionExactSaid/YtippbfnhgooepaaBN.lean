/- croftlaw5: a world that begins; lives. No condition. -/
import Derived.Test.YtippbfnhgooepaaBM
set_option linter.unusedSimpArgs false
set_option linter.unusedVariables false
namespace Go.Proofs.Ytippbfnhgooepaa
open Go.V Classical

def C5 : Cfg := ⟨65536, 2, 2⟩
theorem C5_good : C5.Good := good_iff.2 (by decide)
theorem usual5 : usualC 65536 2 2 = C5 := by unfold usualC; split <;> rfl

theorem wi0 {c : Cfg} (g : c.Good) : WI c (BU0 c) (fun _ => []) [] := ⟨rep0 g, by show 0 = 0 * _; omega, g⟩
theorem bu0_o {c : Cfg} (g : c.Good) : (BU0 c).m.o = c.order.toNat := clamp_o g

theorem F5 : hdL C5 (aCut 0 0 (fset (aUp (fun _ => []) 0 2 0) 2 []) 2) 2 = [69632, 73728, 0] := by decide

section
variable {w₀ : World} {h : Heap} {K : Value → Heap → Prop}

theorem uL_lit {h : Heap} {p : Option Addr} {n c : Nat} {f : Nat → Value} {xs : List Int} (H : (slR p n c 1 f).P h) (hn : n = xs.length) (hf : ∀ i, i < xs.length → f i = .int .u64 (xs.getD i 0)) : Row h p xs.length (uL xs) := by
  subst hn
  have := sl_row (sl_congr (g := uL xs) H fun i hi => hf i (by omega))
  rwa [Nat.mul_one] at this

theorem sl_uL {h : Heap} {p : Option Addr} {c : Nat} {xs : List Int} (H : (slR p xs.length c 1 (uL xs)).P h) : Row h p xs.length (uL xs) := by
  have := sl_row H
  rwa [Nat.mul_one] at this

end
end Go.Proofs.Ytippbfnhgooepaa
