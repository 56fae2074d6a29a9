/- Chapter 2's laws on bytes. No condition. -/
import Derived.Test.YtfijahblggnbbaaW8
import Derived.Test.YtfijahblggnbbaaX0
set_option linter.unusedSimpArgs false
set_option linter.unusedVariables false
namespace Go.Proofs.Ytfijahblggnbbaa
open Go.V Classical

section
variable {w₀ : World} {h : Heap} {s n : Nat} {c : Cfg} {M : Nat → Int} {Z : Nat → Prop} {K : Value → Heap → Prop}

theorem Same_true {p q : Option Addr} {n cp cq : Nat} {f g : Nat → Int} (hn : n < 9223372036854775808) (hp : Row h p n (fun i => .int .u8 (f i))) (hq : Row h q n (fun i => .int .u8 (g i))) (he : ∀ i, i < n → f i = g i)
    (hK : K (.bool true) h) : CallV Try.prog w₀ F.croftref2_Same [.slice p n cp, .slice q n cq] h K := by
  refine croftref2_Same.call ?_
  unfold croftref2_Same.vc
  refine iF (by simp) ?_
  intro J k L hL
  have loop : ∀ r i : Nat, i + r = n → L [.slice p n cp, .slice q n cq, .int .i64 (i : Int)] h := by
    intro r
    induction r with
    | zero =>
      intro i hi
      have : i = n := by omega
      subst this
      exact hL _ _ _ _ _ _ _ _ (iF (by simp) (k _ hK))
    | succ r ih =>
      intro i hi
      have e3 : IntKind.wrap .i64 ((i : Int) + 1) = ((i + 1 : Nat) : Int) := by rw [IntKind.wrap_i64]; omega
      have t1 : Int.toNat (i : Int) = i := by omega
      rcases hp with hp | ⟨pb, po, rfl, hp⟩
      · omega
      rcases hq with hq | ⟨qb, qo, rfl, hq⟩
      · omega
      refine hL _ _ _ _ _ _ _ _ (iT (by simp; omega) ?_)
      rw [e3, t1]
      refine ⟨_, rfl, by omega, by omega, f i, by rw [add_mk, Nat.mul_one]; exact hp i (by omega), _, rfl, by omega, by omega, g i, by rw [add_mk, Nat.mul_one]; exact hq i (by omega), ?_⟩
      refine iF (by rw [he i (by omega)]; simp) (ih (i + 1) (by omega))
  exact loop n 0 (by omega)

end
end Go.Proofs.Ytfijahblggnbbaa
