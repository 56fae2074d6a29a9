/- croftref5: pairs' words, the plain part. No condition. -/
import Derived.Test.YtnlcmfdmbgnpfaaGreatZA9
set_option linter.unusedSimpArgs false
set_option linter.unusedVariables false
namespace Go.Proofs.YtnlcmfdmbgnpfaaGreat
open Go.V Classical

noncomputable def prB (fl : Nat → List Nat) (k i : Nat) : Bool := !(decide (i * 2 ^ (k + 1) ∈ fl k) == decide (i * 2 ^ (k + 1) + 2 ^ k ∈ fl k))
noncomputable def prT (fl : Nat → List Nat) (k t i : Nat) : Bool := decide (i < t) && prB fl k i

theorem wd_or {fl : Nat → List Nat} {k t : Nat} (h : prB fl k t = true) : wd (prT fl k (t + 1)) (t / 64) = wd (prT fl k t) (t / 64) ||| 2 ^ (t % 64) := by
  have hlt := wd_lt (prT fl k t) (t / 64)
  have h2 : 2 ^ (t % 64) < 18446744073709551616 := by
    have := Nat.pow_lt_pow_right (show 1 < 2 by omega) (show t % 64 < 64 by omega)
    omega
  refine (wd_eq (Nat.or_lt_two_pow (n := 64) hlt h2) fun i hi => ?_).symm
  rw [Nat.testBit_or, wd_bit, Nat.testBit_two_pow, decide_eq_true hi, Bool.true_and]
  unfold prT
  by_cases e : t % 64 = i
  · have et : 64 * (t / 64) + i = t := by omega
    rw [et, h]
    simp [e]
  · rw [decide_eq_false e, Bool.or_false]
    congr 1
    exact decide_eq_decide.2 (by omega)

theorem wd_no {fl : Nat → List Nat} {k t j : Nat} (h : prB fl k t = false ∨ j ≠ t / 64) : wd (prT fl k (t + 1)) j = wd (prT fl k t) j := by
  refine wd_congr fun i hi => ?_
  unfold prT
  by_cases e : 64 * j + i = t
  · rcases h with h | h
    · rw [e, h, Bool.and_false, Bool.and_false]
    · omega
  · congr 1
    exact decide_eq_decide.2 (by omega)

theorem wd_zero {fl : Nat → List Nat} {k j : Nat} : wd (prT fl k 0) j = 0 := by
  refine (wd_eq (by omega) fun i hi => ?_).symm
  unfold prT
  simp

theorem prB_bits {o n : Nat} {bt : Nat → Nat → Bool} {fl : Nat → List Nat} (B : Bits o n bt fl) {k i : Nat} (hk : k < o) (hi : i * 2 ^ (k + 1) < n) : bt k i = prB fl k i := by
  have h0 := Nat.two_pow_pos k
  have e1 : i * 2 ^ (k + 1) = 2 * i * 2 ^ k := by rw [Nat.pow_succ, Nat.mul_comm (2 ^ k) 2, ← Nat.mul_assoc, Nat.mul_comm i 2]
  have := B k (i * 2 ^ (k + 1)) hk (by rw [e1]; exact Nat.mul_mod_left _ _) hi
  rw [Nat.mul_div_cancel _ (Nat.two_pow_pos _)] at this
  rw [this]
  have e2 : bud (i * 2 ^ (k + 1)) k = i * 2 ^ (k + 1) + 2 ^ k := by
    unfold bud
    rw [if_pos]
    rw [e1, Nat.mul_div_cancel _ h0]
    omega
  rw [e2]
  rfl
end Go.Proofs.YtnlcmfdmbgnpfaaGreat
