/- croftlaw7: got, gone. No condition. -/
import Derived.Test.YteemmpkhdllapaaDoorZEF
import Derived.Test.YteemmpkhdllapaaDoorZGcroftlaw7worldgot
set_option linter.unusedSimpArgs false
set_option linter.unusedVariables false
namespace Go.Proofs.YteemmpkhdllapaaDoor
open Go.V Classical

theorem andnot12 {x : Nat} (hx : x < 2 ^ 64) : (BitVec.ofInt 64 (x : Int) &&& ~~~ (BitVec.ofInt 64 (4095 : Int))).toNat = x / 4096 * 4096 := by
  have h0 : BitVec.ofInt 64 (4095 : Int) = BitVec.ofNat 64 4095 := rfl
  rw [ofInt_nat, h0]
  apply Nat.eq_of_testBit_eq
  intro i
  have e1 : (BitVec.ofNat 64 x &&& ~~~ BitVec.ofNat 64 4095).toNat.testBit i = (BitVec.ofNat 64 x &&& ~~~ BitVec.ofNat 64 4095).getLsbD i := rfl
  have e2 : (4095 : Nat) = 2 ^ 12 - 1 := by decide
  have e3 : x / 4096 * 4096 = 2 ^ 12 * (x / 2 ^ 12) := by rw [Nat.mul_comm]
  rw [e1, BitVec.getLsbD_and, BitVec.getLsbD_not, BitVec.getLsbD_ofNat, BitVec.getLsbD_ofNat, e2, Nat.testBit_two_pow_sub_one, e3, Nat.testBit_two_pow_mul, Nat.testBit_div_two_pow]
  by_cases h64 : i < 64
  · by_cases h12 : i < 12
    · simp [h64, h12]; omega
    · have : 12 ≤ i := by omega
      simp [h64, h12, this]
  · have : x.testBit i = false := Nat.testBit_lt_two_pow (Nat.lt_of_lt_of_le hx (Nat.pow_le_pow_right (by omega) (by omega)))
    simp [h64]
    intro h12
    rw [show i - 12 + 12 = i by omega]; exact this

theorem page_of {b0 : Int} {a : Nat} (hb : 0 ≤ b0 ∧ b0 ≤ 9223372036854775808) (h4 : b0 % 4096 = 0) (ha : a ≤ 8388608) :
    IntKind.wrap .u64 (((BitVec.ofInt (IntKind.bits .u64) (b0 + (a : Int)) &&& ~~~ (BitVec.ofInt (IntKind.bits .u64) (4095 : Int))).toNat : Int)) = b0 + ((4096 * (a / 4096) : Nat) : Int) := by
  obtain ⟨y, hy⟩ : ∃ y : Nat, b0 + (a : Int) = y := ⟨(b0 + (a : Int)).toNat, by omega⟩
  rw [hy]
  have := andnot12 (x := y) (by omega)
  rw [show (BitVec.ofInt (IntKind.bits .u64) (y : Int) &&& ~~~ (BitVec.ofInt (IntKind.bits .u64) (4095 : Int))).toNat = y / 4096 * 4096 from this]
  rw [wU (by unfold U64; omega)]
  omega

end Go.Proofs.YteemmpkhdllapaaDoor
