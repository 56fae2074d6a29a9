/- Words as rows of bits; powers; plain laws. No condition. -/
import Derived.Test.YtnplkinakaepdaaH1
set_option linter.unusedSimpArgs false
set_option linter.unusedVariables false
namespace Go.V

/-- The first k bits of a row, as a number. -/
def wOf (f : Nat → Bool) : Nat → Nat
  | 0 => 0
  | k + 1 => wOf f k + (f k).toNat * 2 ^ k

theorem wOf_lt (f : Nat → Bool) : ∀ k, wOf f k < 2 ^ k
  | 0 => by simp [wOf]
  | k + 1 => by
    have := wOf_lt f k
    simp only [wOf, Nat.pow_succ]
    cases f k <;> simp <;> omega

theorem wOf_bit (f : Nat → Bool) : ∀ k i, (wOf f k).testBit i = (decide (i < k) && f i)
  | 0, i => by simp [wOf]
  | k + 1, i => by
    have hl := wOf_lt f k
    have e : wOf f (k + 1) = 2 ^ k * (f k).toNat + wOf f k := by simp only [wOf]; rw [Nat.mul_comm, Nat.add_comm]
    rw [e, Nat.testBit_two_pow_mul_add _ hl]
    by_cases h1 : i < k
    · rw [if_pos h1, wOf_bit f k i]; simp [h1, Nat.lt_succ_of_lt h1]
    · rw [if_neg h1]
      by_cases h2 : i = k
      · subst h2; cases f i <;> simp
      · have h3 : ¬ i < k + 1 := by omega
        have h4 : i - k ≠ 0 := by omega
        simp only [h3, decide_false, Bool.false_and]
        cases f k
        · simp
        · simp only [Bool.toNat_true]
          cases hb : Nat.testBit 1 (i - k)
          · rfl
          · exact absurd (Nat.testBit_one_eq_true_iff_self_eq_zero.1 hb) h4

theorem wOf_congr {f g : Nat → Bool} {k : Nat} (h : ∀ i, i < k → f i = g i) : wOf f k = wOf g k := by
  apply Nat.eq_of_testBit_eq
  intro i
  rw [wOf_bit, wOf_bit]
  by_cases hi : i < k
  · simp [hi, h i hi]
  · simp [hi]

/-- Word j of a row of bits. -/
def wd (f : Nat → Bool) (j : Nat) : Nat := wOf (fun i => f (64 * j + i)) 64

theorem wd_lt (f : Nat → Bool) (j : Nat) : wd f j < 18446744073709551616 := wOf_lt _ 64

theorem wd_bit (f : Nat → Bool) (j i : Nat) : (wd f j).testBit i = (decide (i < 64) && f (64 * j + i)) := wOf_bit _ 64 i

theorem wd_eq {f : Nat → Bool} {j x : Nat} (hx : x < 18446744073709551616) (h : ∀ i, i < 64 → x.testBit i = f (64 * j + i)) : x = wd f j := by
  apply Nat.eq_of_testBit_eq
  intro i
  rw [wd_bit]
  by_cases hi : i < 64
  · simp [hi, h i hi]
  · have : x < 2 ^ i := Nat.lt_of_lt_of_le hx (Nat.pow_le_pow_right (n := 2) (by decide) (show 64 ≤ i by omega))
    simp [hi, Nat.testBit_lt_two_pow this]

theorem wd_congr {f g : Nat → Bool} {j : Nat} (h : ∀ i, i < 64 → f (64 * j + i) = g (64 * j + i)) : wd f j = wd g j := wOf_congr h

theorem ofInt_nat (w x : Nat) : BitVec.ofInt w (x : Int) = BitVec.ofNat w x := by
  apply BitVec.eq_of_toNat_eq
  simp

theorem and64 (a b : Nat) : (BitVec.ofInt 64 (a : Int) &&& BitVec.ofInt 64 (b : Int)).toNat = (a % 2 ^ 64) &&& (b % 2 ^ 64) := by
  rw [ofInt_nat, ofInt_nat, BitVec.toNat_and, BitVec.toNat_ofNat, BitVec.toNat_ofNat]

theorem xor64 (a b : Nat) : (BitVec.ofInt 64 (a : Int) ^^^ BitVec.ofInt 64 (b : Int)).toNat = (a % 2 ^ 64) ^^^ (b % 2 ^ 64) := by
  rw [ofInt_nat, ofInt_nat, BitVec.toNat_xor, BitVec.toNat_ofNat, BitVec.toNat_ofNat]

theorem wrap_nat {x : Nat} (hx : x < 18446744073709551616) : IntKind.wrap .u64 (x : Int) = (x : Int) := by rw [IntKind.wrap_u64]; omega

theorem shr_and_one {x r : Nat} (hx : x < 18446744073709551616) (hr : r < 64) :
    (IntKind.wrap .u64 (((BitVec.ofInt (IntKind.bits .u64) (Int.fdiv (x : Int) (2 ^ min (Int.toNat (r : Int)) (IntKind.bits .u64))) &&& BitVec.ofInt (IntKind.bits .u64) (1 : Int)).toNat : Int)) == (1 : Int)) = x.testBit r := by
  have e1 : min (Int.toNat (r : Int)) (IntKind.bits .u64) = r := by show min _ 64 = r; simp; omega
  rw [e1]
  have e2 : Int.fdiv (x : Int) (2 ^ r) = ((x >>> r : Nat) : Int) := by
    rw [Int.fdiv_eq_ediv_of_nonneg _ (by exact_mod_cast Nat.zero_le _), Nat.shiftRight_eq_div_pow]
    simp
  rw [e2]
  have e5 : x >>> r < 2 ^ 64 := Nat.lt_of_le_of_lt (by rw [Nat.shiftRight_eq_div_pow]; exact Nat.div_le_self _ _) hx
  have e6 : (BitVec.ofInt 64 ((x >>> r : Nat) : Int) &&& BitVec.ofInt 64 ((1 : Nat) : Int)).toNat = x >>> r % 2 := by
    rw [and64, Nat.mod_eq_of_lt e5, show 1 % 2 ^ 64 = 1 from rfl, Nat.and_one_is_mod]
  show (IntKind.wrap .u64 (((BitVec.ofInt 64 ((x >>> r : Nat) : Int) &&& BitVec.ofInt 64 ((1 : Nat) : Int)).toNat : Nat) : Int) == 1) = _
  rw [e6, wrap_nat (by omega), Nat.testBit, Nat.and_comm, Nat.and_one_is_mod]
  have : x >>> r % 2 = 0 ∨ x >>> r % 2 = 1 := by omega
  rcases this with h | h <;> rw [h] <;> rfl

theorem shl_one {r : Nat} (hr : r < 64) : IntKind.wrap .u64 ((1 : Int) * 2 ^ min (Int.toNat (r : Int)) (IntKind.bits .u64)) = ((2 ^ r : Nat) : Int) := by
  have e1 : min (Int.toNat (r : Int)) (IntKind.bits .u64) = r := by show min _ 64 = r; simp; omega
  rw [e1]
  have h1 : (2 : Nat) ^ r < 2 ^ 64 := Nat.pow_lt_pow_right (by decide) hr
  have e2 : (1 : Int) * 2 ^ r = ((2 ^ r : Nat) : Int) := by simp
  rw [e2, wrap_nat h1]

theorem xor_pow {x r : Nat} (hx : x < 18446744073709551616) (hr : r < 64) :
    IntKind.wrap .u64 (((BitVec.ofInt (IntKind.bits .u64) (x : Int) ^^^ BitVec.ofInt (IntKind.bits .u64) (IntKind.wrap .u64 ((1 : Int) * 2 ^ min (Int.toNat (r : Int)) (IntKind.bits .u64)))).toNat : Int)) = ((x ^^^ 2 ^ r : Nat) : Int) := by
  rw [shl_one hr]
  have h1 : (2 : Nat) ^ r < 2 ^ 64 := Nat.pow_lt_pow_right (by decide) hr
  show IntKind.wrap .u64 (((BitVec.ofInt 64 (x : Int) ^^^ BitVec.ofInt 64 ((2 ^ r : Nat) : Int)).toNat : Nat) : Int) = _
  rw [xor64, Nat.mod_eq_of_lt hx, Nat.mod_eq_of_lt h1, wrap_nat (Nat.xor_lt_two_pow (n := 64) hx h1)]

theorem and_low {x r : Nat} (hx : x < 18446744073709551616) (hr : r < 64) :
    IntKind.wrap .u64 (((BitVec.ofInt (IntKind.bits .u64) (x : Int) &&& BitVec.ofInt (IntKind.bits .u64) (IntKind.wrap .u64 (IntKind.wrap .u64 ((1 : Int) * 2 ^ min (Int.toNat (r : Int)) (IntKind.bits .u64)) - (1 : Int)))).toNat : Int)) = ((x % 2 ^ r : Nat) : Int) := by
  rw [shl_one hr]
  have h1 : (2 : Nat) ^ r < 2 ^ 64 := Nat.pow_lt_pow_right (by decide) hr
  have h0 : 1 ≤ (2 : Nat) ^ r := Nat.one_le_two_pow
  have e5 : IntKind.wrap .u64 (((2 ^ r : Nat) : Int) - 1) = ((2 ^ r - 1 : Nat) : Int) := by
    rw [show (((2 ^ r : Nat) : Int) - 1) = ((2 ^ r - 1 : Nat) : Int) by omega, wrap_nat (by have : (2 : Nat) ^ r < 18446744073709551616 := h1; omega)]
  rw [e5]
  show IntKind.wrap .u64 (((BitVec.ofInt 64 (x : Int) &&& BitVec.ofInt 64 ((2 ^ r - 1 : Nat) : Int)).toNat : Nat) : Int) = _
  rw [and64, Nat.mod_eq_of_lt hx, Nat.mod_eq_of_lt (a := 2 ^ r - 1) (by omega), Nat.and_two_pow_sub_one_eq_mod, wrap_nat (Nat.lt_of_le_of_lt (Nat.mod_le _ _) hx)]

/-- 2^k, small. -/
theorem pow_small {k : Nat} (hk : k ≤ 10) : ∃ x : Nat, 2 ^ k = x ∧ 1 ≤ x ∧ x ≤ 1024 := by
  have : k = 0 ∨ k = 1 ∨ k = 2 ∨ k = 3 ∨ k = 4 ∨ k = 5 ∨ k = 6 ∨ k = 7 ∨ k = 8 ∨ k = 9 ∨ k = 10 := by omega
  rcases this with rfl | rfl | rfl | rfl | rfl | rfl | rfl | rfl | rfl | rfl | rfl <;> exact ⟨_, rfl, by decide, by decide⟩

theorem shl_i64 {k : Nat} (hk : k ≤ 10) : IntKind.wrap .i64 ((1 : Int) * 2 ^ min (Int.toNat (k : Int)) (IntKind.bits .i64)) = ((2 ^ k : Nat) : Int) := by
  have : k = 0 ∨ k = 1 ∨ k = 2 ∨ k = 3 ∨ k = 4 ∨ k = 5 ∨ k = 6 ∨ k = 7 ∨ k = 8 ∨ k = 9 ∨ k = 10 := by omega
  rcases this with rfl | rfl | rfl | rfl | rfl | rfl | rfl | rfl | rfl | rfl | rfl <;> decide

theorem shr_i64 {k x : Nat} (hk : k ≤ 63) : Int.fdiv (x : Int) (2 ^ min (Int.toNat (k : Int)) (IntKind.bits .i64)) = ((x / 2 ^ k : Nat) : Int) := by
  have e1 : min (Int.toNat (k : Int)) (IntKind.bits .i64) = k := by show min _ 64 = k; simp; omega
  rw [e1, Int.fdiv_eq_ediv_of_nonneg _ (by exact_mod_cast Nat.zero_le _)]
  simp

end Go.V
