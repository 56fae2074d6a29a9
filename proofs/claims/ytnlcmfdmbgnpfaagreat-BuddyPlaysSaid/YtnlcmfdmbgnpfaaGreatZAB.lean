/- croftref5: Pairs. No condition. -/
import Derived.Test.YtnlcmfdmbgnpfaaGreatZAA
set_option linter.unusedSimpArgs false
set_option linter.unusedVariables false
namespace Go.Proofs.YtnlcmfdmbgnpfaaGreat
open Go.V Classical

theorem or_pow {x r : Nat} (hx : x < 18446744073709551616) (hr : r < 64) :
    IntKind.wrap .u64 (((BitVec.ofInt (IntKind.bits .u64) (x : Int) ||| BitVec.ofInt (IntKind.bits .u64) (((2 ^ r : Nat) : Int))).toNat : Int)) = ((x ||| 2 ^ r : Nat) : Int) := by
  have h2 : 2 ^ r < 18446744073709551616 := by
    have := Nat.pow_lt_pow_right (show 1 < 2 by omega) hr
    omega
  have t1 : (BitVec.ofInt 64 (x : Int) ||| BitVec.ofInt 64 ((2 ^ r : Nat) : Int)).toNat = x ||| 2 ^ r := by
    rw [BitVec.toNat_or, ofInt_nat, ofInt_nat, BitVec.toNat_ofNat, BitVec.toNat_ofNat, Nat.mod_eq_of_lt (by omega), Nat.mod_eq_of_lt (by omega)]
  rw [show (BitVec.ofInt (IntKind.bits .u64) (x : Int) ||| BitVec.ofInt (IntKind.bits .u64) ((2 ^ r : Nat) : Int)).toNat = x ||| 2 ^ r from t1]
  exact wrap_nat (Nat.or_lt_two_pow (n := 64) hx h2)

noncomputable def wdF (fl : Nat → List Nat) (k t : Nat) : Nat → Value := fun j => .int .u64 ((wd (prT fl k t) j : Nat) : Int)

section
variable {h h' hx : Heap} {p : Option Addr} {m : Nat} {fl : Nat → List Nat} {k t : Nat}

theorem wdF_set (H : (slR p m m 1 (wdF fl k t)).P h) (ht : t / 64 < m) (hb : prB fl k t = true) : ∃ b, p = some ⟨b, 0, none⟩ ∧ cellAt h ⟨b, t / 64, none⟩ = some (.int .u64 ((wd (prT fl k t) (t / 64) : Nat) : Int)) ∧ Wr h ⟨b, t / 64, none⟩ ∧
    Stp h (setC h ⟨b, t / 64, none⟩ (.int .u64 ((wd (prT fl k t) (t / 64) ||| 2 ^ (t % 64) : Nat) : Int))) (slR p m m 1 (wdF fl k t)) (slR p m m 1 (wdF fl k (t + 1))) := by
  obtain ⟨b, e, hc⟩ := sl_cell H (i := t / 64) (by omega)
  obtain ⟨b', e', w, S⟩ := sl_set H (o := t / 64) (by omega) (.int .u64 ((wd (prT fl k t) (t / 64) ||| 2 ^ (t % 64) : Nat) : Int))
  rw [e] at e'
  cases e'
  refine ⟨b, e, hc, w, S.conv (fun P => sl_congr P fun j hj => ?_) fun _ e => e⟩
  unfold wdF
  by_cases ej : j = t / 64
  · rw [if_pos ej, ej, wd_or hb]
  · rw [if_neg ej, wd_no (.inr ej)]

theorem wdF_no (hb : prB fl k t = false) (H : (slR p m m 1 (wdF fl k t)).P h) : (slR p m m 1 (wdF fl k (t + 1))).P h :=
  sl_congr H fun j hj => by unfold wdF; rw [wd_no (.inl hb)]
end
end Go.Proofs.YtnlcmfdmbgnpfaaGreat
