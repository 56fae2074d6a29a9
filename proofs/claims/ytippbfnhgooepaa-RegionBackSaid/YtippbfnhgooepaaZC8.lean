/- croftlaw6: RegionOpens. No condition. -/
import Derived.Test.YtippbfnhgooepaaZC3
import Derived.Test.YtippbfnhgooepaaZG5
import Derived.Test.YtippbfnhgooepaaZGcroftlaw6RegionOpens
set_option linter.unusedSimpArgs false
set_option linter.unusedVariables false
namespace Go.Proofs.Ytippbfnhgooepaa
open Go.V Classical

section
variable {w₀ : World} {h : Heap} {K : Value → Heap → Prop}

theorem Power_ok {n : Nat} (hn : n ≤ 30) (hK : K (.int .i64 ((2 ^ n : Nat) : Int)) h) : CallV Try.prog w₀ F.croftref6_Power [.int .i64 (n : Int)] h K := by
  refine croftref6_Power.call ?_
  unfold croftref6_Power.vc
  intro J1 hJ1 L2 hL2
  have loop : ∀ (d i : Nat), i + d = n → L2 [.int .i64 (n : Int), .int .i64 ((2 ^ i : Nat) : Int), .int .i64 (i : Int)] h := by
    intro d
    induction d with
    | zero =>
      intro i hi
      have : i = n := by omega
      subst this
      exact hL2 _ _ _ _ (iF (decide_eq_false (by omega)) (hJ1 _ _ hK))
    | succ d ih =>
      intro i hi
      have hp : 2 ^ i ≤ 2 ^ 29 := Nat.pow_le_pow_right (by omega) (by omega)
      have e : IntKind.wrap .i64 (((2 ^ i : Nat) : Int) * 2) = ((2 ^ (i + 1) : Nat) : Int) := by rw [Nat.pow_succ, IntKind.wrap_i64]; omega
      refine hL2 _ _ _ _ (iT (decide_eq_true (by omega)) ?_)
      rw [e, show IntKind.wrap .i64 ((i : Int) + 1) = ((i + 1 : Nat) : Int) by rw [IntKind.wrap_i64]; omega]
      exact ih (i + 1) (by omega)
  exact loop n 0 (by omega)

theorem ref2R_ok {a b : Int} {n : Nat} (hn : n ≤ 8) (hK : ∀ h', Upd NoB h h' → K (.int .u64 ((4096 * 2 ^ n : Nat) : Int)) h') : CallV Try.prog w₀ F.croftref2_R [.agg #[.int .u64 a, .int .i64 b, .int .i64 (n : Int)]] h K := by
  refine croftref2_R.call ?_
  unfold croftref2_R.vc
  have N1 := box3 h (.int .u64 a) (.int .i64 b) (.int .i64 (n : Int)) T.T_api_Config
  generalize Array.push h (.cells #[.int .u64 a, .int .i64 b, .int .i64 (n : Int)] T.T_api_Config) = h1 at N1 ⊢
  obtain ⟨k0, k1, k2⟩ := f3_cells N1.p
  have hK := hK h1 N1.u
  intro J1 hJ1 L2 hL2
  have loop : ∀ (d i : Nat), i + d = n → L2 [.pointer (some ⟨h.size, 0, none⟩), .int .u64 ((4096 * 2 ^ i : Nat) : Int), .int .i64 (i : Int)] h1 := by
    intro d
    induction d with
    | zero =>
      intro i hi
      have : i = n := by omega
      subst this
      exact hL2 _ _ _ _ ⟨_, k2, iF (decide_eq_false (by omega)) (hJ1 _ _ hK)⟩
    | succ d ih =>
      intro i hi
      have hp : 2 ^ i ≤ 2 ^ 8 := Nat.pow_le_pow_right (by omega) (by omega)
      have e : IntKind.wrap .u64 (((4096 * 2 ^ i : Nat) : Int) * 2) = ((4096 * 2 ^ (i + 1) : Nat) : Int) := by rw [Nat.pow_succ, IntKind.wrap_u64]; omega
      refine hL2 _ _ _ _ ⟨_, k2, iT (decide_eq_true (by omega)) ?_⟩
      rw [e, show IntKind.wrap .i64 ((i : Int) + 1) = ((i + 1 : Nat) : Int) by rw [IntKind.wrap_i64]; omega]
      exact ih (i + 1) (by omega)
  exact loop n 0 (by omega)

end

end Go.Proofs.Ytippbfnhgooepaa
