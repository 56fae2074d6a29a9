/- Chapter 4's own answer (croftref4): the pairs' bits as words; the bit of a pair. No condition. -/
import Derived.Test.YtnplkinakaepdaaQ7
set_option linter.unusedSimpArgs false
set_option linter.unusedVariables false
namespace Go.Proofs.Ytnplkinakaepdaa
open Go.V Classical

section
variable {w₀ : World} {h : Heap} {K : Value → Heap → Prop} {s : MS} {w : RW}

theorem wd_put {f : Nat → Bool} {a : Nat} (hf : f a = true) :
    wd (fun i => decide (i < a + 1) && f i) (a / 64) = wd (fun i => decide (i < a) && f i) (a / 64) + 2 ^ (a % 64) := by
  have hb : (wd (fun i => decide (i < a) && f i) (a / 64)).testBit (a % 64) = false := by
    rw [wd_bit]
    have : 64 * (a / 64) + a % 64 = a := by omega
    simp [this]
  rw [← xor_set hb]
  refine (wd_eq (Nat.xor_lt_two_pow (n := 64) (wd_lt _ _) (Nat.pow_lt_pow_right (by decide) (by omega))) fun k hk => ?_).symm
  rw [Nat.testBit_xor, wd_bit, Nat.testBit_two_pow]
  simp only [hk, decide_true, Bool.true_and]
  by_cases hak : a % 64 = k
  · have : 64 * (a / 64) + k = a := by omega
    simp [hak, this, hf]
  · have h1 : 64 * (a / 64) + k ≠ a := by omega
    have h2 : decide (64 * (a / 64) + k < a + 1) = decide (64 * (a / 64) + k < a) := by rw [decide_eq_decide]; omega
    simp only [hak, h2, decide_false, Bool.xor_false]

theorem wd_skip {f : Nat → Bool} {a j : Nat} (hf : f a = false ∨ j ≠ a / 64) :
    wd (fun i => decide (i < a + 1) && f i) j = wd (fun i => decide (i < a) && f i) j := wd_congr fun i hi => by
  by_cases h1 : 64 * j + i = a
  · rcases hf with hf | hf
    · rw [h1, hf]; simp
    · omega
  · have h2 : decide (64 * j + i < a + 1) = decide (64 * j + i < a) := by rw [decide_eq_decide]; omega
    simp only [h2]

theorem r4_Words_ok {p : Option Addr} {n c : Nat} {f : Nat → Bool} (hn : n ≤ 1048576) (H : Row h p n fun i => .bool (f i))
    (hK : ∀ (h' : Heap) (q : Nat), New h h' (slR (some ⟨q, 0, none⟩) (nw n) (nw n) 1 fun j => .int .u64 (wd (fun i => decide (i < n) && f i) j)) → K (.slice (some ⟨q, 0, none⟩) (nw n) (nw n)) h') :
    CallV Try.prog w₀ F.croftref4_Words [.slice p n c] h K := by
  refine croftref4_Words.call ?_
  unfold croftref4_Words.vc
  have hq : nw n ≤ 16384 := by unfold nw; omega
  have e1 : IntKind.wrap .i64 ((n : Int) + 63) = ((n + 63 : Nat) : Int) := by rw [IntKind.wrap_i64]; omega
  have e2 : IntKind.wrap .i64 (Int.tdiv (IntKind.wrap .i64 ((n : Int) + 63)) 64) = (nw n : Int) := by
    rw [e1, div64 (by omega)]; rfl
  rw [e2]
  simp only [Int.toNat_natCast]
  refine ⟨by decide, by omega, by omega, by omega, ?_⟩
  have T0 := sl_make h [(.int .u64 (0 : Int))] T.T_uint64 (nw n) (nw n) (Nat.le_refl _)
  let R : Nat → Res := fun a => slR (some ⟨h.size, 0, none⟩) (nw n) (nw n) 1 fun j => .int .u64 (wd (fun i => decide (i < a) && f i) j)
  have N0 : New h _ (R 0) := T0.conv (fun P => sl_congr P fun j hj => by
    have : wd (fun i => decide (i < 0) && f i) j = 0 := (wd_eq (by omega) fun i hi => by simp).symm
    rw [this]
    simp [Nat.mod_one]) fun _ e => e
  intro J2 k2 L3 hL3
  have loop : ∀ (r a : Nat) (hx : Heap), a + r = n → New h hx (R a) → L3 [.slice p n c, .slice (some ⟨h.size, 0, none⟩) (nw n) (nw n), .int .i64 (a : Int)] hx := by
    intro r
    induction r with
    | zero =>
      intro a hx ha N
      have : a = n := by omega
      subst this
      exact hL3 _ _ _ _ _ _ _ _ (iF (by simp) (k2 _ _ _ _ (hK hx h.size N)))
    | succ r ih =>
      intro a hx ha N
      have ea : IntKind.wrap .i64 ((a : Int) + 1) = ((a + 1 : Nat) : Int) := by rw [IntKind.wrap_i64]; omega
      refine hL3 _ _ _ _ _ _ _ _ (iT (by simp; omega) ?_)
      intro J4 k4
      rw [div64 (by omega)]
      obtain ⟨b, o, eb, hcell⟩ := row_at (H.upd N.u fun _ _ e => e.elim) (i := a) (by omega)
      simp only [Int.toNat_natCast, Nat.mul_one]
      refine ⟨_, eb, by omega, by omega, _, (by rw [add_mk]; exact hcell), fun e => ?_, fun e => ?_⟩
      · have hq1 := div_nw (i := a) (n := n) (by omega)
        obtain ⟨b', eb', hw, S⟩ := sl_set N.p (o := a / 64) (by omega) (.int .u64 ((wd (fun i => decide (i < a) && f i) (a / 64) + 2 ^ (a % 64) : Nat) : Int))
        simp at eb'; subst eb'
        obtain ⟨b2, eb2, hc2⟩ := sl_cell N.p (i := a / 64) (by omega)
        simp at eb2; subst eb2
        have hv : IntKind.wrap .u64 ((wd (fun i => decide (i < a) && f i) (a / 64) : Int) + ((2 ^ (a % 64) : Nat) : Int)) = ((wd (fun i => decide (i < a) && f i) (a / 64) + 2 ^ (a % 64) : Nat) : Int) := by
          rw [← Int.natCast_add]
          refine wrap_nat ?_
          rw [← wd_put e]
          exact wd_lt _ _
        refine ⟨by decide, by decide, _, rfl, by omega, by omega, ?_⟩
        simp only [add_mk, Nat.zero_add]
        refine ⟨_, hc2, r4_bit_ok ⟨_, rfl, hc2, _, rfl, by omega, by omega, ?_⟩⟩
        simp only [add_mk, Nat.zero_add]
        rw [hv]
        refine ⟨hw, k4 _ _ _ _ _ _ _ _ ?_⟩
        rw [ea]
        refine ih (a + 1) _ (by omega) ((N.stp S).conv (fun P => sl_congr P fun j hj => ?_) fun _ e => e)
        by_cases h1 : j = a / 64
        · subst h1
          rw [if_pos rfl, wd_put e]
        · rw [if_neg h1, wd_skip (.inr h1)]
      · refine k4 _ _ _ _ _ _ _ _ ?_
        rw [ea]
        refine ih (a + 1) _ (by omega) (N.conv (fun P => sl_congr P fun j hj => ?_) fun _ e => e)
        rw [wd_skip (.inl e)]
  exact loop n 0 _ (by omega) N0

end
end Go.Proofs.Ytnplkinakaepdaa
