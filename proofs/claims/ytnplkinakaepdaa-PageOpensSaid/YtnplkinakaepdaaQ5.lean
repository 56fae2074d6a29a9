/- Chapter 4's own answer (croftref4): cells, bits, links. No condition. -/
import Derived.Test.YtnplkinakaepdaaQ4
set_option linter.unusedSimpArgs false
set_option linter.unusedVariables false
namespace Go.Proofs.Ytnplkinakaepdaa
open Go.V Classical

theorem xor_set : ∀ {r x : Nat}, x.testBit r = false → x ^^^ 2 ^ r = x + 2 ^ r
  | 0, x, h => by
    have h0 : x % 2 = 0 := by
      rw [Nat.testBit_zero] at h
      simp at h; omega
    have h1 := Nat.xor_div_two (a := x) (b := 1)
    have h2 : (x ^^^ 1) % 2 = 1 := by
      have : (x ^^^ 1).testBit 0 = true := by rw [Nat.testBit_xor, h]; rfl
      rw [Nat.testBit_zero] at this
      simpa using this
    rw [show (1 : Nat) / 2 = 0 from rfl, Nat.xor_zero] at h1
    show x ^^^ 1 = x + 1
    omega
  | r + 1, x, h => by
    have h1 := Nat.xor_div_two (a := x) (b := 2 ^ (r + 1))
    have hp : (2 : Nat) ^ (r + 1) = 2 * 2 ^ r := by rw [Nat.pow_succ, Nat.mul_comm]
    have h3 : (2 : Nat) ^ (r + 1) / 2 = 2 ^ r := by rw [hp]; omega
    have ih := xor_set (r := r) (x := x / 2) (by rw [Nat.testBit_succ] at h; exact h)
    rw [h3, ih] at h1
    have h2 : (x ^^^ 2 ^ (r + 1)) % 2 = x % 2 := by
      have e : (x ^^^ 2 ^ (r + 1)).testBit 0 = x.testBit 0 := by rw [Nat.testBit_xor, Nat.testBit_two_pow]; simp
      rw [Nat.testBit_zero, Nat.testBit_zero] at e
      have := decide_eq_decide.mp e
      omega
    rw [hp] at h2 h1 ⊢
    omega

theorem xor_unset {r x : Nat} (h : x.testBit r = true) : 2 ^ r ≤ x ∧ x ^^^ 2 ^ r = x - 2 ^ r := by
  have h1 : (x ^^^ 2 ^ r).testBit r = false := by rw [Nat.testBit_xor, h, Nat.testBit_two_pow]; simp
  have h2 := xor_set h1
  rw [Nat.xor_assoc, Nat.xor_self, Nat.xor_zero] at h2
  omega

section
variable {w₀ : World} {h : Heap} {K : Value → Heap → Prop} {s : MS} {w : RW}

theorem r4_link_ok {o n gc m qc : Nat} {gp qp : Option Addr} {i : Int} (hK : ∀ h', Upd NoB h h' → K (.bool (decide (-1 ≤ i ∧ i < n))) h') : CallV Try.prog w₀ F.croftref4_link [.agg #[.int .i64 (o : Int), .slice gp n gc, .slice qp m qc], .int .i64 i] h K := by
  refine croftref4_link.call ?_
  unfold croftref4_link.vc
  have A := rb_new h o gp n gc qp m qc
  obtain ⟨c0, c1, c2⟩ := rb_c A.p
  simp only [add_mk, Nat.zero_add]
  intro J k
  by_cases hi : i = -1
  · refine pT (by simp [hi]) (k _ _ ?_)
    have := hK _ A.u
    rwa [decide_eq_true (by omega)] at this
  · refine pF (by simp [hi]) ⟨_, c0, _, _, _, c1, _, _, _, c2, r4_Is_ok fun h8 u8 => ⟨_, rfl, k _ _ ?_⟩⟩
    have := hK _ (A.u.nx u8 fun _ e _ => e)
    have e : decide (-1 ≤ i ∧ i < (n : Int)) = decide (0 ≤ i ∧ i < (n : Int)) := by rw [Bool.eq_iff_iff]; simp; omega
    rwa [e] at this

theorem r4_bit_ok {i : Nat} (hK : K (.int .u64 ((2 ^ (i % 64) : Nat) : Int)) h) : CallV Try.prog w₀ F.croftref4_bit [.int .i64 (i : Int)] h K := by
  refine croftref4_bit.call ?_
  unfold croftref4_bit.vc
  intro J k1 L hL
  have loop : ∀ (r a : Nat), a + r = i % 64 → L [.int .i64 (i : Int), .int .u64 ((2 ^ a : Nat) : Int), .int .i64 (a : Int)] h := by
    intro r
    induction r with
    | zero =>
      intro a ha
      have : i % 64 = a := by omega
      rw [this] at hK
      exact hL _ _ _ _ ⟨by decide, iF (by rw [mod64]; simp; omega) (k1 _ _ hK)⟩
    | succ r ih =>
      intro a ha
      refine hL _ _ _ _ ⟨by decide, iT (by rw [mod64]; simp; omega) ?_⟩
      have e1 : IntKind.wrap .i64 ((a : Int) + 1) = ((a + 1 : Nat) : Int) := by rw [IntKind.wrap_i64]; omega
      have hp : (2 : Nat) ^ a ≤ 2 ^ 62 := Nat.pow_le_pow_right (by decide) (by omega)
      have e2 : IntKind.wrap .u64 (((2 ^ a : Nat) : Int) * 2) = ((2 ^ (a + 1) : Nat) : Int) := by
        rw [Nat.pow_succ, IntKind.wrap_u64]
        have : (2 : Nat) ^ 62 = 4611686018427387904 := by decide
        rw [this] at hp
        generalize (2 : Nat) ^ a = x at *
        omega
      rw [e1, e2]
      exact ih (a + 1) (by omega)
  exact loop (i % 64) 0 (by omega)

theorem r4_cells_ok {i : Int} (hs : s.Ok) (H : (refR s w).P h) (hy : ∀ m : Nat, i = m → m < s.n → s.pg m 0 = 4 → ∀ h', Upd NoB h h' → K (.int .i64 (ncells (s.pg m) : Int)) h')
    (hn : ¬ (0 ≤ i ∧ i < s.n ∧ s.pg i.toNat 0 = 4) → ∀ h', Upd NoB h h' → K (.int .i64 (-1)) h') : CallV Try.prog w₀ F.croftref4_cells [refV s w, .int .i64 i] h K := by
  refine croftref4_cells.call ?_
  unfold croftref4_cells.vc
  have A := rb_new h s.o w.gp s.n w.gc w.qp s.o w.qc
  obtain ⟨c0, c1, c2⟩ := rb_c A.p
  have n1 := hs.n1
  simp only [add_mk, Nat.zero_add]
  refine ⟨_, c0, _, _, _, c1, _, _, _, c2, r4_Is_ok fun h8 u8 => ⟨_, rfl, ?_⟩⟩
  have u := A.u.nx u8 fun _ e _ => e
  intro J k
  by_cases hi : 0 ≤ i ∧ i < s.n
  case neg =>
    rw [decide_eq_false hi]
    exact pT rfl (k _ _ ⟨fun _ => hn (fun F => hi ⟨F.1, F.2.1⟩) _ u, fun e => by cases e⟩)
  obtain ⟨m, rfl⟩ : ∃ m : Nat, i = m := ⟨i.toNat, by omega⟩
  have hm : m < s.n := by omega
  have H8 := (refR s w).st H u fun _ _ => id
  obtain ⟨b, eb, hc⟩ := ref_page H8 hm
  obtain ⟨d0, d1, d2⟩ := rb_c ((rbR _ _ _ _ _ _ _ _).st A.p u8 fun _ _ => id)
  have h0 := hc 0 (by omega)
  have h2 := hc 2 (by omega)
  have T := (hs.pg m hm).c
  rw [decide_eq_true hi]
  simp only [add_mk, Nat.zero_add, Int.toNat_natCast]
  rw [eb] at d1
  refine pF rfl ⟨_, _, _, d1, _, rfl, by omega, by omega, _, (by rw [add_mk, Nat.zero_add]; exact h0), k _ _ ⟨fun e => ?_, fun e => ?_⟩⟩
  · refine hn (fun F => ?_) _ u
    have := F.2.2
    simp only [Int.toNat_natCast] at this
    simp at e; omega
  · have h4 : s.pg m 0 = 4 := by simpa using e
    obtain ⟨r, hr⟩ : ∃ r : Nat, s.pg m 2 = r := ⟨(s.pg m 2).toNat, by omega⟩
    refine ⟨_, _, _, d1, _, rfl, by omega, by omega, _, (by rw [add_mk, add_mk, Nat.zero_add]; exact h2), ?_⟩
    have hy := hy m rfl hm h4 _ u
    unfold ncells at hy
    rw [hr] at hy ⊢
    simp only [Int.toNat_natCast] at hy
    have hb := cells_bd (k := r) (by omega)
    have hp := Nat.two_pow_pos r
    refine r4_power_ok (by omega) ⟨_, rfl, ⟨by omega, ?_⟩⟩
    rw [show IntKind.wrap .i64 (Int.tdiv 256 ((2 ^ r : Nat) : Int)) = ((256 / 2 ^ r : Nat) : Int) by
      rw [Int.tdiv_eq_ediv_of_nonneg (by omega), show (256 : Int) = ((256 : Nat) : Int) from rfl, ← Int.natCast_ediv, IntKind.wrap_i64]
      generalize 256 / 2 ^ r = y at *
      omega]
    exact hy

theorem shr_odd {x r : Nat} (hx : x < 18446744073709551616) : ((Int.tmod (IntKind.wrap .u64 (Int.tdiv (x : Int) ((2 ^ r : Nat) : Int))) 2) == (1 : Int)) = x.testBit r := by
  have h0 : x / 2 ^ r ≤ x := Nat.div_le_self _ _
  rw [Int.tdiv_eq_ediv_of_nonneg (by omega), ← Int.natCast_ediv, wrap_nat (Nat.lt_of_le_of_lt h0 hx), Int.tmod_eq_emod_of_nonneg (Int.natCast_nonneg _), Nat.testBit_eq_decide_div_mod_eq]
  generalize x / 2 ^ r = y
  rw [Bool.eq_iff_iff]
  simp
  omega

theorem r4_Has_ok {P : Nat → Int} {c : Nat} (T : PgT P) (hc : c < 256) (hK : ∀ h', Upd NoB h h' → K (.bool (pbit P c)) h') : CallV Try.prog w₀ F.croftref4_Has [pgv P, .int .i64 (c : Int)] h K := by
  refine croftref4_Has.call ?_
  unfold croftref4_Has.vc
  have A := pg_new h P
  rw [div64 (by omega)]
  have hb : (pgR h.size P).P _ := A.p
  have hcell := Blk.cell (f := fun j => pcl j (P j)) hb (i := 7 + c / 64) (by omega)
  have hu := T.u (7 + c / 64) (by omega) (by omega)
  obtain ⟨x, hx⟩ : ∃ x : Nat, P (7 + c / 64) = x := ⟨(P (7 + c / 64)).toNat, by omega⟩
  have hK := hK _ A.u
  unfold pbit at hK
  rw [hx] at hK
  simp only [Int.toNat_natCast] at hK
  have e : pcl (7 + c / 64) (P (7 + c / 64)) = .int .u64 (x : Int) := by unfold pcl; rw [if_neg (by omega), hx]
  rw [e] at hcell
  simp only [add_mk, Nat.zero_add, Int.toNat_natCast, Nat.mul_one]
  have hp := Nat.two_pow_pos (c % 64)
  refine ⟨by decide, by omega, by omega, _, hcell, r4_bit_ok ⟨_, rfl, hcell, by omega, by decide, ?_⟩⟩
  rw [shr_odd (by omega)]
  exact hK

end
end Go.Proofs.Ytnplkinakaepdaa
