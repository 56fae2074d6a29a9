/- Chapter 4's own answer (croftref4): Own, Words, SameWords. No condition. -/
import Derived.Test.YtnplkinakaepdaaQ6
set_option linter.unusedSimpArgs false
set_option linter.unusedVariables false
namespace Go.Proofs.Ytnplkinakaepdaa
open Go.V Classical

section
variable {w₀ : World} {h : Heap} {K : Value → Heap → Prop} {s : MS} {w : RW}

set_option maxHeartbeats 1000000 in
theorem r4_Own_ok {i c : Int} {live : Bool} (hs : s.Ok) (H : (refR s w).P h)
    (hy : ∀ m k : Nat, i = m → m < s.n → s.pg m 0 = 4 → c = k → k < ncells (s.pg m) → pbit (s.pg m) k ≠ live → ∀ h', Stp h h' (refR s w) (refR (setPg s m (pown (s.pg m) k live)) w) → K (.int .i64 0) h')
    (hn : ¬ ownOk s i c live → ∀ h', Upd NoB h h' → K (.int .i64 1) h') :
    CallV Try.prog w₀ F.croftref4_Own [refV s w, .int .i64 i, .int .i64 c, .bool live] h K := by
  refine croftref4_Own.call ?_
  unfold croftref4_Own.vc
  have A := rb_new h s.o w.gp s.n w.gc w.qp s.o w.qc
  obtain ⟨c0, c1, c2⟩ := rb_c A.p
  let BX := rbR h.size s.o w.gp s.n w.gc w.qp s.o w.qc
  have S0 : Stp h _ (refR s w) (andR (refR s w) BX) := Stp.new H A
  simp only [add_mk, Nat.zero_add]
  intro J2 k2
  have bad : ¬ ownOk s i c live → ∀ hx, Upd NoB h hx → J2 true hx := fun hb hx u => k2 _ _ fun J3 k3 => pT rfl (k3 _ _ ⟨fun _ => hn hb _ u, fun e => by cases e⟩)
  by_cases hc0 : c < 0
  · exact pT (by simp; exact hc0) (bad (fun F => by have := F.2.2.2.1; omega) _ A.u)
  refine pF (by simp; omega) ⟨_, c0, _, _, _, c1, _, _, _, c2, r4_cells_ok hs S0.p.1 (fun m hi hm h4 h11 u11 => ⟨_, rfl, ?_⟩) fun hb h11 u11 => ⟨_, rfl, ?_⟩⟩
  case refine_2 =>
    rw [decide_eq_true (by omega)]
    exact bad (fun F => hb ⟨F.1, F.2.1, F.2.2.1⟩) _ (A.u.nx u11 fun _ e _ => e)
  subst hi
  have S1 := S0.trans (Stp.quiet S0.p u11)
  have u1 := A.u.nx u11 fun _ e _ => e
  obtain ⟨c, rfl⟩ : ∃ k : Nat, c = k := ⟨c.toNat, by omega⟩
  by_cases hc : c < ncells (s.pg m)
  case neg =>
    rw [decide_eq_true (by omega)]
    exact bad (fun F => by have := F.2.2.2.2.1; simp only [Int.toNat_natCast] at this; omega) _ u1
  rw [decide_eq_false (by omega)]
  refine k2 _ _ ?_
  intro J3 k3
  have hnc : ncells (s.pg m) ≤ 256 := ncells_le
  obtain ⟨b, eb, hpc⟩ := ref_page S1.p.1 hm
  obtain ⟨d0, d1, d2⟩ := rb_c S1.p.2.1
  rw [eb] at d1
  have T := hs.pg m hm
  refine pF rfl ⟨_, _, _, d1, _, rfl, by omega, by omega, ?_⟩
  simp only [add_mk, Nat.zero_add, Int.toNat_natCast]
  refine ld_page (b := b) (o := m * 11) (P := s.pg m) hpc (r4_Has_ok T (by omega) fun h25 u25 => ⟨_, rfl, k3 _ _ ⟨fun e => ?_, fun e => ?_⟩⟩)
  · exact hn (fun F => by have := F.2.2.2.2.2; simp only [Int.toNat_natCast] at this; simp at e; exact this e) _ (u1.nx u25 fun _ e _ => e)
  intro J4 k4
  have S3 := S1.trans (Stp.quiet S1.p u25)
  obtain ⟨d0, d1, d2⟩ := rb_c S3.p.2.1
  rw [eb] at d1
  obtain ⟨b1, eb1, hpc3⟩ := ref_page S3.p.1 hm
  have : b = b1 := by rw [eb] at eb1; simp at eb1; exact eb1
  subst this
  have hu := T.u (7 + c / 64) (by omega) (by omega)
  obtain ⟨x, hx⟩ : ∃ x : Nat, s.pg m (7 + c / 64) = x := ⟨(s.pg m (7 + c / 64)).toNat, by omega⟩
  have hxl : x < 18446744073709551616 := by omega
  have hcell := hpc3 (7 + c / 64) (by omega)
  have e0 : pcl (7 + c / 64) (s.pg m (7 + c / 64)) = .int .u64 (x : Int) := by unfold pcl; rw [if_neg (by omega), hx]
  rw [e0] at hcell
  have ediv : IntKind.wrap .i64 (Int.tdiv (c : Int) 64) = ((c / 64 : Nat) : Int) := div64 (by omega)
  simp only [ediv, Int.toNat_natCast, Nat.mul_one]
  cases live
  case true =>
    refine iT rfl ?_
    have hbit : pbit (s.pg m) c = false := by simpa using e
    have hval : IntKind.wrap .u64 ((x : Int) + ((2 ^ (c % 64) : Nat) : Int)) = ((x ^^^ 2 ^ (c % 64) : Nat) : Int) := by
      unfold pbit at hbit
      rw [hx] at hbit
      simp only [Int.toNat_natCast] at hbit
      have hv := xor_set hbit
      have hlt : x ^^^ 2 ^ (c % 64) < 18446744073709551616 := Nat.xor_lt_two_pow (n := 64) hxl (Nat.pow_lt_pow_right (by decide) (by omega))
      have h2 : (2 : Nat) ^ (c % 64) < 18446744073709551616 := Nat.pow_lt_pow_right (n := 64) (by decide) (by omega)
      rw [IntKind.wrap_u64, hv]
      rw [hv] at hlt
      generalize (2 : Nat) ^ (c % 64) = y at *
      omega
    refine ⟨_, _, _, d1, by decide, _, _, _, d1, by decide, _, rfl, by omega, by omega, by omega, by omega, ?_⟩
    simp only [add_mk, Nat.zero_add, Nat.add_assoc]
    refine ⟨_, hcell, _, rfl, by omega, by omega, r4_bit_ok ⟨_, rfl, hcell, d1, d1, by omega, by omega, ?_⟩⟩
    simp only [add_mk, Nat.zero_add, Nat.add_assoc]
    rw [hval]
    obtain ⟨b', eb', hw, S4⟩ := wr_pcell (pg' := s.pg) S3 hm (j := 7 + c / 64) (by omega) ((x ^^^ 2 ^ (c % 64) : Nat) : Int)
    have : b = b' := by rw [eb] at eb'; simp at eb'; exact eb'
    subst this
    obtain ⟨e0, e1, e2⟩ := rb_c S4.p.2.1
    rw [eb] at e1
    obtain ⟨b2, eb2, hc2⟩ := ref_page S4.p.1 hm
    have : b = b2 := by rw [eb] at eb2; simp at eb2; exact eb2
    subst this
    have h33 : (3 : Nat) ≠ 7 + c / 64 := by omega
    have h3 := hc2 3 (by omega)
    simp only [h33, and_false, if_false] at h3
    have ep : ∀ v, pcl (7 + c / 64) v = .int .u64 v := fun v => by unfold pcl; rw [if_neg (by omega)]
    obtain ⟨b3, eb3, hw3, S5⟩ := wr_pcell S4 hm (j := 3) (by omega) (IntKind.wrap .i64 (s.pg m 3 + 1))
    have : b = b3 := by rw [eb] at eb3; simp at eb3; exact eb3
    subst this
    have e3 : ∀ v, pcl 3 v = .int .i64 v := fun v => rfl
    rw [ep] at e1 hw3 S5 h3
    rw [e3] at h3 S5
    refine ⟨hw, _, _, _, e1, _, _, _, e1, _, rfl, by omega, by omega, ?_⟩
    simp only [add_mk, Nat.zero_add, Nat.add_assoc]
    refine ⟨_, h3, _, rfl, by omega, by omega, ?_⟩
    simp only [add_mk, Nat.zero_add, Nat.add_assoc]
    refine ⟨hw3, k4 _ (hy m c rfl hm h4 rfl hc (by simp [hbit]) _ (ref_end S5 fun y hy' j hj => ?_))⟩
    unfold putP pown
    by_cases h1 : y = m
    · subst h1
      simp only [true_and, if_true, hx, Int.toNat_natCast, Bool.false_eq_true, if_false]
      try rfl
    · simp only [h1, false_and, if_false]
  case false =>
    refine iF rfl ?_
    have hbit : pbit (s.pg m) c = true := by simpa using e
    have hval : IntKind.wrap .u64 ((x : Int) - ((2 ^ (c % 64) : Nat) : Int)) = ((x ^^^ 2 ^ (c % 64) : Nat) : Int) := by
      unfold pbit at hbit
      rw [hx] at hbit
      simp only [Int.toNat_natCast] at hbit
      obtain ⟨hge, hv⟩ := xor_unset hbit
      have hlt : x ^^^ 2 ^ (c % 64) < 18446744073709551616 := Nat.xor_lt_two_pow (n := 64) hxl (Nat.pow_lt_pow_right (by decide) (by omega))
      have h2 : (2 : Nat) ^ (c % 64) < 18446744073709551616 := Nat.pow_lt_pow_right (n := 64) (by decide) (by omega)
      rw [IntKind.wrap_u64, hv]
      rw [hv] at hlt
      generalize (2 : Nat) ^ (c % 64) = y at *
      omega
    refine ⟨_, _, _, d1, by decide, _, _, _, d1, by decide, _, rfl, by omega, by omega, by omega, by omega, ?_⟩
    simp only [add_mk, Nat.zero_add, Nat.add_assoc]
    refine ⟨_, hcell, _, rfl, by omega, by omega, r4_bit_ok ⟨_, rfl, hcell, d1, d1, by omega, by omega, ?_⟩⟩
    simp only [add_mk, Nat.zero_add, Nat.add_assoc]
    rw [hval]
    obtain ⟨b', eb', hw, S4⟩ := wr_pcell (pg' := s.pg) S3 hm (j := 7 + c / 64) (by omega) ((x ^^^ 2 ^ (c % 64) : Nat) : Int)
    have : b = b' := by rw [eb] at eb'; simp at eb'; exact eb'
    subst this
    obtain ⟨e0, e1, e2⟩ := rb_c S4.p.2.1
    rw [eb] at e1
    obtain ⟨b2, eb2, hc2⟩ := ref_page S4.p.1 hm
    have : b = b2 := by rw [eb] at eb2; simp at eb2; exact eb2
    subst this
    have h33 : (3 : Nat) ≠ 7 + c / 64 := by omega
    have h3 := hc2 3 (by omega)
    simp only [h33, and_false, if_false] at h3
    have ep : ∀ v, pcl (7 + c / 64) v = .int .u64 v := fun v => by unfold pcl; rw [if_neg (by omega)]
    obtain ⟨b3, eb3, hw3, S5⟩ := wr_pcell S4 hm (j := 3) (by omega) (IntKind.wrap .i64 (s.pg m 3 - 1))
    have : b = b3 := by rw [eb] at eb3; simp at eb3; exact eb3
    subst this
    have e3 : ∀ v, pcl 3 v = .int .i64 v := fun v => rfl
    rw [ep] at e1 hw3 S5 h3
    rw [e3] at h3 S5
    refine ⟨hw, _, _, _, e1, _, _, _, e1, _, rfl, by omega, by omega, ?_⟩
    simp only [add_mk, Nat.zero_add, Nat.add_assoc]
    refine ⟨_, h3, _, rfl, by omega, by omega, ?_⟩
    simp only [add_mk, Nat.zero_add, Nat.add_assoc]
    refine ⟨hw3, k4 _ (hy m c rfl hm h4 rfl hc (by simp [hbit]) _ (ref_end S5 fun y hy' j hj => ?_))⟩
    unfold putP pown
    by_cases h1 : y = m
    · subst h1
      simp only [true_and, if_true, hx, Int.toNat_natCast, Bool.false_eq_true, if_false]
      try rfl
    · simp only [h1, false_and, if_false]

end
end Go.Proofs.Ytnplkinakaepdaa
