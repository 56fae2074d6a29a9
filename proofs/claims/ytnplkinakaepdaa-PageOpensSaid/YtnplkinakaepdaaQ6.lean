/- Chapter 4's own answer (croftref4): Own, Chain, First, Pair. No condition. -/
import Derived.Test.YtnplkinakaepdaaQ5
set_option linter.unusedSimpArgs false
set_option linter.unusedVariables false
namespace Go.Proofs.Ytnplkinakaepdaa
open Go.V Classical

section
variable {w₀ : World} {h : Heap} {K : Value → Heap → Prop} {s : MS} {w : RW}

theorem wr_pcell {hz : Heap} {pg' : Nat → Nat → Int} {BX : Res} {m j : Nat} (S : Stp h hz (refR s w) (andR (refR { s with pg := pg' } w) BX)) (hm : m < s.n) (hj : j < 11) (v : Int) :
    ∃ b, w.gp = some ⟨b, 0, none⟩ ∧ Wr hz ⟨b, m * 11 + j, none⟩ ∧ Stp h (setC hz ⟨b, m * 11 + j, none⟩ (pcl j v)) (refR s w) (andR (refR { s with pg := fun x y => if x = m ∧ y = j then v else pg' x y } w) BX) := by
  obtain ⟨b, eb, hw, S3⟩ := sl_pcell hm hj v S.p.1.1
  exact ⟨b, eb, hw, S.trans (Stp.left (Stp.left S3 S.p.1) S.p)⟩

theorem ref_end {h' : Heap} {pg' : Nat → Nat → Int} {BX : Res} {m : Nat} {Q : Nat → Int} (S : Stp h h' (refR s w) (andR (refR { s with pg := pg' } w) BX)) (he : ∀ x, x < s.n → ∀ j, j < 11 → pg' x j = putP s.pg m Q x j) :
    Stp h h' (refR s w) (refR (setPg s m Q) w) :=
  S.conv (fun P => refR_congr (s := { s with pg := pg' }) (s' := setPg s m Q) P.1 rfl rfl he fun _ _ _ _ => rfl) fun _ e => .inl e

theorem r4_Chain_ok {i p q : Int} (hs : s.Ok) (H : (refR s w).P h)
    (hy : ∀ m : Nat, i = m → m < s.n → s.pg m 0 = 4 → -1 ≤ p → p < s.n → -1 ≤ q → q < s.n → ∀ h', Stp h h' (refR s w) (refR (setPg s m (chainP (s.pg m) p q)) w) → K (.int .i64 0) h')
    (hn : ¬ chainOk s i p q → ∀ h', Upd NoB h h' → K (.int .i64 1) h') :
    CallV Try.prog w₀ F.croftref4_Chain [refV s w, .int .i64 i, .int .i64 p, .int .i64 q] h K := by
  refine croftref4_Chain.call ?_
  unfold croftref4_Chain.vc
  have A := rb_new h s.o w.gp s.n w.gc w.qp s.o w.qc
  obtain ⟨c0, c1, c2⟩ := rb_c A.p
  let BX := rbR h.size s.o w.gp s.n w.gc w.qp s.o w.qc
  have S0 : Stp h _ (refR s w) (andR (refR s w) BX) := Stp.new H A
  simp only [add_mk, Nat.zero_add]
  refine ⟨_, c0, _, _, _, c1, _, _, _, c2, r4_cells_ok hs S0.p.1 (fun m hi hm h4 h11 u11 => ⟨_, rfl, ?_⟩) fun hb h11 u11 => ⟨_, rfl, ?_⟩⟩
  · subst hi
    have S1 := S0.trans (Stp.quiet S0.p u11)
    have u1 := A.u.nx u11 fun _ e _ => e
    intro J3 k3
    obtain ⟨d0, d1, d2⟩ := rb_c S1.p.2.1
    refine pF (by simp) ⟨_, d0, _, _, _, d1, _, _, _, d2, r4_link_ok fun h16 u16 => ⟨_, rfl, k3 _ _ ?_⟩⟩
    have S2 := S1.trans (Stp.quiet S1.p u16)
    have u2 := u1.nx u16 fun _ e _ => e
    intro J4 k4
    by_cases hp : -1 ≤ p ∧ p < s.n
    case neg =>
      rw [decide_eq_false hp]
      exact pT rfl (k4 _ _ ⟨fun _ => hn (fun F => hp ⟨F.2.2.2.1, F.2.2.2.2.1⟩) _ u2, fun e => by cases e⟩)
    rw [decide_eq_true hp]
    obtain ⟨d0, d1, d2⟩ := rb_c S2.p.2.1
    refine pF rfl ⟨_, d0, _, _, _, d1, _, _, _, d2, r4_link_ok fun h22 u22 => ⟨_, rfl, k4 _ _ ⟨fun e => ?_, fun e => ?_⟩⟩⟩
    · exact hn (fun F => by simp at e; have := F.2.2.2.2.2; omega) _ (u2.nx u22 fun _ e _ => e)
    have hq : -1 ≤ q ∧ q < s.n := by simp at e; omega
    have S3 := S2.trans (Stp.quiet S2.p u22)
    obtain ⟨d0, d1, d2⟩ := rb_c S3.p.2.1
    obtain ⟨b, eb, hw, S4⟩ := wr_pcell (pg' := s.pg) S3 hm (j := 4) (by omega) p
    obtain ⟨e0, e1, e2⟩ := rb_c S4.p.2.1
    obtain ⟨b', eb', hw', S5⟩ := wr_pcell S4 hm (j := 5) (by omega) q
    have : b' = b := by rw [eb] at eb'; simp at eb'; exact eb'.symm
    subst this
    rw [eb] at d1 e1
    refine ⟨_, _, _, d1, _, rfl, by omega, by omega, ?_⟩
    simp only [add_mk, Nat.zero_add, Int.toNat_natCast]
    refine ⟨hw, _, _, _, e1, _, rfl, by omega, by omega, ?_⟩
    simp only [add_mk, Nat.zero_add, Int.toNat_natCast]
    refine ⟨hw', hy m rfl hm h4 hp.1 hp.2 hq.1 hq.2 _ (ref_end S5 fun x hx j hj => ?_)⟩
    unfold putP chainP
    by_cases h1 : x = m
    · subst h1
      simp only [true_and, if_true]
      by_cases h5 : j = 5
      · subst h5; rfl
      · simp only [h5, if_false]
    · simp only [h1, false_and, if_false]
  · intro J3 k3
    refine pT (by decide) (k3 _ _ ?_)
    intro J4 k4
    exact pT rfl (k4 _ _ ⟨fun _ => hn (fun F => hb ⟨F.1, F.2.1, F.2.2.1⟩) _ (A.u.nx u11 fun _ e _ => e), fun e => by cases e⟩)

theorem r4_First_ok {i c : Int} (hs : s.Ok) (H : (refR s w).P h)
    (hy : ∀ m : Nat, i = m → m < s.n → s.pg m 0 = 4 → -1 ≤ c → c < ncells (s.pg m) → ∀ h', Stp h h' (refR s w) (refR (setPg s m (firstP (s.pg m) c)) w) → K (.int .i64 0) h')
    (hn : ¬ firstOk s i c → ∀ h', Upd NoB h h' → K (.int .i64 1) h') :
    CallV Try.prog w₀ F.croftref4_First [refV s w, .int .i64 i, .int .i64 c] h K := by
  refine croftref4_First.call ?_
  unfold croftref4_First.vc
  have A := rb_new h s.o w.gp s.n w.gc w.qp s.o w.qc
  obtain ⟨c0, c1, c2⟩ := rb_c A.p
  let BX := rbR h.size s.o w.gp s.n w.gc w.qp s.o w.qc
  have S0 : Stp h _ (refR s w) (andR (refR s w) BX) := Stp.new H A
  simp only [add_mk, Nat.zero_add]
  refine ⟨_, c0, _, _, _, c1, _, _, _, c2, r4_cells_ok hs S0.p.1 (fun m hi hm h4 h11 u11 => ⟨_, rfl, ?_⟩) fun hb h11 u11 => ⟨_, rfl, ?_⟩⟩
  · subst hi
    have S1 := S0.trans (Stp.quiet S0.p u11)
    have u1 := A.u.nx u11 fun _ e _ => e
    intro J3 k3
    refine pF (by simp) (k3 _ _ ?_)
    intro J4 k4
    have go : ∀ b : Bool, b = !decide (-1 ≤ c ∧ c < ncells (s.pg m)) → J4 b h11 := fun b hb => by
      refine k4 _ _ ⟨fun e => ?_, fun e => ?_⟩
      · rw [hb] at e
        exact hn (fun F => by simp at e; have := F.2.2.2; simp only [Int.toNat_natCast] at this; omega) _ u1
      · rw [hb] at e
        have hc : -1 ≤ c ∧ c < ncells (s.pg m) := by simp at e; omega
        obtain ⟨d0, d1, d2⟩ := rb_c S1.p.2.1
        obtain ⟨b, eb, hw, S4⟩ := wr_pcell (pg' := s.pg) S1 hm (j := 6) (by omega) c
        rw [eb] at d1
        refine ⟨_, _, _, d1, _, rfl, by omega, by omega, ?_⟩
        simp only [add_mk, Nat.zero_add, Int.toNat_natCast]
        refine ⟨hw, hy m rfl hm h4 hc.1 hc.2 _ (ref_end S4 fun x hx j hj => ?_)⟩
        unfold putP firstP
        by_cases h1 : x = m
        · subst h1
          simp only [true_and, if_true]
        · simp only [h1, false_and, if_false]
    by_cases h1 : c < -1
    · exact pT (by simp; exact h1) (go true (by simp; omega))
    · refine pF (by simp; omega) (go _ ?_)
      have : -1 ≤ c := by omega
      simp [this]
      rw [Bool.eq_iff_iff]; simp
  · intro J3 k3
    refine pT (by decide) (k3 _ _ ?_)
    intro J4 k4
    exact pT rfl (k4 _ _ ⟨fun _ => hn (fun F => hb ⟨F.1, F.2.1, F.2.2.1⟩) _ (A.u.nx u11 fun _ e _ => e), fun e => by cases e⟩)

/-- The pair's number, or -1. -/
theorem r4_Pair_ok {r i : Int} (hs : s.Ok) (hi63 : bd63 i) (hy : ∀ k m : Nat, r = k → k < s.o → i = m → m < s.n → ∀ h', Upd NoB h h' → K (.int .i64 ((m / 2 ^ (k + 1) : Nat) : Int)) h')
    (hn : ¬ pairOk s r i → ∀ h', Upd NoB h h' → K (.int .i64 (-1)) h') :
    CallV Try.prog w₀ F.croftref4_Pair [refV s w, .int .i64 r, .int .i64 i] h K := by
  refine croftref4_Pair.call ?_
  unfold croftref4_Pair.vc
  have A := rb_new h s.o w.gp s.n w.gc w.qp s.o w.qc
  obtain ⟨c0, c1, c2⟩ := rb_c A.p
  have o8 := hs.o8
  have n1 := hs.n1
  simp only [add_mk, Nat.zero_add]
  intro J2 k2
  have bad : ¬ (0 ≤ r ∧ r < s.o) → J2 true _ := fun hb => k2 _ (h.push _) fun J3 k3 => pT rfl (k3 _ _ ⟨fun _ => hn (fun F => hb F.2.2) _ A.u, fun e => by cases e⟩)
  by_cases hr0 : r < 0
  · exact pT (by simp; exact hr0) (bad (by omega))
  refine pF (by simp; omega) ⟨_, c0, ?_⟩
  by_cases hro : r < s.o
  case neg =>
    rw [decide_eq_true (by omega)]
    exact bad (by omega)
  rw [decide_eq_false (by omega)]
  obtain ⟨k, rfl⟩ : ∃ k : Nat, r = k := ⟨r.toNat, by omega⟩
  refine k2 _ _ ?_
  intro J3 k3
  refine pF rfl ⟨_, c0, _, _, _, c1, _, _, _, c2, r4_Is_ok fun h18 u18 => ⟨_, rfl, k3 _ _ ⟨fun e => ?_, fun e => ?_⟩⟩⟩
  · exact hn (fun F => by simp at e; have := F.1; have := F.2.1; omega) _ (A.u.nx u18 fun _ e _ => e)
  have hi : 0 ≤ i ∧ i < s.n := by simp at e; omega
  obtain ⟨m, rfl⟩ : ∃ m : Nat, i = m := ⟨i.toNat, by omega⟩
  have e1 : IntKind.wrap .i64 ((k : Int) + 1) = ((k + 1 : Nat) : Int) := by rw [IntKind.wrap_i64]; omega
  rw [e1]
  refine r4_power_ok (by omega) ⟨_, rfl, ?_⟩
  have hp := Nat.two_pow_pos (k + 1)
  have hle : m / 2 ^ (k + 1) ≤ m := Nat.div_le_self _ _
  rw [Int.tdiv_eq_ediv_of_nonneg (by omega), ← Int.natCast_ediv, show IntKind.wrap .i64 ((m / 2 ^ (k + 1) : Nat) : Int) = ((m / 2 ^ (k + 1) : Nat) : Int) by
    rw [IntKind.wrap_i64]
    generalize m / 2 ^ (k + 1) = y at *
    omega]
  exact ⟨by omega, hy k m rfl (by omega) rfl (by omega) _ (A.u.nx u18 fun _ e _ => e)⟩

end
end Go.Proofs.Ytnplkinakaepdaa
