/- Chapter 2's laws: what all of them call. No condition. -/
import Derived.Test.YtpninapdjcggoaaW6
set_option linter.unusedSimpArgs false
set_option linter.unusedVariables false
namespace Go.Proofs.Ytpninapdjcggoaa
open Go.V Classical

section
variable {w₀ : World} {h : Heap} {s n : Nat} {c : Cfg} {M : Nat → Int} {Z : Nat → Prop} {K : Value → Heap → Prop}

theorem u64_wf {n : Int} (h : (Lit.int .u64 n).wf = true) : 0 ≤ n ∧ n < 18446744073709551616 := by
  simp [Lit.wf, IntKind.min, IntKind.max, IntKind.signed, IntKind.bits] at h
  omega

theorem awake_ok (hK : ∀ h', Upd NoB h h' → K (.bool true) h') : CallV Try.prog w₀ F.croftlaw2_awake [] h K := by
  refine croftlaw2_awake.call ?_
  unfold croftlaw2_awake.vc
  have g : Cfg.Good ⟨65536, 2, 0⟩ := good_iff.2 (by decide)
  refine mem_New_ok (by decide) (fun hn => absurd g hn) fun _ h1 s u1 hs S1 => ⟨_, _, rfl, ?_⟩
  refine jor.2 ⟨fun e => (by simp at e), fun _ => ?_⟩
  refine mem_Commit_ok S1 (fun e => ?_) fun _ _ h2 u2 S2 => ⟨_, _, rfl, ?_⟩
  · rcases e with e | e
    · cases e
    · dsimp only at e; omega
  have z2 : ∀ b, Gr (fun x => x = s) h1 h2 b → h.size ≤ b := fun b hb => by
    rcases hb with hb | hb
    · rw [hb]; exact hs
    · have := u1.1; omega
  have v2 : Upd NoB h h2 := u1.nx u2 fun b e hb => by rw [e] at hb; omega
  refine jand.2 ?_
  intro J5 k5
  refine ⟨fun _ => mem_End_ok S2 ⟨_, rfl, k5 _ _ ?_⟩, fun e => by simp at e⟩
  intro J6 k6
  refine ⟨fun _ => ?_, fun e => by simp [Cfg.size] at e⟩
  have t : There ⟨65536, 2, 0⟩ (0 + 1) 65537 1 := .inr (by simp [Cfg.size])
  refine mem_SetByte_ok (by decide) (by decide) S2 (fun _ h3 u3 S3 => ⟨_, rfl, k6 _ _ ?_⟩) fun t' => absurd t t'
  intro J7 k7
  refine ⟨fun _ => mem_Regions_ok S3 ⟨_, rfl, k7 _ _ ?_⟩, fun e => by simp at e⟩
  exact hK _ (v2.nx u3 fun b e hb => by have := z2 b e; omega)

theorem ref2_May_ok {a b d : Int} (ha : 0 ≤ a ∧ a < 18446744073709551616) (hK : ∀ h', Upd NoB h h' → K (.bool (decide (Cfg.Good ⟨a, b, d⟩))) h') :
    CallV Try.prog w₀ F.croftref2_May [.agg #[.int .u64 a, .int .i64 b, .int .i64 d]] h K := by
  refine croftref2_May.call ?_
  unfold croftref2_May.vc
  let H1 : Heap := Array.push h (.cells #[(.int .u64 a), (.int .i64 b), (.int .i64 d)] T.T_api_Config)
  have hK := hK H1 (push_upd _ _ _)
  have c0 : cellAt H1 ⟨h.size, 0, none⟩ = some (.int .u64 a) := by simp [H1, cellAt_new]
  have c1 : cellAt H1 ⟨h.size, 1, none⟩ = some (.int .i64 b) := by simp [H1, cellAt_new]
  have c2 : cellAt H1 ⟨h.size, 2, none⟩ = some (.int .i64 d) := by simp [H1, cellAt_new]
  simp only [jor, jand, cellAt_new, add_mk, List.getElem?_toArray, Nat.zero_add, List.getElem?_cons_zero, List.getElem?_cons_succ, Option.some.injEq, Value.int.injEq, Value.bool.injEq, Value.pointer.injEq, Value.slice.injEq, true_and, and_true, exists_eq_left', exists_eq', and_assoc, exists_and_left]
  refine ⟨fun e => ?_, fun e => ?_⟩
  · have : decide (Cfg.Good ⟨a, b, d⟩) = false := by rw [decide_eq_false_iff_not, good_iff]; simp at e; omega
    rw [this] at hK
    exact hK
  simp at e
  have hx : ∀ i : Nat, i ≤ 8 → ∃ x : Nat, 2 ^ i = x ∧ 1 ≤ x ∧ x ≤ 256 ∧ 0 ≤ b * (x : Int) ∧ b * (x : Int) ≤ 16384 := by
    intro i hi
    have : i = 0 ∨ i = 1 ∨ i = 2 ∨ i = 3 ∨ i = 4 ∨ i = 5 ∨ i = 6 ∨ i = 7 ∨ i = 8 := by omega
    rcases this with rfl | rfl | rfl | rfl | rfl | rfl | rfl | rfl | rfl <;> exact ⟨_, rfl, by decide, by decide, by omega, by omega⟩
  have hJ : ∀ x : Nat, 2 ^ d.toNat = x → ∀ J : List Value → Heap → Prop, (∀ (x1 : Addr) (x3 x4 : Int) (hJ5 : Heap), (∀ J6 : Bool → Heap → Prop, (∀ (b43 : Bool) (h43 : Heap), (∀ J7 : Bool → Heap → Prop, (∀ (b50 : Bool) (h50 : Heap), ((b50 = true → K (.bool false) h50) ∧ (b50 = false → (∃ n53 : Int, cellAt h50 (x1.add 1) = some (.int .i64 n53) ∧ (∃ n57 : Int, cellAt h50 x1 = some (.int .u64 n57) ∧ (∀ J8 : Bool → Heap → Prop, (∀ (b65 : Bool) (h65 : Heap), K (.bool b65) h65 → J8 b65 h65) → ((decide (n57 ≤ (9223372036854775808 : Int))) = true → (∃ n61 : Int, cellAt h50 x1 = some (.int .u64 n61) ∧ J8 (decide ((IntKind.wrap .u64 (n61 + (IntKind.wrap .u64 (x4 * (IntKind.wrap .u64 n53))))) ≤ (9223372036854775808 : Int))) h50)) ∧ ((decide (n57 ≤ (9223372036854775808 : Int))) = (!true) → J8 false h50)))))) → J7 b50 h50) → (b43 = false → (∃ n46 : Int, cellAt h43 x1 = some (.int .u64 n46) ∧ (x4 ≠ 0 ∧ J7 ((Int.tmod n46 x4) != (0 : Int)) h43))) ∧ (b43 = (!false) → J7 true h43)) → J6 b43 h43) → ((decide (x3 > (1024 : Int))) = false → (∃ n41 : Int, cellAt hJ5 x1 = some (.int .u64 n41) ∧ J6 (n41 == (0 : Int)) hJ5)) ∧ ((decide (x3 > (1024 : Int))) = (!false) → J6 true hJ5)) → J [(.pointer (some x1)), (.int .i64 x3), (.int .u64 x4)] hJ5) →
      J [.pointer (some ⟨h.size, 0, none⟩), .int .i64 (b * x), .int .u64 (4096 * x)] H1 := by
    intro x hxx J k
    apply k
    clear k J
    obtain ⟨x', hx', hx1, hx2, hx3, hx4⟩ := hx d.toNat (by omega)
    have : x' = x := by omega
    subst this
    have e3 : IntKind.u64.wrap (4096 * x' * IntKind.u64.wrap b) = 4096 * (b * x') := by
      rw [IntKind.wrap_u64 b, Int.emod_eq_of_lt (by omega) (by omega), Int.mul_assoc, Int.mul_comm (x' : Int), IntKind.wrap_u64]; omega
    have g : Cfg.Good ⟨a, b, d⟩ ↔ b * (x' : Int) ≤ 1024 ∧ 0 < a ∧ a % (4096 * (x' : Int)) = 0 ∧ a + 4096 * (b * x') ≤ 9223372036854775808 := by
      rw [good_iff, hx']
      have : ((4096 * x' : Nat) : Int) = 4096 * (x' : Int) := by omega
      rw [this, Int.mul_assoc, Int.mul_comm (x' : Int)]
      omega
    simp only [jor, jand, cellAt_new, add_mk, List.getElem?_toArray, Nat.zero_add, List.getElem?_cons_zero, List.getElem?_cons_succ, Option.some.injEq, Value.int.injEq, Value.bool.injEq, Value.pointer.injEq, Value.slice.injEq, true_and, and_true, exists_eq_left', exists_eq', and_assoc, exists_and_left, c0, c1, c2, e3, Int.tmod_eq_emod_of_nonneg ha.1]
    intro J7 k7
    refine ⟨fun e5 => ⟨by omega, k7 _ _ ⟨fun e6 => ?_, fun e6 => ?_⟩⟩, fun e5 => k7 _ _ ⟨fun _ => ?_, fun e => by cases e⟩⟩
    · have : decide (Cfg.Good ⟨a, b, d⟩) = false := by rw [decide_eq_false_iff_not, g]; simp at e6; omega
      rw [this] at hK
      exact hK
    · simp at e5 e6
      have : decide (Cfg.Good ⟨a, b, d⟩) = (decide (a ≤ 9223372036854775808) && decide (IntKind.u64.wrap (a + 4096 * (b * (x' : Int))) ≤ 9223372036854775808)) := by
        rw [Bool.eq_iff_iff]
        simp only [decide_eq_true_eq, Bool.and_eq_true, g]
        rw [IntKind.wrap_u64]
        constructor
        · rintro ⟨h1, h2, h3, h4⟩; exact ⟨by omega, by omega⟩
        · rintro ⟨h1, h2⟩; exact ⟨by omega, by omega, by omega, by omega⟩
      rw [this] at hK
      refine ⟨_, c1, _, c0, ?_⟩
      simp only [jor, jand, cellAt_new, add_mk, List.getElem?_toArray, Nat.zero_add, List.getElem?_cons_zero, List.getElem?_cons_succ, Option.some.injEq, Value.int.injEq, Value.bool.injEq, Value.pointer.injEq, Value.slice.injEq, true_and, and_true, exists_eq_left', exists_eq', and_assoc, exists_and_left, c0, e3]
      exact hK
    · have : decide (Cfg.Good ⟨a, b, d⟩) = false := by rw [decide_eq_false_iff_not, g]; simp at e5; omega
      rw [this] at hK
      exact hK
  intro J k L hL
  have hJ := hJ _ rfl J k
  have loop : ∀ r i : Nat, i + r = d.toNat → L [.pointer (some ⟨h.size, 0, none⟩), .int .i64 (b * ((2 ^ i : Nat) : Int)), .int .u64 (4096 * ((2 ^ i : Nat) : Int)), .int .i64 (i : Int)] H1 := by
    intro r
    induction r with
    | zero =>
      intro i hi
      have : i = d.toNat := by omega
      subst this
      refine hL _ _ _ _ _ ⟨d, c2, fun e => ?_, fun _ => hJ⟩
      simp at e
      omega
    | succ r ih =>
      intro i hi
      obtain ⟨x, hx', hx1, hx2, hx3, hx4⟩ := hx i (by omega)
      have ih := ih (i + 1) (by omega)
      refine hL _ _ _ _ _ ⟨d, c2, fun _ => ?_, fun e => ?_⟩
      · have e0 : (2 ^ (i + 1) : Nat) = x * 2 := by rw [Nat.pow_succ, hx']
        have e1 : IntKind.wrap .i64 (b * (x : Int) * 2) = b * ((x * 2 : Nat) : Int) := by
          rw [Int.natCast_mul, ← Int.mul_assoc, IntKind.wrap_i64]; omega
        have e2 : IntKind.wrap .u64 (4096 * (x : Int) * 2) = 4096 * ((x * 2 : Nat) : Int) := by rw [IntKind.wrap_u64]; omega
        have e3 : IntKind.wrap .i64 ((i : Int) + 1) = ((i + 1 : Nat) : Int) := by rw [IntKind.wrap_i64]; omega
        rw [hx', e1, e2, e3]
        rw [e0] at ih
        exact ih
      · simp at e
        omega
  have := loop d.toNat 0 (by omega)
  simpa using this

theorem MemNews_ok {a b d : Int} (ha : 0 ≤ a ∧ a < 18446744073709551616) : CallV Try.prog w₀ F.croftlaw2_MemNews [.agg #[.int .u64 a, .int .i64 b, .int .i64 d]] h fun v h' => v = .bool true ∧ Upd NoB h h' := by
  refine croftlaw2_MemNews.call ?_
  unfold croftlaw2_MemNews.vc
  simp only [jor, jand, cellAt_new, add_mk, List.getElem?_toArray, Nat.zero_add, List.getElem?_cons_zero, List.getElem?_cons_succ, Option.some.injEq, Value.int.injEq, Value.bool.injEq, Value.pointer.injEq, Value.slice.injEq, true_and, and_true, exists_eq_left', exists_eq', and_assoc, exists_and_left]
  let H1 : Heap := Array.push h (.cells #[(.int .u64 a), (.int .i64 b), (.int .i64 d)] T.T_api_Config)
  have u0 : Upd NoB h H1 := push_upd _ _ _
  have cs : ∀ h', Upd NoB H1 h' → cellAt h' ⟨h.size, 0, none⟩ = some (.int .u64 a) ∧ cellAt h' ⟨h.size, 1, none⟩ = some (.int .i64 b) ∧ cellAt h' ⟨h.size, 2, none⟩ = some (.int .i64 d) := fun h' u =>
    ⟨cellAt_upd (by simp [H1, cellAt_new]) u id, cellAt_upd (by simp [H1, cellAt_new]) u id, cellAt_upd (by simp [H1, cellAt_new]) u id⟩
  refine mem_New_ok ha (fun hn h1 u1 => ⟨_, _, rfl, ?_⟩) fun g h1 s u1 hs S1 => ⟨_, _, rfl, ?_⟩
  · refine awake_ok fun h2 u2 => ⟨true, rfl, fun e => (by cases e), fun _ => ?_⟩
    obtain ⟨k0, k1, k2⟩ := cs h2 (u1.nx u2 fun _ e _ => e)
    refine ⟨_, k0, _, k1, _, k2, ref2_May_ok ha fun h3 u3 => ⟨_, rfl, fun _ => ⟨rfl, ?_⟩, fun e => ?_⟩⟩
    · exact ((u0.nx u1 fun _ e _ => e).nx u2 fun _ e _ => e).nx u3 fun _ e _ => e
    · simp at e
      exact absurd e hn
  · refine awake_ok fun h2 u2 => ⟨true, rfl, fun e => (by cases e), fun _ => ?_⟩
    have u12 := u1.nx u2 fun _ e _ => e
    obtain ⟨k0, k1, k2⟩ := cs h2 u12
    refine ⟨_, k0, _, k1, _, k2, ref2_May_ok ha fun h3 u3 => ⟨_, rfl, fun e => ?_, fun e => ?_⟩⟩
    · simp at e
      exact absurd g e
    have u13 := u12.nx u3 fun _ e _ => e
    have S3 : Sp h3 s ⟨a, b, d⟩ 0 (fun _ => 0) (fun x => x = s) := S1.upd (u2.nx u3 fun _ e _ => e) fun _ _ => id
    obtain ⟨k0, k1, k2⟩ := cs h3 u13
    intro J5 k5
    refine ⟨fun _ => mem_Regions_ok S3 ⟨_, rfl, k5 _ _ ?_⟩, fun e => by simp at e⟩
    intro J6 k6
    refine ⟨fun _ => ⟨_, k0, mem_End_ok S3 ⟨_, rfl, k0, k6 _ _ ⟨?_, u0.nx u13 fun _ e _ => e⟩⟩⟩, fun e => by simp at e⟩
    simp

theorem MemNews_law {w : World} {a b d : Int} (ha : (Lit.int .u64 a).wf = true) (hb : (Lit.int .i64 b).wf = true) (hd : (Lit.int .i64 d).wf = true) :
    CallV Try.prog w F.croftlaw2_MemNews [.agg #[.int .u64 a, .int .i64 b, .int .i64 d]] w.heap fun v h' => v = .bool true ∧ Upd NoB w.heap h' :=
  MemNews_ok (u64_wf ha)

end
end Go.Proofs.Ytpninapdjcggoaa
