/- Chapter 4's own answer (croftref4): SameWords where they are the same. No condition. -/
import Derived.Test.YtnplkinakaepdaaQ8
set_option linter.unusedSimpArgs false
set_option linter.unusedVariables false
namespace Go.Proofs.Ytnplkinakaepdaa
open Go.V Classical

section
variable {w₀ : World} {h : Heap} {K : Value → Heap → Prop} {s : MS} {w : RW}

theorem r4_SameWords_ok {p : Option Addr} {c : Nat} {wp : Nat → Option Addr} {wc : Nat → Nat} (hs : s.Ok) (H : (refR s w).P h) (hp : PairsIn h p s.o wp (fun k => nw (s.n / 2 ^ (k + 1))) wc fun k j => wd (s.bt k) j)
    (hK : ∀ h', Upd NoB h h' → K (.bool true) h') : CallV Try.prog w₀ F.croftref4_SameWords [.slice p s.o c, refV s w] h K := by
  refine croftref4_SameWords.call ?_
  unfold croftref4_SameWords.vc
  have A := rb_new h s.o w.gp s.n w.gc w.qp s.o w.qc
  obtain ⟨c0, c1, c2⟩ := rb_c A.p
  have o8 := hs.o8
  have n1 := hs.n1
  simp only [add_mk, Nat.zero_add]
  refine ⟨_, _, _, c2, iF (by simp) ?_⟩
  intro J2 k2 L3 hL3
  have loop : ∀ (r k : Nat) (hx : Heap), k + r = s.o → Upd NoB (h.push (.cells #[.int .i64 (s.o : Int), .slice w.gp s.n w.gc, .slice w.qp s.o w.qc] T.T_croftref4_Map)) hx → L3 [.slice p s.o c, .pointer (some ⟨h.size, 0, none⟩), .int .i64 (k : Int)] hx := by
    intro r
    induction r with
    | zero =>
      intro k hx hk u
      refine hL3 _ _ _ _ _ _ (iF (by simp; omega) (k2 _ (hK _ (A.u.nx u fun _ e _ => e))))
    | succ r ih =>
      intro k hx hk u
      have hko : k < s.o := by omega
      have ek : IntKind.wrap .i64 ((k : Int) + 1) = ((k + 1 : Nat) : Int) := by rw [IntKind.wrap_i64]; omega
      have hu := A.u.nx u fun _ e _ => e
      obtain ⟨d0, d1, d2⟩ := rb_c ((rbR _ _ _ _ _ _ _ _).st A.p u fun _ _ => id)
      have H2 := (refR s w).st H hu fun _ _ => id
      obtain ⟨r1, r2⟩ := ref_rows hs H2
      have P2 := hp.upd hu
      obtain ⟨b, o, eb, hc⟩ := row_at r1 hko
      refine hL3 _ _ _ _ _ _ (iT (by simp; omega) ?_)
      intro J4 k4
      simp only [add_mk, Nat.zero_add, Int.toNat_natCast, Nat.mul_one]
      refine ⟨_, _, _, d2, _, eb, by omega, by omega, _, _, _, (by rw [add_mk]; exact hc), ?_⟩
      have hny : s.n / 2 ^ (k + 1) ≤ s.n := Nat.div_le_self _ _
      refine r4_Words_ok (by omega) (r2 k hko) fun h25 q N => ⟨_, _, _, rfl, ?_⟩
      have P3 := P2.upd N.u
      obtain ⟨b', o', eb', hc'⟩ := row_at P3.row hko
      have fk : wd (fun i => decide (i < s.n / 2 ^ (k + 1)) && s.bt k i) = wd (s.bt k) := by
        funext j
        refine wd_congr fun i hi => ?_
        by_cases hi2 : 64 * j + i < s.n / 2 ^ (k + 1)
        · simp [hi2]
        · have : s.bt k (64 * j + i) = false := by
            cases hb : s.bt k (64 * j + i)
            · rfl
            · exact absurd (hs.bi k _ hko hb) hi2
          simp [this]
      rw [fk] at N
      have hnw : nw (s.n / 2 ^ (k + 1)) ≤ 16384 := by unfold nw; omega
      refine ⟨_, eb', by omega, by omega, _, _, _, (by rw [add_mk]; exact hc'), iF (by simp) ?_⟩
      intro L6 hL6
      have inner : ∀ (r j : Nat), j + r = nw (s.n / 2 ^ (k + 1)) → L6 [.slice p s.o c, .pointer (some ⟨h.size, 0, none⟩), .int .i64 (k : Int), .slice (some ⟨q, 0, none⟩) (nw (s.n / 2 ^ (k + 1))) (nw (s.n / 2 ^ (k + 1))), .int .i64 (j : Int)] h25 := by
        intro r
        induction r with
        | zero =>
          intro j hj
          refine hL6 _ _ _ _ _ _ _ _ _ _ (iF (by simp; omega) (k4 _ _ _ _ _ _ ?_))
          rw [ek]
          exact ih (k + 1) h25 (by omega) (u.nx N.u fun _ e _ => e)
        | succ r ihj =>
          intro j hj
          have ej : IntKind.wrap .i64 ((j : Int) + 1) = ((j + 1 : Nat) : Int) := by rw [IntKind.wrap_i64]; omega
          have hjn : j < nw (s.n / 2 ^ (k + 1)) := by omega
          obtain ⟨b2, o2, eb2, hc2⟩ := row_at (P3.wd k hko) hjn
          obtain ⟨b3, eb3, hc3⟩ := sl_cell N.p (i := j) (by omega)
          simp at eb3; subst eb3
          refine hL6 _ _ _ _ _ _ _ _ _ _ (iT (by simp; omega) ?_)
          simp only [add_mk, Nat.zero_add, Int.toNat_natCast, Nat.mul_one]
          refine ⟨_, eb', by omega, by omega, _, _, _, (by rw [add_mk]; exact hc'), _, eb2, by omega, by omega, _, (by rw [add_mk]; exact hc2), _, rfl, by omega, by omega, _, (by rw [add_mk, Nat.zero_add]; exact hc3), iF (by simp) ?_⟩
          rw [ej]
          exact ihj (j + 1) (by omega)
      exact inner (nw (s.n / 2 ^ (k + 1))) 0 (Nat.zero_add _)
  exact loop s.o 0 _ (by omega) (Upd.refl _ _)

/-- The bit of a pair, in the document's own map. -/
theorem ref_bit (H : (refR s w).P h) {k i : Nat} (hk : k < s.o) (hi : i < s.n / 2 ^ (k + 1)) : ∃ b b', w.qp = some ⟨b, 0, none⟩ ∧ cellAt h ⟨b, k, none⟩ = some (.slice (w.tp k) (s.n / 2 ^ (k + 1)) (w.tc k)) ∧
    w.tp k = some ⟨b', 0, none⟩ ∧ cellAt h ⟨b', i, none⟩ = some (.bool (s.bt k i)) := by
  obtain ⟨b, eb, hc⟩ := sl_cell H.2.1.1 (i := k) (by omega)
  obtain ⟨b', eb', hc'⟩ := sl_cell (H.2.1.2.1.1 k hk) (i := i) (by omega)
  exact ⟨b, b', eb, hc, eb', hc'⟩

theorem ref_flip (H : (refR s w).P h) {k i b' : Nat} (hk : k < s.o) (hi : i < s.n / 2 ^ (k + 1)) (eb : w.tp k = some ⟨b', 0, none⟩) :
    Wr h ⟨b', i, none⟩ ∧ Stp h (setC h ⟨b', i, none⟩ (.bool (!s.bt k i))) (refR s w) (refR { s with bt := flipB s.bt k i } w) := by
  obtain ⟨b2, eb2, hw, S⟩ := sl_set (H.2.1.2.1.1 k hk) (o := i) (by omega) (.bool (!s.bt k i))
  have : b' = b2 := by rw [eb] at eb2; simp at eb2; exact eb2
  subst this
  refine ⟨hw, ?_⟩
  have S0 := S.conv (R2 := slR (w.tp k) (s.n / 2 ^ (k + 1)) (w.tc k) 1 fun i' => .bool (flipB s.bt k i k i')) (fun P => sl_congr P fun j hj => by
    unfold flipB
    by_cases h1 : j = i
    · subst h1; simp
    · simp [h1]) fun _ e => e
  have S1 := Stp.all' (R'' := fun k' => slR (w.tp k') (s.n / 2 ^ (k' + 1)) (w.tc k') 1 fun i' => .bool (flipB s.bt k i k' i')) k hk S0 H.2.1.2.1 fun j hj => by
    by_cases h1 : j = k
    · subst h1; simp
    · unfold flipB
      simp only [h1, false_and, if_false]
  exact Stp.right (Stp.right S1 H.2.1) H

end
end Go.Proofs.Ytnplkinakaepdaa
