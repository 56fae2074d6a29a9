/- Chapter 4's law PageBack. No condition. -/
import Derived.Test.YtnplkinakaepdaaPF
set_option linter.unusedSimpArgs false
set_option linter.unusedVariables false
namespace Go.Proofs.Ytnplkinakaepdaa
open Go.V Classical

theorem clamp_cases {a : Int} : ((if a < 0 then (0 : Int) else a) > 8 → ((clampO a : Nat) : Int) = 8) ∧ (¬ (if a < 0 then (0 : Int) else a) > 8 → ((clampO a : Nat) : Int) = if a < 0 then (0 : Int) else a) := by
  unfold clampO
  refine ⟨fun h => ?_, fun h => ?_⟩
  · by_cases h0 : a < 0
    · rw [if_pos h0] at h; omega
    · rw [if_neg h0] at h
      rw [if_neg h0]
      split <;> omega
  · by_cases h0 : a < 0
    · simp [h0]
    · rw [if_neg h0] at h
      rw [if_neg h0, if_neg h0]
      split <;> omega

theorem runs_add (o : Nat → PO) (s : MS) (k : Nat) : runs o s (k + 1) = (mCall (runs o s k) (o k)).1 := rfl

set_option maxHeartbeats 2000000 in
theorem PageBack_law {w : World} {a0 : Int} {p : Option Addr} {n cp : Nat} {p' : Option Addr} {m cp' : Nat} (h0 : (Lit.int .i64 a0).wf = true) (hs : POps w.heap p n cp) (hs' : POps w.heap p' m cp') :
    CallV Try.prog w F.croftlaw4_PageBack [.int .i64 a0, .slice p n cp, .slice p' m cp'] w.heap fun v h' => v = .bool true ∧ Upd NoB w.heap h' := by
  obtain ⟨o, hnc, hcp, hat, hok⟩ := hs
  obtain ⟨o', hnc', hcp', hat', hok'⟩ := hs'
  refine croftlaw4_PageBack.call ?_
  unfold croftlaw4_PageBack.vc
  refine pg_awake_ok fun h13 u13 => ⟨true, rfl, iF rfl (pm_New_ok fun h16 mb w16 N16 => ⟨_, rfl, ?_⟩)⟩
  have I0 := ((Hold.nil w.heap).quiet u13).new N16
  intro J3 k3 L21 hL21
  have calls : ∀ (r i : Nat) (hx : Heap) (wm : MW), i + r = n → Hold w.heap hx [mapR mb (runs o (mNew a0) i) wm] → L21 [.int .i64 a0, .slice p n cp, .slice p' m cp', .pointer (some ⟨mb, 0, none⟩), .int .i64 (i : Int)] hx := by
    intro r
    induction r with
    | succ r ih =>
      intro i hx wm hi I
      obtain ⟨b, off, eb, hc⟩ := hat.one (i := i) (by omega)
      have e1 : IntKind.wrap .i64 ((i : Int) + 1) = ((i + 1 : Nat) : Int) := by rw [IntKind.wrap_i64]; omega
      refine hL21 _ _ _ _ _ _ _ _ _ _ (iT (by simp; omega) ?_)
      rw [eb]
      simp only [jor, jand, cellAt_new, add_mk, List.getElem?_toArray, Nat.zero_add, List.getElem?_cons_zero, List.getElem?_cons_succ, Option.some.injEq, Value.int.injEq, Value.bool.injEq, Value.pointer.injEq, Value.slice.injEq, true_and, and_true, exists_eq_left', exists_eq', and_assoc, exists_and_left, Int.toNat_natCast]
      refine ⟨by omega, by omega, ?_⟩
      have c5 := hc hx I.u
      refine ⟨_, c5 0 (by omega), _, c5 1 (by omega), _, c5 2 (by omega), _, c5 3 (by omega), _, c5 4 (by omega), ?_⟩
      refine call_ok (hok i (by omega)) (runs_ok (k := i) (mNew_ok a0) fun j hj => hok j (by omega)) (I.at 0) fun h28 w' S => ⟨_, rfl, ?_⟩
      rw [e1, ← eb]
      exact ih (i + 1) h28 w' (by omega) (I.step 0 S)
    | zero =>
      intro i hx wm hi I
      have : i = n := by omega
      subst this
      have sok : (runs o (mNew a0) i).Ok := runs_ok (mNew_ok a0) hok
      have smd : Made (runs o (mNew a0) i) := runs_made (mNew_ok a0) (fun x hx => absurd hx (by simp [mNew])) hok
      have so : ((runs o (mNew a0) i).o : Int) = ((clampO a0 : Nat) : Int) := by rw [runs_o]; rfl
      generalize runs o (mNew a0) i = s at *
      have n1 := sok.n1
      refine hL21 _ _ _ _ _ _ _ _ _ _ (iF (by simp) (k3 _ _ _ _ _ _ (pm_Plain_ok sok (I.at 0) fun h39 gp gc qp qc wp wc N39 => ⟨_, _, _, _, _, _, rfl, ?_⟩)))
      have I39 := I.new N39
      intro J5 k5
      have main : ∀ J6 : List Value → Heap → Prop, ((J6 [.slice p' m cp', .pointer (some ⟨mb, 0, none⟩), .slice gp s.n gc, .slice qp s.o qc, .int .i64 (s.o : Int)] h39) →
          ((decide ((if a0 < 0 then (0 : Int) else a0) > 8)) = true → J6 [.slice p' m cp', .pointer (some ⟨mb, 0, none⟩), .slice gp s.n gc, .slice qp s.o qc, .int .i64 8] h39) ∧
          ((decide ((if a0 < 0 then (0 : Int) else a0) > 8)) = false → J6 [.slice p' m cp', .pointer (some ⟨mb, 0, none⟩), .slice gp s.n gc, .slice qp s.o qc, .int .i64 (if a0 < 0 then (0 : Int) else a0)] h39)) := fun J6 hJ => by
        have hc := @clamp_cases a0
        refine ⟨fun e => ?_, fun e => ?_⟩
        · rw [so, hc.1 (by simpa using e)] at hJ; exact hJ
        · rw [so, hc.2 (by simpa using e)] at hJ; exact hJ
      have j5 : J5 [.slice p' m cp', .pointer (some ⟨mb, 0, none⟩), .slice gp s.n gc, .slice qp s.o qc, .int .i64 (if a0 < 0 then (0 : Int) else a0)] h39 := by
        refine k5 _ _ _ _ _ _ _ _ _ _ _ _ ?_
        intro J6 k6
        refine main J6 (k6 _ _ _ _ _ _ _ _ _ _ _ _ ?_)
        obtain ⟨d1, d2⟩ := plain_in (I39.at 0)
        have gn : ∀ (hz : Heap), Upd NoB h39 hz → Row hz gp (s.n * 11) (pgF s.pg) := fun hz u => d1.upd u fun _ _ => id
        refine pm_Open_ok (by omega) (by have := sok.o8; omega) d1 d2 (fun F h51 mb2 w2 N51 => ⟨_, _, rfl, ?_⟩) fun nF h51 u51 => ⟨_, _, rfl, ?_⟩
        case refine_2 =>
          have hg : Gone s.pg s.n := by
            rcases Classical.em (Gone s.pg s.n) with h | h
            · exact h
            · exact absurd (open_ok sok smd h) nF
          refine gone_ok (by omega) (gn h51 u51) ⟨_, rfl, ?_⟩
          rw [decide_eq_true hg]
          exact iT rfl ⟨rfl, (I39.quiet u51).u⟩
        have hg : ¬ Gone s.pg s.n := fun hg => open_gone hg F
        have N51 := open_again sok N51
        refine gone_ok (by omega) (gn h51 N51.u) ⟨_, rfl, ?_⟩
        rw [decide_eq_false hg]
        refine iF rfl (iF rfl ?_)
        have I51 := I39.new N51
        intro J9 k9 L18 hL18
        -- the same calls on both
        have both : ∀ (r i : Nat) (hy : Heap) (wa wb : MW), i + r = m → Hold w.heap hy [mapR mb2 (runs o' s i) wb, mapR mb (runs o' s i) wa] → L18 [.slice p' m cp', .pointer (some ⟨mb, 0, none⟩), .pointer (some ⟨mb2, 0, none⟩), .int .i64 (i : Int)] hy := by
          intro r
          induction r with
          | succ r ih =>
            intro i hy wa wb hi I
            obtain ⟨b, off, eb, hc⟩ := hat'.one (i := i) (by omega)
            have e1 : IntKind.wrap .i64 ((i : Int) + 1) = ((i + 1 : Nat) : Int) := by rw [IntKind.wrap_i64]; omega
            have rok := runs_ok (k := i) sok fun j hj => hok' j (by omega)
            refine hL18 _ _ _ _ _ _ _ (iT (by simp; omega) ?_)
            rw [eb]
            simp only [jor, jand, cellAt_new, add_mk, List.getElem?_toArray, Nat.zero_add, List.getElem?_cons_zero, List.getElem?_cons_succ, Option.some.injEq, Value.int.injEq, Value.bool.injEq, Value.pointer.injEq, Value.slice.injEq, true_and, and_true, exists_eq_left', exists_eq', and_assoc, exists_and_left, Int.toNat_natCast]
            have c5 := hc hy I.u
            refine ⟨by omega, by omega, _, c5 0 (by omega), _, c5 1 (by omega), _, c5 2 (by omega), _, c5 3 (by omega), _, c5 4 (by omega), by omega, by omega, _, c5 0 (by omega), _, c5 1 (by omega), _, c5 2 (by omega), _, c5 3 (by omega), _, c5 4 (by omega), ?_⟩
            refine call_ok (hok' i (by omega)) rok (I.at 1) fun h71 wa' S => ⟨_, rfl, ?_⟩
            have I2 := I.step 1 S
            have c6 := hc h71 I2.u
            refine ⟨c6 0 (by omega), c6 1 (by omega), c6 2 (by omega), c6 3 (by omega), c6 4 (by omega), ?_⟩
            refine call_ok (hok' i (by omega)) rok (I2.at 0) fun h77 wb' S' => ⟨_, rfl, ?_⟩
            have I3 := I2.step 0 S'
            rw [e1, ← eb]
            exact iF (by simp) (ih (i + 1) h77 wa' wb' (by omega) I3)
          | zero =>
            intro i hy wa wb hi I
            have : i = m := by omega
            subst this
            have tok : (runs o' s i).Ok := runs_ok sok hok'
            generalize runs o' s i = t at *
            have t1 := tok.n1
            have t8 := tok.o8
            refine hL18 _ _ _ _ _ _ _ (iF (by simp) (k9 _ _ _ ?_))
            refine pm_Plain_ok tok (I.at 1) fun h81 gp1 gc1 qp1 qc1 wp1 wc1 N81 => ⟨_, _, _, _, _, _, rfl, ?_⟩
            have I81 := I.new N81
            refine pm_Plain_ok tok (I81.at 1) fun h86 gp2 gc2 qp2 qc2 wp2 wc2 N86 => ⟨_, _, _, _, _, _, rfl, ?_⟩
            have I86 := I81.new N86
            have P1 := I86.at 1 (R := plainR t gp1 gc1 qp1 qc1 wp1 wc1)
            have P2 := I86.at 0 (R := plainR t gp2 gc2 qp2 qc2 wp2 wc2)
            refine SamePages_ok (by omega) (sl_row P1.1) (sl_row P2.1) fun b hb => ⟨_, rfl, ?_⟩
            have : b = true := hb.2 ⟨rfl, fun _ _ _ _ => rfl⟩
            subst this
            intro J13 k13
            refine pF rfl (k13 _ _ (iF (by simp) ?_))
            intro J14 k14 L15 hL15
            have words : ∀ (r k : Nat), k + r = t.o → L15 [.slice qp1 t.o qc1, .slice qp2 t.o qc2, .int .i64 (k : Int)] h86 := by
              intro r
              induction r with
              | zero =>
                intro k hk
                have : k = t.o := by omega
                subst this
                exact hL15 _ _ _ _ _ _ _ _ (iF (by simp) (k14 _ ⟨rfl, I86.u⟩))
              | succ r ih =>
                intro k hk
                have hko : k < t.o := by omega
                obtain ⟨b1, e1, c1⟩ := sl_cell P1.2.1.1 (i := k) (by omega)
                obtain ⟨b2, e2, c2⟩ := sl_cell P2.2.1.1 (i := k) (by omega)
                have ek : IntKind.wrap .i64 ((k : Int) + 1) = ((k + 1 : Nat) : Int) := by rw [IntKind.wrap_i64]; omega
                have W1 := P1.2.1.2.1.1 k hko
                have W2 := P2.2.1.2.1.1 k hko
                have hnw : nw (t.n / 2 ^ (k + 1)) ≤ 16384 := by have := npair t1 k; unfold nw; omega
                refine hL15 _ _ _ _ _ _ _ _ (iT (by simp; omega) ?_)
                intro J16 k16
                rw [e1, e2]
                simp only [jor, jand, cellAt_new, add_mk, List.getElem?_toArray, Nat.zero_add, List.getElem?_cons_zero, List.getElem?_cons_succ, Option.some.injEq, Value.int.injEq, Value.bool.injEq, Value.pointer.injEq, Value.slice.injEq, true_and, and_true, exists_eq_left', exists_eq', and_assoc, exists_and_left, Int.toNat_natCast, Nat.mul_one, c1, c2]
                refine ⟨by omega, by omega, by omega, by omega, iF (by simp) ?_⟩
                intro L17 hL17
                have inner : ∀ (r j : Nat), j + r = nw (t.n / 2 ^ (k + 1)) → L17 [.slice (some ⟨b1, 0, none⟩) t.o qc1, .slice (some ⟨b2, 0, none⟩) t.o qc2, .int .i64 (k : Int), .int .i64 (j : Int)] h86 := by
                  intro r
                  induction r with
                  | zero =>
                    intro j hj
                    have : j = nw (t.n / 2 ^ (k + 1)) := by omega
                    refine hL17 _ _ _ _ _ _ _ _ _ ⟨_, rfl, by omega, by omega, _, _, _, by simp only [add_mk, Int.toNat_natCast, Nat.mul_one, Nat.zero_add]; exact c1, iF (by simp; omega) (k16 _ _ _ _ _ _ _ _ ?_)⟩
                    rw [ek, ← e1, ← e2]
                    exact ih (k + 1) (by omega)
                  | succ r ihj =>
                    intro j hj
                    obtain ⟨d1, f1, x1⟩ := sl_cell W1 (i := j) (by omega)
                    obtain ⟨d2, f2, x2⟩ := sl_cell W2 (i := j) (by omega)
                    have ej : IntKind.wrap .i64 ((j : Int) + 1) = ((j + 1 : Nat) : Int) := by rw [IntKind.wrap_i64]; omega
                    refine hL17 _ _ _ _ _ _ _ _ _ ?_
                    simp only [jor, jand, cellAt_new, add_mk, List.getElem?_toArray, Nat.zero_add, List.getElem?_cons_zero, List.getElem?_cons_succ, Option.some.injEq, Value.int.injEq, Value.bool.injEq, Value.pointer.injEq, Value.slice.injEq, true_and, and_true, exists_eq_left', exists_eq', and_assoc, exists_and_left, Int.toNat_natCast, Nat.mul_one, c1, c2]
                    refine ⟨by omega, by omega, iT (by simp; omega) ?_⟩
                    rw [f1, f2]
                    simp only [jor, jand, cellAt_new, add_mk, List.getElem?_toArray, Nat.zero_add, List.getElem?_cons_zero, List.getElem?_cons_succ, Option.some.injEq, Value.int.injEq, Value.bool.injEq, Value.pointer.injEq, Value.slice.injEq, true_and, and_true, exists_eq_left', exists_eq', and_assoc, exists_and_left, Int.toNat_natCast, Nat.mul_one, x1, x2]
                    refine ⟨by omega, by omega, by omega, by omega, by omega, by omega, by omega, by omega, iF (by simp) ?_⟩
                    rw [ej]
                    exact ihj (j + 1) (by omega)
                exact inner _ 0 (Nat.zero_add _)
            exact words t.o 0 (by omega)
        exact both m 0 h51 wm w2 (by omega) (I51.sub (.cons_cons _ (.cons _ (.cons_cons _ .slnil))))
      by_cases ha0 : a0 < 0
      · rw [if_pos ha0] at j5
        exact iT (by simp; exact ha0) j5
      · rw [if_neg ha0] at j5
        exact iF (by simp; omega) j5
  exact calls n 0 h16 w16 (by omega) I0

end Go.Proofs.Ytnplkinakaepdaa
