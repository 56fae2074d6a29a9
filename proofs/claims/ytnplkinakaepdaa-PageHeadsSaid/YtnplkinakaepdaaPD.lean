/- Chapter 4's laws PageHeads, PageAlone. No condition. -/
import Derived.Test.YtnplkinakaepdaaPC
set_option linter.unusedSimpArgs false
set_option linter.unusedVariables false
namespace Go.Proofs.Ytnplkinakaepdaa
open Go.V Classical

set_option maxHeartbeats 1000000 in
theorem PageHeads_law {w : World} {a0 : Int} {p : Option Addr} {n cp : Nat} (h0 : (Lit.int .i64 a0).wf = true) (hs : POps w.heap p n cp) :
    CallV Try.prog w F.croftlaw4_PageHeads [.int .i64 a0, .slice p n cp] w.heap fun v h' => v = .bool true ∧ Upd NoB w.heap h' := by
  obtain ⟨o, hnc, hcp, hat, hok⟩ := hs
  refine croftlaw4_PageHeads.call ?_
  unfold croftlaw4_PageHeads.vc
  refine pg_awake_ok fun h13 u13 => ⟨true, rfl, iF rfl (pm_New_ok fun h16 mb w16 N16 => ⟨_, rfl, ?_⟩)⟩
  have I0 := ((Hold.nil w.heap).quiet u13).new N16
  intro J3 k3 L16 hL16
  have calls : ∀ (r i : Nat) (hx : Heap) (wm : MW), i + r = n → Hold w.heap hx [mapR mb (runs o (mNew a0) i) wm] → L16 [.slice p n cp, .pointer (some ⟨mb, 0, none⟩), .int .i64 (i : Int)] hx := by
    intro r
    induction r with
    | succ r ih =>
      intro i hx wm hi I
      obtain ⟨b, off, eb, hc⟩ := hat.one (i := i) (by omega)
      have e1 : IntKind.wrap .i64 ((i : Int) + 1) = ((i + 1 : Nat) : Int) := by rw [IntKind.wrap_i64]; omega
      refine hL16 _ _ _ _ _ _ (iT (by simp; omega) ?_)
      rw [eb]
      simp only [jor, jand, cellAt_new, add_mk, List.getElem?_toArray, Nat.zero_add, List.getElem?_cons_zero, List.getElem?_cons_succ, Option.some.injEq, Value.int.injEq, Value.bool.injEq, Value.pointer.injEq, Value.slice.injEq, true_and, and_true, exists_eq_left', exists_eq', and_assoc, exists_and_left, Int.toNat_natCast]
      refine ⟨by omega, by omega, ?_⟩
      have c5 := hc hx I.u
      refine ⟨_, c5 0 (by omega), _, c5 1 (by omega), _, c5 2 (by omega), _, c5 3 (by omega), _, c5 4 (by omega), ?_⟩
      refine call_ok (hok i (by omega)) (runs_ok (k := i) (mNew_ok a0) fun j hj => hok j (by omega)) (I.at 0) fun h28 w' S => ⟨_, rfl, ?_⟩
      rw [e1, ← eb]
      exact ih (i + 1) h28 w' (by omega) (I.step 0 S)
    | zero =>
      intro i hx wm hi I
      have : i = n := by omega
      subst this
      have sok : (runs o (mNew a0) i).Ok := runs_ok (mNew_ok a0) hok
      generalize runs o (mNew a0) i = s at *
      have n1 := sok.n1
      refine hL16 _ _ _ _ _ _ (iF (by simp) (k3 _ _ (pm_Pages_ok (I.at 0) ⟨_, rfl, ?_⟩)))
      intro J5 k5 L6 hL6
      have e2 : IntKind.wrap .i64 ((s.n : Int) + 2) = (s.n : Int) + 2 := by rw [IntKind.wrap_i64]; omega
      have loop : ∀ (r : Nat) (q : Int) (hy : Heap), q + r = s.n + 2 → -2 ≤ q → Upd NoB hx hy → L6 [.pointer (some ⟨mb, 0, none⟩), .int .i64 (s.n : Int), .int .i64 q] hy := by
        intro r
        induction r with
        | zero =>
          intro q hy hq hq2 uy
          refine hL6 _ _ _ _ (iF (by rw [e2]; simp; omega) (k5 _ ⟨rfl, (I.quiet uy).u⟩))
        | succ r ih =>
          intro q hy hq hq2 uy
          have e1 : IntKind.wrap .i64 (q + 1) = q + 1 := by rw [IntKind.wrap_i64]; omega
          refine hL6 _ _ _ _ (iT (by rw [e2]; simp; omega) ?_)
          intro J7 k7
          have next : ∀ hz, Upd NoB hx hz → J7 [.pointer (some ⟨mb, 0, none⟩), .int .i64 (s.n : Int), .int .i64 q] hz := fun hz uz => k7 _ _ _ _ (by rw [e1]; exact ih (q + 1) hz (by omega) (by omega) uz)
          have Iy := I.quiet uy
          refine pm_At_ok (Iy.at 0) (fun m hm hmn h40 u40 => ⟨_, _, _, _, _, _, _, _, _, _, _, _, rfl, ?_⟩) fun hh h40 u40 => ⟨_, _, _, _, _, _, _, _, _, _, _, _, rfl, ?_⟩
          · subst hm
            have I40 := Iy.quiet u40
            obtain ⟨w1, u41, H41, hc⟩ := box_page (P := s.pg m) (I40.at 0)
            refine ⟨w1, ?_⟩
            have I41 := I40.quiet u41
            have T := (sok.pg m hmn).o
            obtain ⟨r', hr'⟩ : ∃ r' : Nat, s.pg m 1 = r' := ⟨(s.pg m 1).toNat, by omega⟩
            obtain ⟨x, hpw, hx1, hx2⟩ := pow_small (k := r') (by omega)
            refine pm_Head_ok n1 sok.pg H41 (fun m' hm' hmn' h45 u45 => ⟨_, rfl, ?_⟩) fun hn => absurd (by omega) hn
            have : m = m' := by omega
            subst this
            rw [hr', Int.toNat_natCast, hpw]
            have u3 := ((uy.nx u40 fun _ e _ => e).nx u41 fun _ e _ => e).nx u45 fun _ e _ => e
            have hc1 := cellAt_upd (hc 1 (by omega)) u45 id
            intro J12 k12
            refine qT (by simp) (k12 _ _ ?_)
            refine iF (by simp; exact hmn) (iF rfl ?_)
            have ep : pcl 1 (s.pg m 1) = .int .i64 (r' : Int) := by rw [hr']; rfl
            rw [ep] at hc1
            have hle : m / x * x ≤ m := Nat.div_mul_le_self _ _
            have hmod : m / x * x % x = 0 := Nat.mul_mod_left _ _
            have hlt : m < m / x * x + x := by have := Nat.lt_div_mul_add hx1 (a := m); omega
            generalize m / x * x = y at *
            refine ⟨_, by rw [add_mk, Nat.zero_add]; exact hc1, by omega, ?_⟩
            rw [shl_i64 (by omega), hpw]
            refine ⟨by omega, ?_⟩
            intro J14 k14
            have em : Int.tmod (y : Int) (x : Int) = ((y % x : Nat) : Int) := by rw [Int.tmod_eq_emod_of_nonneg (by omega)]; omega
            rw [em, hmod]
            have e3 : IntKind.wrap .i64 ((m : Int) - (y : Int)) = (m : Int) - y := by rw [IntKind.wrap_i64]; omega
            refine pF rfl (k14 _ _ ?_)
            intro J15 k15
            rw [e3]
            exact pF (by simp; omega) (k15 _ _ (iF (by simp; omega) (next _ u3)))
          · have I40 := Iy.quiet u40
            obtain ⟨w1, u41, H41, hc⟩ := box_page (P := fun _ => 0) (I40.at 0)
            refine ⟨w1, ?_⟩
            refine pm_Head_ok n1 sok.pg H41 (fun m' hm' hmn' => absurd ⟨by omega, by omega⟩ hh) fun hn h45 u45 => ⟨_, rfl, ?_⟩
            have u3 := ((uy.nx u40 fun _ e _ => e).nx u41 fun _ e _ => e).nx u45 fun _ e _ => e
            have hP : (pgR h40.size fun _ => 0).P h45 := (pgR h40.size fun _ => 0).st (pg_lay h40 fun _ => 0).2.p u45 fun _ _ => id
            intro J12 k12
            have go : J12 false h45 := by
              refine k12 _ _ (iF rfl (iT rfl ?_))
              intro J13 k13
              refine pF rfl (pgR_ld hP ?_)
              have e4 := eq_page (fun _ => 0) (fun _ => 0)
              rw [e4]
              exact k13 _ _ (iF (by simp) (next _ u3))
            by_cases hq0 : 0 ≤ q
            · refine qT (by simp; exact hq0) ?_
              have : decide (q < (s.n : Int)) = false := by simp; omega
              rw [this]; exact go
            · exact qF' (by simp; omega) go
      exact loop (s.n + 4) (-2) hx (by omega) (by omega) (Upd.refl _ _)
  exact calls n 0 h16 w16 (by omega) I0

end Go.Proofs.Ytnplkinakaepdaa
