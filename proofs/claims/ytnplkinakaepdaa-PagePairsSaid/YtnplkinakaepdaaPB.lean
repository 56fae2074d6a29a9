/- Chapter 4's law PagePairs. No condition. -/
import Derived.Test.YtnplkinakaepdaaPA
import Derived.Test.YtnplkinakaepdaaX0
set_option linter.unusedSimpArgs false
set_option linter.unusedVariables false
namespace Go.Proofs.Ytnplkinakaepdaa
open Go.V Classical

theorem tmod_abs (x : Int) {d : Nat} (hd : 0 < d) : (Int.tmod x d).natAbs < d := by
  rw [Int.natAbs_tmod]
  exact Nat.mod_lt _ (by simpa using hd)

/-- A number that is made not negative, in a join of one slot. -/
theorem abs_val {r : Int} {d : Nat} (hr : r.natAbs < d) (hd : d ≤ 2048) : (r < 0 → IntKind.wrap .i64 (0 - r) = ((r.natAbs : Nat) : Int)) ∧ (¬ r < 0 → r = ((r.natAbs : Nat) : Int)) := by
  refine ⟨fun h => ?_, fun h => by omega⟩
  rw [IntKind.wrap_i64]; omega

/-- A map of k regions, nothing flipped. -/
def grownS (o k : Nat) (s : MS) : Prop := s.Ok ∧ s.o = o ∧ s.n = k * 2 ^ o ∧ ∀ a i, s.bt a i = false

theorem grownS_next {o k : Nat} {s : MS} (H : grownS o k s) (hk : (k + 1) * 2 ^ o ≤ 1024) : grownS o (k + 1) (mGrow s) := by
  obtain ⟨h1, h2, h3, h4⟩ := H
  refine ⟨mGrow_ok h1, ?_, ?_, ?_⟩
  · unfold mGrow; split <;> simp [h2]
  · have e : (k + 1) * 2 ^ o = k * 2 ^ o + 2 ^ o := by rw [Nat.add_mul, Nat.one_mul]
    unfold mGrow; rw [if_neg (by rw [h2, h3]; omega)]; simp only; rw [h2, h3, e]
  · intro a i; unfold mGrow; split <;> simp [h4]

set_option maxHeartbeats 1000000 in
theorem PagePairs_law {w : World} {a0 a1 : Int} {p : Option Addr} {n cp : Nat} (h0 : (Lit.int .i64 a0).wf = true) (h1 : (Lit.int .i64 a1).wf = true) (hs : SRow w.heap .i64 p n cp) :
    CallV Try.prog w F.croftlaw4_PagePairs [.int .i64 a0, .int .i64 a1, .slice p n cp] w.heap fun v h' => v = .bool true ∧ Upd NoB w.heap h' := by
  obtain ⟨fl, hnc, hcp, hrow, hfl⟩ := hs
  refine croftlaw4_PagePairs.call ?_
  unfold croftlaw4_PagePairs.vc
  refine pg_awake_ok fun h23 u23 => ⟨true, rfl, iF rfl ⟨by decide, ?_⟩⟩
  intro J2 k2
  have go2 : J2 [.int .i64 a1, .slice p n cp, .int .i64 ((Int.tmod a0 5).natAbs : Int)] h23 := by
    have ho5 := tmod_abs a0 (d := 5) (by decide)
    generalize hoo : (Int.tmod a0 (5 : Nat)).natAbs = o at *
    refine k2 _ _ _ _ _ _ ⟨by decide, ?_⟩
    intro J3 k3
    have go3 : J3 [.slice p n cp, .int .i64 (o : Int), .int .i64 ((Int.tmod a1 4).natAbs : Int)] h23 := by
      have hk4 := tmod_abs a1 (d := 4) (by decide)
      generalize hkk : (Int.tmod a1 (4 : Nat)).natAbs = k at *
      obtain ⟨X, hX, hX1, hX2⟩ := pow_small (k := o) (by omega)
      have hX16 : X ≤ 16 := by
        rw [← hX]
        calc 2 ^ o ≤ 2 ^ 4 := Nat.pow_le_pow_right (by decide) (by omega)
          _ = 16 := by decide
      refine k3 _ _ _ _ _ _ (pm_New_ok fun h38 mb w38 N38 => ⟨_, rfl, ?_⟩)
      have I0 := ((Hold.nil w.heap).quiet u23).new N38
      have G0 : grownS o 0 (mNew o) := by
        refine ⟨mNew_ok _, ?_, by simp [mNew], fun _ _ => rfl⟩
        simp only [mNew, clampO]
        rw [if_neg (by omega), if_neg (by omega)]; omega
      intro J5 k5 L21 hL21
      -- regions
      have regs : ∀ (r i : Nat) (hx : Heap) (s : MS) (wm : MW), i + r = k → grownS o i s → Hold w.heap hx [mapR mb s wm] →
          L21 [.slice p n cp, .int .i64 (o : Int), .int .i64 (k : Int), .pointer (some ⟨mb, 0, none⟩), .int .i64 (i : Int)] hx := by
        intro r
        induction r with
        | succ r ih =>
          intro i hx s wm hi G I
          have e1 : IntKind.wrap .i64 ((i : Int) + 1) = ((i + 1 : Nat) : Int) := by rw [IntKind.wrap_i64]; omega
          refine hL21 _ _ _ _ _ _ _ _ (iT (by simp; omega) (pm_Grow_ok G.1 (I.at 0) fun h45 w' S => ⟨rfl, ?_⟩))
          rw [e1]
          refine ih (i + 1) h45 _ w' (by omega) (grownS_next G ?_) (I.step 0 S)
          rw [hX]
          have : (i + 1) * X ≤ 3 * X := Nat.mul_le_mul_right _ (by omega)
          omega
        | zero =>
          intro i hx s wm hi G I
          have : i = k := by omega
          subst this
          obtain ⟨sok, so, sn, sb⟩ := G
          rw [hX] at sn
          refine hL21 _ _ _ _ _ _ _ _ (iF (by simp) (k5 _ _ _ _ _ _ _ ⟨by omega, ?_⟩))
          intro J6 k6
          have hnx : i * X ≤ 3 * X := Nat.mul_le_mul_right _ (by omega)
          obtain ⟨nn, hnn⟩ : ∃ nn, nn = i * X := ⟨_, rfl⟩
          have esh : IntKind.wrap .i64 ((i : Int) * 2 ^ min (Int.toNat (o : Int)) (IntKind.bits .i64)) = (nn : Int) := by
            have e1 : min (Int.toNat (o : Int)) (IntKind.bits .i64) = o := by show min _ 64 = o; simp; omega
            rw [e1]
            have e2 : (i : Int) * 2 ^ o = ((i * X : Nat) : Int) := by rw [← hX]; simp
            rw [e2, ← hnn, IntKind.wrap_i64]; omega
          rw [← hnn] at sn hnx
          rw [esh]
          by_cases hz : o = 0 ∨ nn = 0
          · have fl0 : J6 true hx := by
              refine k6 _ _ ⟨fun _ => pm_Flip_ok sok (I.at 0) (fun a m ha hao hm hmn => ?_) fun hn h57 u57 => ⟨_, _, rfl, by simp, (I.quiet u57).u⟩, fun e => by cases e⟩
              exfalso; omega
            by_cases ho0 : o = 0
            · exact pT (by simp [ho0]) fl0
            · refine pF (by simp; exact ho0) ?_
              have : ((nn : Int) == 0) = true := by simp; omega
              rw [this]; exact fl0
          have ho1 : 0 < o := by omega
          have hn0 : 0 < nn := by omega
          refine pF (by simp; omega) ?_
          have e0 : ((nn : Int) == 0) = false := by simp; omega
          rw [e0]
          refine k6 _ _ ⟨fun e => (by cases e), fun _ => ?_⟩
          have hno : nn * o ≤ 48 * 4 := Nat.mul_le_mul (by omega) (by omega)
          have em : IntKind.wrap .i64 ((nn : Int) * (o : Int)) = ((nn * o : Nat) : Int) := by rw [← Int.natCast_mul, IntKind.wrap_i64]; generalize nn * o = y at *; omega
          rw [esh, em]
          refine ⟨by omega, by omega, by generalize nn * o = y at *; omega, ?_⟩
          rw [Int.toNat_natCast]
          have T0 := sl_make hx [(.int .i64 (0 : Int))] T.T_int (nn * o) (nn * o) (Nat.le_refl _)
          have I1 : Hold w.heap _ [slR (some ⟨hx.size, 0, none⟩) (nn * o) (nn * o) 1 fun x => .int .i64 (((fun _ => 0 : Nat → Nat) x : Nat) : Int), mapR mb s wm] := (I.new T0).as 0 (R := slR (some ⟨hx.size, 0, none⟩) (nn * o) (nn * o) 1 fun i => [(.int .i64 (0 : Int))].getD (i % 1) undef) (fun P => sl_congr P fun i hi => by simp [Nat.mod_one]) fun _ e => e
          have hat : ∀ a q, a < o → q < nn → a * nn + q < nn * o := fun a q ha hq => by
            have : (a + 1) * nn ≤ o * nn := Nat.mul_le_mul_right _ ha
            rw [Nat.add_mul, Nat.one_mul, Nat.mul_comm o] at this
            omega
          have hinj : ∀ a b q r, q < nn → r < nn → a * nn + q = b * nn + r → a = b ∧ q = r := fun a b q r hq hr e => by
            have h1 : (a * nn + q) / nn = a := by rw [Nat.mul_comm, Nat.mul_add_div hn0, Nat.div_eq_of_lt hq, Nat.add_zero]
            have h2 : (b * nn + r) / nn = b := by rw [Nat.mul_comm, Nat.mul_add_div hn0, Nat.div_eq_of_lt hr, Nat.add_zero]
            have h3 : a = b := by rw [← h1, ← h2, e]
            subst h3
            exact ⟨rfl, by omega⟩
          have hdv : ∀ a q, q < nn → q / 2 ^ (a + 1) < nn := fun a q hq => Nat.lt_of_le_of_lt (Nat.div_le_self _ _) hq
          have eat : ∀ a q, a < o → q < nn → IntKind.wrap .i64 (IntKind.wrap .i64 ((a : Int) * (nn : Int)) + Int.fdiv (q : Int) (2 ^ min (Int.toNat (IntKind.wrap .i64 ((a : Int) + 1))) (IntKind.bits .i64))) = ((a * nn + q / 2 ^ (a + 1) : Nat) : Int) := fun a q ha hq => by
            have e1 : IntKind.wrap .i64 ((a : Int) + 1) = ((a + 1 : Nat) : Int) := by rw [IntKind.wrap_i64]; omega
            have h1 : a * nn ≤ o * nn := Nat.mul_le_mul_right _ (by omega)
            have h2 : o * nn ≤ 192 := by rw [Nat.mul_comm]; omega
            have e2 : IntKind.wrap .i64 ((a : Int) * (nn : Int)) = ((a * nn : Nat) : Int) := by rw [← Int.natCast_mul, IntKind.wrap_i64]; generalize a * nn = y at *; omega
            have := hdv a q hq
            rw [e1, shr_i64 (by omega), e2, IntKind.wrap_i64]
            generalize a * nn = y at *
            generalize q / 2 ^ (a + 1) = z at *
            omega
          have ew1 : ∀ a : Nat, a < o → (0 : Int) ≤ IntKind.wrap .i64 ((a : Int) + 1) := fun a ha => by rw [IntKind.wrap_i64]; omega
          intro J9 k9 L15 hL15
          -- what holds between flips
          let Inv : MS → (Nat → Nat) → Nat → Prop := fun s' t c => s'.Ok ∧ s'.o = o ∧ s'.n = nn ∧ (∀ x, t x ≤ c) ∧ ∀ a q, a < o → q < nn → s'.bt a (q / 2 ^ (a + 1)) = (t (a * nn + q / 2 ^ (a + 1)) % 2 == 1)
          have flips : ∀ (r c : Nat) (hy : Heap) (s' : MS) (t : Nat → Nat), c + r = n → c % 2 = 0 → Inv s' t c → Hold w.heap hy [slR (some ⟨hx.size, 0, none⟩) (nn * o) (nn * o) 1 fun x => .int .i64 ((t x : Nat) : Int), mapR mb s' wm] →
              L15 [.slice p n cp, .int .i64 (o : Int), .pointer (some ⟨mb, 0, none⟩), .int .i64 (nn : Int), .slice (some ⟨hx.size, 0, none⟩) (nn * o) (nn * o), .int .i64 (c : Int)] hy := by
            intro r
            induction r using Nat.strongRecOn with
            | _ r ih =>
              intro c hy s' t hc hc2 V I2
              have ec1 : IntKind.wrap .i64 ((c : Int) + 1) = ((c + 1 : Nat) : Int) := by rw [IntKind.wrap_i64]; omega
              have hT := I2.at 0 (R := slR (some ⟨hx.size, 0, none⟩) (nn * o) (nn * o) 1 fun x => .int .i64 ((t x : Nat) : Int))
              refine hL15 _ _ _ _ _ _ _ _ _ _ _ ?_
              rw [ec1]
              by_cases hlt : c + 1 < n
              case neg =>
                refine iF (by simp; omega) (k9 _ _ _ _ _ _ _ ?_)
                intro J10 k10 L11 hL11
                -- all is looked at
                have outer : ∀ (r a : Nat) (hz : Heap), a + r = o → Upd NoB hy hz → L11 [.int .i64 (o : Int), .pointer (some ⟨mb, 0, none⟩), .int .i64 (nn : Int), .slice (some ⟨hx.size, 0, none⟩) (nn * o) (nn * o), .int .i64 (a : Int)] hz := by
                  intro r
                  induction r with
                  | zero =>
                    intro a hz ha uz
                    exact hL11 _ _ _ _ _ _ _ _ (iF (by simp; omega) (k10 _ ⟨rfl, (I2.quiet uz).u⟩))
                  | succ r iho =>
                    intro a hz ha uz
                    have hao : a < o := by omega
                    have ea1 : IntKind.wrap .i64 ((a : Int) + 1) = ((a + 1 : Nat) : Int) := by rw [IntKind.wrap_i64]; omega
                    refine hL11 _ _ _ _ _ _ _ _ (iT (by simp; omega) ?_)
                    intro J12 k12 L13 hL13
                    have inner : ∀ (r q : Nat) (hv : Heap), q + r = nn → Upd NoB hy hv → L13 [.int .i64 (o : Int), .pointer (some ⟨mb, 0, none⟩), .int .i64 (nn : Int), .slice (some ⟨hx.size, 0, none⟩) (nn * o) (nn * o), .int .i64 (a : Int), .int .i64 (q : Int)] hv := by
                      intro r
                      induction r with
                      | zero =>
                        intro q hv hq uv
                        refine hL13 _ _ _ _ _ _ _ _ _ (iF (by simp; omega) (k12 _ _ _ _ _ _ _ _ ?_))
                        rw [ea1]
                        exact iho (a + 1) hv (by omega) uv
                      | succ r ihi =>
                        intro q hv hq uv
                        have hqn : q < nn := by omega
                        have I3 := I2.quiet uv
                        obtain ⟨b, eb, hcell⟩ := sl_cell (I3.at 0 (R := slR (some ⟨hx.size, 0, none⟩) (nn * o) (nn * o) 1 fun x => .int .i64 ((t x : Nat) : Int))) (i := a * nn + q / 2 ^ (a + 1)) (by rw [Nat.mul_one]; exact hat _ _ hao (hdv a q hqn))
                        simp at eb; subst eb
                        have hlt' := hat _ _ hao (hdv a q hqn)
                        have eq1 : IntKind.wrap .i64 ((q : Int) + 1) = ((q + 1 : Nat) : Int) := by rw [IntKind.wrap_i64]; omega
                        refine hL13 _ _ _ _ _ _ _ _ _ (iT (by simp; omega) ⟨ew1 a hao, ?_⟩)
                        rw [eat a q hao hqn, eq1]
                        simp only [jor, jand, cellAt_new, add_mk, List.getElem?_toArray, Nat.zero_add, List.getElem?_cons_zero, List.getElem?_cons_succ, Option.some.injEq, Value.int.injEq, Value.bool.injEq, Value.pointer.injEq, Value.slice.injEq, true_and, and_true, exists_eq_left', exists_eq', and_assoc, exists_and_left, Int.toNat_natCast, Nat.mul_one, hcell]
                        refine ⟨Int.natCast_nonneg _, by exact_mod_cast hlt', by decide, pm_Pair_ok V.1 (I3.at 1) (fun a' m ha' hao' hm hmn h140 u140 => ⟨_, rfl, ?_, ?_⟩) fun hn => ?_⟩
                        · exact cellAt_upd hcell u140 id
                        · have e3 : a = a' := by omega
                          have e4 : q = m := by omega
                          subst e3 e4
                          rw [V.2.2.2.2 a q hao hqn]
                          have et : (Int.tmod ((t (a * nn + q / 2 ^ (a + 1)) : Nat) : Int) 2 == (1 : Int)) = (t (a * nn + q / 2 ^ (a + 1)) % 2 == 1) := by
                            rw [Int.tmod_eq_emod_of_nonneg (by omega), Bool.eq_iff_iff]; simp only [beq_iff_eq]; omega
                          rw [et]
                          refine iF (by simp) (ihi (q + 1) h140 (by omega) (uv.nx u140 fun _ e _ => e))
                        · exfalso; apply hn
                          rw [V.2.1, V.2.2.1]; omega
                    exact inner nn 0 hz (by omega) uz
                exact outer o 0 hy (by omega) (Upd.refl _ _)
              -- one flip
              have hrow' := (hrow.upd I2.u fun _ _ => id)
              obtain ⟨fb, fo, ef, hf0⟩ : ∃ b o', p = some ⟨b, o', none⟩ ∧ ∀ i, i < cp → cellAt hy ⟨b, o' + i, none⟩ = some (.int .i64 (fl i)) := by
                rcases hrow' with e | ⟨b, o', e, H⟩
                · omega
                · exact ⟨b, o', e, H⟩
              refine iT (by simp; omega) ?_
              rw [ef]
              have hfa := hf0 c (by omega)
              have hfb := hf0 (c + 1) (by omega)
              simp only [jor, jand, cellAt_new, add_mk, List.getElem?_toArray, Nat.zero_add, List.getElem?_cons_zero, List.getElem?_cons_succ, Option.some.injEq, Value.int.injEq, Value.bool.injEq, Value.pointer.injEq, Value.slice.injEq, true_and, and_true, exists_eq_left', exists_eq', and_assoc, exists_and_left, Int.toNat_natCast, Nat.mul_one, hfa, hfb]
              refine ⟨by omega, by omega, by omega, by omega, by omega, by omega, ?_⟩
              have hja := tmod_abs (fl c) ho1
              have hqa := tmod_abs (fl (c + 1)) hn0
              obtain ⟨vj1, vj2⟩ := abs_val hja (by omega)
              obtain ⟨vq1, vq2⟩ := abs_val hqa (by omega)
              generalize hJ : (Int.tmod (fl c) (o : Int)).natAbs = j at *
              generalize hQ : (Int.tmod (fl (c + 1)) (nn : Int)).natAbs = q at *
              intro J16 k16
              have go : J16 [.slice p n cp, .int .i64 (o : Int), .pointer (some ⟨mb, 0, none⟩), .int .i64 (nn : Int), .slice (some ⟨hx.size, 0, none⟩) (nn * o) (nn * o), .int .i64 (c : Int), .int .i64 (j : Int), .int .i64 (Int.tmod (fl (c + 1)) (nn : Int))] hy := by
                refine k16 _ _ _ _ _ _ _ _ _ _ _ _ _ ?_
                intro J17 k17
                have go17 : J17 [.slice p n cp, .int .i64 (o : Int), .pointer (some ⟨mb, 0, none⟩), .int .i64 (nn : Int), .slice (some ⟨hx.size, 0, none⟩) (nn * o) (nn * o), .int .i64 (c : Int), .int .i64 (j : Int), .int .i64 (q : Int)] hy := by
                  refine k17 _ _ _ _ _ _ _ _ _ _ _ _ _ ⟨ew1 j hja, ?_⟩
                  rw [eat j q hja hqa]
                  have hlt' := hat _ _ hja (hdv j q hqa)
                  generalize hAT : j * nn + q / 2 ^ (j + 1) = at' at *
                  obtain ⟨b, eb, hcell⟩ := sl_cell hT (i := at') (by omega)
                  simp at eb; subst eb
                  simp only [jor, jand, cellAt_new, add_mk, List.getElem?_toArray, Nat.zero_add, List.getElem?_cons_zero, List.getElem?_cons_succ, Option.some.injEq, Value.int.injEq, Value.bool.injEq, Value.pointer.injEq, Value.slice.injEq, true_and, and_true, exists_eq_left', exists_eq', and_assoc, exists_and_left, Int.toNat_natCast, Nat.mul_one, hcell]
                  have htc := V.2.2.2.1 at'
                  have et1 : IntKind.wrap .i64 ((t at' : Int) + 1) = ((t at' + 1 : Nat) : Int) := by rw [IntKind.wrap_i64]; omega
                  obtain ⟨b2, eb2, hw2, S2⟩ := sl_set hT (o := at') (by omega) (.int .i64 ((t at' + 1 : Nat) : Int))
                  simp at eb2; subst eb2
                  rw [et1]
                  refine ⟨by omega, by omega, by omega, by omega, hw2, ?_⟩
                  let t' : Nat → Nat := fun x => if x = at' then t at' + 1 else t x
                  have I3 := (I2.step 0 S2).as 0 (R := slR (some ⟨hx.size, 0, none⟩) (nn * o) (nn * o) 1 fun i => if i = at' then .int .i64 ((t at' + 1 : Nat) : Int) else .int .i64 ((t i : Nat) : Int)) (R' := slR (some ⟨hx.size, 0, none⟩) (nn * o) (nn * o) 1 fun x => .int .i64 ((t' x : Nat) : Int)) (fun P => sl_congr P fun i hi => by
                    simp only [t']; by_cases h1 : i = at' <;> simp [h1]) fun _ e => e
                  refine pm_Flip_ok V.1 (I3.at 1) (fun a m ha hao hm hmn h112 S112 => ⟨_, _, rfl, ?_⟩) fun hn => ?_
                  · have e3 : j = a := by omega
                    have e4 : q = m := by omega
                    subst e3 e4
                    have I4 := I3.step 1 S112
                    intro J20 k20
                    obtain ⟨b3, eb3, hcell3⟩ := sl_cell (I4.at 0 (R := slR (some ⟨hx.size, 0, none⟩) (nn * o) (nn * o) 1 fun x => .int .i64 ((t' x : Nat) : Int))) (i := at') (by omega)
                    simp at eb3; subst eb3
                    refine pF rfl ⟨by omega, by omega, _, hcell3, by decide, k20 _ _ ?_⟩
                    have hbt := V.2.2.2.2 j q hja hqa
                    rw [hAT] at hbt
                    have et' : t' at' = t at' + 1 := by simp only [t', if_true]
                    rw [et', hbt]
                    have ev : (Int.tmod ((t at' + 1 : Nat) : Int) 2 == (1 : Int)) = !(t at' % 2 == 1) := by
                      rw [Int.tmod_eq_emod_of_nonneg (by omega), Bool.eq_iff_iff]
                      simp only [beq_iff_eq, Bool.not_eq_true', beq_eq_false_iff_ne]
                      omega
                    rw [ev]
                    refine iF (by simp) ?_
                    have ec2 : IntKind.wrap .i64 ((c : Int) + 2) = ((c + 2 : Nat) : Int) := by rw [IntKind.wrap_i64]; omega
                    rw [ec2]
                    refine ih (r - 2) (by omega) (c + 2) h112 _ t' (by omega) (by omega) ⟨flip_ok (r := j) (i := q) V.1 ⟨by omega, by omega, by omega, by omega⟩, V.2.1, V.2.2.1, fun x => ?_, fun a q' ha hq' => ?_⟩ I4
                    · simp only [t']; split
                      · omega
                      · have := V.2.2.2.1 x; omega
                    · have := V.2.2.2.2 a q' ha hq'
                      show flipB s'.bt j (q / 2 ^ (j + 1)) a (q' / 2 ^ (a + 1)) = _
                      unfold flipB
                      by_cases h1 : a = j ∧ q' / 2 ^ (a + 1) = q / 2 ^ (j + 1)
                      · have h2 : a * nn + q' / 2 ^ (a + 1) = at' := by rw [h1.2, h1.1]; exact hAT
                        rw [if_pos h1, this, h2, et', Bool.eq_iff_iff]
                        simp only [Bool.not_eq_true', beq_eq_false_iff_ne, beq_iff_eq]
                        omega
                      · rw [if_neg h1, this]
                        have : ¬ (a * nn + q' / 2 ^ (a + 1) = at') := fun e => h1 (hinj _ _ _ _ (hdv a q' hq') (hdv j q hqa) (by rw [e, hAT]))
                        simp only [t', this, if_false]
                  · exfalso; apply hn
                    rw [V.2.1, V.2.2.1]; omega
                refine ⟨fun e => ?_, fun e => ?_⟩
                · rw [vq1 (by simpa using e)]; exact go17
                · have : Int.tmod (fl (c + 1)) (nn : Int) = (q : Int) := vq2 (by simpa using e)
                  rw [this]; exact go17
              rw [ef] at go
              refine ⟨fun e => ?_, fun e => ?_⟩
              · rw [vj1 (by simpa using e)]; exact go
              · have : Int.tmod (fl c) (o : Int) = (j : Int) := vj2 (by simpa using e)
                rw [this]; exact go
          exact flips n 0 _ s (fun _ => 0) (by omega) (by omega) ⟨sok, so, sn, fun _ => Nat.le_refl _, fun a q _ _ => by rw [sb]; rfl⟩ I1
      exact regs k 0 h38 (mNew o) w38 (by omega) G0 I0
    obtain ⟨v1, v2⟩ := abs_val (tmod_abs a1 (d := 4) (by decide)) (by decide)
    refine ⟨fun e => ?_, fun e => ?_⟩
    · have v1 : IntKind.wrap .i64 (0 - Int.tmod a1 4) = ((Int.tmod a1 4).natAbs : Int) := v1 (by simpa using e)
      rw [v1]; exact go3
    · have v2 : Int.tmod a1 4 = ((Int.tmod a1 4).natAbs : Int) := v2 (by simpa using e)
      rw [← v2] at go3; exact go3
  obtain ⟨v1, v2⟩ := abs_val (tmod_abs a0 (d := 5) (by decide)) (by decide)
  refine ⟨fun e => ?_, fun e => ?_⟩
  · have v1 : IntKind.wrap .i64 (0 - Int.tmod a0 5) = ((Int.tmod a0 5).natAbs : Int) := v1 (by simpa using e)
    rw [v1]; exact go2
  · have v2 : Int.tmod a0 5 = ((Int.tmod a0 5).natAbs : Int) := v2 (by simpa using e)
    rw [← v2] at go2; exact go2

end Go.Proofs.Ytnplkinakaepdaa
