/- croftref5: Shrink. No condition. -/
import Derived.Test.YtnlcmfdmbgnpfaaGreatZA5
set_option linter.unusedSimpArgs false
set_option linter.unusedVariables false
namespace Go.Proofs.YtnlcmfdmbgnpfaaGreat
open Go.V Classical

section
variable {w₀ : World} {h h0 hx : Heap} {K : Value → Heap → Prop} {Y : RW5} {O P : Nat} {fl : Nat → List Nat} {L : List PBk}

theorem ref5_Shrink_ok {pz fz tz : Int} (hO : O ≤ 8) (f : ∀ k, k ≤ O → (fl k).length ≤ 2000) (hL : L.length ≤ 100000) (al : ∀ b ∈ L, b.1 ≤ 2000 ∧ b.2 ≤ O ∧ b.1 % 2 ^ b.2 = 0) (H : (rfR Y O fl L).P h)
    (hb : (tz < 0 ∨ tz > fz ∨ (pz, fz) ∉ prL L) → ∀ h', Upd NoB h h' → K (.tuple #[pv Y O P L, .int .i64 1]) h')
    (hg : ∀ p a b : Nat, pz = p → fz = a → tz = b → b ≤ a → (p, a) ∈ L → ∀ h' Y', Stp h h' (rfR Y O fl L) (rfR Y' O (aCut p b fl (a - b)) (L.filter (·.1 ≠ p) ++ [(p, b)])) → K (.tuple #[pv Y' O P (L.filter (·.1 ≠ p) ++ [(p, b)]), .int .i64 0]) h') :
    CallV Tryz.prog w₀ F.croftref5_Shrink [pv Y O P L, .int .i64 pz, .int .i64 fz, .int .i64 tz] h K := by
  refine croftref5_Shrink.call ?_
  unfold croftref5_Shrink.vc
  have N5 := box4 h (.int .i64 (O : Int)) (.int .i64 (P : Int)) (.slice Y.fp (O + 1) Y.fc) (.slice Y.vp L.length Y.vc) T.T_croftref5_Buddy
  generalize Array.push h (.cells #[.int .i64 (O : Int), .int .i64 (P : Int), .slice Y.fp (O + 1) Y.fc, .slice Y.vp L.length Y.vc] T.T_croftref5_Buddy) = h5 at N5 ⊢
  have N6 := box4 h5 (.int .i64 0) (.int .i64 0) (.slice none 0 0) (.slice none 0 0) T.T_croftref5_Buddy
  generalize Array.push h5 (.cells #[.int .i64 0, .int .i64 0, .slice none 0 0, .slice none 0 0] T.T_croftref5_Buddy) = h6 at N6 ⊢
  obtain ⟨b0, eb0⟩ : ∃ b0, b0 = h.size := ⟨_, rfl⟩
  obtain ⟨b1, eb1⟩ : ∃ b1, b1 = h5.size := ⟨_, rfl⟩
  rw [← eb0] at N5 ⊢
  rw [← eb1] at N6 ⊢
  have I0 : Go.V.Own h h6 (rfR Y O fl L) [blkR b1 4 z4, blkR b0 4 (f4 (.int .i64 (O : Int)) (.int .i64 (P : Int)) (.slice Y.fp (O + 1) Y.fc) (.slice Y.vp L.length Y.vc)), frR Y O fl, liR Y L] := ((Go.V.Own.of H).split.new N5).new N6
  have u6 : Upd NoB h h6 := N5.u.nx N6.u fun _ e _ => e
  intro J3 hJ3
  have step : ∀ J4 : Bool → Heap → Prop, (∀ (b23 : Bool) (h23 : Heap), J4 b23 h23 → J4 b23 h23) → True := fun _ _ => trivial
  have dec : (0 ≤ tz ∧ tz ≤ fz) ∨ (tz < 0 ∨ tz > fz) := by omega
  -- where the answer is told
  have no : ∀ (hx : Heap), Upd NoB h hx → Go.V.Own h hx (rfR Y O fl L) [blkR b1 4 z4, blkR b0 4 (f4 (.int .i64 (O : Int)) (.int .i64 (P : Int)) (.slice Y.fp (O + 1) Y.fc) (.slice Y.vp L.length Y.vc)), frR Y O fl, liR Y L] → (tz < 0 ∨ tz > fz ∨ (pz, fz) ∉ prL L) →
      ∃ n0 : Int, cellAt hx (⟨b0, 0, none⟩ : Addr) = some (.int .i64 n0) ∧ ∃ n1 : Int, cellAt hx ((⟨b0, 0, none⟩ : Addr).add 1) = some (.int .i64 n1) ∧ ∃ n2p : Option Addr, ∃ n2n : Nat, ∃ n2c : Nat, cellAt hx ((⟨b0, 0, none⟩ : Addr).add 2) = some (.slice n2p n2n n2c) ∧ ∃ n3p : Option Addr, ∃ n3n : Nat, ∃ n3c : Nat, cellAt hx ((⟨b0, 0, none⟩ : Addr).add 3) = some (.slice n3p n3n n3c) ∧
        (WrN hx (⟨b1, 0, none⟩ : Addr) 4 ∧ ∃ z0 : Int, cellAt (setCs hx (⟨b1, 0, none⟩ : Addr) 0 [.int .i64 n0, .int .i64 n1, .slice n2p n2n n2c, .slice n3p n3n n3c]) (⟨b1, 0, none⟩ : Addr) = some (.int .i64 z0) ∧ ∃ z1 : Int, cellAt (setCs hx (⟨b1, 0, none⟩ : Addr) 0 [.int .i64 n0, .int .i64 n1, .slice n2p n2n n2c, .slice n3p n3n n3c]) ((⟨b1, 0, none⟩ : Addr).add 1) = some (.int .i64 z1) ∧
          ∃ z2p : Option Addr, ∃ z2n : Nat, ∃ z2c : Nat, cellAt (setCs hx (⟨b1, 0, none⟩ : Addr) 0 [.int .i64 n0, .int .i64 n1, .slice n2p n2n n2c, .slice n3p n3n n3c]) ((⟨b1, 0, none⟩ : Addr).add 2) = some (.slice z2p z2n z2c) ∧ ∃ z3p : Option Addr, ∃ z3n : Nat, ∃ z3c : Nat, cellAt (setCs hx (⟨b1, 0, none⟩ : Addr) 0 [.int .i64 n0, .int .i64 n1, .slice n2p n2n n2c, .slice n3p n3n n3c]) ((⟨b1, 0, none⟩ : Addr).add 3) = some (.slice z3p z3n z3c) ∧
            K (.tuple #[.agg #[.int .i64 z0, .int .i64 z1, .slice z2p z2n z2c, .slice z3p z3n z3c], .int .i64 1]) (setCs hx (⟨b1, 0, none⟩ : Addr) 0 [.int .i64 n0, .int .i64 n1, .slice n2p n2n n2c, .slice n3p n3n n3c])) := by
    intro hx ux I hn
    obtain ⟨k0, k1, k2, k3⟩ := f4_cells (I.at 1)
    obtain ⟨w4, S4⟩ := assign4 (I.at 0) (.int .i64 (O : Int)) (.int .i64 (P : Int)) (.slice Y.fp (O + 1) Y.fc) (.slice Y.vp L.length Y.vc)
    refine ⟨_, k0, _, k1, _, _, _, k2, _, _, _, k3, w4, ?_⟩
    have I8 := I.step 0 S4
    have S5 : Upd NoB h _ := ux.nx S4.u fun b e hb => by
      have e : b = b1 := e
      have := N5.u.1
      omega
    generalize setCs hx ⟨b1, 0, none⟩ 0 [.int .i64 (O : Int), .int .i64 (P : Int), .slice Y.fp (O + 1) Y.fc, .slice Y.vp L.length Y.vc] = h9 at I8 S5 ⊢
    obtain ⟨q0, q1, q2, q3⟩ := f4_cells (I8.at 0)
    exact ⟨_, q0, _, q1, _, _, _, q2, _, _, _, q3, hb hn h9 S5⟩
  have J3t : (tz < 0 ∨ tz > fz) → J3 true h6 := fun hz => hJ3 _ _ fun J4 hJ4 => pT rfl (hJ4 _ _ ⟨fun _ => no h6 u6 I0 (hz.imp id .inl), fun e => by cases e⟩)
  by_cases hn : tz < 0
  · exact pT (decide_eq_true hn) (J3t (.inl hn))
  refine pF (decide_eq_false hn) ?_
  by_cases hz : tz > fz
  · rw [decide_eq_true hz]; exact J3t (.inr hz)
  rw [decide_eq_false hz]
  obtain ⟨k0, k1, k2, k3⟩ := f4_cells (I0.at 1)
  refine hJ3 _ _ fun J4 hJ4 => pF rfl ⟨_, k0, _, k1, _, _, _, k2, _, _, _, k3, isLive5_ok (by omega) (I0.at 3) fun h7 u7 => ⟨_, rfl, ?_⟩⟩
  have I7 := I0.quiet u7
  have u67 : Upd NoB h h7 := u6.nx u7 fun _ e _ => e
  by_cases hin : (pz, fz) ∈ prL L
  case neg =>
    rw [decide_eq_false hin]
    exact hJ4 _ _ ⟨fun _ => no h7 u67 I7 (.inr (.inr hin)), fun e => by cases e⟩
  rw [decide_eq_true hin]
  obtain ⟨⟨p, a⟩, hpo, epo⟩ := List.mem_map.1 hin
  have ep : (p : Int) = pz := congrArg Prod.fst epo
  have eo : (a : Int) = fz := congrArg Prod.snd epo
  subst ep eo
  obtain ⟨b, rfl⟩ : ∃ b : Nat, tz = b := ⟨tz.toNat, by omega⟩
  obtain ⟨hp1, ho1, hal⟩ := al _ hpo
  simp only [] at hp1 ho1 hal
  obtain ⟨k0, k1, k2, k3⟩ := f4_cells (I7.at 1)
  refine hJ4 _ _ ⟨fun e => (by cases e), fun _ => ⟨_, k0, _, k1, _, _, _, k2, _, _, _, k3, dies5_ok (by omega) (I7.at 3) fun h8 vp' vc' N8 => ⟨_, _, _, _, _, _, _, _, rfl, ?_⟩⟩⟩
  have I8 := I7.new N8
  have hll : (L.filter (·.1 ≠ p)).length ≤ L.length := List.length_filter_le _ _
  have hgp := hg p a b rfl rfl rfl (by omega) hpo
  generalize L.filter (·.1 ≠ p) = L' at I8 hll hgp ⊢
  have I9 : Go.V.Own h h8 (rfR Y O fl L) [rfR { Y with vp := vp', vc := vc' } O fl L', blkR b1 4 z4] := by
    have I9 := I8.sub (rs' := [slR vp' L'.length vc' 2 (runV (prL L')), blkR b1 4 z4, frR Y O fl]) (.cons_cons _ (.cons_cons _ (.cons _ (.cons_cons _ (.cons _ .slnil)))))
    exact (I9.perm (rs' := [frR Y O fl, slR vp' L'.length vc' 2 (runV (prL L')), blkR b1 4 z4]) (List.perm_append_comm (l₁ := [frR Y O fl]) (l₂ := [slR vp' L'.length vc' 2 (runV (prL L')), blkR b1 4 z4]))).join
  refine ref5_cut_ok (Y := { Y with vp := vp', vc := vc' }) (fl := fl) (L := L') hO ho1 (by omega) (by omega) (fun j hj => by have := f j hj; omega) (by omega) (I9.at 0) fun h10 Y2 S2 => ⟨_, _, _, _, _, _, _, _, rfl, ?_⟩
  have I10 := I9.step 0 S2
  obtain ⟨w4, S4⟩ := assign4 (I10.at 1) (.int .i64 (O : Int)) (.int .i64 (P : Int)) (.slice Y2.fp (O + 1) Y2.fc) (.slice Y2.vp (L' ++ [(p, b)]).length Y2.vc)
  have I11 := I10.step 1 S4
  refine ⟨w4, ?_⟩
  generalize setCs h10 ⟨b1, 0, none⟩ 0 [.int .i64 (O : Int), .int .i64 (P : Int), .slice Y2.fp (O + 1) Y2.fc, .slice Y2.vp (L' ++ [(p, b)]).length Y2.vc] = h11 at I11 ⊢
  obtain ⟨q0, q1, q2, q3⟩ := f4_cells (I11.at 1)
  exact ⟨_, q0, _, q1, _, _, _, q2, _, _, _, q3, hgp h11 Y2 (I11.one 0)⟩
end
end Go.Proofs.YtnlcmfdmbgnpfaaGreat
