/- croftref5: Feed, Pull. No condition. -/
import Derived.Test.YtnlcmfdmbgnpfaaGreatZA3
set_option linter.unusedSimpArgs false
set_option linter.unusedVariables false
namespace Go.Proofs.YtnlcmfdmbgnpfaaGreat
open Go.V Classical

section
variable {w₀ : World} {h h0 hx : Heap} {K : Value → Heap → Prop} {Y : RW5} {O P : Nat} {fl : Nat → List Nat} {L : List PBk}

theorem ref5_Feed_ok (hO : O ≤ 8) (hP : P ≤ 1024) (h2 : P ≠ 0 → 2 ^ O ≤ P) (f : ∀ k, k ≤ O → (fl k).length ≤ 2000) (hL : L.length ≤ 1000000) (al : ∀ b ∈ L, b.1 ≤ 2000 ∧ b.2 ≤ O ∧ b.1 % 2 ^ b.2 = 0) (H : (rfR Y O fl L).P h)
    (hb : ¬ (P ≠ 0 ∧ (P - 2 ^ O, O) ∈ L) → ∀ h', Upd NoB h h' → K (.tuple #[pv Y O P L, .int .i64 9]) h')
    (hg : P ≠ 0 → (P - 2 ^ O, O) ∈ L → ∀ h' Y', Stp h h' (rfR Y O fl L) (rfR Y' O (fset fl O ((P - 2 ^ O) :: fl O)) (L.filter (·.1 ≠ P - 2 ^ O))) → K (.tuple #[pv Y' O P (L.filter (·.1 ≠ P - 2 ^ O)), .int .i64 0]) h') :
    CallV Tryz.prog w₀ F.croftref5_Feed [pv Y O P L] h K := by
  refine croftref5_Feed.call ?_
  unfold croftref5_Feed.vc
  have N5 := box4 h (.int .i64 (O : Int)) (.int .i64 (P : Int)) (.slice Y.fp (O + 1) Y.fc) (.slice Y.vp L.length Y.vc) T.T_croftref5_Buddy
  generalize Array.push h (.cells #[.int .i64 (O : Int), .int .i64 (P : Int), .slice Y.fp (O + 1) Y.fc, .slice Y.vp L.length Y.vc] T.T_croftref5_Buddy) = h5 at N5 ⊢
  have N6 := box4 h5 (.int .i64 0) (.int .i64 0) (.slice none 0 0) (.slice none 0 0) T.T_croftref5_Buddy
  generalize Array.push h5 (.cells #[.int .i64 0, .int .i64 0, .slice none 0 0, .slice none 0 0] T.T_croftref5_Buddy) = h6 at N6 ⊢
  obtain ⟨b0, eb0⟩ : ∃ b0, b0 = h.size := ⟨_, rfl⟩
  obtain ⟨b1, eb1⟩ : ∃ b1, b1 = h5.size := ⟨_, rfl⟩
  rw [← eb0] at N5 ⊢
  rw [← eb1] at N6 ⊢
  have I0 : Go.V.Own h h6 (rfR Y O fl L) [blkR b1 4 z4, blkR b0 4 (f4 (.int .i64 (O : Int)) (.int .i64 (P : Int)) (.slice Y.fp (O + 1) Y.fc) (.slice Y.vp L.length Y.vc)), rfR Y O fl L] := ((Go.V.Own.of H).new N5).new N6
  have u6 : Upd NoB h h6 := N5.u.nx N6.u fun _ e _ => e
  obtain ⟨k0, k1, k2, k3⟩ := f4_cells (I0.at 1)
  refine ⟨_, k0, _, k1, _, _, _, k2, _, _, _, k3, ref5_Top_ok hO hP fun h7 u7 => ⟨_, rfl, fun J4 hJ4 => ?_⟩⟩
  have I7 := I0.quiet u7
  have u67 : Upd NoB h h7 := u6.nx u7 fun _ e _ => e
  have no : ∀ hx, Upd NoB h hx → Go.V.Own h hx (rfR Y O fl L) [blkR b1 4 z4, blkR b0 4 (f4 (.int .i64 (O : Int)) (.int .i64 (P : Int)) (.slice Y.fp (O + 1) Y.fc) (.slice Y.vp L.length Y.vc)), rfR Y O fl L] → ¬ (P ≠ 0 ∧ (P - 2 ^ O, O) ∈ L) → J4 true hx := by
    intro hx ux I hn
    obtain ⟨k0, k1, k2, k3⟩ := f4_cells (I.at 1)
    obtain ⟨w4, S4⟩ := assign4 (I.at 0) (.int .i64 (O : Int)) (.int .i64 (P : Int)) (.slice Y.fp (O + 1) Y.fc) (.slice Y.vp L.length Y.vc)
    refine hJ4 _ _ ⟨fun _ => ⟨_, k0, _, k1, _, _, _, k2, _, _, _, k3, w4, ?_⟩, fun e => by cases e⟩
    have I8 := I.step 0 S4
    have S5 : Upd NoB h _ := ux.nx S4.u fun b e hb => by
      have e : b = b1 := e
      have := N5.u.1
      omega
    generalize setCs hx ⟨b1, 0, none⟩ 0 [.int .i64 (O : Int), .int .i64 (P : Int), .slice Y.fp (O + 1) Y.fc, .slice Y.vp L.length Y.vc] = h9 at I8 S5 ⊢
    obtain ⟨q0, q1, q2, q3⟩ := f4_cells (I8.at 0)
    exact ⟨_, q0, _, q1, _, _, _, q2, _, _, _, q3, hb hn h9 S5⟩
  by_cases hP0 : P = 0
  · rw [if_pos hP0]
    exact pT rfl (no h7 u67 I7 fun hn => hn.1 hP0)
  rw [if_neg hP0]
  have h2P := h2 hP0
  have et : (P : Int) - ((2 ^ O : Nat) : Int) = ((P - 2 ^ O : Nat) : Int) := by omega
  obtain ⟨k0, k1, k2, k3⟩ := f4_cells (I7.at 1)
  refine pF (decide_eq_false (by omega)) ⟨_, k0, _, k1, _, _, _, k2, _, _, _, k3, _, k0, _, k1, _, _, _, k2, _, _, _, k3, _, k0, ref5_Top_ok hO hP fun h8 u8 => ⟨_, rfl, ?_⟩⟩
  rw [if_neg hP0, et]
  have I8 := I7.quiet u8
  have u8' : Upd NoB h h8 := u67.nx u8 fun _ e _ => e
  obtain ⟨k0, k1, k2, k3⟩ := f4_cells (I8.at 1)
  have HR : (rfR Y O fl L).P h8 := I8.at 2
  refine ⟨k0, k0, k1, k2, k3, isLive5_ok hL HR.2.1 fun h9 u9 => ⟨_, rfl, ?_⟩⟩
  have I9 := I8.quiet u9
  have u9' : Upd NoB h h9 := u8'.nx u9 fun _ e _ => e
  by_cases hin : (P - 2 ^ O, O) ∈ L
  case neg =>
    rw [decide_eq_false fun hm => hin (mem_prL.1 hm)]
    exact no h9 u9' I9 fun hn => hin hn.2
  rw [decide_eq_true (mem_prL.2 hin)]
  obtain ⟨k0, k1, k2, k3⟩ := f4_cells (I9.at 1)
  refine hJ4 _ _ ⟨fun e => (by cases e), fun _ => ⟨_, k0, _, k1, _, _, _, k2, _, _, _, k3, _, k0, _, k1, _, _, _, k2, _, _, _, k3, _, k0, ref5_Top_ok hO hP fun h10 u10 => ⟨_, rfl, ?_⟩⟩⟩
  rw [if_neg hP0, et]
  have I10 := I9.quiet u10
  obtain ⟨k0, k1, k2, k3⟩ := f4_cells (I10.at 1)
  refine ⟨k0, k0, k1, k2, k3, ref5_Give_ok hO f hL al (I10.at 2) (fun hn => absurd (mem_prL.2 hin) hn) fun p on ep eo hpo h11 Y' S => ⟨_, _, _, _, _, _, _, _, _, rfl, ?_⟩⟩
  obtain rfl : P - 2 ^ O = p := by omega
  obtain rfl : O = on := by omega
  rw [Nat.sub_self] at S
  have I11 := I10.step 2 S
  obtain ⟨w4, S4⟩ := assign4 (I11.at 0) (.int .i64 (O : Int)) (.int .i64 (P : Int)) (.slice Y'.fp (O + 1) Y'.fc) (.slice Y'.vp (L.filter (·.1 ≠ P - 2 ^ O)).length Y'.vc)
  have I12 := I11.step 0 S4
  refine ⟨w4, ?_⟩
  generalize setCs h11 ⟨b1, 0, none⟩ 0 [.int .i64 (O : Int), .int .i64 (P : Int), .slice Y'.fp (O + 1) Y'.fc, .slice Y'.vp (L.filter (·.1 ≠ P - 2 ^ O)).length Y'.vc] = h12 at I12 ⊢
  obtain ⟨q0, q1, q2, q3⟩ := f4_cells (I12.at 0)
  exact ⟨_, q0, _, q1, _, _, _, q2, _, _, _, q3, hg hP0 hin h12 Y' (I12.one 2)⟩
end
end Go.Proofs.YtnlcmfdmbgnpfaaGreat
