/- croftref5: Pull, Come, Go. No condition. -/
import Derived.Test.YtnlcmfdmbgnpfaaGreatZA4
set_option linter.unusedSimpArgs false
set_option linter.unusedVariables false
namespace Go.Proofs.YtnlcmfdmbgnpfaaGreat
open Go.V Classical

section
variable {w₀ : World} {h h0 hx : Heap} {K : Value → Heap → Prop} {Y : RW5} {O P : Nat} {fl : Nat → List Nat} {L : List PBk}

theorem ref5_Pull_ok (hO : O ≤ 8) (hP : P ≤ 1024) (h2 : P ≠ 0 → 2 ^ O ≤ P) (f : ∀ k, k ≤ O → (fl k).length ≤ 2000) (hL : L.length ≤ 1000000) (H : (rfR Y O fl L).P h)
    (hb : ¬ (P ≠ 0 ∧ P - 2 ^ O ∈ fl O) → ∀ h', Upd NoB h h' → K (.tuple #[pv Y O P L, .int .i64 9]) h')
    (hg : P ≠ 0 → P - 2 ^ O ∈ fl O → ∀ h' Y', Stp h h' (rfR Y O fl L) (rfR Y' O (fset fl O ((fl O).filter (· ≠ P - 2 ^ O))) (L ++ [(P - 2 ^ O, O)])) → K (.tuple #[pv Y' O P (L ++ [(P - 2 ^ O, O)]), .int .i64 0]) h') :
    CallV Tryz.prog w₀ F.croftref5_Pull [pv Y O P L] h K := by
  refine croftref5_Pull.call ?_
  unfold croftref5_Pull.vc
  have N5 := box4 h (.int .i64 (O : Int)) (.int .i64 (P : Int)) (.slice Y.fp (O + 1) Y.fc) (.slice Y.vp L.length Y.vc) T.T_croftref5_Buddy
  generalize Array.push h (.cells #[.int .i64 (O : Int), .int .i64 (P : Int), .slice Y.fp (O + 1) Y.fc, .slice Y.vp L.length Y.vc] T.T_croftref5_Buddy) = h5 at N5 ⊢
  have N6 := box4 h5 (.int .i64 0) (.int .i64 0) (.slice none 0 0) (.slice none 0 0) T.T_croftref5_Buddy
  generalize Array.push h5 (.cells #[.int .i64 0, .int .i64 0, .slice none 0 0, .slice none 0 0] T.T_croftref5_Buddy) = h6 at N6 ⊢
  obtain ⟨b0, eb0⟩ : ∃ b0, b0 = h.size := ⟨_, rfl⟩
  obtain ⟨b1, eb1⟩ : ∃ b1, b1 = h5.size := ⟨_, rfl⟩
  rw [← eb0] at N5 ⊢
  rw [← eb1] at N6 ⊢
  have I0 : Go.V.Own h h6 (rfR Y O fl L) [blkR b1 4 z4, blkR b0 4 (f4 (.int .i64 (O : Int)) (.int .i64 (P : Int)) (.slice Y.fp (O + 1) Y.fc) (.slice Y.vp L.length Y.vc)), frR Y O fl, liR Y L] := ((Go.V.Own.of H).split.new N5).new N6
  have u6 : Upd NoB h h6 := N5.u.nx N6.u fun _ e _ => e
  obtain ⟨k0, k1, k2, k3⟩ := f4_cells (I0.at 1)
  refine ⟨_, k0, _, k1, _, _, _, k2, _, _, _, k3, ref5_Top_ok hO hP fun h7 u7 => ⟨_, rfl, fun J4 hJ4 => ?_⟩⟩
  have I7 := I0.quiet u7
  have u67 : Upd NoB h h7 := u6.nx u7 fun _ e _ => e
  have no : ∀ hx, Upd NoB h hx → Go.V.Own h hx (rfR Y O fl L) [blkR b1 4 z4, blkR b0 4 (f4 (.int .i64 (O : Int)) (.int .i64 (P : Int)) (.slice Y.fp (O + 1) Y.fc) (.slice Y.vp L.length Y.vc)), frR Y O fl, liR Y L] → ¬ (P ≠ 0 ∧ P - 2 ^ O ∈ fl O) → J4 true hx := by
    intro hx ux I hn
    obtain ⟨k0, k1, k2, k3⟩ := f4_cells (I.at 1)
    obtain ⟨w4, S4⟩ := assign4 (I.at 0) (.int .i64 (O : Int)) (.int .i64 (P : Int)) (.slice Y.fp (O + 1) Y.fc) (.slice Y.vp L.length Y.vc)
    refine hJ4 _ _ ⟨fun _ => ⟨_, k0, _, k1, _, _, _, k2, _, _, _, k3, w4, ?_⟩, fun e => by cases e⟩
    have I8 := I.step 0 S4
    have S5 : Upd NoB h _ := ux.nx S4.u fun b e hb => by
      have e : b = b1 := e
      have := N5.u.1
      omega
    generalize setCs hx ⟨b1, 0, none⟩ 0 [.int .i64 (O : Int), .int .i64 (P : Int), .slice Y.fp (O + 1) Y.fc, .slice Y.vp L.length Y.vc] = h9 at I8 S5 ⊢
    obtain ⟨q0, q1, q2, q3⟩ := f4_cells (I8.at 0)
    exact ⟨_, q0, _, q1, _, _, _, q2, _, _, _, q3, hb hn h9 S5⟩
  by_cases hP0 : P = 0
  · rw [if_pos hP0]
    exact pT rfl (no h7 u67 I7 fun hn => hn.1 hP0)
  rw [if_neg hP0]
  have h2P := h2 hP0
  have et : (P : Int) - ((2 ^ O : Nat) : Int) = ((P - 2 ^ O : Nat) : Int) := by omega
  obtain ⟨k0, k1, k2, k3⟩ := f4_cells (I7.at 1)
  refine pF (decide_eq_false (by omega)) ⟨_, k0, _, k1, _, _, _, k2, _, _, _, k3, _, k0, _, k0, _, k1, _, _, _, k2, _, _, _, k3, ref5_Top_ok hO hP fun h8 u8 => ⟨_, rfl, ?_⟩⟩
  rw [if_neg hP0, et]
  have I8 := I7.quiet u8
  have u8' : Upd NoB h h8 := u67.nx u8 fun _ e _ => e
  obtain ⟨k0, k1, k2, k3⟩ := f4_cells (I8.at 1)
  refine ⟨k0, k0, k1, k2, k3, ref5_Is_ok (Y := Y) (fl := fl) hO (Nat.le_refl _) (by have := f O (Nat.le_refl _); omega) (I8.at 2) fun h9 u9 => ⟨_, rfl, ?_⟩⟩
  have I9 := I8.quiet u9
  have u9' : Upd NoB h h9 := u8'.nx u9 fun _ e _ => e
  by_cases hin : P - 2 ^ O ∈ fl O
  case neg =>
    rw [decide_eq_false hin]
    exact no h9 u9' I9 fun hn => hin hn.2
  rw [decide_eq_true hin]
  obtain ⟨k0, k1, k2, k3⟩ := f4_cells (I9.at 1)
  refine hJ4 _ _ ⟨fun e => (by cases e), fun _ => ⟨_, k0, _, k1, _, _, _, k2, _, _, _, k3, _, k0, _, k0, _, k1, _, _, _, k2, _, _, _, k3, _, k0, _, k1, _, _, _, k2, _, _, _, k3, _, k0, ref5_Top_ok hO hP fun h10 u10 => ⟨_, rfl, ?_⟩⟩⟩
  rw [if_neg hP0, et]
  have I10 := I9.quiet u10
  obtain ⟨k0, k1, k2, k3⟩ := f4_cells (I10.at 1)
  refine ⟨k0, k0, k1, k2, k3, k0, k0, k1, k2, k3, ref5_leave_ok (Y := Y) (fl := fl) hO (Nat.le_refl _) (by have := f O (Nat.le_refl _); omega) (I10.at 2) fun h11 Y1 ev ec S => ⟨_, _, _, _, _, _, _, _, rfl, ?_⟩⟩
  have I11 := I10.step 2 S
  obtain ⟨k0, k1, k2, k3⟩ := f4_cells (I11.at 1)
  refine ⟨k0, k0, k1, k2, k3, ref5_Top_ok hO hP fun h12 u12 => ⟨_, rfl, ?_⟩⟩
  rw [if_neg hP0, et]
  have I12 := I11.quiet u12
  obtain ⟨k0, k1, k2, k3⟩ := f4_cells (I12.at 1)
  refine ⟨k0, lives5_ok hL (I12.at 3) fun h13 vp' vc' N13 => ⟨_, _, _, _, _, _, _, _, rfl, ?_⟩⟩
  have I13 := I12.new N13
  obtain ⟨w4, S4⟩ := assign4 (I13.at 1) (.int .i64 (O : Int)) (.int .i64 (P : Int)) (.slice Y1.fp (O + 1) Y1.fc) (.slice vp' (L ++ [(P - 2 ^ O, O)]).length vc')
  have I14 := I13.step 1 S4
  refine ⟨w4, ?_⟩
  generalize setCs h13 ⟨b1, 0, none⟩ 0 [.int .i64 (O : Int), .int .i64 (P : Int), .slice Y1.fp (O + 1) Y1.fc, .slice vp' (L ++ [(P - 2 ^ O, O)]).length vc'] = h14 at I14 ⊢
  obtain ⟨q0, q1, q2, q3⟩ := f4_cells (I14.at 1)
  exact ⟨_, q0, _, q1, _, _, _, q2, _, _, _, q3, hg hP0 hin h14 { Y1 with vp := vp', vc := vc' } (I14.two 3 0)⟩

theorem come5_ok (hO : O ≤ 8) (hP : P ≤ 1024) (hL : L.length ≤ 1000000) (H : (rfR Y O fl L).P h)
    (hK : ∀ h' Y', Stp h h' (rfR Y O fl L) (rfR Y' O fl (L ++ [(P, O)])) → K (pv Y' O (P + 2 ^ O) (L ++ [(P, O)])) h') :
    CallV Tryz.prog w₀ F.croftref5_Come [pv Y O P L] h K := by
  have key := ref5_Come_ok (w₀ := w₀) (on := O) (Pn := P) (fp := Y.fp) (fn := O + 1) (fc := Y.fc) (vp := Y.vp) (vc := Y.vc) (l := prL L) (K := K) hO hP (by rw [prL_len]; omega) (by rw [prL_len]; exact sl_row H.2.1) fun h' vp' vc' N => by
    rw [prL_len] at N ⊢
    have el : (L ++ [(P, O)]).length = L.length + 1 := by simp
    have N' : New h h' (slR vp' (L ++ [(P, O)]).length vc' 2 (runV (prL (L ++ [(P, O)])))) := by rw [el, prL_snoc]; exact N
    have I := ((Go.V.Own.of H).split.new N')
    have := hK h' { Y with vp := vp', vc := vc' } (I.two 1 0)
    unfold pv at this
    rw [el] at this
    exact this
  rw [prL_len] at key
  exact key

theorem go5_ok (hO : O ≤ 8) (hP : P ≤ 1024) (h2 : 2 ^ O ≤ P) (hL : L.length ≤ 1000000) (H : (rfR Y O fl L).P h)
    (hK : ∀ h' Y', Stp h h' (rfR Y O fl L) (rfR Y' O fl (L.filter (·.1 ≠ P - 2 ^ O))) → K (pv Y' O (P - 2 ^ O) (L.filter (·.1 ≠ P - 2 ^ O))) h') :
    CallV Tryz.prog w₀ F.croftref5_Go [pv Y O P L] h K := by
  have key := ref5_Go_ok (w₀ := w₀) (on := O) (Pn := P) (fp := Y.fp) (fn := O + 1) (fc := Y.fc) (vp := Y.vp) (vc := Y.vc) (l := prL L) (K := K) hO hP h2 (by rw [prL_len]; omega) (by rw [prL_len]; exact sl_row H.2.1) fun h' vp' vc' N => by
    rw [prL_filter, prL_len] at N ⊢
    have I := ((Go.V.Own.of H).split.new N)
    exact hK h' { Y with vp := vp', vc := vc' } (I.two 1 0)
  rw [prL_len] at key
  exact key
end
end Go.Proofs.YtnlcmfdmbgnpfaaGreat
