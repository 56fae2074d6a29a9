/- croftref5: Is, IsLive, enter, leave. No condition. -/
import Derived.Test.YtnlcmfdmbgnpfaaGreatZA0
set_option linter.unusedSimpArgs false
set_option linter.unusedVariables false
namespace Go.Proofs.YtnlcmfdmbgnpfaaGreat
open Go.V Classical

section
variable {w₀ : World} {h h0 hx : Heap} {K : Value → Heap → Prop} {Y : RW5} {O : Nat} {fl : Nat → List Nat} {L : List PBk} {P : Int} {vp : Option Addr} {vn vc : Nat}

theorem ref5_Is_ok {k p : Nat} (hO : O ≤ 8) (hk : k ≤ O) (hl : (fl k).length ≤ 100000) (H : (frR Y O fl).P h) (hK : ∀ h', Upd NoB h h' → K (.bool (decide (p ∈ fl k))) h') :
    CallV Tryz.prog w₀ F.croftref5_Is [dv (O : Int) P Y.fp (O + 1) Y.fc vp vn vc, .int .i64 (k : Int), .int .i64 (p : Int)] h K := by
  refine croftref5_Is.call ?_
  unfold croftref5_Is.vc
  have N5 := box4 h (.int .i64 (O : Int)) (.int .i64 P) (.slice Y.fp (O + 1) Y.fc) (.slice vp vn vc) T.T_croftref5_Buddy
  generalize Array.push h (.cells #[.int .i64 (O : Int), .int .i64 P, .slice Y.fp (O + 1) Y.fc, .slice vp vn vc] T.T_croftref5_Buddy) = h5 at N5 ⊢
  obtain ⟨b0, eb0⟩ : ∃ b0, b0 = h.size := ⟨_, rfl⟩
  rw [← eb0] at N5 ⊢
  intro J2 hJ2 L3 hL3
  have I := (Go.V.Own.of H).new N5
  obtain ⟨k0, k1, k2, k3⟩ := f4_cells (I.at 0)
  obtain ⟨bf, efp, vk⟩ := fr_cell (I.at 1) hk
  have RI : (slR (Y.lp k) (fl k).length (Y.lc k) 1 (nV (fl k))).P h5 := fr_row (I.at 1) hk
  have key : ∀ (d i : Nat), i + d = (fl k).length → (∀ j, j < i → (fl k).getD j 0 ≠ p) → L3 [.int .i64 (k : Int), .int .i64 (p : Int), .pointer (some ⟨b0, 0, none⟩), .int .i64 (i : Int)] h5 := by
    intro d
    induction d with
    | zero =>
      intro i hi hno
      have hi : i = (fl k).length := by omega
      subst hi
      refine hL3 _ _ _ _ _ ⟨_, _, _, k2, _, efp, by omega, by omega, _, _, _, by rw [at1]; exact vk, iF (decide_eq_false (by omega)) (hJ2 _ ?_)⟩
      have := hK h5 N5.u
      rwa [decide_eq_false (fun hm => by
        obtain ⟨j, hj, e⟩ := List.mem_iff_getElem.1 hm
        exact hno j hj (by rw [List.getD_eq_getElem?_getD, List.getElem?_eq_getElem hj]; exact e))] at this
    | succ d ih =>
      intro i hi hno
      obtain ⟨bl, elp, vi⟩ := sl_cell RI (i := i) (by omega)
      refine hL3 _ _ _ _ _ ⟨_, _, _, k2, _, efp, by omega, by omega, _, _, _, by rw [at1]; exact vk, iT (decide_eq_true (by omega)) ⟨_, _, _, k2, _, efp, by omega, by omega, _, _, _, by rw [at1]; exact vk, _, elp, by omega, by omega, _, by rw [at1]; exact vi, ?_⟩⟩
      by_cases e : (fl k).getD i 0 = p
      · refine iT (beq_iff_eq.2 (by rw [e])) ?_
        have := hK h5 N5.u
        rwa [decide_eq_true (by rw [← e, List.getD_eq_getElem?_getD, List.getElem?_eq_getElem (by omega)]; exact List.getElem_mem _)] at this
      · refine iF (beq_eq_false_iff_ne.2 (by omega)) ?_
        rw [show IntKind.wrap .i64 ((i : Int) + 1) = ((i + 1 : Nat) : Int) by rw [IntKind.wrap_i64]; omega]
        refine ih (i + 1) (by omega) fun j hj => ?_
        by_cases ej : j = i
        · rw [ej]; exact e
        · exact hno j (by omega)
  exact key (fl k).length 0 (by omega) fun j hj => by omega

theorem ref5_IsLive_ok {o p q : Int} {fp : Option Addr} {fn fc : Nat} {l : List (Int × Int)} (hl : l.length ≤ 1073741824) (R : Row h vp (l.length * 2) (runV l)) (hK : ∀ h', Upd NoB h h' → K (.bool (decide ((p, q) ∈ l))) h') :
    CallV Tryz.prog w₀ F.croftref5_IsLive [dv o P fp fn fc vp l.length vc, .int .i64 p, .int .i64 q] h K := by
  refine croftref5_IsLive.call ?_
  unfold croftref5_IsLive.vc
  have N5 := box4 h (.int .i64 o) (.int .i64 P) (.slice fp fn fc) (.slice vp l.length vc) T.T_croftref5_Buddy
  generalize Array.push h (.cells #[.int .i64 o, .int .i64 P, .slice fp fn fc, .slice vp l.length vc] T.T_croftref5_Buddy) = h5 at N5 ⊢
  obtain ⟨b0, eb0⟩ : ∃ b0, b0 = h.size := ⟨_, rfl⟩
  rw [← eb0] at N5 ⊢
  intro J2 hJ2 L3 hL3
  obtain ⟨k0, k1, k2, k3⟩ := f4_cells N5.p
  have key : ∀ (d i : Nat), i + d = l.length → (∀ j, j < i → l.getD j (0, 0) ≠ (p, q)) → L3 [.int .i64 p, .int .i64 q, .pointer (some ⟨b0, 0, none⟩), .int .i64 (i : Int)] h5 := by
    intro d
    induction d with
    | zero =>
      intro i hi hno
      have hi : i = l.length := by omega
      subst hi
      refine hL3 _ _ _ _ _ ⟨_, _, _, k3, iF (decide_eq_false (by omega)) (hJ2 _ ?_)⟩
      have := hK h5 N5.u
      rwa [decide_eq_false (fun hm => by
        obtain ⟨j, hj, e⟩ := List.mem_iff_getElem.1 hm
        exact hno j hj (by rw [List.getD_eq_getElem?_getD, List.getElem?_eq_getElem hj]; exact e))] at this
    | succ d ih =>
      intro i hi hno
      obtain ⟨a, e1, r1, r2⟩ := row_run R N5.u (i := i) (by omega)
      refine hL3 _ _ _ _ _ ⟨_, _, _, k3, iT (decide_eq_true (by omega)) ⟨_, _, _, k3, a, e1, by omega, by omega, _, r1, fun J4 hJ4 => ?_⟩⟩
      have no : l.getD i (0, 0) ≠ (p, q) → J4 false h5 := fun hne => hJ4 _ _ (iF rfl (by
        rw [show IntKind.wrap .i64 ((i : Int) + 1) = ((i + 1 : Nat) : Int) by rw [IntKind.wrap_i64]; omega]
        refine ih (i + 1) (by omega) fun j hj => ?_
        by_cases ej : j = i
        · rw [ej]; exact hne
        · exact hno j (by omega)))
      by_cases ep : (l.getD i (0, 0)).1 = p
      · refine qT (beq_iff_eq.2 ep) ⟨_, _, _, k3, a, e1, by omega, by omega, _, r2, ?_⟩
        by_cases eq : (l.getD i (0, 0)).2 = q
        · rw [beq_iff_eq.2 eq]
          refine hJ4 _ _ (iT rfl ?_)
          have := hK h5 N5.u
          rwa [decide_eq_true (by rw [← ep, ← eq, List.getD_eq_getElem?_getD, List.getElem?_eq_getElem (by omega)]; exact List.getElem_mem _)] at this
        · rw [beq_eq_false_iff_ne.2 eq]
          exact no fun e => eq (by rw [e])
      · exact qF' (beq_eq_false_iff_ne.2 ep) (no fun e => ep (by rw [e]))
  exact key l.length 0 (by omega) fun j hj => by omega

theorem ref5_enter_ok {k p : Nat} (hO : O ≤ 8) (hk : k ≤ O) (hl : (fl k).length ≤ 100000) (H : (frR Y O fl).P h)
    (hK : ∀ h' Y', Y'.vp = Y.vp → Y'.vc = Y.vc → Stp h h' (frR Y O fl) (frR Y' O (fset fl k (p :: fl k))) → K (dv (O : Int) P Y'.fp (O + 1) Y'.fc vp vn vc) h') :
    CallV Tryz.prog w₀ F.croftref5_enter [dv (O : Int) P Y.fp (O + 1) Y.fc vp vn vc, .int .i64 (k : Int), .int .i64 (p : Int)] h K := by
  refine croftref5_enter.call ?_
  unfold croftref5_enter.vc
  have N5 := box4 h (.int .i64 (O : Int)) (.int .i64 P) (.slice Y.fp (O + 1) Y.fc) (.slice vp vn vc) T.T_croftref5_Buddy
  generalize Array.push h (.cells #[.int .i64 (O : Int), .int .i64 P, .slice Y.fp (O + 1) Y.fc, .slice vp vn vc] T.T_croftref5_Buddy) = h5 at N5 ⊢
  have N6 := box4 h5 (.int .i64 0) (.int .i64 0) (.slice none 0 0) (.slice none 0 0) T.T_croftref5_Buddy
  generalize Array.push h5 (.cells #[.int .i64 0, .int .i64 0, .slice none 0 0, .slice none 0 0] T.T_croftref5_Buddy) = h6 at N6 ⊢
  have N7 := sl_lit h6 #[.int .i64 (p : Int)] T.T_int 1 1 rfl
  generalize Array.push h6 (.cells #[.int .i64 (p : Int)] T.T_int) = h7 at N7 ⊢
  obtain ⟨b0, eb0⟩ : ∃ b0, b0 = h.size := ⟨_, rfl⟩
  obtain ⟨b1, eb1⟩ : ∃ b1, b1 = h5.size := ⟨_, rfl⟩
  rw [← eb0] at N5 ⊢
  rw [← eb1] at N6 ⊢
  intro J4 hJ4 L7 hL7
  have I0 := (((Go.V.Own.of H).new N5).new N6).new (N7.conv (R' := slR (some ⟨h6.size, 0, none⟩) (0 + 1) 1 1 (nV (p :: fl k))) (fun P => sl_congr P fun i hi => by
    have hi : i < 1 := hi
    have : i = 0 := by omega
    subst this; rfl) fun _ e => e)
  have key : ∀ (d i : Nat) (y : Option Addr) (cap : Nat) (hx : Heap), i + d = (fl k).length → Go.V.Own h hx (frR Y O fl) [slR y (i + 1) cap 1 (nV (p :: fl k)), blkR b1 4 z4, blkR b0 4 (f4 (.int .i64 (O : Int)) (.int .i64 P) (.slice Y.fp (O + 1) Y.fc) (.slice vp vn vc)), frR Y O fl] →
      L7 [.int .i64 (k : Int), .pointer (some ⟨b0, 0, none⟩), .pointer (some ⟨b1, 0, none⟩), .slice y (i + 1) cap, .int .i64 (i : Int)] hx := by
    intro d
    induction d with
    | zero =>
      intro i y cap hx hi I
      have hi : i = (fl k).length := by omega
      subst hi
      obtain ⟨k0, k1, k2, k3⟩ := f4_cells (I.at 2)
      have HF : (frR Y O fl).P hx := I.at 3
      obtain ⟨bf, efp, vk⟩ := fr_cell HF hk
      have RO : Row hx Y.fp (O + 1) (fOut Y fl) := by have := sl_row HF.1; rwa [Nat.mul_one] at this
      refine hL7 _ _ _ _ _ _ _ _ ⟨_, _, _, k2, _, efp, by omega, by omega, _, _, _, by rw [at1]; exact vk, iF (decide_eq_false (by omega)) (hJ4 _ _ _ _ _ _ _ ⟨_, k0, _, k1, _, _, _, k2, _, _, _, k3, ref5_with_ok hO (fun i hi => ⟨_, _, _, rfl⟩) RO fun h8 fp' fc' N8 => ⟨_, _, _, _, _, _, _, _, rfl, ?_⟩⟩)⟩
      have I1 := own_with (Y := Y) (fl := fl) (l' := p :: fl k) (k := k) (I.perm (rs' := [slR y (p :: fl k).length cap 1 (nV (p :: fl k)), frR Y O fl, blkR b1 4 z4, blkR b0 4 (f4 (.int .i64 (O : Int)) (.int .i64 P) (.slice Y.fp (O + 1) Y.fc) (.slice vp vn vc))]) (.cons _ ((List.Perm.swap _ _ _).trans (.cons _ (.swap _ _ _))))) N8
      obtain ⟨w4, S4⟩ := assign4 (I1.at 1) (.int .i64 (O : Int)) (.int .i64 P) (.slice fp' (O + 1) fc') (.slice vp vn vc)
      have I2 := I1.step 1 S4
      refine ⟨w4, ?_⟩
      generalize setCs h8 ⟨b1, 0, none⟩ 0 [.int .i64 (O : Int), .int .i64 P, .slice fp' (O + 1) fc', .slice vp vn vc] = h9 at I2 ⊢
      obtain ⟨k0, k1, k2, k3⟩ := f4_cells (I2.at 1)
      exact ⟨_, k0, _, k1, _, _, _, k2, _, _, _, k3, hK h9 { Y with fp := fp', fc := fc', lp := fset Y.lp k y, lc := fset Y.lc k cap } rfl rfl (I2.one 0)⟩
    | succ d ih =>
      intro i y cap hx hi I
      obtain ⟨k0, k1, k2, k3⟩ := f4_cells (I.at 2)
      have HF : (frR Y O fl).P hx := I.at 3
      obtain ⟨bf, efp, vk⟩ := fr_cell HF hk
      obtain ⟨bl, elp, vi⟩ := sl_cell (fr_row HF hk) (i := i) (by omega)
      obtain ⟨os, q1, q2⟩ := sl_app1 (zs := [.int .i64 0]) (v := .int .i64 (((fl k).getD i 0 : Nat) : Int)) (b := 8) (e := T.T_int) (T := T.T_int) (I.at 0) rfl rfl (by omega)
      refine hL7 _ _ _ _ _ _ _ _ ⟨_, _, _, k2, _, efp, by omega, by omega, _, _, _, by rw [at1]; exact vk, iT (decide_eq_true (by omega)) ⟨_, _, _, k2, _, efp, by omega, by omega, _, _, _, by rw [at1]; exact vk, _, elp, by omega, by omega, _, by rw [at1]; exact vi, os, _, q1, fun p' c' h8 res => ?_⟩⟩
      have I1 := I.step 0 (R := slR y (i + 1) cap 1 (nV (p :: fl k))) (R' := slR p' (i + 1 + 1) c' 1 (nV (p :: fl k))) ((q2 p' c' h8 res).conv (fun P => sl_congr P fun j hj => by
        by_cases e : j = i + 1
        · rw [if_pos e, e]; unfold nV; rw [List.getD_cons_succ]
        · rw [if_neg e]) fun _ e => e)
      rw [show IntKind.wrap .i64 ((i : Int) + 1) = ((i + 1 : Nat) : Int) by rw [IntKind.wrap_i64]; omega]
      exact ih (i + 1) p' c' h8 (by omega) I1
  exact key (fl k).length 0 _ _ h7 (by omega) I0

theorem ref5_leave_ok {k p : Nat} (hO : O ≤ 8) (hk : k ≤ O) (hl : (fl k).length ≤ 100000) (H : (frR Y O fl).P h)
    (hK : ∀ h' Y', Y'.vp = Y.vp → Y'.vc = Y.vc → Stp h h' (frR Y O fl) (frR Y' O (fset fl k ((fl k).filter (· ≠ p)))) → K (dv (O : Int) P Y'.fp (O + 1) Y'.fc vp vn vc) h') :
    CallV Tryz.prog w₀ F.croftref5_leave [dv (O : Int) P Y.fp (O + 1) Y.fc vp vn vc, .int .i64 (k : Int), .int .i64 (p : Int)] h K := by
  refine croftref5_leave.call ?_
  unfold croftref5_leave.vc
  have N5 := box4 h (.int .i64 (O : Int)) (.int .i64 P) (.slice Y.fp (O + 1) Y.fc) (.slice vp vn vc) T.T_croftref5_Buddy
  generalize Array.push h (.cells #[.int .i64 (O : Int), .int .i64 P, .slice Y.fp (O + 1) Y.fc, .slice vp vn vc] T.T_croftref5_Buddy) = h5 at N5 ⊢
  have N6 := box4 h5 (.int .i64 0) (.int .i64 0) (.slice none 0 0) (.slice none 0 0) T.T_croftref5_Buddy
  generalize Array.push h5 (.cells #[.int .i64 0, .int .i64 0, .slice none 0 0, .slice none 0 0] T.T_croftref5_Buddy) = h6 at N6 ⊢
  obtain ⟨b0, eb0⟩ : ∃ b0, b0 = h.size := ⟨_, rfl⟩
  obtain ⟨b1, eb1⟩ : ∃ b1, b1 = h5.size := ⟨_, rfl⟩
  rw [← eb0] at N5 ⊢
  rw [← eb1] at N6 ⊢
  intro J3 hJ3 L6 hL6
  have I0 := (((Go.V.Own.of H).new N5).new N6).new (R := slR none ([] : List Nat).length 0 1 (nV [])) ⟨Upd.refl _ _, sl_nil _ _ _, fun b e => absurd e (sl_nil_fp b)⟩
  have key : ∀ (d i : Nat) (y : Option Addr) (cap : Nat) (hx : Heap) (l : List Nat), i + d = (fl k).length → l = ((fl k).take i).filter (· ≠ p) → Go.V.Own h hx (frR Y O fl) [slR y l.length cap 1 (nV l), blkR b1 4 z4, blkR b0 4 (f4 (.int .i64 (O : Int)) (.int .i64 P) (.slice Y.fp (O + 1) Y.fc) (.slice vp vn vc)), frR Y O fl] →
      L6 [.int .i64 (k : Int), .int .i64 (p : Int), .pointer (some ⟨b0, 0, none⟩), .pointer (some ⟨b1, 0, none⟩), .slice y l.length cap, .int .i64 (i : Int)] hx := by
    intro d
    induction d with
    | zero =>
      intro i y cap hx l hi hle I
      have hi : i = (fl k).length := by omega
      subst hi
      rw [List.take_length] at hle
      obtain ⟨k0, k1, k2, k3⟩ := f4_cells (I.at 2)
      have HF : (frR Y O fl).P hx := I.at 3
      obtain ⟨bf, efp, vk⟩ := fr_cell HF hk
      have RO : Row hx Y.fp (O + 1) (fOut Y fl) := by have := sl_row HF.1; rwa [Nat.mul_one] at this
      refine hL6 _ _ _ _ _ _ _ _ _ ⟨_, _, _, k2, _, efp, by omega, by omega, _, _, _, by rw [at1]; exact vk, iF (decide_eq_false (by omega)) (hJ3 _ _ _ _ _ _ _ ⟨_, k0, _, k1, _, _, _, k2, _, _, _, k3, ref5_with_ok hO (fun i hi => ⟨_, _, _, rfl⟩) RO fun h8 fp' fc' N8 => ⟨_, _, _, _, _, _, _, _, rfl, ?_⟩⟩)⟩
      have I1 := own_with (Y := Y) (fl := fl) (l' := l) (k := k) (I.perm (rs' := [slR y l.length cap 1 (nV l), frR Y O fl, blkR b1 4 z4, blkR b0 4 (f4 (.int .i64 (O : Int)) (.int .i64 P) (.slice Y.fp (O + 1) Y.fc) (.slice vp vn vc))]) (.cons _ ((List.Perm.swap _ _ _).trans (.cons _ (.swap _ _ _))))) N8
      obtain ⟨w4, S4⟩ := assign4 (I1.at 1) (.int .i64 (O : Int)) (.int .i64 P) (.slice fp' (O + 1) fc') (.slice vp vn vc)
      have I2 := I1.step 1 S4
      refine ⟨w4, ?_⟩
      generalize setCs h8 ⟨b1, 0, none⟩ 0 [.int .i64 (O : Int), .int .i64 P, .slice fp' (O + 1) fc', .slice vp vn vc] = h9 at I2 ⊢
      obtain ⟨k0, k1, k2, k3⟩ := f4_cells (I2.at 1)
      rw [← hle] at hK
      exact ⟨_, k0, _, k1, _, _, _, k2, _, _, _, k3, hK h9 { Y with fp := fp', fc := fc', lp := fset Y.lp k y, lc := fset Y.lc k cap } rfl rfl (I2.one 0)⟩
    | succ d ih =>
      intro i y cap hx l hi hle I
      obtain ⟨k0, k1, k2, k3⟩ := f4_cells (I.at 2)
      have HF : (frR Y O fl).P hx := I.at 3
      obtain ⟨bf, efp, vk⟩ := fr_cell HF hk
      obtain ⟨bl, elp, vi⟩ := sl_cell (fr_row HF hk) (i := i) (by omega)
      have hll : l.length ≤ i := by
        rw [hle]
        refine Nat.le_trans (List.length_filter_le _ _) ?_
        rw [List.length_take]; omega
      have htk : (fl k).take (i + 1) = (fl k).take i ++ [(fl k).getD i 0] := by
        rw [List.take_add_one, List.getD_eq_getElem?_getD, List.getElem?_eq_getElem (by omega)]; rfl
      have hwr : IntKind.wrap .i64 ((i : Int) + 1) = ((i + 1 : Nat) : Int) := by rw [IntKind.wrap_i64]; omega
      refine hL6 _ _ _ _ _ _ _ _ _ ⟨_, _, _, k2, _, efp, by omega, by omega, _, _, _, by rw [at1]; exact vk, iT (decide_eq_true (by omega)) fun J7 hJ7 => ⟨_, _, _, k2, _, efp, by omega, by omega, _, _, _, by rw [at1]; exact vk, _, elp, by omega, by omega, _, by rw [at1]; exact vi, ?_⟩⟩
      by_cases e : (fl k).getD i 0 = p
      · refine iF (by rw [bne_eq_false_iff_eq, e]) (hJ7 _ _ _ _ _ _ _ _ _ ?_)
        rw [hwr]
        exact ih (i + 1) y cap hx l (by omega) (by rw [htk, List.filter_append, ← hle]; simp [← e]) I
      · obtain ⟨os, q1, q2⟩ := sl_app1 (zs := [.int .i64 0]) (v := .int .i64 (((fl k).getD i 0 : Nat) : Int)) (b := 8) (e := T.T_int) (T := T.T_int) (I.at 0) rfl rfl (by omega)
        refine iT (by rw [bne_iff_ne]; omega) ⟨_, _, _, k2, _, efp, by omega, by omega, _, _, _, by rw [at1]; exact vk, _, elp, by omega, by omega, _, by rw [at1]; exact vi, os, _, q1, fun p' c' h8 res => hJ7 _ _ _ _ _ _ _ _ _ ?_⟩
        have el : (l ++ [(fl k).getD i 0]).length = l.length + 1 := by simp
        have I1 := I.step 0 (R := slR y l.length cap 1 (nV l)) (R' := slR p' (l ++ [(fl k).getD i 0]).length c' 1 (nV (l ++ [(fl k).getD i 0]))) ((q2 p' c' h8 res).conv (fun P => by
          rw [el]
          exact sl_congr P fun j hj => nV_snoc l _ hj) fun _ e => e)
        rw [hwr]
        have := ih (i + 1) p' c' h8 (l ++ [(fl k).getD i 0]) (by omega) (by rw [htk, List.filter_append, ← hle, List.filter_cons, if_pos (by simpa using e)]; rfl) I1
        rw [el] at this
        exact this
  exact key (fl k).length 0 none 0 h6 [] (by omega) rfl I0
end
end Go.Proofs.YtnlcmfdmbgnpfaaGreat
