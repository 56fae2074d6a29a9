/- croftref5: Pages. No condition. -/
import Derived.Test.YtnlcmfdmbgnpfaaGreatZA7
set_option linter.unusedSimpArgs false
set_option linter.unusedVariables false
namespace Go.Proofs.YtnlcmfdmbgnpfaaGreat
open Go.V Classical

def paintF (G : Nat → Nat → Int) (k : Nat) (l : List Nat) : Nat → Nat → Int := l.foldl (fun G p => paintT G p k 0 (2 ^ k)) G
def paintO (fl : Nat → List Nat) : Nat → Nat → Nat → Int
  | 0 => fun _ _ => 0
  | k + 1 => paintF (paintO fl k) k (fl k)
def paintLv (G : Nat → Nat → Int) (L : List PBk) : Nat → Nat → Int := L.foldl (fun G b => paintT G b.1 b.2 2 (2 ^ b.2)) G

theorem take_ge {α : Type} (l : List α) (i : Nat) (d : α) (hi : i < l.length) : l.take (i + 1) = l.take i ++ [l.getD i d] := by
  rw [List.take_add_one, List.getD_eq_getElem?_getD, List.getElem?_eq_getElem hi]; rfl

section
variable {w₀ : World} {h h0 hx : Heap} {K : Value → Heap → Prop} {Y : RW5} {O P : Nat} {fl : Nat → List Nat} {L : List PBk}

theorem ref5_Pages_ok (hO : O ≤ 8) (hP : P ≤ 2000) (f : FlOk O fl) (hL : L.length ≤ 100000) (al : ∀ b ∈ L, b.1 ≤ 2000 ∧ b.2 ≤ O) (H : (rfR Y O fl L).P h)
    (hK : ∀ h' b, New h h' (slR (some ⟨b, 0, none⟩) P P 11 (pgsV (paintLv (paintO fl (O + 1)) L))) → K (.slice (some ⟨b, 0, none⟩) P P) h') :
    CallV Tryz.prog w₀ F.croftref5_Pages [pv Y O P L] h K := by
  refine croftref5_Pages.call ?_
  unfold croftref5_Pages.vc
  have N5 := box4 h (.int .i64 (O : Int)) (.int .i64 (P : Int)) (.slice Y.fp (O + 1) Y.fc) (.slice Y.vp L.length Y.vc) T.T_croftref5_Buddy
  generalize Array.push h (.cells #[.int .i64 (O : Int), .int .i64 (P : Int), .slice Y.fp (O + 1) Y.fc, .slice Y.vp L.length Y.vc] T.T_croftref5_Buddy) = h5 at N5 ⊢
  obtain ⟨b0, eb0⟩ : ∃ b0, b0 = h.size := ⟨_, rfl⟩
  rw [← eb0] at N5 ⊢
  obtain ⟨k0, k1, k2, k3⟩ := f4_cells N5.p
  refine ⟨_, k1, by omega, by omega, by omega, ?_⟩
  rw [Int.toNat_natCast]
  have N6 := sl_make h5 zpL T.T_api_Page P P (Nat.le_refl _)
  obtain ⟨b1, eb1⟩ : ∃ b1, b1 = h5.size := ⟨_, rfl⟩
  have N6 : New h5 (h5.push (.cells (List.toArray (zrow zpL P)) T.T_api_Page)) (slR (some ⟨b1, 0, none⟩) P P 11 (pgsV (paintO fl 0))) := by
    rw [eb1]
    exact N6.conv (fun A => sl_congr A fun i hi => by
      unfold pgsV paintO
      show zpL.getD (i % 11) undef = pcl (i % 11) 0
      have : i % 11 = 0 ∨ i % 11 = 1 ∨ i % 11 = 2 ∨ i % 11 = 3 ∨ i % 11 = 4 ∨ i % 11 = 5 ∨ i % 11 = 6 ∨ i % 11 = 7 ∨ i % 11 = 8 ∨ i % 11 = 9 ∨ i % 11 = 10 := by omega
      rcases this with e | e | e | e | e | e | e | e | e | e | e <;> rw [e] <;> rfl) fun _ e => e
  rw [← eb1]
  generalize h5.push (.cells (List.toArray (zrow zpL P)) T.T_api_Page) = h6 at N6 ⊢
  have I0 : Go.V.Own h h6 (rfR Y O fl L) [slR (some ⟨b1, 0, none⟩) P P 11 (pgsV (paintO fl 0)), blkR b0 4 (f4 (.int .i64 (O : Int)) (.int .i64 (P : Int)) (.slice Y.fp (O + 1) Y.fc) (.slice Y.vp L.length Y.vc)), rfR Y O fl L] := ((Go.V.Own.of H).new N5).new N6
  intro J3 hJ3 L7 hL7
  have ge1 : ∀ b, (slR (some ⟨b1, 0, none⟩) P P 11 (pgsV (paintO fl 0))).fp b → h.size ≤ b := fun b e => by
    have e : (some ⟨b1, 0, none⟩ : Option Addr) = some ⟨b, 0, none⟩ := e
    have := N5.u.1
    simp at e
    omega
  -- the live ones
  have lives : ∀ (hx : Heap), Go.V.Own h hx (rfR Y O fl L) [slR (some ⟨b1, 0, none⟩) P P 11 (pgsV (paintO fl (O + 1))), blkR b0 4 (f4 (.int .i64 (O : Int)) (.int .i64 (P : Int)) (.slice Y.fp (O + 1) Y.fc) (.slice Y.vp L.length Y.vc)), rfR Y O fl L] → Upd NoB h hx → J3 [.pointer (some ⟨b0, 0, none⟩), .slice (some ⟨b1, 0, none⟩) P P] hx := by
    intro hx I ux
    refine hJ3 _ _ _ _ _ fun J4 hJ4 L5 hL5 => ?_
    have loop : ∀ (d i : Nat) (hy : Heap), i + d = L.length → Go.V.Own h hy (rfR Y O fl L) [slR (some ⟨b1, 0, none⟩) P P 11 (pgsV (paintLv (paintO fl (O + 1)) (L.take i))), blkR b0 4 (f4 (.int .i64 (O : Int)) (.int .i64 (P : Int)) (.slice Y.fp (O + 1) Y.fc) (.slice Y.vp L.length Y.vc)), rfR Y O fl L] → Upd NoB h hy →
        L5 [.pointer (some ⟨b0, 0, none⟩), .slice (some ⟨b1, 0, none⟩) P P, .int .i64 (i : Int)] hy := by
      intro d
      induction d with
      | zero =>
        intro i hy hi I uy
        have hi : i = L.length := by omega
        subst hi
        rw [List.take_length] at I
        obtain ⟨k0, k1, k2, k3⟩ := f4_cells (I.at 1)
        exact hL5 _ _ _ _ _ _ ⟨_, _, _, k3, iF (decide_eq_false (by omega)) (hJ4 _ _ _ _ (hK hy b1 ⟨uy, I.at 0, ge1⟩))⟩
      | succ d ih =>
        intro i hy hi I uy
        obtain ⟨k0, k1, k2, k3⟩ := f4_cells (I.at 1)
        have HR : (rfR Y O fl L).P hy := I.at 2
        have RL : Row hy Y.vp ((prL L).length * 2) (runV (prL L)) := by rw [prL_len]; exact sl_row HR.2.1
        obtain ⟨a, e1, r1, r2⟩ := row_run RL (Upd.refl _ _) (i := i) (by rw [prL_len]; omega)
        have hbm : L.getD i (0, 0) ∈ L := by rw [List.getD_eq_getElem?_getD, List.getElem?_eq_getElem (by omega)]; exact List.getElem_mem _
        have eb : (prL L).getD i (0, 0) = prV (L.getD i (0, 0)) := by
          rw [List.getD_eq_getElem?_getD, List.getD_eq_getElem?_getD, List.getElem?_map, List.getElem?_eq_getElem (by omega)]; rfl
        obtain ⟨a1, a2⟩ := al _ hbm
        have htk := take_ge L i (0, 0) (by omega)
        rw [eb] at r1 r2
        generalize L.getD i (0, 0) = bb at r1 r2 a1 a2 htk
        refine hL5 _ _ _ _ _ _ ⟨_, _, _, k3, iT (decide_eq_true (by omega)) ⟨_, _, _, k3, a, e1, by omega, by omega, _, r1, _, _, _, k3, a, e1, by omega, by omega, _, r2, ?_⟩⟩
        refine ref5_paint_ok (page := bb.1) (order := bb.2) (by omega) (by omega) (by omega) (by omega) (I.at 0) fun h8 S => ⟨rfl, ?_⟩
        rw [show IntKind.wrap .i64 ((i : Int) + 1) = ((i + 1 : Nat) : Int) by rw [IntKind.wrap_i64]; omega]
        have I1 := I.step 0 S
        refine ih (i + 1) h8 (by omega) ?_ (uy.nx S.u fun b e hb => by
          have := ge1 b e
          omega)
        rw [htk]
        unfold paintLv
        rw [List.foldl_append]
        exact I1
    exact loop L.length 0 hx (by omega) I ux
  have loop : ∀ (d k : Nat) (hx : Heap), k + d = O + 1 → Go.V.Own h hx (rfR Y O fl L) [slR (some ⟨b1, 0, none⟩) P P 11 (pgsV (paintO fl k)), blkR b0 4 (f4 (.int .i64 (O : Int)) (.int .i64 (P : Int)) (.slice Y.fp (O + 1) Y.fc) (.slice Y.vp L.length Y.vc)), rfR Y O fl L] → Upd NoB h hx →
      L7 [.pointer (some ⟨b0, 0, none⟩), .slice (some ⟨b1, 0, none⟩) P P, .int .i64 (k : Int)] hx := by
    intro d
    induction d with
    | zero =>
      intro k hx hk I ux
      have hk : k = O + 1 := by omega
      subst hk
      obtain ⟨k0, k1, k2, k3⟩ := f4_cells (I.at 1)
      exact hL7 _ _ _ _ _ _ ⟨_, k0, iF (decide_eq_false (by omega)) (lives hx I ux)⟩
    | succ d ih =>
      intro k hx hk I ux
      have hkO : k ≤ O := by omega
      have hlk := f.len k hkO
      obtain ⟨k0, k1, k2, k3⟩ := f4_cells (I.at 1)
      refine hL7 _ _ _ _ _ _ ⟨_, k0, iT (decide_eq_true (by omega)) fun J8 hJ8 L9 hL9 => ?_⟩
      have inner : ∀ (d i : Nat) (hy : Heap), i + d = (fl k).length → Go.V.Own h hy (rfR Y O fl L) [slR (some ⟨b1, 0, none⟩) P P 11 (pgsV (paintF (paintO fl k) k ((fl k).take i))), blkR b0 4 (f4 (.int .i64 (O : Int)) (.int .i64 (P : Int)) (.slice Y.fp (O + 1) Y.fc) (.slice Y.vp L.length Y.vc)), rfR Y O fl L] → Upd NoB h hy →
          L9 [.pointer (some ⟨b0, 0, none⟩), .slice (some ⟨b1, 0, none⟩) P P, .int .i64 (k : Int), .int .i64 (i : Int)] hy := by
        intro d
        induction d with
        | zero =>
          intro i hy hi I uy
          have hi : i = (fl k).length := by omega
          subst hi
          rw [List.take_length] at I
          obtain ⟨k0, k1, k2, k3⟩ := f4_cells (I.at 1)
          have HF : (frR Y O fl).P hy := (show (rfR Y O fl L).P hy from I.at 2).1
          obtain ⟨bf, efp, vk⟩ := fr_cell HF hkO
          refine hL9 _ _ _ _ _ _ _ ⟨_, _, _, k2, _, efp, by omega, by omega, _, _, _, by rw [at1]; exact vk, iF (decide_eq_false (by omega)) (hJ8 _ _ _ _ _ _ ?_)⟩
          rw [show IntKind.wrap .i64 ((k : Int) + 1) = ((k + 1 : Nat) : Int) by rw [IntKind.wrap_i64]; omega]
          exact ih (k + 1) hy (by omega) I uy
        | succ d ihd =>
          intro i hy hi I uy
          obtain ⟨k0, k1, k2, k3⟩ := f4_cells (I.at 1)
          have HF : (frR Y O fl).P hy := (show (rfR Y O fl L).P hy from I.at 2).1
          obtain ⟨bf, efp, vk⟩ := fr_cell HF hkO
          obtain ⟨bl, elp, vi⟩ := sl_cell (fr_row HF hkO) (i := i) (by omega)
          have htk := take_ge (fl k) i 0 (by omega)
          have hpb : (fl k).getD i 0 ≤ 2000 := f.bd k hkO _ (by rw [List.getD_eq_getElem?_getD, List.getElem?_eq_getElem (by omega)]; exact List.getElem_mem _)
          have e0 : nV (fl k) i = .int .i64 (((fl k).getD i 0 : Nat) : Int) := rfl
          rw [e0] at vi
          generalize (fl k).getD i 0 = q at vi htk hpb
          refine hL9 _ _ _ _ _ _ _ ⟨_, _, _, k2, _, efp, by omega, by omega, _, _, _, by rw [at1]; exact vk, iT (decide_eq_true (by omega)) ⟨_, _, _, k2, _, efp, by omega, by omega, _, _, _, by rw [at1]; exact vk, _, elp, by omega, by omega, _, by rw [at1]; exact vi, ?_⟩⟩
          refine ref5_paint_ok (page := q) (order := k) (by omega) (by omega) (by omega) (by omega) (I.at 0) fun h8 S => ⟨rfl, ?_⟩
          rw [show IntKind.wrap .i64 ((i : Int) + 1) = ((i + 1 : Nat) : Int) by rw [IntKind.wrap_i64]; omega]
          have I1 := I.step 0 S
          refine ihd (i + 1) h8 (by omega) ?_ (uy.nx S.u fun b e hb => by
            have := ge1 b e
            omega)
          rw [htk]
          unfold paintF
          rw [List.foldl_append]
          exact I1
      exact inner (fl k).length 0 hx (by omega) I ux
  exact loop (O + 1) 0 h6 (by omega) I0 (N5.u.nx N6.u fun _ e _ => e)
end
end Go.Proofs.YtnlcmfdmbgnpfaaGreat
