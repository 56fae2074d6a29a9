/- croftref5: its lists of free blocks: with. No condition. -/
import Derived.Test.YtnlcmfdmbgnpfaaGreatZM7
import Derived.Test.YtnlcmfdmbgnpfaaGreatZM2
set_option linter.unusedSimpArgs false
set_option linter.unusedVariables false
namespace Go.Proofs.YtnlcmfdmbgnpfaaGreat
open Go.V Classical

def nV (l : List Nat) : Nat → Value := fun i => .int .i64 ((l.getD i 0 : Nat) : Int)

theorem nV_snoc (l : List Nat) (e : Nat) {i : Nat} (hi : i < (l.length + 1) * 1) : (if i = l.length then Value.int .i64 (e : Int) else nV l i) = nV (l ++ [e]) i := by
  unfold nV
  rw [List.getD_eq_getElem?_getD, List.getD_eq_getElem?_getD]
  by_cases h : i = l.length
  · subst h; rw [if_pos rfl]; simp
  · rw [if_neg h, List.getElem?_append_left (by omega)]

structure RW5 where
  fp : Option Addr
  fc : Nat
  lp : Nat → Option Addr
  lc : Nat → Nat
  vp : Option Addr
  vc : Nat

abbrev prV (b : PBk) : Int × Int := ((b.1 : Int), (b.2 : Int))
abbrev prL (L : List PBk) : List (Int × Int) := L.map prV
abbrev fOut (Y : RW5) (fl : Nat → List Nat) : Nat → Value := fun k => .slice (Y.lp k) (fl k).length (Y.lc k)
abbrev inR (Y : RW5) (O : Nat) (fl : Nat → List Nat) : Res := allR (O + 1) fun k => slR (Y.lp k) (fl k).length (Y.lc k) 1 (nV (fl k))
abbrev frR (Y : RW5) (O : Nat) (fl : Nat → List Nat) : Res := andR (slR Y.fp (O + 1) Y.fc 1 (fOut Y fl)) (inR Y O fl)
abbrev liR (Y : RW5) (L : List PBk) : Res := slR Y.vp L.length Y.vc 2 (runV (prL L))
abbrev rfR (Y : RW5) (O : Nat) (fl : Nat → List Nat) (L : List PBk) : Res := andR (frR Y O fl) (liR Y L)
abbrev pv (Y : RW5) (O P : Nat) (L : List PBk) : Value := dv (O : Int) (P : Int) Y.fp (O + 1) Y.fc Y.vp L.length Y.vc

theorem at1 (b k : Nat) : (⟨b, 0, none⟩ : Addr).add (Int.toNat (k : Int) * 1) = ⟨b, k, none⟩ := by rw [add_mk, Int.toNat_natCast, Nat.mul_one, Nat.zero_add]
theorem prL_len (L : List PBk) : (prL L).length = L.length := by simp

section
variable {w₀ : World} {h h0 hx : Heap} {K : Value → Heap → Prop} {Y : RW5} {O : Nat} {fl : Nat → List Nat} {L : List PBk}

theorem fr_cell (H : (frR Y O fl).P h) {k : Nat} (hk : k ≤ O) : ∃ b, Y.fp = some ⟨b, 0, none⟩ ∧ cellAt h ⟨b, k, none⟩ = some (.slice (Y.lp k) (fl k).length (Y.lc k)) := sl_cell H.1 (i := k) (by omega)

theorem fr_row (H : (frR Y O fl).P h) {k : Nat} (hk : k ≤ O) : (slR (Y.lp k) (fl k).length (Y.lc k) 1 (nV (fl k))).P h := H.2.1.1 k (by omega)

theorem in_put {k : Nat} {l' : List Nat} {p' f' : Option Addr} {c' fc' : Nat} (H : (andR (slR p' l'.length c' 1 (nV l')) (inR Y O fl)).P h) :
    (inR { Y with fp := f', fc := fc', lp := fset Y.lp k p', lc := fset Y.lc k c' } O (fset fl k l')).P h ∧ ∀ b, (inR { Y with fp := f', fc := fc', lp := fset Y.lp k p', lc := fset Y.lc k c' } O (fset fl k l')).fp b → (andR (slR p' l'.length c' 1 (nV l')) (inR Y O fl)).fp b := by
  obtain ⟨HN, H2, H4⟩ := H
  have old : ∀ i, i ≠ k → ((slR (fset Y.lp k p' i) (fset fl k l' i).length (fset Y.lc k c' i) 1 (nV (fset fl k l' i))) = slR (Y.lp i) (fl i).length (Y.lc i) 1 (nV (fl i))) := fun i hi => by rw [fset_ne _ _ hi, fset_ne _ _ hi, fset_ne _ _ hi]
  have new : ((slR (fset Y.lp k p' k) (fset fl k l' k).length (fset Y.lc k c' k) 1 (nV (fset fl k l' k))) = slR p' l'.length c' 1 (nV l')) := by rw [fset_same, fset_same, fset_same]
  refine ⟨⟨fun i hi => ?_, fun i hi j hj hij x ex ex' => ?_⟩, fun x ⟨i, hi, ex⟩ => ?_⟩
  · by_cases ei : i = k
    · subst ei
      show (slR (fset Y.lp i p' i) (fset fl i l' i).length (fset Y.lc i c' i) 1 (nV (fset fl i l' i))).P _
      rw [new]; exact HN
    · show (slR (fset Y.lp k p' i) (fset fl k l' i).length (fset Y.lc k c' i) 1 (nV (fset fl k l' i))).P _
      rw [old i ei]; exact H2.1 i hi
  · have f1 : (slR (fset Y.lp k p' i) (fset fl k l' i).length (fset Y.lc k c' i) 1 (nV (fset fl k l' i))).fp x := ex
    have f2 : (slR (fset Y.lp k p' j) (fset fl k l' j).length (fset Y.lc k c' j) 1 (nV (fset fl k l' j))).fp x := ex'
    clear ex ex'
    by_cases ei : i = k
    · have ej : j ≠ k := fun e => hij (ei.trans e.symm)
      rw [old j ej] at f2
      subst ei
      rw [new] at f1
      exact H4 x f1 ⟨j, hj, f2⟩
    · rw [old i ei] at f1
      by_cases ej : j = k
      · subst ej
        rw [new] at f2
        exact H4 x f2 ⟨i, hi, f1⟩
      · rw [old j ej] at f2
        exact H2.2 i hi j hj hij x f1 f2
  · have ex : (slR (fset Y.lp k p' i) (fset fl k l' i).length (fset Y.lc k c' i) 1 (nV (fset fl k l' i))).fp x := ex
    by_cases ei : i = k
    · subst ei; rw [new] at ex; exact .inl ex
    · rw [old i ei] at ex; exact .inr ⟨i, hi, ex⟩

theorem own_with {h' : Heap} {E : Res} {rs : List Res} {k : Nat} {l' : List Nat} {p' f' : Option Addr} {c' fc' : Nat} (I : Go.V.Own h hx E (slR p' l'.length c' 1 (nV l') :: frR Y O fl :: rs))
    (N : New hx h' (slR f' (O + 1) fc' 1 fun i => if i = k then .slice p' l'.length c' else fOut Y fl i)) :
    Go.V.Own h h' E (frR { Y with fp := f', fc := fc', lp := fset Y.lp k p', lc := fset Y.lc k c' } O (fset fl k l') :: rs) := by
  have N' : New hx h' (slR f' (O + 1) fc' 1 (fOut { Y with fp := f', fc := fc', lp := fset Y.lp k p', lc := fset Y.lc k c' } (fset fl k l'))) := N.conv (fun P => sl_congr P fun i hi => by
    by_cases ei : i = k
    · subst ei
      rw [if_pos rfl]
      show _ = Value.slice (fset Y.lp i p' i) (fset fl i l' i).length (fset Y.lc i c' i)
      rw [fset_same, fset_same, fset_same]
    · rw [if_neg ei]
      show _ = Value.slice (fset Y.lp k p' i) (fset fl k l' i).length (fset Y.lc k c' i)
      rw [fset_ne _ _ ei, fset_ne _ _ ei, fset_ne _ _ ei]) fun _ e => e
  have I1 := I.new N'
  have I2 := (I1.perm (rs' := frR Y O fl :: slR p' l'.length c' 1 (nV l') :: _ :: rs) ((List.Perm.swap _ _ _).trans ((List.Perm.cons _ (.swap _ _ _)).trans (.swap _ _ _)))).split.drop
  have I3 := (I2.perm (rs' := slR p' l'.length c' 1 (nV l') :: inR Y O fl :: _ :: rs) (.swap _ _ _)).join
  have I4 := I3.as 0 (R := andR (slR p' l'.length c' 1 (nV l')) (inR Y O fl)) (R' := inR { Y with fp := f', fc := fc', lp := fset Y.lp k p', lc := fset Y.lc k c' } O (fset fl k l')) (fun P => (in_put P).1) (fun b e => (in_put (f' := f') (fc' := fc') (k := k) (I3.at 0)).2 b e)
  exact (I4.perm (rs' := slR f' (O + 1) fc' 1 (fOut { Y with fp := f', fc := fc', lp := fset Y.lp k p', lc := fset Y.lc k c' } (fset fl k l')) :: inR { Y with fp := f', fc := fc', lp := fset Y.lp k p', lc := fset Y.lc k c' } O (fset fl k l') :: rs) (.swap _ _ _)).join

abbrev z4 : Nat → Value := f4 (.int .i64 0) (.int .i64 0) (.slice none 0 0) (.slice none 0 0)

theorem ref5_with_ok {o P : Int} {k : Nat} {fp vp lp : Option Addr} {fc vn vc ln lc : Nat} {g : Nat → Value} (hO : O ≤ 8) (hg : ∀ i, i ≤ O → ∃ a b c, g i = .slice a b c) (R : Row h fp (O + 1) g)
    (hK : ∀ h' fp' fc', New h h' (slR fp' (O + 1) fc' 1 fun i => if i = k then .slice lp ln lc else g i) → K (dv o P fp' (O + 1) fc' vp vn vc) h') :
    CallV Tryz.prog w₀ F.croftref5_with [dv o P fp (O + 1) fc vp vn vc, .int .i64 (k : Int), .slice lp ln lc] h K := by
  refine croftref5_with.call ?_
  unfold croftref5_with.vc
  have N5 := box4 h (.int .i64 o) (.int .i64 P) (.slice fp (O + 1) fc) (.slice vp vn vc) T.T_croftref5_Buddy
  generalize hh5 : Array.push h (.cells #[.int .i64 o, .int .i64 P, .slice fp (O + 1) fc, .slice vp vn vc] T.T_croftref5_Buddy) = h5 at N5 ⊢
  have N6 := box4 h5 (.int .i64 0) (.int .i64 0) (.slice none 0 0) (.slice none 0 0) T.T_croftref5_Buddy
  generalize hh6 : Array.push h5 (.cells #[.int .i64 0, .int .i64 0, .slice none 0 0, .slice none 0 0] T.T_croftref5_Buddy) = h6 at N6 ⊢
  obtain ⟨b0, eb0⟩ : ∃ b0, b0 = h.size := ⟨_, rfl⟩
  obtain ⟨b1, eb1⟩ : ∃ b1, b1 = h5.size := ⟨_, rfl⟩
  rw [← eb0] at N5 ⊢
  rw [← eb1] at N6 ⊢
  intro J3 hJ3 L6 hL6
  have I0 : Hold h h6 [slR none 0 0 1 (fun i => if i = k then .slice lp ln lc else g i), blkR b1 4 z4, blkR b0 4 (f4 (.int .i64 o) (.int .i64 P) (.slice fp (O + 1) fc) (.slice vp vn vc))] :=
    (((Hold.nil h).new N5).new N6).new ⟨Upd.refl _ _, sl_nil _ _ _, fun b e => absurd e (sl_nil_fp b)⟩
  have key : ∀ (d i : Nat) (y : Option Addr) (cap : Nat) (hx : Heap), i + d = O + 1 → Hold h hx [slR y i cap 1 (fun i => if i = k then .slice lp ln lc else g i), blkR b1 4 z4, blkR b0 4 (f4 (.int .i64 o) (.int .i64 P) (.slice fp (O + 1) fc) (.slice vp vn vc))] →
      L6 [.int .i64 (k : Int), .slice lp ln lc, .pointer (some ⟨b0, 0, none⟩), .pointer (some ⟨b1, 0, none⟩), .slice y i cap, .int .i64 (i : Int)] hx := by
    intro d
    induction d with
    | zero =>
      intro i y cap hx hi I
      have hi : i = O + 1 := by omega
      subst hi
      obtain ⟨k0, k1, k2, k3⟩ := f4_cells (I.at 2)
      refine hL6 _ _ _ _ _ _ _ _ _ _ _ ⟨_, _, _, k2, iF (decide_eq_false (by omega)) (hJ3 _ _ _ _ _ _ ?_)⟩
      obtain ⟨w3, S3⟩ := (f4_set (I.at 2) (.slice y (O + 1) cap)).2.1
      have I3 := I.step 2 S3
      refine ⟨w3, ?_⟩
      generalize setC hx ((⟨b0, 0, none⟩ : Addr).add 2) (.slice y (O + 1) cap) = h30 at I3 ⊢
      obtain ⟨k0, k1, k2, k3⟩ := f4_cells (I3.at 2)
      refine ⟨_, k0, _, k1, _, _, _, k2, _, _, _, k3, ?_⟩
      obtain ⟨w4, S4⟩ := assign4 (I3.at 1) (.int .i64 o) (.int .i64 P) (.slice y (O + 1) cap) (.slice vp vn vc)
      have I4 := I3.step 1 S4
      refine ⟨w4, ?_⟩
      generalize setCs h30 ⟨b1, 0, none⟩ 0 [.int .i64 o, .int .i64 P, .slice y (O + 1) cap, .slice vp vn vc] = h31 at I4 ⊢
      obtain ⟨k0, k1, k2, k3⟩ := f4_cells (I4.at 1)
      refine ⟨_, k0, _, k1, _, _, _, k2, _, _, _, k3, hK h31 y cap ?_⟩
      exact (I4.sub (rs' := [slR y (O + 1) cap 1 (fun i => if i = k then .slice lp ln lc else g i)]) (.cons_cons _ (.cons _ (.cons _ .slnil)))).toNew
    | succ d ih =>
      intro i y cap hx hi I
      obtain ⟨k0, k1, k2, k3⟩ := f4_cells (I.at 2)
      refine hL6 _ _ _ _ _ _ _ _ _ _ _ ⟨_, _, _, k2, iT (decide_eq_true (by omega)) fun J7 hJ7 => ?_⟩
      have fin : ∀ (v : Value), v = (if i = k then .slice lp ln lc else g i) → oneC v = true → ∃ os xs : List Value, AppPre (Array.push hx (.cells #[v] T.T_sl_int)) y i cap (some (⟨hx.size, 0, none⟩ : Addr)) 1 1 24 os xs ∧ ∀ (p22 : Option Addr) (c22 : Nat) (h22 : Heap), AppRes (Array.push hx (.cells #[v] T.T_sl_int)) y i cap 1 [.slice none 0 0] T.T_sl_int os xs p22 c22 h22 →
          J7 [.int .i64 (k : Int), .slice lp ln lc, .pointer (some ⟨b0, 0, none⟩), .pointer (some ⟨b1, 0, none⟩), .slice p22 (i + 1) c22, .int .i64 (i : Int)] h22 := by
        intro v hv ho
        obtain ⟨os, q1, q2⟩ := sl_app1 (zs := [.slice none 0 0]) (v := v) (b := 24) (e := T.T_sl_int) (T := T.T_sl_int) (I.at 0) rfl ho (by omega)
        refine ⟨os, _, q1, fun p' c' h29 hres => hJ7 _ _ _ _ _ _ _ _ _ _ _ ?_⟩
        have I2 := I.step 0 (R := slR y i cap 1 (fun i => if i = k then .slice lp ln lc else g i)) (R' := slR p' (i + 1) c' 1 (fun i => if i = k then .slice lp ln lc else g i)) ((q2 p' c' h29 hres).conv (fun P => sl_congr P fun j hj => by
          by_cases e : j = i
          · rw [if_pos e, e, hv]
          · rw [if_neg e]) fun _ e => e)
        rw [show IntKind.wrap .i64 ((i : Int) + 1) = ((i + 1 : Nat) : Int) by rw [IntKind.wrap_i64]; omega]
        exact ih (i + 1) p' c' h29 (by omega) I2
      by_cases e : i = k
      · exact iT (beq_iff_eq.2 (by omega)) (fin _ (by rw [if_pos e]) rfl)
      · obtain ⟨ga, gb, gc, eg⟩ := hg i (by omega)
        rcases R.upd I.u fun _ _ => id with e0 | ⟨b, off, rfl, R1⟩
        · omega
        refine iF (beq_eq_false_iff_ne.2 (by omega)) ⟨_, _, _, k2, _, rfl, by omega, by omega, ga, gb, gc, (by rw [add_mk, Int.toNat_natCast, Nat.mul_one, R1 i (by omega), eg]), fin _ (by rw [if_neg e, eg]) rfl⟩
  exact key (O + 1) 0 none 0 h6 (by omega) I0
end
end Go.Proofs.YtnlcmfdmbgnpfaaGreat
