/- croftref6: Need, Trim. No condition. -/
import Derived.Test.YtippbfnhgooepaaZD2
set_option linter.unusedSimpArgs false
set_option linter.unusedVariables false
namespace Go.Proofs.Ytippbfnhgooepaa
open Go.V Classical

section
variable {w₀ : World} {h : Heap} {K : Value → Heap → Prop} {c : Cfg} {r : Nat} {Y : RW6} {O : Nat} {fl : Nat → List Nat} {L : List PBk}

theorem PowerZ {z : Int} {n : Nat} (hz : z = n) (hn : n ≤ 30) (hK : K (.int .i64 ((2 ^ n : Nat) : Int)) h) : CallV Try.prog w₀ F.croftref6_Power [.int .i64 z] h K := by
  rw [hz]; exact Power_ok hn hK

theorem enter6Z {p k : Nat} {z : Int} (hz : z = k) (hO : O ≤ 8) (hco : c.order = O) (hk : k ≤ O) (f : ∀ j, j ≤ O → (fl j).length ≤ 2100) (hp : p ≤ 4000) (H : (rfR Y O fl L).P h)
    (hK : ∀ h' Y', Stp h h' (rfR Y O fl L) (rfR Y' O (aUp fl p k (O - k)) L) → K (pv c r Y' O L) h') :
    CallV Try.prog w₀ F.croftref6_enter [pv c r Y O L, .int .i64 (p : Int), .int .i64 z] h K := by
  rw [hz]; exact enter6_ok hO hco hk f hp H hK

set_option maxHeartbeats 4000000 in
theorem Need6_ok {o : Int} {deny : Bool} (hO : O ≤ 8) (hco : c.order = O) (f : FlOk O fl) (hl : L.length ≤ 100000) (hr : r * 2 ^ O ≤ 2000) (H : (rfR Y O fl L).P h)
    (hb : (o < 0 ∨ o > O) → ∀ h', Stp h h' (rfR Y O fl L) (rfR Y O fl L) → K (.tuple #[pv c r Y O L, .int .i64 (-2), .bool false]) h')
    (ht : ∀ on : Nat, o = on → on ≤ O → ∀ j p l, on ≤ j → j ≤ O → fl j = p :: l → (∀ i, on ≤ i → i < j → fl i = []) → ∀ h' Y', Stp h h' (rfR Y O fl L) (rfR Y' O (aCut p on (fset fl j l) (j - on)) (L ++ [(p, on)])) → K (.tuple #[pv c r Y' O (L ++ [(p, on)]), .int .i64 (p : Int), .bool false]) h')
    (hm : ∀ on : Nat, o = on → on ≤ O → (∀ j, on ≤ j → j ≤ O → fl j = []) → (deny = true ∨ (r : Int) ≥ c.limit) → ∀ h', Stp h h' (rfR Y O fl L) (rfR Y O fl L) → K (.tuple #[pv c r Y O L, .int .i64 (-1), .bool false]) h')
    (hg : ∀ on : Nat, o = on → on ≤ O → (∀ j, on ≤ j → j ≤ O → fl j = []) → deny = false → (r : Int) < c.limit → ∀ h' Y', Stp h h' (rfR Y O fl L) (rfR Y' O (aCut (r * 2 ^ O) on (fset fl O []) (O - on)) (L ++ [(r * 2 ^ O, on)])) → K (.tuple #[pv c (r + 1) Y' O (L ++ [(r * 2 ^ O, on)]), .int .i64 ((r * 2 ^ O : Nat) : Int), .bool true]) h') :
    CallV Try.prog w₀ F.croftref6_Need [pv c r Y O L, .int .i64 o, .bool deny] h K := by
  refine croftref6_Need.call ?_
  unfold croftref6_Need.vc
  have N5 := box6 h (.int .u64 c.base) (.int .i64 c.limit) (.int .i64 c.order) (.int .i64 (r : Int)) (.slice Y.fp (O + 1) Y.fc) (.slice Y.vp L.length Y.vc) T.T_croftref6_Pool
  generalize Array.push h (.cells #[.int .u64 c.base, .int .i64 c.limit, .int .i64 c.order, .int .i64 (r : Int), .slice Y.fp (O + 1) Y.fc, .slice Y.vp L.length Y.vc] T.T_croftref6_Pool) = h5 at N5 ⊢
  have N6 := box6 h5 (.int .u64 0) (.int .i64 0) (.int .i64 0) (.int .i64 0) (.slice none 0 0) (.slice none 0 0) T.T_croftref6_Pool
  generalize Array.push h5 (.cells #[.int .u64 0, .int .i64 0, .int .i64 0, .int .i64 0, .slice none 0 0, .slice none 0 0] T.T_croftref6_Pool) = h6 at N6 ⊢
  obtain ⟨b0, eb0⟩ : ∃ b0, b0 = h.size := ⟨_, rfl⟩
  obtain ⟨b1, eb1⟩ : ∃ b1, b1 = h5.size := ⟨_, rfl⟩
  rw [← eb0] at N5 ⊢
  rw [← eb1] at N6 ⊢
  have u6 : Upd NoB h h6 := N5.u.nx N6.u fun _ e _ => e
  have I0 : Go.V.Own h h6 (rfR Y O fl L) [blkR b1 6 zF, blkR b0 6 (pvF c r Y O L), rfR Y O fl L] := ((Go.V.Own.of H).new N5).new N6
  obtain ⟨k0, k1, k2, k3, k4, k5⟩ := f6_cells (I0.at 1)
  have p8 := pow8 hO
  intro J3 hJ3
  by_cases ho : o < 0 ∨ o > O
  · have f3 : J3 true h6 := by
      refine hJ3 _ _ (iT rfl ⟨_, k0, _, k1, _, k2, _, k3, _, _, _, k4, _, _, _, k5, ?_⟩)
      obtain ⟨wa, Sa⟩ := assign6 (I0.at 0) (.int .u64 c.base) (.int .i64 c.limit) (.int .i64 c.order) (.int .i64 (r : Int)) (.slice Y.fp (O + 1) Y.fc) (.slice Y.vp L.length Y.vc)
      have Ia := I0.step 0 Sa
      refine ⟨wa, ?_⟩
      generalize setCs h6 ⟨b1, 0, none⟩ 0 [.int .u64 c.base, .int .i64 c.limit, .int .i64 c.order, .int .i64 (r : Int), .slice Y.fp (O + 1) Y.fc, .slice Y.vp L.length Y.vc] = ha at Ia ⊢
      obtain ⟨k0, k1, k2, k3, k4, k5⟩ := f6_cells (Ia.at 0)
      exact ⟨_, k0, _, k1, _, k2, _, k3, _, _, _, k4, _, _, _, k5, hb ho ha (Ia.one 2)⟩
    by_cases hlt : o < 0
    · exact pT (decide_eq_true hlt) f3
    · exact pF (decide_eq_false hlt) ⟨_, k2, by rw [show decide (o > c.order) = true from decide_eq_true (by omega)]; exact f3⟩
  obtain ⟨on, rfl⟩ : ∃ on : Nat, o = on := ⟨o.toNat, by omega⟩
  have hon : on ≤ O := by omega
  refine pF (decide_eq_false (by omega)) ⟨_, k2, ?_⟩
  rw [show decide ((on : Int) > c.order) = false from decide_eq_false (by omega)]
  refine hJ3 _ _ (iF rfl ⟨_, k0, _, k1, _, k2, _, k3, _, _, _, k4, _, _, _, k5, ?_⟩)
  refine Take6_ok hO hco hon f hl (I0.at 2) (fun hF h7 u7 => ⟨_, _, _, _, _, _, _, _, _, _, _, rfl, ?_⟩) fun j p l j1 j2 hF hi h7 Y' S7 => ⟨_, _, _, _, _, _, _, _, _, _, _, rfl, ?_⟩
  · have I7 := I0.quiet u7
    have N8 := box6 h7 (.int .u64 0) (.int .i64 0) (.int .i64 0) (.int .i64 0) (.slice none 0 0) (.slice none 0 0) T.T_croftref6_Pool
    generalize Array.push h7 (.cells #[.int .u64 0, .int .i64 0, .int .i64 0, .int .i64 0, .slice none 0 0, .slice none 0 0] T.T_croftref6_Pool) = h8 at N8 ⊢
    obtain ⟨b2, eb2⟩ : ∃ b2, b2 = h7.size := ⟨_, rfl⟩
    rw [← eb2] at N8 ⊢
    have I8 := I7.new N8
    obtain ⟨wb, Sb⟩ := assign6 (I8.at 0) (.int .u64 c.base) (.int .i64 c.limit) (.int .i64 c.order) (.int .i64 (r : Int)) (.slice Y.fp (O + 1) Y.fc) (.slice Y.vp L.length Y.vc)
    have Ib := I8.step 0 Sb
    refine ⟨wb, ?_⟩
    generalize setCs h8 ⟨b2, 0, none⟩ 0 [.int .u64 c.base, .int .i64 c.limit, .int .i64 c.order, .int .i64 (r : Int), .slice Y.fp (O + 1) Y.fc, .slice Y.vp L.length Y.vc] = hb at Ib ⊢
    obtain ⟨k0, k1, k2, k3, k4, k5⟩ := f6_cells (Ib.at 0)
    refine iF rfl fun J9 hJ9 => ?_
    obtain ⟨m0, m1, m2, m3, m4, m5⟩ := f6_cells (Ib.at 2)
    have no : (deny = true ∨ (r : Int) ≥ c.limit) → J9 true hb := fun hd => by
      refine hJ9 _ _ (iT rfl ⟨_, m0, _, m1, _, m2, _, m3, _, _, _, m4, _, _, _, m5, ?_⟩)
      obtain ⟨wc, Sc⟩ := assign6 (Ib.at 1) (.int .u64 c.base) (.int .i64 c.limit) (.int .i64 c.order) (.int .i64 (r : Int)) (.slice Y.fp (O + 1) Y.fc) (.slice Y.vp L.length Y.vc)
      have Ic := Ib.step 1 Sc
      refine ⟨wc, ?_⟩
      generalize setCs hb ⟨b1, 0, none⟩ 0 [.int .u64 c.base, .int .i64 c.limit, .int .i64 c.order, .int .i64 (r : Int), .slice Y.fp (O + 1) Y.fc, .slice Y.vp L.length Y.vc] = hc at Ic ⊢
      obtain ⟨k0, k1, k2, k3, k4, k5⟩ := f6_cells (Ic.at 1)
      exact ⟨_, k0, _, k1, _, k2, _, k3, _, _, _, k4, _, _, _, k5, hm on rfl hon hF hd hc (Ic.one 3)⟩
    cases deny with
    | true => exact pT rfl (no (.inl rfl))
    | false =>
      refine pF rfl ⟨_, m3, _, m1, ?_⟩
      by_cases hge : (r : Int) ≥ c.limit
      · rw [decide_eq_true hge]
        exact no (.inr hge)
      rw [decide_eq_false hge]
      refine hJ9 _ _ (iF rfl ⟨_, m0, _, m1, _, m2, _, m3, _, _, _, m4, _, _, _, m5, _, m3, _, m2, _, m2, ?_⟩)
      refine PowerZ hco (by omega) ⟨_, rfl, m2, m3, m0, m1, m2, m3, m4, m5, ?_⟩
      rw [show IntKind.wrap .i64 ((r : Int) * ((2 ^ O : Nat) : Int)) = ((r * 2 ^ O : Nat) : Int) by rw [← Int.natCast_mul]; exact wrN (by omega)]
      refine enter6Z hco hO hco (Nat.le_refl _) (fun j hj => Nat.le_trans (f.len j hj) (by omega)) (by omega) (Ib.at 3) fun hc Y' Sc => ⟨_, _, _, _, _, _, _, _, _, _, rfl, ?_⟩
      have Ic := Ib.step 3 Sc
      rw [Nat.sub_self] at Ic
      have hFO : fl O = [] := hF O hon (Nat.le_refl _)
      have eUp : aUp fl (r * 2 ^ O) O 0 = fset fl O [r * 2 ^ O] := by show fset fl O (r * 2 ^ O :: fl O) = _; rw [hFO]
      rw [eUp] at Ic
      obtain ⟨wd, Sd⟩ := assign6 (Ic.at 2) (.int .u64 c.base) (.int .i64 c.limit) (.int .i64 c.order) (.int .i64 (r : Int)) (.slice Y'.fp (O + 1) Y'.fc) (.slice Y'.vp L.length Y'.vc)
      have Id := Ic.step 2 Sd
      refine ⟨wd, ?_⟩
      generalize setCs hc ⟨b0, 0, none⟩ 0 [.int .u64 c.base, .int .i64 c.limit, .int .i64 c.order, .int .i64 (r : Int), .slice Y'.fp (O + 1) Y'.fc, .slice Y'.vp L.length Y'.vc] = hd at Id ⊢
      obtain ⟨m0, m1, m2, m3, m4, m5⟩ := f6_cells (Id.at 2)
      obtain ⟨we, Se⟩ := f6_set3 (Id.at 2) (.int .i64 ((r + 1 : Nat) : Int))
      have Ie := Id.step 2 Se
      refine ⟨_, m3, ?_⟩
      rw [show IntKind.wrap .i64 ((r : Int) + 1) = ((r + 1 : Nat) : Int) by
        have : r ≤ r * 2 ^ O := Nat.le_mul_of_pos_right _ (by omega)
        rw [IntKind.wrap_i64]; omega]
      refine ⟨we, ?_⟩
      generalize setC hd ((⟨b0, 0, none⟩ : Addr).add 3) (.int .i64 ((r + 1 : Nat) : Int)) = he at Ie ⊢
      obtain ⟨m0, m1, m2, m3, m4, m5⟩ := f6_cells (Ie.at 2)
      refine ⟨_, m0, _, m1, _, m2, _, m3, _, _, _, m4, _, _, _, m5, ?_⟩
      have f' : FlOk O (fset fl O [r * 2 ^ O]) := ⟨fun k hk => by unfold fset; split; simp; exact f.len k hk, fun k hk => by unfold fset; split; simp; exact f.nd k hk, fun k hk p hp => by
        unfold fset at hp
        split at hp
        · have : p = r * 2 ^ O := by simpa using hp
          omega
        · exact f.bd k hk p hp⟩
      refine Take6_ok hO hco hon f' hl (Ie.at 3) (fun hE => ?_) fun j p l j1 j2 hFj hi hf Y2 Sf => ⟨_, _, _, _, _, _, _, _, _, _, _, rfl, ?_⟩
      · have := hE O hon (Nat.le_refl _)
        rw [fset_same] at this; cases this
      have hj : j = O := Classical.byContradiction fun hne => by
        rw [fset_ne _ _ hne, hF j j1 j2] at hFj; cases hFj
      subst hj
      rw [fset_same] at hFj
      cases hFj
      have ef : fset (fset fl j [r * 2 ^ j]) j [] = fset fl j [] := funext fun i => by
        unfold fset; split <;> rfl
      rw [ef] at Sf
      have If := Ie.step 3 Sf
      obtain ⟨wg, Sg⟩ := assign6 (If.at 0) (.int .u64 c.base) (.int .i64 c.limit) (.int .i64 c.order) (.int .i64 ((r + 1 : Nat) : Int)) (.slice Y2.fp (j + 1) Y2.fc) (.slice Y2.vp (L ++ [(r * 2 ^ j, on)]).length Y2.vc)
      have Ig := If.step 0 Sg
      refine ⟨wg, ?_⟩
      generalize setCs hf ⟨b2, 0, none⟩ 0 [.int .u64 c.base, .int .i64 c.limit, .int .i64 c.order, .int .i64 ((r + 1 : Nat) : Int), .slice Y2.fp (j + 1) Y2.fc, .slice Y2.vp (L ++ [(r * 2 ^ j, on)]).length Y2.vc] = hgg at Ig ⊢
      obtain ⟨k0, k1, k2, k3, k4, k5⟩ := f6_cells (Ig.at 0)
      refine ⟨_, k0, _, k1, _, k2, _, k3, _, _, _, k4, _, _, _, k5, ?_⟩
      obtain ⟨wh, Sh⟩ := assign6 (Ig.at 1) (.int .u64 c.base) (.int .i64 c.limit) (.int .i64 c.order) (.int .i64 ((r + 1 : Nat) : Int)) (.slice Y2.fp (j + 1) Y2.fc) (.slice Y2.vp (L ++ [(r * 2 ^ j, on)]).length Y2.vc)
      have Ih := Ig.step 1 Sh
      refine ⟨wh, ?_⟩
      generalize setCs hgg ⟨b1, 0, none⟩ 0 [.int .u64 c.base, .int .i64 c.limit, .int .i64 c.order, .int .i64 ((r + 1 : Nat) : Int), .slice Y2.fp (j + 1) Y2.fc, .slice Y2.vp (L ++ [(r * 2 ^ j, on)]).length Y2.vc] = hh at Ih ⊢
      obtain ⟨k0, k1, k2, k3, k4, k5⟩ := f6_cells (Ih.at 1)
      exact ⟨_, k0, _, k1, _, k2, _, k3, _, _, _, k4, _, _, _, k5, hg on rfl hon hF rfl (by omega) hh Y2 (Ih.one 3)⟩
  · have I7 := I0.step 2 S7
    have N8 := box6 h7 (.int .u64 0) (.int .i64 0) (.int .i64 0) (.int .i64 0) (.slice none 0 0) (.slice none 0 0) T.T_croftref6_Pool
    generalize Array.push h7 (.cells #[.int .u64 0, .int .i64 0, .int .i64 0, .int .i64 0, .slice none 0 0, .slice none 0 0] T.T_croftref6_Pool) = h8 at N8 ⊢
    obtain ⟨b2, eb2⟩ : ∃ b2, b2 = h7.size := ⟨_, rfl⟩
    rw [← eb2] at N8 ⊢
    have I8 := I7.new N8
    obtain ⟨wb, Sb⟩ := assign6 (I8.at 0) (.int .u64 c.base) (.int .i64 c.limit) (.int .i64 c.order) (.int .i64 (r : Int)) (.slice Y'.fp (O + 1) Y'.fc) (.slice Y'.vp (L ++ [(p, on)]).length Y'.vc)
    have Ib := I8.step 0 Sb
    refine ⟨wb, ?_⟩
    generalize setCs h8 ⟨b2, 0, none⟩ 0 [.int .u64 c.base, .int .i64 c.limit, .int .i64 c.order, .int .i64 (r : Int), .slice Y'.fp (O + 1) Y'.fc, .slice Y'.vp (L ++ [(p, on)]).length Y'.vc] = hb at Ib ⊢
    obtain ⟨k0, k1, k2, k3, k4, k5⟩ := f6_cells (Ib.at 0)
    refine iT (decide_eq_true (by omega)) ⟨_, k0, _, k1, _, k2, _, k3, _, _, _, k4, _, _, _, k5, ?_⟩
    obtain ⟨wc, Sc⟩ := assign6 (Ib.at 1) (.int .u64 c.base) (.int .i64 c.limit) (.int .i64 c.order) (.int .i64 (r : Int)) (.slice Y'.fp (O + 1) Y'.fc) (.slice Y'.vp (L ++ [(p, on)]).length Y'.vc)
    have Ic := Ib.step 1 Sc
    refine ⟨wc, ?_⟩
    generalize setCs hb ⟨b1, 0, none⟩ 0 [.int .u64 c.base, .int .i64 c.limit, .int .i64 c.order, .int .i64 (r : Int), .slice Y'.fp (O + 1) Y'.fc, .slice Y'.vp (L ++ [(p, on)]).length Y'.vc] = hc at Ic ⊢
    obtain ⟨k0, k1, k2, k3, k4, k5⟩ := f6_cells (Ic.at 1)
    exact ⟨_, k0, _, k1, _, k2, _, k3, _, _, _, k4, _, _, _, k5, ht on rfl hon j p l j1 j2 hF hi hc Y' (Ic.one 3)⟩

set_option maxHeartbeats 4000000 in
theorem Trim6_ok (hO : O ≤ 8) (hco : c.order = O) (f : ∀ j, j ≤ O → (fl j).length ≤ 2100) (hr : r * 2 ^ O ≤ 2000) (H : (rfR Y O fl L).P h)
    (hK : ∀ r' fl', trimF O r fl = (r', fl') → ∀ h' Y', Stp h h' (rfR Y O fl L) (rfR Y' O fl' L) → K (.tuple #[pv c r' Y' O L, .int .i64 ((r - r' : Nat) : Int)]) h') :
    CallV Try.prog w₀ F.croftref6_Trim [pv c r Y O L] h K := by
  refine croftref6_Trim.call ?_
  unfold croftref6_Trim.vc
  have N5 := box6 h (.int .u64 c.base) (.int .i64 c.limit) (.int .i64 c.order) (.int .i64 (r : Int)) (.slice Y.fp (O + 1) Y.fc) (.slice Y.vp L.length Y.vc) T.T_croftref6_Pool
  generalize Array.push h (.cells #[.int .u64 c.base, .int .i64 c.limit, .int .i64 c.order, .int .i64 (r : Int), .slice Y.fp (O + 1) Y.fc, .slice Y.vp L.length Y.vc] T.T_croftref6_Pool) = h5 at N5 ⊢
  have N6 := box6 h5 (.int .u64 0) (.int .i64 0) (.int .i64 0) (.int .i64 0) (.slice none 0 0) (.slice none 0 0) T.T_croftref6_Pool
  generalize Array.push h5 (.cells #[.int .u64 0, .int .i64 0, .int .i64 0, .int .i64 0, .slice none 0 0, .slice none 0 0] T.T_croftref6_Pool) = h6 at N6 ⊢
  obtain ⟨b0, eb0⟩ : ∃ b0, b0 = h.size := ⟨_, rfl⟩
  obtain ⟨b1, eb1⟩ : ∃ b1, b1 = h5.size := ⟨_, rfl⟩
  rw [← eb0] at N5 ⊢
  rw [← eb1] at N6 ⊢
  have u6 : Upd NoB h h6 := N5.u.nx N6.u fun _ e _ => e
  have I0 : Go.V.Own h h6 (rfR Y O fl L) [frR Y O fl, blkR b1 6 zF, blkR b0 6 (pvF c r Y O L), liR Y L] := (((Go.V.Own.of H).split.new N5).new N6).perm ((List.Perm.swap _ _ _).trans (List.Perm.cons _ (.swap _ _ _)))
  intro J3 hJ3 L5 hL5
  have p8 := pow8 hO
  have hr2 : r ≤ 2000 := Nat.le_trans (Nat.le_mul_of_pos_right _ (by omega)) hr
  have fin : ∀ (s : Nat) (F : Nat → List Nat) (Z : RW6) (hx : Heap), s ≤ r → Z.fp = Y.fp → Z.fc = Y.fc → Z.vp = Y.vp → Z.vc = Y.vc → trimF O r fl = (s, F) →
      Go.V.Own h hx (rfR Y O fl L) [frR Z O F, blkR b1 6 zF, blkR b0 6 (pvF c s Y O L), liR Y L] → J3 [.pointer (some ⟨b0, 0, none⟩), .pointer (some ⟨b1, 0, none⟩), .int .i64 ((r - s : Nat) : Int)] hx := by
    intro s F Z hx hs e1 e1' e2 e3 hA I
    obtain ⟨k0, k1, k2, k3, k4, k5⟩ := f6_cells (I.at 2)
    refine hJ3 _ _ _ _ ⟨_, k0, _, k1, _, k2, _, k3, _, _, _, k4, _, _, _, k5, ?_⟩
    obtain ⟨wb, Sb⟩ := assign6 (I.at 1) (.int .u64 c.base) (.int .i64 c.limit) (.int .i64 c.order) (.int .i64 (s : Int)) (.slice Y.fp (O + 1) Y.fc) (.slice Y.vp L.length Y.vc)
    have Ib := I.step 1 Sb
    refine ⟨wb, ?_⟩
    generalize setCs hx ⟨b1, 0, none⟩ 0 [.int .u64 c.base, .int .i64 c.limit, .int .i64 c.order, .int .i64 (s : Int), .slice Y.fp (O + 1) Y.fc, .slice Y.vp L.length Y.vc] = hb at Ib ⊢
    obtain ⟨k0, k1, k2, k3, k4, k5⟩ := f6_cells (Ib.at 1)
    have := hK s F hA hb Z (by
      have S := Ib.two 0 3
      show Stp _ _ _ (andR _ (slR Z.vp L.length Z.vc 2 (runV (prL L))))
      rw [e2, e3]
      exact S)
    have this : K (.tuple #[.agg #[.int .u64 c.base, .int .i64 c.limit, .int .i64 c.order, .int .i64 (s : Int), .slice Z.fp (O + 1) Z.fc, .slice Z.vp L.length Z.vc], .int .i64 ((r - s : Nat) : Int)]) hb := this
    rw [e1, e1', e2, e3] at this
    exact ⟨_, k0, _, k1, _, k2, _, k3, _, _, _, k4, _, _, _, k5, this⟩
  have key : ∀ (s : Nat) (F : Nat → List Nat) (Z : RW6) (hx : Heap), s ≤ r → Z.fp = Y.fp → Z.fc = Y.fc → Z.vp = Y.vp → Z.vc = Y.vc → (∀ j, j ≤ O → (F j).length ≤ 2100) → trimF O r fl = trimF O s F →
      Go.V.Own h hx (rfR Y O fl L) [frR Z O F, blkR b1 6 zF, blkR b0 6 (pvF c s Y O L), liR Y L] → L5 [.pointer (some ⟨b0, 0, none⟩), .pointer (some ⟨b1, 0, none⟩), .int .i64 ((r - s : Nat) : Int)] hx := by
    intro s
    induction s with
    | zero =>
      intro F Z hx hs e1 e1' e2 e3 hlF hA I
      obtain ⟨k0, k1, k2, k3, k4, k5⟩ := f6_cells (I.at 2)
      exact hL5 _ _ _ _ ⟨_, k3, iF (decide_eq_false (by omega)) (fin 0 F Z hx (by omega) e1 e1' e2 e3 hA I)⟩
    | succ s ih =>
      intro F Z hx hs e1 e1' e2 e3 hlF hA I
      obtain ⟨k0, k1, k2, k3, k4, k5⟩ := f6_cells (I.at 2)
      have hlk := hlF O (Nat.le_refl _)
      obtain ⟨bz, ezp, vz⟩ := fr_cell (I.at 0) (Nat.le_refl O)
      have RZ : (slR (Z.lp O) (F O).length (Z.lc O) 1 (nV (F O))).P hx := fr_row (I.at 0) (Nat.le_refl _)
      have ezp' : Y.fp = some ⟨bz, 0, none⟩ := by rw [← e1]; exact ezp
      have hsO : s * 2 ^ O ≤ 2000 := Nat.le_trans (Nat.mul_le_mul_right _ (by omega)) hr
      refine hL5 _ _ _ _ ⟨_, k3, iT (decide_eq_true (by omega)) ⟨_, _, _, k4, _, k2, _, ezp', by omega, by omega, _, _, _, by rw [hco, at1]; exact vz, _, k3, _, k2, ?_⟩⟩
      rw [hco]
      refine Power_ok (by omega) ⟨_, rfl, k3, by rw [at1]; exact vz, by rw [← hco]; exact k2, k4, ?_⟩
      rw [show IntKind.wrap .i64 (IntKind.wrap .i64 (((s + 1 : Nat) : Int) - 1) * ((2 ^ O : Nat) : Int)) = ((s * 2 ^ O : Nat) : Int) by
        rw [show IntKind.wrap .i64 (((s + 1 : Nat) : Int) - 1) = (s : Int) by rw [IntKind.wrap_i64]; omega, ← Int.natCast_mul]
        exact wrN (by omega)]
      refine without6_ok (by omega) (sl_row RZ) fun h9 p9 c9 N9 => ⟨_, _, _, _, rfl, ?_⟩
      have IN := I.quiet N9.u
      obtain ⟨m0, m1, m2, m3, m4, m5⟩ := f6_cells (IN.at 2)
      have hA : trimF O r fl = if s * 2 ^ O ∈ F O then trimF O s (fset F O ((F O).filter (· ≠ s * 2 ^ O))) else (s + 1, F) := hA
      by_cases hm : s * 2 ^ O ∈ F O
      · rw [if_pos hm] at hA
        rw [decide_eq_true hm]
        refine iF rfl ⟨_, _, _, m4, _, m2, _, ezp', by omega, by omega, ?_⟩
        obtain ⟨b9, e9, hc9, w9, I9⟩ := own_put I (Nat.le_refl O) N9
        rw [ezp] at e9
        cases e9
        rw [hco, at1]
        refine ⟨w9, ?_⟩
        generalize setC h9 ⟨bz, O, none⟩ (.slice p9 ((F O).filter (· ≠ s * 2 ^ O)).length c9) = ha at I9 ⊢
        obtain ⟨we, Se⟩ := f6_set3 (I9.at 2) (.int .i64 (s : Int))
        have Ie := I9.step 2 Se
        refine ⟨_, (f6_cells (I9.at 2)).2.2.2.1, ?_⟩
        rw [show IntKind.wrap .i64 (((s + 1 : Nat) : Int) - 1) = (s : Int) by rw [IntKind.wrap_i64]; omega]
        refine ⟨we, ?_⟩
        rw [show IntKind.wrap .i64 (((r - (s + 1) : Nat) : Int) + 1) = ((r - s : Nat) : Int) by rw [IntKind.wrap_i64]; omega]
        refine ih (fset F O ((F O).filter (· ≠ s * 2 ^ O))) { Z with lp := fset Z.lp O p9, lc := fset Z.lc O c9 } _ (by omega) e1 e1' e2 e3 (fun j hj => ?_) hA Ie
        have := hlF j hj
        unfold fset
        split
        · have := List.length_filter_le (· ≠ s * 2 ^ O) (F O)
          omega
        · exact this
      · rw [if_neg hm] at hA
        rw [decide_eq_false hm]
        exact iT rfl (fin (s + 1) F Z h9 hs e1 e1' e2 e3 hA IN)
  have := key r fl Y h6 (Nat.le_refl _) rfl rfl rfl rfl f rfl I0
  rw [Nat.sub_self] at this
  exact this
end
end Go.Proofs.Ytippbfnhgooepaa
