/- croftref6: enter, Address, Give, Trim. No condition. -/
import Derived.Test.YtippbfnhgooepaaZD1
set_option linter.unusedSimpArgs false
set_option linter.unusedVariables false
namespace Go.Proofs.Ytippbfnhgooepaa
open Go.V Classical

section
variable {w₀ : World} {h : Heap} {K : Value → Heap → Prop} {c : Cfg} {r : Nat} {Y : RW6} {O : Nat} {fl : Nat → List Nat} {L : List PBk}

theorem Address6_ok {a b d : Int} {p : Nat} (ha : 0 < a ∧ a ≤ 9223372036854775807) (hp : p ≤ 100000) (hK : ∀ h', Upd NoB h h' → K (.int .u64 (a + 4096 * (p : Int))) h') :
    CallV Try.prog w₀ F.croftref6_Address [.agg #[.int .u64 a, .int .i64 b, .int .i64 d], .int .i64 (p : Int)] h K := by
  refine croftref6_Address.call ?_
  unfold croftref6_Address.vc
  have N5 := box3 h (.int .u64 a) (.int .i64 b) (.int .i64 d) T.T_api_Config
  generalize Array.push h (.cells #[.int .u64 a, .int .i64 b, .int .i64 d] T.T_api_Config) = h5 at N5 ⊢
  obtain ⟨k0, k1, k2⟩ := f3_cells N5.p
  refine ⟨_, k0, ?_⟩
  rw [show IntKind.wrap .u64 (a + IntKind.wrap .u64 (4096 * IntKind.wrap .u64 (p : Int))) = a + 4096 * (p : Int) by rw [IntKind.wrap_u64, IntKind.wrap_u64, IntKind.wrap_u64]; omega]
  exact hK h5 N5.u

theorem enter6_ok {p k : Nat} (hO : O ≤ 8) (hco : c.order = O) (hk : k ≤ O) (f : ∀ j, j ≤ O → (fl j).length ≤ 2100) (hp : p ≤ 4000) (H : (rfR Y O fl L).P h)
    (hK : ∀ h' Y', Stp h h' (rfR Y O fl L) (rfR Y' O (aUp fl p k (O - k)) L) → K (pv c r Y' O L) h') :
    CallV Try.prog w₀ F.croftref6_enter [pv c r Y O L, .int .i64 (p : Int), .int .i64 (k : Int)] h K := by
  refine croftref6_enter.call ?_
  unfold croftref6_enter.vc
  have N5 := box6 h (.int .u64 c.base) (.int .i64 c.limit) (.int .i64 c.order) (.int .i64 (r : Int)) (.slice Y.fp (O + 1) Y.fc) (.slice Y.vp L.length Y.vc) T.T_croftref6_Pool
  generalize Array.push h (.cells #[.int .u64 c.base, .int .i64 c.limit, .int .i64 c.order, .int .i64 (r : Int), .slice Y.fp (O + 1) Y.fc, .slice Y.vp L.length Y.vc] T.T_croftref6_Pool) = h5 at N5 ⊢
  have N6 := box6 h5 (.int .u64 0) (.int .i64 0) (.int .i64 0) (.int .i64 0) (.slice none 0 0) (.slice none 0 0) T.T_croftref6_Pool
  generalize Array.push h5 (.cells #[.int .u64 0, .int .i64 0, .int .i64 0, .int .i64 0, .slice none 0 0, .slice none 0 0] T.T_croftref6_Pool) = h6 at N6 ⊢
  obtain ⟨b0, eb0⟩ : ∃ b0, b0 = h.size := ⟨_, rfl⟩
  obtain ⟨b1, eb1⟩ : ∃ b1, b1 = h5.size := ⟨_, rfl⟩
  rw [← eb0] at N5 ⊢
  rw [← eb1] at N6 ⊢
  have u6 : Upd NoB h h6 := N5.u.nx N6.u fun _ e _ => e
  have I0 : Go.V.Own h h6 (rfR Y O fl L) [frR Y O fl, blkR b1 6 zF, blkR b0 6 (pvF c r Y O L), liR Y L] := (((Go.V.Own.of H).split.new N5).new N6).perm ((List.Perm.swap _ _ _).trans (List.Perm.cons _ (.swap _ _ _)))
  intro J3 hJ3 L7 hL7
  have fin : ∀ (p' k' : Nat) (F : Nat → List Nat) (Z : RW6) (hx : Heap), k' ≤ O → Z.fp = Y.fp → Z.fc = Y.fc → Z.vp = Y.vp → Z.vc = Y.vc → (∀ j, j ≤ O → (F j).length ≤ 2100) → fset F k' (p' :: F k') = aUp fl p k (O - k) →
      Go.V.Own h hx (rfR Y O fl L) [frR Z O F, blkR b1 6 zF, blkR b0 6 (pvF c r Y O L), liR Y L] → J3 [.int .i64 (p' : Int), .pointer (some ⟨b0, 0, none⟩), .pointer (some ⟨b1, 0, none⟩), .int .i64 (k' : Int)] hx := by
    intro p' k' F Z hx hkO e1 e1' e2 e3 hlF hA I
    obtain ⟨k0, k1, k2, k3, k4, k5⟩ := f6_cells (I.at 2)
    obtain ⟨bz, ezp, vz⟩ := fr_cell (I.at 0) hkO
    have RZ : (slR (Z.lp k') (F k').length (Z.lc k') 1 (nV (F k'))).P hx := fr_row (I.at 0) hkO
    have ezp' : Y.fp = some ⟨bz, 0, none⟩ := by rw [← e1]; exact ezp
    have hlk := hlF k' hkO
    refine hJ3 _ _ _ _ _ ⟨_, _, _, k4, _, _, _, k4, _, ezp', by omega, by omega, _, _, _, by rw [at1]; exact vz, ?_⟩
    refine push6_ok (by omega) (sl_row RZ) fun h9 p9 c9 N9 => ⟨_, _, _, rfl, (f6_cells ((I.quiet N9.u).at 2)).2.2.2.2.1, _, ezp', by omega, by omega, ?_⟩
    obtain ⟨b9, e9, hc9, w9, I9⟩ := own_put I hkO N9
    rw [ezp] at e9
    cases e9
    rw [at1]
    refine ⟨w9, ?_⟩
    generalize setC h9 ⟨bz, k', none⟩ (.slice p9 (p' :: F k').length c9) = ha at I9 ⊢
    obtain ⟨k0, k1, k2, k3, k4, k5⟩ := f6_cells (I9.at 2)
    refine ⟨_, k0, _, k1, _, k2, _, k3, _, _, _, k4, _, _, _, k5, ?_⟩
    obtain ⟨wb, Sb⟩ := assign6 (I9.at 1) (.int .u64 c.base) (.int .i64 c.limit) (.int .i64 c.order) (.int .i64 (r : Int)) (.slice Y.fp (O + 1) Y.fc) (.slice Y.vp L.length Y.vc)
    have Ib := I9.step 1 Sb
    refine ⟨wb, ?_⟩
    generalize setCs ha ⟨b1, 0, none⟩ 0 [.int .u64 c.base, .int .i64 c.limit, .int .i64 c.order, .int .i64 (r : Int), .slice Y.fp (O + 1) Y.fc, .slice Y.vp L.length Y.vc] = hb at Ib ⊢
    obtain ⟨k0, k1, k2, k3, k4, k5⟩ := f6_cells (Ib.at 1)
    have := hK hb { Z with lp := fset Z.lp k' p9, lc := fset Z.lc k' c9 } (by
      have S := Ib.two 0 3
      rw [hA] at S
      show Stp _ _ _ (andR _ (slR Z.vp L.length Z.vc 2 (runV (prL L))))
      rw [e2, e3]
      exact S)
    have this : K (.agg #[.int .u64 c.base, .int .i64 c.limit, .int .i64 c.order, .int .i64 (r : Int), .slice Z.fp (O + 1) Z.fc, .slice Z.vp L.length Z.vc]) hb := this
    rw [e1, e1', e2, e3] at this
    exact ⟨_, k0, _, k1, _, k2, _, k3, _, _, _, k4, _, _, _, k5, this⟩
  have key : ∀ (d p' k' : Nat) (F : Nat → List Nat) (Z : RW6) (hx : Heap), k' + d = O → p' ≤ 4000 → Z.fp = Y.fp → Z.fc = Y.fc → Z.vp = Y.vp → Z.vc = Y.vc → (∀ j, j ≤ O → (F j).length ≤ 2100) → aUp F p' k' d = aUp fl p k (O - k) →
      Go.V.Own h hx (rfR Y O fl L) [frR Z O F, blkR b1 6 zF, blkR b0 6 (pvF c r Y O L), liR Y L] → L7 [.int .i64 (p' : Int), .pointer (some ⟨b0, 0, none⟩), .pointer (some ⟨b1, 0, none⟩), .int .i64 (k' : Int)] hx := by
    intro d
    induction d with
    | zero =>
      intro p' k' F Z hx hd hp' e1 e1' e2 e3 hlF hA I
      obtain ⟨k0, k1, k2, k3, k4, k5⟩ := f6_cells (I.at 2)
      exact hL7 _ _ _ _ _ ⟨_, k2, iF (decide_eq_false (by omega)) (fin p' k' F Z hx (by omega) e1 e1' e2 e3 hlF hA I)⟩
    | succ d ih =>
      intro p' k' F Z hx hd hp' e1 e1' e2 e3 hlF hA I
      have hkO : k' ≤ O := by omega
      obtain ⟨k0, k1, k2, k3, k4, k5⟩ := f6_cells (I.at 2)
      have h8 := pow8 (show k' ≤ 8 by omega)
      have hA : (if bud p' k' ∈ F k' then aUp (fset F k' ((F k').filter (· ≠ bud p' k'))) (dwn p' k') (k' + 1) d else fset F k' (p' :: F k')) = aUp fl p k (O - k) := hA
      refine hL7 _ _ _ _ _ ⟨_, k2, iT (decide_eq_true (by omega)) (Power_ok (by omega) ⟨_, rfl, fun J9 hJ9 => ?_⟩)⟩
      have m9 : J9 [.int .i64 (p' : Int), .pointer (some ⟨b0, 0, none⟩), .pointer (some ⟨b1, 0, none⟩), .int .i64 (k' : Int), .int .i64 ((bud p' k' : Nat) : Int)] hx := by
        obtain ⟨bz, ezp, vz⟩ := fr_cell (I.at 0) hkO
        have RZ : (slR (Z.lp k') (F k').length (Z.lc k') 1 (nV (F k'))).P hx := fr_row (I.at 0) hkO
        have ezp' : Y.fp = some ⟨bz, 0, none⟩ := by rw [← e1]; exact ezp
        have hlk := hlF k' hkO
        refine hJ9 _ _ _ _ _ _ ⟨_, _, _, k4, _, ezp', by omega, by omega, _, _, _, by rw [at1]; exact vz, ?_⟩
        refine without6_ok (by omega) (sl_row RZ) fun h9 p9 c9 N9 => ⟨_, _, _, _, rfl, ?_⟩
        have IN := I.quiet N9.u
        by_cases hm : bud p' k' ∈ F k'
        · rw [if_pos hm] at hA
          rw [decide_eq_true hm]
          refine iF rfl ⟨_, _, _, (f6_cells (IN.at 2)).2.2.2.2.1, _, ezp', by omega, by omega, ?_⟩
          obtain ⟨b9, e9, hc9, w9, I9⟩ := own_put I hkO N9
          rw [ezp] at e9
          cases e9
          rw [at1]
          refine ⟨w9, ?_⟩
          generalize setC h9 ⟨bz, k', none⟩ (.slice p9 ((F k').filter (· ≠ bud p' k')).length c9) = ha at I9 ⊢
          intro J12 hJ12
          have m12 : J12 [.int .i64 ((dwn p' k' : Nat) : Int), .pointer (some ⟨b0, 0, none⟩), .pointer (some ⟨b1, 0, none⟩), .int .i64 (k' : Int)] ha := by
            refine hJ12 _ _ _ _ _ ?_
            rw [show IntKind.wrap .i64 ((k' : Int) + 1) = ((k' + 1 : Nat) : Int) by rw [IntKind.wrap_i64]; omega]
            refine ih (dwn p' k') (k' + 1) (fset F k' ((F k').filter (· ≠ bud p' k'))) { Z with lp := fset Z.lp k' p9, lc := fset Z.lc k' c9 } ha (by omega) (by unfold dwn; split <;> omega) e1 e1' e2 e3 (fun j hj => ?_) hA I9
            have := hlF j hj
            unfold fset
            split
            · have := List.length_filter_le (· ≠ bud p' k') (F k')
              omega
            · exact this
          unfold bud dwn at *
          by_cases hz : p' / 2 ^ k' % 2 = 0
          · rw [if_pos hz] at m12 ⊢
            exact iF (decide_eq_false (by omega)) m12
          · rw [if_neg hz] at m12 ⊢
            have hge : 2 ^ k' ≤ p' := Classical.byContradiction fun hlt => hz (by rw [Nat.div_eq_of_lt (by omega)])
            exact iT (decide_eq_true (by omega)) m12
        · rw [if_neg hm] at hA
          rw [decide_eq_false hm]
          exact iT rfl (fin p' k' F Z h9 hkO e1 e1' e2 e3 hlF hA IN)
      refine ⟨by omega, by decide, ?_⟩
      have ed : IntKind.wrap .i64 (Int.tdiv (p' : Int) ((2 ^ k' : Nat) : Int)) = ((p' / 2 ^ k' : Nat) : Int) := by
        rw [show Int.tdiv (p' : Int) ((2 ^ k' : Nat) : Int) = ((p' / 2 ^ k' : Nat) : Int) from rfl]
        exact wrN (Nat.le_trans (Nat.div_le_self _ _) (by omega))
      rw [ed]
      have em : Int.tmod ((p' / 2 ^ k' : Nat) : Int) 2 = ((p' / 2 ^ k' % 2 : Nat) : Int) := rfl
      rw [em]
      have h2 : p' / 2 ^ k' % 2 < 2 := Nat.mod_lt _ (by omega)
      unfold bud at m9
      by_cases hz : p' / 2 ^ k' % 2 = 0
      · rw [if_pos hz] at m9
        refine iF (beq_false_of_ne (by omega)) ?_
        rw [show IntKind.wrap .i64 ((p' : Int) + ((2 ^ k' : Nat) : Int)) = ((p' + 2 ^ k' : Nat) : Int) by rw [IntKind.wrap_i64]; omega]
        exact m9
      · rw [if_neg hz] at m9
        have hge : 2 ^ k' ≤ p' := Classical.byContradiction fun hlt => hz (by rw [Nat.div_eq_of_lt (by omega)])
        refine iT (by rw [show p' / 2 ^ k' % 2 = 1 by omega]; rfl) ?_
        rw [show IntKind.wrap .i64 ((p' : Int) - ((2 ^ k' : Nat) : Int)) = ((p' - 2 ^ k' : Nat) : Int) by rw [IntKind.wrap_i64]; omega]
        exact m9
  exact key (O - k) p k fl Y h6 (by omega) hp rfl rfl rfl rfl f rfl I0

def rmL (L : List PBk) (b : PBk) : List PBk := L.filter (· ≠ b)

set_option maxHeartbeats 4000000 in
theorem Give6_ok {p o : Int} (hO : O ≤ 8) (hco : c.order = O) (f : ∀ j, j ≤ O → (fl j).length ≤ 2000) (hL : ∀ b ∈ L, b.1 ≤ 4000 ∧ b.2 ≤ O) (hl : L.length ≤ 100000) (H : (rfR Y O fl L).P h)
    (h0 : (∀ b ∈ L, ¬ ((b.1 : Int) = p ∧ (b.2 : Int) = o)) → ∀ h', Stp h h' (rfR Y O fl L) (rfR Y O fl L) → K (.tuple #[pv c r Y O L, .bool false]) h')
    (h1 : ∀ q k : Nat, p = q → o = k → (q, k) ∈ L → ∀ h' Y', Stp h h' (rfR Y O fl L) (rfR Y' O (aUp fl q k (O - k)) (rmL L (q, k))) → K (.tuple #[pv c r Y' O (rmL L (q, k)), .bool true]) h') :
    CallV Try.prog w₀ F.croftref6_Give [pv c r Y O L, .int .i64 p, .int .i64 o] h K := by
  refine croftref6_Give.call ?_
  unfold croftref6_Give.vc
  have N5 := box6 h (.int .u64 c.base) (.int .i64 c.limit) (.int .i64 c.order) (.int .i64 (r : Int)) (.slice Y.fp (O + 1) Y.fc) (.slice Y.vp L.length Y.vc) T.T_croftref6_Pool
  generalize Array.push h (.cells #[.int .u64 c.base, .int .i64 c.limit, .int .i64 c.order, .int .i64 (r : Int), .slice Y.fp (O + 1) Y.fc, .slice Y.vp L.length Y.vc] T.T_croftref6_Pool) = h5 at N5 ⊢
  have N6 := box6 h5 (.int .u64 0) (.int .i64 0) (.int .i64 0) (.int .i64 0) (.slice none 0 0) (.slice none 0 0) T.T_croftref6_Pool
  generalize Array.push h5 (.cells #[.int .u64 0, .int .i64 0, .int .i64 0, .int .i64 0, .slice none 0 0, .slice none 0 0] T.T_croftref6_Pool) = h6 at N6 ⊢
  obtain ⟨b0, eb0⟩ : ∃ b0, b0 = h.size := ⟨_, rfl⟩
  obtain ⟨b1, eb1⟩ : ∃ b1, b1 = h5.size := ⟨_, rfl⟩
  rw [← eb0] at N5 ⊢
  rw [← eb1] at N6 ⊢
  have u6 : Upd NoB h h6 := N5.u.nx N6.u fun _ e _ => e
  have I0 : Go.V.Own h h6 (rfR Y O fl L) [frR Y O fl, blkR b1 6 zF, blkR b0 6 (pvF c r Y O L), liR Y L] := (((Go.V.Own.of H).split.new N5).new N6).perm ((List.Perm.swap _ _ _).trans (List.Perm.cons _ (.swap _ _ _)))
  intro J3 hJ3 L8 hL8
  have B0 : (blkR b0 6 (pvF c r Y O L)).P h6 := I0.at 2
  let P : PBk → Bool := fun b => !(decide ((b.1 : Int) = p) && decide ((b.2 : Int) = o))
  have hP : ∀ b, P b = false ↔ ((b.1 : Int) = p ∧ (b.2 : Int) = o) := fun b => by simp [P]
  have key : ∀ (d i : Nat) (y : Option Addr) (cap : Nat) (hx : Heap), i + d = L.length → Go.V.Own h hx (rfR Y O fl L) [slR y ((L.take i).filter P).length cap 2 (runV (prL ((L.take i).filter P))), frR Y O fl, blkR b1 6 zF, blkR b0 6 (pvF c r Y O L), liR Y L] →
      L8 [.int .i64 p, .int .i64 o, .pointer (some ⟨b0, 0, none⟩), .pointer (some ⟨b1, 0, none⟩), .slice y ((L.take i).filter P).length cap, .bool ((L.take i).any fun b => !P b), .int .i64 (i : Int)] hx := by
    intro d
    induction d with
    | zero =>
      intro i y cap hx hi I
      have hi : i = L.length := by omega
      subst hi
      rw [List.take_length] at I ⊢
      obtain ⟨k0, k1, k2, k3, k4, k5⟩ := f6_cells (I.at 3)
      refine hL8 _ _ _ _ _ _ _ _ _ _ ⟨_, _, _, k5, iF (decide_eq_false (by omega)) (hJ3 _ _ _ _ _ _ _ _ _ ?_)⟩
      cases ha : L.any fun b => !P b with
      | false =>
        rw [List.any_eq_false] at ha
        refine iT rfl ⟨_, k0, _, k1, _, k2, _, k3, _, _, _, k4, _, _, _, k5, ?_⟩
        obtain ⟨wb, Sb⟩ := assign6 (I.at 2) (.int .u64 c.base) (.int .i64 c.limit) (.int .i64 c.order) (.int .i64 (r : Int)) (.slice Y.fp (O + 1) Y.fc) (.slice Y.vp L.length Y.vc)
        have Ib := I.step 2 Sb
        refine ⟨wb, ?_⟩
        generalize setCs hx ⟨b1, 0, none⟩ 0 [.int .u64 c.base, .int .i64 c.limit, .int .i64 c.order, .int .i64 (r : Int), .slice Y.fp (O + 1) Y.fc, .slice Y.vp L.length Y.vc] = hb at Ib ⊢
        obtain ⟨k0, k1, k2, k3, k4, k5⟩ := f6_cells (Ib.at 2)
        exact ⟨_, k0, _, k1, _, k2, _, k3, _, _, _, k4, _, _, _, k5, h0 (fun b hb e => ha b hb (by rw [(hP b).2 e]; rfl)) hb (Ib.two 1 4)⟩
      | true =>
        rw [List.any_eq_true] at ha
        obtain ⟨⟨q, k⟩, hqL, hq⟩ := ha
        have hq : P (q, k) = false := by simpa using hq
        obtain ⟨eq, ek⟩ := (hP _).1 hq
        have eq : (q : Int) = p := eq
        have ek : (k : Int) = o := ek
        obtain ⟨hq4, hkO⟩ := hL _ hqL
        simp only [] at hq4 hkO
        have ef : L.filter P = rmL L (q, k) := by
          unfold rmL
          refine List.filter_congr fun b hb => ?_
          have : P b = false ↔ ¬ (b ≠ (q, k)) := by
            rw [hP b, ← eq, ← ek]
            constructor
            · rintro ⟨e1, e2⟩; exact fun hne => hne (Prod.ext (by omega) (by omega))
            · intro hne
              have : b = (q, k) := Classical.byContradiction hne
              subst this; exact ⟨rfl, rfl⟩
          cases hPb : P b with
          | false => exact (decide_eq_false (this.1 hPb)).symm
          | true => exact (decide_eq_true (Classical.byContradiction fun hc => by rw [this.2 hc] at hPb; cases hPb)).symm
        rw [ef] at I ⊢
        have I := I.perm (rs' := [frR Y O fl, slR y (rmL L (q, k)).length cap 2 (runV (prL (rmL L (q, k)))), blkR b1 6 zF, blkR b0 6 (pvF c r Y O L), liR Y L]) (.swap _ _ _)
        obtain ⟨w11, S11⟩ := f6_set5 (I.at 3) (.slice y (rmL L (q, k)).length cap)
        have I11 := I.step 3 S11
        refine iF rfl ⟨w11, ?_⟩
        generalize setC hx ((⟨b0, 0, none⟩ : Addr).add 5) (.slice y (rmL L (q, k)).length cap) = h11 at I11 ⊢
        obtain ⟨k0, k1, k2, k3, k4, k5⟩ := f6_cells (I11.at 3)
        refine ⟨_, k0, _, k1, _, k2, _, k3, _, _, _, k4, _, _, _, k5, ?_⟩
        have I11 : Go.V.Own h h11 (rfR Y O fl L) [frR Y O fl, slR y (rmL L (q, k)).length cap 2 (runV (prL (rmL L (q, k)))), blkR b1 6 zF, blkR b0 6 (f6 (.int .u64 c.base) (.int .i64 c.limit) (.int .i64 c.order) (.int .i64 (r : Int)) (.slice Y.fp (O + 1) Y.fc) (.slice y (rmL L (q, k)).length cap)), liR Y L] := I11
        have I12 : Go.V.Own h h11 (rfR Y O fl L) [rfR { Y with vp := y, vc := cap } O fl (rmL L (q, k)), blkR b1 6 zF, blkR b0 6 (f6 (.int .u64 c.base) (.int .i64 c.limit) (.int .i64 c.order) (.int .i64 (r : Int)) (.slice Y.fp (O + 1) Y.fc) (.slice y (rmL L (q, k)).length cap)), liR Y L] := I11.join
        rw [← eq, ← ek]
        refine enter6_ok (Y := { Y with vp := y, vc := cap }) (L := rmL L (q, k)) hO hco hkO (fun j hj => Nat.le_trans (f j hj) (by omega)) hq4 (I12.at 0) fun h13 Y' S13 => ⟨_, _, _, _, _, _, _, _, _, _, rfl, ?_⟩
        have I13 := I12.step 0 S13
        obtain ⟨wb, Sb⟩ := assign6 (I13.at 1) (.int .u64 c.base) (.int .i64 c.limit) (.int .i64 c.order) (.int .i64 (r : Int)) (.slice Y'.fp (O + 1) Y'.fc) (.slice Y'.vp (rmL L (q, k)).length Y'.vc)
        have Ib := I13.step 1 Sb
        refine ⟨wb, ?_⟩
        generalize setCs h13 ⟨b1, 0, none⟩ 0 [.int .u64 c.base, .int .i64 c.limit, .int .i64 c.order, .int .i64 (r : Int), .slice Y'.fp (O + 1) Y'.fc, .slice Y'.vp (rmL L (q, k)).length Y'.vc] = hb at Ib ⊢
        obtain ⟨k0, k1, k2, k3, k4, k5⟩ := f6_cells (Ib.at 1)
        exact ⟨_, k0, _, k1, _, k2, _, k3, _, _, _, k4, _, _, _, k5, h1 q k eq.symm ek.symm hqL hb Y' (Ib.one 0)⟩
    | succ d ih =>
      intro i y cap hx hi I
      have hil : i < L.length := by omega
      obtain ⟨k0, k1, k2, k3, k4, k5⟩ := f6_cells (I.at 3)
      have hwr : IntKind.wrap .i64 ((i : Int) + 1) = ((i + 1 : Nat) : Int) := by rw [IntKind.wrap_i64]; omega
      have htk : L.take (i + 1) = L.take i ++ [L.getD i (0, 0)] := by
        rw [List.take_add_one, List.getD_eq_getElem?_getD, List.getElem?_eq_getElem hil]; rfl
      have RL : Row hx Y.vp ((prL L).length * 2) (runV (prL L)) := by
        have := sl_row (I.at 4 (R := liR Y L))
        rw [prL_len]; exact this
      obtain ⟨a, ea, r1, r2⟩ := row_run RL (Upd.refl _ _) (i := i) (by rw [prL_len]; exact hil)
      have eg : (prL L).getD i (0, 0) = prV (L.getD i (0, 0)) := by
        rw [List.getD_eq_getElem?_getD, List.getElem?_map, List.getD_eq_getElem?_getD, List.getElem?_eq_getElem hil]; rfl
      rw [eg] at r1 r2
      generalize L.getD i (0, 0) = bi at htk r1 r2
      refine hL8 _ _ _ _ _ _ _ _ _ _ ⟨_, _, _, k5, iT (decide_eq_true (by omega)) fun J9 hJ9 => ⟨_, _, _, k5, a, ea, by omega, by omega, _, r1, fun J10 hJ10 => ?_⟩⟩
      have no : P bi = true → J10 false hx := fun hp => by
        refine hJ10 _ _ (iF rfl ⟨_, _, _, k5, a, ea, by omega, by omega, _, r1, _, r2, ?_⟩)
        have hfl : ((L.take i).filter P).length ≤ L.length := Nat.le_trans (List.length_filter_le _ _) (by simp; omega)
        obtain ⟨os, q1, q2⟩ := sl_appB (zs := [.int .i64 0, .int .i64 0]) (xs := [.int .i64 (bi.1 : Int), .int .i64 (bi.2 : Int)]) (b := 16) (e := T.T_croftref6_Block) (T := T.T_croftref6_Block) (I.at 0) (by decide) rfl (by simp [oneC]) (by omega)
        refine ⟨os, _, q1, fun p' c' h29 res => hJ9 _ _ _ _ _ _ _ _ _ _ ?_⟩
        have ef : (L.take (i + 1)).filter P = (L.take i).filter P ++ [bi] := by rw [htk, List.filter_append, List.filter_cons, if_pos hp]; rfl
        have ey : ((L.take (i + 1)).any fun b => !P b) = ((L.take i).any fun b => !P b) := by rw [htk, List.any_append]; simp [hp]
        have I2 := I.step 0 (R := slR y ((L.take i).filter P).length cap 2 (runV (prL ((L.take i).filter P)))) (R' := slR p' (((L.take i).filter P).length + 1) c' 2 (runV (prL ((L.take i).filter P ++ [bi])))) ((q2 p' c' h29 res).conv (fun A => sl_congr A fun j hj => by
          have := runV_snoc (prL ((L.take i).filter P)) (prV bi) (i := j) (by rw [prL_len]; exact hj)
          rw [prL_len] at this
          rw [prL_snoc]; exact this) fun _ e => e)
        rw [hwr]
        have := ih (i + 1) p' c' h29 (by omega) (by rw [ef, List.length_append]; exact I2)
        rw [ef, List.length_append, ey] at this
        exact this
      have yes : P bi = false → J10 true hx := fun hp => by
        refine hJ10 _ _ (iT rfl (hJ9 _ _ _ _ _ _ _ _ _ _ ?_))
        have ef : (L.take (i + 1)).filter P = (L.take i).filter P := by rw [htk, List.filter_append, List.filter_cons, if_neg (by rw [hp]; exact fun e => by cases e)]; simp
        have ey : ((L.take (i + 1)).any fun b => !P b) = true := by rw [htk, List.any_append]; simp [hp]
        rw [hwr]
        have := ih (i + 1) y cap hx (by omega) (by rw [ef]; exact I)
        rw [ef, ey] at this
        exact this
      have hb := hP bi
      by_cases c1 : (bi.1 : Int) = p
      · refine qT (by rw [show (prV bi).1 = p from c1]; exact beq_self_eq_true _) ⟨_, _, _, k5, a, ea, by omega, by omega, _, r2, ?_⟩
        by_cases c2 : (bi.2 : Int) = o
        · rw [show ((prV bi).2 == o) = true by rw [show (prV bi).2 = o from c2]; exact beq_self_eq_true _]
          exact yes (hb.2 ⟨c1, c2⟩)
        · rw [show ((prV bi).2 == o) = false from beq_false_of_ne c2]
          exact no (by cases hp : P bi; exact absurd (hb.1 hp).2 c2; rfl)
      · exact qF' (beq_false_of_ne c1) (no (by cases hp : P bi; exact absurd (hb.1 hp).1 c1; rfl))
  exact key L.length 0 none 0 h6 (by omega) (I0.new ⟨Upd.refl _ _, sl_nil _ _ _, fun b e => absurd e (sl_nil_fp b)⟩)
end
end Go.Proofs.Ytippbfnhgooepaa
