/- croftref5: Give. No condition. -/
import Derived.Test.YtnlcmfdmbgnpfaaGreatZA2
set_option linter.unusedSimpArgs false
set_option linter.unusedVariables false
namespace Go.Proofs.YtnlcmfdmbgnpfaaGreat
open Go.V Classical

theorem bv_clr5 {p k : Nat} (hk : k ≤ 8) (hp : p < 4096) :
    IntKind.wrap .i64 (((BitVec.ofInt (IntKind.bits .i64) (p : Int) &&& ~~~ (BitVec.ofInt (IntKind.bits .i64) ((2 ^ k : Nat) : Int))).toNat : Int)) = (dwn p k : Int) := by
  have h8 := pow8 hk
  have e : ∀ x y : BitVec 64, x &&& ~~~ y = x ^^^ (x &&& y) := fun x y => by
    apply BitVec.eq_of_getLsbD_eq
    intro i hi
    rw [BitVec.getLsbD_and, BitVec.getLsbD_not, BitVec.getLsbD_xor, BitVec.getLsbD_and]
    cases x.getLsbD i <;> cases y.getLsbD i <;> simp [hi]
  have t1 : (BitVec.ofInt 64 (p : Int)).toNat = p := bv_toNat (by omega)
  have t2 : (BitVec.ofInt 64 ((2 ^ k : Nat) : Int)).toNat = 2 ^ k := bv_toNat (by omega)
  have e2 : (BitVec.ofInt 64 (p : Int) &&& ~~~ (BitVec.ofInt 64 ((2 ^ k : Nat) : Int))).toNat = dwn p k := by
    rw [e, BitVec.toNat_xor, BitVec.toNat_and, t1, t2, clr_dwn]
  rw [show (BitVec.ofInt (IntKind.bits .i64) (p : Int) &&& ~~~ (BitVec.ofInt (IntKind.bits .i64) ((2 ^ k : Nat) : Int))).toNat = dwn p k from e2, IntKind.wrap_i64]
  have : dwn p k ≤ p := by unfold dwn; split <;> omega
  omega

theorem bv_xor5 {p k : Nat} (hk : k ≤ 8) (hp : p < 4096) (h : p % 2 ^ k = 0) :
    IntKind.wrap .i64 (((BitVec.ofInt (IntKind.bits .i64) (p : Int) ^^^ BitVec.ofInt (IntKind.bits .i64) ((2 ^ k : Nat) : Int)).toNat : Int)) = (bud p k : Int) := by
  have h8 := pow8 hk
  rw [BitVec.toNat_xor, bv_toNat (by omega), bv_toNat (by omega), xor_bud h, IntKind.wrap_i64]
  have : bud p k ≤ p + 256 := by unfold bud; split <;> omega
  omega

section
variable {w₀ : World} {h h0 hx : Heap} {K : Value → Heap → Prop} {Y : RW5} {O P : Nat} {fl : Nat → List Nat} {L : List PBk}

theorem isLive5_ok {o P p q : Int} {fp vp : Option Addr} {fn fc vc : Nat} (hl : L.length ≤ 1000000) (H : (slR vp L.length vc 2 (runV (prL L))).P h) (hK : ∀ h', Upd NoB h h' → K (.bool (decide ((p, q) ∈ prL L))) h') :
    CallV Tryz.prog w₀ F.croftref5_IsLive [dv o P fp fn fc vp L.length vc, .int .i64 p, .int .i64 q] h K := by
  have key := ref5_IsLive_ok (w₀ := w₀) (o := o) (P := P) (p := p) (q := q) (fp := fp) (fn := fn) (fc := fc) (vc := vc) (K := K) (l := prL L) (by rw [prL_len]; omega) (by rw [prL_len]; exact sl_row H) hK
  rw [prL_len] at key
  exact key

theorem ref5_Give_ok {pz z : Int} (hO : O ≤ 8) (f : ∀ k, k ≤ O → (fl k).length ≤ 2000) (hL : L.length ≤ 1000000) (al : ∀ b ∈ L, b.1 ≤ 2000 ∧ b.2 ≤ O ∧ b.1 % 2 ^ b.2 = 0) (H : (rfR Y O fl L).P h)
    (hb : (pz, z) ∉ prL L → ∀ h', Upd NoB h h' → K (.tuple #[pv Y O P L, .int .i64 1]) h')
    (hg : ∀ p on : Nat, pz = p → z = on → (p, on) ∈ L → ∀ h' Y', Stp h h' (rfR Y O fl L) (rfR Y' O (aUp fl p on (O - on)) (L.filter (·.1 ≠ p))) → K (.tuple #[pv Y' O P (L.filter (·.1 ≠ p)), .int .i64 0]) h') :
    CallV Tryz.prog w₀ F.croftref5_Give [pv Y O P L, .int .i64 pz, .int .i64 z] h K := by
  refine croftref5_Give.call ?_
  unfold croftref5_Give.vc
  have N5 := box4 h (.int .i64 (O : Int)) (.int .i64 (P : Int)) (.slice Y.fp (O + 1) Y.fc) (.slice Y.vp L.length Y.vc) T.T_croftref5_Buddy
  generalize Array.push h (.cells #[.int .i64 (O : Int), .int .i64 (P : Int), .slice Y.fp (O + 1) Y.fc, .slice Y.vp L.length Y.vc] T.T_croftref5_Buddy) = h5 at N5 ⊢
  have N6 := box4 h5 (.int .i64 0) (.int .i64 0) (.slice none 0 0) (.slice none 0 0) T.T_croftref5_Buddy
  generalize Array.push h5 (.cells #[.int .i64 0, .int .i64 0, .slice none 0 0, .slice none 0 0] T.T_croftref5_Buddy) = h6 at N6 ⊢
  obtain ⟨b0, eb0⟩ : ∃ b0, b0 = h.size := ⟨_, rfl⟩
  obtain ⟨b1, eb1⟩ : ∃ b1, b1 = h5.size := ⟨_, rfl⟩
  rw [← eb0] at N5 ⊢
  rw [← eb1] at N6 ⊢
  have I0 : Go.V.Own h h6 (rfR Y O fl L) [blkR b1 4 z4, blkR b0 4 (f4 (.int .i64 (O : Int)) (.int .i64 (P : Int)) (.slice Y.fp (O + 1) Y.fc) (.slice Y.vp L.length Y.vc)), frR Y O fl, liR Y L] := ((Go.V.Own.of H).split.new N5).new N6
  have u6 : Upd NoB h h6 := N5.u.nx N6.u fun _ e _ => e
  obtain ⟨k0, k1, k2, k3⟩ := f4_cells (I0.at 1)
  refine ⟨_, k0, _, k1, _, _, _, k2, _, _, _, k3, isLive5_ok hL (I0.at 3) fun h7 u7 => ⟨_, rfl, ?_⟩⟩
  have I7 := I0.quiet u7
  have u67 : Upd NoB h h7 := u6.nx u7 fun _ e _ => e
  obtain ⟨k0, k1, k2, k3⟩ := f4_cells (I7.at 1)
  by_cases hin : (pz, z) ∈ prL L
  case neg =>
    rw [decide_eq_false hin]
    obtain ⟨w4, S4⟩ := assign4 (I7.at 0) (.int .i64 (O : Int)) (.int .i64 (P : Int)) (.slice Y.fp (O + 1) Y.fc) (.slice Y.vp L.length Y.vc)
    have I8 := I7.step 0 S4
    refine iT rfl ⟨_, k0, _, k1, _, _, _, k2, _, _, _, k3, w4, ?_⟩
    have S5 : Upd NoB h _ := u67.nx S4.u fun b e hb => by
      have e : b = b1 := e
      have := N5.u.1
      omega
    generalize setCs h7 ⟨b1, 0, none⟩ 0 [.int .i64 (O : Int), .int .i64 (P : Int), .slice Y.fp (O + 1) Y.fc, .slice Y.vp L.length Y.vc] = h9 at I8 S5 ⊢
    obtain ⟨q0, q1, q2, q3⟩ := f4_cells (I8.at 0)
    exact ⟨_, q0, _, q1, _, _, _, q2, _, _, _, q3, hb hin h9 S5⟩
  rw [decide_eq_true hin]
  obtain ⟨⟨p, on⟩, hpo, epo⟩ := List.mem_map.1 hin
  have ep : (p : Int) = pz := congrArg Prod.fst epo
  have eo : (on : Int) = z := congrArg Prod.snd epo
  subst ep eo
  obtain ⟨hp1, ho1, hal⟩ := al _ hpo
  simp only [] at hp1 ho1 hal
  refine iF rfl ⟨_, k0, _, k1, _, _, _, k2, _, _, _, k3, dies5_ok hL (I7.at 3) fun h8 vp' vc' N8 => ⟨_, _, _, _, _, _, _, _, rfl, ?_⟩⟩
  have I8 := I7.new N8
  obtain ⟨w4, S4⟩ := assign4 (I8.at 2) (.int .i64 (O : Int)) (.int .i64 (P : Int)) (.slice Y.fp (O + 1) Y.fc) (.slice vp' (L.filter (·.1 ≠ p)).length vc')
  have I9 := I8.step 2 S4
  refine ⟨w4, fun J7 hJ7 L10 hL10 => ?_⟩
  generalize setCs h8 ⟨b0, 0, none⟩ 0 [.int .i64 (O : Int), .int .i64 (P : Int), .slice Y.fp (O + 1) Y.fc, .slice vp' (L.filter (·.1 ≠ p)).length vc'] = h9 at I9 ⊢
  have I9 : Go.V.Own h h9 (rfR Y O fl L) [slR vp' (L.filter (·.1 ≠ p)).length vc' 2 (runV (prL (L.filter (·.1 ≠ p)))), blkR b1 4 z4, blkR b0 4 (f4 (.int .i64 (O : Int)) (.int .i64 (P : Int)) (.slice Y.fp (O + 1) Y.fc) (.slice vp' (L.filter (·.1 ≠ p)).length vc')), frR Y O fl] := I9.sub (.cons_cons _ (.cons_cons _ (.cons_cons _ (.cons_cons _ (.cons _ .slnil)))))
  have hgp := hg p on rfl rfl hpo
  generalize L.filter (·.1 ≠ p) = L' at I9 hgp ⊢
  have fin : ∀ (k q : Nat) (Y1 : RW5) (F1 : Nat → List Nat) (hx : Heap), k ≤ O → (F1 k).length ≤ 2000 → fset F1 k (q :: F1 k) = aUp fl p on (O - on) →
      Go.V.Own h hx (rfR Y O fl L) [slR vp' L'.length vc' 2 (runV (prL L')), blkR b1 4 z4, blkR b0 4 (f4 (.int .i64 (O : Int)) (.int .i64 (P : Int)) (.slice Y1.fp (O + 1) Y1.fc) (.slice vp' L'.length vc')), frR Y1 O F1] →
      J7 [.int .i64 (q : Int), .pointer (some ⟨b0, 0, none⟩), .pointer (some ⟨b1, 0, none⟩), .int .i64 (k : Int)] hx := by
    intro k q Y1 F1 hx hkO hlk he I
    obtain ⟨k0, k1, k2, k3⟩ := f4_cells (I.at 2)
    refine hJ7 _ _ _ _ _ ⟨_, k0, _, k1, _, _, _, k2, _, _, _, k3, ref5_enter_ok (Y := Y1) (fl := F1) hO hkO (by omega) (I.at 3) fun h10 Y2 ev ec S2 => ⟨_, _, _, _, _, _, _, _, rfl, ?_⟩⟩
    have I1 := I.step 3 S2
    obtain ⟨w5, S5⟩ := assign4 (I1.at 1) (.int .i64 (O : Int)) (.int .i64 (P : Int)) (.slice Y2.fp (O + 1) Y2.fc) (.slice vp' L'.length vc')
    have I2 := I1.step 1 S5
    refine ⟨w5, ?_⟩
    generalize setCs h10 ⟨b1, 0, none⟩ 0 [.int .i64 (O : Int), .int .i64 (P : Int), .slice Y2.fp (O + 1) Y2.fc, .slice vp' L'.length vc'] = h11 at I2 ⊢
    obtain ⟨k0, k1, k2, k3⟩ := f4_cells (I2.at 1)
    have S := I2.two 3 0
    rw [he] at S
    exact ⟨_, k0, _, k1, _, _, _, k2, _, _, _, k3, hgp h11 { Y2 with vp := vp', vc := vc' } S⟩
  have key : ∀ (d k q : Nat) (Y1 : RW5) (F1 : Nat → List Nat) (hx : Heap), k + d = O → q ≤ 2000 → q % 2 ^ k = 0 → (∀ j, j ≤ O → (F1 j).length ≤ 2000) → aUp F1 q k d = aUp fl p on (O - on) →
      Go.V.Own h hx (rfR Y O fl L) [slR vp' L'.length vc' 2 (runV (prL L')), blkR b1 4 z4, blkR b0 4 (f4 (.int .i64 (O : Int)) (.int .i64 (P : Int)) (.slice Y1.fp (O + 1) Y1.fc) (.slice vp' L'.length vc')), frR Y1 O F1] →
      L10 [.int .i64 (q : Int), .pointer (some ⟨b0, 0, none⟩), .pointer (some ⟨b1, 0, none⟩), .int .i64 (k : Int)] hx := by
    intro d
    induction d with
    | zero =>
      intro k q Y1 F1 hx hkd hq hqa hl1 he I
      obtain ⟨k0, k1, k2, k3⟩ := f4_cells (I.at 2)
      exact hL10 _ _ _ _ _ ⟨_, k0, iF (decide_eq_false (by omega)) (fin k q Y1 F1 hx (by omega) (hl1 k (by omega)) he I)⟩
    | succ d ih =>
      intro k q Y1 F1 hx hkd hq hqa hl1 he I
      obtain ⟨k0, k1, k2, k3⟩ := f4_cells (I.at 2)
      have hk8 : k ≤ 8 := by omega
      refine hL10 _ _ _ _ _ ⟨_, k0, iT (decide_eq_true (by omega)) ⟨by rw [IntKind.wrap_u64]; omega, _, k0, _, k1, _, _, _, k2, _, _, _, k3, ?_⟩⟩
      rw [shlI hk8, bv_xor5 hk8 (by omega) hqa, bv_clr5 hk8 (by omega)]
      refine ref5_Is_ok (Y := Y1) (fl := F1) hO (by omega) (by have := hl1 k (by omega); omega) (I.at 3) fun h10 u10 => ⟨_, rfl, ?_⟩
      have I1 := I.quiet u10
      have hA : aUp F1 q k (d + 1) = if bud q k ∈ F1 k then aUp (fset F1 k ((F1 k).filter (· ≠ bud q k))) (dwn q k) (k + 1) d else fset F1 k (q :: F1 k) := rfl
      by_cases hm : bud q k ∈ F1 k
      · rw [if_pos hm] at hA
        rw [decide_eq_true hm]
        obtain ⟨k0, k1, k2, k3⟩ := f4_cells (I1.at 2)
        refine iF rfl ⟨_, k0, _, k1, _, _, _, k2, _, _, _, k3, ref5_leave_ok (Y := Y1) (fl := F1) hO (by omega) (by have := hl1 k (by omega); omega) (I1.at 3) fun h11 Y2 ev ec S2 => ⟨_, _, _, _, _, _, _, _, rfl, ?_⟩⟩
        have I2 := I1.step 3 S2
        obtain ⟨w5, S5⟩ := assign4 (I2.at 2) (.int .i64 (O : Int)) (.int .i64 (P : Int)) (.slice Y2.fp (O + 1) Y2.fc) (.slice vp' L'.length vc')
        have I3 := I2.step 2 S5
        refine ⟨w5, by rw [IntKind.wrap_u64]; omega, ?_⟩
        obtain ⟨d1, d2⟩ := dwn_al hqa
        rw [show IntKind.wrap .i64 ((k : Int) + 1) = ((k + 1 : Nat) : Int) by rw [IntKind.wrap_i64]; omega]
        refine ih (k + 1) (dwn q k) Y2 _ _ (by omega) (by omega) d1 (fun j hj => ?_) (by rw [← hA, he]) I3
        by_cases ej : j = k
        · rw [ej, fset_same]
          exact Nat.le_trans (List.length_filter_le _ _) (hl1 k (by omega))
        · rw [fset_ne _ _ ej]; exact hl1 j hj
      · rw [if_neg hm] at hA
        rw [decide_eq_false hm]
        exact iT rfl (fin k q Y1 F1 h10 (by omega) (hl1 k (by omega)) (by rw [← hA, he]) I1)
  exact key (O - on) on p Y fl h9 (by omega) hp1 hal f rfl I9
end
end Go.Proofs.YtnlcmfdmbgnpfaaGreat
