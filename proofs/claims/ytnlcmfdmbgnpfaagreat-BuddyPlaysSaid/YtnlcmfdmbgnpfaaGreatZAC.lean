/- croftref5: Pairs, the call. No condition. -/
import Derived.Test.YtnlcmfdmbgnpfaaGreatZAB
set_option linter.unusedSimpArgs false
set_option linter.unusedVariables false
namespace Go.Proofs.YtnlcmfdmbgnpfaaGreat
open Go.V Classical

noncomputable abbrev pwR (P n : Nat) (fl : Nat → List Nat) (wp : Nat → Option Addr) : Res := allR n fun k => slR (wp k) (nw (P / 2 ^ (k + 1))) (nw (P / 2 ^ (k + 1))) 1 (wdF fl k (P / 2 ^ (k + 1)))
abbrev poF (P : Nat) (wp : Nat → Option Addr) : Nat → Value := fun k => .slice (wp k) (nw (P / 2 ^ (k + 1))) (nw (P / 2 ^ (k + 1)))

section
variable {w₀ : World} {h h0 hx : Heap} {K : Value → Heap → Prop} {Y : RW5} {O P : Nat} {fl : Nat → List Nat} {L : List PBk}

theorem pw_snoc {n : Nat} {wp : Nat → Option Addr} {q : Option Addr} {rs : List Res} (I : Hold h hx (slR q (nw (P / 2 ^ (n + 1))) (nw (P / 2 ^ (n + 1))) 1 (wdF fl n (P / 2 ^ (n + 1))) :: pwR P n fl wp :: rs)) : Hold h hx (pwR P (n + 1) fl (fset wp n q) :: rs) := by
  have I1 := I.join
  have he : ∀ i, i < n → slR (wp i) (nw (P / 2 ^ (i + 1))) (nw (P / 2 ^ (i + 1))) 1 (wdF fl i (P / 2 ^ (i + 1))) = slR (fset wp n q i) (nw (P / 2 ^ (i + 1))) (nw (P / 2 ^ (i + 1))) 1 (wdF fl i (P / 2 ^ (i + 1))) := fun i hi => by rw [fset_ne _ _ (by omega)]
  have hn : slR (fset wp n q n) (nw (P / 2 ^ (n + 1))) (nw (P / 2 ^ (n + 1))) 1 (wdF fl n (P / 2 ^ (n + 1))) = slR q (nw (P / 2 ^ (n + 1))) (nw (P / 2 ^ (n + 1))) 1 (wdF fl n (P / 2 ^ (n + 1))) := by rw [fset_same]
  refine I1.as 0 (R := andR (slR q (nw (P / 2 ^ (n + 1))) (nw (P / 2 ^ (n + 1))) 1 (wdF fl n (P / 2 ^ (n + 1)))) (pwR P n fl wp)) (R' := pwR P (n + 1) fl (fset wp n q)) (fun A => ?_) fun b e => ?_
  · refine allR_snoc (allR_congr he A.2.1) (by rw [hn]; exact A.1) fun b e e' => ?_
    rw [hn] at e
    exact A.2.2 b e (allR_fp he b e')
  · obtain ⟨i, hi, e⟩ := e
    by_cases ei : i = n
    · subst ei
      have e : (slR (fset wp i q i) (nw (P / 2 ^ (i + 1))) (nw (P / 2 ^ (i + 1))) 1 (wdF fl i (P / 2 ^ (i + 1)))).fp b := e
      rw [hn] at e
      exact .inl e
    · have e : (slR (fset wp n q i) (nw (P / 2 ^ (i + 1))) (nw (P / 2 ^ (i + 1))) 1 (wdF fl i (P / 2 ^ (i + 1)))).fp b := e
      rw [← he i (by omega)] at e
      exact .inr ⟨i, by omega, e⟩

theorem ref5_Pairs_ok (hO : O ≤ 8) (hP : P ≤ 1024) (f : ∀ k, k ≤ O → (fl k).length ≤ 2000) (H : (rfR Y O fl L).P h)
    (hK : ∀ h' qp qc wp, New h h' (andR (slR qp O qc 1 (poF P wp)) (pwR P O fl wp)) → K (.slice qp O qc) h') :
    CallV Tryz.prog w₀ F.croftref5_Pairs [pv Y O P L] h K := by
  refine croftref5_Pairs.call ?_
  unfold croftref5_Pairs.vc
  have N5 := box4 h (.int .i64 (O : Int)) (.int .i64 (P : Int)) (.slice Y.fp (O + 1) Y.fc) (.slice Y.vp L.length Y.vc) T.T_croftref5_Buddy
  generalize Array.push h (.cells #[.int .i64 (O : Int), .int .i64 (P : Int), .slice Y.fp (O + 1) Y.fc, .slice Y.vp L.length Y.vc] T.T_croftref5_Buddy) = h5 at N5 ⊢
  obtain ⟨b0, eb0⟩ : ∃ b0, b0 = h.size := ⟨_, rfl⟩
  rw [← eb0] at N5 ⊢
  intro J2 hJ2 L3 hL3
  -- beside the reference's own
  have HX : (frR Y O fl).P h := H.1
  have I0 : Hold h h5 [slR none 0 0 1 (poF P fun _ => none), blkR b0 4 (f4 (.int .i64 (O : Int)) (.int .i64 (P : Int)) (.slice Y.fp (O + 1) Y.fc) (.slice Y.vp L.length Y.vc))] :=
    ((Hold.nil h).new N5).new ⟨Upd.refl _ _, sl_nil _ _ _, fun b e => absurd e (sl_nil_fp b)⟩
  have I0 : Hold h h5 [pwR P 0 fl fun _ => none, slR none 0 0 1 (poF P fun _ => none), blkR b0 4 (f4 (.int .i64 (O : Int)) (.int .i64 (P : Int)) (.slice Y.fp (O + 1) Y.fc) (.slice Y.vp L.length Y.vc))] :=
    I0.new ⟨Upd.refl _ _, allR_zero _, fun b ⟨i, hi, _⟩ => absurd hi (by omega)⟩
  have loop : ∀ (d k : Nat) (hx : Heap) (qp : Option Addr) (qc : Nat) (wp : Nat → Option Addr), k + d = O → Hold h hx [pwR P k fl wp, slR qp k qc 1 (poF P wp), blkR b0 4 (f4 (.int .i64 (O : Int)) (.int .i64 (P : Int)) (.slice Y.fp (O + 1) Y.fc) (.slice Y.vp L.length Y.vc))] →
      L3 [.pointer (some ⟨b0, 0, none⟩), .slice qp k qc, .int .i64 (k : Int)] hx := by
    intro d
    induction d with
    | zero =>
      intro k hx qp qc wp hk I
      have hk : k = O := by omega
      subst hk
      obtain ⟨k0, k1, k2, k3⟩ := f4_cells (I.at 2)
      refine hL3 _ _ _ _ _ _ ⟨_, k0, iF (decide_eq_false (by omega)) (hJ2 _ _ _ _ (hK hx qp qc wp ?_))⟩
      exact (I.swap.join.sub (rs' := [andR (slR qp k qc 1 (poF P wp)) (pwR P k fl wp)]) (.cons_cons _ (.cons _ .slnil))).toNew
    | succ d ih =>
      intro k hx qp qc wp hk I
      obtain ⟨k0, k1, k2, k3⟩ := f4_cells (I.at 2)
      have ek1 : IntKind.wrap .u64 (IntKind.wrap .i64 ((k : Int) + 1)) = ((k + 1 : Nat) : Int) := by rw [show IntKind.wrap .i64 ((k : Int) + 1) = ((k + 1 : Nat) : Int) by rw [IntKind.wrap_i64]; omega, IntKind.wrap_u64]; omega
      have hnw := nw_wrap (n := P) (k := k + 1) (by omega) (by omega)
      have hsh := shr_i64 (k := k + 1) (x := P) (by omega)
      refine hL3 _ _ _ _ _ _ ⟨_, k0, iT (decide_eq_true (by omega)) fun J4 hJ4 => ⟨_, k1, ?_⟩⟩
      rw [ek1, hnw, hsh, Int.toNat_natCast]
      have hnle : nw (P / 2 ^ (k + 1)) ≤ 1024 := by have := Nat.div_le_self P (2 ^ (k + 1)); unfold nw; omega
      refine ⟨by omega, by omega, by omega, by omega, by omega, fun J6 hJ6 L9 hL9 => ?_⟩
      have hn1 := Nat.div_le_self P (2 ^ (k + 1))
      have hmul : P / 2 ^ (k + 1) * 2 ^ (k + 1) ≤ P := Nat.div_mul_le_self _ _
      have hnwe : nw (P / 2 ^ (k + 1)) = (P / 2 ^ (k + 1) + 63) / 64 := rfl
      have N6 := sl_make hx [.int .u64 0] T.T_uint64 (nw (P / 2 ^ (k + 1))) (nw (P / 2 ^ (k + 1))) (Nat.le_refl _)
      have N6 : New hx (hx.push (.cells (List.toArray (zrow [.int .u64 0] (nw (P / 2 ^ (k + 1))))) T.T_uint64)) (slR (some ⟨hx.size, 0, none⟩) (nw (P / 2 ^ (k + 1))) (nw (P / 2 ^ (k + 1))) 1 (wdF fl k 0)) := N6.conv (fun A => sl_congr A fun i hi => by
        unfold wdF
        rw [wd_zero]
        have : i % 1 = 0 := by omega
        show [Value.int .u64 0].getD (i % 1) undef = _
        rw [this]; rfl) fun _ e => e
      obtain ⟨bw, ebw⟩ : ∃ bw, bw = hx.size := ⟨_, rfl⟩
      rw [← ebw] at N6 ⊢
      generalize hx.push (.cells (List.toArray (zrow [.int .u64 0] (nw (P / 2 ^ (k + 1))))) T.T_uint64) = h6 at N6 ⊢
      have inner : ∀ (dd t : Nat) (hy : Heap), t + dd = P / 2 ^ (k + 1) → Hold h hy [slR (some ⟨bw, 0, none⟩) (nw (P / 2 ^ (k + 1))) (nw (P / 2 ^ (k + 1))) 1 (wdF fl k t), pwR P k fl wp, slR qp k qc 1 (poF P wp), blkR b0 4 (f4 (.int .i64 (O : Int)) (.int .i64 (P : Int)) (.slice Y.fp (O + 1) Y.fc) (.slice Y.vp L.length Y.vc))] →
          L9 [.pointer (some ⟨b0, 0, none⟩), .slice qp k qc, .int .i64 (k : Int), .int .i64 ((P / 2 ^ (k + 1) : Nat) : Int), .slice (some ⟨bw, 0, none⟩) (nw (P / 2 ^ (k + 1))) (nw (P / 2 ^ (k + 1))), .int .i64 (t : Int)] hy := by
        intro dd
        induction dd with
        | zero =>
          intro t hy ht I
          have ht : t = P / 2 ^ (k + 1) := by omega
          subst ht
          obtain ⟨os, q1, q2⟩ := sl_app1 (zs := [.slice none 0 0]) (v := .slice (some ⟨bw, 0, none⟩) (nw (P / 2 ^ (k + 1))) (nw (P / 2 ^ (k + 1)))) (b := 24) (e := T.T_sl_uint64) (T := T.T_sl_uint64) (I.at 2) rfl rfl (by omega)
          refine hL9 _ _ _ _ _ _ _ _ _ _ _ (iF (decide_eq_false (by omega)) (hJ6 _ _ _ _ _ _ _ _ _ ⟨os, _, q1, fun p' c' h8 res => hJ4 _ _ _ _ _ _ ?_⟩))
          have I1 := I.step 2 (R := slR qp k qc 1 (poF P wp)) (R' := slR p' (k + 1) c' 1 (poF P (fset wp k (some ⟨bw, 0, none⟩)))) ((q2 p' c' h8 res).conv (fun A => sl_congr A fun j hj => by
            unfold poF
            by_cases e : j = k
            · rw [if_pos e, e, fset_same]
            · rw [if_neg e, fset_ne _ _ e]) fun _ e => e)
          rw [show IntKind.wrap .i64 ((k : Int) + 1) = ((k + 1 : Nat) : Int) by rw [IntKind.wrap_i64]; omega]
          exact ih (k + 1) h8 p' c' _ (by omega) (pw_snoc I1)
        | succ dd ihd =>
          intro t hy ht I
          obtain ⟨k0, k1, k2, k3⟩ := f4_cells (I.at 3)
          have hle : t * 2 ^ (k + 1) ≤ P := Nat.le_trans (Nat.mul_le_mul_right _ (by omega)) hmul
          have em : IntKind.wrap .i64 ((t : Int) * 2 ^ min (Int.toNat ((k + 1 : Nat) : Int)) (IntKind.bits .i64)) = ((t * 2 ^ (k + 1) : Nat) : Int) := by
            rw [Int.toNat_natCast, show min (k + 1) (IntKind.bits .i64) = k + 1 from Nat.min_eq_left (by show k + 1 ≤ 64; omega)]
            have : (t : Int) * 2 ^ (k + 1) = ((t * 2 ^ (k + 1) : Nat) : Int) := by simp
            rw [this, IntKind.wrap_i64]
            omega
          refine hL9 _ _ _ _ _ _ _ _ _ _ _ (iT (decide_eq_true (by omega)) fun J10 hJ10 => ⟨_, k0, _, k1, _, _, _, k2, _, _, _, k3, ?_⟩)
          rw [ek1, em]
          refine ⟨by omega, ref5_Pair_ok (Y := Y) (fl := fl) hO (by omega) (by omega) f ((frR Y O fl).st HX I.u fun _ _ => id) fun h8 u8 => ⟨_, rfl, ?_⟩⟩
          have I1 := I.quiet u8
          have hpr : (!(decide (t * 2 ^ (k + 1) ∈ fl k) == decide (t * 2 ^ (k + 1) + 2 ^ k ∈ fl k))) = prB fl k t := rfl
          rw [hpr]
          have nx : ∀ hz, Hold h hz [slR (some ⟨bw, 0, none⟩) (nw (P / 2 ^ (k + 1))) (nw (P / 2 ^ (k + 1))) 1 (wdF fl k (t + 1)), pwR P k fl wp, slR qp k qc 1 (poF P wp), blkR b0 4 (f4 (.int .i64 (O : Int)) (.int .i64 (P : Int)) (.slice Y.fp (O + 1) Y.fc) (.slice Y.vp L.length Y.vc))] →
              J10 [.pointer (some ⟨b0, 0, none⟩), .slice qp k qc, .int .i64 (k : Int), .int .i64 ((P / 2 ^ (k + 1) : Nat) : Int), .slice (some ⟨bw, 0, none⟩) (nw (P / 2 ^ (k + 1))) (nw (P / 2 ^ (k + 1))), .int .i64 (t : Int)] hz := fun hz I2 => by
            refine hJ10 _ _ _ _ _ _ _ _ _ _ _ ?_
            rw [show IntKind.wrap .i64 ((t : Int) + 1) = ((t + 1 : Nat) : Int) by rw [IntKind.wrap_i64]; omega]
            exact ihd (t + 1) hz (by omega) I2
          cases hb : prB fl k t with
          | false => exact iF rfl (nx h8 (I1.as 0 (R' := slR (some ⟨bw, 0, none⟩) (nw (P / 2 ^ (k + 1))) (nw (P / 2 ^ (k + 1))) 1 (wdF fl k (t + 1))) (fun A => wdF_no hb A) fun _ e => e))
          | true =>
            have ed : IntKind.wrap .i64 (Int.tdiv (t : Int) 64) = ((t / 64 : Nat) : Int) := by rw [show Int.tdiv (t : Int) 64 = ((t / 64 : Nat) : Int) from rfl, IntKind.wrap_i64]; omega
            have em2 : IntKind.wrap .u64 (Int.tmod (t : Int) 64) = ((t % 64 : Nat) : Int) := by rw [show Int.tmod (t : Int) 64 = ((t % 64 : Nat) : Int) from rfl, IntKind.wrap_u64]; omega
            obtain ⟨b', e', hc, w, S⟩ := wdF_set (I1.at 0) (by omega) hb
            cases e'
            have ea : (⟨bw, 0, none⟩ : Addr).add (Int.toNat ((t / 64 : Nat) : Int) * 1) = ⟨bw, t / 64, none⟩ := by rw [add_mk, Int.toNat_natCast, Nat.mul_one, Nat.zero_add]
            rw [ed, em2, shl_one (Nat.mod_lt _ (by omega))]
            refine iT rfl ⟨by decide, by decide, _, rfl, by omega, by omega, _, by rw [ea]; exact hc, by decide, by omega, _, rfl, by omega, by omega, ?_⟩
            rw [ea, or_pow (wd_lt _ _) (Nat.mod_lt _ (by omega))]
            exact ⟨w, nx _ (I1.step 0 S)⟩
      exact inner (P / 2 ^ (k + 1)) 0 h6 (by omega) (I.new N6)
  exact loop O 0 h5 none 0 _ (by omega) I0
end
end Go.Proofs.YtnlcmfdmbgnpfaaGreat
