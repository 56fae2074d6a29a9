/- Chapter 4's own answer (croftref4): maps grown and shrunk. No condition. -/
import Derived.Test.YtnplkinakaepdaaQ3
import Derived.Test.YtnplkinakaepdaaPH
set_option linter.unusedSimpArgs false
set_option linter.unusedVariables false
namespace Go.Proofs.Ytnplkinakaepdaa
open Go.V Classical

theorem stp_of_new {h h' : Heap} {R B : Res} (N : New h h' B) : Stp h h' R B := ⟨N.u.mono fun _ e => e.elim, N.p, fun b e => .inr (N.g b e)⟩

section
variable {w₀ : World} {h : Heap} {K : Value → Heap → Prop} {s : MS} {w : RW}

theorem r4_Grow_ok (hs : s.Ok) (H : (refR s w).P h) (hK : ∀ (h' : Heap) (w' : RW), Stp h h' (refR s w) (refR (mGrow s) w') → K (refV (mGrow s) w') h') :
    CallV Try.prog w₀ F.croftref4_Grow [refV s w] h K := by
  refine croftref4_Grow.call ?_
  unfold croftref4_Grow.vc
  have A := rb_new h s.o w.gp s.n w.gc w.qp s.o w.qc
  let h1 : Heap := h.push (.cells #[.int .i64 (s.o : Int), .slice w.gp s.n w.gc, .slice w.qp s.o w.qc] T.T_croftref4_Map)
  have B := rb_zero h1
  have I0 : Hold h _ [rbR h1.size 0 none 0 0 none 0 0, rbR h.size s.o w.gp s.n w.gc w.qp s.o w.qc] := ((Hold.nil h).new A).new B
  obtain ⟨c0, c1, c2⟩ := rb_c (I0.at 1)
  have n1 := hs.n1
  have o8 := hs.o8
  obtain ⟨x, hpw, hx1, hx2⟩ := pow_small (k := s.o) (by omega)
  have ew : IntKind.wrap .i64 ((s.n : Int) + (x : Int)) = ((s.n + x : Nat) : Int) := by rw [IntKind.wrap_i64]; omega
  simp only [add_mk, Nat.zero_add]
  refine ⟨_, c0, r4_power_ok (by omega) ⟨_, rfl, _, _, _, c1, ?_⟩⟩
  rw [hpw, ew]
  refine ⟨fun e => ?_, fun e => ?_⟩
  · have eg : mGrow s = s := by unfold mGrow; rw [hpw, if_pos (by simp at e; omega)]
    obtain ⟨w1, S⟩ := rb_set (o' := s.o) (gp' := w.gp) (n' := s.n) (gc' := w.gc) (qp' := w.qp) (m' := s.o) (qc' := w.qc) (I0.at 0)
    have I1 := I0.step 0 S
    obtain ⟨d0, d1, d2⟩ := rb_c (I1.at 0 (R := rbR h1.size s.o w.gp s.n w.gc w.qp s.o w.qc))
    have hK := hK _ w (by rw [eg]; exact Stp.quiet H I1.u)
    rw [eg] at hK
    exact ⟨_, c0, _, _, _, c1, _, _, _, c2, w1, _, d0, _, _, _, d1, _, _, _, d2, hK⟩
  have hle : s.n + x ≤ 1024 := by simp at e; omega
  have e0 : Int.toNat (0 : Int) = 0 := rfl
  have e1 : Int.toNat ((s.n + x : Nat) : Int) = s.n + x := by omega
  refine ⟨_, _, _, c1, ?_⟩
  rw [ew, e0, e1]
  have T1 := sl_make (h1.push zmO) zpL T.T_api_Page 0 (s.n + x) (by omega)
  have I1 := I0.new T1
  obtain ⟨d0, d1, d2⟩ := rb_c (I1.at 2)
  have H1 := (refR s w).st H I1.u fun _ _ => id
  have hrow := sl_row H1.1
  obtain ⟨os, hp, hS⟩ := sl_app (e := T.T_api_Page) (b := 88) (zs := zpL) (m := s.n) (I1.at 0 (R := slR (some ⟨(h1.push zmO).size, 0, none⟩) 0 (s.n + x) 11 _)) (by decide) (xs := lst (s.n * 11) (pgF s.pg)) (by simp) hrow.rowAt (fun v hv => by
    simp only [lst, List.mem_map] at hv
    obtain ⟨j, _, rfl⟩ := hv
    unfold pgF pcl
    split <;> rfl) (by omega)
  refine ⟨by omega, by omega, by omega, _, _, _, d1, os, _, hp, fun p25 c25 h25 hres => ?_⟩
  have S25 := hS p25 c25 h25 hres
  simp only [Nat.zero_add] at S25 ⊢
  have I2 := I1.step 0 (R' := slR p25 s.n c25 11 (pgF s.pg)) (S25.conv (fun P => sl_congr P fun i hi => by
    have hi : i < s.n * 11 := hi
    have hl : zpL.length = 11 := rfl
    rw [hl, Nat.zero_mul, if_neg (by omega), Nat.sub_zero, lst_getD hi]) fun _ e => e)
  intro J7 k7 L11 hL11
  have loop : ∀ (r i : Nat) (hx : Heap) (q : Option Addr) (d : Nat) (pg' : Nat → Nat → Int), i + r = x → (∀ y, y < s.n + i → pg' y = if y < s.n then s.pg y else plainP (if y = s.n then 2 else 3) s.o) →
      Hold h hx [slR q (s.n + i) d 11 (pgF pg'), rbR h1.size 0 none 0 0 none 0 0, rbR h.size s.o w.gp s.n w.gc w.qp s.o w.qc] →
      L11 [.pointer (some ⟨h.size, 0, none⟩), .pointer (some ⟨h1.size, 0, none⟩), .int .i64 (x : Int), .slice q (s.n + i) d, .int .i64 (i : Int)] hx := by
    intro r
    induction r with
    | zero =>
      intro i hx q d pg' hi hpg I
      have : i = x := by omega
      subst this
      refine hL11 _ _ _ _ _ _ _ _ (iF (by simp) (k7 _ _ _ _ _ _ ?_))
      obtain ⟨w1, S1⟩ := rb_set1 (gp' := q) (n' := s.n + i) (gc' := d) (I.at 2)
      have I3 := I.step 2 S1
      obtain ⟨f0, f1, f2⟩ := rb_c (I3.at 2 (R := rbR h.size s.o q (s.n + i) d w.qp s.o w.qc))
      have H3 := (refR s w).st H I3.u fun _ _ => id
      obtain ⟨r1, r2⟩ := ref_rows hs H3
      refine ⟨w1, _, f0, _, _, _, f1, _, _, _, f2, r4_paired_ok o8 hle o8 (fun k hk => Nat.le_trans (Nat.div_le_self _ _) n1) r1 r2 fun h48 qp' qc' tp' tc' N48 => ⟨_, _, _, _, _, _, _, rfl, ?_⟩⟩
      have I4 := I3.new N48
      obtain ⟨w2, S2⟩ := rb_set (o' := s.o) (gp' := q) (n' := s.n + i) (gc' := d) (qp' := qp') (m' := s.o) (qc' := qc') (I4.at 2)
      have I5 := I4.step 2 S2
      obtain ⟨g0, g1, g2⟩ := rb_c (I5.at 2 (R := rbR h1.size s.o q (s.n + i) d qp' s.o qc'))
      have eg : mGrow s = { o := s.o, n := s.n + i, pg := fun x => if x < s.n then s.pg x else plainP (if x = s.n then 2 else 3) s.o, bt := s.bt } := by unfold mGrow; rw [hpw, if_neg (by omega)]
      have hK := hK _ ⟨q, d, qp', qc', tp', tc'⟩ (by
        rw [eg]
        refine stp_of_new (((I5.sub (.cons_cons _ (.cons_cons _ (.cons _ (.cons _ .slnil))))).swap.join).toNew.conv (fun P => ⟨sl_congr P.1 fun y hy => ?_, bitsR_congr P.2.1 fun k j hk hj => ?_, P.2.2⟩) fun _ e => e)
        · unfold pgF
          dsimp only
          change y < (s.n + i) * 11 at hy
          rw [hpg (y / 11) (by omega)]
        · exact (keepB_self hs hk hj).trans (cutB_same hs.bi (Nat.le_add_right _ _) hk j))
      rw [eg] at hK
      exact ⟨w2, _, g0, _, _, _, g1, _, _, _, g2, hK⟩
    | succ r ih =>
      intro i hx q d pg' hi hpg I
      have ei : IntKind.wrap .i64 ((i : Int) + 1) = ((i + 1 : Nat) : Int) := by rw [IntKind.wrap_i64]; omega
      obtain ⟨f0, f1, f2⟩ := rb_c (I.at 2)
      refine hL11 _ _ _ _ _ _ _ _ (iT (by simp; omega) ?_)
      intro J12 k12
      have next : ∀ (hy : Heap) (p' : Option Addr) (c' : Nat), Hold h hy [slR p' (s.n + i + 1) c' 11 (pgF (putP pg' (s.n + i) (plainP (if i = 0 then 2 else 3) s.o))), rbR h1.size 0 none 0 0 none 0 0, rbR h.size s.o w.gp s.n w.gc w.qp s.o w.qc] →
          J12 [.pointer (some ⟨h.size, 0, none⟩), .pointer (some ⟨h1.size, 0, none⟩), .int .i64 (x : Int), .slice p' (s.n + i + 1) c', .int .i64 (i : Int)] hy := fun hy p' c' I' => by
        refine k12 _ _ _ _ _ _ _ _ ?_
        rw [ei]
        refine ih (i + 1) hy p' c' _ (by omega) (fun y hy => ?_) I'
        unfold putP
        by_cases h1 : y = s.n + i
        · have a1 : ¬ y < s.n := by omega
          rw [if_pos h1, if_neg a1]
          by_cases h2 : i = 0
          · have a2 : y = s.n := by omega
            rw [if_pos h2, if_pos a2]
          · have a2 : ¬ y = s.n := by omega
            rw [if_neg h2, if_neg a2]
        · rw [if_neg h1, hpg y (by omega)]
      refine ⟨fun e => ⟨_, f0, r4_page_ok fun h36 u36 => ⟨_, _, _, _, _, _, _, _, _, _, _, rfl, ?_⟩⟩, fun e => ⟨_, f0, r4_page_ok fun h36 u36 => ⟨_, _, _, _, _, _, _, _, _, _, _, rfl, ?_⟩⟩⟩
      · have hi0 : i = 0 := by simp at e; omega
        have I3 := I.quiet u36
        obtain ⟨os, hpre, hS⟩ := sl_appPg (plainP 2 s.o) (I3.at 0 (R := slR q (s.n + i) d 11 (pgF pg'))) (by omega)
        refine ⟨os, _, hpre, fun p' c' h' hres => next _ _ _ ?_⟩
        have := I3.step 0 (hS p' c' h' hres)
        rw [if_pos hi0]; exact this
      · have hi0 : i ≠ 0 := by simp at e; omega
        have I3 := I.quiet u36
        obtain ⟨os, hpre, hS⟩ := sl_appPg (plainP 3 s.o) (I3.at 0 (R := slR q (s.n + i) d 11 (pgF pg'))) (by omega)
        refine ⟨os, _, hpre, fun p' c' h' hres => next _ _ _ ?_⟩
        have := I3.step 0 (hS p' c' h' hres)
        rw [if_neg hi0]; exact this
  exact loop x 0 h25 p25 c25 s.pg (by omega) (fun y hy => by rw [if_pos (by omega)]) I2

theorem r4_Shrink_ok {k : Int} (hs : s.Ok) (hk63 : bd63 k) (H : (refR s w).P h)
    (hy : ∀ x : Nat, k = x → x ≤ s.n / 2 ^ s.o → ∀ (h' : Heap) (w' : RW), Stp h h' (refR s w) (refR (mShrink s x) w') → K (.tuple #[refV (mShrink s x) w', .int .i64 0]) h')
    (hn : ¬ shrinkOk s k → ∀ h', Upd NoB h h' → K (.tuple #[refV s w, .int .i64 1]) h') :
    CallV Try.prog w₀ F.croftref4_Shrink [refV s w, .int .i64 k] h K := by
  refine croftref4_Shrink.call ?_
  unfold croftref4_Shrink.vc
  have A := rb_new h s.o w.gp s.n w.gc w.qp s.o w.qc
  let h1 : Heap := h.push (.cells #[.int .i64 (s.o : Int), .slice w.gp s.n w.gc, .slice w.qp s.o w.qc] T.T_croftref4_Map)
  have B := rb_zero h1
  have I0 : Hold h _ [rbR h1.size 0 none 0 0 none 0 0, rbR h.size s.o w.gp s.n w.gc w.qp s.o w.qc] := ((Hold.nil h).new A).new B
  obtain ⟨c0, c1, c2⟩ := rb_c (I0.at 1)
  have n1 := hs.n1
  have o8 := hs.o8
  obtain ⟨x, hpw, hx1, hx2⟩ := pow_small (k := s.o) (by omega)
  rw [hpw] at hy
  have bad : ¬ shrinkOk s k → (∃ n0 : Int, cellAt (h1.push zmO) ⟨h.size, 0, none⟩ = some (.int .i64 n0) ∧ ∃ (p1 : Option Addr) (m1 c1 : Nat), cellAt (h1.push zmO) ⟨h.size, 1, none⟩ = some (.slice p1 m1 c1) ∧ ∃ (p2 : Option Addr) (m2 c2 : Nat), cellAt (h1.push zmO) ⟨h.size, 2, none⟩ = some (.slice p2 m2 c2) ∧
      WrN (h1.push zmO) ⟨h1.size, 0, none⟩ 3 ∧ ∃ z0 : Int, cellAt (setCs (h1.push zmO) ⟨h1.size, 0, none⟩ 0 [.int .i64 n0, .slice p1 m1 c1, .slice p2 m2 c2]) ⟨h1.size, 0, none⟩ = some (.int .i64 z0) ∧ ∃ (q1 : Option Addr) (k1 d1 : Nat), cellAt (setCs (h1.push zmO) ⟨h1.size, 0, none⟩ 0 [.int .i64 n0, .slice p1 m1 c1, .slice p2 m2 c2]) ⟨h1.size, 1, none⟩ = some (.slice q1 k1 d1) ∧
      ∃ (q2 : Option Addr) (k2 d2 : Nat), cellAt (setCs (h1.push zmO) ⟨h1.size, 0, none⟩ 0 [.int .i64 n0, .slice p1 m1 c1, .slice p2 m2 c2]) ⟨h1.size, 2, none⟩ = some (.slice q2 k2 d2) ∧ K (.tuple #[.agg #[.int .i64 z0, .slice q1 k1 d1, .slice q2 k2 d2], .int .i64 1]) (setCs (h1.push zmO) ⟨h1.size, 0, none⟩ 0 [.int .i64 n0, .slice p1 m1 c1, .slice p2 m2 c2])) := fun hb => by
    obtain ⟨w1, S⟩ := rb_set (o' := s.o) (gp' := w.gp) (n' := s.n) (gc' := w.gc) (qp' := w.qp) (m' := s.o) (qc' := w.qc) (I0.at 0)
    have I1 := I0.step 0 S
    obtain ⟨d0, d1, d2⟩ := rb_c (I1.at 0 (R := rbR h1.size s.o w.gp s.n w.gc w.qp s.o w.qc))
    exact ⟨_, c0, _, _, _, c1, _, _, _, c2, w1, _, d0, _, _, _, d1, _, _, _, d2, hn hb _ I1.u⟩
  simp only [add_mk, Nat.zero_add]
  intro J k1
  by_cases hk0 : 0 ≤ k
  case neg => exact pT (by simp; omega) (k1 _ _ ⟨fun _ => bad fun e => hk0 e.1, fun e => by cases e⟩)
  obtain ⟨a, rfl⟩ : ∃ a : Nat, k = a := ⟨k.toNat, by omega⟩
  refine pF (by simp) ⟨_, _, _, c1, _, c0, r4_power_ok (by omega) ⟨_, rfl, c1, ?_⟩⟩
  rw [hpw]
  have ed : IntKind.wrap .i64 (Int.tdiv (s.n : Int) (x : Int)) = ((s.n / x : Nat) : Int) := by
    rw [Int.tdiv_eq_ediv_of_nonneg (by omega), ← Int.natCast_ediv, IntKind.wrap_i64]
    have : s.n / x ≤ s.n := Nat.div_le_self _ _
    generalize s.n / x = y at *
    omega
  rw [ed]
  refine ⟨by omega, k1 _ _ ⟨fun e => bad fun e' => ?_, fun e => ?_⟩⟩
  · have := e'.2
    rw [hpw] at this
    generalize s.n / x = y at *
    simp at e
    omega
  have hle : a ≤ s.n / x := by
    generalize s.n / x = y at *
    simp at e; omega
  have hax : a * x ≤ s.n := Nat.le_trans (Nat.mul_le_mul_right x hle) (Nat.div_mul_le_self _ _)
  refine ⟨_, _, _, c1, _, _, _, c1, _, c0, r4_power_ok (by omega) ⟨_, rfl, c1, c1, ?_⟩⟩
  rw [hpw]
  have e1 : IntKind.wrap .i64 ((a : Int) * (x : Int)) = ((a * x : Nat) : Int) := by rw [← Int.natCast_mul, IntKind.wrap_i64]; generalize a * x = y at *; omega
  have e2 : IntKind.wrap .i64 ((s.n : Int) - ((a * x : Nat) : Int)) = ((s.n - a * x : Nat) : Int) := by rw [IntKind.wrap_i64]; generalize a * x = y at *; omega
  rw [e1, e2, sl_front H.1 rfl]
  have hnc := H.1.1
  have e3 : Int.toNat ((s.n - a * x : Nat) : Int) - Int.toNat (0 : Int) = s.n - a * x := by simp
  have e4 : w.gc - Int.toNat (0 : Int) = w.gc := by simp
  rw [e3, e4]
  obtain ⟨w1, S1⟩ := rb_set1 (gp' := w.gp) (n' := s.n - a * x) (gc' := w.gc) (I0.at 1)
  have I3 := I0.step 1 S1
  obtain ⟨f0, f1, f2⟩ := rb_c (I3.at 1 (R := rbR h.size s.o w.gp (s.n - a * x) w.gc w.qp s.o w.qc))
  have H3 := (refR s w).st H I3.u fun _ _ => id
  obtain ⟨r1, r2⟩ := ref_rows hs H3
  have hn' : s.n - a * x ≤ 1024 := by omega
  refine ⟨by omega, by omega, by omega, w1, _, f0, _, _, _, f1, _, _, _, f2, r4_paired_ok o8 hn' o8 (fun k hk => Nat.le_trans (Nat.div_le_self _ _) n1) r1 r2 fun h48 qp' qc' tp' tc' N48 => ⟨_, _, _, _, _, _, _, rfl, ?_⟩⟩
  have I4 := I3.new N48
  obtain ⟨w2, S2⟩ := rb_set (o' := s.o) (gp' := w.gp) (n' := s.n - a * x) (gc' := w.gc) (qp' := qp') (m' := s.o) (qc' := qc') (I4.at 1)
  have I5 := I4.step 1 S2
  obtain ⟨g0, g1, g2⟩ := rb_c (I5.at 1 (R := rbR h1.size s.o w.gp (s.n - a * x) w.gc qp' s.o qc'))
  have eg : mShrink s a = { s with n := s.n - a * x, bt := cutB (s.n - a * x) s.bt } := by unfold mShrink; rw [hpw]
  have hy := hy a rfl hle _ ⟨w.gp, w.gc, qp', qc', tp', tc'⟩ (by
    rw [eg]
    have H5 := (refR s w).st H I5.u fun _ _ => id
    have BT := I5.at 0 (R := bitsR s.o (s.n - a * x) qp' qc' tp' tc' (keepB s.o (fun k => s.n / 2 ^ (k + 1)) s.bt))
    have gB := I5.ge (bitsR s.o (s.n - a * x) qp' qc' tp' tc' (keepB s.o (fun k => s.n / 2 ^ (k + 1)) s.bt)) (by simp)
    refine ⟨I5.u.mono fun _ e => e.elim, ⟨sl_take H5.1 (Nat.sub_le _ _), bitsR_congr BT fun k j hk hj => keepB_self hs hk hj, fun b e e' => ?_⟩, fun b e => ?_⟩
    · have h1 := gB b e'
      have h2 := (refR s w).lt H b (.inl e)
      omega
    · rcases e with e | e
      · exact .inl (.inl e)
      · exact .inr (gB b e))
  rw [eg] at hy
  exact ⟨w2, _, g0, _, _, _, g1, _, _, _, g2, hy⟩

end
end Go.Proofs.Ytnplkinakaepdaa
