/- Chapter 4's own answer (croftref4): its calls on pages. No condition. -/
import Derived.Test.YtnplkinakaepdaaQ2
set_option linter.unusedSimpArgs false
set_option linter.unusedVariables false
namespace Go.Proofs.Ytnplkinakaepdaa
open Go.V Classical

section
variable {w₀ : World} {h : Heap} {K : Value → Heap → Prop} {s : MS} {w : RW}

theorem sl_page {gp : Option Addr} {n gc : Nat} {pg : Nat → Nat → Int} {i : Nat} (hi : i < n) (Q : Nat → Int) (H : (slR gp n gc 11 (pgF pg)).P h) : ∃ b, gp = some ⟨b, 0, none⟩ ∧ WrN h ⟨b, i * 11, none⟩ 11 ∧
    Stp h (setCs h ⟨b, i * 11, none⟩ 0 (pgL Q)) (slR gp n gc 11 (pgF pg)) (slR gp n gc 11 (pgF (putP pg i Q))) := by
  obtain ⟨b, e, hw, S⟩ := sl_sets H (i * 11) (pgL Q) (by show i * 11 + 11 ≤ n * 11; omega) (by show 0 < 11; omega)
  refine ⟨b, e, hw, S.conv (fun P => sl_congr P fun x hx => ?_) fun _ e => e⟩
  have hl : (pgL Q).length = 11 := rfl
  rw [hl]
  split
  · rename_i hx'
    obtain ⟨j, hj, rfl⟩ : ∃ j, j < 11 ∧ x = i * 11 + j := ⟨x - i * 11, by omega, by omega⟩
    rw [pgF_at _ hj, show i * 11 + j - i * 11 = j by omega]
    unfold putP; rw [if_pos rfl]
    exact pgL_getD Q hj _
  · unfold pgF putP
    have : x / 11 ≠ i := by omega
    simp only [this, if_false]

theorem sl_pcell {gp : Option Addr} {n gc : Nat} {pg : Nat → Nat → Int} {i j : Nat} (hi : i < n) (hj : j < 11) (v : Int) (H : (slR gp n gc 11 (pgF pg)).P h) : ∃ b, gp = some ⟨b, 0, none⟩ ∧ Wr h ⟨b, i * 11 + j, none⟩ ∧
    Stp h (setC h ⟨b, i * 11 + j, none⟩ (pcl j v)) (slR gp n gc 11 (pgF pg)) (slR gp n gc 11 (pgF fun x y => if x = i ∧ y = j then v else pg x y)) := by
  obtain ⟨b, e, hw, S⟩ := sl_set H (o := i * 11 + j) (by omega) (pcl j v)
  refine ⟨b, e, hw, S.conv (fun P => sl_congr P fun x hx => ?_) fun _ e => e⟩
  unfold pgF
  split
  · rename_i hx'
    subst hx'
    rw [show (i * 11 + j) % 11 = j by omega, show (i * 11 + j) / 11 = i by omega]
    simp
  · have : ¬ (x / 11 = i ∧ x % 11 = j) := by omega
    simp only [this, if_false]

theorem ref_rows (hs : s.Ok) (H : (refR s w).P h) : Row h w.qp s.o (fun k => .slice (w.tp k) (s.n / 2 ^ (k + 1)) (w.tc k)) ∧ ∀ k, k < s.o → Row h (w.tp k) (s.n / 2 ^ (k + 1)) fun i => .bool (s.bt k i) := by
  refine ⟨?_, fun k hk => ?_⟩
  · have := sl_row H.2.1.1; rw [Nat.mul_one] at this; exact this
  · have := sl_row (H.2.1.2.1.1 k hk); rw [Nat.mul_one] at this; exact this

/-- The document's own map, its pages and bits put together anew. -/
theorem keepB_self (hs : s.Ok) {n' : Nat} {k i : Nat} (hk : k < s.o) (hi : i < n' / 2 ^ (k + 1)) : keepB s.o (fun k => s.n / 2 ^ (k + 1)) s.bt k i = cutB n' s.bt k i := by
  unfold keepB cutB
  by_cases h1 : i < s.n / 2 ^ (k + 1)
  · simp [hk, h1, hi]
  · have : s.bt k i = false := by
      cases hb : s.bt k i
      · rfl
      · exact absurd (hs.bi k i hk hb) h1
    simp [this]

theorem clamp_cases {a : Int} : ((if a < 0 then (0 : Int) else a) > 8 → ((clampO a : Nat) : Int) = 8) ∧ (¬ (if a < 0 then (0 : Int) else a) > 8 → ((clampO a : Nat) : Int) = if a < 0 then (0 : Int) else a) := by
  unfold clampO
  refine ⟨fun h => ?_, fun h => ?_⟩
  · by_cases h0 : a < 0
    · rw [if_pos h0] at h; omega
    · rw [if_neg h0] at h
      rw [if_neg h0]
      split <;> omega
  · by_cases h0 : a < 0
    · simp [h0]
    · rw [if_neg h0] at h
      rw [if_neg h0, if_neg h0]
      split <;> omega

theorem r4_New_ok {p : Int} (hp : bd63 p) (hK : ∀ (h' : Heap) (w : RW), New h h' (refR (mNew p) w) → K (refV (mNew p) w) h') : CallV Try.prog w₀ F.croftref4_New [.int .i64 p] h K := by
  refine croftref4_New.call ?_
  unfold croftref4_New.vc
  have A := rb_zero h
  intro J2 k2
  have o8 := (mNew_ok p).o8
  have j2 : J2 [.int .i64 (if p < 0 then (0 : Int) else p), .pointer (some ⟨h.size, 0, none⟩)] (h.push zmO) := by
    refine k2 _ _ _ ?_
    intro J3 k3
    have j3 : J3 [.int .i64 ((clampO p : Nat) : Int), .pointer (some ⟨h.size, 0, none⟩)] (h.push zmO) := by
      refine k3 _ _ _ (r4_paired_ok (n := 0) (gc := 0) (m := 0) (qc := 0) (gp := none) (qp := none) (tp := fun _ => none) (ml := fun _ => 0) (tc := fun _ => 0) (bt := fun _ _ => false) (o := clampO p) o8 (by omega) (by omega) (fun k hk => absurd hk (by omega)) (.inl rfl) (fun k hk => absurd hk (by omega)) fun h9 qp' qc' tp' tc' N9 => ⟨_, _, _, _, _, _, _, rfl, ?_⟩)
      have I : Hold h h9 [bitsR (clampO p) 0 qp' qc' tp' tc' (keepB 0 (fun _ => 0) fun _ _ => false), rbR h.size 0 none 0 0 none 0 0] := ((Hold.nil h).new A).new N9
      obtain ⟨w1, S⟩ := rb_set (o' := clampO p) (gp' := none) (n' := 0) (gc' := 0) (qp' := qp') (m' := clampO p) (qc' := qc') (I.at 1)
      have I2 := I.step 1 S
      obtain ⟨c0, c1, c2⟩ := rb_c (I2.at 1 (R := rbR h.size (clampO p) none 0 0 qp' (clampO p) qc'))
      simp only [add_mk, Nat.zero_add]
      refine ⟨w1, _, c0, _, _, _, c1, _, _, _, c2, hK _ ⟨none, 0, qp', qc', tp', tc'⟩ ?_⟩
      have I3 := (I2.sub (.cons_cons _ (.cons _ .slnil))).add (R := slR none 0 0 11 (pgF fun _ _ => 0)) (Upd.refl _ _) (sl_nil 11 _ _) (fun b e => absurd e (sl_nil_fp b))
      refine (I3.join).toNew.conv (fun P => ⟨P.1, bitsR_congr P.2.1 fun k i hk hi => by simp [keepB, mNew], P.2.2⟩) fun _ e => e
    have hc := @clamp_cases p
    refine ⟨fun e => ?_, fun e => ?_⟩
    · rw [hc.1 (by simpa using e)] at j3; exact j3
    · rw [hc.2 (by simpa using e)] at j3; exact j3
  by_cases h0 : p < 0
  · rw [if_pos h0] at j2
    exact iT (by simp; exact h0) j2
  · rw [if_neg h0] at j2
    exact iF (by simp; omega) j2

theorem r4_Is_ok {o n gc m qc : Nat} {gp qp : Option Addr} {i : Int} (hK : ∀ h', Upd NoB h h' → K (.bool (decide (0 ≤ i ∧ i < n))) h') : CallV Try.prog w₀ F.croftref4_Is [.agg #[.int .i64 (o : Int), .slice gp n gc, .slice qp m qc], .int .i64 i] h K := by
  refine croftref4_Is.call ?_
  unfold croftref4_Is.vc
  have A := rb_new h o gp n gc qp m qc
  obtain ⟨c0, c1, c2⟩ := rb_c A.p
  have hK := hK _ A.u
  simp only [jor, jand, cellAt_new, add_mk, List.getElem?_toArray, Nat.zero_add, List.getElem?_cons_zero, List.getElem?_cons_succ, Option.some.injEq, Value.int.injEq, Value.bool.injEq, Value.pointer.injEq, Value.slice.injEq, true_and, and_true, exists_eq_left', exists_eq', and_assoc, exists_and_left, c1]
  have : (decide (i ≥ 0) && decide (i < (n : Int))) = decide (0 ≤ i ∧ i < n) := by rw [Bool.eq_iff_iff]; simp
  rw [this]
  exact hK

theorem ref_page (H : (refR s w).P h) {i : Nat} (hi : i < s.n) : ∃ b, w.gp = some ⟨b, 0, none⟩ ∧ ∀ j, j < 11 → cellAt h ⟨b, i * 11 + j, none⟩ = some (pcl j (s.pg i j)) := mq_pageS2 H.1 hi

theorem r4_Head_ok {i : Int} (hs : s.Ok) (H : (refR s w).P h) (hy : ∀ m : Nat, i = m → m < s.n → ∀ h', Upd NoB h h' → K (.int .i64 ((m / 2 ^ (s.pg m 1).toNat * 2 ^ (s.pg m 1).toNat : Nat) : Int)) h')
    (hn : ¬ (0 ≤ i ∧ i < s.n) → ∀ h', Upd NoB h h' → K (.int .i64 (-1)) h') : CallV Try.prog w₀ F.croftref4_Head [refV s w, .int .i64 i] h K := by
  refine croftref4_Head.call ?_
  unfold croftref4_Head.vc
  have A := rb_new h s.o w.gp s.n w.gc w.qp s.o w.qc
  obtain ⟨c0, c1, c2⟩ := rb_c A.p
  have n1 := hs.n1
  simp only [add_mk, Nat.zero_add]
  refine ⟨_, c0, _, _, _, c1, _, _, _, c2, r4_Is_ok fun h8 u8 => ⟨_, rfl, fun e => ?_, fun e => ?_⟩⟩
  · exact hn (by simp at e; omega) _ (A.u.nx u8 fun _ e _ => e)
  · simp at e
    obtain ⟨m, rfl⟩ : ∃ m : Nat, i = m := ⟨i.toNat, by omega⟩
    have hm : m < s.n := by omega
    have u := A.u.nx u8 fun _ e _ => e
    have H8 := (refR s w).st H u fun _ _ => id
    obtain ⟨b, eb, hc⟩ := ref_page H8 hm
    obtain ⟨d0, d1, d2⟩ := rb_c ((rbR _ _ _ _ _ _ _ _).st A.p u8 fun _ _ => id)
    have T := (hs.pg m hm).o
    obtain ⟨r, hr⟩ : ∃ r : Nat, s.pg m 1 = r := ⟨(s.pg m 1).toNat, by omega⟩
    have h1 : cellAt h8 ⟨b, m * 11 + 1, none⟩ = some (.int .i64 (r : Int)) := by rw [hc 1 (by omega), hr]; rfl
    have hy := hy m rfl hm h8 u
    rw [hr, Int.toNat_natCast] at hy
    obtain ⟨x, hpw, hx1, hx2⟩ := pow_small (k := r) (by omega)
    refine ⟨_, _, _, d1, ?_⟩
    rw [eb]
    simp only [jor, jand, cellAt_new, add_mk, List.getElem?_toArray, Nat.zero_add, List.getElem?_cons_zero, List.getElem?_cons_succ, Option.some.injEq, Value.int.injEq, Value.bool.injEq, Value.pointer.injEq, Value.slice.injEq, true_and, and_true, exists_eq_left', exists_eq', and_assoc, exists_and_left, Int.toNat_natCast, h1]
    refine ⟨by omega, by omega, r4_power_ok (by omega) ⟨_, rfl, ?_⟩⟩
    rw [hpw] at hy ⊢
    have em : Int.tmod (m : Int) (x : Int) = ((m % x : Nat) : Int) := by rw [Int.tmod_eq_emod_of_nonneg (by omega)]; omega
    have ev : IntKind.wrap .i64 ((m : Int) - ((m % x : Nat) : Int)) = ((m / x * x : Nat) : Int) := by
      have h2 := Nat.div_add_mod m x
      rw [Nat.mul_comm] at h2
      generalize m / x * x = y at *
      rw [IntKind.wrap_i64]; omega
    rw [em, ev]
    exact ⟨by omega, hy⟩

theorem refStp {h' : Heap} {pg' : Nat → Nat → Int} (H : (refR s w).P h) (S : Stp h h' (slR w.gp s.n w.gc 11 (pgF s.pg)) (slR w.gp s.n w.gc 11 (pgF pg'))) : Stp h h' (refR s w) (refR { s with pg := pg' } w) := Stp.left S H

theorem r4_Run_ok {i r kind : Int} (hs : s.Ok) (hi63 : bd63 i) (hr63 : bd63 r) (H : (refR s w).P h)
    (hy : ∀ m r' : Nat, i = m → r = r' → r' ≤ s.o → m % 2 ^ r' = 0 → m + 2 ^ r' ≤ s.n → (kind = 0 ∨ kind = 2) → ∀ h', Stp h h' (refR s w) (refR { s with pg := runP s.pg m r' kind } w) → K (.int .i64 0) h')
    (hn : ¬ runOk s i r kind → ∀ h', Upd NoB h h' → K (.int .i64 1) h') :
    CallV Try.prog w₀ F.croftref4_Run [refV s w, .int .i64 i, .int .i64 r, .int .i64 kind] h K := by
  refine croftref4_Run.call ?_
  unfold croftref4_Run.vc
  have A := rb_new h s.o w.gp s.n w.gc w.qp s.o w.qc
  obtain ⟨c0, c1, c2⟩ := rb_c A.p
  have n1 := hs.n1
  have o8 := hs.o8
  have bad : ¬ runOk s i r kind → ∀ b : Bool, b = true → ∀ (J5 : Bool → Heap → Prop) (X : Prop), (∀ (b30 : Bool) (h30 : Heap), ((b30 = true → K (.int .i64 1) h30) ∧ (b30 = false → X)) → J5 b30 h30) → J5 b (h.push (.cells #[.int .i64 (s.o : Int), .slice w.gp s.n w.gc, .slice w.qp s.o w.qc] T.T_croftref4_Map)) :=
    fun hb b eb J5 X k5 => k5 _ _ ⟨fun _ => hn hb _ A.u, fun e => by rw [eb] at e; cases e⟩
  intro J2 k2
  by_cases hk : kind = 0 ∨ kind = 2
  case neg =>
    have nf : ¬ runOk s i r kind := fun F => hk F.1
    have go : J2 true (h.push (.cells #[.int .i64 (s.o : Int), .slice w.gp s.n w.gc, .slice w.qp s.o w.qc] T.T_croftref4_Map)) := by
      refine k2 _ _ ?_
      intro J3 k3
      refine pT rfl (k3 _ _ ?_)
      intro J4 k4
      refine pT rfl (k4 _ _ ?_)
      intro J5 k5
      exact pT rfl (k5 _ _ ⟨fun _ => hn nf _ A.u, fun e => by cases e⟩)
    have h2 : (kind != 2) = true := by simp; omega
    exact ⟨fun _ => by rw [h2]; exact go, fun e => by simp at e; omega⟩
  have go : J2 false (h.push (.cells #[.int .i64 (s.o : Int), .slice w.gp s.n w.gc, .slice w.qp s.o w.qc] T.T_croftref4_Map)) := by
    refine k2 _ _ ?_
    intro J3 k3
    by_cases hr0 : 0 ≤ r
    case neg =>
      have nf : ¬ runOk s i r kind := fun F => hr0 F.2.1
      refine pF rfl (k3 _ _ ?_)
      intro J4 k4
      refine pT (by simp; omega) (k4 _ _ ?_)
      intro J5 k5
      exact pT rfl (k5 _ _ ⟨fun _ => hn nf _ A.u, fun e => by cases e⟩)
    refine pF rfl (k3 _ _ ?_)
    intro J4 k4
    refine pF (by simp; omega) ⟨_, c0, k4 _ _ ?_⟩
    intro J5 k5
    by_cases hro : r ≤ s.o
    case neg =>
      have nf : ¬ runOk s i r kind := fun F => hro F.2.2.1
      exact pT (by simp; omega) (k5 _ _ ⟨fun _ => hn nf _ A.u, fun e => by cases e⟩)
    refine pF (by simp; omega) (k5 _ _ ?_)
    by_cases hi0 : 0 ≤ i
    case neg =>
      have nf : ¬ runOk s i r kind := fun F => hi0 F.2.2.2.1
      exact ⟨fun _ => hn nf _ A.u, fun e => by simp at e; omega⟩
    obtain ⟨r', rfl⟩ : ∃ r' : Nat, r = r' := ⟨r.toNat, by omega⟩
    obtain ⟨m, rfl⟩ : ∃ m : Nat, i = m := ⟨i.toNat, by omega⟩
    obtain ⟨x, hpw, hx1, hx2⟩ := pow_small (k := r') (by omega)
    refine ⟨fun e => by simp at e; omega, fun _ => r4_power_ok (by omega) ⟨_, rfl, ?_⟩⟩
    rw [hpw]
    refine ⟨by omega, ?_⟩
    intro J7 k7
    have em : Int.tmod (m : Int) (x : Int) = ((m % x : Nat) : Int) := by rw [Int.tmod_eq_emod_of_nonneg (by omega)]; omega
    rw [em]
    by_cases ha : m % x = 0
    case neg =>
      have nf : ¬ runOk s m r' kind := fun F => ha (by have := F.2.2.2.2.1; simp only [Int.toNat_natCast, hpw] at this; exact this)
      exact pT (by simp only [bne_iff_ne, ne_eq]; omega) (k7 _ _ ⟨fun _ => hn nf _ A.u, fun e => by cases e⟩)
    have ew : IntKind.wrap .i64 ((s.n : Int) - (x : Int)) = (s.n : Int) - x := by rw [IntKind.wrap_i64]; omega
    refine pF (by simp only [bne_eq_false_iff_eq]; omega) ⟨_, _, _, by first | exact c1 | (rw [add_mk]; exact c1), k7 _ _ ⟨fun e => ?_, fun e => ?_⟩⟩
    · rw [ew] at e
      refine hn (fun F => ?_) _ A.u
      have := F.2.2.2.2.2
      simp only [Int.toNat_natCast, hpw] at this
      simp at e; omega
    rw [ew] at e
    have hmn : m + x ≤ s.n := by simp at e; omega
    intro J8 k8 L11 hL11
    let BX := rbR h.size s.o w.gp s.n w.gc w.qp s.o w.qc
    have S0 : Stp h _ (refR s w) (andR (refR s w) BX) := Stp.new H A
    have loop : ∀ (q a : Nat) (hz : Heap) (pg' : Nat → Nat → Int), a + q = x → (∀ y, y < s.n → ∀ j, j < 11 → pg' y j = (if m ≤ y ∧ y < m + a then plainP (kind + 1) r' j else s.pg y j)) →
        Stp h hz (refR s w) (andR (refR { s with pg := pg' } w) BX) → L11 [.int .i64 (m : Int), .int .i64 (r' : Int), .int .i64 kind, .pointer (some ⟨h.size, 0, none⟩), .int .i64 (x : Int), .int .i64 (a : Int)] hz := by
      intro q
      induction q with
      | zero =>
        intro a hz pg' haq hpg S
        have : a = x := by omega
        subst this
        obtain ⟨d0, d1, d2⟩ := rb_c S.p.2.1
        refine hL11 _ _ _ _ _ _ _ (iF (by simp) (k8 _ _ _ _ _ ⟨_, _, _, by rw [add_mk]; exact d1, r4_page_ok fun h66 u66 => ⟨_, _, _, _, _, _, _, _, _, _, _, rfl, ?_⟩⟩))
        have S2 := S.trans (Stp.quiet S.p u66)
        obtain ⟨d0, d1, d2⟩ := rb_c S2.p.2.1
        obtain ⟨b, eb, hw, S3⟩ := sl_page (i := m) (by show m < s.n; omega) (plainP kind r') S2.p.1.1
        have S4 := S2.trans (Stp.left (Stp.left S3 S2.p.1) S2.p)
        refine ⟨by rw [add_mk]; exact d1, ⟨b, 0, none⟩, eb, by omega, by omega, by rw [add_mk, Int.toNat_natCast, Nat.zero_add]; exact hw, ?_⟩
        rw [add_mk, Int.toNat_natCast, Nat.zero_add]
        refine hy m r' rfl rfl (by omega) (by rw [hpw]; exact ha) (by rw [hpw]; exact hmn) hk _ (S4.conv (fun P => refR_congr (s := { s with pg := putP pg' m (plainP kind r') }) (s' := { s with pg := runP s.pg m r' kind }) P.1 rfl rfl (fun y hy' j hj => ?_) fun _ _ _ _ => rfl) fun _ e => .inl e)
        show putP pg' m (plainP kind r') y j = runP s.pg m r' kind y j
        unfold putP runP
        rw [hpw]
        by_cases h1 : y = m
        · subst h1; rw [if_pos rfl, if_pos (by omega), if_pos rfl]
        · rw [if_neg h1, hpg y hy' j hj]
          by_cases h2 : m ≤ y ∧ y < m + a
          · rw [if_pos h2, if_pos h2, if_neg h1]
          · rw [if_neg h2, if_neg h2]
      | succ q ih =>
        intro a hz pg' haq hpg S
        have e1 : IntKind.wrap .i64 ((a : Int) + 1) = ((a + 1 : Nat) : Int) := by rw [IntKind.wrap_i64]; omega
        have e2 : IntKind.wrap .i64 ((m : Int) + (a : Int)) = ((m + a : Nat) : Int) := by rw [IntKind.wrap_i64]; omega
        have e3 : IntKind.wrap .i64 (kind + 1) = kind + 1 := by rw [IntKind.wrap_i64]; omega
        obtain ⟨d0, d1, d2⟩ := rb_c S.p.2.1
        refine hL11 _ _ _ _ _ _ _ (iT (by simp; omega) ⟨_, _, _, by rw [add_mk]; exact d1, ?_⟩)
        rw [e3]
        refine r4_page_ok fun h66 u66 => ⟨_, _, _, _, _, _, _, _, _, _, _, rfl, ?_⟩
        have S2 := S.trans (Stp.quiet S.p u66)
        obtain ⟨d0, d1, d2⟩ := rb_c S2.p.2.1
        obtain ⟨b, eb, hw, S3⟩ := sl_page (i := m + a) (by show m + a < s.n; omega) (plainP (kind + 1) r') S2.p.1.1
        have S4 := S2.trans (Stp.left (Stp.left S3 S2.p.1) S2.p)
        rw [e2, e1]
        refine ⟨by rw [add_mk]; exact d1, ⟨b, 0, none⟩, eb, by omega, by omega, by rw [add_mk, Int.toNat_natCast, Nat.zero_add]; exact hw, ?_⟩
        rw [add_mk, Int.toNat_natCast, Nat.zero_add]
        refine ih (a + 1) _ (putP pg' (m + a) (plainP (kind + 1) r')) (by omega) (fun y hy' j hj => ?_) S4
        unfold putP
        by_cases h1 : y = m + a
        · subst h1
          have : m ≤ m + a ∧ m + a < m + (a + 1) := by omega
          rw [if_pos rfl, if_pos this]
        · rw [if_neg h1, hpg y hy' j hj]
          by_cases h2 : m ≤ y ∧ y < m + a
          · have : m ≤ y ∧ y < m + (a + 1) := by omega
            rw [if_pos h2, if_pos this]
          · have : ¬ (m ≤ y ∧ y < m + (a + 1)) := by omega
            rw [if_neg h2, if_neg this]
    exact loop x 0 _ s.pg (by omega) (fun y hy' j hj => by rw [if_neg (by omega)]) S0
  have h2 : kind ≠ 0 → (kind != 2) = false := fun h => by simp; omega
  refine ⟨fun e => ?_, fun _ => go⟩
  simp at e
  rw [h2 e]; exact go

theorem r4_Slab_ok {i c : Int} (hs : s.Ok) (H : (refR s w).P h)
    (hy : ∀ m : Nat, i = m → m < s.n → 0 ≤ c → c ≤ 7 → ∀ h', Stp h h' (refR s w) (refR (setPg s m (slabP c)) w) → K (.int .i64 0) h')
    (hn : ¬ slabOk s i c → ∀ h', Upd NoB h h' → K (.int .i64 1) h') :
    CallV Try.prog w₀ F.croftref4_Slab [refV s w, .int .i64 i, .int .i64 c] h K := by
  refine croftref4_Slab.call ?_
  unfold croftref4_Slab.vc
  have A := rb_new h s.o w.gp s.n w.gc w.qp s.o w.qc
  obtain ⟨c0, c1, c2⟩ := rb_c A.p
  simp only [add_mk, Nat.zero_add]
  refine ⟨_, c0, _, _, _, c1, _, _, _, c2, r4_Is_ok fun h10 u10 => ⟨_, rfl, ?_⟩⟩
  let BX := rbR h.size s.o w.gp s.n w.gc w.qp s.o w.qc
  have S0 : Stp h _ (refR s w) (andR (refR s w) BX) := Stp.new H A
  have S1 := S0.trans (Stp.quiet S0.p u10)
  have u := A.u.nx u10 fun _ e _ => e
  intro J3 k3
  by_cases hi : 0 ≤ i ∧ i < s.n
  case neg =>
    have nf : ¬ slabOk s i c := fun F => hi ⟨F.1, F.2.1⟩
    rw [decide_eq_false hi]
    refine pT rfl (k3 _ _ ?_)
    intro J4 k4
    exact pT rfl (k4 _ _ ⟨fun _ => hn nf _ u, fun e => by cases e⟩)
  rw [decide_eq_true hi]
  obtain ⟨m, rfl⟩ : ∃ m : Nat, i = m := ⟨i.toNat, by omega⟩
  refine pF rfl (k3 _ _ ?_)
  intro J4 k4
  by_cases hc : 0 ≤ c ∧ c ≤ 7
  case neg =>
    have nf : ¬ slabOk s m c := fun F => hc F.2.2
    by_cases h0 : c < 0
    · exact pT (by simp; exact h0) (k4 _ _ ⟨fun _ => hn nf _ u, fun e => by cases e⟩)
    · refine pF (by simp; omega) (k4 _ _ ⟨fun _ => hn nf _ u, fun e => by simp at e; omega⟩)
  refine pF (by simp; omega) (k4 _ _ ⟨fun e => by simp at e; omega, fun _ => r4_page_ok fun h20 u20 => ⟨_, _, _, _, _, _, _, _, _, _, _, rfl, ?_⟩⟩)
  have S2 := S1.trans (Stp.quiet S1.p u20)
  obtain ⟨w1, B⟩ := pg_lay h20 (plainP 4 0)
  have S3 : Stp h _ (refR s w) (andR (andR (refR s w) BX) (pgR h20.size (plainP 4 0))) := S2.trans (Stp.new S2.p B)
  obtain ⟨w2, S4⟩ := pg_set1 S3.p.2.1 (i := 2) (by omega) c
  have S5 := S3.trans (Stp.right S4 S3.p)
  obtain ⟨d0, d1, d2⟩ := rb_c S5.p.1.2.1
  obtain ⟨b, eb, hw, S6⟩ := sl_page (i := m) (by omega) (slabP c) S5.p.1.1.1
  have S7 := S5.trans (Stp.left (Stp.left (Stp.left S6 S5.p.1.1) S5.p.1) S5.p)
  refine ⟨w1, w2, _, _, _, d1, ?_⟩
  have hpg : (pgR h20.size (slabP c)).P _ := S5.p.2.1
  refine pgR_ld hpg ⟨⟨b, 0, none⟩, eb, by omega, by omega, ?_⟩
  simp only [add_mk, Nat.zero_add, Int.toNat_natCast]
  exact ⟨hw, hy m rfl (by omega) hc.1 hc.2 _ (S7.conv (fun P => P.1.1) fun b e => .inl (.inl e))⟩

end
end Go.Proofs.Ytnplkinakaepdaa
