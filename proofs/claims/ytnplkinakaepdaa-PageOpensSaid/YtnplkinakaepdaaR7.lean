/- Chapter 4's own answer (croftref4): Open. No condition. -/
import Derived.Test.YtnplkinakaepdaaR3
set_option linter.unusedSimpArgs false
set_option linter.unusedVariables false
namespace Go.Proofs.Ytnplkinakaepdaa
open Go.V Classical

section
variable {w₀ : World} {h : Heap} {K : Value → Heap → Prop} {s : MS} {w : RW}

theorem r4_in_ok {v lo hi : Int} (hK : K (.bool (decide (lo ≤ v ∧ v ≤ hi))) h) : CallV Try.prog w₀ F.croftref4_in [.int .i64 v, .int .i64 lo, .int .i64 hi] h K := by
  refine croftref4_in.call ?_
  unfold croftref4_in.vc
  intro J k
  by_cases h1 : lo ≤ v
  · refine qT (by simp; exact h1) (k _ _ ?_)
    have : decide (lo ≤ v ∧ v ≤ hi) = decide (v ≤ hi) := by simp [h1]
    rwa [this] at hK
  · refine qF' (by simp; omega) (k _ _ ?_)
    have : decide (lo ≤ v ∧ v ≤ hi) = false := by simp [h1]
    rwa [this] at hK

def putB (bt : Nat → Nat → Bool) (k i : Nat) (v : Bool) : Nat → Nat → Bool := fun a b => if a = k ∧ b = i then v else bt a b

theorem bits_row {o n : Nat} {qp : Option Addr} {qc : Nat} {tp : Nat → Option Addr} {tc : Nat → Nat} {bt : Nat → Nat → Bool} (H : (bitsR o n qp qc tp tc bt).P h) {k : Nat} (hk : k < o) :
    ∃ b, qp = some ⟨b, 0, none⟩ ∧ cellAt h ⟨b, k, none⟩ = some (.slice (tp k) (n / 2 ^ (k + 1)) (tc k)) := sl_cell H.1 (i := k) (by omega)

theorem bits_put {o n : Nat} {qp : Option Addr} {qc : Nat} {tp : Nat → Option Addr} {tc : Nat → Nat} {bt : Nat → Nat → Bool} (H : (bitsR o n qp qc tp tc bt).P h) {k i : Nat} (hk : k < o) (hi : i < n / 2 ^ (k + 1)) (v : Bool) :
    ∃ b, tp k = some ⟨b, 0, none⟩ ∧ Wr h ⟨b, i, none⟩ ∧ Stp h (setC h ⟨b, i, none⟩ (.bool v)) (bitsR o n qp qc tp tc bt) (bitsR o n qp qc tp tc (putB bt k i v)) := by
  obtain ⟨b, eb, hw, S⟩ := sl_set (H.2.1.1 k hk) (o := i) (by omega) (.bool v)
  refine ⟨b, eb, hw, ?_⟩
  have S0 := S.conv (R2 := slR (tp k) (n / 2 ^ (k + 1)) (tc k) 1 fun i' => .bool (putB bt k i v k i')) (fun P => sl_congr P fun j hj => by
    unfold putB
    by_cases h1 : j = i
    · subst h1; simp
    · simp [h1]) fun _ e => e
  have S1 := Stp.all' (R'' := fun k' => slR (tp k') (n / 2 ^ (k' + 1)) (tc k') 1 fun i' => .bool (putB bt k i v k' i')) k hk S0 H.2.1 fun j hj => by
    by_cases h1 : j = k
    · subst h1; simp
    · unfold putB
      simp only [h1, false_and, if_false]
  exact Stp.right S1 H

set_option maxHeartbeats 2000000 in
theorem r4_Open_ok {o : Int} {gp qp : Option Addr} {n gc m qc : Nat} {pg : Nat → Nat → Int} {wp : Nat → Option Addr} {wn wc : Nat → Nat} {ws : Nat → Nat → Nat} (ho63 : bd63 o) (hn63 : n < 9223372036854775808) (hm63 : m < 9223372036854775808)
    (hp : Row h gp (n * 11) (pgF pg)) (hq : PairsIn h qp m wp wn wc ws)
    (hy : OpenOk o n pg m wn → ∀ (h' : Heap) (w : RW), New h h' (refR (mOpen m n pg wn ws) w) → K (.tuple #[refV (mOpen m n pg wn ws) w, .bool true]) h')
    (hn : ¬ OpenOk o n pg m wn → ∀ h' (a : Int) (p1 : Option Addr) (m1 c1 : Nat) (p2 : Option Addr) (m2 c2 : Nat), Upd NoB h h' → K (.tuple #[.agg #[.int .i64 a, .slice p1 m1 c1, .slice p2 m2 c2], .bool false]) h') :
    CallV Try.prog w₀ F.croftref4_Open [.int .i64 o, .slice gp n gc, .slice qp m qc] h K := by
  refine croftref4_Open.call ?_
  unfold croftref4_Open.vc
  have A := rb_zero h
  refine r4_New_ok ho63 fun h16 w16 N16 => ⟨_, _, _, _, _, _, _, rfl, ?_⟩
  have D := rb_zero h16
  obtain ⟨v1, S1⟩ := rb_set (o' := (mNew o).o) (gp' := w16.gp) (n' := (mNew o).n) (gc' := w16.gc) (qp' := w16.qp) (m' := (mNew o).o) (qc' := w16.qc) D.p
  have I0 : Hold h _ [fillR h16.size (mNew o) w16, refR (mNew o) w16, rbR h.size 0 none 0 0 none 0 0] := (((Hold.nil h).new A).new N16).new (D.stp S1)
  have bad : ¬ OpenOk o n pg m wn → ∀ (hz : Heap) (a : Nat) (b : Option Addr) (c d : Nat) (e : Option Addr) (f g : Nat), Hold h hz [rbR h16.size a b c d e f g, rbR h.size 0 none 0 0 none 0 0] →
      ∃ n0 : Int, cellAt hz ⟨h16.size, 0, none⟩ = some (.int .i64 n0) ∧ ∃ (p1 : Option Addr) (m1 c1 : Nat), cellAt hz ⟨h16.size, 1, none⟩ = some (.slice p1 m1 c1) ∧ ∃ (p2 : Option Addr) (m2 c2 : Nat), cellAt hz ⟨h16.size, 2, none⟩ = some (.slice p2 m2 c2) ∧ WrN hz ⟨h.size, 0, none⟩ 3 ∧
        ∃ z0 : Int, cellAt (setCs hz ⟨h.size, 0, none⟩ 0 [.int .i64 n0, .slice p1 m1 c1, .slice p2 m2 c2]) ⟨h.size, 0, none⟩ = some (.int .i64 z0) ∧ ∃ (q1 : Option Addr) (k1 d1 : Nat), cellAt (setCs hz ⟨h.size, 0, none⟩ 0 [.int .i64 n0, .slice p1 m1 c1, .slice p2 m2 c2]) ⟨h.size, 1, none⟩ = some (.slice q1 k1 d1) ∧
        ∃ (q2 : Option Addr) (k2 d2 : Nat), cellAt (setCs hz ⟨h.size, 0, none⟩ 0 [.int .i64 n0, .slice p1 m1 c1, .slice p2 m2 c2]) ⟨h.size, 2, none⟩ = some (.slice q2 k2 d2) ∧ K (.tuple #[.agg #[.int .i64 z0, .slice q1 k1 d1, .slice q2 k2 d2], .bool false]) (setCs hz ⟨h.size, 0, none⟩ 0 [.int .i64 n0, .slice p1 m1 c1, .slice p2 m2 c2]) := fun hb hz a b c d e f g I => by
    obtain ⟨c0, c1, c2⟩ := rb_c (I.at 0)
    obtain ⟨w1, S⟩ := rb_set (o' := a) (gp' := b) (n' := c) (gc' := d) (qp' := e) (m' := f) (qc' := g) (I.at 1)
    have I1 := I.step 1 S
    obtain ⟨d0, d1, d2⟩ := rb_c (I1.at 1 (R := rbR h.size a b c d e f g))
    exact ⟨_, c0, _, _, _, c1, _, _, _, c2, w1, _, d0, _, _, _, d1, _, _, _, d2, hn hb _ _ _ _ _ _ _ _ I1.u⟩
  have bad0 : ¬ OpenOk o n pg m wn → _ := fun nf => bad nf _ _ _ _ _ _ _ _ (I0.sub (.cons_cons _ (.cons _ (.cons_cons _ .slnil))))
  obtain ⟨c0, c1, c2⟩ := rb_c (I0.at 0)
  simp only [add_mk, Nat.zero_add]
  refine ⟨v1, _, c0, ?_⟩
  intro J5 c5
  by_cases ho : 0 ≤ o ∧ o ≤ 8
  case neg =>
    have nf : ¬ OpenOk o n pg m wn := fun F => ho ⟨F.o0, F.o8⟩
    have ne : o ≠ (clampO o : Nat) := fun e => by have := (mNew_ok o).o8; have e2 : (mNew o).o = clampO o := rfl; omega
    refine pT (by simp only [bne_iff_ne, ne_eq]; exact ne) (c5 _ _ fun J6 c6 => pT rfl (c6 _ _ fun J7 c7 => pT rfl (c7 _ _ ⟨fun _ => bad0 nf, fun e => by cases e⟩)))
  obtain ⟨oo, rfl⟩ : ∃ oo : Nat, o = oo := ⟨o.toNat, by omega⟩
  have oo8 : oo ≤ 8 := by omega
  have ec : (mNew oo).o = oo := by show clampO (oo : Int) = oo; unfold clampO; rw [if_neg (by omega), if_neg (by omega)]; rfl
  have e0n : (mNew oo).n = 0 := rfl
  refine pF (by rw [ec]; simp) ?_
  by_cases hn1 : n ≤ 1024
  case neg =>
    have nf : ¬ OpenOk oo n pg m wn := fun F => hn1 F.n1
    rw [decide_eq_true (by omega)]
    exact c5 _ _ fun J6 c6 => pT rfl (c6 _ _ fun J7 c7 => pT rfl (c7 _ _ ⟨fun _ => bad0 nf, fun e => by cases e⟩))
  rw [decide_eq_false (by omega)]
  refine c5 _ _ ?_
  intro J6 c6
  obtain ⟨x, hpw, hx1, hx2⟩ := pow_small (k := oo) (by omega)
  refine pF rfl (r4_power_ok (by omega) ⟨_, rfl, by rw [hpw]; omega, ?_⟩)
  rw [hpw]
  have em : Int.tmod (n : Int) (x : Int) = ((n % x : Nat) : Int) := by rw [Int.tmod_eq_emod_of_nonneg (by omega)]; omega
  rw [em]
  by_cases ha : n % x = 0
  case neg =>
    have nf : ¬ OpenOk oo n pg m wn := fun F => ha (by have := F.al; rw [Int.toNat_natCast, hpw] at this; exact this)
    rw [show (((n % x : Nat) : Int) != 0) = true by simp only [bne_iff_ne, ne_eq]; omega]
    exact c6 _ _ fun J7 c7 => pT rfl (c7 _ _ ⟨fun _ => bad0 nf, fun e => by cases e⟩)
  rw [show (((n % x : Nat) : Int) != 0) = false by rw [ha]; rfl]
  refine c6 _ _ ?_
  intro J7 c7
  by_cases hmo : m = oo
  case neg =>
    have nf : ¬ OpenOk oo n pg m wn := fun F => hmo (by have := F.mo; omega)
    refine pF rfl (c7 _ _ ⟨fun _ => bad0 nf, fun e => by simp at e; omega⟩)
  subst hmo
  refine pF rfl (c7 _ _ ⟨fun e => by simp at e, fun _ => ?_⟩)
  have e0 : Int.toNat (0 : Int) = 0 := rfl
  simp only [e0, Int.toNat_natCast]
  have T1 := sl_make (setCs (h16.push zmO) ⟨h16.size, 0, none⟩ 0 [.int .i64 ((mNew m).o : Int), .slice w16.gp (mNew m).n w16.gc, .slice w16.qp (mNew m).o w16.qc]) zpL T.T_api_Page 0 n (by omega)
  have I1 := I0.new T1
  have hrow := hp.upd I1.u fun _ _ e => e.elim
  obtain ⟨os, hpre, hS⟩ := sl_app (e := T.T_api_Page) (b := 88) (zs := zpL) (m := n) (I1.at 0) (by decide) (xs := lst (n * 11) (pgF pg)) (by simp) hrow.rowAt (fun v hv => by
    simp only [lst, List.mem_map] at hv
    obtain ⟨j, _, rfl⟩ := hv
    unfold pgF pcl
    split <;> rfl) (by omega)
  refine ⟨by omega, by omega, by omega, os, _, hpre, fun p46 c46 h46 hres => ?_⟩
  have S46 := hS p46 c46 h46 hres
  simp only [Nat.zero_add] at S46 ⊢
  have I2 := I1.step 0 (R' := slR p46 n c46 11 (pgF pg)) (S46.conv (fun P => sl_congr P fun i hi => by
    have hi : i < n * 11 := hi
    have hl : zpL.length = 11 := rfl
    rw [hl, Nat.zero_mul, if_neg (by omega), Nat.sub_zero, lst_getD hi]) fun _ e => e)
  obtain ⟨w2, S2⟩ := rb_set1 (gp' := p46) (n' := n) (gc' := c46) (I2.at 1 (R := fillR h16.size (mNew m) w16))
  have I3 := I2.step 1 S2
  obtain ⟨d0, d1, d2⟩ := rb_c (I3.at 1 (R := rbR h16.size (mNew m).o p46 n c46 w16.qp (mNew m).o w16.qc))
  obtain ⟨r1, r2⟩ := ref_rows (mNew_ok m) (I3.at 2 (R := refR (mNew m) w16))
  rw [ec] at d0 d2 r1 r2
  refine ⟨w2, _, d0, _, _, _, d1, _, _, _, d2, r4_paired_ok oo8 hn1 oo8 (fun k hk => by rw [e0n, Nat.zero_div]; omega) r1 r2 fun h49 qp' qc' tp' tc' N49 => ⟨_, _, _, _, _, _, _, rfl, ?_⟩⟩
  have I4 := I3.new N49
  obtain ⟨w3, S3⟩ := rb_set (o' := m) (gp' := p46) (n' := n) (gc' := c46) (qp' := qp') (m' := m) (qc' := qc') (I4.at 2 (R := rbR h16.size (mNew m).o p46 n c46 w16.qp (mNew m).o w16.qc))
  have I5 := I4.step 2 S3
  refine ⟨w3, ?_⟩
  have I6 : Hold h _ [bitsR m n qp' qc' tp' tc' _, slR p46 n c46 11 (pgF pg), rbR h16.size m p46 n c46 qp' m qc', rbR h.size 0 none 0 0 none 0 0] := I5.sub (.cons_cons _ (.cons_cons _ (.cons_cons _ (.cons _ (.cons_cons _ .slnil)))))
  clear I0 I1 I2 I3 I4 I5 bad0
  let LR : (Nat → Nat → Bool) → List Res := fun bt => [bitsR m n qp' qc' tp' tc' bt, slR p46 n c46 11 (pgF pg), rbR h16.size m p46 n c46 qp' m qc', rbR h.size 0 none 0 0 none 0 0]
  have badL : ¬ OpenOk m n pg m wn → ∀ (hz : Heap) bt, Hold h hz (LR bt) → _ := fun nf hz bt I => bad nf hz _ _ _ _ _ _ _ (I.sub (.cons _ (.cons _ (.cons_cons _ (.cons_cons _ .slnil)))))
  intro J14 c14 L34 hL34
  let tgt : Nat → Nat → Bool := fun k i => (ws k (i / 64)).testBit (i % 64)
  -- the pages
  have last : ∀ (hz : Heap) (bt : Nat → Nat → Bool), (∀ k, k < m → wn k = nw (n / 2 ^ (k + 1))) → (∀ k i, k < m → i < n / 2 ^ (k + 1) → bt k i = tgt k i) → Hold h hz (LR bt) →
      J14 [.int .i64 (m : Int), .slice gp n gc, .pointer (some ⟨h.size, 0, none⟩), .pointer (some ⟨h16.size, 0, none⟩)] hz := fun hz bt hw hbt I => by
    refine c14 _ _ _ _ _ _ _ ?_
    intro J15 c15 L17 hL17
    have en : IntKind.wrap .i64 ((n : Int) - 1) = (n : Int) - 1 := by rw [IntKind.wrap_i64]; omega
    rw [en]
    have loop : ∀ (r i : Nat) (hx : Heap), i + r = n → (∀ a, a < i → Fit (pg a) m n) → Hold h hx (LR bt) → L17 [.int .i64 (m : Int), .slice gp n gc, .pointer (some ⟨h.size, 0, none⟩), .pointer (some ⟨h16.size, 0, none⟩), .int .i64 ((n : Int) - 1), .int .i64 (i : Int)] hx := by
      intro r
      induction r with
      | zero =>
        intro i hx hi hf I
        have : i = n := by omega
        subst this
        refine hL17 _ _ _ _ _ _ _ _ _ (iF (by simp) (c15 _ _ _ ?_))
        have OK : OpenOk m i pg m wn := ⟨by omega, by omega, hn1, by rw [Int.toNat_natCast, hpw]; exact ha, rfl, hw, fun a h1 => by rw [Int.toNat_natCast]; exact hf a h1⟩
        obtain ⟨f0, f1, f2⟩ := rb_c (I.at 2 (R := rbR h16.size m p46 i c46 qp' m qc'))
        obtain ⟨w4, S4⟩ := rb_set (o' := m) (gp' := p46) (n' := i) (gc' := c46) (qp' := qp') (m' := m) (qc' := qc') (I.at 3 (R := rbR h.size 0 none 0 0 none 0 0))
        have I7 := I.step 3 S4
        obtain ⟨g0, g1, g2⟩ := rb_c (I7.at 3 (R := rbR h.size m p46 i c46 qp' m qc'))
        simp only [add_mk, Nat.zero_add]
        refine ⟨_, f0, _, _, _, f1, _, _, _, f2, w4, _, g0, _, _, _, g1, _, _, _, g2, hy OK _ ⟨p46, c46, qp', qc', tp', tc'⟩ ?_⟩
        have I8 := (((I7.sub (rs' := [bitsR m i qp' qc' tp' tc' bt, slR p46 i c46 11 (pgF pg)]) (.cons_cons _ (.cons_cons _ (.cons _ (.cons _ .slnil))))).swap).join).toNew
        refine I8.conv (fun P => ⟨P.1, bitsR_congr P.2.1 fun k j hk hj => ?_, P.2.2⟩) fun _ e => e
        rw [hbt k j hk hj]
        show tgt k j = (decide (j < i / 2 ^ (k + 1)) && (decide (j / 64 < wn k) && tgt k j))
        have hj' : j < i / 2 ^ (k + 1) := hj
        have := div_nw hj'
        rw [hw k hk, decide_eq_true hj', decide_eq_true this]
        rfl
      | succ r ih =>
        intro i hx hi hf I
        have e1 : IntKind.wrap .i64 ((i : Int) + 1) = ((i + 1 : Nat) : Int) := by rw [IntKind.wrap_i64]; omega
        obtain ⟨b, off, eb, hc⟩ := row_page (hp.upd I.u fun _ _ e => e.elim) (i := i) (by omega)
        refine hL17 _ _ _ _ _ _ _ _ _ (iT (by simp; omega) ⟨_, eb, by omega, by omega, ?_⟩)
        simp only [add_mk, Nat.zero_add, Int.toNat_natCast]
        obtain ⟨w5, N5⟩ := pg_lay hx (pg i)
        have I7 := I.new N5
        have pc : ∀ j, j < 11 → cellAt _ ⟨hx.size, j, none⟩ = some (pcl j (pg i j)) := fun j hj => Blk.cell (f := fun j => pcl j (pg i j)) N5.p hj
        have bad4 := fun nf => badL nf _ bt I7.drop
        refine ld_page hc ⟨w5, _, pc 0 (by omega), r4_in_ok ⟨_, rfl, ?_⟩⟩
        by_cases q0 : 0 ≤ pg i 0 ∧ pg i 0 ≤ 4
        case neg =>
          have nf : ¬ OpenOk m n pg m wn := fun F => q0 (F.f i (by omega)).k
          rw [decide_eq_false q0]
          intro J21 c21
          exact pT rfl (c21 _ _ (fun J22 c22 => pT rfl (c22 _ _ (fun J23 c23 => pT rfl (c23 _ _ (fun J24 c24 => pT rfl (c24 _ _ (fun J25 c25 => pT rfl (c25 _ _ (fun J26 c26 => pT rfl (c26 _ _ ⟨fun _ => bad4 nf, fun e => by cases e⟩)))))))))))
        rw [decide_eq_true q0]
        intro J21 c21
        refine pF rfl ⟨_, pc 1 (by omega), r4_in_ok ⟨_, rfl, ?_⟩⟩
        by_cases q1 : 0 ≤ pg i 1 ∧ pg i 1 ≤ (m : Int)
        case neg =>
          have nf : ¬ OpenOk m n pg m wn := fun F => q1 (by have := (F.f i (by omega)).o; rw [Int.toNat_natCast] at this; exact this)
          rw [decide_eq_false q1]
          exact c21 _ _ (fun J22 c22 => pT rfl (c22 _ _ (fun J23 c23 => pT rfl (c23 _ _ (fun J24 c24 => pT rfl (c24 _ _ (fun J25 c25 => pT rfl (c25 _ _ (fun J26 c26 => pT rfl (c26 _ _ ⟨fun _ => bad4 nf, fun e => by cases e⟩))))))))))
        rw [decide_eq_true q1]
        refine c21 _ _ ?_
        intro J22 c22
        refine pF rfl ⟨_, pc 2 (by omega), r4_in_ok ⟨_, rfl, ?_⟩⟩
        by_cases q2 : 0 ≤ pg i 2 ∧ pg i 2 ≤ 7
        case neg =>
          have nf : ¬ OpenOk m n pg m wn := fun F => q2 (F.f i (by omega)).c
          rw [decide_eq_false q2]
          exact c22 _ _ (fun J23 c23 => pT rfl (c23 _ _ (fun J24 c24 => pT rfl (c24 _ _ (fun J25 c25 => pT rfl (c25 _ _ (fun J26 c26 => pT rfl (c26 _ _ ⟨fun _ => bad4 nf, fun e => by cases e⟩))))))))
        rw [decide_eq_true q2]
        refine c22 _ _ ?_
        intro J23 c23
        refine pF rfl ⟨_, pc 3 (by omega), r4_in_ok ⟨_, rfl, ?_⟩⟩
        by_cases q3 : 0 ≤ pg i 3 ∧ pg i 3 ≤ 256
        case neg =>
          have nf : ¬ OpenOk m n pg m wn := fun F => q3 (F.f i (by omega)).l
          rw [decide_eq_false q3]
          exact c23 _ _ (fun J24 c24 => pT rfl (c24 _ _ (fun J25 c25 => pT rfl (c25 _ _ (fun J26 c26 => pT rfl (c26 _ _ ⟨fun _ => bad4 nf, fun e => by cases e⟩))))))
        rw [decide_eq_true q3]
        refine c23 _ _ ?_
        intro J24 c24
        refine pF rfl ⟨_, pc 4 (by omega), r4_in_ok ⟨_, rfl, ?_⟩⟩
        by_cases q4 : -1 ≤ pg i 4 ∧ pg i 4 ≤ (n : Int) - 1
        case neg =>
          have nf : ¬ OpenOk m n pg m wn := fun F => q4 (F.f i (by omega)).nx
          rw [decide_eq_false q4]
          exact c24 _ _ (fun J25 c25 => pT rfl (c25 _ _ (fun J26 c26 => pT rfl (c26 _ _ ⟨fun _ => bad4 nf, fun e => by cases e⟩))))
        rw [decide_eq_true q4]
        refine c24 _ _ ?_
        intro J25 c25
        refine pF rfl ⟨_, pc 5 (by omega), r4_in_ok ⟨_, rfl, ?_⟩⟩
        by_cases q5 : -1 ≤ pg i 5 ∧ pg i 5 ≤ (n : Int) - 1
        case neg =>
          have nf : ¬ OpenOk m n pg m wn := fun F => q5 (F.f i (by omega)).pv
          rw [decide_eq_false q5]
          exact c25 _ _ (fun J26 c26 => pT rfl (c26 _ _ ⟨fun _ => bad4 nf, fun e => by cases e⟩))
        rw [decide_eq_true q5]
        refine c25 _ _ ?_
        intro J26 c26
        refine pF rfl ⟨_, pc 6 (by omega), r4_in_ok ⟨_, rfl, ?_⟩⟩
        by_cases q6 : -1 ≤ pg i 6 ∧ pg i 6 ≤ 255
        case neg =>
          have nf : ¬ OpenOk m n pg m wn := fun F => q6 (F.f i (by omega)).f
          rw [decide_eq_false q6]
          exact c26 _ _ ⟨fun _ => bad4 nf, fun e => by cases e⟩
        rw [decide_eq_true q6]
        refine c26 _ _ ⟨fun e => (by cases e), fun _ => ?_⟩
        rw [e1]
        refine ih (i + 1) _ (by omega) (fun a h1 => ?_) I7.drop
        rcases Nat.lt_or_ge a i with h2 | h2
        · exact hf a h2
        · have : a = i := by omega
          subst this
          exact ⟨q0, q1, q2, q3, q4, q5, q6⟩
    exact loop n 0 hz (by omega) (fun a h1 => absurd h1 (by omega)) I
  -- the pairs' bits
  have loop : ∀ (r k : Nat) (hx : Heap) (bt : Nat → Nat → Bool), k + r = m → (∀ a, a < k → wn a = nw (n / 2 ^ (a + 1))) → (∀ a i, a < k → i < n / 2 ^ (a + 1) → bt a i = tgt a i) → Hold h hx (LR bt) →
      L34 [.int .i64 (m : Int), .slice gp n gc, .slice qp m qc, .pointer (some ⟨h.size, 0, none⟩), .pointer (some ⟨h16.size, 0, none⟩), .int .i64 (k : Int)] hx := by
    intro r
    induction r with
    | zero =>
      intro k hx bt hk hw hbt I
      have : k = m := by omega
      subst this
      exact hL34 _ _ _ _ _ _ _ _ _ _ _ (iF (by simp) (last hx bt hw hbt I))
    | succ r ih =>
      intro k hx bt hk hw hbt I
      have hkm : k < m := by omega
      have ek : IntKind.wrap .i64 ((k : Int) + 1) = ((k + 1 : Nat) : Int) := by rw [IntKind.wrap_i64]; omega
      refine hL34 _ _ _ _ _ _ _ _ _ _ _ (iT (by simp; omega) ?_)
      intro J35 c35
      have hq2 := hq.upd I.u
      obtain ⟨b, off, eb, hc⟩ := row_at hq2.row hkm
      obtain ⟨f0, f1, f2⟩ := rb_c (I.at 2 (R := rbR h16.size m p46 n c46 qp' m qc'))
      obtain ⟨b', eb', hc'⟩ := bits_row (I.at 0 (R := bitsR m n qp' qc' tp' tc' bt)) hkm
      have f2' := f2.trans (congrArg some (congrArg (fun p => Value.slice p m qc') eb'))
      have hle : n / 2 ^ (k + 1) ≤ n := Nat.div_le_self _ _
      have enw : IntKind.wrap .i64 (Int.tdiv (IntKind.wrap .i64 (((n / 2 ^ (k + 1) : Nat) : Int) + 63)) 64) = (nw (n / 2 ^ (k + 1)) : Nat) := by
        generalize n / 2 ^ (k + 1) = y at *
        rw [show IntKind.wrap .i64 ((y : Int) + 63) = ((y + 63 : Nat) : Int) by rw [IntKind.wrap_i64]; omega, div64 (by omega)]
        rfl
      refine ⟨_, eb, by omega, by omega, ?_⟩
      simp only [add_mk, Nat.zero_add, Int.toNat_natCast, Nat.mul_one]
      refine ⟨_, _, _, hc, _, _, _, f2', _, rfl, by omega, by omega, ?_⟩
      simp only [add_mk, Nat.zero_add, Int.toNat_natCast, Nat.mul_one]
      refine ⟨_, _, _, hc', by decide, ?_⟩
      rw [enw]
      refine ⟨fun e => badL (fun F => ?_) hx bt I, fun e => ?_⟩
      · have := F.w k hkm
        rw [this] at e
        simp at e
      have hwk : wn k = nw (n / 2 ^ (k + 1)) := by simp at e; omega
      intro L37 hL37
      have inner : ∀ (r i : Nat) (hx : Heap) (bt : Nat → Nat → Bool), i + r = n / 2 ^ (k + 1) → (∀ a i, a < k → i < n / 2 ^ (a + 1) → bt a i = tgt a i) → (∀ a, a < i → bt k a = tgt k a) → Hold h hx (LR bt) →
          L37 [.int .i64 (m : Int), .slice gp n gc, .slice qp m qc, .pointer (some ⟨h.size, 0, none⟩), .pointer (some ⟨h16.size, 0, none⟩), .int .i64 (k : Int), .int .i64 (i : Int)] hx := by
        intro r
        induction r with
        | zero =>
          intro i hx bt hi hbt hbk I
          obtain ⟨f0, f1, f2⟩ := rb_c (I.at 2 (R := rbR h16.size m p46 n c46 qp' m qc'))
          obtain ⟨b', eb', hc'⟩ := bits_row (I.at 0 (R := bitsR m n qp' qc' tp' tc' bt)) hkm
          have f2' := f2.trans (congrArg some (congrArg (fun p => Value.slice p m qc') eb'))
          refine hL37 _ _ _ _ _ _ _ _ _ _ _ _ ?_
          simp only [add_mk, Nat.zero_add, Int.toNat_natCast, Nat.mul_one]
          refine ⟨_, _, _, f2', _, rfl, by omega, by omega, ?_⟩
          simp only [add_mk, Nat.zero_add, Int.toNat_natCast, Nat.mul_one]
          refine ⟨_, _, _, hc', iF (by rw [← hi]; simp) (c35 _ _ _ _ _ _ _ _ _ _ _ ?_)⟩
          rw [ek]
          refine ih (k + 1) hx bt (by omega) (fun a h1 => ?_) (fun a j h1 hj => ?_) I
          · rcases Nat.lt_or_ge a k with h2 | h2
            · exact hw a h2
            · have : a = k := by omega
              subst this; exact hwk
          · rcases Nat.lt_or_ge a k with h2 | h2
            · exact hbt a j h2 hj
            · have : a = k := by omega
              subst this; exact hbk j (by omega)
        | succ r ihi =>
          intro i hx bt hi hbt hbk I
          have hin : i < n / 2 ^ (k + 1) := by omega
          have hiw := div_nw hin
          have ei : IntKind.wrap .i64 ((i : Int) + 1) = ((i + 1 : Nat) : Int) := by
            generalize n / 2 ^ (k + 1) = y at *
            rw [IntKind.wrap_i64]; omega
          have hi63 : i < 9223372036854775808 := by generalize n / 2 ^ (k + 1) = y at *; omega
          obtain ⟨f0, f1, f2⟩ := rb_c (I.at 2 (R := rbR h16.size m p46 n c46 qp' m qc'))
          obtain ⟨b', eb', hc'⟩ := bits_row (I.at 0 (R := bitsR m n qp' qc' tp' tc' bt)) hkm
          have f2' := f2.trans (congrArg some (congrArg (fun p => Value.slice p m qc') eb'))
          have hq2 := hq.upd I.u
          obtain ⟨b, off, eb, hc⟩ := row_at hq2.row hkm
          obtain ⟨bw, ow, ebw, hcw⟩ := row_at (hq2.wd k hkm) (i := i / 64) (by rw [hwk]; exact hiw)
          have hlt := hq2.lt k (i / 64) hkm (by rw [hwk]; exact hiw)
          obtain ⟨bb, ebb, wb, SB⟩ := bits_put (I.at 0 (R := bitsR m n qp' qc' tp' tc' bt)) hkm hin (tgt k i)
          refine hL37 _ _ _ _ _ _ _ _ _ _ _ _ ?_
          rw [div64 hi63]
          simp only [add_mk, Nat.zero_add, Int.toNat_natCast, Nat.mul_one]
          refine ⟨_, _, _, f2', _, rfl, by omega, by omega, ?_⟩
          simp only [add_mk, Nat.zero_add, Int.toNat_natCast, Nat.mul_one]
          refine ⟨_, _, _, hc', iT (decide_eq_true (Int.ofNat_lt.2 hin)) ⟨_, _, _, f2', _, rfl, by omega, by omega, ?_⟩⟩
          simp only [add_mk, Nat.zero_add, Int.toNat_natCast, Nat.mul_one]
          refine ⟨_, _, _, hc', _, eb, by omega, by omega, ?_⟩
          simp only [add_mk, Nat.zero_add, Int.toNat_natCast, Nat.mul_one]
          refine ⟨_, _, _, hc, by decide, _, ebw, by omega, by rw [hwk]; exact Int.ofNat_lt.2 hiw, ?_⟩
          simp only [add_mk, Nat.zero_add, Int.toNat_natCast, Nat.mul_one]
          have hpp := Nat.two_pow_pos (i % 64)
          refine ⟨_, hcw, r4_bit_ok ⟨_, rfl, hcw, hc, hc', f2', by omega, by decide, _, ebb, by omega, Int.ofNat_lt.2 hin, ?_⟩⟩
          simp only [add_mk, Nat.zero_add, Int.toNat_natCast, Nat.mul_one]
          rw [shr_odd hlt, ei]
          refine ⟨wb, ihi (i + 1) _ (putB bt k i (tgt k i)) (by omega) (fun a j h1 hj => ?_) (fun a h1 => ?_) (I.step 0 SB)⟩
          · unfold putB
            have : ¬ (a = k ∧ j = i) := by omega
            rw [if_neg this]; exact hbt a j h1 hj
          · unfold putB
            by_cases h2 : a = i
            · subst h2; simp
            · have : ¬ (k = k ∧ a = i) := by omega
              rw [if_neg this]; exact hbk a (by omega)
      exact inner (n / 2 ^ (k + 1)) 0 hx bt (Nat.zero_add _) hbt (fun a h1 => absurd h1 (by omega)) I
  exact loop m 0 _ _ (by omega) (fun a h1 => absurd h1 (by omega)) (fun a i h1 => absurd h1 (by omega)) I6

end
end Go.Proofs.Ytnplkinakaepdaa
