/- slab: hang, unhang, find, Size, Partial, New. No condition. -/
import Derived.Test.YteemmpkhdllapaaDoorZE0
set_option linter.unusedSimpArgs false
set_option linter.unusedVariables false
namespace Go.Proofs.YteemmpkhdllapaaDoor
open Go.V Classical

noncomputable def hangM (m : MS) (pt : Nat → Int) (page : Int) (k : Nat) : MS :=
  let m1 := chainU m page (pt k) (-1)
  if 0 ≤ pt k then chainU m1 (pt k) (pgA m1 (pt k) 4) page else m1

noncomputable def unA (m : MS) (page : Int) : MS :=
  if 0 ≤ pgA m page 5 then chainU m (pgA m page 5) (pgA m page 4) (pgA m (pgA m page 5) 5) else m
noncomputable def unB (m : MS) (page : Int) : MS :=
  if 0 ≤ pgA m page 4 then chainU (unA m page) (pgA m page 4) (pgA (unA m page) (pgA m page 4) 4) (pgA m page 5) else unA m page
noncomputable def unhangM (m : MS) (page : Int) : MS := chainU (unB m page) page (-1) (-1)
noncomputable def unhangP (m : MS) (pt : Nat → Int) (page : Int) (k : Nat) : Nat → Int := if 0 ≤ pgA m page 5 then pt else fset pt k (pgA m page 4)

noncomputable def findU (c : Cfg) (m : MS) (p : Int) : Option (Nat × Nat) :=
  if p < c.base ∨ (m.n : Int) ≤ (p - c.base) / 4096 then none else
  let q := ((p - c.base) / 4096).toNat
  let off := ((p - c.base) % 4096).toNat
  let w := wdt (m.pg q 2).toNat
  if m.pg q 0 ≠ 4 ∨ off % w ≠ 0 then none else
  if pbit (m.pg q) (off / w) then some (q, off / w) else none

section
variable {w₀ : World} {h h' : Heap} {c : Cfg} {Q : SL} {x : BU} {pt : Nat → Int} {K : Value → Heap → Prop}

theorem ki_hang {page : Int} {k : Nat} (H : KI c x) : KI c (x.wm (hangM x.m pt page k)) := by
  unfold hangM
  simp only []
  split
  · exact ki_chain (x := x.wm (chainU x.m page (pt k) (-1))) (ki_chain H)
  · exact ki_chain H

theorem ki_unA {page : Int} (H : KI c x) : KI c (x.wm (unA x.m page)) := by
  unfold unA
  split
  · exact ki_chain H
  · exact H
theorem ki_unB {page : Int} (H : KI c x) : KI c (x.wm (unB x.m page)) := by
  unfold unB
  split
  · exact ki_chain (x := x.wm (unA x.m page)) (ki_unA H)
  · exact ki_unA H
theorem ki_unhang {page : Int} (H : KI c x) : KI c (x.wm (unhangM x.m page)) := ki_chain (x := x.wm (unB x.m page)) (ki_unB H)

theorem pg_at {h : Heap} {b : Nat} {P : Nat → Int} (H : (pgR b P).P h) {j : Nat} (hj : j < 7) : cellAt h ((⟨b, 0, none⟩ : Addr).add j) = some (.int .i64 (P j)) := by
  have := Blk.cell (f := fun j => pcl j (P j)) H (i := j) (by omega)
  rw [add_mk, Nat.zero_add, this]
  unfold pcl
  rw [if_pos hj]

theorem pg_at0 {h : Heap} {b : Nat} {P : Nat → Int} (H : (pgR b P).P h) : cellAt h (⟨b, 0, none⟩ : Addr) = some (.int .i64 (P 0)) := Blk.cell (f := fun j => pcl j (P j)) H (i := 0) (by omega)

theorem hang_ok {page : Int} {k : Nat} (hk : k < 8) (W : KI c x) (H : (sR c Q x pt).P h) (hK : ∀ h', Stp h h' (sR c Q x pt) (sR c Q (x.wm (hangM x.m pt page k)) (fset pt k page)) → K (.tuple #[]) h') :
    CallV Tryd.prog w₀ F.slab_Slab_hang [gptr Q.sb, .int .i64 page, .int .i64 (k : Int)] h K := by
  have s0 := s_c0 H
  have sp := s_pt H hk
  refine slab_Slab_hang.call ⟨_, rfl, _, s0, _, rfl, _, rfl, by omega, by omega, _, sp, ground_Map_ok (s_pl H) ⟨_, rfl, sp, chain_ok W H fun v h1 S1 => ⟨_, rfl, fun J3 hJ3 => ?_⟩⟩⟩
  have W1 := ki_chain (i := page) (p := pt k) (q := -1) W
  have fin : ∀ h2 m', hangM x.m pt page k = m' → Stp h h2 (sR c Q x pt) (sR c Q (x.wm m') pt) → J3 [gptr Q.sb, .int .i64 page, .int .i64 (k : Int)] h2 := fun h2 m' e S2 =>
    hJ3 _ _ _ _ ⟨_, rfl, by omega, by omega, s_wr S2.p hk, hK _ (by rw [e]; exact S2.trans (s_set S2.p hk page))⟩
  by_cases hp : 0 ≤ pt k
  · refine iT (by simpa using hp) (at_ok (s_mp S1.p) fun b h2 u2 => ⟨_, _, _, _, _, _, _, _, _, _, _, _, rfl, ?_⟩)
    obtain ⟨w3, N3⟩ := pg_lay h2 (pgA (chainU x.m page (pt k) (-1)) (pt k))
    have I := ((Own.of S1.p).quiet u2).new N3
    have B := I.at 0
    refine ⟨w3, _, pg_at B (j := 4) (by omega), ?_⟩
    refine chain_ok (Q := Q) W1 (I.at 1) fun v h3 S3 => ⟨_, rfl, fin h3 _ rfl ?_⟩
    have I3 := I.step 1 S3
    have e : hangM x.m pt page k = chainU (chainU x.m page (pt k) (-1)) (pt k) (pgA (chainU x.m page (pt k) (-1)) (pt k) 4) page := by
      unfold hangM; simp only []; rw [if_pos hp]
    rw [e]
    exact S1.trans (I3.one 1)
  · refine iF (by simpa using hp) (fin h1 _ ?_ S1)
    unfold hangM; simp only []; rw [if_neg hp]

theorem unhang_ok {page : Int} {k : Nat} (hk : k < 8) (W : KI c x) (H : (sR c Q x pt).P h) (hK : ∀ h', Stp h h' (sR c Q x pt) (sR c Q (x.wm (unhangM x.m page)) (unhangP x.m pt page k)) → K (.tuple #[]) h') :
    CallV Tryd.prog w₀ F.slab_Slab_unhang [gptr Q.sb, .int .i64 page, .int .i64 (k : Int)] h K := by
  have s0 := s_c0 H
  refine slab_Slab_unhang.call ⟨_, rfl, _, s0, _, rfl, ground_Map_ok (s_pl H) ⟨_, rfl, at_ok (s_mp H) fun b h1 u1 => ⟨_, _, _, _, _, _, _, _, _, _, _, _, rfl, ?_⟩⟩⟩
  obtain ⟨w2, N2⟩ := pg_lay h1 (pgA x.m page)
  have I := ((Own.of H).quiet u1).new N2
  have B := I.at 0
  have H2 := I.at 1
  refine ⟨w2, fun J5 hJ5 => ?_⟩
  -- the second half
  have half : ∀ h2, Go.V.Own h h2 (sR c Q x pt) [pgR h1.size (pgA x.m page), sR c Q (x.wm (unA x.m page)) (unhangP x.m pt page k)] → J5 [.int .i64 page, gptr Q.pl.B.mb, .pointer (some ⟨h1.size, 0, none⟩)] h2 := fun h2 I2 => by
    refine hJ5 _ _ _ _ fun J6 hJ6 => ?_
    have fin : ∀ h3, Stp h h3 (sR c Q x pt) (sR c Q (x.wm (unB x.m page)) (unhangP x.m pt page k)) → J6 [.int .i64 page, gptr Q.pl.B.mb] h3 := fun h3 S3 =>
      hJ6 _ _ _ (chain_ok (ki_unB W) S3.p fun v h4 S4 => ⟨_, rfl, hK _ (S3.trans S4)⟩)
    refine ⟨_, pg_at (I2.at 0) (j := 4) (by omega), ?_⟩
    by_cases hn : 0 ≤ pgA x.m page 4
    · refine iT (by simpa using hn) ⟨_, pg_at (I2.at 0) (j := 4) (by omega), at_ok (s_mp (I2.at 1)) fun b h3 u3 => ⟨_, _, _, _, _, _, _, _, _, _, _, _, rfl, ?_⟩⟩
      obtain ⟨w4, N4⟩ := pg_lay h3 (pgA (unA x.m page) (pgA x.m page 4))
      have I4 := (I2.quiet u3).new N4
      refine ⟨w4, _, pg_at (I4.at 1) (j := 4) (by omega), _, pg_at (I4.at 0) (j := 4) (by omega), _, pg_at (I4.at 1) (j := 5) (by omega), ?_⟩
      refine chain_ok (ki_unA W) (I4.at 2) fun v h5 S5 => ⟨_, rfl, fin _ ?_⟩
      have e : unB x.m page = chainU (unA x.m page) (pgA x.m page 4) (pgA (unA x.m page) (pgA x.m page 4) 4) (pgA x.m page 5) := by unfold unB; rw [if_pos hn]
      rw [e]
      exact (I4.step 2 S5).one 2
    · refine iF (by simpa using hn) (fin _ ?_)
      have e : unB x.m page = unA x.m page := by unfold unB; rw [if_neg hn]
      rw [e]
      exact I2.one 1
  refine ⟨_, pg_at B (j := 5) (by omega), ?_⟩
  by_cases hp : 0 ≤ pgA x.m page 5
  · refine iT (by simpa using hp) ⟨_, pg_at B (j := 5) (by omega), at_ok (s_mp H2) fun b h3 u3 => ⟨_, _, _, _, _, _, _, _, _, _, _, _, rfl, ?_⟩⟩
    obtain ⟨w4, N4⟩ := pg_lay h3 (pgA x.m (pgA x.m page 5))
    have I4 := (I.quiet u3).new N4
    refine ⟨w4, _, pg_at (I4.at 1) (j := 5) (by omega), _, pg_at (I4.at 1) (j := 4) (by omega), _, pg_at (I4.at 0) (j := 5) (by omega), ?_⟩
    refine chain_ok W (I4.at 2) fun v h5 S5 => ⟨_, rfl, half _ ?_⟩
    have e : unA x.m page = chainU x.m (pgA x.m page 5) (pgA x.m page 4) (pgA x.m (pgA x.m page 5) 5) := by unfold unA; rw [if_pos hp]
    have e2 : unhangP x.m pt page k = pt := by unfold unhangP; rw [if_pos hp]
    rw [e, e2]
    exact (I4.step 2 S5).drop
  · refine iF (by simpa using hp) ⟨_, pg_at B (j := 4) (by omega), _, rfl, by omega, by omega, s_wr H2 hk, half _ ?_⟩
    have e : unA x.m page = x.m := by unfold unA; rw [if_neg hp]
    have e2 : unhangP x.m pt page k = fset pt k (pgA x.m page 4) := by unfold unhangP; rw [if_neg hp]
    rw [e, e2]
    exact I.step 1 (s_set H2 hk (pgA x.m page 4))

theorem find_ok {p : Int} (hp : U64 p) (W : KI c x) (T : TabH h (sR c Q x pt)) (H : (sR c Q x pt).P h)
    (hn : findU c x.m p = none → ∀ (a b : Int) (P : Nat → Int) h', Upd NoB h h' → K (.tuple #[.int .i64 a, .int .i64 b, pgv P, .bool false]) h')
    (hy : ∀ q k, findU c x.m p = some (q, k) → ∀ h', Upd NoB h h' → K (.tuple #[.int .i64 (q : Int), .int .i64 (k : Int), pgv (x.m.pg q), .bool true]) h') :
    CallV Tryd.prog w₀ F.slab_Slab_find [gptr Q.sb, .int .u64 p] h K := by
  have hb := bu_bounds W.g W.ok.m
  have N0 := pg_zero h
  have I0 := (Hold.nil h).new N0
  have H0 := (sR c Q x pt).st H N0.u fun _ _ => id
  have T0 := T.q N0.u
  have s0 := s_c0 H0
  unfold U64 at hp
  -- what is told where there is none
  have no : ∀ (h2 : Heap) (P : Nat → Int), findU c x.m p = none → Hold h h2 [pgR h.size P] → LD_api_Page h2 (⟨h.size, 0, none⟩ : Addr) fun n0 n1 n2 n3 n4 n5 n6 n7 n8 n9 n10 =>
      WrN h2 ⟨h.size, 0, none⟩ 11 ∧ LD_api_Page (setCs h2 ⟨h.size, 0, none⟩ 0 [.int .i64 n0, .int .i64 n1, .int .i64 n2, .int .i64 n3, .int .i64 n4, .int .i64 n5, .int .i64 n6, .int .u64 n7, .int .u64 n8, .int .u64 n9, .int .u64 n10]) ⟨h.size, 0, none⟩ fun z0 z1 z2 z3 z4 z5 z6 z7 z8 z9 z10 =>
        K (.tuple #[.int .i64 0, .int .i64 0, .agg #[.int .i64 z0, .int .i64 z1, .int .i64 z2, .int .i64 z3, .int .i64 z4, .int .i64 z5, .int .i64 z6, .int .u64 z7, .int .u64 z8, .int .u64 z9, .int .u64 z10], .bool false]) (setCs h2 ⟨h.size, 0, none⟩ 0 [.int .i64 n0, .int .i64 n1, .int .i64 n2, .int .i64 n3, .int .i64 n4, .int .i64 n5, .int .i64 n6, .int .u64 n7, .int .u64 n8, .int .u64 n9, .int .u64 n10]) := by
    intro h2 P hf I2
    refine pgR_ld (I2.at 0) ?_
    obtain ⟨w3, S3⟩ := pg_set P (I2.at 0)
    have I3 := I2.step 0 S3
    exact ⟨w3, pgR_ld (I3.at 0) (hn hf _ _ _ _ I3.u)⟩
  refine slab_Slab_find.call ⟨_, rfl, _, s0, _, rfl, ground_Map_ok (s_pl H0) ⟨_, rfl, base_ok W H0 ⟨_, rfl, fun J4 hJ4 => ?_⟩⟩⟩
  by_cases h1 : p < c.base
  · exact pT (by simpa using h1) (hJ4 _ _ ⟨fun _ => no _ _ (by unfold findU; rw [if_pos (.inl h1)]) I0, fun e => by cases e⟩)
  refine pF (by simpa using h1) ⟨by decide, pm_Pages_ok (s_mp H0) ⟨_, rfl, hJ4 _ _ ?_⟩⟩
  have e1 : IntKind.wrap .u64 (p - c.base) = p - c.base := wU (by unfold U64; omega)
  have e2 : Int.tdiv (p - c.base) 4096 = (p - c.base) / 4096 := Int.tdiv_eq_ediv_of_nonneg (by omega)
  have e3 : IntKind.wrap .u64 ((p - c.base) / 4096) = (p - c.base) / 4096 := wU (by unfold U64; omega)
  have e4 : IntKind.wrap .u64 (x.m.n : Int) = x.m.n := wU (by unfold U64; omega)
  rw [e1, e2, e3, e4]
  by_cases h2 : (x.m.n : Int) ≤ (p - c.base) / 4096
  · exact ⟨fun _ => no _ _ (by unfold findU; rw [if_pos (.inr h2)]) I0, fun e => by simp at e; omega⟩
  refine ⟨fun e => by simp at e; omega, fun _ => ⟨by decide, ?_⟩⟩
  obtain ⟨q, hq⟩ : ∃ q : Nat, (p - c.base) / 4096 = q := ⟨((p - c.base) / 4096).toNat, by omega⟩
  obtain ⟨off, ho⟩ : ∃ off : Nat, (p - c.base) % 4096 = off := ⟨((p - c.base) % 4096).toNat, by omega⟩
  have hqn : q < x.m.n := by omega
  have hoff : off < 4096 := by omega
  have e5 : IntKind.wrap .i64 (q : Int) = q := wI (by unfold bd63; omega)
  have e6 : Int.tmod (p - c.base) 4096 = off := by rw [Int.tmod_eq_emod_of_nonneg (by omega), ho]
  rw [hq, e5, e6]
  have hPA : pgA x.m (q : Int) = x.m.pg q := by unfold pgA; rw [if_pos ⟨by omega, by omega⟩, Int.toNat_natCast]
  have PT := W.ok.m.pg q hqn
  obtain ⟨cl, hcl⟩ : ∃ cl : Nat, x.m.pg q 2 = cl := ⟨(x.m.pg q 2).toNat, by have := PT.c; omega⟩
  have hcl8 : cl < 8 := by have := PT.c; omega
  have hw0 := wdt_pos cl
  have hf : findU c x.m p = if x.m.pg q 0 ≠ 4 ∨ off % wdt cl ≠ 0 then none else if pbit (x.m.pg q) (off / wdt cl) then some (q, off / wdt cl) else none := by
    unfold findU
    rw [if_neg (by omega), hq, ho]
    simp only [Int.toNat_natCast, hcl]
  refine at_ok (s_mp H0) fun b h3 u3 => ⟨_, _, _, _, _, _, _, _, _, _, _, _, rfl, ?_⟩
  rw [hPA]
  have I3 := I0.quiet u3
  obtain ⟨w4, S4⟩ := pg_set (x.m.pg q) (I3.at 0)
  have I4 := I3.step 0 S4
  have T4 : Tab _ := T.t.upd I4.u id
  refine ⟨w4, by decide, _, pg_at0 (I4.at 0), fun J8 hJ8 => ?_⟩
  by_cases h4 : x.m.pg q 0 = 4
  · refine pF (eq_b h4) ⟨_, pg_at (I4.at 0) (j := 2) (by omega), by have := PT.c; omega, by have := PT.c; omega, (wdt cl : Int), T4.cell' hcl hcl8, by omega, hJ8 _ _ ?_⟩
    have e7 : Int.tmod (off : Int) (wdt cl : Int) = ((off % wdt cl : Nat) : Int) := by rw [Int.tmod_eq_emod_of_nonneg (by omega)]; rfl
    rw [e7]
    by_cases h5 : off % wdt cl = 0
    · refine ⟨fun e => by rw [h5] at e; simp at e, fun _ => ⟨_, pg_at (I4.at 0) (j := 2) (by omega), by have := PT.c; omega, by have := PT.c; omega, (wdt cl : Int), T4.cell' hcl hcl8, by omega, ?_⟩⟩
      refine pgR_ld (I4.at 0) ?_
      have e8 : Int.tdiv (off : Int) (wdt cl : Int) = ((off / wdt cl : Nat) : Int) := by rw [Int.tdiv_eq_ediv_of_nonneg (by omega)]; rfl
      obtain ⟨k, hk⟩ : ∃ k, k = off / wdt cl := ⟨_, rfl⟩
      have hk2 : k < 256 := by
        rw [hk]
        refine Nat.div_lt_of_lt_mul ?_
        have : 16 ≤ wdt cl := by unfold wdt; have := Nat.two_pow_pos cl; omega
        have := Nat.mul_le_mul_right 256 this
        omega
      have e9 : IntKind.wrap .u64 (k : Int) = k := wU (by unfold U64; omega)
      have e10 : IntKind.wrap .i64 (k : Int) = k := wI (by unfold bd63; omega)
      have e11 : Int.tdiv (k : Int) 64 = ((k / 64 : Nat) : Int) := by rw [Int.tdiv_eq_ediv_of_nonneg (by omega)]; rfl
      have e12 : IntKind.wrap .i64 ((k / 64 : Nat) : Int) = ((k / 64 : Nat) : Int) := wI (by unfold bd63; omega)
      have e13 : Int.tmod (k : Int) 64 = ((k % 64 : Nat) : Int) := by rw [Int.tmod_eq_emod_of_nonneg (by omega)]; rfl
      rw [e8, ← hk, e9, e10, e11, e12, e13]
      have h7 := PT.u (7 + k / 64) (by omega) (by omega)
      obtain ⟨y, hy7⟩ : ∃ y : Nat, x.m.pg q (7 + k / 64) = y := ⟨(x.m.pg q (7 + k / 64)).toNat, by omega⟩
      have hc7 : cellAt (setCs h3 ⟨h.size, 0, none⟩ 0 (pgL (x.m.pg q))) (((⟨h.size, 0, none⟩ : Addr).add 7).add (Int.toNat ((k / 64 : Nat) : Int) * 1)) = some (.int .u64 (y : Int)) := by
        have := Blk.cell (f := fun j => pcl j (x.m.pg q j)) (I4.at 0) (i := 7 + k / 64) (by omega)
        rw [add_mk, add_mk, Int.toNat_natCast, Nat.mul_one, Nat.zero_add, this]
        unfold pcl
        rw [if_neg (by omega), hy7]
      refine ⟨by decide, by omega, by omega, _, hc7, by decide, by omega, ?_⟩
      obtain ⟨w5, S5⟩ := pg_set (x.m.pg q) (I4.at 0)
      have I5 := I4.step 0 S5
      refine ⟨w5, pgR_ld (I5.at 0) ?_⟩
      rw [shr_and_one (by omega) (by omega)]
      have hpb : y.testBit (k % 64) = pbit (x.m.pg q) k := by unfold pbit; rw [hy7]; rfl
      rw [hpb]
      rw [← hk, if_neg (by omega)] at hf
      cases hpk : pbit (x.m.pg q) k with
      | true =>
        rw [hpk, if_pos rfl] at hf
        exact hy _ _ hf _ I5.u
      | false =>
        rw [hpk, if_neg (by decide)] at hf
        exact hn hf _ _ _ _ I5.u
    · refine ⟨fun _ => no _ _ (by rw [hf, if_pos (.inr h5)]) I4, fun e => ?_⟩
      rw [bne_eq_false_iff_eq] at e
      exact absurd e (by omega)
  · exact pT (ne_b h4) (hJ8 _ _ ⟨fun _ => no _ _ (by rw [hf, if_pos (.inl h4)]) I4, fun e => by cases e⟩)

noncomputable def sizeU (c : Cfg) (m : MS) (p : Int) : Int := match findU c m p with
  | none => 0
  | some (q, _) => wdt (m.pg q 2).toNat

theorem findU_lt {p : Int} {q k : Nat} {m : MS} (h : findU c m p = some (q, k)) : q < m.n ∧ m.pg q 0 = 4 ∧ pbit (m.pg q) k = true ∧ p = adr c q + ((k * wdt (m.pg q 2).toNat : Nat) : Int) := by
  unfold findU at h
  simp only [] at h
  split at h
  · cases h
  · rename_i h1
    split at h
    · cases h
    · rename_i h2
      split at h
      · rename_i h3
        cases h
        have h4 : m.pg ((p - c.base) / 4096).toNat 0 = 4 := Classical.byContradiction fun hc => h2 (.inl hc)
        have h5 : ((p - c.base) % 4096).toNat % wdt (m.pg ((p - c.base) / 4096).toNat 2).toNat = 0 := Classical.byContradiction fun hc => h2 (.inr hc)
        refine ⟨by omega, h4, h3, ?_⟩
        rw [Nat.div_mul_cancel (Nat.dvd_of_mod_eq_zero h5)]
        unfold adr
        omega
      · cases h

theorem size_ok {p : Int} (hp : U64 p) (W : KI c x) (T : TabH h (sR c Q x pt)) (H : (sR c Q x pt).P h) (hK : ∀ h', Upd NoB h h' → K (.int .u64 (sizeU c x.m p)) h') :
    CallV Tryd.prog w₀ F.slab_Slab_Size [gptr Q.sb, .int .u64 p] h K := by
  refine slab_Slab_Size.call ?_
  refine find_ok hp W T H (fun hf a b P h1 u1 => ⟨_, _, _, _, _, _, _, _, _, _, _, _, _, _, rfl, ?_⟩) fun q k hf h1 u1 => ⟨_, _, _, _, _, _, _, _, _, _, _, _, _, _, rfl, ?_⟩
  · obtain ⟨w2, N2⟩ := pg_lay h1 P
    refine ⟨w2, iT rfl ?_⟩
    have := hK _ (u1.nx N2.u fun _ e => e.elim)
    unfold sizeU at this
    rw [hf] at this
    exact this
  · obtain ⟨w2, N2⟩ := pg_lay h1 (x.m.pg q)
    have T2 := (T.q u1).q N2.u
    obtain ⟨f1, f2, f3, f4⟩ := findU_lt hf
    have PT := W.ok.m.pg q f1
    obtain ⟨cl, hcl⟩ : ∃ cl : Nat, x.m.pg q 2 = cl := ⟨(x.m.pg q 2).toNat, by have := PT.c; omega⟩
    have hcl8 : cl < 8 := by have := PT.c; omega
    refine ⟨w2, iF rfl ⟨_, pg_at N2.p (j := 2) (by omega), by have := PT.c; omega, by have := PT.c; omega, (wdt cl : Int), T2.t.cell' hcl hcl8, ?_⟩⟩
    have := hK _ (u1.nx N2.u fun _ e => e.elim)
    unfold sizeU at this
    rw [hf] at this
    simp only [hcl, Int.toNat_natCast] at this
    exact this
end
end Go.Proofs.YteemmpkhdllapaaDoor
