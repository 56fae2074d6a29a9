/- pagemap: a map made of data. No condition. -/
import Derived.Test.YtnplkinakaepdaaP8
set_option linter.unusedSimpArgs false
set_option linter.unusedVariables false
namespace Go.Proofs.Ytnplkinakaepdaa
open Go.V Classical

/-- Pair bits that are handed in. -/
structure PairsIn (h : Heap) (p : Option Addr) (n : Nat) (wp : Nat → Option Addr) (wn wc : Nat → Nat) (ws : Nat → Nat → Nat) : Prop where
  row : Row h p n fun k => .slice (wp k) (wn k) (wc k)
  wd : ∀ k, k < n → Row h (wp k) (wn k) fun j => .int .u64 (ws k j)
  lt : ∀ k j, k < n → j < wn k → ws k j < 18446744073709551616

/-- Data of which there is a map. -/
structure OpenOk (o : Int) (n : Nat) (pg : Nat → Nat → Int) (m : Nat) (wn : Nat → Nat) : Prop where
  o0 : 0 ≤ o
  o8 : o ≤ 8
  n1 : n ≤ 1024
  al : n % 2 ^ o.toNat = 0
  mo : (m : Int) = o
  w : ∀ k, k < m → wn k = nw (n / 2 ^ (k + 1))
  f : ∀ i, i < n → Fit (pg i) o.toNat n

def mOpen (o n : Nat) (pg : Nat → Nat → Int) (wn : Nat → Nat) (ws : Nat → Nat → Nat) : MS :=
  { o := o, n := n, pg := pg, bt := fun k i => decide (i < n / 2 ^ (k + 1)) && (decide (i / 64 < wn k) && (ws k (i / 64)).testBit (i % 64)) }

theorem PairsIn.upd {h h' : Heap} {p : Option Addr} {n : Nat} {wp : Nat → Option Addr} {wn wc : Nat → Nat} {ws : Nat → Nat → Nat} (H : PairsIn h p n wp wn wc ws) (u : Upd NoB h h') : PairsIn h' p n wp wn wc ws :=
  ⟨H.row.upd u fun _ _ => id, fun k hk => (H.wd k hk).upd u fun _ _ => id, H.lt⟩

theorem row_at {h : Heap} {p : Option Addr} {n : Nat} {f : Nat → Value} (H : Row h p n f) {i : Nat} (hi : i < n) : ∃ b o, p = some ⟨b, o, none⟩ ∧ cellAt h ⟨b, o + i, none⟩ = some (f i) := by
  rcases H with e | ⟨b, o, e, H⟩
  · omega
  · exact ⟨b, o, e, H i hi⟩

theorem row_page {h : Heap} {p : Option Addr} {n : Nat} {pg : Nat → Nat → Int} (H : Row h p (n * 11) (pgF pg)) {i : Nat} (hi : i < n) : ∃ b o, p = some ⟨b, o, none⟩ ∧ ∀ j, j < 11 → cellAt h ⟨b, o + i * 11 + j, none⟩ = some (pcl j (pg i j)) := by
  rcases H with e | ⟨b, o, e, H⟩
  · omega
  · refine ⟨b, o, e, fun j hj => ?_⟩
    rw [Nat.add_assoc, H (i * 11 + j) (by omega), pgF_at pg hj]

section
variable {w₀ : World} {h : Heap} {K : Value → Heap → Prop}

theorem nw_wrap {n k : Nat} (hn : n ≤ 1024) (hk : k ≤ 9) : IntKind.wrap .i64 (Int.tdiv (IntKind.wrap .i64 (Int.fdiv (n : Int) (2 ^ min (Int.toNat (k : Int)) (IntKind.bits .i64)) + 63)) 64) = (nw (n / 2 ^ k) : Nat) := by
  rw [shr_i64 (by omega)]
  have := Nat.div_le_self n (2 ^ k)
  generalize n / 2 ^ k = x at *
  rw [IntKind.wrap_i64 ((x : Int) + 63), show ((x : Int) + 63 + 9223372036854775808) % 18446744073709551616 - 9223372036854775808 = (((x + 63) : Nat) : Int) by omega, Int.tdiv_eq_ediv_of_nonneg (by omega)]
  rw [show (((x + 63 : Nat) : Int) / 64) = (((x + 63) / 64 : Nat) : Int) by omega, IntKind.wrap_i64]
  unfold nw; omega

set_option maxHeartbeats 800000 in
theorem pm_Open_ok {o : Int} {gp qp : Option Addr} {n gc m qc : Nat} {pg : Nat → Nat → Int} {wp : Nat → Option Addr} {wn wc : Nat → Nat} {ws : Nat → Nat → Nat} (hn63 : n < 9223372036854775808) (hm63 : m < 9223372036854775808)
    (hp : Row h gp (n * 11) (pgF pg)) (hq : PairsIn h qp m wp wn wc ws)
    (hy : OpenOk o n pg m wn → ∀ (h' : Heap) (mb : Nat) (w : MW), New h h' (mapR mb (mOpen m n pg wn ws) w) → K (.tuple #[.pointer (some ⟨mb, 0, none⟩), .int .i64 0]) h')
    (hn : ¬ OpenOk o n pg m wn → ∀ h', Upd NoB h h' → K (.tuple #[.pointer none, .int .i64 7]) h') :
    CallV Try.prog w₀ F.pagemap_Open [.int .i64 o, .slice gp n gc, .slice qp m qc] h K := by
  refine pagemap_Open.call ?_
  unfold pagemap_Open.vc
  have no : ¬ OpenOk o n pg m wn → K (.tuple #[.pointer none, .int .i64 7]) h := fun e => hn e h (Upd.refl _ _)
  refine pm_within_ok ⟨_, rfl, ?_⟩
  intro J2 k2
  by_cases ho : 0 ≤ o ∧ o ≤ 8
  case neg =>
    have nf : ¬ OpenOk o n pg m wn := fun F => ho ⟨F.o0, F.o8⟩
    rw [decide_eq_false ho]
    refine pT rfl (k2 _ _ ?_); intro J3 k3
    refine pT rfl (k3 _ _ ?_); intro J4 k4
    exact pT rfl (k4 _ _ ⟨fun _ => no nf, fun e => by cases e⟩)
  rw [decide_eq_true ho]
  obtain ⟨oo, rfl⟩ : ∃ oo : Nat, o = oo := ⟨o.toNat, by omega⟩
  have oo8 : oo ≤ 8 := by omega
  obtain ⟨x, hpw, hx1, hx2⟩ := pow_small (k := oo) (by omega)
  refine pF rfl (k2 _ _ ?_)
  intro J3 k3
  by_cases hn1 : n ≤ 1024
  case neg =>
    have nf : ¬ OpenOk oo n pg m wn := fun F => hn1 F.n1
    refine pT (by simp; omega) (k3 _ _ ?_); intro J4 k4
    exact pT rfl (k4 _ _ ⟨fun _ => no nf, fun e => by cases e⟩)
  have em : Int.tmod (n : Int) (x : Int) = ((n % x : Nat) : Int) := by rw [Int.tmod_eq_emod_of_nonneg (by omega)]; omega
  rw [shl_i64 (by omega), hpw, em]
  refine pF (by simp; omega) ⟨by omega, by omega, k3 _ _ ?_⟩
  intro J4 k4
  by_cases ha : n % x = 0
  case neg =>
    have nf : ¬ OpenOk oo n pg m wn := fun F => ha (by have := F.al; simp only [Int.toNat_natCast, hpw] at this; exact this)
    exact pT (by simp only [bne_iff_ne, ne_eq]; omega) (k4 _ _ ⟨fun _ => no nf, fun e => by cases e⟩)
  refine pF (by simp only [bne_eq_false_iff_eq]; omega) (k4 _ _ ⟨fun e => ?_, fun e => ?_⟩)
  · refine no fun F => ?_
    have := F.mo
    simp at e
    omega
  have hmo : m = oo := by simp at e; omega
  subst hmo
  clear e
  have hal : n % 2 ^ m = 0 := by rw [hpw]; exact ha
  -- the pages, copied
  obtain ⟨os, hpre, hS⟩ := sl_app (e := T.T_api_Page) (b := 88) (zs := zpL) (m := n) (sl_nil 11 (pgF pg) h) (by decide) (xs := lst (n * 11) (pgF pg)) (by simp) hp.rowAt (fun v hv => by
    simp only [lst, List.mem_map] at hv
    obtain ⟨j, _, rfl⟩ := hv
    unfold pgF pcl
    split <;> rfl) (by omega)
  refine ⟨os, _, hpre, fun p38 c38 h38 hres => ?_⟩
  have S38 := hS p38 c38 h38 hres
  simp only [Nat.zero_add] at S38 ⊢
  have N : New h h38 (slR p38 n c38 11 (pgF pg)) := (New.of_stp S38 sl_nil_fp).conv (fun P => sl_congr P fun i hi => by
    have hi : i < n * 11 := hi
    have hl : zpL.length = 11 := rfl
    rw [hl, Nat.zero_mul, if_neg (by omega), Nat.sub_zero, lst_getD hi]) fun _ e => e
  have I0 : Hold h h38 [slR p38 n c38 11 (pgF pg)] := (Hold.nil h).new N
  have I1 := I0.box #[.int .i64 (m : Int), .slice p38 n c38, .slice none 0 0] T.T_pagemap_Map
  let HF : Nat → Option Addr → Nat → Nat → Value := fun q qp qc j => match j with | 0 => .int .i64 (m : Int) | 1 => .slice p38 n c38 | _ => .slice qp q qc
  have I2 := I1.as 0 (R := blkR h38.size 3 fun j => (#[.int .i64 (m : Int), .slice p38 n c38, .slice none 0 0] : Array Value).getD j undef) (R' := blkR h38.size 3 (HF 0 none 0)) (fun P => Blk.congr P fun j hj => by
    have : j < 3 := hj
    have : j = 0 ∨ j = 1 ∨ j = 2 := by omega
    rcases this with rfl | rfl | rfl <;> rfl) fun _ e => e
  intro J7 k7 L hL
  let BT : Nat → Nat → Bool := (mOpen m n pg wn ws).bt
  have loop : ∀ (r k : Nat) (hx : Heap) (tp : Option Addr) (tc : Nat) (sb sw : Nat → Nat), k + r = m → (∀ a, a < k → wn a = nw (n / 2 ^ (a + 1))) →
      Hold h hx [allR k fun k => setR (sb k) (sw k) (n / 2 ^ (k + 1)) (BT k), slR tp k tc 1 fun k => .pointer (some ⟨sb k, 0, none⟩), blkR h38.size 3 (HF k tp tc), slR p38 n c38 11 (pgF pg)] →
      L [.int .i64 (m : Int), .slice gp n gc, .pointer (some ⟨h38.size, 0, none⟩), .slice qp m qc, .int .i64 (m : Int), .int .i64 (k : Int)] hx := by
    intro r
    induction r with
    | zero =>
      intro k hx tp tc sb sw hk hw I
      have : k = m := by omega
      subst this
      refine hL _ _ _ _ _ _ _ _ _ _ _ (iF (by simp) (k7 _ _ _ _ _ _ ?_))
      intro J8 k8 L9 hL9
      have fin : (∀ i, i < n → Fit (pg i) k n) → ∀ hz, Upd NoB hx hz → J8 [.pointer (some ⟨h38.size, 0, none⟩)] hz := by
        intro hf hz uz
        have Iz := I.quiet uz
        refine k8 _ _ ?_
        have I3 := Iz.as 2 (R' := blkR h38.size 3 (mapF k n { gp := p38, gc := c38, qp := tp, qc := tc, sb := sb, sw := sw })) (fun P => Blk.congr P fun j hj => by
          have : j = 0 ∨ j = 1 ∨ j = 2 := by omega
          rcases this with rfl | rfl | rfl <;> rfl) fun _ e => e
        have M := (map_of_hold (w := { gp := p38, gc := c38, qp := tp, qc := tc, sb := sb, sw := sw }) (ns := fun k => n / 2 ^ (k + 1)) (bt := BT) (q := 0) I3).toNew
        exact hy ⟨by omega, by omega, hn1, by rw [Int.toNat_natCast]; exact hal, rfl, hw, fun i hi => by rw [Int.toNat_natCast]; exact hf i hi⟩ hz h38.size { gp := p38, gc := c38, qp := tp, qc := tc, sb := sb, sw := sw } M
      have loop9 : ∀ (q i : Nat) (hz : Heap), i + q = n → (∀ a, a < i → Fit (pg a) k n) → Upd NoB hx hz →
          L9 [.int .i64 (k : Int), .slice gp n gc, .pointer (some ⟨h38.size, 0, none⟩), .slice gp n gc, .int .i64 (n : Int), .int .i64 (i : Int)] hz := by
        intro q
        induction q with
        | zero =>
          intro i hz hi hf uz
          have : i = n := by omega
          subst this
          exact hL9 _ _ _ _ _ _ _ _ _ _ _ (iF (by simp) (fin hf hz uz))
        | succ q ih9 =>
          intro i hz hi hf uz
          have u0z := I.u.nx uz fun _ e _ => e
          obtain ⟨b, off, eb, hc⟩ := row_page (hp.upd u0z fun _ _ => id) (i := i) (by omega)
          have e1 : IntKind.wrap .i64 ((i : Int) + 1) = ((i + 1 : Nat) : Int) := by rw [IntKind.wrap_i64]; omega
          refine hL9 _ _ _ _ _ _ _ _ _ _ _ (iT (by simp; omega) ?_)
          rw [eb]
          simp only [jor, jand, cellAt_new, add_mk, List.getElem?_toArray, Nat.zero_add, List.getElem?_cons_zero, List.getElem?_cons_succ, Option.some.injEq, Value.int.injEq, Value.bool.injEq, Value.pointer.injEq, Value.slice.injEq, true_and, and_true, exists_eq_left', exists_eq', and_assoc, exists_and_left, Int.toNat_natCast]
          refine ⟨by omega, by omega, ld_page hc ?_⟩
          obtain ⟨w1, A⟩ := pg_lay hz (pg i)
          refine ⟨w1, pgR_ld A.p ?_⟩
          refine pm_fits_ok hn1 fun h82 u82 => ⟨_, rfl, fun e => ?_, fun e => ?_⟩
          · refine hn (fun F => ?_) _ (((u0z.nx A.u fun _ e _ => e)).nx u82 fun _ e _ => e)
            have := F.f i (by omega)
            rw [Int.toNat_natCast] at this
            simp [this] at e
          · rw [e1, ← eb]
            refine ih9 (i + 1) h82 (by omega) (fun a ha => ?_) ((uz.nx A.u fun _ e _ => e).nx u82 fun _ e _ => e)
            rcases Nat.lt_or_ge a i with hl | hl
            · exact hf a hl
            · rw [show a = i by omega]; simpa using e
      exact loop9 n 0 hx (by omega) (fun a ha => absurd ha (by omega)) (Upd.refl _ _)
    | succ r ih =>
      intro k hx tp tc sb sw hk hw I
      have hq' := hq.upd I.u
      obtain ⟨b, off, eb, hc⟩ := row_at hq'.row (i := k) (by omega)
      have e1 : IntKind.wrap .i64 ((k : Int) + 1) = ((k + 1 : Nat) : Int) := by rw [IntKind.wrap_i64]; omega
      refine hL _ _ _ _ _ _ _ _ _ _ _ (iT (by simp; omega) ?_)
      rw [eb]
      simp only [jor, jand, cellAt_new, add_mk, List.getElem?_toArray, Nat.zero_add, List.getElem?_cons_zero, List.getElem?_cons_succ, Option.some.injEq, Value.int.injEq, Value.bool.injEq, Value.pointer.injEq, Value.slice.injEq, true_and, and_true, exists_eq_left', exists_eq', and_assoc, exists_and_left, Int.toNat_natCast, Nat.mul_one, hc, e1]
      have B : Blk hx h38.size 3 (HF k tp tc) := I.at 2
      have c2 : cellAt hx ⟨h38.size, 2, none⟩ = some (.slice tp k tc) := B.cell (i := 2) (by omega)
      have ew := nw_wrap hn1 (k := k + 1) (by omega)
      simp only [Int.toNat_natCast] at ew
      rw [ew]
      refine ⟨by omega, by omega, by omega, by decide, fun e => ?_, fun e => ?_⟩
      · refine hn (fun F => ?_) _ I.u
        have := F.w k (by omega)
        simp only [bne_iff_ne, ne_eq] at e
        omega
      have hwk : wn k = nw (n / 2 ^ (k + 1)) := by
        simp only [bne_eq_false_iff_eq] at e
        omega
      have es := shr_i64 (k := k + 1) (x := n) (by omega)
      simp only [Int.toNat_natCast] at es
      simp only [jor, jand, cellAt_new, add_mk, List.getElem?_toArray, Nat.zero_add, List.getElem?_cons_zero, List.getElem?_cons_succ, Option.some.injEq, Value.int.injEq, Value.bool.injEq, Value.pointer.injEq, Value.slice.injEq, true_and, and_true, exists_eq_left', exists_eq', and_assoc, exists_and_left, c2, es]
      refine bits_Of_ok (npair hn1 k) (hq'.wd k (by omega)) (fun j hj => hq'.lt k j (by omega) hj) fun h66 sb1 sw1 N66 => ⟨_, rfl, ?_⟩
      have I20 := I.new N66
      have B20 : Blk h66 h38.size 3 (HF k tp tc) := I20.at 3
      have uP : Upd NoB h66 (h66.push (.cells #[.pointer (some ⟨sb1, 0, none⟩)] T.T_p_bits_Set)) := push_upd _ _ _
      obtain ⟨os, hpre, hS⟩ := sl_app1 (e := T.T_p_bits_Set) (T := T.T_p_bits_Set) (b := 8) (zs := [.pointer none]) (v := .pointer (some ⟨sb1, 0, none⟩)) (I20.at 2 (R := slR tp k tc 1 fun k => .pointer (some ⟨sb k, 0, none⟩))) rfl rfl (by omega)
      refine ⟨B20.cell (i := 2) (by omega), (B20.upd uP id).cell (i := 2) (by omega), os, _, hpre, fun p22 c22 h22 hres => ?_⟩
      have I22 := I20.step 2 (hS p22 c22 h22 hres)
      have B22 : Blk h22 h38.size 3 (HF k tp tc) := I22.at 3
      refine ⟨B22.wr (by omega), ?_⟩
      have I23 := I22.step 3 (R' := blkR h38.size 3 (HF (k + 1) p22 c22)) (Stp.set B22 2 (.slice p22 (k + 1) c22) fun j hj => by
        have : j = 0 ∨ j = 1 ∨ j = 2 := by omega
        rcases this with rfl | rfl | rfl <;> rfl)
      rw [← eb]
      let sb' : Nat → Nat := fun i => if i = k then sb1 else sb i
      let sw' : Nat → Nat := fun i => if i = k then sw1 else sw i
      have eR : ∀ i, i < k → setR (sb i) (sw i) (n / 2 ^ (i + 1)) (BT i) = setR (sb' i) (sw' i) (n / 2 ^ (i + 1)) (BT i) := fun i hi => by
        have : i ≠ k := by omega
        simp only [sb', sw', this, if_false]
      have eK : setR sb1 sw1 (n / 2 ^ (k + 1)) (fun i => decide (i < n / 2 ^ (k + 1)) && (decide (i / 64 < wn k) && (ws k (i / 64)).testBit (i % 64))) = setR (sb' k) (sw' k) (n / 2 ^ (k + 1)) (BT k) := by simp only [sb', sw', if_true]; rfl
      refine ih (k + 1) _ p22 c22 sb' sw' (by omega) (fun a ha => ?_) (Hold.snoc (R := fun k => setR (sb' k) (sw' k) (n / 2 ^ (k + 1)) (BT k)) ?_)
      · rcases Nat.lt_or_ge a k with hl | hl
        · exact hw a hl
        · rw [show a = k by omega]; exact hwk
      have I24 := I23.as 1 (R' := allR k fun k => setR (sb' k) (sw' k) (n / 2 ^ (k + 1)) (BT k)) (allR_congr eR) (fun b e => allR_fp eR b e)
      have I25 := I24.as 2 (R := slR p22 (k + 1) c22 1 fun i => if i = k then .pointer (some ⟨sb1, 0, none⟩) else .pointer (some ⟨sb i, 0, none⟩)) (R' := slR p22 (k + 1) c22 1 fun k => .pointer (some ⟨sb' k, 0, none⟩)) (fun P => sl_congr P fun i hi => by
        simp only [sb']
        by_cases h1 : i = k <;> simp [h1]) (fun b e => e)
      rw [eK] at I25
      exact I25
  refine loop m 0 _ none 0 (fun _ => 0) (fun _ => 0) (by omega) (fun a ha => absurd ha (by omega)) ?_
  exact (I2.add (R := slR none 0 0 1 fun k => .pointer (some ⟨0, 0, none⟩)) (Upd.refl _ _) (sl_nil 1 _ _) (fun b e => absurd e (sl_nil_fp b))).add (Upd.refl _ _) (allR_zero _) fun b ⟨k, hk, _⟩ => absurd hk (by omega)

end
end Go.Proofs.Ytnplkinakaepdaa
