/- pagemap: maps made, grown, shrunk and told. No condition. -/
import Derived.Test.YtnplkinakaepdaaP6
set_option linter.unusedSimpArgs false
set_option linter.unusedVariables false
namespace Go.Proofs.Ytnplkinakaepdaa
open Go.V Classical

section
variable {w₀ : World} {h : Heap} {mb o n : Nat} {pg : Nat → Nat → Int} {w : MW} {ns : Nat → Nat} {bt : Nat → Nat → Bool} {s : MS} {K : Value → Heap → Prop}

/-- The pages' slice replaced. -/
theorem stp_slice {h' : Heap} {gp : Option Addr} {n' gc : Nat} {pg' : Nat → Nat → Int} (H : (mapQ mb o n pg w ns bt).P h) (S : Stp h h' (slR w.gp n w.gc 11 (pgF pg)) (slR gp n' gc 11 (pgF pg'))) :
    Wr h' ⟨mb, 1, none⟩ ∧ Stp h (setC h' ⟨mb, 1, none⟩ (.slice gp n' gc)) (mapQ mb o n pg w ns bt) (mapQ mb o n' pg' { w with gp := gp, gc := gc } ns bt) := by
  have S1 := stp_pages H S
  have B : Blk h' mb 3 (mapF o n w) := S1.p.1
  refine ⟨B.wr (by omega), S1.trans (Stp.left (Stp.set B 1 _ fun j hj => ?_) S1.p)⟩
  have : j = 0 ∨ j = 1 ∨ j = 2 := by omega
  rcases this with rfl | rfl | rfl <;> rfl

theorem cutB_same {n n' : Nat} {bt : Nat → Nat → Bool} {o : Nat} (hb : ∀ k i, k < o → bt k i = true → i < n / 2 ^ (k + 1)) (hn : n ≤ n') {k : Nat} (hk : k < o) (i : Nat) : cutB n' bt k i = bt k i := by
  unfold cutB
  cases h : bt k i
  · simp
  · have := hb k i hk h
    have h2 : n / 2 ^ (k + 1) ≤ n' / 2 ^ (k + 1) := Nat.div_le_div_right hn
    simp; omega

theorem pm_Grow_ok (ho : s.Ok) (H : (mapR mb s w).P h) (hK : ∀ (h' : Heap) (w' : MW), Stp h h' (mapR mb s w) (mapR mb (mGrow s) w') → K (.tuple #[]) h') :
    CallV Try.prog w₀ F.pagemap_Map_Grow [.pointer (some ⟨mb, 0, none⟩)] h K := by
  refine pagemap_Map_Grow.call ?_
  unfold pagemap_Map_Grow.vc
  have o8 := ho.o8
  have n1 := ho.n1
  obtain ⟨x, hx, hx1, hx2⟩ := pow_small (k := s.o) (by omega)
  have hg := mq_g H
  simp only [jor, jand, cellAt_new, add_mk, List.getElem?_toArray, Nat.zero_add, List.getElem?_cons_zero, List.getElem?_cons_succ, Option.some.injEq, Value.int.injEq, Value.bool.injEq, Value.pointer.injEq, Value.slice.injEq, true_and, and_true, exists_eq_left', exists_eq', and_assoc, exists_and_left, hg]
  refine pm_size_ok o8 H ⟨_, rfl, ?_⟩
  rw [hx]
  have e1 : IntKind.wrap .i64 ((s.n : Int) + (x : Int)) = ((s.n + x : Nat) : Int) := by rw [IntKind.wrap_i64]; omega
  rw [e1]
  refine ⟨fun e => ?_, fun e => ?_⟩
  · have : mGrow s = s := by unfold mGrow; rw [hx, if_pos (by simp at e; omega)]
    exact hK h w (by rw [this]; exact Stp.refl H)
  have hle : s.n + x ≤ 1024 := by simp at e; omega
  simp only [jor, jand, cellAt_new, add_mk, List.getElem?_toArray, Nat.zero_add, List.getElem?_cons_zero, List.getElem?_cons_succ, Option.some.injEq, Value.int.injEq, Value.bool.injEq, Value.pointer.injEq, Value.slice.injEq, true_and, and_true, exists_eq_left', exists_eq', and_assoc, exists_and_left, hg]
  refine pm_size_ok o8 H ⟨_, rfl, hg, ?_⟩
  rw [hx]
  obtain ⟨os, hp, hS⟩ := sl_appZ (e := T.T_api_Page) (b := 88) (zs := zpL) (m := x) (mq_pages H) (by decide) (by omega) (by intro v hv; simp at hv; rcases hv with rfl | rfl <;> rfl) (by omega) (by decide)
  refine ⟨os, hp, fun p20 c20 h20 hres => ?_⟩
  have S20 := hS p20 c20 h20 hres
  rw [Int.toNat_natCast]
  let pgz : Nat → Nat → Int := fun i => if i < s.n then s.pg i else fun _ => 0
  have S20' : Stp h h20 (slR w.gp s.n w.gc 11 (pgF s.pg)) (slR p20 (s.n + x) c20 11 (pgF pgz)) := S20.conv (fun P => sl_congr P fun i hi => ?_) fun _ e => e
  case refine_1 =>
    have hl : zpL.length = 11 := rfl
    rw [hl]
    unfold pgF
    simp only [pgz]
    by_cases h1 : i < s.n * 11
    · have : i / 11 < s.n := by omega
      rw [if_pos h1, if_pos this]
    · have : ¬ i / 11 < s.n := by omega
      rw [if_neg h1, if_neg this]
      have e2 : (i - s.n * 11) % 11 = i % 11 := by omega
      rw [e2]
      exact pgL_getD (fun _ => 0) (by omega) _
  obtain ⟨hw, S21⟩ := stp_slice H S20'
  refine ⟨hw, ?_⟩
  have hb0 : ∀ k i, k < s.o → s.bt k i = true → i < s.n / 2 ^ (k + 1) := ho.bi
  refine pm_paired_ok o8 hle (fun k hk => npair n1 k) (fun k i hk hb => ho.bi k i hk hb) S21.p fun h24 sw' S24 => ⟨rfl, ?_⟩
  have h0 := mq_o S24.p
  refine ⟨_, h0, ?_⟩
  have hmod : s.n % 2 ^ s.o = 0 := ho.al
  refine pm_Run_ok o8 hle (by omega) S24.p (fun m r' hm hr hr' ha hmn hk h31 S31 => ⟨_, rfl, ?_⟩) fun hh => ?_
  · have hm : s.n = m := by omega
    have hr : s.o = r' := by omega
    subst hm hr
    refine hK h31 { gp := p20, gc := c20, qp := w.qp, qc := w.qc, sb := w.sb, sw := sw' } (((S21.trans S24).trans S31).conv (fun P => ?_) fun b e => ?_)
    · unfold mGrow
      rw [hx, if_neg (by omega)]
      refine mapQ_congr P (fun i hi j hj => ?_) (fun _ _ => rfl) fun k hk i => cutB_same ho.bi (by omega) hk i
      unfold runP
      rw [hx]
      dsimp only
      by_cases h1 : i < s.n
      · have h2 : ¬ (s.n ≤ i ∧ i < s.n + x) := by omega
        rw [if_neg h2, if_pos h1]
        show pgz i j = _
        simp only [pgz, if_pos h1]
      · have h2 : s.n ≤ i ∧ i < s.n + x := ⟨by omega, hi⟩
        rw [if_pos h2, if_neg h1]
        rfl
    · unfold mGrow at e
      rw [hx, if_neg (by omega)] at e
      exact mapQ_fp b e
  · exfalso
    apply hh
    refine ⟨.inr rfl, by omega, by omega, by omega, ?_, ?_⟩
    · simp only [Int.toNat_natCast]; exact hmod
    · simp only [Int.toNat_natCast, hx]; omega

theorem pm_Shrink_ok {k : Int} (ho : s.Ok) (hk63 : -9223372036854775808 ≤ k ∧ k ≤ 9223372036854775807) (H : (mapR mb s w).P h)
    (hy : ∀ x : Nat, k = x → x ≤ s.n / 2 ^ s.o → ∀ (h' : Heap) (w' : MW), Stp h h' (mapR mb s w) (mapR mb (mShrink s x) w') → K (.int .i64 0) h')
    (hn : ¬ (0 ≤ k ∧ k ≤ (s.n / 2 ^ s.o : Nat)) → K (.int .i64 1) h) :
    CallV Try.prog w₀ F.pagemap_Map_Shrink [.pointer (some ⟨mb, 0, none⟩), .int .i64 k] h K := by
  refine pagemap_Map_Shrink.call ?_
  unfold pagemap_Map_Shrink.vc
  have o8 := ho.o8
  have n1 := ho.n1
  obtain ⟨x, hx, hx1, hx2⟩ := pow_small (k := s.o) (by omega)
  rw [hx] at hy hn
  have hg := mq_g H
  simp only [jor, jand, cellAt_new, add_mk, List.getElem?_toArray, Nat.zero_add, List.getElem?_cons_zero, List.getElem?_cons_succ, Option.some.injEq, Value.int.injEq, Value.bool.injEq, Value.pointer.injEq, Value.slice.injEq, true_and, and_true, exists_eq_left', exists_eq', and_assoc, exists_and_left, hg]
  intro J k1
  by_cases hk0 : 0 ≤ k
  case neg => exact pT (by simp; omega) (k1 _ _ ⟨fun _ => hn fun e => hk0 e.1, fun e => by cases e⟩)
  obtain ⟨a, rfl⟩ : ∃ a : Nat, k = a := ⟨k.toNat, by omega⟩
  refine pF (by simp) (pm_size_ok o8 H ⟨_, rfl, hg, ?_⟩)
  rw [hx]
  have ed : IntKind.wrap .i64 (Int.tdiv (s.n : Int) (x : Int)) = ((s.n / x : Nat) : Int) := by
    rw [Int.tdiv_eq_ediv_of_nonneg (by omega), ← Int.natCast_ediv, IntKind.wrap_i64]
    have : s.n / x ≤ s.n := Nat.div_le_self _ _
    generalize s.n / x = y at *
    omega
  rw [ed]
  refine ⟨by omega, k1 _ _ ⟨fun e => hn fun e' => ?_, fun e => ?_⟩⟩
  · have := e'.2
    generalize s.n / x = y at *
    simp at e
    omega
  have hle : a ≤ s.n / x := by
    generalize s.n / x = y at *
    simp at e; omega
  have hax : a * x ≤ s.n := Nat.le_trans (Nat.mul_le_mul_right x hle) (Nat.div_mul_le_self _ _)
  simp only [jor, jand, cellAt_new, add_mk, List.getElem?_toArray, Nat.zero_add, List.getElem?_cons_zero, List.getElem?_cons_succ, Option.some.injEq, Value.int.injEq, Value.bool.injEq, Value.pointer.injEq, Value.slice.injEq, true_and, and_true, exists_eq_left', exists_eq', and_assoc, exists_and_left, hg]
  refine pm_size_ok o8 H ⟨_, rfl, hg, ?_⟩
  rw [hx]
  have e1 : IntKind.wrap .i64 ((a : Int) * (x : Int)) = ((a * x : Nat) : Int) := by rw [← Int.natCast_mul, IntKind.wrap_i64]; generalize a * x = y at *; omega
  have e2 : IntKind.wrap .i64 ((s.n : Int) - ((a * x : Nat) : Int)) = ((s.n - a * x : Nat) : Int) := by rw [IntKind.wrap_i64]; generalize a * x = y at *; omega
  rw [e1, e2]
  have hP := mq_pages H
  have hnc := hP.1
  rw [sl_front hP rfl]
  have e3 : Int.toNat ((s.n - a * x : Nat) : Int) - Int.toNat (0 : Int) = s.n - a * x := by simp
  have e4 : w.gc - Int.toNat (0 : Int) = w.gc := by simp
  rw [e3, e4]
  obtain ⟨hw, S⟩ := stp_slice (h' := h) (gp := w.gp) (gc := w.gc) (n' := s.n - a * x) (pg' := s.pg) H ⟨Upd.refl _ _, sl_take hP (Nat.sub_le _ _), fun _ e => .inl e⟩
  refine ⟨by omega, by omega, by omega, by omega, hw, ?_⟩
  refine pm_paired_ok o8 (Nat.le_trans (Nat.sub_le _ _) n1) (fun k hk => npair n1 k) (fun k i hk hb => ho.bi k i hk hb) S.p fun h38 sw' S38 => ⟨rfl, hy a rfl hle h38 { gp := w.gp, gc := w.gc, qp := w.qp, qc := w.qc, sb := w.sb, sw := sw' } ?_⟩
  have e5 : mShrink s a = { s with n := s.n - a * x, bt := cutB (s.n - a * x) s.bt } := by unfold mShrink; rw [hx]
  rw [e5]
  exact S.trans S38

/-- A map's data, told. -/
def plainR (s : MS) (gp : Option Addr) (gc : Nat) (qp : Option Addr) (qc : Nat) (wp : Nat → Option Addr) (wc : Nat → Nat) : Res :=
  andR (slR gp s.n gc 11 (pgF s.pg)) (andR (slR qp s.o qc 1 fun k => .slice (wp k) (nw (s.n / 2 ^ (k + 1))) (wc k)) (allR s.o fun k => slR (wp k) (nw (s.n / 2 ^ (k + 1))) (wc k) 1 fun j => .int .u64 (wd (s.bt k) j)))

theorem pm_Plain_ok (ho : s.Ok) (H : (mapR mb s w).P h)
    (hK : ∀ (h' : Heap) (gp : Option Addr) (gc : Nat) (qp : Option Addr) (qc : Nat) (wp : Nat → Option Addr) (wc : Nat → Nat), New h h' (plainR s gp gc qp qc wp wc) → K (.tuple #[.slice gp s.n gc, .slice qp s.o qc]) h') :
    CallV Try.prog w₀ F.pagemap_Map_Plain [.pointer (some ⟨mb, 0, none⟩)] h K := by
  refine pagemap_Map_Plain.call ?_
  unfold pagemap_Map_Plain.vc
  have o8 := ho.o8
  have n1 := ho.n1
  have hq := mq_q H
  intro J k1
  simp only [jor, jand, cellAt_new, add_mk, List.getElem?_toArray, Nat.zero_add, List.getElem?_cons_zero, List.getElem?_cons_succ, Option.some.injEq, Value.int.injEq, Value.bool.injEq, Value.pointer.injEq, Value.slice.injEq, true_and, and_true, exists_eq_left', exists_eq', and_assoc, exists_and_left, hq]
  intro L hL
  let RW : (Nat → Option Addr) → (Nat → Nat) → Nat → Res := fun wp wc k => slR (wp k) (nw (s.n / 2 ^ (k + 1))) (wc k) 1 fun j => .int .u64 (wd (s.bt k) j)
  let QF : (Nat → Option Addr) → (Nat → Nat) → Nat → Value := fun wp wc k => .slice (wp k) (nw (s.n / 2 ^ (k + 1))) (wc k)
  have loop : ∀ (r k : Nat) (hx : Heap) (qp : Option Addr) (qc : Nat) (wp : Nat → Option Addr) (wc : Nat → Nat), k + r = s.o → Hold h hx [allR k (RW wp wc), slR qp k qc 1 (QF wp wc)] →
      L [.pointer (some ⟨mb, 0, none⟩), .slice qp k qc, .slice w.qp s.o w.qc, .int .i64 (s.o : Int), .int .i64 (k : Int)] hx := by
    intro r
    induction r with
    | zero =>
      intro k hx qp qc wp wc hk I
      have : k = s.o := by omega
      subst this
      refine hL _ _ _ _ _ _ _ _ _ _ (iF (by simp) (k1 _ _ _ _ _ ?_))
      have Hx := (mapR mb s w).st H I.u fun _ _ => id
      have hg := mq_g Hx
      have hrow := sl_row (mq_pages Hx)
      obtain ⟨os, hp, hS⟩ := sl_app (e := T.T_api_Page) (b := 88) (zs := zpL) (m := s.n) (sl_nil 11 (pgF s.pg) hx) (by decide) (xs := lst (s.n * 11) (pgF s.pg)) (by simp) hrow.rowAt (fun v hv => by
        simp only [lst, List.mem_map] at hv
        obtain ⟨j, _, rfl⟩ := hv
        unfold pgF pcl
        split <;> rfl) (by omega)
      refine ⟨_, rfl, _, _, _, by rw [add_mk]; exact hg, os, _, hp, fun p25 c25 h25 hres => ?_⟩
      have S := hS p25 c25 h25 hres
      simp only [Nat.zero_add] at S ⊢
      have N : New hx h25 (slR p25 s.n c25 11 (pgF s.pg)) := (New.of_stp S sl_nil_fp).conv (fun P => sl_congr P fun i hi => ?_) fun _ e => e
      case refine_1 =>
        have hi : i < s.n * 11 := hi
        have hl : zpL.length = 11 := rfl
        rw [hl, Nat.zero_mul, if_neg (by omega), Nat.sub_zero, lst_getD hi]
      have I2 := I.new N
      have I3 : Hold h h25 [slR qp s.o qc 1 (QF wp wc), allR s.o (RW wp wc), slR p25 s.n c25 11 (pgF s.pg)] := I2.perm (List.reverse_perm [slR p25 s.n c25 11 (pgF s.pg), allR s.o (RW wp wc), slR qp s.o qc 1 (QF wp wc)])
      exact hK h25 p25 c25 qp qc wp wc (Hold.toNew (Hold.join (I3.join.perm (.swap _ _ _))))
    | succ r ih =>
      intro k hx qp qc wp wc hk I
      have hko : k < s.o := by omega
      have Hx := (mapR mb s w).st H I.u fun _ _ => id
      obtain ⟨b, eb, hp⟩ := mq_pair Hx hko
      have e1 : IntKind.wrap .i64 ((k : Int) + 1) = ((k + 1 : Nat) : Int) := by rw [IntKind.wrap_i64]; omega
      refine hL _ _ _ _ _ _ _ _ _ _ (iT (by simp; omega) ?_)
      rw [eb]
      simp only [jor, jand, cellAt_new, add_mk, List.getElem?_toArray, Nat.zero_add, List.getElem?_cons_zero, List.getElem?_cons_succ, Option.some.injEq, Value.int.injEq, Value.bool.injEq, Value.pointer.injEq, Value.slice.injEq, true_and, and_true, exists_eq_left', exists_eq', and_assoc, exists_and_left, Int.toNat_natCast, Nat.mul_one, hp]
      refine ⟨by omega, by omega, bits_Words_ok (npair n1 k) (mq_set Hx hko) fun h17 p17 c17 N17 => ⟨_, _, _, rfl, ?_⟩⟩
      have I17 := I.new N17
      obtain ⟨os, hpre, hS⟩ := sl_app1 (e := T.T_sl_uint64) (T := T.T_sl_uint64) (b := 24) (zs := [.slice none 0 0]) (v := .slice p17 (nw (s.n / 2 ^ (k + 1))) c17) (I17.at 2 (R := slR qp k qc 1 (QF wp wc))) rfl rfl (by omega)
      refine ⟨os, _, hpre, fun p19 c19 h19 hres => ?_⟩
      have I19 := I17.step 2 (hS p19 c19 h19 hres)
      rw [e1, ← eb]
      let wp' : Nat → Option Addr := fun i => if i = k then p17 else wp i
      let wc' : Nat → Nat := fun i => if i = k then c17 else wc i
      have eR : ∀ i, i < k → RW wp wc i = RW wp' wc' i := fun i hi => by
        have : i ≠ k := by omega
        simp only [RW, wp', wc', this, if_false]
      have eK : slR p17 (nw (s.n / 2 ^ (k + 1))) c17 1 (fun j => .int .u64 (wd (s.bt k) j)) = RW wp' wc' k := by simp only [RW, wp', wc', if_true]
      refine ih (k + 1) h19 p19 c19 wp' wc' (by omega) (Hold.snoc ?_)
      have I20 := I19.as 1 (R := allR k (RW wp wc)) (R' := allR k (RW wp' wc')) (allR_congr eR) (fun b e => allR_fp eR b e)
      have I21 := I20.as 2 (R := slR p19 (k + 1) c19 1 fun i => if i = k then .slice p17 (nw (s.n / 2 ^ (k + 1))) c17 else QF wp wc i) (R' := slR p19 (k + 1) c19 1 (QF wp' wc')) (fun P => sl_congr P fun i hi => ?_) (fun b e => e)
      · rw [← eK]; exact I21
      · simp only [QF, wp', wc']
        by_cases h1 : i = k <;> simp [h1]
  exact loop s.o 0 h none 0 (fun _ => none) (fun _ => 0) (by omega) (((Hold.nil h).add (Upd.refl _ _) (sl_nil 1 _ h) (fun b e => absurd e (sl_nil_fp b))).add (Upd.refl _ _) (allR_zero _) fun b ⟨k, hk, _⟩ => absurd hk (by omega))

end
end Go.Proofs.Ytnplkinakaepdaa
