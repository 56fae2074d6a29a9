/- Chapter 4: played: a call on both maps. No condition. -/
import Derived.Test.YtnplkinakaepdaaR1
set_option linter.unusedSimpArgs false
set_option linter.unusedVariables false
namespace Go.Proofs.Ytnplkinakaepdaa
open Go.V Classical

/-- The code's map and the document's, apart. -/
def bothR (mb : Nat) (a : MS) (m : MW) (b : MS) (w : RW) : Res := andR (mapR mb a m) (refR b w)

section
variable {w₀ : World} {h : Heap} {K : Value → Heap → Prop} {s : MS} {w : RW} {mb : Nat} {m : MW} {o : PO}

theorem uRun_on (s : MS) (i r k : Int) : (uRun s i r k).1.o = s.o ∧ (uRun s i r k).1.n = s.n := by unfold uRun; split <;> exact ⟨rfl, rfl⟩
theorem uSlab_on (s : MS) (i r : Int) : (uSlab s i r).1.o = s.o ∧ (uSlab s i r).1.n = s.n := by unfold uSlab; split <;> exact ⟨rfl, rfl⟩
theorem uOwn_on (s : MS) (i r : Int) (b : Bool) : (uOwn s i r b).1.o = s.o ∧ (uOwn s i r b).1.n = s.n := by unfold uOwn; split <;> exact ⟨rfl, rfl⟩
theorem uChain_on (s : MS) (i r k : Int) : (uChain s i r k).1.o = s.o ∧ (uChain s i r k).1.n = s.n := by unfold uChain; split <;> exact ⟨rfl, rfl⟩
theorem uFirst_on (s : MS) (i r : Int) : (uFirst s i r).1.o = s.o ∧ (uFirst s i r).1.n = s.n := by unfold uFirst; split <;> exact ⟨rfl, rfl⟩

/-- The document's map, read out of the box of the result. -/
def Read (rb : Nat) (K : Value → Heap → Prop) (b : Bool) (k : Heap) : Prop :=
  ∃ n0 : Int, cellAt k ⟨rb, 0, none⟩ = some (.int .i64 n0) ∧ ∃ (p1 : Option Addr) (m1 c1 : Nat), cellAt k ⟨rb, 1, none⟩ = some (.slice p1 m1 c1) ∧
    ∃ (p2 : Option Addr) (m2 c2 : Nat), cellAt k ⟨rb, 2, none⟩ = some (.slice p2 m2 c2) ∧ K (.tuple #[.agg #[.int .i64 n0, .slice p1 m1 c1, .slice p2 m2 c2], .bool b]) k

theorem pair_lt (hs : s.Ok) {k a : Nat} (hk : k < s.o) (ha : a < s.n) : a / 2 ^ (k + 1) < s.n / 2 ^ (k + 1) := by
  have h1 : 2 ^ (k + 1) ∣ s.n := Nat.dvd_trans (Nat.pow_dvd_pow 2 (by omega)) (Nat.dvd_of_mod_eq_zero hs.al)
  obtain ⟨q, hq⟩ := h1
  rw [hq, Nat.mul_div_cancel_left _ (Nat.two_pow_pos _)]
  exact Nat.div_lt_of_lt_mul (by rw [← hq]; exact ha)

set_option maxHeartbeats 4000000 in
theorem played_ok (ho : o.Ok) (hs : s.Ok) (H : (bothR mb s m s w).P h)
    (hK : ∀ (h' : Heap) (m' : MW) (w' : RW), Stp h h' (bothR mb s m s w) (bothR mb (pState s o) m' (pState s o) w') → K (.tuple #[refV (pState s o) w', .bool true]) h') :
    CallV Try.prog w₀ F.croftlaw4_played [.pointer (some ⟨mb, 0, none⟩), refV s w, pov o] h K := by
  refine croftlaw4_played.call ?_
  unfold croftlaw4_played.vc
  have A := rb_new h s.o w.gp s.n w.gc w.qp s.o w.qc
  let h1 : Heap := h.push (.cells #[.int .i64 (s.o : Int), .slice w.gp s.n w.gc, .slice w.qp s.o w.qc] T.T_croftref4_Map)
  have B := po_box h1 o
  let h2 : Heap := h1.push (.cells #[.int .i64 o.kind, .int .i64 o.page, .int .i64 o.x, .int .i64 o.y, .bool o.live] T.T_croftlaw4_Op)
  have C := rb_zero h2
  let h3 : Heap := h2.push zmO
  let XX : Nat → Option Addr → Nat → Nat → Option Addr → Nat → Nat → Res := fun a b c d e f g => andR (rbR h.size s.o w.gp s.n w.gc w.qp s.o w.qc) (andR (blkR h1.size 5 (pof o)) (rbR h2.size a b c d e f g))
  let X : Res := XX 0 none 0 0 none 0 0
  have N : New h h3 X := (A.and ((B.and C)))
  have S0 : Stp h h3 (bothR mb s m s w) (andR (bothR mb s m s w) X) := Stp.new H N
  obtain ⟨t0, t1, t2⟩ := rb_c S0.p.2.1.1
  have c : ∀ j, j < 5 → cellAt h3 ⟨h1.size, j, none⟩ = some (pof o j) := fun j hj => Blk.cell S0.p.2.1.2.1.1 hj
  have put : ∀ (k : Heap) (a b : MS) (m' : MW) (w' : RW) (oo : Nat) (gp : Option Addr) (nn gc : Nat) (qp : Option Addr) (mm qc : Nat), Stp h k (bothR mb s m s w) (andR (bothR mb a m' b w') X) →
      WrN k ⟨h2.size, 0, none⟩ 3 ∧ Stp h (setCs k ⟨h2.size, 0, none⟩ 0 [.int .i64 (oo : Int), .slice gp nn gc, .slice qp mm qc]) (bothR mb s m s w) (andR (bothR mb a m' b w') (XX oo gp nn gc qp mm qc)) := fun k a b m' w' oo gp nn gc qp mm qc S => by
    obtain ⟨w1, S1⟩ := rb_set (o' := oo) (gp' := gp) (n' := nn) (gc' := gc) (qp' := qp) (m' := mm) (qc' := qc) S.p.2.1.2.1.2.1
    exact ⟨w1, S.trans (Stp.right (Stp.right (Stp.right S1 S.p.2.1.2.1) S.p.2.1) S.p)⟩
  have rd : ∀ (k : Heap) (m' : MW) (w' : RW) (oo nn : Nat) (b : Bool), b = true → (pState s o).o = oo → (pState s o).n = nn →
      Stp h k (bothR mb s m s w) (andR (bothR mb (pState s o) m' (pState s o) w') (XX oo w'.gp nn w'.gc w'.qp oo w'.qc)) → Read h2.size K b k := fun k m' w' oo nn b hb h1 h2 S => by
    subst hb h1 h2
    obtain ⟨g0, g1, g2⟩ := rb_c S.p.2.1.2.1.2.1
    exact ⟨_, g0, _, _, _, g1, _, _, _, g2, hK _ m' w' (S.conv (fun P => P.1) fun _ e => .inl e)⟩
  have fin : ∀ (k : Heap) (m' : MW) (w' : RW) (oo nn : Nat) (b : Bool), b = true → (pState s o).o = oo → (pState s o).n = nn →
      Stp h k (bothR mb s m s w) (andR (bothR mb (pState s o) m' (pState s o) w') X) → WrN k ⟨h2.size, 0, none⟩ 3 ∧ Read h2.size K b (setCs k ⟨h2.size, 0, none⟩ 0 [.int .i64 (oo : Int), .slice w'.gp nn w'.gc, .slice w'.qp oo w'.qc]) := fun k m' w' oo nn b hb h1 h2 S => by
    obtain ⟨w1, S1⟩ := put k _ _ m' w' oo w'.gp nn w'.gc w'.qp oo w'.qc S
    exact ⟨w1, rd _ m' w' oo nn b hb h1 h2 S1⟩
  simp only [add_mk, Nat.zero_add]
  refine ⟨_, c 0 (by omega), fun e1 => ?_, fun e1 => ⟨_, c 0 (by omega), fun e2 => ?_, fun e2 => ⟨_, c 0 (by omega), fun e3 => ?_, fun e3 => ⟨_, c 0 (by omega), fun e4 => ?_, fun e4 => ⟨_, c 0 (by omega), fun e5 => ?_, fun e5 => ⟨_, c 0 (by omega), fun e6 => ?_, fun e6 => ⟨_, c 0 (by omega), fun e7 => ?_, fun e7 => ?_⟩⟩⟩⟩⟩⟩⟩
  · -- 1
    replace e1 : o.kind = 1 := by simpa using e1
    have eo : pState s o = mGrow s := by unfold pState; rw [if_pos e1]
    refine pm_Grow_ok hs S0.p.1.1 fun k1 m1 S1 => ⟨rfl, ?_⟩
    have S2 := S0.trans (Stp.left (Stp.left S1 S0.p.1) S0.p)
    obtain ⟨d0, d1, d2⟩ := rb_c S2.p.2.1.1
    refine ⟨_, d0, _, _, _, d1, _, _, _, d2, r4_Grow_ok hs S2.p.1.2.1 fun k2 w2 S3 => ⟨_, _, _, _, _, _, _, rfl, ?_⟩⟩
    have S4 := S2.trans (Stp.left (Stp.right S3 S2.p.1) S2.p)
    exact fin k2 m1 w2 _ _ _ rfl (by rw [eo]) (by rw [eo]) (by rw [eo]; exact S4)
  · -- 2
    replace e1 : ¬ o.kind = 1 := by simpa using e1
    replace e2 : o.kind = 2 := by simpa using e2
    have eo : pState s o = (uShrink s o.x).1 := by unfold pState; rw [if_neg e1, if_pos e2]
    refine ⟨_, t0, _, _, _, t1, _, _, _, t2, _, c 2 (by omega), r4_Shrink_u hs ho.x S0.p.1.2.1 fun k1 w1 S1 => ⟨_, _, _, _, _, _, _, _, rfl, ?_⟩⟩
    have S2 := S0.trans (Stp.left (Stp.right S1 S0.p.1) S0.p)
    have D := rb_zero k1
    obtain ⟨w3, S3⟩ := rb_set (o' := (uShrink s o.x).1.o) (gp' := w1.gp) (n' := (uShrink s o.x).1.n) (gc' := w1.gc) (qp' := w1.qp) (m' := (uShrink s o.x).1.o) (qc' := w1.qc) D.p
    have S5 := S2.trans (Stp.new S2.p (D.stp S3))
    obtain ⟨g0, g1, g2⟩ := rb_c S5.p.2.1
    have d2 := Blk.cell S5.p.1.2.1.2.1.1 (i := 2) (by omega)
    refine ⟨w3, _, g0, _, _, _, g1, _, _, _, g2, _, d2, pm_Shrink_u hs ho.x S5.p.1.1.1 fun k2 m2 S6 => ⟨_, rfl, ?_⟩⟩
    have S7 := S5.trans (Stp.left (Stp.left (Stp.left S6 S5.p.1.1) S5.p.1) S5.p)
    obtain ⟨f0, f1, f2⟩ := rb_c S7.p.2.1
    exact ⟨f0, f1, f2, fin k2 m2 w1 _ _ _ (beq_self_eq_true _) (by rw [eo]) (by rw [eo]) (by rw [eo]; exact S7.conv (fun P => P.1) fun _ e => .inl e)⟩
  · -- 3
    replace e1 : ¬ o.kind = 1 := by simpa using e1
    replace e2 : ¬ o.kind = 2 := by simpa using e2
    replace e3 : o.kind = 3 := by simpa using e3
    have eo : pState s o = (uRun s o.page o.x o.y).1 := by unfold pState; rw [if_neg e1, if_neg e2, if_pos e3]
    refine ⟨_, t0, _, _, _, t1, _, _, _, t2, _, c 1 (by omega), _, c 2 (by omega), _, c 3 (by omega), _, t0, _, _, _, t1, _, _, _, t2, _, c 1 (by omega), _, c 2 (by omega), _, c 3 (by omega), pm_Run_u hs ho.p ho.x S0.p.1.1 fun k1 S1 => ⟨_, rfl, ?_⟩⟩
    have S2 := S0.trans (Stp.left (Stp.left S1 S0.p.1) S0.p)
    obtain ⟨d0, d1, d2⟩ := rb_c S2.p.2.1.1
    have d : ∀ j, j < 5 → cellAt k1 ⟨h1.size, j, none⟩ = some (pof o j) := fun j hj => Blk.cell S2.p.2.1.2.1.1 hj
    refine ⟨d 3 (by omega), d 2 (by omega), d 1 (by omega), d0, d1, d2, d0, d1, d2, r4_Run_u hs ho.p ho.x S2.p.1.2.1 fun k2 S3 => ⟨_, rfl, ?_⟩⟩
    have S4 := S2.trans (Stp.left (Stp.right S3 S2.p.1) S2.p)
    obtain ⟨f0, f1, f2⟩ := rb_c S4.p.2.1.1
    exact ⟨f0, f1, f2, fin k2 m w _ _ _ (beq_self_eq_true _) (by rw [eo]; exact (uRun_on s o.page o.x o.y).1) (by rw [eo]; exact (uRun_on s o.page o.x o.y).2) (by rw [eo]; exact S4)⟩
  · -- 4
    replace e1 : ¬ o.kind = 1 := by simpa using e1
    replace e2 : ¬ o.kind = 2 := by simpa using e2
    replace e3 : ¬ o.kind = 3 := by simpa using e3
    replace e4 : o.kind = 4 := by simpa using e4
    have eo : pState s o = (uSlab s o.page o.x).1 := by unfold pState; rw [if_neg e1, if_neg e2, if_neg e3, if_pos e4]
    refine ⟨_, t0, _, _, _, t1, _, _, _, t2, _, c 1 (by omega), _, c 2 (by omega), _, t0, _, _, _, t1, _, _, _, t2, _, c 1 (by omega), _, c 2 (by omega), pm_Slab_u hs  S0.p.1.1 fun k1 S1 => ⟨_, rfl, ?_⟩⟩
    have S2 := S0.trans (Stp.left (Stp.left S1 S0.p.1) S0.p)
    obtain ⟨d0, d1, d2⟩ := rb_c S2.p.2.1.1
    have d : ∀ j, j < 5 → cellAt k1 ⟨h1.size, j, none⟩ = some (pof o j) := fun j hj => Blk.cell S2.p.2.1.2.1.1 hj
    refine ⟨d 2 (by omega), d 1 (by omega), d0, d1, d2, d0, d1, d2, r4_Slab_u hs  S2.p.1.2.1 fun k2 S3 => ⟨_, rfl, ?_⟩⟩
    have S4 := S2.trans (Stp.left (Stp.right S3 S2.p.1) S2.p)
    obtain ⟨f0, f1, f2⟩ := rb_c S4.p.2.1.1
    exact ⟨f0, f1, f2, fin k2 m w _ _ _ (beq_self_eq_true _) (by rw [eo]; exact (uSlab_on s o.page o.x).1) (by rw [eo]; exact (uSlab_on s o.page o.x).2) (by rw [eo]; exact S4)⟩
  · -- 5
    replace e1 : ¬ o.kind = 1 := by simpa using e1
    replace e2 : ¬ o.kind = 2 := by simpa using e2
    replace e3 : ¬ o.kind = 3 := by simpa using e3
    replace e4 : ¬ o.kind = 4 := by simpa using e4
    replace e5 : o.kind = 5 := by simpa using e5
    have eo : pState s o = (uOwn s o.page o.x o.live).1 := by unfold pState; rw [if_neg e1, if_neg e2, if_neg e3, if_neg e4, if_pos e5]
    refine ⟨_, t0, _, _, _, t1, _, _, _, t2, _, c 1 (by omega), _, c 2 (by omega), _, c 4 (by omega), _, t0, _, _, _, t1, _, _, _, t2, _, c 1 (by omega), _, c 2 (by omega), _, c 4 (by omega), pm_Own_u hs  S0.p.1.1 fun k1 S1 => ⟨_, rfl, ?_⟩⟩
    have S2 := S0.trans (Stp.left (Stp.left S1 S0.p.1) S0.p)
    obtain ⟨d0, d1, d2⟩ := rb_c S2.p.2.1.1
    have d : ∀ j, j < 5 → cellAt k1 ⟨h1.size, j, none⟩ = some (pof o j) := fun j hj => Blk.cell S2.p.2.1.2.1.1 hj
    refine ⟨d 4 (by omega), d 2 (by omega), d 1 (by omega), d0, d1, d2, d0, d1, d2, r4_Own_u hs  S2.p.1.2.1 fun k2 S3 => ⟨_, rfl, ?_⟩⟩
    have S4 := S2.trans (Stp.left (Stp.right S3 S2.p.1) S2.p)
    obtain ⟨f0, f1, f2⟩ := rb_c S4.p.2.1.1
    exact ⟨f0, f1, f2, fin k2 m w _ _ _ (beq_self_eq_true _) (by rw [eo]; exact (uOwn_on s o.page o.x o.live).1) (by rw [eo]; exact (uOwn_on s o.page o.x o.live).2) (by rw [eo]; exact S4)⟩
  · -- 6
    replace e1 : ¬ o.kind = 1 := by simpa using e1
    replace e2 : ¬ o.kind = 2 := by simpa using e2
    replace e3 : ¬ o.kind = 3 := by simpa using e3
    replace e4 : ¬ o.kind = 4 := by simpa using e4
    replace e5 : ¬ o.kind = 5 := by simpa using e5
    replace e6 : o.kind = 6 := by simpa using e6
    have eo : pState s o = (uChain s o.page o.x o.y).1 := by unfold pState; rw [if_neg e1, if_neg e2, if_neg e3, if_neg e4, if_neg e5, if_pos e6]
    refine ⟨_, t0, _, _, _, t1, _, _, _, t2, _, c 1 (by omega), _, c 2 (by omega), _, c 3 (by omega), _, t0, _, _, _, t1, _, _, _, t2, _, c 1 (by omega), _, c 2 (by omega), _, c 3 (by omega), pm_Chain_u hs  S0.p.1.1 fun k1 S1 => ⟨_, rfl, ?_⟩⟩
    have S2 := S0.trans (Stp.left (Stp.left S1 S0.p.1) S0.p)
    obtain ⟨d0, d1, d2⟩ := rb_c S2.p.2.1.1
    have d : ∀ j, j < 5 → cellAt k1 ⟨h1.size, j, none⟩ = some (pof o j) := fun j hj => Blk.cell S2.p.2.1.2.1.1 hj
    refine ⟨d 3 (by omega), d 2 (by omega), d 1 (by omega), d0, d1, d2, d0, d1, d2, r4_Chain_u hs  S2.p.1.2.1 fun k2 S3 => ⟨_, rfl, ?_⟩⟩
    have S4 := S2.trans (Stp.left (Stp.right S3 S2.p.1) S2.p)
    obtain ⟨f0, f1, f2⟩ := rb_c S4.p.2.1.1
    exact ⟨f0, f1, f2, fin k2 m w _ _ _ (beq_self_eq_true _) (by rw [eo]; exact (uChain_on s o.page o.x o.y).1) (by rw [eo]; exact (uChain_on s o.page o.x o.y).2) (by rw [eo]; exact S4)⟩
  · -- 7
    replace e1 : ¬ o.kind = 1 := by simpa using e1
    replace e2 : ¬ o.kind = 2 := by simpa using e2
    replace e3 : ¬ o.kind = 3 := by simpa using e3
    replace e4 : ¬ o.kind = 4 := by simpa using e4
    replace e5 : ¬ o.kind = 5 := by simpa using e5
    replace e6 : ¬ o.kind = 6 := by simpa using e6
    replace e7 : o.kind = 7 := by simpa using e7
    have eo : pState s o = (uFirst s o.page o.x).1 := by unfold pState; rw [if_neg e1, if_neg e2, if_neg e3, if_neg e4, if_neg e5, if_neg e6, if_pos e7]
    refine ⟨_, t0, _, _, _, t1, _, _, _, t2, _, c 1 (by omega), _, c 2 (by omega), _, t0, _, _, _, t1, _, _, _, t2, _, c 1 (by omega), _, c 2 (by omega), pm_First_u hs  S0.p.1.1 fun k1 S1 => ⟨_, rfl, ?_⟩⟩
    have S2 := S0.trans (Stp.left (Stp.left S1 S0.p.1) S0.p)
    obtain ⟨d0, d1, d2⟩ := rb_c S2.p.2.1.1
    have d : ∀ j, j < 5 → cellAt k1 ⟨h1.size, j, none⟩ = some (pof o j) := fun j hj => Blk.cell S2.p.2.1.2.1.1 hj
    refine ⟨d 2 (by omega), d 1 (by omega), d0, d1, d2, d0, d1, d2, r4_First_u hs  S2.p.1.2.1 fun k2 S3 => ⟨_, rfl, ?_⟩⟩
    have S4 := S2.trans (Stp.left (Stp.right S3 S2.p.1) S2.p)
    obtain ⟨f0, f1, f2⟩ := rb_c S4.p.2.1.1
    exact ⟨f0, f1, f2, fin k2 m w _ _ _ (beq_self_eq_true _) (by rw [eo]; exact (uFirst_on s o.page o.x).1) (by rw [eo]; exact (uFirst_on s o.page o.x).2) (by rw [eo]; exact S4)⟩
  refine ⟨_, t0, _, _, _, t1, _, _, _, t2, _, c 2 (by omega), _, c 1 (by omega), r4_Pair_u hs ho.p fun k1 u1 => ⟨_, rfl, ?_⟩⟩
  have S1 := S0.trans (Stp.quiet S0.p u1)
  obtain ⟨d0, d1, d2⟩ := rb_c S1.p.2.1.1
  have d : ∀ j, j < 5 → cellAt k1 ⟨h1.size, j, none⟩ = some (pof o j) := fun j hj => Blk.cell S1.p.2.1.2.1.1 hj
  refine ⟨_, d 0 (by omega), fun e8 => ?_, fun e8 => ⟨_, d 0 (by omega), fun e9 => ?_, fun e9 => ⟨_, d 0 (by omega), fun e10 => ?_, fun e10 => ⟨_, d 0 (by omega), fun e11 => ?_, fun e11 => ?_⟩⟩⟩⟩
  · -- 8
    replace e1 : ¬ o.kind = 1 := by simpa using e1
    replace e2 : ¬ o.kind = 2 := by simpa using e2
    replace e3 : ¬ o.kind = 3 := by simpa using e3
    replace e4 : ¬ o.kind = 4 := by simpa using e4
    replace e5 : ¬ o.kind = 5 := by simpa using e5
    replace e6 : ¬ o.kind = 6 := by simpa using e6
    replace e7 : ¬ o.kind = 7 := by simpa using e7
    replace e8 : o.kind = 8 := by simpa using e8
    by_cases OK : pairOk s o.x o.page
    · refine ⟨_, d 2 (by omega), _, d 1 (by omega), pm_Flip_ok hs S1.p.1.1 (fun kk mm hk hko hm hmn k2 S2 => ⟨_, _, rfl, ?_⟩) fun hn => absurd OK hn⟩
      have ep : uPair s o.x o.page = ((mm / 2 ^ (kk + 1) : Nat) : Int) := by unfold uPair; rw [if_pos OK, hk, hm]; rfl
      have eo : pState s o = { s with bt := flipB s.bt kk (mm / 2 ^ (kk + 1)) } := by unfold pState; rw [if_neg e1, if_neg e2, if_neg e3, if_neg e4, if_neg e5, if_neg e6, if_neg e7, if_pos e8, if_pos OK, hk, hm]; rfl
      have hlt := pair_lt hs hko hmn
      rw [ep]
      have S3 := S1.trans (Stp.left (Stp.left S2 S1.p.1) S1.p)
      obtain ⟨f0, f1, f2⟩ := rb_c S3.p.2.1.1
      have g2 := Blk.cell S3.p.2.1.2.1.1 (i := 2) (by omega)
      rw [show pof o 2 = .int .i64 (kk : Int) from congrArg (Value.int .i64) hk] at g2
      obtain ⟨b, b', eb, hc, eb', hc'⟩ := ref_bit S3.p.1.2.1 hko hlt
      obtain ⟨hw, S4⟩ := ref_flip S3.p.1.2.1 hko hlt eb'
      have S5 := S3.trans (Stp.left (Stp.right S4 S3.p.1) S3.p)
      generalize hix : mm / 2 ^ (kk + 1) = ix at *
      rw [eb] at f2
      refine iF (by simp) ⟨_, _, _, f2, _, g2, _, rfl, by omega, by omega, ?_⟩
      simp only [add_mk, Int.toNat_natCast, Nat.mul_one, Nat.zero_add]
      refine ⟨_, _, _, hc, _, _, _, f2, _, g2, _, rfl, by omega, by omega, ?_⟩
      simp only [add_mk, Int.toNat_natCast, Nat.mul_one, Nat.zero_add]
      refine ⟨_, _, _, hc, _, eb', by omega, by omega, ?_⟩
      simp only [add_mk, Int.toNat_natCast, Nat.mul_one, Nat.zero_add]
      refine ⟨_, hc', _, eb', by omega, by omega, ?_⟩
      simp only [add_mk, Int.toNat_natCast, Nat.mul_one, Nat.zero_add]
      refine ⟨hw, ?_⟩
      intro J32 k32
      obtain ⟨x0, x1, x2⟩ := rb_c S5.p.2.1.1
      have y2 := Blk.cell S5.p.2.1.2.1.1 (i := 2) (by omega)
      rw [show pof o 2 = .int .i64 (kk : Int) from congrArg (Value.int .i64) hk] at y2
      obtain ⟨b2, b2', ec, hd, ec', hd'⟩ := ref_bit S5.p.1.2.1 hko hlt
      refine ⟨_, x0, _, _, _, x1, _, _, _, x2, qT rfl ?_⟩
      have x2' := x2
      rw [ec] at x2'
      refine ⟨_, _, _, x2', _, y2, _, rfl, by omega, by omega, ?_⟩
      simp only [add_mk, Int.toNat_natCast, Nat.mul_one, Nat.zero_add]
      refine ⟨_, _, _, hd, _, ec', by omega, Int.ofNat_lt.2 hlt, ?_⟩
      simp only [add_mk, Int.toNat_natCast, Nat.mul_one, Nat.zero_add]
      obtain ⟨w6, S6⟩ := put _ _ _ _ _ s.o w.gp s.n w.gc w.qp s.o w.qc S5
      obtain ⟨z0, z1, z2⟩ := rb_c S6.p.2.1.1
      have v2 := Blk.cell S6.p.2.1.2.1.1 (i := 2) (by omega)
      rw [show pof o 2 = .int .i64 (kk : Int) from congrArg (Value.int .i64) hk] at v2
      obtain ⟨b3, b3', ef, hg, ef', hg'⟩ := ref_bit S6.p.1.2.1 hko hlt
      have hb3 : b2 = b3 := by rw [ec] at ef; simpa using ef
      have hb3' : b2' = b3' := by rw [ec'] at ef'; simpa using ef'
      subst hb3 hb3'
      replace z2 := z2.trans (congrArg some (congrArg (fun p => Value.slice p s.o w.qc) ec))
      refine ⟨_, hd', w6, hg', hg, v2, z2, k32 _ _ _ (rd _ m w _ _ _ (by simp [flipB]) (by rw [eo]) (by rw [eo]) (by rw [eo]; exact S6))⟩
    · refine ⟨_, d 2 (by omega), _, d 1 (by omega), pm_Flip_ok hs S1.p.1.1 (fun kk mm hk hko hm hmn => absurd ⟨by omega, by omega, by omega, by omega⟩ OK) fun hn k2 u2 => ⟨_, _, rfl, ?_⟩⟩
      have ep : uPair s o.x o.page = -1 := if_neg OK
      have eo : pState s o = s := by unfold pState; rw [if_neg e1, if_neg e2, if_neg e3, if_neg e4, if_neg e5, if_neg e6, if_neg e7, if_pos e8, if_neg OK]
      rw [ep]
      have S3 := S1.trans (Stp.quiet S1.p u2)
      obtain ⟨f0, f1, f2⟩ := rb_c S3.p.2.1.1
      refine iT rfl ⟨_, f0, _, _, _, f1, _, _, _, f2, ?_⟩
      intro J29 k29
      exact qT rfl (k29 _ _ (fin k2 m w _ _ _ rfl (by rw [eo]) (by rw [eo]) (by rw [eo]; exact S3)))
  · -- 9
    replace e1 : ¬ o.kind = 1 := by simpa using e1
    replace e2 : ¬ o.kind = 2 := by simpa using e2
    replace e3 : ¬ o.kind = 3 := by simpa using e3
    replace e4 : ¬ o.kind = 4 := by simpa using e4
    replace e5 : ¬ o.kind = 5 := by simpa using e5
    replace e6 : ¬ o.kind = 6 := by simpa using e6
    replace e7 : ¬ o.kind = 7 := by simpa using e7
    replace e8 : ¬ o.kind = 8 := by simpa using e8
    have eo : pState s o = s := by unfold pState; rw [if_neg e1, if_neg e2, if_neg e3, if_neg e4, if_neg e5, if_neg e6, if_neg e7, if_neg e8]
    intro J36 k36
    refine ⟨_, d0, _, _, _, d1, _, _, _, d2, _, d 2 (by omega), _, d 1 (by omega), pm_Pair_ok hs S1.p.1.1 (fun kk mm hk hko hm hmn k2 u2 => ⟨_, rfl, ?_⟩) fun hn k2 u2 => ⟨_, rfl, ?_⟩⟩
    · have OK : pairOk s o.x o.page := ⟨by omega, by omega, by omega, by omega⟩
      have ep : uPair s o.x o.page = ((mm / 2 ^ (kk + 1) : Nat) : Int) := by unfold uPair; rw [if_pos OK, hk, hm]; rfl
      have hlt := pair_lt hs hko hmn
      rw [ep]
      have S3 := S1.trans (Stp.quiet S1.p u2)
      obtain ⟨f0, f1, f2⟩ := rb_c S3.p.2.1.1
      have g2 := Blk.cell S3.p.2.1.2.1.1 (i := 2) (by omega)
      rw [show pof o 2 = .int .i64 (kk : Int) from congrArg (Value.int .i64) hk] at g2
      obtain ⟨b, b', eb, hc, eb', hc'⟩ := ref_bit S3.p.1.2.1 hko hlt
      generalize hix : mm / 2 ^ (kk + 1) = ix at *
      have f2' := f2
      rw [eb] at f2'
      refine ⟨f0, f1, f2, qT (by simp) ⟨_, _, _, f2', _, g2, _, rfl, by omega, by omega, ?_⟩⟩
      simp only [add_mk, Int.toNat_natCast, Nat.mul_one, Nat.zero_add]
      refine ⟨_, _, _, hc, _, eb', by omega, by omega, ?_⟩
      simp only [add_mk, Int.toNat_natCast, Nat.mul_one, Nat.zero_add]
      obtain ⟨w6, S6⟩ := put _ _ _ _ _ s.o w.gp s.n w.gc w.qp s.o w.qc S3
      obtain ⟨z0, z1, z2⟩ := rb_c S6.p.2.1.1
      have v2 := Blk.cell S6.p.2.1.2.1.1 (i := 2) (by omega)
      rw [show pof o 2 = .int .i64 (kk : Int) from congrArg (Value.int .i64) hk] at v2
      obtain ⟨b3, b3', ef, hg, ef', hg'⟩ := ref_bit S6.p.1.2.1 hko hlt
      have hb3 : b = b3 := by rw [eb] at ef; simpa using ef
      have hb3' : b' = b3' := by rw [eb'] at ef'; simpa using ef'
      subst hb3 hb3'
      replace z2 := z2.trans (congrArg some (congrArg (fun p => Value.slice p s.o w.qc) eb))
      refine ⟨_, hc', w6, hg', hg, v2, z2, k36 _ _ _ (rd _ m w _ _ _ (by simp) (by rw [eo]) (by rw [eo]) (by rw [eo]; exact S6))⟩
    · have NO : ¬ pairOk s o.x o.page := hn
      have ep : uPair s o.x o.page = -1 := if_neg NO
      rw [ep]
      have S3 := S1.trans (Stp.quiet S1.p u2)
      obtain ⟨f0, f1, f2⟩ := rb_c S3.p.2.1.1
      obtain ⟨w6, S6⟩ := put _ _ _ _ _ s.o w.gp s.n w.gc w.qp s.o w.qc S3
      exact ⟨f0, f1, f2, qF' rfl ⟨w6, k36 _ _ _ (rd _ m w _ _ _ rfl (by rw [eo]) (by rw [eo]) (by rw [eo]; exact S6))⟩⟩
  · -- 10
    replace e1 : ¬ o.kind = 1 := by simpa using e1
    replace e2 : ¬ o.kind = 2 := by simpa using e2
    replace e3 : ¬ o.kind = 3 := by simpa using e3
    replace e4 : ¬ o.kind = 4 := by simpa using e4
    replace e5 : ¬ o.kind = 5 := by simpa using e5
    replace e6 : ¬ o.kind = 6 := by simpa using e6
    replace e7 : ¬ o.kind = 7 := by simpa using e7
    replace e8 : ¬ o.kind = 8 := by simpa using e8
    have eo : pState s o = s := by unfold pState; rw [if_neg e1, if_neg e2, if_neg e3, if_neg e4, if_neg e5, if_neg e6, if_neg e7, if_neg e8]
    refine ⟨_, d0, _, _, _, d1, _, _, _, d2, _, d 1 (by omega), _, d0, _, _, _, d1, _, _, _, d2, _, d 1 (by omega), pm_Head_u hs S1.p.1.1 fun k2 u2 => ⟨_, rfl, ?_⟩⟩
    have S3 := S1.trans (Stp.quiet S1.p u2)
    obtain ⟨f0, f1, f2⟩ := rb_c S3.p.2.1.1
    have g1 := Blk.cell S3.p.2.1.2.1.1 (i := 1) (by omega)
    refine ⟨g1, f0, f1, f2, f0, f1, f2, r4_Head_u hs S3.p.1.2.1 fun k3 u3 => ⟨_, rfl, ?_⟩⟩
    have S4 := S3.trans (Stp.quiet S3.p u3)
    obtain ⟨x0, x1, x2⟩ := rb_c S4.p.2.1.1
    exact ⟨x0, x1, x2, fin k3 m w _ _ _ (beq_self_eq_true _) (by rw [eo]) (by rw [eo]) (by rw [eo]; exact S4)⟩
  · -- 11
    replace e1 : ¬ o.kind = 1 := by simpa using e1
    replace e2 : ¬ o.kind = 2 := by simpa using e2
    replace e3 : ¬ o.kind = 3 := by simpa using e3
    replace e4 : ¬ o.kind = 4 := by simpa using e4
    replace e5 : ¬ o.kind = 5 := by simpa using e5
    replace e6 : ¬ o.kind = 6 := by simpa using e6
    replace e7 : ¬ o.kind = 7 := by simpa using e7
    replace e8 : ¬ o.kind = 8 := by simpa using e8
    have eo : pState s o = s := by unfold pState; rw [if_neg e1, if_neg e2, if_neg e3, if_neg e4, if_neg e5, if_neg e6, if_neg e7, if_neg e8]
    refine pm_Plain_ok hs S1.p.1.1 fun k2 gp gc qp qc wp wc N2 => ⟨_, _, _, _, _, _, rfl, ?_⟩
    have S3 := S1.trans (Stp.new S1.p N2)
    obtain ⟨f0, f1, f2⟩ := rb_c S3.p.1.2.1.1
    obtain ⟨r1, r2⟩ := plain_in N2.p
    have r3 := sl_row S3.p.1.1.2.1.1
    have n1 := hs.n1
    refine ⟨_, f0, _, _, _, f1, _, _, _, f2, _, _, _, f1, SamePages_ok (by omega) r1 r3 fun b hb => ⟨_, rfl, ?_⟩⟩
    have hb : b = true := hb.2 ⟨rfl, fun _ _ _ _ => rfl⟩
    subst hb
    refine ⟨f0, f1, f2, ?_⟩
    intro J46 k46
    refine qT rfl ⟨_, f0, _, _, _, f1, _, _, _, f2, r4_SameWords_ok hs S3.p.1.1.2.1 r2 fun k3 u3 => ⟨_, rfl, ?_⟩⟩
    have S4 := S3.trans (Stp.quiet S3.p u3)
    obtain ⟨x0, x1, x2⟩ := rb_c S4.p.1.2.1.1
    exact ⟨x0, x1, x2, k46 _ _ (fin k3 m w _ _ _ rfl (by rw [eo]) (by rw [eo]) (by rw [eo]; exact S4.conv (fun P => P.1) fun _ e => .inl e))⟩
  · -- others
    replace e1 : ¬ o.kind = 1 := by simpa using e1
    replace e2 : ¬ o.kind = 2 := by simpa using e2
    replace e3 : ¬ o.kind = 3 := by simpa using e3
    replace e4 : ¬ o.kind = 4 := by simpa using e4
    replace e5 : ¬ o.kind = 5 := by simpa using e5
    replace e6 : ¬ o.kind = 6 := by simpa using e6
    replace e7 : ¬ o.kind = 7 := by simpa using e7
    replace e8 : ¬ o.kind = 8 := by simpa using e8
    have eo : pState s o = s := by unfold pState; rw [if_neg e1, if_neg e2, if_neg e3, if_neg e4, if_neg e5, if_neg e6, if_neg e7, if_neg e8]
    refine ⟨_, d 1 (by omega), pm_At_ok S1.p.1.1 (fun mm hm hmn k2 u2 => ⟨_, _, _, _, _, _, _, _, _, _, _, _, rfl, ?_⟩) fun hn k2 u2 => ⟨_, _, _, _, _, _, _, _, _, _, _, _, rfl, ?_⟩⟩
    · have S2 := S1.trans (Stp.quiet S1.p u2)
      obtain ⟨w3, N3⟩ := pg_lay k2 (s.pg mm)
      have S3 := S2.trans (Stp.new S2.p N3)
      obtain ⟨f0, f1, f2⟩ := rb_c S3.p.1.2.1.1
      have g1 := Blk.cell S3.p.1.2.1.2.1.1 (i := 1) (by omega)
      refine ⟨w3, _, f0, _, _, _, f1, _, _, _, f2, _, g1, r4_Is_ok fun k4 u4 => ⟨_, rfl, ?_⟩⟩
      have S4 := S3.trans (Stp.quiet S3.p u4)
      obtain ⟨x0, x1, x2⟩ := rb_c S4.p.1.2.1.1
      have y1 := Blk.cell S4.p.1.2.1.2.1.1 (i := 1) (by omega)
      rw [show pof o 1 = .int .i64 (mm : Int) from congrArg (Value.int .i64) hm] at y1
      obtain ⟨b, eb, hc⟩ := ref_page S4.p.1.1.2.1 hmn
      rw [decide_eq_true (show 0 ≤ o.page ∧ o.page < s.n by omega)]
      refine iF rfl ?_
      intro J59 k59
      refine ⟨_, x0, _, _, _, x1, _, _, _, x2, ?_⟩
      intro J60 k60
      have x1' := x1
      rw [eb] at x1'
      refine qT rfl (pgR_ld S4.p.2.1 ⟨_, _, _, x1', _, y1, _, rfl, by omega, by omega, ?_⟩)
      simp only [add_mk, Int.toNat_natCast, Nat.mul_one, Nat.zero_add]
      refine ld_page (b := b) (o := mm * 11) (P := s.pg mm) hc (k60 _ _ (qT ((eq_page (s.pg mm) (s.pg mm)).trans (by simp)) ⟨_, _, _, x1, pm_Pages_ok S4.p.1.1.1 ⟨_, rfl, ?_⟩⟩))
      obtain ⟨w6, S6⟩ := put _ _ _ _ _ s.o w.gp s.n w.gc w.qp s.o w.qc (S4.conv (fun P => P.1) fun _ e => .inl e)
      obtain ⟨z0, z1, z2⟩ := rb_c S6.p.2.1.1
      exact ⟨x1, x0, x1, x2, w6, z1, k59 _ _ _ (rd _ m w _ _ _ (beq_self_eq_true _) (by rw [eo]) (by rw [eo]) (by rw [eo]; exact S6))⟩
    · have S2 := S1.trans (Stp.quiet S1.p u2)
      obtain ⟨w3, N3⟩ := pg_lay k2 (fun _ => 0)
      have S3 := S2.trans (Stp.new S2.p N3)
      obtain ⟨f0, f1, f2⟩ := rb_c S3.p.1.2.1.1
      have g1 := Blk.cell S3.p.1.2.1.2.1.1 (i := 1) (by omega)
      refine ⟨w3, _, f0, _, _, _, f1, _, _, _, f2, _, g1, r4_Is_ok fun k4 u4 => ⟨_, rfl, ?_⟩⟩
      have S4 := S3.trans (Stp.quiet S3.p u4)
      obtain ⟨x0, x1, x2⟩ := rb_c S4.p.1.2.1.1
      rw [decide_eq_false hn]
      refine iT rfl ?_
      intro J53 k53
      refine ⟨_, x0, _, _, _, x1, _, _, _, x2, ?_⟩
      intro J54 k54
      refine qT rfl (pgR_ld S4.p.2.1 (k54 _ _ (qT ((eq_page (fun _ => 0) (fun _ => 0)).trans (by simp)) ⟨_, _, _, x1, pm_Pages_ok S4.p.1.1.1 ⟨_, rfl, ?_⟩⟩)))
      obtain ⟨w6, S6⟩ := put _ _ _ _ _ s.o w.gp s.n w.gc w.qp s.o w.qc (S4.conv (fun P => P.1) fun _ e => .inl e)
      obtain ⟨z0, z1, z2⟩ := rb_c S6.p.2.1.1
      exact ⟨x1, x0, x1, x2, w6, z1, k53 _ _ _ (rd _ m w _ _ _ (beq_self_eq_true _) (by rw [eo]) (by rw [eo]) (by rw [eo]; exact S6))⟩

end
end Go.Proofs.Ytnplkinakaepdaa

