/- Chapter 4: PageOpens. No condition. -/
import Derived.Test.YtnplkinakaepdaaR7
import Derived.Test.YtnplkinakaepdaaX4
set_option linter.unusedSimpArgs false
set_option linter.unusedVariables false
namespace Go.Proofs.Ytnplkinakaepdaa
open Go.V Classical

theorem mOpen_ok {n m : Nat} {pg : Nat → Nat → Int} {wn : Nat → Nat} {ws : Nat → Nat → Nat} {o : Int} (F : OpenOk o n pg m wn)
    (hb : ∀ i, i < n → (∀ j, j < 7 → -9223372036854775808 ≤ pg i j ∧ pg i j ≤ 9223372036854775807) ∧ ∀ j, j < 11 → 7 ≤ j → 0 ≤ pg i j ∧ pg i j < 18446744073709551616) : (mOpen m n pg wn ws).Ok := by
  have em : o.toNat = m := by have := F.mo; omega
  refine ⟨by have := F.o8; have := F.mo; show m ≤ 8; omega, F.n1, by have := F.al; rw [em] at this; exact this, fun k i hk hb' => ?_, fun i hi => ⟨(hb i hi).1, (hb i hi).2, ?_, (F.f i hi).c⟩⟩
  · have h1 : (decide (i < n / 2 ^ (k + 1)) && (decide (i / 64 < wn k) && (ws k (i / 64)).testBit (i % 64))) = true := hb'
    simp only [Bool.and_eq_true, decide_eq_true_eq] at h1
    exact h1.1
  · have h1 := (F.f i hi).o
    rw [em] at h1
    have := F.o8
    have := F.mo
    exact ⟨h1.1, by show pg i 1 ≤ 8; omega⟩

theorem PageOpens_law {w : World} {a0 : Int} {gp qp p : Option Addr} {n gc m qc k cp : Nat} (h0 : (Lit.int .i64 a0).wf = true) (hg : Pgs w.heap gp n gc) (hr : Prs w.heap qp m qc) (hs : POps w.heap p k cp) :
    CallV Try.prog w F.croftlaw4_PageOpens [.int .i64 a0, .slice gp n gc, .slice qp m qc, .slice p k cp] w.heap fun v h' => v = .bool true ∧ Upd NoB w.heap h' := by
  obtain ⟨o, hnc, hcp, hat, hok⟩ := hs
  obtain ⟨pg, hn1, hn2, hrow, hbd⟩ := hg
  obtain ⟨wp, wn, wc, ws, hm1, hm2, hpr⟩ := hr
  have hb : bd63 a0 := by
    have := Go.bounds_i64 h0
    unfold bd63
    omega
  refine croftlaw4_PageOpens.call ?_
  unfold croftlaw4_PageOpens.vc
  refine pg_awake_ok fun h13 u13 => ⟨true, rfl, iF rfl ?_⟩
  have J0 := (Hold.nil w.heap).quiet u13
  refine r4_Open_ok hb (by omega) (by omega) (hrow.upd u13 fun _ _ e => e.elim) (hpr.upd u13) (fun F h19 v19 N19 => ⟨_, _, _, _, _, _, _, _, rfl, ?_⟩) fun F h19 a p1 m1 c1 p2 m2 c2 u19 => ⟨_, _, _, _, _, _, _, _, rfl, ?_⟩
  · have I1 := J0.new N19
    have D := rb_zero h19
    obtain ⟨w1, S1⟩ := rb_set (o' := (mOpen m n pg wn ws).o) (gp' := v19.gp) (n' := (mOpen m n pg wn ws).n) (gc' := v19.gc) (qp' := v19.qp) (m' := (mOpen m n pg wn ws).o) (qc' := v19.qc) D.p
    have I2 := I1.new (D.stp S1)
    refine ⟨w1, ?_⟩
    refine pm_Open_ok (by omega) (by omega) (hrow.upd I2.u fun _ _ e => e.elim) (hpr.upd I2.u) (fun _ h26 mb w26 N26 => ⟨_, _, rfl, ?_⟩) fun hn => absurd F hn
    have I3 := I2.new N26
    refine iF rfl ?_
    intro J6 k6
    obtain ⟨c0, c1, c2⟩ := rb_c (I3.at 1)
    refine qT rfl ⟨_, c0, _, _, _, c1, _, _, _, c2, ?_⟩
    have I4 : Hold w.heap h26 [bothR mb (mOpen m n pg wn ws) w26 (mOpen m n pg wn ws) v19] := (I3.sub (.cons_cons _ (.cons _ (.cons_cons _ .slnil)))).join
    exact through_ok (mOpen_ok F hbd) (by omega) hat hok I4 fun h' u => ⟨_, rfl, k6 _ _ ⟨rfl, u⟩⟩
  · have I1 := J0.quiet u19
    have D : New h19 _ (rbR h19.size 0 none 0 0 none 0 0) := rb_zero h19
    have X := Stp.sets (b := h19.size) (n := 3) (f := rbF 0 none 0 0 none 0 0) D.p [.int .i64 a, .slice p1 m1 c1, .slice p2 m2 c2] 0 0 (g := fun j => if 0 + 0 ≤ j ∧ j < 0 + 0 + 3 then [.int .i64 a, .slice p1 m1 c1, .slice p2 m2 c2].getD (j - (0 + 0)) undef else rbF 0 none 0 0 none 0 0 j) (fun j hj => rfl)
    have I2 := (I1.new (D.stp X)).drop
    have wN : WrN (h19.push zmO) ⟨h19.size, 0, none⟩ 3 := (rb_set (o' := 0) (gp' := none) (n' := 0) (gc' := 0) (qp' := none) (m' := 0) (qc' := 0) D.p).1
    refine ⟨wN, ?_⟩
    refine pm_Open_ok (by omega) (by omega) (hrow.upd I2.u fun _ _ e => e.elim) (hpr.upd I2.u) (fun F' => absurd F' F) fun _ h26 u26 => ⟨_, _, rfl, ?_⟩
    exact iT rfl ⟨rfl, (I2.quiet u26).u⟩

end Go.Proofs.Ytnplkinakaepdaa
