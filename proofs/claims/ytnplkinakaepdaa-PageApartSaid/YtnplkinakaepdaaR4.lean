/- Chapter 4: PageApart. No condition. -/
import Derived.Test.YtnplkinakaepdaaR3
set_option linter.unusedSimpArgs false
set_option linter.unusedVariables false
namespace Go.Proofs.Ytnplkinakaepdaa
open Go.V Classical

set_option maxHeartbeats 2000000 in
theorem PageApart_law {w : World} {a0 : Int} {p q : Option Addr} {n1 cp1 n2 cp2 : Nat} (h0 : (Lit.int .i64 a0).wf = true) (hs1 : POps w.heap p n1 cp1) (hs2 : POps w.heap q n2 cp2) :
    CallV Try.prog w F.croftlaw4_PageApart [.int .i64 a0, .slice p n1 cp1, .slice q n2 cp2] w.heap fun v h' => v = .bool true ∧ Upd NoB w.heap h' := by
  obtain ⟨o1, hnc1, hcp1, hat1, hok1⟩ := hs1
  obtain ⟨o2, hnc2, hcp2, hat2, hok2⟩ := hs2
  have hb : bd63 a0 := by
    have := Go.bounds_i64 h0
    unfold bd63
    omega
  refine croftlaw4_PageApart.call ?_
  unfold croftlaw4_PageApart.vc
  refine pg_awake_ok fun h20 u20 => ⟨true, rfl, iF rfl ?_⟩
  refine pm_New_ok fun h23 mb1 m1 N23 => ⟨_, rfl, pm_New_ok fun h25 mb2 m2 N25 => ⟨_, rfl, r4_New_ok hb fun h27 w1 N27 => ⟨_, _, _, _, _, _, _, rfl, ?_⟩⟩⟩
  have I3 := ((((Hold.nil w.heap).quiet u20).new N23).new N25).new N27
  have D1 := rb_zero h27
  obtain ⟨v1, S1⟩ := rb_set (o' := (mNew a0).o) (gp' := w1.gp) (n' := (mNew a0).n) (gc' := w1.gc) (qp' := w1.qp) (m' := (mNew a0).o) (qc' := w1.qc) D1.p
  have I4 := I3.new (D1.stp S1)
  refine ⟨v1, r4_New_ok hb fun h29 w2 N29 => ⟨_, _, _, _, _, _, _, rfl, ?_⟩⟩
  have I5 := I4.new N29
  have D2 := rb_zero h29
  obtain ⟨v2, S2⟩ := rb_set (o' := (mNew a0).o) (gp' := w2.gp) (n' := (mNew a0).n) (gc' := w2.gc) (qp' := w2.qp) (m' := (mNew a0).o) (qc' := w2.qc) D2.p
  have I6 := I5.new (D2.stp S2)
  refine ⟨v2, ?_⟩
  have I7 := I6.perm (List.reverse_perm _)
  simp only [List.reverse_cons, List.reverse_nil, List.nil_append, List.cons_append] at I7
  have I8 : Hold w.heap _ [bothR mb1 (mNew a0) m1 (mNew a0) w1, mapR mb2 (mNew a0) m2, fillR h27.size (mNew a0) w1, refR (mNew a0) w2, fillR h29.size (mNew a0) w2] := (I7.perm (.cons _ (.swap _ _ _))).join
  have I9 : Hold w.heap _ [mapR mb2 (mNew a0) m2, bothR mb1 (mNew a0) m1 (mNew a0) w1, refR (mNew a0) w2, fillR h27.size (mNew a0) w1, fillR h29.size (mNew a0) w2] := (I8.perm (.cons _ (.cons _ (.swap _ _ _)))).swap
  have IA : Hold w.heap _ [bothR mb1 (mNew a0) m1 (mNew a0) w1, bothR mb2 (mNew a0) m2 (mNew a0) w2, fillR h27.size (mNew a0) w1, fillR h29.size (mNew a0) w2] := (I9.perm (.cons _ (.swap _ _ _))).join.swap
  have ok0 := mNew_ok a0
  generalize mNew a0 = s0 at *
  intro J10 k10 L20 hL20
  let g := w.heap
  let vs : Nat → Nat → Nat → List Value := fun x1 x2 i => [.slice p n1 cp1, .slice q n2 cp2, .pointer (some ⟨mb1, 0, none⟩), .pointer (some ⟨mb2, 0, none⟩), .pointer (some ⟨x1, 0, none⟩), .pointer (some ⟨x2, 0, none⟩), .int .i64 (i : Int)]
  have loop : ∀ (r i : Nat) (hx : Heap) (x1 x2 : Nat) (s1 s2 : MS) (m1 m2 : MW) (w1 w2 : RW), n1 ≤ i + r → n2 ≤ i + r → (i ≤ n1 ∨ i ≤ n2) → s1.Ok → s2.Ok → Hold g hx [bothR mb1 s1 m1 s1 w1, bothR mb2 s2 m2 s2 w2, fillR x1 s1 w1, fillR x2 s2 w2] → L20 (vs x1 x2 i) hx := by
    intro r
    induction r with
    | zero =>
      intro i hx x1 x2 s1 s2 m1 m2 w1 w2 hi1 hi2 hi ok1 ok2 I
      refine hL20 _ _ _ _ _ _ _ _ _ _ _ _ ?_
      intro J21 k21
      refine pF (by simp; omega) (k21 _ _ ⟨fun e => by simp at e; omega, fun _ => k10 _ _ _ _ _ ?_⟩)
      refine pm_Plain_ok ok1 (I.at 0 (R := bothR mb1 s1 m1 s1 w1)).1 fun h78 gp gc qp qc wp wc N1 => ⟨_, _, _, _, _, _, rfl, ?_⟩
      have I1 := I.new N1
      refine pm_Plain_ok ok2 (I1.at 2 (R := bothR mb2 s2 m2 s2 w2)).1 fun h83 gp' gc' qp' qc' wp' wc' N2 => ⟨_, _, _, _, _, _, rfl, ?_⟩
      have I2 := I1.new N2
      obtain ⟨f0, f1, f2⟩ := rb_c (I2.at 4 (R := fillR x1 s1 w1))
      obtain ⟨r1, r2⟩ := plain_in (I2.at 1 (R := plainR s1 gp gc qp qc wp wc))
      have r3 := sl_row (I2.at 2 (R := bothR mb1 s1 m1 s1 w1)).2.1.1
      have b1 := ok1.n1
      have b2 := ok2.n1
      simp only [add_mk, Nat.zero_add]
      refine ⟨_, _, _, f1, SamePages_ok (by omega) r1 r3 fun b hb => ⟨_, rfl, ?_⟩⟩
      have hb : b = true := hb.2 ⟨rfl, fun _ _ _ _ => rfl⟩
      subst hb
      intro J14 k14
      refine qT rfl ⟨_, f0, _, _, _, f1, _, _, _, f2, r4_SameWords_ok ok1 (I2.at 2 (R := bothR mb1 s1 m1 s1 w1)).2.1 r2 fun h93 u93 => ⟨_, rfl, k14 _ _ ?_⟩⟩
      intro J15 k15
      have I3 := I2.quiet u93
      obtain ⟨g0, g1, g2⟩ := rb_c (I3.at 5 (R := fillR x2 s2 w2))
      obtain ⟨r4, r5⟩ := plain_in (I3.at 0 (R := plainR s2 gp' gc' qp' qc' wp' wc'))
      have r6 := sl_row (I3.at 3 (R := bothR mb2 s2 m2 s2 w2)).2.1.1
      refine qT rfl ⟨_, _, _, g1, SamePages_ok (by omega) r4 r6 fun b hb => ⟨_, rfl, k15 _ _ ?_⟩⟩
      have hb : b = true := hb.2 ⟨rfl, fun _ _ _ _ => rfl⟩
      subst hb
      intro J16 k16
      exact qT rfl ⟨_, g0, _, _, _, g1, _, _, _, g2, r4_SameWords_ok ok2 (I3.at 3 (R := bothR mb2 s2 m2 s2 w2)).2.1 r5 fun h104 u104 => ⟨_, rfl, k16 _ _ ⟨rfl, (I3.quiet u104).u⟩⟩⟩
    | succ r ih =>
      intro i hx x1 x2 s1 s2 m1 m2 w1 w2 hi1 hi2 hi ok1 ok2 I
      refine hL20 _ _ _ _ _ _ _ _ _ _ _ _ ?_
      intro J21 k21
      have go : ∀ b : Bool, (b = true → (i < n1 ∨ i < n2)) → J21 b hx := fun b hbn => by
        refine k21 _ _ ⟨fun eb => ?_, fun _ => k10 _ _ _ _ _ ?_⟩
        case refine_2 =>
          refine pm_Plain_ok ok1 (I.at 0 (R := bothR mb1 s1 m1 s1 w1)).1 fun h78 gp gc qp qc wp wc N1 => ⟨_, _, _, _, _, _, rfl, ?_⟩
          have I1 := I.new N1
          refine pm_Plain_ok ok2 (I1.at 2 (R := bothR mb2 s2 m2 s2 w2)).1 fun h83 gp' gc' qp' qc' wp' wc' N2 => ⟨_, _, _, _, _, _, rfl, ?_⟩
          have I2 := I1.new N2
          obtain ⟨f0, f1, f2⟩ := rb_c (I2.at 4 (R := fillR x1 s1 w1))
          obtain ⟨r1, r2⟩ := plain_in (I2.at 1 (R := plainR s1 gp gc qp qc wp wc))
          have r3 := sl_row (I2.at 2 (R := bothR mb1 s1 m1 s1 w1)).2.1.1
          have b1 := ok1.n1
          have b2 := ok2.n1
          simp only [add_mk, Nat.zero_add]
          refine ⟨_, _, _, f1, SamePages_ok (by omega) r1 r3 fun b hb => ⟨_, rfl, ?_⟩⟩
          have hb : b = true := hb.2 ⟨rfl, fun _ _ _ _ => rfl⟩
          subst hb
          intro J14 k14
          refine qT rfl ⟨_, f0, _, _, _, f1, _, _, _, f2, r4_SameWords_ok ok1 (I2.at 2 (R := bothR mb1 s1 m1 s1 w1)).2.1 r2 fun h93 u93 => ⟨_, rfl, k14 _ _ ?_⟩⟩
          intro J15 k15
          have I3 := I2.quiet u93
          obtain ⟨g0, g1, g2⟩ := rb_c (I3.at 5 (R := fillR x2 s2 w2))
          obtain ⟨r4, r5⟩ := plain_in (I3.at 0 (R := plainR s2 gp' gc' qp' qc' wp' wc'))
          have r6 := sl_row (I3.at 3 (R := bothR mb2 s2 m2 s2 w2)).2.1.1
          refine qT rfl ⟨_, _, _, g1, SamePages_ok (by omega) r4 r6 fun b hb => ⟨_, rfl, k15 _ _ ?_⟩⟩
          have hb : b = true := hb.2 ⟨rfl, fun _ _ _ _ => rfl⟩
          subst hb
          intro J16 k16
          exact qT rfl ⟨_, g0, _, _, _, g1, _, _, _, g2, r4_SameWords_ok ok2 (I3.at 3 (R := bothR mb2 s2 m2 s2 w2)).2.1 r5 fun h104 u104 => ⟨_, rfl, k16 _ _ ⟨rfl, (I3.quiet u104).u⟩⟩⟩
        have hin := hbn eb
        have e1 : IntKind.wrap .i64 ((i : Int) + 1) = ((i + 1 : Nat) : Int) := by rw [IntKind.wrap_i64]; omega
        intro J22 k22 J23 k23
        have j22 : ∀ (hz : Heap) (s1 s2 : MS) (m1 m2 : MW) (w1 w2 : RW), s1.Ok → s2.Ok → Hold g hz [bothR mb1 s1 m1 s1 w1, bothR mb2 s2 m2 s2 w2, fillR x1 s1 w1, fillR x2 s2 w2] → J22 (vs x1 x2 i) hz := fun hz s1 s2 m1 m2 w1 w2 ok1 ok2 I => by
          refine k22 _ _ _ _ _ _ _ _ _ _ _ _ ?_
          rw [e1]
          exact ih (i + 1) hz x1 x2 s1 s2 m1 m2 w1 w2 (by omega) (by omega) (by omega) ok1 ok2 I
        have j23 : ∀ (hz : Heap) (s1 s2 : MS) (m1 m2 : MW) (w1 w2 : RW), s1.Ok → s2.Ok → Hold g hz [bothR mb1 s1 m1 s1 w1, bothR mb2 s2 m2 s2 w2, fillR x1 s1 w1, fillR x2 s2 w2] → J23 (vs x1 x2 i) hz := fun hz s1 s2 m1 m2 w1 w2 ok1 ok2 I => by
          refine k23 _ _ _ _ _ _ _ _ _ _ _ _ ⟨fun e => ?_, fun _ => j22 hz s1 s2 m1 m2 w1 w2 ok1 ok2 I⟩
          replace e : i < n2 := by simpa using e
          intro J24 k24
          have next : ∀ (hz : Heap) (bx : Nat) (m' : MW) (w' : RW), Hold g hz [fillR bx (pState s2 (o2 i)) w', bothR mb1 s1 m1 s1 w1, bothR mb2 (pState s2 (o2 i)) m' (pState s2 (o2 i)) w', fillR x1 s1 w1, fillR x2 s2 w2] → J24 [.slice p n1 cp1, .slice q n2 cp2, .pointer (some ⟨mb1, 0, none⟩), .pointer (some ⟨mb2, 0, none⟩), .pointer (some ⟨x1, 0, none⟩), .pointer (some ⟨x2, 0, none⟩), .int .i64 (i : Int), .pointer (some ⟨bx, 0, none⟩), .bool true] hz := fun hz bx m' w' I' => by
            obtain ⟨c0, c1, c2⟩ := rb_c (I'.at 0)
            obtain ⟨v1, S⟩ := rb_set (o' := (pState s2 (o2 i)).o) (gp' := w'.gp) (n' := (pState s2 (o2 i)).n) (gc' := w'.gc) (qp' := w'.qp) (m' := (pState s2 (o2 i)).o) (qc' := w'.qc) (I'.at 4 (R := fillR x2 s2 w2))
            have I2 := (I'.step 4 S).drop
            refine k24 _ _ _ _ _ _ _ _ _ _ _ _ _ _ (iF rfl ?_)
            simp only [add_mk, Nat.zero_add]
            exact ⟨_, c0, _, _, _, c1, _, _, _, c2, v1, j22 _ s1 _ m1 m' w1 w' ok1 (pState_ok ok2 (hok2 i (by omega))) I2⟩
          obtain ⟨b, off, eb, hc⟩ := hat2.one (i := i) (by omega)
          obtain ⟨c0, c1, c2⟩ := rb_c (I.at 3 (R := fillR x2 s2 w2))
          simp only [add_mk, Nat.zero_add, Int.toNat_natCast]
          refine ⟨_, c0, _, _, _, c1, _, _, _, c2, _, eb, by omega, by omega, ?_⟩
          simp only [add_mk, Nat.zero_add, Int.toNat_natCast]
          have c5 := hc _ I.u
          refine ⟨_, c5 0 (by omega), _, c5 1 (by omega), _, c5 2 (by omega), _, c5 3 (by omega), _, c5 4 (by omega), ?_, ?_⟩
          · refine played_ok (hok2 i (by omega)) ok2 (I.at 1 (R := bothR mb2 s2 m2 s2 w2)) fun h25 m' w' S => ⟨_, _, _, _, _, _, _, _, rfl, ?_⟩
            have I2 := (I.step 1 S).new (rb_zero h25)
            have c5 := hc _ I2.u
            obtain ⟨d0, d1, d2⟩ := rb_c (I2.at 4 (R := fillR x2 s2 w2))
            obtain ⟨w1, S1⟩ := rb_set (o' := (pState s2 (o2 i)).o) (gp' := w'.gp) (n' := (pState s2 (o2 i)).n) (gc' := w'.gc) (qp' := w'.qp) (m' := (pState s2 (o2 i)).o) (qc' := w'.qc) (I2.at 0)
            have I3 := I2.step 0 S1
            exact ⟨c5 0 (by omega), c5 1 (by omega), c5 2 (by omega), c5 3 (by omega), c5 4 (by omega), d0, d1, d2, w1, next _ _ m' w' I3⟩
          · have I2 := I.new (rb_zero _)
            have c5 := hc _ I2.u
            obtain ⟨d0, d1, d2⟩ := rb_c (I2.at 4 (R := fillR x2 s2 w2))
            refine ⟨c5 0 (by omega), c5 1 (by omega), c5 2 (by omega), c5 3 (by omega), c5 4 (by omega), d0, d1, d2, played_ok (hok2 i (by omega)) ok2 (I2.at 2 (R := bothR mb2 s2 m2 s2 w2)) fun h25 m' w' S => ⟨_, _, _, _, _, _, _, _, rfl, ?_⟩⟩
            have I3 := I2.step 2 S
            obtain ⟨w1, S1⟩ := rb_set (o' := (pState s2 (o2 i)).o) (gp' := w'.gp) (n' := (pState s2 (o2 i)).n) (gc' := w'.gc) (qp' := w'.qp) (m' := (pState s2 (o2 i)).o) (qc' := w'.qc) (I3.at 0)
            exact ⟨w1, next _ _ m' w' (I3.step 0 S1)⟩
        refine ⟨fun e => ?_, fun _ => j23 hx s1 s2 m1 m2 w1 w2 ok1 ok2 I⟩
        replace e : i < n1 := by simpa using e
        intro J32 k32
        have next : ∀ (hz : Heap) (bx : Nat) (m' : MW) (w' : RW), Hold g hz [fillR bx (pState s1 (o1 i)) w', bothR mb1 (pState s1 (o1 i)) m' (pState s1 (o1 i)) w', bothR mb2 s2 m2 s2 w2, fillR x1 s1 w1, fillR x2 s2 w2] → J32 [.slice p n1 cp1, .slice q n2 cp2, .pointer (some ⟨mb1, 0, none⟩), .pointer (some ⟨mb2, 0, none⟩), .pointer (some ⟨x1, 0, none⟩), .pointer (some ⟨x2, 0, none⟩), .int .i64 (i : Int), .pointer (some ⟨bx, 0, none⟩), .bool true] hz := fun hz bx m' w' I' => by
          obtain ⟨c0, c1, c2⟩ := rb_c (I'.at 0)
          obtain ⟨v1, S⟩ := rb_set (o' := (pState s1 (o1 i)).o) (gp' := w'.gp) (n' := (pState s1 (o1 i)).n) (gc' := w'.gc) (qp' := w'.qp) (m' := (pState s1 (o1 i)).o) (qc' := w'.qc) (I'.at 3 (R := fillR x1 s1 w1))
          have I2 := (I'.step 3 S).drop
          refine k32 _ _ _ _ _ _ _ _ _ _ _ _ _ _ (iF rfl ?_)
          simp only [add_mk, Nat.zero_add]
          exact ⟨_, c0, _, _, _, c1, _, _, _, c2, v1, j23 _ _ s2 m' m2 w' w2 (pState_ok ok1 (hok1 i (by omega))) ok2 I2⟩
        obtain ⟨b, off, eb, hc⟩ := hat1.one (i := i) (by omega)
        obtain ⟨c0, c1, c2⟩ := rb_c (I.at 2 (R := fillR x1 s1 w1))
        simp only [add_mk, Nat.zero_add, Int.toNat_natCast]
        refine ⟨_, c0, _, _, _, c1, _, _, _, c2, _, eb, by omega, by omega, ?_⟩
        simp only [add_mk, Nat.zero_add, Int.toNat_natCast]
        have c5 := hc _ I.u
        refine ⟨_, c5 0 (by omega), _, c5 1 (by omega), _, c5 2 (by omega), _, c5 3 (by omega), _, c5 4 (by omega), ?_, ?_⟩
        · refine played_ok (hok1 i (by omega)) ok1 (I.at 0 (R := bothR mb1 s1 m1 s1 w1)) fun h25 m' w' S => ⟨_, _, _, _, _, _, _, _, rfl, ?_⟩
          have I2 := (I.step 0 S).new (rb_zero h25)
          have c5 := hc _ I2.u
          obtain ⟨d0, d1, d2⟩ := rb_c (I2.at 3 (R := fillR x1 s1 w1))
          obtain ⟨w1, S1⟩ := rb_set (o' := (pState s1 (o1 i)).o) (gp' := w'.gp) (n' := (pState s1 (o1 i)).n) (gc' := w'.gc) (qp' := w'.qp) (m' := (pState s1 (o1 i)).o) (qc' := w'.qc) (I2.at 0)
          have I3 := I2.step 0 S1
          exact ⟨c5 0 (by omega), c5 1 (by omega), c5 2 (by omega), c5 3 (by omega), c5 4 (by omega), d0, d1, d2, w1, next _ _ m' w' I3⟩
        · have I2 := I.new (rb_zero _)
          have c5 := hc _ I2.u
          obtain ⟨d0, d1, d2⟩ := rb_c (I2.at 3 (R := fillR x1 s1 w1))
          refine ⟨c5 0 (by omega), c5 1 (by omega), c5 2 (by omega), c5 3 (by omega), c5 4 (by omega), d0, d1, d2, played_ok (hok1 i (by omega)) ok1 (I2.at 1 (R := bothR mb1 s1 m1 s1 w1)) fun h25 m' w' S => ⟨_, _, _, _, _, _, _, _, rfl, ?_⟩⟩
          have I3 := I2.step 1 S
          obtain ⟨w1, S1⟩ := rb_set (o' := (pState s1 (o1 i)).o) (gp' := w'.gp) (n' := (pState s1 (o1 i)).n) (gc' := w'.gc) (qp' := w'.qp) (m' := (pState s1 (o1 i)).o) (qc' := w'.qc) (I3.at 0)
          exact ⟨w1, next _ _ m' w' (I3.step 0 S1)⟩
      by_cases h1 : i < n1
      · exact pT (by simp; exact h1) (go true fun _ => by omega)
      · exact pF (by simp; omega) (go _ fun e => by simp at e; omega)
  exact loop (n1 + n2) 0 _ _ _ s0 s0 m1 m2 w1 w2 (by omega) (by omega) (by omega) ok0 ok0 IA

end Go.Proofs.Ytnplkinakaepdaa
