/- Chapter 4: through: a script on both maps. PagePlays. No condition. -/
import Derived.Test.YtnplkinakaepdaaR2
set_option linter.unusedSimpArgs false
set_option linter.unusedVariables false
namespace Go.Proofs.Ytnplkinakaepdaa
open Go.V Classical

noncomputable def runsP (o : Nat → PO) (s : MS) : Nat → MS
  | 0 => s
  | k + 1 => pState (runsP o s k) (o k)

theorem runsP_ok {o : Nat → PO} {s : MS} (H : s.Ok) : ∀ {k : Nat}, (∀ i, i < k → (o i).Ok) → (runsP o s k).Ok
  | 0, _ => H
  | k + 1, ho => pState_ok (runsP_ok H (k := k) fun i hi => ho i (by omega)) (ho k (by omega))

section
variable {w₀ : World} {g h : Heap} {K : Value → Heap → Prop} {s : MS} {w : RW} {mb : Nat} {m : MW} {o : Nat → PO}

/-- A box of the document's map, filled. -/
abbrev fillR (b : Nat) (s : MS) (w : RW) : Res := rbR b s.o w.gp s.n w.gc w.qp s.o w.qc

theorem through_ok {p : Option Addr} {n cp : Nat} (hs : s.Ok) (hcp : n < 9223372036854775808) (hat : PoAt g p n o) (hok : ∀ i, i < n → (o i).Ok) (I0 : Hold g h [bothR mb s m s w]) (hK : ∀ h', Upd NoB g h' → K (.bool true) h') :
    CallV Try.prog w₀ F.croftlaw4_through [.pointer (some ⟨mb, 0, none⟩), refV s w, .slice p n cp] h K := by
  refine croftlaw4_through.call ?_
  unfold croftlaw4_through.vc
  have A := rb_new h s.o w.gp s.n w.gc w.qp s.o w.qc
  have I1 := I0.new A
  intro J2 k2 L7 hL7
  have loop : ∀ (r i : Nat) (hx : Heap) (m : MW) (w : RW), i + r = n → Hold g hx [fillR h.size (runsP o s i) w, bothR mb (runsP o s i) m (runsP o s i) w] → L7 [.pointer (some ⟨mb, 0, none⟩), .slice p n cp, .pointer (some ⟨h.size, 0, none⟩), .int .i64 (i : Int)] hx := by
    intro r
    induction r with
    | zero =>
      intro i hx m w hi I
      have : i = n := by omega
      subst this
      have sok : (runsP o s i).Ok := runsP_ok hs hok
      generalize runsP o s i = s at *
      refine hL7 _ _ _ _ _ _ _ (iF (by simp) (k2 _ _ _ ?_))
      refine pm_Plain_ok sok (I.at 1 (R := bothR mb s m s w)).1 fun h33 gp gc qp qc wp wc N2 => ⟨_, _, _, _, _, _, rfl, ?_⟩
      have I2 := I.new N2
      obtain ⟨f0, f1, f2⟩ := rb_c (I2.at 1)
      obtain ⟨r1, r2⟩ := plain_in N2.p
      have r3 := sl_row (I2.at 2 (R := bothR mb s m s w)).2.1.1
      have n1 := sok.n1
      simp only [add_mk, Nat.zero_add]
      refine ⟨_, _, _, f1, SamePages_ok (by omega) r1 r3 fun b hb => ⟨_, rfl, ?_⟩⟩
      have hb : b = true := hb.2 ⟨rfl, fun _ _ _ _ => rfl⟩
      subst hb
      intro J5 k5
      exact qT rfl ⟨_, f0, _, _, _, f1, _, _, _, f2, r4_SameWords_ok sok (I2.at 2 (R := bothR mb s m s w)).2.1 r2 fun h43 u43 => ⟨_, rfl, k5 _ _ (hK _ (I2.quiet u43).u)⟩⟩
    | succ r ih =>
      intro i hx m w hi I
      have sok : (runsP o s i).Ok := runsP_ok hs fun j hj => hok j (by omega)
      have ih' := fun hz m' w' => ih (i + 1) hz m' w' (by omega)
      simp only [runsP] at ih'
      generalize runsP o s i = s at *
      obtain ⟨b, off, eb, hc⟩ := hat.one (i := i) (by omega)
      have e1 : IntKind.wrap .i64 ((i : Int) + 1) = ((i + 1 : Nat) : Int) := by rw [IntKind.wrap_i64]; omega
      refine hL7 _ _ _ _ _ _ _ (iT (by simp; omega) ?_)
      intro J8 k8
      have next : ∀ (hz : Heap) (bx : Nat) (m' : MW) (w' : RW), Hold g hz [fillR bx (pState s (o i)) w', bothR mb (pState s (o i)) m' (pState s (o i)) w', fillR h.size s w] →
          J8 [.pointer (some ⟨mb, 0, none⟩), .slice p n cp, .pointer (some ⟨h.size, 0, none⟩), .int .i64 (i : Int), .pointer (some ⟨bx, 0, none⟩), .bool true] hz := fun hz bx m' w' I' => by
        obtain ⟨c0, c1, c2⟩ := rb_c (I'.at 0)
        obtain ⟨w1, S⟩ := rb_set (o' := (pState s (o i)).o) (gp' := w'.gp) (n' := (pState s (o i)).n) (gc' := w'.gc) (qp' := w'.qp) (m' := (pState s (o i)).o) (qc' := w'.qc) (I'.at 2)
        have I2 := I'.step 2 S
        have := ih' _ m' w' (((I2.sub (.cons _ (.cons_cons _ (.cons_cons _ .slnil)))).swap))
        refine k8 _ _ _ _ _ _ _ _ _ (iF rfl ?_)
        simp only [add_mk, Nat.zero_add]
        rw [e1]
        exact ⟨_, c0, _, _, _, c1, _, _, _, c2, w1, this⟩
      obtain ⟨c0, c1, c2⟩ := rb_c (I.at 0)
      simp only [add_mk, Nat.zero_add, Int.toNat_natCast]
      refine ⟨_, c0, _, _, _, c1, _, _, _, c2, _, eb, by omega, by omega, ?_⟩
      simp only [add_mk, Nat.zero_add, Int.toNat_natCast]
      have c5 := hc hx I.u
      refine ⟨_, c5 0 (by omega), _, c5 1 (by omega), _, c5 2 (by omega), _, c5 3 (by omega), _, c5 4 (by omega), ?_, ?_⟩
      · refine played_ok (hok i (by omega)) sok (I.at 1) fun h25 m' w' S => ⟨_, _, _, _, _, _, _, _, rfl, ?_⟩
        have I2 := (I.step 1 S).new (rb_zero h25)
        have c5 := hc _ I2.u
        obtain ⟨d0, d1, d2⟩ := rb_c (I2.at 1 (R := fillR h.size s w))
        obtain ⟨w1, S1⟩ := rb_set (o' := (pState s (o i)).o) (gp' := w'.gp) (n' := (pState s (o i)).n) (gc' := w'.gc) (qp' := w'.qp) (m' := (pState s (o i)).o) (qc' := w'.qc) (I2.at 0)
        have I3 := I2.step 0 S1
        refine ⟨c5 0 (by omega), c5 1 (by omega), c5 2 (by omega), c5 3 (by omega), c5 4 (by omega), d0, d1, d2, w1, next _ _ m' w' ?_⟩
        exact I3.perm (.cons _ (.swap _ _ _))
      · have I2 := I.new (rb_zero hx)
        have c5 := hc _ I2.u
        obtain ⟨d0, d1, d2⟩ := rb_c (I2.at 1 (R := fillR h.size s w))
        refine ⟨c5 0 (by omega), c5 1 (by omega), c5 2 (by omega), c5 3 (by omega), c5 4 (by omega), d0, d1, d2, played_ok (hok i (by omega)) sok (I2.at 2) fun h25 m' w' S => ⟨_, _, _, _, _, _, _, _, rfl, ?_⟩⟩
        have I3 := I2.step 2 S
        obtain ⟨w1, S1⟩ := rb_set (o' := (pState s (o i)).o) (gp' := w'.gp) (n' := (pState s (o i)).n) (gc' := w'.gc) (qp' := w'.qp) (m' := (pState s (o i)).o) (qc' := w'.qc) (I3.at 0)
        have I4 := I3.step 0 S1
        exact ⟨w1, next _ _ m' w' (I4.perm (.cons _ (.swap _ _ _)))⟩
  exact loop n 0 _ m w (by omega) I1

end

theorem PagePlays_law {w : World} {a0 : Int} {p : Option Addr} {n cp : Nat} (h0 : (Lit.int .i64 a0).wf = true) (hs : POps w.heap p n cp) :
    CallV Try.prog w F.croftlaw4_PagePlays [.int .i64 a0, .slice p n cp] w.heap fun v h' => v = .bool true ∧ Upd NoB w.heap h' := by
  obtain ⟨o, hnc, hcp, hat, hok⟩ := hs
  have hb : bd63 a0 := by
    have := Go.bounds_i64 h0
    unfold bd63
    omega
  refine croftlaw4_PagePlays.call ?_
  unfold croftlaw4_PagePlays.vc
  refine pg_awake_ok fun h5 u5 => ⟨true, rfl, ?_⟩
  intro J2 k2
  refine qT rfl (pm_New_ok fun h8 mb m8 N8 => ⟨_, rfl, r4_New_ok hb fun h10 w10 N10 => ⟨_, _, _, _, _, _, _, rfl, ?_⟩⟩)
  have I := (((Hold.nil w.heap).quiet u5).new N8).new N10
  exact through_ok (mNew_ok a0) (by omega) hat hok (I.swap.join) fun h' u => ⟨_, rfl, k2 _ _ ⟨rfl, u⟩⟩

end Go.Proofs.Ytnplkinakaepdaa
