/- LinksRanges. No condition. -/
import Derived.Test.YtfijahblggnbbaaKM
set_option linter.unusedSimpArgs false
set_option linter.unusedVariables false
set_option maxHeartbeats 1000000
namespace Go.Proofs.Ytfijahblggnbbaa
open Go.V Classical

def C2 (o : Int) : Cfg := ⟨65536, 2, o⟩
theorem C2_good {o : Int} (h : 0 ≤ o ∧ o ≤ 2) : (C2 o).Good := by
  have : o = 0 ∨ o = 1 ∨ o = 2 := by omega
  rcases this with rfl | rfl | rfl <;> exact good_iff.2 (by decide)

theorem sts_of {h h' : Heap} {p : Option Addr} {n : Nat} {f : Nat → St4} (H : n = 0 ∨ ∃ b off, p = some ⟨b, off, none⟩ ∧ ∀ i, i < n → ∀ j, j < 4 → cellAt h ⟨b, off + i * 4 + j, none⟩ = some ((f i).f j)) {R : Res} (N : New h h' R) :
    (andR R (stsR p n f)).P h' := by
  have H0 : (stsR p n f).P h := H
  refine ⟨N.p, (stsR p n f).st H0 N.u fun _ _ => id, fun b e e' => ?_⟩
  have := (stsR p n f).lt H0 b e'
  have := N.g b e
  omega

section
theorem LinksRanges_law {w : World} {a : Int} {p1 p2 p3 : Option Addr} {n1 cp1 n2 cp2 n3 cp3 : Nat} (ha : (Lit.int .i64 a).wf = true) (hs1 : Sts w.heap p1 n1 cp1) (hs2 : Sts w.heap p2 n2 cp2) (hs3 : Sts w.heap p3 n3 cp3) :
    CallV Try.prog w F.croftlaw3_LinksRanges [.int .i64 a, .slice p1 n1 cp1, .slice p2 n2 cp2, .slice p3 n3 cp3] w.heap fun r h' => r = .bool true ∧ Upd NoB w.heap h' := by
  obtain ⟨f1, hnc1, hc1, hr1, hu1⟩ := hs1
  obtain ⟨f2, hnc2, hc2, hr2, hu2⟩ := hs2
  obtain ⟨f3', hnc3, hc3, hr3, hu3⟩ := hs3
  have hfin : ∀ (h' : Heap) (R : Res), New w.heap h' R → (fun (r : Value) (h' : Heap) => r = Value.bool true ∧ Upd NoB w.heap h') (.bool true) h' := fun h' R N => ⟨rfl, N.u⟩
  generalize (fun (r : Value) (h' : Heap) => r = Value.bool true ∧ Upd NoB w.heap h') = K at hfin ⊢
  refine croftlaw3_LinksRanges.call ?_
  unfold croftlaw3_LinksRanges.vc
  intro J1 hJ1
  have main : ∀ o : Int, 0 ≤ o ∧ o ≤ 2 → J1 [.int .i64 o, .slice p1 n1 cp1, .slice p2 n2 cp2, .slice p3 n3 cp3] w.heap := by
    intro o ho
    refine hJ1 _ _ _ _ _ _ _ _ _ _ _ ?_
    refine regions_ok (c := C2 o) (C2_good ho) (by show (0 : Int) ≤ 65536 ∧ (65536 : Int) < _; omega) (m := 2) (by show ((2 : Nat) : Int) ≤ 2; omega) fun h1 s Z0 mp0 mc0 Y0 st0 hn0 N1 => ⟨_, _, _, _, _, _, _, rfl, ?_⟩
    obtain ⟨q2, A2⟩ := box4_ok h1 (.int .u64 0) (.int .u64 0) (.int .i64 0) (.slice none 0 0) (.int .u64 (C2 o).base) (.int .u64 ((C2 o).size : Int)) (.int .i64 (C2 o).limit) (.slice mp0 (2 * (C2 o).size) mc0) T.T_croftref2_Space
    obtain ⟨b8, hb8⟩ : ∃ b8, b8 = h1.size := ⟨_, rfl⟩
    rw [← hb8] at q2 A2 ⊢
    refine ⟨q2, fun J5 hJ5 => pF rfl (lives_ok fun h2 u2 => ⟨_, rfl, hJ5 _ _ (iF rfl ?_)⟩)⟩
    have N2 : New w.heap h2 (BR s (C2 o) Z0 mp0 mc0 Y0 b8 st0) := by
      have e : dF (C2 o) 2 mp0 mc0 = dF (C2 o) st0.n mp0 mc0 := by rw [hn0]
      show New w.heap h2 (andR (andR (spR s (C2 o) Z0 st0) (rsR (C2 o) mp0 mc0 Y0 st0)) (blkR b8 4 (dF (C2 o) st0.n mp0 mc0)))
      rw [← e]
      exact (N1.and A2).quiet u2
    intro J8 hJ8 L23 hL23
    -- behind the lists
    have plays : ∀ (lb0 : Nat → Nat) (bm bh : Nat) (h5 : Heap), New w.heap h5 (TR (BR s (C2 o) Z0 mp0 mc0 Y0 b8 st0) s bm bh 3 lb0) →
        J8 [.slice p1 n1 cp1, .slice p2 n2 cp2, .slice p3 n3 cp3, .pointer (some ⟨s, 0, none⟩), .pointer (some ⟨b8, 0, none⟩), .pointer (some ⟨bm, 0, none⟩), .pointer (some ⟨bh, 0, none⟩)] h5 := by
      intro lb0 bm bh h5 N5
      have N5 := three_end N5
      refine hJ8 _ _ _ _ _ _ _ _ _ _ _ _ _ _ fun J9 hJ9 L20 hL20 => ?_
      have last : ∀ (σ : PS) (h6 : Heap), New w.heap h6 (FR ⟨s, C2 o, Z0, mp0, mc0, Y0, bm, bh⟩ b8 σ) → J9 [.slice p2 n2 cp2, .slice p3 n3 cp3, .pointer (some ⟨s, 0, none⟩), .pointer (some ⟨b8, 0, none⟩), .pointer (some ⟨bm, 0, none⟩), .pointer (some ⟨bh, 0, none⟩)] h6 := by
        intro σ h6 N6
        have P6 := N6.p
        refine hJ9 _ _ _ _ _ _ _ _ _ _ _ ⟨by omega, by omega, _, q_mine P6.1 (k := 0) (by omega), links_List_All.call ?_⟩
        unfold links_List_All.vc
        have N7 := cell1_new h6 (.pointer (some ⟨σ.lb 0, 0, none⟩)) T.T_p_links_List
        obtain ⟨cb, hcb⟩ : ∃ cb, cb = h6.size := ⟨_, rfl⟩
        rw [← hcb] at N7 ⊢
        generalize Array.push h6 (.cells #[.pointer (some ⟨σ.lb 0, 0, none⟩)] T.T_p_links_List) = h7 at N7 ⊢
        have N8 : New w.heap h7 (andR (andR (psR ⟨s, C2 o, Z0, mp0, mc0, Y0, bm, bh⟩ σ) (cell1 cb (.pointer (some ⟨σ.lb 0, 0, none⟩)))) (blkR b8 4 (dF (C2 o) σ.st.n mp0 mc0))) :=
          (N6.and N7).conv (fun P => ⟨⟨P.1.1, P.2.1, fun b e e' => P.2.2 b (.inl e) e'⟩, P.1.2.1, fun b e e' => e.elim (fun e => P.1.2.2 b e e') fun e => P.2.2 b (.inr e') e⟩) fun b e => by
            rcases e with (e | e) | e
            · exact .inl (.inl e)
            · exact .inr e
            · exact .inl (.inr e)
        refine ⟨_, rfl, false, rfl, fun J11 hJ11 => pF rfl ?_⟩
        obtain ⟨d0, d1, d2, d3⟩ := f4_cells N8.p.2.1
        refine ⟨_, d0, _, d1, _, d2, _, _, _, d3, ?_⟩
        have PX := sts_of hr2 N8
        refine ranged_ok (W := ⟨s, C2 o, Z0, mp0, mc0, Y0, bm, bh⟩) hu2 (by omega) ⟨PX.1.1, PX.2.1, fun b e e' => PX.2.2 b (.inl e) e'⟩ fun σ1 h9 e1 e2 S9 => ⟨_, rfl, hJ11 _ _ fun J12 hJ12 => pF rfl ?_⟩
        have N9 : New w.heap h9 (andR (andR (psR ⟨s, C2 o, Z0, mp0, mc0, Y0, bm, bh⟩ σ1) (cell1 cb (.pointer (some ⟨σ1.lb 0, 0, none⟩)))) (blkR b8 4 (dF (C2 o) σ1.st.n mp0 mc0))) := by
          have := N8.stp (S9.left N8.p)
          rw [← e1] at this
          exact this
        obtain ⟨d0, d1, d2, d3⟩ := f4_cells N9.p.2.1
        refine ⟨_, d0, _, d1, _, d2, _, _, _, d3, ?_⟩
        have PY := sts_of hr3 N9
        refine ranged_ok (W := ⟨s, C2 o, Z0, mp0, mc0, Y0, bm, bh⟩) (cb := cb) hu3 (by omega) ⟨PY.1.1, PY.2.1, fun b e e' => PY.2.2 b (.inl e) e'⟩ fun σ2 h10 e3 e4 S10 => ⟨_, rfl, hJ12 _ _ (iF rfl ?_)⟩
        have N10 : New w.heap h10 (FR ⟨s, C2 o, Z0, mp0, mc0, Y0, bm, bh⟩ b8 σ2) := by
          have := N9.stp (S10.left N9.p)
          rw [← e3] at this
          exact this.conv (fun P => ⟨P.1.1, P.2.1, fun b e e' => P.2.2 b (.inl e) e'⟩) fun b e => e.elim (fun e => .inl (.inl e)) .inr
        have P10 := N10.p
        obtain ⟨d0, d1, d2, d3⟩ := fr_d P10
        refine ⟨_, _, _, d3, ?_⟩
        refine read_same P10 fun h11 bb N11 => ⟨_, _, _, _, rfl, fun J14 hJ14 => qT rfl ?_⟩
        have P11 := (N10.and N11).p
        obtain ⟨d0, d1, d2, d3⟩ := fr_d P11.1
        refine ⟨_, _, _, d3, same_bytes P11.1 P11.2.1 ⟨_, rfl, hJ14 _ _ fun J15 hJ15 => qT rfl ?_⟩⟩
        refine ⟨by omega, by omega, _, q_mine P11.1.1 (k := 0) (by omega), by omega, by omega, _, q_head P11.1.1 (k := 0) (by omega), links_Head_ok (q_list P11.1.1 (k := 0) (by omega)).1 ⟨_, rfl, q_head P11.1.1 (k := 0) (by omega), hJ15 _ _ ?_⟩⟩
        rw [beq_self_eq_true]
        exact hfin h11 _ (N10.and N11)
      have loop : ∀ (k i : Nat) (σ : PS) (h6 : Heap), i + k = n1 → New w.heap h6 (FR ⟨s, C2 o, Z0, mp0, mc0, Y0, bm, bh⟩ b8 σ) →
          L20 [.slice p1 n1 cp1, .slice p2 n2 cp2, .slice p3 n3 cp3, .pointer (some ⟨s, 0, none⟩), .pointer (some ⟨b8, 0, none⟩), .pointer (some ⟨bm, 0, none⟩), .pointer (some ⟨bh, 0, none⟩), .int .i64 ((i : Nat) : Int)] h6 := by
        intro k
        induction k with
        | zero =>
          intro i σ h6 hi N6
          refine hL20 _ _ _ _ _ _ _ _ _ _ _ _ _ _ _ (jand.2 ?_)
          rw [decide_eq_false (show ¬ ((i : Nat) : Int) < ((n1 : Nat) : Int) by omega)]
          exact ⟨fun e => (by cases e), fun _ => last σ h6 N6⟩
        | succ k ih =>
          intro i σ h6 hi N6
          refine hL20 _ _ _ _ _ _ _ _ _ _ _ _ _ _ _ (jand.2 ?_)
          rw [decide_eq_true (show ((i : Nat) : Int) < ((n1 : Nat) : Int) by omega)]
          by_cases h100 : ((i : Nat) : Int) < 100
          case neg =>
            rw [decide_eq_false h100]
            exact ⟨fun e => (by cases e), fun _ => last σ h6 N6⟩
          rw [decide_eq_true h100]
          refine ⟨fun _ => ?_, fun e => by cases e⟩
          have P6 := N6.p
          obtain ⟨d0, d1, d2, d3⟩ := fr_d P6
          rcases hr1 with hr | ⟨bb, off, rfl, hr⟩
          · omega
          have hri : ∀ j, j < 4 → cellAt h6 ⟨bb, off + i * 4 + j, none⟩ = some ((f1 i).f j) := fun j hj => cellAt_upd (hr i (by omega) j hj) N6.u id
          have ea : (⟨bb, off, none⟩ : Addr).add (Int.toNat ((i : Nat) : Int) * 4) = ⟨bb, off + i * 4, none⟩ := by simp only [add_mk, Int.toNat_natCast]
          obtain ⟨hp, hv⟩ := hu1 i (by omega)
          refine ⟨_, d0, _, d1, _, d2, _, _, _, d3, _, rfl, by omega, Int.ofNat_lt.2 (by omega), ?_⟩
          rw [ea]
          refine ⟨_, hri 0 (by omega), _, hri 1 (by omega), _, hri 2 (by omega), _, hri 3 (by omega), ?_⟩
          have next : ∀ (σ' : PS) (h7 : Heap), New w.heap h7 (FR ⟨s, C2 o, Z0, mp0, mc0, Y0, bm, bh⟩ b8 σ') →
              L20 [.slice (some ⟨bb, off, none⟩) n1 cp1, .slice p2 n2 cp2, .slice p3 n3 cp3, .pointer (some ⟨s, 0, none⟩), .pointer (some ⟨b8, 0, none⟩), .pointer (some ⟨bm, 0, none⟩), .pointer (some ⟨bh, 0, none⟩), .int .i64 (IntKind.wrap .i64 (((i : Nat) : Int) + 1))] h7 := by
            intro σ' h7 N7
            rw [IntWalk.i64_in _ (by omega)]
            have := ih (i + 1) σ' h7 (by omega) N7
            simpa using this
          exact fr_step (W := ⟨s, C2 o, Z0, mp0, mc0, Y0, bm, bh⟩) hp hv P6 fun σ' h7 e1 e2 S7 => ⟨_, rfl, iF rfl (next σ' h7 (N6.stp S7))⟩
      exact loop n1 0 _ h5 (by omega) N5
    -- the lists
    have N5 := three_start (T1 := T.T_arr3_p_links_List) (T2 := T.T_arr3_uint64) N2 s (fun _ => 0)
    obtain ⟨bm, hbm⟩ : ∃ bm, bm = h2.size := ⟨_, rfl⟩
    rw [← hbm] at N5 ⊢
    obtain ⟨bh, hbh⟩ : ∃ bh, bh = (h2.push (.cells #[.pointer none, .pointer none, .pointer none] T.T_arr3_p_links_List)).size := ⟨_, rfl⟩
    rw [← hbh] at N5 ⊢
    have mk : ∀ (k i : Nat) (lb : Nat → Nat) (h5 : Heap), i + k = 3 → New w.heap h5 (TR (BR s (C2 o) Z0 mp0 mc0 Y0 b8 st0) s bm bh i lb) →
        L23 [.slice p1 n1 cp1, .slice p2 n2 cp2, .slice p3 n3 cp3, .pointer (some ⟨s, 0, none⟩), .pointer (some ⟨b8, 0, none⟩), .pointer (some ⟨bm, 0, none⟩), .pointer (some ⟨bh, 0, none⟩), .int .i64 ((i : Nat) : Int)] h5 := by
      intro k
      induction k with
      | zero =>
        intro i lb h5 hi N5
        have : i = 3 := by omega
        subst this
        exact hL23 _ _ _ _ _ _ _ _ _ _ _ _ _ _ _ (iF rfl (plays lb bm bh h5 N5))
      | succ k ih =>
        intro i lb h5 hi N5
        refine hL23 _ _ _ _ _ _ _ _ _ _ _ _ _ _ _ (iT (decide_eq_true (by omega)) (links_New_ok (s := s) (by omega) fun h6 A6 => ⟨_, rfl, by omega, Int.ofNat_lt.2 (by omega), ?_⟩))
        obtain ⟨w6, N6⟩ := three_step (by omega) N5 A6
        have ea : (⟨bm, 0, none⟩ : Addr).add (Int.toNat ((i : Nat) : Int) * 1) = ⟨bm, i, none⟩ := by simp only [add_mk, Int.toNat_natCast, Nat.mul_one, Nat.zero_add]
        rw [ea]
        have cm : cellAt (setC h6 ⟨bm, i, none⟩ (.pointer (some ⟨h5.size, 0, none⟩))) ⟨bm, i, none⟩ = some (.pointer (some ⟨h5.size, 0, none⟩)) := by
          have := N6.p.2.1.1.1.cell (i := i) (by omega)
          rw [this]
          unfold mineP
          rw [if_pos (by omega), setf_same]
        refine ⟨w6, by omega, Int.ofNat_lt.2 (by omega), _, cm, iF rfl ?_⟩
        rw [IntWalk.i64_in _ (by omega)]
        have := ih (i + 1) _ _ (by omega) N6
        simpa using this
    exact mk 3 0 _ _ (by omega) N5
  refine jor.2 ?_
  by_cases hl : a < 0 ∨ a > 2
  · have e : (decide (a < 0) || decide (a > 2)) = true := by
      rcases hl with e | e
      · rw [decide_eq_true e]; rfl
      · rw [decide_eq_true e, Bool.or_true]
    rw [e]
    exact ⟨fun _ => main 0 (by omega), fun e => by cases e⟩
  · have e : (decide (a < 0) || decide (a > 2)) = false := by
      rw [decide_eq_false (by omega), decide_eq_false (by omega)]; rfl
    rw [e]
    exact ⟨fun e => (by cases e), fun _ => main a (by omega)⟩
end
end Go.Proofs.Ytfijahblggnbbaa
