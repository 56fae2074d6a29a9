/- LinksShrinks. No condition. -/
import Derived.Test.YtfijahblggnbbaaKJ
set_option linter.unusedSimpArgs false
set_option linter.unusedVariables false
set_option maxHeartbeats 1000000
namespace Go.Proofs.Ytfijahblggnbbaa
open Go.V Classical

def C4 : Cfg := ⟨4096, 4, 0⟩
theorem C4_good : C4.Good := good_iff.2 (by decide)

def decU (st : Sto) : Sto × Int := if st.n = 0 then (st, 1) else (⟨st.n - 1, st.M⟩, 0)
def comU (c : Cfg) (st : Sto) : Sto × Int × Int := if (st.n : Int) < c.limit then (growS c st, c.base + (st.n * c.size : Nat), 0) else (st, 0, 2)

section
variable {w₀ : World} {h : Heap} {s : Nat} {c : Cfg} {Z Y : Nat → Prop} {mp : Option Addr} {mc : Nat} {st : Sto} {K : Value → Heap → Prop}

theorem decommit_ok (H : (spR s c Z st).P h) (hK : ∀ h', Stp h h' (spR s c Z st) (spR s c Z (decU st).1) → K (.int .i64 (decU st).2) h') :
    CallV Try.prog w₀ F.mem_Space_Decommit [.pointer (some ⟨s, 0, none⟩), .int .i64 1] h K := by
  refine mem_Decommit_ok (by omega) H (fun hn => ?_) fun m hm hmn h' u hs H' => ?_
  · have e : decU st = (st, 1) := by unfold decU; rw [if_pos (by omega)]
    rw [e] at hK
    exact hK h (Stp.refl H)
  · have e : decU st = (⟨st.n - 1, st.M⟩, 0) := by unfold decU; rw [if_neg (by omega)]
    rw [e] at hK
    have em : m = st.n - 1 := by omega
    subst em
    exact hK h' ⟨u, H', fun b e => .inl e⟩

theorem ref_decommit_ok (H : (rsR c mp mc Y st).P h)
    (hK : ∀ (mp' : Option Addr) (mc' : Nat) (Y' : Nat → Prop) (h' : Heap), Stp h h' (rsR c mp mc Y st) (rsR c mp' mc' Y' (decU st).1) → K (.tuple #[rsv c (decU st).1.n mp' mc', .int .i64 (decU st).2]) h') :
    CallV Try.prog w₀ F.croftref2_Decommit [rsv c st.n mp mc, .int .i64 1] h K := by
  refine ref2_Decommit_ok (by omega) H (fun hn h' u => ?_) fun m hm hmn h' mp' mc' Y' u hY H' => ?_
  · have e : decU st = (st, 1) := by unfold decU; rw [if_pos (by omega)]
    rw [e] at hK
    exact hK mp mc Y h' (Stp.quiet H u)
  · have e : decU st = (⟨st.n - 1, st.M⟩, 0) := by unfold decU; rw [if_neg (by omega)]
    rw [e] at hK
    have em : m = st.n - 1 := by omega
    subst em
    exact hK mp' mc' Y' h' ⟨u.mono fun _ e _ => e.elim, H', fun b e => .inr (hY b e)⟩

theorem commitU_ok (H : (spR s c Z st).P h) (hK : ∀ (Z' : Nat → Prop) (h' : Heap), Stp h h' (spR s c Z st) (spR s c Z' (comU c st).1) → K (.tuple #[.int .u64 (comU c st).2.1, .int .i64 (comU c st).2.2]) h') :
    CallV Try.prog w₀ F.mem_Space_Commit [.pointer (some ⟨s, 0, none⟩), .bool false] h K := by
  have hn := H.nl
  by_cases hl : (st.n : Int) < c.limit
  · have e : comU c st = (growS c st, c.base + (st.n * c.size : Nat), 0) := by unfold comU; rw [if_pos hl]
    rw [e] at hK
    exact commit_ok H hl hK
  · have e : comU c st = (st, 0, 2) := by unfold comU; rw [if_neg hl]
    rw [e] at hK
    exact mem_Commit_ok H (fun _ => hK Z h (Stp.refl H)) fun _ hl' => absurd hl' hl

theorem ref_commitU_ok (H : (rsR c mp mc Y st).P h)
    (hK : ∀ (mp' : Option Addr) (mc' : Nat) (Y' : Nat → Prop) (h' : Heap), Stp h h' (rsR c mp mc Y st) (rsR c mp' mc' Y' (comU c st).1) → K (.tuple #[rsv c (comU c st).1.n mp' mc', .int .u64 (comU c st).2.1, .int .i64 (comU c st).2.2]) h') :
    CallV Try.prog w₀ F.croftref2_Commit [rsv c st.n mp mc, .bool false] h K := by
  by_cases hl : (st.n : Int) < c.limit
  · have e : comU c st = (growS c st, c.base + (st.n * c.size : Nat), 0) := by unfold comU; rw [if_pos hl]
    rw [e] at hK
    exact ref_commit_ok H hl hK
  · have e : comU c st = (st, 0, 2) := by unfold comU; rw [if_neg hl]
    rw [e] at hK
    exact ref2_Commit_ok H (fun _ h' u => hK mp mc Y h' (Stp.quiet H u)) fun _ hl' => absurd hl' hl

/-- Program's space and the document's as they are, apart. -/
abbrev GR (s : Nat) (c : Cfg) (bm bh b8 : Nat) (Z : Nat → Prop) (mp : Option Addr) (mc : Nat) (Y : Nat → Prop) (lb : Nat → Nat) (hd : Nat → Int) (st st2 : Sto) (n : Nat) : Res :=
  andR (QR ⟨s, c, Z, mp, mc, Y, bm, bh⟩ lb lb hd hd st st2) (blkR b8 4 (dF c n mp mc))

theorem LinksShrinks_law {w : World} {p : Option Addr} {n cp : Nat} (hs : Sts w.heap p n cp) :
    CallV Try.prog w F.croftlaw3_LinksShrinks [.slice p n cp] w.heap fun r h' => r = .bool true ∧ Upd NoB w.heap h' := by
  obtain ⟨f, hnc, hc, hr, hu⟩ := hs
  have hfin : ∀ (h' : Heap) (R : Res), New w.heap h' R → (fun (r : Value) (h' : Heap) => r = Value.bool true ∧ Upd NoB w.heap h') (.bool true) h' := fun h' R N => ⟨rfl, N.u⟩
  generalize (fun (r : Value) (h' : Heap) => r = Value.bool true ∧ Upd NoB w.heap h') = K at hfin ⊢
  refine croftlaw3_LinksShrinks.call ?_
  unfold croftlaw3_LinksShrinks.vc
  obtain ⟨q0, N0⟩ := box3_ok w.heap (.int .u64 0) (.int .i64 0) (.int .i64 0) (.int .u64 4096) (.int .i64 4) (.int .i64 0) T.T_api_Config
  obtain ⟨k0, k1, k2⟩ := f3_cells N0.p
  refine ⟨q0, _, k0, _, k1, _, k2, ?_⟩
  generalize setCs (Array.push w.heap (.cells #[.int .u64 0, .int .i64 0, .int .i64 0] T.T_api_Config)) ⟨Array.size w.heap, 0, none⟩ 0 [.int .u64 4096, .int .i64 4, .int .i64 0] = h0 at N0 ⊢
  refine regions_ok (c := C4) C4_good (by show (0 : Int) ≤ 4096 ∧ (4096 : Int) < _; omega) (m := 4) (by decide) fun h1 s Z0 mp0 mc0 Y0 st0 hn0 A1 => ⟨_, _, _, _, _, _, _, rfl, ?_⟩
  have N1 : New w.heap h1 (andR (spR s C4 Z0 st0) (rsR C4 mp0 mc0 Y0 st0)) := (N0.and A1).conv (fun P => P.2.1) fun b e => .inr e
  obtain ⟨q2, A2⟩ := box4_ok h1 (.int .u64 0) (.int .u64 0) (.int .i64 0) (.slice none 0 0) (.int .u64 C4.base) (.int .u64 (C4.size : Int)) (.int .i64 C4.limit) (.slice mp0 (4 * C4.size) mc0) T.T_croftref2_Space
  have hb8 : ∃ b8, b8 = h1.size := ⟨_, rfl⟩
  obtain ⟨b8, hb8⟩ := hb8
  rw [← hb8] at q2 A2 ⊢
  refine ⟨q2, fun J6 hJ6 => pF rfl (lives_ok fun h2 u2 => ⟨_, rfl, hJ6 _ _ (iF rfl ?_)⟩)⟩
  have N2 : New w.heap h2 (BR s C4 Z0 mp0 mc0 Y0 b8 st0) := by
    have e : dF C4 4 mp0 mc0 = dF C4 st0.n mp0 mc0 := by rw [hn0]
    show New w.heap h2 (andR (andR (spR s C4 Z0 st0) (rsR C4 mp0 mc0 Y0 st0)) (blkR b8 4 (dF C4 st0.n mp0 mc0)))
    rw [← e]
    exact (N1.and A2).quiet u2
  intro J9 hJ9 L32 hL32
  -- behind the lists
  have plays : ∀ (lb0 : Nat → Nat) (bm bh : Nat) (h5 : Heap), New w.heap h5 (TR (BR s C4 Z0 mp0 mc0 Y0 b8 st0) s bm bh 3 lb0) → J9 [.slice p n cp, .pointer (some ⟨s, 0, none⟩), .pointer (some ⟨b8, 0, none⟩), .pointer (some ⟨bm, 0, none⟩), .pointer (some ⟨bh, 0, none⟩)] h5 := by
    intro lb0 bm bh h5 N5
    have N5 := three_end N5
    refine hJ9 _ _ _ _ _ _ _ _ fun J10 hJ10 L14 hL14 => ?_
    have last : ∀ (Z : Nat → Prop) (mp : Option Addr) (mc : Nat) (Y : Nat → Prop) (σ : PS) (h6 : Heap), New w.heap h6 (FR ⟨s, C4, Z, mp, mc, Y, bm, bh⟩ b8 σ) → J10 [.pointer (some ⟨s, 0, none⟩), .pointer (some ⟨b8, 0, none⟩)] h6 := by
      intro Z mp mc Y σ h6 N6
      have P6 := N6.p
      obtain ⟨d0, d1, d2, d3⟩ := fr_d P6
      refine hJ10 _ _ _ ⟨_, _, _, d3, ?_⟩
      refine read_same P6 fun h7 bb N7 => ⟨_, _, _, _, rfl, fun J12 hJ12 => qT rfl ?_⟩
      have P7 := (N6.and N7).p
      obtain ⟨d0, d1, d2, d3⟩ := fr_d P7.1
      exact ⟨_, _, _, d3, same_bytes P7.1 P7.2.1 ⟨_, rfl, hJ12 _ _ (hfin h7 _ (N6.and N7))⟩⟩
    have loop : ∀ (k i : Nat) (Z : Nat → Prop) (mp : Option Addr) (mc : Nat) (Y : Nat → Prop) (σ : PS) (h6 : Heap), i + k = n → New w.heap h6 (FR ⟨s, C4, Z, mp, mc, Y, bm, bh⟩ b8 σ) →
        L14 [.slice p n cp, .pointer (some ⟨s, 0, none⟩), .pointer (some ⟨b8, 0, none⟩), .pointer (some ⟨bm, 0, none⟩), .pointer (some ⟨bh, 0, none⟩), .int .i64 ((i : Nat) : Int)] h6 := by
      intro k
      induction k with
      | zero =>
        intro i Z mp mc Y σ h6 hi N6
        refine hL14 _ _ _ _ _ _ _ _ _ (jand.2 ?_)
        rw [decide_eq_false (show ¬ ((i : Nat) : Int) < ((n : Nat) : Int) by omega)]
        exact ⟨fun e => (by cases e), fun _ => last Z mp mc Y σ h6 N6⟩
      | succ k ih =>
        intro i Z mp mc Y σ h6 hi N6
        refine hL14 _ _ _ _ _ _ _ _ _ (jand.2 ?_)
        rw [decide_eq_true (show ((i : Nat) : Int) < ((n : Nat) : Int) by omega)]
        by_cases h200 : ((i : Nat) : Int) < 200
        case neg =>
          rw [decide_eq_false h200]
          exact ⟨fun e => (by cases e), fun _ => last Z mp mc Y σ h6 N6⟩
        rw [decide_eq_true h200]
        refine ⟨fun _ J16 hJ16 => ?_, fun e => by cases e⟩
        rcases hr with hr | ⟨bb, off, rfl, hr⟩
        · omega
        have hri : ∀ j, j < 4 → cellAt h6 ⟨bb, off + i * 4 + j, none⟩ = some ((f i).f j) := fun j hj => cellAt_upd (hr i (by omega) j hj) N6.u id
        have ea : (⟨bb, off, none⟩ : Addr).add (Int.toNat ((i : Nat) : Int) * 4) = ⟨bb, off + i * 4, none⟩ := by simp only [add_mk, Int.toNat_natCast]
        obtain ⟨hp, hv⟩ := hu i (by omega)
        have next : ∀ (Z : Nat → Prop) (mp : Option Addr) (mc : Nat) (Y : Nat → Prop) (σ : PS) (h7 : Heap), New w.heap h7 (FR ⟨s, C4, Z, mp, mc, Y, bm, bh⟩ b8 σ) →
            J16 [.slice (some ⟨bb, off, none⟩) n cp, .pointer (some ⟨s, 0, none⟩), .pointer (some ⟨b8, 0, none⟩), .pointer (some ⟨bm, 0, none⟩), .pointer (some ⟨bh, 0, none⟩), .int .i64 ((i : Nat) : Int)] h7 := by
          intro Z mp mc Y σ h7 N7
          refine hJ16 _ _ _ _ _ _ _ _ _ ?_
          rw [IntWalk.i64_in _ (by omega)]
          have := ih (i + 1) Z mp mc Y σ h7 (by omega) N7
          simpa using this
        refine ⟨_, rfl, by omega, Int.ofNat_lt.2 (by omega), ?_⟩
        rw [ea]
        obtain ⟨q7, A7⟩ := box4_ok h6 (.int .i64 0) (.int .i64 0) (.int .u64 0) (.int .u64 0) (.int .i64 (f i).op) (.int .i64 (f i).li) (.int .u64 (f i).p) (.int .u64 (f i).v) T.T_croftlaw3_Step
        refine ⟨_, hri 0 (by omega), _, hri 1 (by omega), _, hri 2 (by omega), _, hri 3 (by omega), q7, ?_⟩
        have hbx : ∃ bx, bx = h6.size := ⟨_, rfl⟩
        obtain ⟨bx, hbx⟩ := hbx
        rw [← hbx] at A7 ⊢
        generalize setCs (Array.push h6 (.cells #[.int .i64 0, .int .i64 0, .int .u64 0, .int .u64 0] T.T_croftlaw3_Step)) ⟨bx, 0, none⟩ 0 [.int .i64 (f i).op, .int .i64 (f i).li, .int .u64 (f i).p, .int .u64 (f i).v] = h7 at A7 ⊢
        have N7 := N6.quiet A7.u
        have P7 := N7.p
        obtain ⟨g0, g1, g2, g3⟩ := f4_cells A7.p
        obtain ⟨d0, d1, d2, d3⟩ := fr_d P7
        refine ⟨_, g0, fun e8 => ?_, fun e8 => ⟨_, g0, fun e9 => ?_, fun e9 => ?_⟩⟩
        · -- a region goes
          refine ⟨_, d0, _, d1, _, d2, _, _, _, d3, ref_decommit_ok P7.1.2.1.2.1 fun mp' mc' Y' h8 S8 => ⟨_, _, _, _, _, _, _, rfl, ?_⟩⟩
          have N8 : New w.heap h8 (andR (andR (andR (allR 3 fun i => lsR s (σ.lb i) (σ.hd i)) (spR s C4 Z σ.st)) (andR (andR (blkR bm 3 (mineF σ.lb)) (blkR bh 3 (headF σ.hd))) (rsR C4 mp' mc' Y' (decU σ.st).1))) (blkR b8 4 (dF C4 σ.st.n mp mc))) := N7.stp (((S8.right P7.1.2.1).right P7.1).left P7)
          obtain ⟨q9, A9⟩ := box4_ok h8 (.int .u64 0) (.int .u64 0) (.int .i64 0) (.slice none 0 0) (.int .u64 C4.base) (.int .u64 (C4.size : Int)) (.int .i64 C4.limit) (.slice mp' ((decU σ.st).1.n * C4.size) mc') T.T_croftref2_Space
          obtain ⟨g0, g1, g2, g3⟩ := f4_cells A9.p
          refine ⟨q9, _, g0, _, g1, _, g2, _, _, _, g3, ?_⟩
          generalize setCs (Array.push h8 (.cells #[.int .u64 0, .int .u64 0, .int .i64 0, .slice none 0 0] T.T_croftref2_Space)) ⟨Array.size h8, 0, none⟩ 0 [.int .u64 C4.base, .int .u64 (C4.size : Int), .int .i64 C4.limit, .slice mp' ((decU σ.st).1.n * C4.size) mc'] = h9 at A9 ⊢
          have N9 := N8.quiet A9.u
          obtain ⟨q10, S10⟩ := assign4 (h := h9) N9.p.2.1 (.int .u64 C4.base) (.int .u64 (C4.size : Int)) (.int .i64 C4.limit) (.slice mp' ((decU σ.st).1.n * C4.size) mc')
          refine ⟨q10, ?_⟩
          have N10 := N9.stp (S10.right N9.p)
          have P10 := N10.p
          refine decommit_ok P10.1.1.2.1 fun h11 S11 => ⟨_, rfl, iF (eq_b rfl) ?_⟩
          exact next Z mp' mc' Y' ⟨σ.lb, σ.hd, (decU σ.st).1⟩ h11 (N10.stp (((S11.right P10.1.1).left P10.1).left P10))
        · -- a region comes
          refine ⟨_, d0, _, d1, _, d2, _, _, _, d3, ref_commitU_ok P7.1.2.1.2.1 fun mp' mc' Y' h8 S8 => ⟨_, _, _, _, _, _, _, _, rfl, ?_⟩⟩
          have N8 : New w.heap h8 (andR (andR (andR (allR 3 fun i => lsR s (σ.lb i) (σ.hd i)) (spR s C4 Z σ.st)) (andR (andR (blkR bm 3 (mineF σ.lb)) (blkR bh 3 (headF σ.hd))) (rsR C4 mp' mc' Y' (comU C4 σ.st).1))) (blkR b8 4 (dF C4 σ.st.n mp mc))) := N7.stp (((S8.right P7.1.2.1).right P7.1).left P7)
          obtain ⟨q9, A9⟩ := box4_ok h8 (.int .u64 0) (.int .u64 0) (.int .i64 0) (.slice none 0 0) (.int .u64 C4.base) (.int .u64 (C4.size : Int)) (.int .i64 C4.limit) (.slice mp' ((comU C4 σ.st).1.n * C4.size) mc') T.T_croftref2_Space
          obtain ⟨g0, g1, g2, g3⟩ := f4_cells A9.p
          refine ⟨q9, _, g0, _, g1, _, g2, _, _, _, g3, ?_⟩
          generalize setCs (Array.push h8 (.cells #[.int .u64 0, .int .u64 0, .int .i64 0, .slice none 0 0] T.T_croftref2_Space)) ⟨Array.size h8, 0, none⟩ 0 [.int .u64 C4.base, .int .u64 (C4.size : Int), .int .i64 C4.limit, .slice mp' ((comU C4 σ.st).1.n * C4.size) mc'] = h9 at A9 ⊢
          have N9 := N8.quiet A9.u
          obtain ⟨q10, S10⟩ := assign4 (h := h9) N9.p.2.1 (.int .u64 C4.base) (.int .u64 (C4.size : Int)) (.int .i64 C4.limit) (.slice mp' ((comU C4 σ.st).1.n * C4.size) mc')
          refine ⟨q10, ?_⟩
          have N10 := N9.stp (S10.right N9.p)
          have P10 := N10.p
          refine commitU_ok P10.1.1.2.1 fun Z' h11 S11 => ⟨_, _, rfl, fun J29 hJ29 => pF (eq_b rfl) fun J30 hJ30 => ?_⟩
          have fin := next Z' mp' mc' Y' ⟨σ.lb, σ.hd, (comU C4 σ.st).1⟩ h11 (N10.stp (((S11.right P10.1.1).left P10.1).left P10))
          by_cases he : (comU C4 σ.st).2.2 = 0
          · exact qT (by simp [he]) (hJ30 _ _ (hJ29 _ _ (iF (eq_b rfl) fin)))
          · exact qF' (beq_false_of_ne he) (hJ30 _ _ (hJ29 _ _ (iF rfl fin)))
        · refine ⟨_, d0, _, d1, _, d2, _, _, _, d3, _, g0, _, g1, _, g2, _, g3, ?_⟩
          exact fr_step (W := ⟨s, C4, Z, mp, mc, Y, bm, bh⟩) hp hv P7 fun σ' h8 e1 e2 S8 => ⟨_, rfl, iF rfl (next Z mp mc Y σ' h8 (N7.stp S8))⟩
    exact loop n 0 Z0 mp0 mc0 Y0 _ h5 (by omega) N5
  -- the lists
  have N5 := three_start (T1 := T.T_arr3_p_links_List) (T2 := T.T_arr3_uint64) N2 s (fun _ => 0)
  have hbm : ∃ bm, bm = h2.size := ⟨_, rfl⟩
  obtain ⟨bm, hbm⟩ := hbm
  rw [← hbm] at N5 ⊢
  have hbh : ∃ bh, bh = (h2.push (.cells #[.pointer none, .pointer none, .pointer none] T.T_arr3_p_links_List)).size := ⟨_, rfl⟩
  obtain ⟨bh, hbh⟩ := hbh
  rw [← hbh] at N5 ⊢
  have mk : ∀ (k i : Nat) (lb : Nat → Nat) (h5 : Heap), i + k = 3 → New w.heap h5 (TR (BR s C4 Z0 mp0 mc0 Y0 b8 st0) s bm bh i lb) →
      L32 [.slice p n cp, .pointer (some ⟨s, 0, none⟩), .pointer (some ⟨b8, 0, none⟩), .pointer (some ⟨bm, 0, none⟩), .pointer (some ⟨bh, 0, none⟩), .int .i64 ((i : Nat) : Int)] h5 := by
    intro k
    induction k with
    | zero =>
      intro i lb h5 hi N5
      have : i = 3 := by omega
      subst this
      exact hL32 _ _ _ _ _ _ _ _ _ (iF rfl (plays lb bm bh h5 N5))
    | succ k ih =>
      intro i lb h5 hi N5
      refine hL32 _ _ _ _ _ _ _ _ _ (iT (decide_eq_true (by omega)) (links_New_ok (s := s) (by omega) fun h6 A6 => ⟨_, rfl, by omega, Int.ofNat_lt.2 (by omega), ?_⟩))
      obtain ⟨w6, N6⟩ := three_step (by omega) N5 A6
      have ea : (⟨bm, 0, none⟩ : Addr).add (Int.toNat ((i : Nat) : Int) * 1) = ⟨bm, i, none⟩ := by simp only [add_mk, Int.toNat_natCast, Nat.mul_one, Nat.zero_add]
      rw [ea]
      have cm : cellAt (setC h6 ⟨bm, i, none⟩ (.pointer (some ⟨h5.size, 0, none⟩))) ⟨bm, i, none⟩ = some (.pointer (some ⟨h5.size, 0, none⟩)) := by
        have := N6.p.2.1.1.1.cell (i := i) (by omega)
        rw [this]
        unfold mineP
        rw [if_pos (by omega), setf_same]
      refine ⟨w6, by omega, Int.ofNat_lt.2 (by omega), _, cm, iF rfl ?_⟩
      rw [IntWalk.i64_in _ (by omega)]
      have := ih (i + 1) _ _ (by omega) N6
      simpa using this
  exact mk 3 0 _ _ (by omega) N5
end
end Go.Proofs.Ytfijahblggnbbaa
