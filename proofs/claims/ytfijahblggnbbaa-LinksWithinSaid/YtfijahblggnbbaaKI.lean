/- LinksPlays. No condition. -/
import Derived.Test.YtfijahblggnbbaaKH
set_option linter.unusedSimpArgs false
set_option linter.unusedVariables false
set_option maxHeartbeats 1000000
namespace Go.Proofs.Ytfijahblggnbbaa
open Go.V Classical

def C3 : Cfg := ⟨4096, 3, 0⟩
theorem C3_good : C3.Good := good_iff.2 (by decide)
def S0 : Sto := ⟨0, fun _ => 0⟩

theorem rs_zero {h : Heap} {c : Cfg} (g : c.Good) : (rsR c none 0 NoB S0).P h := by
  refine ⟨g, ?_, .inl (by simp [S0]), by simp [S0], fun b e => e.elim, fun o ho => by simp [S0] at ho⟩
  have := g.l1
  show ((0 : Nat) : Int) ≤ c.limit
  omega

section
variable {w₀ : World} {h : Heap} {W : PW} {b8 : Nat} {σ : PS} {K : Value → Heap → Prop}

/-- The bytes at the end. -/
theorem read_same (P : (FR W b8 σ).P h) (hK : ∀ (h' : Heap) (bb : Nat), New h h' (blkR bb (σ.st.n * W.c.size) fun j => .int .u8 (σ.st.M j)) →
      K (.tuple #[.slice (some ⟨bb, 0, none⟩) (σ.st.n * W.c.size) (σ.st.n * W.c.size), .int .i64 0]) h') :
    CallV Try.prog w₀ F.mem_Space_Read [.pointer (some ⟨W.s, 0, none⟩), .int .u64 W.c.base, .int .u64 (IntKind.wrap .u64 ((σ.st.n * W.c.size : Nat) : Int))] h K := by
  have H : (spR W.s W.c W.Z σ.st).P h := P.1.1.2.1
  have hl := H.good.len H.nl
  have hb := H.good.b0
  have ew : IntKind.wrap .u64 ((σ.st.n * W.c.size : Nat) : Int) = ((σ.st.n * W.c.size : Nat) : Int) := by rw [IntKind.wrap_u64, Int.emod_eq_of_lt (by omega) (by omega)]
  rw [ew]
  have t : There W.c σ.st.n W.c.base ((σ.st.n * W.c.size : Nat) : Int) := .inr ⟨by omega, by omega⟩
  refine mem_Read_ok (by omega) (by omega) H (fun _ h' bb u hbb B => ?_) (fun t' => absurd t t')
  rw [Int.toNat_natCast] at B ⊢
  refine hK h' bb ⟨u, B.congr fun j hj => ?_, fun b e => by have e : b = bb := e; omega⟩
  rw [show (W.c.base - W.c.base).toNat + j = j by omega]

theorem same_bytes {bb : Nat} (P : (FR W b8 σ).P h) (B : (blkR bb (σ.st.n * W.c.size) fun j => .int .u8 (σ.st.M j)).P h) {c1 : Nat} (hK : K (.bool true) h) :
    CallV Try.prog w₀ F.croftref2_Same [.slice (some ⟨bb, 0, none⟩) (σ.st.n * W.c.size) c1, .slice W.mp (σ.st.n * W.c.size) W.mc] h K := by
  have H : (spR W.s W.c W.Z σ.st).P h := P.1.1.2.1
  have hl := H.good.len H.nl
  have R1 := Blk.row B 0 (σ.st.n * W.c.size) (by omega)
  simp only [Nat.zero_add] at R1
  have RR : Rs h W.c σ.st.n σ.st.M W.mp W.mc W.Y := P.1.2.1.2.1
  exact Same_true (by omega) R1 RR.rowR (fun i hi => rfl) hK

theorem fr_step {op li p v : Int} (hp : U64 p) (hv : U64 v) (P : (FR W b8 σ).P h) (hK : ∀ σ' h', σ'.st.n = σ.st.n → (op ≠ 6 ∨ kU li ≠ 0 → σ'.lb 0 = σ.lb 0) → Stp h h' (FR W b8 σ) (FR W b8 σ') → K (.bool true) h') :
    CallV Try.prog w₀ F.croftlaw3_step [.pointer (some ⟨W.s, 0, none⟩), rsv W.c σ.st.n W.mp W.mc, .pointer (some ⟨W.bm, 0, none⟩), .pointer (some ⟨W.bh, 0, none⟩), .agg #[.int .i64 op, .int .i64 li, .int .u64 p, .int .u64 v]] h K :=
  step_ok hp hv P.1 fun σ' h' e1 e2 S => hK σ' h' e1 e2 (by
    have e : dF W.c σ'.st.n W.mp W.mc = dF W.c σ.st.n W.mp W.mc := by rw [e1]
    show Stp h h' (FR W b8 σ) (andR (psR W σ') (blkR b8 4 (dF W.c σ'.st.n W.mp W.mc)))
    rw [e]
    exact S.left P)

theorem fr_d (P : (FR W b8 σ).P h) : cellAt h ⟨b8, 0, none⟩ = some (.int .u64 W.c.base) ∧ cellAt h ⟨b8, 1, none⟩ = some (.int .u64 (W.c.size : Int)) ∧ cellAt h ⟨b8, 2, none⟩ = some (.int .i64 W.c.limit) ∧ cellAt h ⟨b8, 3, none⟩ = some (.slice W.mp (σ.st.n * W.c.size) W.mc) := f4_cells P.2.1

theorem LinksPlays_law {w : World} {a : Int} {p : Option Addr} {n cp : Nat} (ha : (Lit.int .i64 a).wf = true) (hs : Sts w.heap p n cp) :
    CallV Try.prog w F.croftlaw3_LinksPlays [.int .i64 a, .slice p n cp] w.heap fun r h' => r = .bool true ∧ Upd NoB w.heap h' := by
  obtain ⟨f, hnc, hc, hr, hu⟩ := hs
  have hfin : ∀ (h' : Heap) (R : Res), New w.heap h' R → (fun (r : Value) (h' : Heap) => r = Value.bool true ∧ Upd NoB w.heap h') (.bool true) h' := fun h' R N => ⟨rfl, N.u⟩
  generalize (fun (r : Value) (h' : Heap) => r = Value.bool true ∧ Upd NoB w.heap h') = K at hfin ⊢
  refine croftlaw3_LinksPlays.call ?_
  unfold croftlaw3_LinksPlays.vc
  obtain ⟨q0, N0⟩ := box3_ok w.heap (.int .u64 0) (.int .i64 0) (.int .i64 0) (.int .u64 4096) (.int .i64 3) (.int .i64 0) T.T_api_Config
  obtain ⟨k0, k1, k2⟩ := f3_cells N0.p
  refine ⟨q0, _, k0, _, k1, _, k2, ?_⟩
  generalize setCs (Array.push w.heap (.cells #[.int .u64 0, .int .i64 0, .int .i64 0] T.T_api_Config)) ⟨Array.size w.heap, 0, none⟩ 0 [.int .u64 4096, .int .i64 3, .int .i64 0] = h0 at N0 ⊢
  refine mem_New_ok (by omega) (fun hn => absurd C3_good hn) fun _ h1 s u1 hs1 H1 => ⟨_, _, rfl, fun J4 hJ4 => pF rfl (hJ4 _ _ fun J5 hJ5 => pF rfl (lives_ok fun h2 u2 => ⟨_, rfl, hJ5 _ _ (iF rfl ?_)⟩))⟩
  have A1 : New h0 h1 (spR s C3 (fun x => x = s) S0) := ⟨u1, H1, fun b e => by have e : b = s := e; omega⟩
  have N2 := (N0.and A1).quiet u2
  obtain ⟨k0, k1, k2⟩ := f3_cells N2.p.1
  refine ⟨_, k0, _, k1, _, k2, ref2_New_ok C3_good fun h3 u3 => ⟨_, _, _, _, _, _, rfl, ?_⟩⟩
  have N3 : New w.heap h3 (spR s C3 (fun x => x = s) S0) := (N2.quiet u3).conv (fun P => P.2.1) fun b e => .inr e
  obtain ⟨q4, N4⟩ := box4_ok h3 (.int .u64 0) (.int .u64 0) (.int .i64 0) (.slice none 0 0) (.int .u64 C3.base) (.int .u64 (C3.size : Int)) (.int .i64 C3.limit) (.slice none (0 * C3.size) 0) T.T_croftref2_Space
  refine ⟨q4, fun J9 hJ9 L29 hL29 => ?_⟩
  have hb8 : ∃ b8, b8 = h3.size := ⟨_, rfl⟩
  obtain ⟨b8, hb8⟩ := hb8
  rw [← hb8]
  -- behind the regions
  have rest : ∀ (Z : Nat → Prop) (mp : Option Addr) (mc : Nat) (Y : Nat → Prop) (st : Sto) (h4 : Heap), New w.heap h4 (BR s C3 Z mp mc Y b8 st) → J9 [.slice p n cp, .pointer (some ⟨s, 0, none⟩), .pointer (some ⟨b8, 0, none⟩)] h4 := by
    intro Z mp mc Y st h4 N4
    refine hJ9 _ _ _ _ _ _ fun J12 hJ12 L26 hL26 => ?_
    -- the plays
    have plays : ∀ (lb : Nat → Nat) (bm bh : Nat) (h5 : Heap), New w.heap h5 (TR (BR s C3 Z mp mc Y b8 st) s bm bh 3 lb) → J12 [.slice p n cp, .pointer (some ⟨s, 0, none⟩), .pointer (some ⟨b8, 0, none⟩), .pointer (some ⟨bm, 0, none⟩), .pointer (some ⟨bh, 0, none⟩)] h5 := by
      intro lb bm bh h5 N5
      have N5 := three_end N5
      generalize hW : (⟨s, C3, Z, mp, mc, Y, bm, bh⟩ : PW) = W at N5
      refine hJ12 _ _ _ _ _ _ _ _ fun J13 hJ13 L23 hL23 => ?_
      have last : ∀ (σ : PS) (h6 : Heap), New w.heap h6 (FR W b8 σ) → J13 [.pointer (some ⟨s, 0, none⟩), .pointer (some ⟨b8, 0, none⟩), .pointer (some ⟨bm, 0, none⟩), .pointer (some ⟨bh, 0, none⟩)] h6 := by
        intro σ h6 N6
        have P6 := N6.p
        obtain ⟨d0, d1, d2, d3⟩ := fr_d P6
        refine hJ13 _ _ _ _ _ ⟨_, _, _, d3, ?_⟩
        have eb : W.c.base = 4096 := by rw [← hW]; rfl
        have es : W.s = s := by rw [← hW]
        have em : W.bm = bm := by rw [← hW]
        have eh : W.bh = bh := by rw [← hW]
        rw [← eb, ← es, ← em, ← eh]
        refine read_same P6 fun h7 bb N7 => ⟨_, _, _, _, rfl, fun J15 hJ15 => qT rfl ?_⟩
        have P7 := (N6.and N7).p
        obtain ⟨d0, d1, d2, d3⟩ := fr_d P7.1
        refine ⟨_, _, _, d3, same_bytes P7.1 P7.2.1 ⟨_, rfl, hJ15 _ _ fun J16 hJ16 => qT rfl ?_⟩⟩
        have m : ∀ k : Nat, k < 3 → cellAt h7 ⟨W.bm, k, none⟩ = some (.pointer (some ⟨σ.lb k, 0, none⟩)) := fun k hk => q_mine P7.1.1 hk
        have hh : ∀ k : Nat, k < 3 → cellAt h7 ⟨W.bh, k, none⟩ = some (.int .u64 (σ.hd k)) := fun k hk => q_head P7.1.1 hk
        refine ⟨by omega, by omega, _, m 0 (by omega), by omega, by omega, _, hh 0 (by omega), links_Head_ok (q_list P7.1.1 (k := 0) (by omega)).1 ⟨_, rfl, hh 0 (by omega), hJ16 _ _ fun J17 hJ17 => qT (beq_self_eq_true _) ?_⟩⟩
        refine ⟨by omega, by omega, _, m 1 (by omega), by omega, by omega, _, hh 1 (by omega), links_Head_ok (q_list P7.1.1 (k := 1) (by omega)).1 ⟨_, rfl, hh 1 (by omega), hJ17 _ _ fun J18 hJ18 => qT (beq_self_eq_true _) ?_⟩⟩
        refine ⟨by omega, by omega, _, m 2 (by omega), by omega, by omega, _, hh 2 (by omega), links_Head_ok (q_list P7.1.1 (k := 2) (by omega)).1 ⟨_, rfl, hh 2 (by omega), hJ18 _ _ ?_⟩⟩
        rw [beq_self_eq_true]
        exact hfin h7 _ (N6.and N7)
      have loop : ∀ (k i : Nat) (σ : PS) (h6 : Heap), i + k = n → New w.heap h6 (FR W b8 σ) →
          L23 [.slice p n cp, .pointer (some ⟨s, 0, none⟩), .pointer (some ⟨b8, 0, none⟩), .pointer (some ⟨bm, 0, none⟩), .pointer (some ⟨bh, 0, none⟩), .int .i64 ((i : Nat) : Int)] h6 := by
        intro k
        induction k with
        | zero =>
          intro i σ h6 hi N6
          refine hL23 _ _ _ _ _ _ _ _ _ (jand.2 ?_)
          rw [decide_eq_false (show ¬ ((i : Nat) : Int) < ((n : Nat) : Int) by omega)]
          exact ⟨fun e => (by cases e), fun _ => last σ h6 N6⟩
        | succ k ih =>
          intro i σ h6 hi N6
          refine hL23 _ _ _ _ _ _ _ _ _ (jand.2 ?_)
          rw [decide_eq_true (show ((i : Nat) : Int) < ((n : Nat) : Int) by omega)]
          by_cases h1000 : ((i : Nat) : Int) < 1000
          case neg =>
            rw [decide_eq_false h1000]
            exact ⟨fun e => (by cases e), fun _ => last σ h6 N6⟩
          rw [decide_eq_true h1000]
          refine ⟨fun _ => ?_, fun e => by cases e⟩
          have P6 := N6.p
          obtain ⟨d0, d1, d2, d3⟩ := fr_d P6
          rcases hr with hr | ⟨bb, off, rfl, hr⟩
          · omega
          have hri : ∀ j, j < 4 → cellAt h6 ⟨bb, off + i * 4 + j, none⟩ = some ((f i).f j) := fun j hj => cellAt_upd (hr i (by omega) j hj) N6.u id
          have ea : (⟨bb, off, none⟩ : Addr).add (Int.toNat ((i : Nat) : Int) * 4) = ⟨bb, off + i * 4, none⟩ := by simp only [add_mk, Int.toNat_natCast]
          obtain ⟨hp, hv⟩ := hu i (by omega)
          refine ⟨_, d0, _, d1, _, d2, _, _, _, d3, _, rfl, by omega, Int.ofNat_lt.2 (by omega), ?_⟩
          rw [ea]
          refine ⟨_, hri 0 (by omega), _, hri 1 (by omega), _, hri 2 (by omega), _, hri 3 (by omega), ?_⟩
          have es : W.s = s := by rw [← hW]
          have em : W.bm = bm := by rw [← hW]
          have eh : W.bh = bh := by rw [← hW]
          have next : ∀ (σ' : PS) (h7 : Heap), New w.heap h7 (FR W b8 σ') → L23 [.slice (some ⟨bb, off, none⟩) n cp, .pointer (some ⟨s, 0, none⟩), .pointer (some ⟨b8, 0, none⟩), .pointer (some ⟨bm, 0, none⟩), .pointer (some ⟨bh, 0, none⟩), .int .i64 (IntKind.wrap .i64 (((i : Nat) : Int) + 1))] h7 := by
            intro σ' h7 N7
            rw [IntWalk.i64_in _ (by omega)]
            have := ih (i + 1) σ' h7 (by omega) N7
            simpa using this
          rw [← es, ← em, ← eh] at next ⊢
          exact fr_step hp hv P6 fun σ' h7 e1 e2 S7 => ⟨_, rfl, iF rfl (next σ' h7 (N6.stp S7))⟩
      exact loop n 0 _ h5 (by omega) N5
    -- the lists
    have N5 := three_start (T1 := T.T_arr3_p_links_List) (T2 := T.T_arr3_uint64) N4 s (fun _ => 0)
    have hbm : ∃ bm, bm = h4.size := ⟨_, rfl⟩
    obtain ⟨bm, hbm⟩ := hbm
    rw [← hbm] at N5 ⊢
    have hbh : ∃ bh, bh = (h4.push (.cells #[.pointer none, .pointer none, .pointer none] T.T_arr3_p_links_List)).size := ⟨_, rfl⟩
    obtain ⟨bh, hbh⟩ := hbh
    rw [← hbh] at N5 ⊢
    have mk : ∀ (k i : Nat) (lb : Nat → Nat) (h5 : Heap), i + k = 3 → New w.heap h5 (TR (BR s C3 Z mp mc Y b8 st) s bm bh i lb) →
        L26 [.slice p n cp, .pointer (some ⟨s, 0, none⟩), .pointer (some ⟨b8, 0, none⟩), .pointer (some ⟨bm, 0, none⟩), .pointer (some ⟨bh, 0, none⟩), .int .i64 ((i : Nat) : Int)] h5 := by
      intro k
      induction k with
      | zero =>
        intro i lb h5 hi N5
        have : i = 3 := by omega
        subst this
        exact hL26 _ _ _ _ _ _ _ _ _ (iF rfl (plays lb bm bh h5 N5))
      | succ k ih =>
        intro i lb h5 hi N5
        refine hL26 _ _ _ _ _ _ _ _ _ (iT (decide_eq_true (by omega)) (links_New_ok (s := s) (by omega) fun h6 A6 => ⟨_, rfl, by omega, Int.ofNat_lt.2 (by omega), ?_⟩))
        obtain ⟨w6, N6⟩ := three_step (by omega) N5 A6
        have ea : (⟨bm, 0, none⟩ : Addr).add (Int.toNat ((i : Nat) : Int) * 1) = ⟨bm, i, none⟩ := by simp only [add_mk, Int.toNat_natCast, Nat.mul_one, Nat.zero_add]
        rw [ea]
        refine ⟨w6, ?_⟩
        rw [IntWalk.i64_in _ (by omega)]
        have := ih (i + 1) _ _ (by omega) N6
        simpa using this
    exact mk 3 0 _ _ (by omega) N5
  -- the regions
  have loop : ∀ (k i : Nat) (Z : Nat → Prop) (mp : Option Addr) (mc : Nat) (Y : Nat → Prop) (st : Sto) (h4 : Heap), i + k = 3 → st.n = i → New w.heap h4 (BR s C3 Z mp mc Y b8 st) →
      L29 [.int .i64 a, .slice p n cp, .pointer (some ⟨s, 0, none⟩), .pointer (some ⟨b8, 0, none⟩), .int .i64 ((i : Nat) : Int)] h4 := by
    intro k
    induction k with
    | zero =>
      intro i Z mp mc Y st h4 hi hn N4
      refine hL29 _ _ _ _ _ _ _ _ (jand.2 ?_)
      rw [decide_eq_false (show ¬ ((i : Nat) : Int) < 3 by omega), Bool.and_false]
      exact ⟨fun e => (by cases e), fun _ => rest Z mp mc Y st h4 N4⟩
    | succ k ih =>
      intro i Z mp mc Y st h4 hi hn N4
      refine hL29 _ _ _ _ _ _ _ _ (jand.2 ?_)
      by_cases hia : ((i : Nat) : Int) < a
      case neg =>
        rw [decide_eq_false hia, Bool.false_and]
        exact ⟨fun e => (by cases e), fun _ => rest Z mp mc Y st h4 N4⟩
      rw [decide_eq_true hia, decide_eq_true (show ((i : Nat) : Int) < 3 by omega)]
      refine ⟨fun _ => ?_, fun e => by cases e⟩
      have P4 := N4.p
      have hlim : (st.n : Int) < C3.limit := by show (st.n : Int) < 3; omega
      refine commit_ok P4.1.1 hlim fun Z' h5 S5 => ⟨_, _, rfl, ?_⟩
      have N5 := N4.stp ((S5.left P4.1).left P4)
      have P5 := N5.p
      obtain ⟨d0, d1, d2, d3⟩ := f4_cells P5.2.1
      refine ⟨_, d0, _, d1, _, d2, _, _, _, d3, ref_commit_ok P5.1.2.1 hlim fun mp' mc' Y' h6 S6 => ⟨_, _, _, _, _, _, _, _, rfl, ?_⟩⟩
      have N6 := N5.stp ((S6.right P5.1).left P5)
      obtain ⟨q7, A7⟩ := box4_ok h6 (.int .u64 0) (.int .u64 0) (.int .i64 0) (.slice none 0 0) (.int .u64 C3.base) (.int .u64 (C3.size : Int)) (.int .i64 C3.limit) (.slice mp' ((st.n + 1) * C3.size) mc') T.T_croftref2_Space
      obtain ⟨g0, g1, g2, g3⟩ := f4_cells A7.p
      refine ⟨q7, _, g0, _, g1, _, g2, _, _, _, g3, ?_⟩
      generalize setCs (Array.push h6 (.cells #[.int .u64 0, .int .u64 0, .int .i64 0, .slice none 0 0] T.T_croftref2_Space)) ⟨Array.size h6, 0, none⟩ 0 [.int .u64 C3.base, .int .u64 (C3.size : Int), .int .i64 C3.limit, .slice mp' ((st.n + 1) * C3.size) mc'] = h7 at A7 ⊢
      have N7 := N6.quiet A7.u
      obtain ⟨q8, S8⟩ := assign4 (h := h7) N7.p.2.1 (.int .u64 C3.base) (.int .u64 (C3.size : Int)) (.int .i64 C3.limit) (.slice mp' ((st.n + 1) * C3.size) mc')
      refine ⟨q8, iF rfl ?_⟩
      have N8 : New w.heap _ (BR s C3 Z' mp' mc' Y' b8 (growS C3 st)) := N7.stp (S8.right N7.p)
      rw [IntWalk.i64_in _ (by omega)]
      have := ih (i + 1) Z' mp' mc' Y' (growS C3 st) _ (by omega) (by show st.n + 1 = i + 1; omega) N8
      simpa using this
  refine loop 3 0 (fun x => x = s) none 0 NoB S0 _ (by omega) rfl ?_
  have N5 := N3.and N4
  rw [← hb8] at N5
  exact N5.conv (fun P => ⟨⟨P.1, rs_zero C3_good, fun b e e' => e'⟩, P.2.1, fun b e e' => e.elim (fun e => P.2.2 b e e') id⟩) fun b e => e.elim (fun e => e.elim .inl fun e => e.elim) .inr
end
end Go.Proofs.Ytfijahblggnbbaa
