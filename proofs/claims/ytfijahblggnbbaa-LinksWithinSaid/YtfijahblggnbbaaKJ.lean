/- croftlaw3: regions; LinksShrinks. No condition. -/
import Derived.Test.YtfijahblggnbbaaKI
set_option linter.unusedSimpArgs false
set_option linter.unusedVariables false
set_option maxHeartbeats 1000000
namespace Go.Proofs.Ytfijahblggnbbaa
open Go.V Classical

theorem box4c (h : Heap) (v0 v1 v2 v3 : Value) (T : TypeId) : New h (h.push (.cells #[v0, v1, v2, v3] T)) (blkR h.size 4 (f4 v0 v1 v2 v3)) :=
  (New.box h #[v0, v1, v2, v3] T).conv (fun P => Blk.congr P fun j hj => by
    have hj : j < 4 := hj
    have : j = 0 ∨ j = 1 ∨ j = 2 ∨ j = 3 := by omega
    rcases this with rfl | rfl | rfl | rfl <;> rfl) fun _ e => e

theorem box3c (h : Heap) (v0 v1 v2 : Value) (T : TypeId) : New h (h.push (.cells #[v0, v1, v2] T)) (blkR h.size 3 (f3 v0 v1 v2)) :=
  (New.box h #[v0, v1, v2] T).conv (fun P => Blk.congr P fun j hj => by
    have hj : j < 3 := hj
    have : j = 0 ∨ j = 1 ∨ j = 2 := by omega
    rcases this with rfl | rfl | rfl <;> rfl) fun _ e => e

section
variable {w₀ : World} {h : Heap} {K : Value → Heap → Prop}

theorem regions_ok {c : Cfg} (g : c.Good) (hb : U64 c.base) {m : Nat} (hm : (m : Int) ≤ c.limit)
    (hK : ∀ (h' : Heap) (s : Nat) (Z : Nat → Prop) (mp : Option Addr) (mc : Nat) (Y : Nat → Prop) (st : Sto), st.n = m → New h h' (andR (spR s c Z st) (rsR c mp mc Y st)) → K (.tuple #[.pointer (some ⟨s, 0, none⟩), rsv c m mp mc]) h') :
    CallV Try.prog w₀ F.croftlaw3_regions [.agg #[.int .u64 c.base, .int .i64 c.limit, .int .i64 c.order], .int .i64 ((m : Nat) : Int)] h K := by
  refine croftlaw3_regions.call ?_
  unfold croftlaw3_regions.vc
  have hlim := g.l64
  have N0 := box3c h (.int .u64 c.base) (.int .i64 c.limit) (.int .i64 c.order) T.T_api_Config
  generalize hh0 : Array.push h (.cells #[.int .u64 c.base, .int .i64 c.limit, .int .i64 c.order] T.T_api_Config) = h0 at N0 ⊢
  have N1 := box4c h0 (.int .u64 0) (.int .u64 0) (.int .i64 0) (.slice none 0 0) T.T_croftref2_Space
  have hbr : ∃ br, br = h0.size := ⟨_, rfl⟩
  obtain ⟨br, hbr⟩ := hbr
  rw [← hbr] at N1 ⊢
  generalize hh1 : Array.push h0 (.cells #[.int .u64 0, .int .u64 0, .int .i64 0, .slice none 0 0] T.T_croftref2_Space) = h1 at N1 ⊢
  have A1 := N0.and N1
  obtain ⟨k0, k1, k2⟩ := f3_cells A1.p.1
  refine ⟨_, k0, _, k1, _, k2, ref2_New_ok g fun h2 u2 => ⟨_, _, _, _, _, _, rfl, ?_⟩⟩
  have A2 := A1.quiet u2
  obtain ⟨q3, N3⟩ := box4_ok h2 (.int .u64 0) (.int .u64 0) (.int .i64 0) (.slice none 0 0) (.int .u64 c.base) (.int .u64 (c.size : Int)) (.int .i64 c.limit) (.slice none (0 * c.size) 0) T.T_croftref2_Space
  have hbd : ∃ bd, bd = h2.size := ⟨_, rfl⟩
  obtain ⟨bd, hbd⟩ := hbd
  rw [← hbd] at q3 N3 ⊢
  refine ⟨q3, ?_⟩
  generalize hh3 : setCs (Array.push h2 (.cells #[.int .u64 0, .int .u64 0, .int .i64 0, .slice none 0 0] T.T_croftref2_Space)) ⟨bd, 0, none⟩ 0 [.int .u64 c.base, .int .u64 (c.size : Int), .int .i64 c.limit, .slice none (0 * c.size) 0] = h3 at N3 ⊢
  have A3 := A2.and N3
  obtain ⟨k0, k1, k2⟩ := f3_cells A3.p.1.1
  refine ⟨_, k0, _, k1, _, k2, mem_New_ok hb (fun hn => absurd g hn) fun _ h4 s u4 hs H4 => ⟨_, _, rfl, jor.2 (iF rfl ?_)⟩⟩
  have N4 : New h3 h4 (spR s c (fun x => x = s) S0) := ⟨u4, H4, fun b e => by have e : b = s := e; omega⟩
  have A4 := A3.and N4
  have B4 : New h h4 (andR (BR s c (fun x => x = s) none 0 NoB bd S0) (blkR br 4 (f4 (.int .u64 0) (.int .u64 0) (.int .i64 0) (.slice none 0 0)))) := by
    refine A4.conv (fun P => ⟨⟨⟨P.2.1, rs_zero g, fun b e e' => e'⟩, P.1.2.1, fun b e e' => e.elim (fun e => P.2.2 b (.inr e') e) id⟩, P.1.1.2.1, fun b e e' => ?_⟩) fun b e => ?_
    · rcases e with (e | e) | e
      · exact P.2.2 b (.inl (.inr e')) e
      · exact e
      · exact P.1.2.2 b (.inr e') e
    · rcases e with ((e | e) | e) | e
      · exact .inr e
      · exact e.elim
      · exact .inl (.inr e)
      · exact .inl (.inl (.inr e))
  intro J9 hJ9 L11 hL11
  have loop : ∀ (k i : Nat) (Z : Nat → Prop) (mp : Option Addr) (mc : Nat) (Y : Nat → Prop) (st : Sto) (h4 : Heap), i + k = m → st.n = i → New h h4 (andR (BR s c Z mp mc Y bd st) (blkR br 4 (f4 (.int .u64 0) (.int .u64 0) (.int .i64 0) (.slice none 0 0)))) →
      L11 [.int .i64 ((m : Nat) : Int), .pointer (some ⟨br, 0, none⟩), .pointer (some ⟨bd, 0, none⟩), .pointer (some ⟨s, 0, none⟩), .int .i64 ((i : Nat) : Int)] h4 := by
    intro k
    induction k with
    | zero =>
      intro i Z mp mc Y st h4 hi hn N4
      have P4 := N4.p
      obtain ⟨d0, d1, d2, d3⟩ := f4_cells P4.1.2.1
      refine hL11 _ _ _ _ _ _ (iF (decide_eq_false (by omega)) (hJ9 _ _ _ _ ⟨_, d0, _, d1, _, d2, _, _, _, d3, ?_⟩))
      obtain ⟨q5, S5⟩ := assign4 (h := h4) P4.2.1 (.int .u64 c.base) (.int .u64 (c.size : Int)) (.int .i64 c.limit) (.slice mp (st.n * c.size) mc)
      obtain ⟨g0, g1, g2, g3⟩ := f4_cells S5.p
      refine ⟨q5, _, g0, _, g1, _, g2, _, _, _, g3, ?_⟩
      have e : st.n = m := by omega
      have := hK _ s Z mp mc Y st e ((N4.stp (S5.right P4)).conv (fun P => P.1.1) fun b e => .inl (.inl e))
      rw [e] at this ⊢
      exact this
    | succ k ih =>
      intro i Z mp mc Y st h4 hi hn N4
      refine hL11 _ _ _ _ _ _ (iT (decide_eq_true (by omega)) ?_)
      have P4 := N4.p
      have hlim : (st.n : Int) < c.limit := by omega
      refine commit_ok P4.1.1.1 hlim fun Z' h5 S5 => ⟨_, _, rfl, ?_⟩
      have N5 := N4.stp (((S5.left P4.1.1).left P4.1).left P4)
      have P5 := N5.p
      obtain ⟨d0, d1, d2, d3⟩ := f4_cells P5.1.2.1
      refine ⟨_, d0, _, d1, _, d2, _, _, _, d3, ref_commit_ok P5.1.1.2.1 hlim fun mp' mc' Y' h6 S6 => ⟨_, _, _, _, _, _, _, _, rfl, ?_⟩⟩
      have N6 := N5.stp (((S6.right P5.1.1).left P5.1).left P5)
      obtain ⟨q7, A7⟩ := box4_ok h6 (.int .u64 0) (.int .u64 0) (.int .i64 0) (.slice none 0 0) (.int .u64 c.base) (.int .u64 (c.size : Int)) (.int .i64 c.limit) (.slice mp' ((st.n + 1) * c.size) mc') T.T_croftref2_Space
      obtain ⟨g0, g1, g2, g3⟩ := f4_cells A7.p
      refine ⟨q7, _, g0, _, g1, _, g2, _, _, _, g3, ?_⟩
      generalize setCs (Array.push h6 (.cells #[.int .u64 0, .int .u64 0, .int .i64 0, .slice none 0 0] T.T_croftref2_Space)) ⟨Array.size h6, 0, none⟩ 0 [.int .u64 c.base, .int .u64 (c.size : Int), .int .i64 c.limit, .slice mp' ((st.n + 1) * c.size) mc'] = h7 at A7 ⊢
      have N7 := N6.quiet A7.u
      obtain ⟨q8, S8⟩ := assign4 (h := h7) N7.p.1.2.1 (.int .u64 c.base) (.int .u64 (c.size : Int)) (.int .i64 c.limit) (.slice mp' ((st.n + 1) * c.size) mc')
      refine ⟨q8, iF rfl ?_⟩
      have N8 := N7.stp ((S8.right N7.p.1).left N7.p)
      rw [IntWalk.i64_in _ (by omega)]
      have := ih (i + 1) Z' mp' mc' Y' (growS c st) _ (by omega) (by show st.n + 1 = i + 1; omega) N8
      simpa using this
  exact loop m 0 _ none 0 NoB S0 h4 (by omega) rfl B4
end
end Go.Proofs.Ytfijahblggnbbaa
