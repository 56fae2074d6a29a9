/- croftlaw5: rows of deeds; BuddyExactly. No condition. -/
import Derived.Test.YtnlcmfdmbgnpfaaBN
import Derived.Test.YtnlcmfdmbgnpfaaX3
set_option linter.unusedSimpArgs false
set_option linter.unusedVariables false
namespace Go.Proofs.Ytnlcmfdmbgnpfaa
open Go.V Classical

theorem wf_u64 {n : Int} (h : (Lit.int .u64 n).wf = true) : U64 n := by
  have := Go.bounds_u64 h; exact ⟨by omega, by omega⟩
theorem wf_i64 {n : Int} (h : (Lit.int .i64 n).wf = true) : -9223372036854775808 ≤ n ∧ n ≤ 9223372036854775807 := by
  have := Go.bounds_i64 h; omega

/-- Deeds that were handed in. -/
def Dds (h : Heap) (p : Option Addr) (n c : Nat) : Prop := ∃ f : Nat → Int × Int × Int, n ≤ c ∧ c < 9223372036854775808 ∧
  (n = 0 ∨ ∃ b off, p = some ⟨b, off, none⟩ ∧ ∀ i, i < n → cellAt h ⟨b, off + i * 3, none⟩ = some (.int .i64 (f i).1) ∧ cellAt h ⟨b, off + i * 3 + 1, none⟩ = some (.int .i64 (f i).2.1) ∧ cellAt h ⟨b, off + i * 3 + 2, none⟩ = some (.int .i64 (f i).2.2))

def ddTy : Nat → TypeDesc := fun _ => .int .i64

theorem ddRow {H : Type} {enc : TypeId × Value → H} {W : World} {t e : TypeId} {fs : Array Field} {p : Option Addr} {n c : Nat} {d : DataW H} {ps : List MemPlace} (ht : Try.prog.underlying t = some (.slice e)) (he : Try.prog.underlying e = some (.struct fs)) (hm : fs.size = 3) (hce : Try.prog.cellsOf e = 3)
    (hf : ∀ j, j < 3 → ∃ f, fs[j]? = some f ∧ f.offset = j ∧ Try.prog.cellsOf f.type = 1 ∧ Try.prog.underlying f.type = some (ddTy j))
    (h : DataW.Trod enc Try.prog W 0 (fun _ => true) true t (.slice p n c) d ps) : Dds W.heap p n c := by
  obtain ⟨h1, h2, h3⟩ := structRow ht he hm (by decide) hce hf h
  rcases h3 with h0 | ⟨b, off, rfl, hc⟩
  · exact ⟨fun _ => (0, 0, 0), h1, h2, .inl h0⟩
  · have each : ∀ i, ∃ o : Int × Int × Int, i < n → cellAt W.heap ⟨b, off + i * 3, none⟩ = some (.int .i64 o.1) ∧ cellAt W.heap ⟨b, off + i * 3 + 1, none⟩ = some (.int .i64 o.2.1) ∧ cellAt W.heap ⟨b, off + i * 3 + 2, none⟩ = some (.int .i64 o.2.2) := by
      intro i
      by_cases hi : i < n
      · obtain ⟨v0, c0, z0, rfl, w0⟩ := hc i hi 0 (by omega)
        obtain ⟨v1, c1, z1, rfl, w1⟩ := hc i hi 1 (by omega)
        obtain ⟨v2, c2, z2, rfl, w2⟩ := hc i hi 2 (by omega)
        exact ⟨(z0, z1, z2), fun _ => ⟨c0, c1, c2⟩⟩
      · exact ⟨(0, 0, 0), fun e => absurd e hi⟩
    exact ⟨fun i => (each i).choose, h1, h2, .inr ⟨b, off, rfl, fun i hi => (each i).choose_spec hi⟩⟩

theorem dd_at {h : Heap} {p : Option Addr} {n : Nat} {f : Nat → Int × Int × Int} (hr : n = 0 ∨ ∃ b off, p = some ⟨b, off, none⟩ ∧ ∀ i, i < n → cellAt h ⟨b, off + i * 3, none⟩ = some (.int .i64 (f i).1) ∧ cellAt h ⟨b, off + i * 3 + 1, none⟩ = some (.int .i64 (f i).2.1) ∧ cellAt h ⟨b, off + i * 3 + 2, none⟩ = some (.int .i64 (f i).2.2))
    {i : Nat} (hi : i < n) : ∃ a, p = some a ∧ ∀ h', Upd NoB h h' → cellAt h' (a.add (Int.toNat (i : Int) * 3)) = some (.int .i64 (f i).1) ∧ cellAt h' ((a.add (Int.toNat (i : Int) * 3)).add 1) = some (.int .i64 (f i).2.1) ∧ cellAt h' ((a.add (Int.toNat (i : Int) * 3)).add 2) = some (.int .i64 (f i).2.2) := by
  rcases hr with e | ⟨b, off, rfl, hr⟩
  · omega
  · obtain ⟨c0, c1, c2⟩ := hr i hi
    refine ⟨_, rfl, fun h' u => ⟨?_, ?_, ?_⟩⟩
    · rw [add_mk, Int.toNat_natCast, cellAt_upd c0 u fun e => e]
    · rw [add_mk, add_mk, Int.toNat_natCast, Nat.add_assoc, ← Nat.add_assoc, cellAt_upd c1 u fun e => e]
    · rw [add_mk, add_mk, Int.toNat_natCast, Nat.add_assoc, ← Nat.add_assoc, cellAt_upd c2 u fun e => e]

theorem BuddyExactly_law {w : World} {a b d : Int} {p : Option Addr} {n cp : Nat} (ha : (Lit.int .u64 a).wf = true) (hb : (Lit.int .i64 b).wf = true) (hd : (Lit.int .i64 d).wf = true) (hs : Dds w.heap p n cp) :
    CallV Try.prog w F.croftlaw5_BuddyExactly [.agg #[.int .u64 a, .int .i64 b, .int .i64 d], .slice p n cp] w.heap fun v h' => v = .bool true ∧ Upd NoB w.heap h' := by
  obtain ⟨f, hn, hc, hr⟩ := hs
  have hfin : ∀ h', Upd NoB w.heap h' → (fun (r : Value) (h' : Heap) => r = Value.bool true ∧ Upd NoB w.heap h') (.bool true) h' := fun h' u => ⟨rfl, u⟩
  generalize (fun (r : Value) (h' : Heap) => r = Value.bool true ∧ Upd NoB w.heap h') = K at hfin ⊢
  refine croftlaw5_BuddyExactly.call ?_
  unfold croftlaw5_BuddyExactly.vc
  have N0 := box3 w.heap (.int .u64 a) (.int .i64 b) (.int .i64 d) T.T_api_Config
  generalize Array.push w.heap (.cells #[.int .u64 a, .int .i64 b, .int .i64 d] T.T_api_Config) = h0 at N0 ⊢
  have I0 := (Hold.nil w.heap).new N0
  obtain ⟨k0, k1, k2⟩ := f3_cells (I0.at 0)
  refine ⟨_, k0, _, k1, _, k2, beginW (wf_u64 ha) fun h1 Q N1 => ⟨_, rfl, fun J3 hJ3 => pF rfl ?_⟩⟩
  have g5 := usual_good a b d
  generalize usualC a b d = c at N1 g5
  have W0 := wi0 g5
  have sn : (BU0 c).st.n = 0 := rfl
  generalize BU0 c = x0 at N1 W0 sn
  have I1 := I0.new N1
  refine lives_ok fun h2 u2 => ⟨_, rfl, hJ3 _ _ fun J4 hJ4 => pF rfl ?_⟩
  have I2 := I1.quiet u2
  have hlim : (x0.st.n : Int) < c.limit := by rw [sn]; have := g5.l1; omega
  refine comeW (fl := fun _ => []) (L := []) (Q := Q) W0 (I2.at 0) hlim fun x1 h3 Q1 eQ W1 eo en es _ S3 => ⟨_, rfl, hJ4 _ _ fun J5 hJ5 => pF rfl ?_⟩
  have I3 := I2.step 0 S3
  have e1 : x1.m.n - 2 ^ x1.m.o = x0.m.n := by rw [en, eo, Nat.add_sub_cancel]
  generalize hwb : Q.wb = wb at eQ hJ3 hJ4 hJ5 ⊢
  refine ⟨_, rfl, _, (by rw [← eQ]; exact wd_cell (I3.at 0) (i := 5) (by omega)), ?_⟩
  refine feedW W1 (I3.at 0) (by omega) (L' := []) (by rw [e1, eo]) fun x2 h4 W2 M2 S4 => ⟨_, rfl, hJ5 _ _ (iF rfl ?_)⟩
  have I4 := I3.step 0 S4
  have I4 : Hold w.heap h4 [wsR c Q1 x2, blkR w.heap.size 3 (f3 (.int .u64 a) (.int .i64 b) (.int .i64 d))] := I4
  have N5 := box1 h4 (.slice none 0 0) T.T_croftlaw5_book
  generalize Array.push h4 (.cells #[.slice none 0 0] T.T_croftlaw5_book) = h5 at N5 ⊢
  obtain ⟨bb, ebb⟩ : ∃ bb, bb = Array.size h4 := ⟨_, rfl⟩
  rw [← ebb] at N5 ⊢
  have I5 := ((I4.sub (rs' := [wsR c Q1 x2]) (.cons_cons _ (.cons _ .slnil))).new (R := slR none ([] : List Bk).length 0 3 (bkV [])) ⟨Upd.refl _ _, sl_nil _ _ _, fun b e => absurd e (sl_nil_fp b)⟩).swap.join.new N5
  obtain ⟨w6, S6⟩ := f1_set (I5.at 0) (.slice none 0 0)
  have I6 := I5.step 0 S6
  refine ⟨w6, fun J8 hJ8 L9 hL9 => ?_⟩
  generalize setC h5 ⟨bb, 0, none⟩ (.slice none 0 0) = h6 at I6 ⊢
  have loop : ∀ (k i : Nat) (hx : Heap) (Q : WW) (x : BU) (fl : Nat → List Nat) (l : List Bk) (bp : Option Addr) (bc : Nat), i + k = n → Q.wb = wb → WI c x fl (lvB l) → l.length ≤ i → Hold w.heap hx [blkR bb 1 fun _ => .slice bp l.length bc, wbR c Q x bp bc l] →
      L9 [.slice p n cp, .pointer (some ⟨wb, 0, none⟩), .pointer (some ⟨bb, 0, none⟩), .int .i64 (i : Int)] hx := by
    intro k
    induction k with
    | zero =>
      intro i hx Q x fl l bp bc hi hq W hl I
      exact hL9 _ _ _ _ _ _ _ fun J10 hJ10 => qF' (decide_eq_false (by omega)) (hJ10 _ _ (iF rfl (hJ8 _ (hfin _ I.u))))
    | succ k ih =>
      intro i hx Q x fl l bp bc hi hq W hl I
      refine hL9 _ _ _ _ _ _ _ fun J10 hJ10 => qT (decide_eq_true (by omega)) (hJ10 _ _ ?_)
      by_cases h300 : (i : Int) < 300
      case neg => exact iF (decide_eq_false h300) (hJ8 _ (hfin _ I.u))
      obtain ⟨ad, ead, hcell⟩ := dd_at hr (i := i) (by omega)
      have dc := hcell hx I.u
      have hwr : IntKind.wrap .i64 ((i : Int) + 1) = ((i + 1 : Nat) : Int) := by rw [IntKind.wrap_i64]; omega
      refine iT (decide_eq_true h300) fun J11 hJ11 => ⟨_, _, _, f1_cell (I.at 0), ad, ead, by omega, by omega, _, dc.1, _, dc.2.1, _, dc.2.2, ?_⟩
      have after : ∀ (nb : Nat) (hy : Heap) (Q' : WW) (x' : BU) (fl' : Nat → List Nat) (l' : List Bk) (bp' : Option Addr) (bc' : Nat) (v : Value), Q'.wb = wb → WI c x' fl' (lvB l') → l'.length ≤ i + 1 →
          Hold w.heap hy [blkR nb 1 fun _ => .slice bp' l'.length bc', blkR bb 1 fun _ => v, wbR c Q' x' bp' bc' l'] → J11 [.slice p n cp, .pointer (some ⟨wb, 0, none⟩), .pointer (some ⟨bb, 0, none⟩), .int .i64 (i : Int), .pointer (some ⟨nb, 0, none⟩), .bool true] hy := by
        intro nb hy Q' x' fl' l' bp' bc' v hq' W' hl' I'
        obtain ⟨w9, S9⟩ := f1_set (I'.at 1) (.slice bp' l'.length bc')
        have I9 := I'.step 1 S9
        refine hJ11 _ _ _ _ _ _ _ _ _ (iF rfl ⟨_, _, _, f1_cell (I'.at 0), w9, ?_⟩)
        rw [hwr]
        exact ih (i + 1) _ Q' x' fl' l' bp' bc' (by omega) hq' W' hl' I9.drop
      rw [← hq]
      refine ⟨?_, ?_⟩
      · refine do_ok W (by omega) (I.at 1) fun x' fl' l' Q' h7 bp' bc' eq' W' _ hl' S7 => ⟨_, _, _, _, rfl, ?_⟩
        have I7 := I.step 1 S7
        have N8 := box1 h7 (.slice none 0 0) T.T_croftlaw5_book
        generalize Array.push h7 (.cells #[.slice none 0 0] T.T_croftlaw5_book) = h8 at N8 ⊢
        have I8 := I7.new N8
        have dc := hcell h8 I8.u
        obtain ⟨w9, S9⟩ := f1_set (I8.at 0) (.slice bp' l'.length bc')
        have I9 := I8.step 0 S9
        rw [hq]
        exact ⟨dc.1, dc.2.1, dc.2.2, f1_cell (I8.at 1), w9, after _ _ Q' x' fl' l' bp' bc' _ (eq'.trans hq) W' (by omega) I9⟩
      · have N8 := box1 hx (.slice none 0 0) T.T_croftlaw5_book
        generalize Array.push hx (.cells #[.slice none 0 0] T.T_croftlaw5_book) = h8 at N8 ⊢
        have I8 := I.new N8
        have dc := hcell h8 I8.u
        refine ⟨dc.1, dc.2.1, dc.2.2, f1_cell (I8.at 1), ?_⟩
        refine do_ok W (by omega) (I8.at 2) fun x' fl' l' Q' h7 bp' bc' eq' W' _ hl' S7 => ⟨_, _, _, _, rfl, ?_⟩
        have I7 := I8.step 2 S7
        obtain ⟨w9, S9⟩ := f1_set (I7.at 0) (.slice bp' l'.length bc')
        have I9 := I7.step 0 S9
        rw [hq]
        exact ⟨w9, after _ _ Q' x' fl' l' bp' bc' _ (eq'.trans hq) W' (by omega) I9⟩
  exact loop n 0 h6 Q1 x2 _ [] none 0 (by omega) eQ W2 (Nat.le_refl _) I6
end Go.Proofs.Ytnlcmfdmbgnpfaa
