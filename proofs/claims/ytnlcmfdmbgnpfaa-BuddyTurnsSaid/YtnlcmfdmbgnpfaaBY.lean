/- croftlaw5: BuddyTurns. No condition. -/
import Derived.Test.YtnlcmfdmbgnpfaaBW
set_option linter.unusedSimpArgs false
set_option linter.unusedVariables false
namespace Go.Proofs.Ytnlcmfdmbgnpfaa
open Go.V Classical

theorem BuddyTurns_law {w : World} {a b d a' b' d' : Int} {p q : Option Addr} {n cp m cq : Nat} (ha : (Lit.int .u64 a).wf = true) (hb : (Lit.int .i64 b).wf = true) (hd : (Lit.int .i64 d).wf = true) (ha' : (Lit.int .u64 a').wf = true) (hb' : (Lit.int .i64 b').wf = true) (hd' : (Lit.int .i64 d').wf = true) (hs : Dds w.heap p n cp) (hs' : Bls w.heap q m cq) :
    CallV Try.prog w F.croftlaw5_BuddyTurns [.agg #[.int .u64 a, .int .i64 b, .int .i64 d], .agg #[.int .u64 a', .int .i64 b', .int .i64 d'], .slice p n cp, .slice q m cq] w.heap fun v h' => v = .bool true ∧ Upd NoB w.heap h' := by
  obtain ⟨f, hn, hc, hr⟩ := hs
  obtain ⟨f', hn', hc', hr'⟩ := hs'
  have hfin : ∀ h', Upd NoB w.heap h' → (fun (r : Value) (h' : Heap) => r = Value.bool true ∧ Upd NoB w.heap h') (.bool true) h' := fun h' u => ⟨rfl, u⟩
  generalize (fun (r : Value) (h' : Heap) => r = Value.bool true ∧ Upd NoB w.heap h') = K at hfin ⊢
  refine croftlaw5_BuddyTurns.call ?_
  unfold croftlaw5_BuddyTurns.vc
  have N0 := box3 w.heap (.int .u64 a) (.int .i64 b) (.int .i64 d) T.T_api_Config
  generalize Array.push w.heap (.cells #[.int .u64 a, .int .i64 b, .int .i64 d] T.T_api_Config) = h0 at N0 ⊢
  have N0' := box3 h0 (.int .u64 a') (.int .i64 b') (.int .i64 d') T.T_api_Config
  generalize Array.push h0 (.cells #[.int .u64 a', .int .i64 b', .int .i64 d'] T.T_api_Config) = h0' at N0' ⊢
  have I0 := ((Hold.nil w.heap).new N0).new N0'
  obtain ⟨k0, k1, k2⟩ := f3_cells (I0.at 1)
  refine ⟨_, k0, _, k1, _, k2, beginW (wf_u64 ha) fun h1 Qa Na => ⟨_, rfl, ?_⟩⟩
  have Ia := I0.new Na
  obtain ⟨k0, k1, k2⟩ := f3_cells (Ia.at 1)
  refine ⟨_, k0, _, k1, _, k2, beginW (wf_u64 ha') fun h1' Qb Nb => ⟨_, rfl, fun J5 hJ5 => pF rfl (hJ5 _ _ fun J6 hJ6 => pF rfl ?_)⟩⟩
  have Ib := Ia.new Nb
  have ga := usual_good a b d
  have gb := usual_good a' b' d'
  generalize usualC a b d = ca at Na Ia Ib ga
  generalize usualC a' b' d' = cb at Nb Ib gb
  have Wa0 := wi0 ga
  have Wb0 := wi0 gb
  have sna : (BU0 ca).st.n = 0 := rfl
  have snb : (BU0 cb).st.n = 0 := rfl
  generalize BU0 ca = xa0 at Na Ia Ib Wa0 sna
  generalize BU0 cb = xb0 at Nb Ib Wb0 snb
  have I1 : Hold w.heap h1' [wsR cb Qb xb0, wsR ca Qa xa0] := Ib.sub (.cons_cons _ (.cons_cons _ (.cons _ (.cons _ .slnil))))
  refine lives_ok fun h2 u2 => ⟨_, rfl, hJ6 _ _ fun J7 hJ7 => pF rfl ?_⟩
  have I2 := I1.quiet u2
  have hla : (xa0.st.n : Int) < ca.limit := by rw [sna]; have := ga.l1; omega
  have hlb : (xb0.st.n : Int) < cb.limit := by rw [snb]; have := gb.l1; omega
  refine comeW (fl := fun _ => []) (L := []) (Q := Qa) Wa0 (I2.at 1) hla fun xa1 h3 Qa1 eQa Wa1 eoa ena esa _ S3 => ⟨_, rfl, hJ7 _ _ fun J8 hJ8 => pF rfl ?_⟩
  have I3 := I2.step 1 S3
  refine comeW (fl := fun _ => []) (L := []) (Q := Qb) Wb0 (I3.at 0) hlb fun xb1 h4 Qb1 eQb Wb1 eob enb esb _ S4 => ⟨_, rfl, hJ8 _ _ fun J9 hJ9 => pF rfl ?_⟩
  have I4 := I3.step 0 S4
  have e1a : xa1.m.n - 2 ^ xa1.m.o = xa0.m.n := by rw [ena, eoa, Nat.add_sub_cancel]
  have e1b : xb1.m.n - 2 ^ xb1.m.o = xb0.m.n := by rw [enb, eob, Nat.add_sub_cancel]
  generalize hwa : Qa.wb = wa at eQa hJ5 hJ6 hJ7 hJ8 hJ9 ⊢
  generalize hwb : Qb.wb = wb at eQb hJ5 hJ6 hJ7 hJ8 hJ9 ⊢
  refine ⟨_, rfl, _, (by rw [← eQa]; exact wd_cell (I4.at 1) (i := 5) (by omega)), ?_⟩
  refine feedW Wa1 (I4.at 1) (by omega) (L' := []) (by rw [e1a, eoa]) fun xa2 h5 Wa2 Ma2 S5 => ⟨_, rfl, hJ9 _ _ fun J10 hJ10 => pF rfl ?_⟩
  have I5 := I4.step 1 S5
  refine ⟨_, rfl, _, (by rw [← eQb]; exact wd_cell (I5.at 0) (i := 5) (by omega)), ?_⟩
  refine feedW Wb1 (I5.at 0) (by omega) (L' := []) (by rw [e1b, eob]) fun xb2 h6 Wb2 Mb2 S6 => ⟨_, rfl, hJ10 _ _ (iF rfl ?_)⟩
  have I6 := I5.step 0 S6
  have I6 : Hold w.heap h6 [wsR cb Qb1 xb2, wsR ca Qa1 xa2] := I6
  have N7 := box1 h6 (.slice none 0 0) T.T_croftlaw5_book
  generalize Array.push h6 (.cells #[.slice none 0 0] T.T_croftlaw5_book) = h7 at N7 ⊢
  obtain ⟨ka, eka⟩ : ∃ ka, ka = Array.size h6 := ⟨_, rfl⟩
  rw [← eka] at N7 ⊢
  have nil3 : ∀ hx : Heap, New hx hx (slR none ([] : List Bk).length 0 3 (bkV [])) := fun hx => ⟨Upd.refl _ _, sl_nil _ _ _, fun b e => absurd e (sl_nil_fp b)⟩
  have J1 : Hold w.heap h6 [wbR cb Qb1 xb2 none 0 [], wbR ca Qa1 xa2 none 0 []] := by
    have A1 := (I6.new (nil3 h6)).swap.join
    have A2 : Hold w.heap h6 [wbR cb Qb1 xb2 none 0 [], wsR ca Qa1 xa2] := A1
    have A3 := (A2.swap.new (nil3 h6)).swap.join
    exact A3.swap
  have I7 := J1.new N7
  obtain ⟨w8, S8⟩ := f1_set (I7.at 0) (.slice none 0 0)
  have I8 := I7.step 0 S8
  refine ⟨w8, ?_⟩
  generalize setC h7 ⟨ka, 0, none⟩ (.slice none 0 0) = h8 at I8 ⊢
  have N9 := box1 h8 (.slice none 0 0) T.T_croftlaw5_book
  generalize Array.push h8 (.cells #[.slice none 0 0] T.T_croftlaw5_book) = h9 at N9 ⊢
  obtain ⟨kb, ekb⟩ : ∃ kb, kb = Array.size h8 := ⟨_, rfl⟩
  rw [← ekb] at N9 ⊢
  have I9 := I8.new N9
  obtain ⟨w10, S10⟩ := f1_set (I9.at 0) (.slice none 0 0)
  have I10 := I9.step 0 S10
  refine ⟨w10, fun J15 hJ15 L19 hL19 => ?_⟩
  generalize setC h9 ⟨kb, 0, none⟩ (.slice none 0 0) = h10 at I10 ⊢
  have I10 : Hold w.heap h10 [blkR kb 1 fun _ => .slice none ([] : List Bk).length 0, blkR ka 1 fun _ => .slice none ([] : List Bk).length 0, wbR cb Qb1 xb2 none 0 [], wbR ca Qa1 xa2 none 0 []] := I10
  have last : ∀ (hx : Heap) (Qa Qb : WW) (xa xb : BU) (fa fb : Nat → List Nat) (la lb : List Bk) (ap bp : Option Addr) (ac bc : Nat), Qa.wb = wa → Qb.wb = wb → WI ca xa fa (lvB la) → WI cb xb fb (lvB lb) → la.length ≤ 200 → lb.length ≤ 200 →
      Hold w.heap hx [blkR kb 1 fun _ => .slice bp lb.length bc, blkR ka 1 fun _ => .slice ap la.length ac, wbR cb Qb xb bp bc lb, wbR ca Qa xa ap ac la] →
      J15 [.pointer (some ⟨wa, 0, none⟩), .pointer (some ⟨wb, 0, none⟩), .pointer (some ⟨ka, 0, none⟩), .pointer (some ⟨kb, 0, none⟩)] hx := by
    intro hx Qa Qb xa xb fa fb la lb ap bp ac bc ea eb Wa Wb hla hlb I
    refine hJ15 _ _ _ _ _ ⟨_, _, _, f1_cell (I.at 1), ?_⟩
    rw [← ea]
    refine tiled_ok Wa (by omega) (I.at 3) fun h11 S11 => ⟨_, rfl, fun J17 hJ17 => qT rfl ?_⟩
    have I11 := I.step 3 S11
    refine ⟨_, _, _, f1_cell (I11.at 0), ?_⟩
    rw [← eb]
    refine tiled_ok Wb (by omega) (I11.at 2) fun h12 S12 => ⟨_, rfl, hJ17 _ _ (hfin _ ?_)⟩
    have I12 := I11.step 2 S12
    exact I12.u
  have loop : ∀ (k i : Nat) (hx : Heap) (Qa Qb : WW) (xa xb : BU) (fa fb : Nat → List Nat) (la lb : List Bk) (ap bp : Option Addr) (ac bc : Nat), i + k = n → Qa.wb = wa → Qb.wb = wb → WI ca xa fa (lvB la) → WI cb xb fb (lvB lb) → la.length ≤ i → lb.length ≤ i → i ≤ 150 →
      Hold w.heap hx [blkR kb 1 fun _ => .slice bp lb.length bc, blkR ka 1 fun _ => .slice ap la.length ac, wbR cb Qb xb bp bc lb, wbR ca Qa xa ap ac la] →
      L19 [.slice p n cp, .slice q m cq, .pointer (some ⟨wa, 0, none⟩), .pointer (some ⟨wb, 0, none⟩), .pointer (some ⟨ka, 0, none⟩), .pointer (some ⟨kb, 0, none⟩), .int .i64 (i : Int)] hx := by
    intro k
    induction k with
    | zero =>
      intro i hx Qa Qb xa xb fa fb la lb ap bp ac bc hi ea eb Wa Wb hla hlb h150 I
      exact hL19 _ _ _ _ _ _ _ _ _ _ _ _ fun J20 hJ20 => qF' (decide_eq_false (by omega)) (hJ20 _ _ (iF rfl (last hx Qa Qb xa xb fa fb la lb ap bp ac bc ea eb Wa Wb (by omega) (by omega) I)))
    | succ k ih =>
      intro i hx Qa Qb xa xb fa fb la lb ap bp ac bc hi ea eb Wa Wb hla hlb h150 I
      refine hL19 _ _ _ _ _ _ _ _ _ _ _ _ fun J20 hJ20 => qT (decide_eq_true (by omega)) (hJ20 _ _ ?_)
      by_cases h300 : (i : Int) < 150
      case neg => exact iF (decide_eq_false h300) (last hx Qa Qb xa xb fa fb la lb ap bp ac bc ea eb Wa Wb (by omega) (by omega) I)
      obtain ⟨ad, ead, hcell⟩ := dd_at hr (i := i) (by omega)
      have dc := hcell hx I.u
      have hwr : IntKind.wrap .i64 ((i : Int) + 1) = ((i + 1 : Nat) : Int) := by rw [IntKind.wrap_i64]; omega
      refine iT (decide_eq_true h300) fun J21 hJ21 J22 hJ22 => ?_
      have main : ∀ s : Bool, J22 s hx := by
        intro s
        refine hJ22 _ _ ⟨fun _ => ⟨_, _, _, f1_cell (I.at 0), ad, ead, by omega, by omega, _, dc.1, _, dc.2.1, _, dc.2.2, ?_⟩, fun _ => ⟨_, _, _, f1_cell (I.at 1), ad, ead, by omega, by omega, _, dc.1, _, dc.2.1, _, dc.2.2, ?_⟩⟩
        · rw [← eb]
          refine do_ok Wb (by omega) (I.at 2) fun x' fl' l' Q' h7 bp' bc' eq' W' _ hl' S7 => ⟨_, _, _, _, rfl, ?_⟩
          have I7 := I.step 2 S7
          obtain ⟨w9, S9⟩ := f1_set (I7.at 0) (.slice bp' l'.length bc')
          have I9 := I7.step 0 S9
          rw [eb]
          refine ⟨w9, hJ21 _ _ _ _ _ _ _ _ _ _ _ _ _ (iF rfl ?_)⟩
          rw [hwr]
          exact ih (i + 1) _ Qa Q' xa x' fa fl' la l' ap bp' ac bc' (by omega) ea (eq'.trans eb) Wa W' (by omega) (by omega) (by omega) I9
        · rw [← ea]
          refine do_ok Wa (by omega) (I.at 3) fun x' fl' l' Q' h7 bp' bc' eq' W' _ hl' S7 => ⟨_, _, _, _, rfl, ?_⟩
          have I7 := I.step 3 S7
          obtain ⟨w9, S9⟩ := f1_set (I7.at 1) (.slice bp' l'.length bc')
          have I9 := I7.step 1 S9
          rw [ea]
          refine ⟨w9, hJ21 _ _ _ _ _ _ _ _ _ _ _ _ _ (iF rfl ?_)⟩
          rw [hwr]
          exact ih (i + 1) _ Q' Qb x' xb fl' fb l' lb bp' bp bc' bc (by omega) (eq'.trans ea) eb W' Wb (by omega) (by omega) (by omega) I9
      by_cases him : (i : Int) < (m : Int)
      · rcases hr' with hr0 | ⟨b', off', rfl, hr'⟩
        · omega
        have hcb : cellAt hx ((⟨b', off', none⟩ : Addr).add (Int.toNat (i : Int) * 1)) = some (.bool (f' i)) := by
          rw [add_mk, Int.toNat_natCast, Nat.mul_one]
          exact cellAt_upd (hr' i (by omega)) I.u id
        exact qT (decide_eq_true him) ⟨_, rfl, by omega, by omega, _, hcb, main _⟩
      · exact qF' (decide_eq_false him) (main _)
  exact loop n 0 h10 Qa1 Qb1 xa2 xb2 _ _ [] [] none none 0 0 (by omega) eQa eQb Wa2 Wb2 (Nat.le_refl _) (Nat.le_refl _) (by omega) I10
end Go.Proofs.Ytnlcmfdmbgnpfaa
