/- croftlaw6: RegionApart. No condition. -/
import Derived.Test.YtippbfnhgooepaaZD6
import Derived.Test.YtippbfnhgooepaaZGcroftlaw6RegionApart
set_option linter.unusedSimpArgs false
set_option linter.unusedVariables false
namespace Go.Proofs.Ytippbfnhgooepaa
open Go.V Classical

theorem hold_turn {h0 h : Heap} {rs : List Res} {A B C D : Res} (H : Hold h0 h (A :: B :: C :: D :: rs)) : Hold h0 h (C :: D :: A :: B :: rs) :=
  H.perm ((List.perm_append_comm (l₁ := [C, D]) (l₂ := [A, B])).append_right rs)

set_option maxHeartbeats 4000000 in
theorem RegionApart_law {w : World} {a b d : Int} {p q : Option Addr} {n cp m cq : Nat} (ha : (Lit.int .u64 a).wf = true) (hb : (Lit.int .i64 b).wf = true) (hd : (Lit.int .i64 d).wf = true) (hs : Ops6 w.heap p n cp) (hs2 : Ops6 w.heap q m cq) :
    CallV Try.prog w F.croftlaw6_RegionApart [.agg #[.int .u64 a, .int .i64 b, .int .i64 d], .slice p n cp, .slice q m cq] w.heap fun v h' => v = .bool true ∧ Upd NoB w.heap h' := by
  obtain ⟨f, hn, hcp, hr, hop⟩ := hs
  obtain ⟨f2, hn2, hcp2, hr2, hop2⟩ := hs2
  have hfin : ∀ h', Upd NoB w.heap h' → (fun (r : Value) (h' : Heap) => r = Value.bool true ∧ Upd NoB w.heap h') (.bool true) h' := fun h' u => ⟨rfl, u⟩
  generalize (fun (r : Value) (h' : Heap) => r = Value.bool true ∧ Upd NoB w.heap h') = K at hfin ⊢
  refine croftlaw6_RegionApart.call ?_
  unfold croftlaw6_RegionApart.vc
  have N0 := box3 w.heap (.int .u64 a) (.int .i64 b) (.int .i64 d) T.T_api_Config
  generalize Array.push w.heap (.cells #[.int .u64 a, .int .i64 b, .int .i64 d] T.T_api_Config) = h0 at N0 ⊢
  have I0 := (Hold.nil w.heap).new N0
  refine awake6_ok fun h1 u1 => ⟨_, rfl, iF rfl ?_⟩
  have I1 := I0.quiet u1
  obtain ⟨k0, k1, k2⟩ := f3_cells (I1.at 0)
  refine ⟨_, k0, _, k1, _, k2, region_New_ok (wf_u64 ha) (fun hbad h2 u2 => ⟨_, _, rfl, ?_⟩) fun g h2 Q N2 => ⟨_, _, rfl, ?_⟩⟩
  · have I2 := I1.quiet u2
    obtain ⟨k0, k1, k2⟩ := f3_cells (I2.at 0)
    refine ⟨_, k0, _, k1, _, k2, region_New_ok (wf_u64 ha) (fun _ h3 u3 => ⟨_, _, rfl, fun J5 hJ5 => pT rfl (hJ5 _ _ (iT rfl fun J6 hJ6 => qT rfl (hJ6 _ _ fun J7 hJ7 => qT rfl ?_)))⟩) fun g => absurd g hbad⟩
    have I3 := I2.quiet u3
    obtain ⟨k0, k1, k2⟩ := f3_cells (I3.at 0)
    refine ⟨_, k0, _, k1, _, k2, ref2_May_ok (wf_u64 ha) fun h4 u4 => ⟨_, rfl, hJ7 _ _ ?_⟩⟩
    rw [decide_eq_false hbad]
    exact hfin _ (I3.quiet u4).u
  have I2 := I1.new N2
  obtain ⟨k0, k1, k2⟩ := f3_cells (I2.at 1)
  refine ⟨_, k0, _, k1, _, k2, region_New_ok (wf_u64 ha) (fun hbad => absurd g hbad) fun g' h3 Q2 N3 => ⟨_, _, rfl, fun J5 hJ5 => pF rfl (hJ5 _ _ (iF rfl ?_))⟩⟩
  have I3 := I2.new N3
  have W0 := wi0 g
  have mo : (BU0 ⟨a, b, d⟩).m.o = d.toNat := bu0_o g
  have sn : (BU0 ⟨a, b, d⟩).st.n = 0 := rfl
  have g0 := g.o0
  have g8 := g.o8
  simp only [] at g0 g8
  obtain ⟨O, rfl⟩ : ∃ O : Nat, d = O := ⟨d.toNat, by omega⟩
  rw [Int.toNat_natCast] at mo
  generalize BU0 ⟨a, b, (O : Int)⟩ = x0 at I3 W0 mo sn
  obtain ⟨k0, k1, k2⟩ := f3_cells (I3.at 2)
  refine ⟨_, k0, _, k1, _, k2, New6_ok (by omega) fun h4 Y0 N4 => ⟨_, _, _, _, _, _, _, _, _, _, rfl, ?_⟩⟩
  obtain ⟨c, hc⟩ : ∃ c : Cfg, c = ⟨a, b, O⟩ := ⟨_, rfl⟩
  have N5 := box6 h4 (.int .u64 0) (.int .i64 0) (.int .i64 0) (.int .i64 0) (.slice none 0 0) (.slice none 0 0) T.T_croftref6_Pool
  generalize Array.push h4 (.cells #[.int .u64 0, .int .i64 0, .int .i64 0, .int .i64 0, .slice none 0 0, .slice none 0 0] T.T_croftref6_Pool) = h5 at N5 ⊢
  obtain ⟨tb, etb⟩ : ∃ tb, tb = Array.size h4 := ⟨_, rfl⟩
  rw [← etb] at N5 ⊢
  have I5 := (I3.new N4).new N5
  obtain ⟨w6, S6⟩ := assign6 (I5.at 0) (.int .u64 a) (.int .i64 b) (.int .i64 (O : Int)) (.int .i64 0) (.slice Y0.fp (O + 1) Y0.fc) (.slice Y0.vp ([] : List PBk).length Y0.vc)
  have I6 := I5.step 0 S6
  refine ⟨w6, ?_⟩
  have e6 : (setCs h5 ⟨tb, 0, none⟩ 0 [.int .u64 a, .int .i64 b, .int .i64 (O : Int), .int .i64 ((0 : Nat) : Int), .slice Y0.fp (O + 1) Y0.fc, .slice Y0.vp ([] : List PBk).length Y0.vc]) = setCs h5 ⟨tb, 0, none⟩ 0 [.int .u64 a, .int .i64 b, .int .i64 (O : Int), .int .i64 0, .slice Y0.fp (O + 1) Y0.fc, .slice Y0.vp ([] : List PBk).length Y0.vc] := rfl
  rw [e6]
  generalize setCs h5 ⟨tb, 0, none⟩ 0 [.int .u64 a, .int .i64 b, .int .i64 (O : Int), .int .i64 0, .slice Y0.fp (O + 1) Y0.fc, .slice Y0.vp ([] : List PBk).length Y0.vc] = h6 at I6 ⊢
  obtain ⟨k0, k1, k2⟩ := f3_cells (I6.at 4)
  refine ⟨_, k0, _, k1, _, k2, New6_ok (by omega) fun h7 Y1 N7 => ⟨_, _, _, _, _, _, _, _, _, _, rfl, ?_⟩⟩
  have N8 := box6 h7 (.int .u64 0) (.int .i64 0) (.int .i64 0) (.int .i64 0) (.slice none 0 0) (.slice none 0 0) T.T_croftref6_Pool
  generalize Array.push h7 (.cells #[.int .u64 0, .int .i64 0, .int .i64 0, .int .i64 0, .slice none 0 0, .slice none 0 0] T.T_croftref6_Pool) = h8 at N8 ⊢
  obtain ⟨sb, esb⟩ : ∃ sb, sb = Array.size h7 := ⟨_, rfl⟩
  rw [← esb] at N8 ⊢
  have I8 := (I6.new N7).new N8
  obtain ⟨w9, S9⟩ := assign6 (I8.at 0) (.int .u64 a) (.int .i64 b) (.int .i64 (O : Int)) (.int .i64 0) (.slice Y1.fp (O + 1) Y1.fc) (.slice Y1.vp ([] : List PBk).length Y1.vc)
  have I9 := I8.step 0 S9
  refine ⟨w9, ?_⟩
  have e9 : (setCs h8 ⟨sb, 0, none⟩ 0 [.int .u64 a, .int .i64 b, .int .i64 (O : Int), .int .i64 ((0 : Nat) : Int), .slice Y1.fp (O + 1) Y1.fc, .slice Y1.vp ([] : List PBk).length Y1.vc]) = setCs h8 ⟨sb, 0, none⟩ 0 [.int .u64 a, .int .i64 b, .int .i64 (O : Int), .int .i64 0, .slice Y1.fp (O + 1) Y1.fc, .slice Y1.vp ([] : List PBk).length Y1.vc] := rfl
  rw [e9]
  generalize setCs h8 ⟨sb, 0, none⟩ 0 [.int .u64 a, .int .i64 b, .int .i64 (O : Int), .int .i64 0, .slice Y1.fp (O + 1) Y1.fc, .slice Y1.vp ([] : List PBk).length Y1.vc] = h9 at I9 ⊢
  rw [← hc] at W0
  have I9 : Hold w.heap h9 [blkR sb 6 (pvF ⟨a, b, O⟩ 0 Y1 O []), rfR Y1 O (fun _ => []) [], blkR tb 6 (pvF ⟨a, b, O⟩ 0 Y0 O []), rfR Y0 O (fun _ => []) [], plR ⟨a, b, O⟩ Q2 x0, plR ⟨a, b, O⟩ Q x0, blkR w.heap.size 3 (f3 (.int .u64 a) (.int .i64 b) (.int .i64 (O : Int)))] := I9
  rw [← hc] at I9
  have I10 : Hold w.heap h9 [plR c Q x0, rfR Y0 O (fun _ => []) [], plR c Q2 x0, rfR Y1 O (fun _ => []) [], blkR tb 6 (pvF c 0 Y0 O []), blkR sb 6 (pvF c 0 Y1 O []), blkR w.heap.size 3 (f3 (.int .u64 a) (.int .i64 b) (.int .i64 (O : Int)))] := I9.perm (by
    generalize plR c Q x0 = A1
    generalize plR c Q2 x0 = A2
    generalize rfR Y0 O (fun _ => []) [] = A3
    generalize rfR Y1 O (fun _ => []) [] = A4
    generalize blkR tb 6 (pvF c 0 Y0 O []) = A5
    generalize blkR sb 6 (pvF c 0 Y1 O []) = A6
    have e1 : List.Perm [A1, A3, A2, A4, A5, A6] [A6, A4, A5, A3, A2, A1] := by
      have h1 := (List.reverse_perm [A6, A4, A5, A3, A2, A1]).symm
      refine List.Perm.trans ?_ (List.reverse_perm [A6, A4, A5, A3, A2, A1])
      show List.Perm [A1, A3, A2, A4, A5, A6] [A1, A2, A3, A5, A4, A6]
      exact .cons _ ((List.Perm.swap _ _ _).trans (.cons _ (.cons _ (.swap _ _ _))))
    exact e1.append_right [_])
  have I11 : Hold w.heap h9 [ptR c O Q x0 Y0 (fun _ => []) [], plR c Q2 x0, rfR Y1 O (fun _ => []) [], blkR tb 6 (pvF c 0 Y0 O []), blkR sb 6 (pvF c 0 Y1 O []), blkR w.heap.size 3 (f3 (.int .u64 a) (.int .i64 b) (.int .i64 (O : Int)))] := I10.join
  have I12 : Hold w.heap h9 [plR c Q2 x0, rfR Y1 O (fun _ => []) [], ptR c O Q x0 Y0 (fun _ => []) [], blkR tb 6 (pvF c 0 Y0 O []), blkR sb 6 (pvF c 0 Y1 O []), blkR w.heap.size 3 (f3 (.int .u64 a) (.int .i64 b) (.int .i64 (O : Int)))] := I11.swap.swap2
  have I13 : Hold w.heap h9 [ptR c O Q2 x0 Y1 (fun _ => []) [], ptR c O Q x0 Y0 (fun _ => []) [], blkR tb 6 (pvF c 0 Y0 O []), blkR sb 6 (pvF c 0 Y1 O []), blkR w.heap.size 3 (f3 (.int .u64 a) (.int .i64 b) (.int .i64 (O : Int)))] := I12.join
  have I14 : Hold w.heap h9 [blkR tb 6 (pvF c 0 Y0 O []), ptR c O Q x0 Y0 (fun _ => []) [], blkR sb 6 (pvF c 0 Y1 O []), ptR c O Q2 x0 Y1 (fun _ => []) [], blkR w.heap.size 3 (f3 (.int .u64 a) (.int .i64 b) (.int .i64 (O : Int)))] := (hold_turn I13).swap3.swap2
  clear I13 I12 I11 I10 I9 I8 I6 I5 I3 I2 I1 I0 N8 N7 N5 N4 N3 N2 N0
  intro J15 hJ15 L19 hL19
  generalize hpb : Q.pb = pb
  generalize hqb : Q2.pb = qb
  have loop : ∀ (k i : Nat) (hx : Heap) (Q : PL) (x : BU) (Y : RW6) (fl : Nat → List Nat) (L : List PBk) (Q2 : PL) (x2 : BU) (Y2 : RW6) (fl2 : Nat → List Nat) (L2 : List PBk), n ≤ i + k → m ≤ i + k → Q.pb = pb → WI c x fl L → x.m.o = O → Q2.pb = qb → WI c x2 fl2 L2 → x2.m.o = O →
      Hold w.heap hx [blkR tb 6 (pvF c x.st.n Y O L), ptR c O Q x Y fl L, blkR sb 6 (pvF c x2.st.n Y2 O L2), ptR c O Q2 x2 Y2 fl2 L2, blkR w.heap.size 3 (f3 (.int .u64 a) (.int .i64 b) (.int .i64 (O : Int)))] →
      L19 [.slice p n cp, .slice q m cq, .pointer (some ⟨pb, 0, none⟩), .pointer (some ⟨qb, 0, none⟩), .pointer (some ⟨tb, 0, none⟩), .pointer (some ⟨sb, 0, none⟩), .int .i64 (i : Int)] hx := by
    intro k
    induction k with
    | zero =>
      intro i hx Q x Y fl L Q2 x2 Y2 fl2 L2 hi hi2 hq W ox hq2 W2 ox2 I
      refine hL19 _ _ _ _ _ _ _ _ _ _ _ _ fun J20 hJ20 => pF (decide_eq_false (by omega)) ?_
      rw [decide_eq_false (by omega)]
      obtain ⟨k0, k1, k2, k3, k4, k5⟩ := f6_cells (I.at 0)
      refine hJ20 _ _ (iF rfl (hJ15 _ _ _ _ _ ⟨_, k0, _, k1, _, k2, _, k3, _, _, _, k4, _, _, _, k5, ?_⟩))
      rw [← hq, ← hq2]
      refine lists6_ok W ox (I.at 1) fun h9 S9 => ⟨_, rfl, fun J17 hJ17 => qT rfl ?_⟩
      have I9 := I.step 1 S9
      obtain ⟨k0, k1, k2, k3, k4, k5⟩ := f6_cells (I9.at 2)
      refine ⟨_, k0, _, k1, _, k2, _, k3, _, _, _, k4, _, _, _, k5, lists6_ok W2 ox2 (I9.at 3) fun ha Sa => ⟨_, rfl, hJ17 _ _ (hfin _ (I9.step 3 Sa).u)⟩⟩
    | succ k ih =>
      intro i hx Q x Y fl L Q2 x2 Y2 fl2 L2 hi hi2 hq W ox hq2 W2 ox2 I
      refine hL19 _ _ _ _ _ _ _ _ _ _ _ _ fun J20 hJ20 => ?_
      by_cases hend : n ≤ i ∧ m ≤ i
      · refine pF (decide_eq_false (by omega)) ?_
        rw [decide_eq_false (by omega)]
        obtain ⟨k0, k1, k2, k3, k4, k5⟩ := f6_cells (I.at 0)
        refine hJ20 _ _ (iF rfl (hJ15 _ _ _ _ _ ⟨_, k0, _, k1, _, k2, _, k3, _, _, _, k4, _, _, _, k5, ?_⟩))
        rw [← hq, ← hq2]
        refine lists6_ok W ox (I.at 1) fun h9 S9 => ⟨_, rfl, fun J17 hJ17 => qT rfl ?_⟩
        have I9 := I.step 1 S9
        obtain ⟨k0, k1, k2, k3, k4, k5⟩ := f6_cells (I9.at 2)
        exact ⟨_, k0, _, k1, _, k2, _, k3, _, _, _, k4, _, _, _, k5, lists6_ok W2 ox2 (I9.at 3) fun ha Sa => ⟨_, rfl, hJ17 _ _ (hfin _ (I9.step 3 Sa).u)⟩⟩
      have hwr : IntKind.wrap .i64 ((i : Int) + 1) = ((i + 1 : Nat) : Int) := by rw [IntKind.wrap_i64]; omega
      have body : J20 true hx := by
        refine hJ20 _ _ (iT rfl fun J21 hJ21 J22 hJ22 => ?_)
        have m21 : ∀ (hx : Heap) (Q : PL) (x : BU) (Y : RW6) (fl : Nat → List Nat) (L : List PBk) (Q2 : PL) (x2 : BU) (Y2 : RW6) (fl2 : Nat → List Nat) (L2 : List PBk), Q.pb = pb → WI c x fl L → x.m.o = O → Q2.pb = qb → WI c x2 fl2 L2 → x2.m.o = O →
            Hold w.heap hx [blkR tb 6 (pvF c x.st.n Y O L), ptR c O Q x Y fl L, blkR sb 6 (pvF c x2.st.n Y2 O L2), ptR c O Q2 x2 Y2 fl2 L2, blkR w.heap.size 3 (f3 (.int .u64 a) (.int .i64 b) (.int .i64 (O : Int)))] →
            J21 [.slice p n cp, .slice q m cq, .pointer (some ⟨pb, 0, none⟩), .pointer (some ⟨qb, 0, none⟩), .pointer (some ⟨tb, 0, none⟩), .pointer (some ⟨sb, 0, none⟩), .int .i64 (i : Int)] hx := by
          intro hx Q x Y fl L Q2 x2 Y2 fl2 L2 hq W ox hq2 W2 ox2 I
          refine hJ21 _ _ _ _ _ _ _ _ _ _ _ _ ?_
          rw [hwr]
          exact ih (i + 1) hx Q x Y fl L Q2 x2 Y2 fl2 L2 (by omega) (by omega) hq W ox hq2 W2 ox2 I
        have m22 : ∀ (hx : Heap) (Q : PL) (x : BU) (Y : RW6) (fl : Nat → List Nat) (L : List PBk) (Q2 : PL) (x2 : BU) (Y2 : RW6) (fl2 : Nat → List Nat) (L2 : List PBk), Q.pb = pb → WI c x fl L → x.m.o = O → Q2.pb = qb → WI c x2 fl2 L2 → x2.m.o = O →
            Hold w.heap hx [blkR tb 6 (pvF c x.st.n Y O L), ptR c O Q x Y fl L, blkR sb 6 (pvF c x2.st.n Y2 O L2), ptR c O Q2 x2 Y2 fl2 L2, blkR w.heap.size 3 (f3 (.int .u64 a) (.int .i64 b) (.int .i64 (O : Int)))] →
            J22 [.slice p n cp, .slice q m cq, .pointer (some ⟨pb, 0, none⟩), .pointer (some ⟨qb, 0, none⟩), .pointer (some ⟨tb, 0, none⟩), .pointer (some ⟨sb, 0, none⟩), .int .i64 (i : Int)] hx := by
          intro hx Q x Y fl L Q2 x2 Y2 fl2 L2 hq W ox hq2 W2 ox2 I
          refine hJ22 _ _ _ _ _ _ _ _ _ _ _ _ ?_
          by_cases him : i < m
          case neg => exact iF (decide_eq_false (by omega)) (m21 hx Q x Y fl L Q2 x2 Y2 fl2 L2 hq W ox hq2 W2 ox2 I)
          obtain ⟨k0, k1, k2, k3, k4, k5⟩ := f6_cells (I.at 2)
          obtain ⟨ad, ead, hcell⟩ := op6_at hr2 (i := i) him
          have ok := hop2 i him
          generalize f2 i = o at hcell ok
          obtain ⟨d0, d1, d2, d3, d4, d5, d6⟩ := hcell hx I.u
          refine iT (decide_eq_true (by omega)) fun J23 hJ23 => ⟨_, k0, _, k1, _, k2, _, k3, _, _, _, k4, _, _, _, k5, ad, ead, by omega, by omega, _, d0, _, d1, _, d2, _, d3, _, d4, _, d5, _, _, _, d6, ?_⟩
          refine play2_ok (A := fun nb b h => J23 [.slice p n cp, .slice q m cq, .pointer (some ⟨pb, 0, none⟩), .pointer (some ⟨qb, 0, none⟩), .pointer (some ⟨tb, 0, none⟩), .pointer (some ⟨sb, 0, none⟩), .int .i64 (i : Int), .pointer (some nb), .bool b] h) W2 ox2 hq2 rfl ok hcell (hold_turn I) fun x' fl' L' Q' Y' nb h9 hq' W' o' _ I9 => ?_
          obtain ⟨m0, m1, m2, m3, m4, m5⟩ := f6_cells (I9.at 0)
          refine hJ23 _ _ _ _ _ _ _ _ _ _ _ _ _ _ fun J24 hJ24 => pF rfl ⟨_, m0, _, m1, _, m2, _, m3, _, _, _, m4, _, _, _, m5, ?_⟩
          rw [← hq']
          refine lists6_ok W' o' (I9.at 2) fun ha Sa => ⟨_, rfl, hJ24 _ _ (iF rfl ?_)⟩
          have Ia := I9.step 2 Sa
          obtain ⟨m0, m1, m2, m3, m4, m5⟩ := f6_cells (Ia.at 0)
          refine ⟨_, m0, _, m1, _, m2, _, m3, _, _, _, m4, _, _, _, m5, ?_⟩
          obtain ⟨wIb, SIb⟩ := assign6 (Ia.at 1) (.int .u64 c.base) (.int .i64 c.limit) (.int .i64 c.order) (.int .i64 (x'.st.n : Int)) (.slice Y'.fp (O + 1) Y'.fc) (.slice Y'.vp L'.length Y'.vc)
          have Ib := Ia.step 1 SIb
          refine ⟨wIb, ?_⟩
          generalize setCs ha ⟨sb, 0, none⟩ 0 [.int .u64 c.base, .int .i64 c.limit, .int .i64 c.order, .int .i64 (x'.st.n : Int), .slice Y'.fp (O + 1) Y'.fc, .slice Y'.vp L'.length Y'.vc] = hb' at Ib ⊢
          exact m21 hb' Q x Y fl L Q' x' Y' fl' L' hq W ox hq' W' o' (hold_turn Ib.drop)
        by_cases hin : i < n
        case neg => exact iF (decide_eq_false (by omega)) (m22 hx Q x Y fl L Q2 x2 Y2 fl2 L2 hq W ox hq2 W2 ox2 I)
        obtain ⟨k0, k1, k2, k3, k4, k5⟩ := f6_cells (I.at 0)
        obtain ⟨ad, ead, hcell⟩ := op6_at hr (i := i) hin
        have ok := hop i hin
        generalize f i = o at hcell ok
        obtain ⟨d0, d1, d2, d3, d4, d5, d6⟩ := hcell hx I.u
        refine iT (decide_eq_true (by omega)) fun J33 hJ33 => ⟨_, k0, _, k1, _, k2, _, k3, _, _, _, k4, _, _, _, k5, ad, ead, by omega, by omega, _, d0, _, d1, _, d2, _, d3, _, d4, _, d5, _, _, _, d6, ?_⟩
        refine play2_ok (A := fun nb b h => J33 [.slice p n cp, .slice q m cq, .pointer (some ⟨pb, 0, none⟩), .pointer (some ⟨qb, 0, none⟩), .pointer (some ⟨tb, 0, none⟩), .pointer (some ⟨sb, 0, none⟩), .int .i64 (i : Int), .pointer (some nb), .bool b] h) W ox hq rfl ok hcell I fun x' fl' L' Q' Y' nb h9 hq' W' o' _ I9 => ?_
        obtain ⟨m0, m1, m2, m3, m4, m5⟩ := f6_cells (I9.at 0)
        refine hJ33 _ _ _ _ _ _ _ _ _ _ _ _ _ _ fun J34 hJ34 => pF rfl ⟨_, m0, _, m1, _, m2, _, m3, _, _, _, m4, _, _, _, m5, ?_⟩
        rw [← hq']
        refine lists6_ok W' o' (I9.at 2) fun ha Sa => ⟨_, rfl, hJ34 _ _ (iF rfl ?_)⟩
        have Ia := I9.step 2 Sa
        obtain ⟨m0, m1, m2, m3, m4, m5⟩ := f6_cells (Ia.at 0)
        refine ⟨_, m0, _, m1, _, m2, _, m3, _, _, _, m4, _, _, _, m5, ?_⟩
        obtain ⟨wIb, SIb⟩ := assign6 (Ia.at 1) (.int .u64 c.base) (.int .i64 c.limit) (.int .i64 c.order) (.int .i64 (x'.st.n : Int)) (.slice Y'.fp (O + 1) Y'.fc) (.slice Y'.vp L'.length Y'.vc)
        have Ib := Ia.step 1 SIb
        refine ⟨wIb, ?_⟩
        generalize setCs ha ⟨tb, 0, none⟩ 0 [.int .u64 c.base, .int .i64 c.limit, .int .i64 c.order, .int .i64 (x'.st.n : Int), .slice Y'.fp (O + 1) Y'.fc, .slice Y'.vp L'.length Y'.vc] = hb' at Ib ⊢
        exact m22 hb' Q' x' Y' fl' L' Q2 x2 Y2 fl2 L2 hq' W' o' hq2 W2 ox2 Ib.drop
      by_cases hin : i < n
      · exact pT (decide_eq_true (by omega)) body
      · refine pF (decide_eq_false (by omega)) ?_
        rw [decide_eq_true (by omega)]
        exact body
  have := loop (n + m) 0 h9 Q x0 Y0 _ [] Q2 x0 Y1 _ [] (by omega) (by omega) hpb W0 mo hqb W0 mo (by rw [sn]; exact I14)
  exact this
end Go.Proofs.Ytippbfnhgooepaa
