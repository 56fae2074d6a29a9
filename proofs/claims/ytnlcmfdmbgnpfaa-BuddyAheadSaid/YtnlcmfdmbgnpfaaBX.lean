/- croftlaw5: BuddyAhead. No condition. -/
import Derived.Test.YtnlcmfdmbgnpfaaBW
set_option linter.unusedSimpArgs false
set_option linter.unusedVariables false
namespace Go.Proofs.Ytnlcmfdmbgnpfaa
open Go.V Classical

section
variable {w₀ : World} {h h' : Heap} {c : Cfg} {Q : WW} {P r : Nat} {x : BU} {K : Value → Heap → Prop}

/-- Refused, and nothing changed. -/
theorem feedA (hx : BU.Ok c x) (ht : topU x = none) (H : (wdR c Q P r x).P h) (hK : ∀ h', Stp h h' (wdR c Q P r x) (wdR c Q P r x) → K (.int .i64 9) h') :
    CallV Try.prog w₀ F.buddy_Buddy_Feed [.pointer (some ⟨Q.W.b, 0, none⟩)] h K := by
  refine bu_Feed_ok hx (wd_bu H) fun h' ok' o' S => ?_
  rw [(feed_apart (c := c) ht).1] at S ⊢
  exact hK h' (wd_lift' H rfl S)

theorem pullA (hx : BU.Ok c x) (ht : topU x = none) (H : (wdR c Q P r x).P h) (hK : ∀ h', Stp h h' (wdR c Q P r x) (wdR c Q P r x) → K (.int .i64 9) h') :
    CallV Try.prog w₀ F.buddy_Buddy_Pull [.pointer (some ⟨Q.W.b, 0, none⟩)] h K := by
  refine bu_Pull_ok hx (wd_bu H) fun h' ok' o' S => ?_
  rw [(feed_apart (c := c) ht).2] at S ⊢
  exact hK h' (wd_lift' H rfl S)
end

theorem BuddyAhead_law {w : World} {a b d : Int} {p q : Option Addr} {n cp m cq : Nat} (ha : (Lit.int .u64 a).wf = true) (hb : (Lit.int .i64 b).wf = true) (hd : (Lit.int .i64 d).wf = true) (hs : Dds w.heap p n cp) (hs' : Bls w.heap q m cq) :
    CallV Try.prog w F.croftlaw5_BuddyAhead [.agg #[.int .u64 a, .int .i64 b, .int .i64 d], .slice p n cp, .slice q m cq] w.heap fun v h' => v = .bool true ∧ Upd NoB w.heap h' := by
  obtain ⟨f, hn, hc, hr⟩ := hs
  obtain ⟨f', hn', hc', hr'⟩ := hs'
  have hfin : ∀ h', Upd NoB w.heap h' → (fun (r : Value) (h' : Heap) => r = Value.bool true ∧ Upd NoB w.heap h') (.bool true) h' := fun h' u => ⟨rfl, u⟩
  generalize (fun (r : Value) (h' : Heap) => r = Value.bool true ∧ Upd NoB w.heap h') = K at hfin ⊢
  refine croftlaw5_BuddyAhead.call ?_
  unfold croftlaw5_BuddyAhead.vc
  have N0 := box3 w.heap (.int .u64 a) (.int .i64 b) (.int .i64 d) T.T_api_Config
  generalize Array.push w.heap (.cells #[.int .u64 a, .int .i64 b, .int .i64 d] T.T_api_Config) = h0 at N0 ⊢
  have I0 := (Hold.nil w.heap).new N0
  obtain ⟨k0, k1, k2⟩ := f3_cells (I0.at 0)
  refine ⟨_, k0, _, k1, _, k2, beginW (wf_u64 ha) fun h1 Q N1 => ⟨_, rfl, fun J3 hJ3 => pF rfl ?_⟩⟩
  have g5 := usual_good a b d
  generalize usualC a b d = c at N1 g5
  have W0 := wi0 g5
  have sn : (BU0 c).st.n = 0 := rfl
  generalize BU0 c = x0 at N1 W0 sn
  have I1 := I0.new N1
  refine lives_ok fun h2 u2 => ⟨_, rfl, hJ3 _ _ fun J4 hJ4 => pF rfl ?_⟩
  have I2 := I1.quiet u2
  have hlim : (x0.st.n : Int) < c.limit := by rw [sn]; have := g5.l1; omega
  refine comeW (fl := fun _ => []) (L := []) (Q := Q) W0 (I2.at 0) hlim fun x1 h3 Q1 eQ W1 eo en es _ S3 => ⟨_, rfl, hJ4 _ _ fun J5 hJ5 => pF rfl ?_⟩
  have I3 := I2.step 0 S3
  have e1 : x1.m.n - 2 ^ x1.m.o = x0.m.n := by rw [en, eo, Nat.add_sub_cancel]
  generalize hwb : Q.wb = wb at eQ hJ3 hJ4 hJ5 ⊢
  refine ⟨_, rfl, _, (by rw [← eQ]; exact wd_cell (I3.at 0) (i := 5) (by omega)), ?_⟩
  refine feedW W1 (I3.at 0) (by omega) (L' := []) (by rw [e1, eo]) fun x2 h4 W2 M2 S4 => ⟨_, rfl, hJ5 _ _ (iF rfl ?_)⟩
  have I4 := I3.step 0 S4
  have I4 : Hold w.heap h4 [wsR c Q1 x2, blkR w.heap.size 3 (f3 (.int .u64 a) (.int .i64 b) (.int .i64 d))] := I4
  have N5 := box1 h4 (.slice none 0 0) T.T_croftlaw5_book
  generalize Array.push h4 (.cells #[.slice none 0 0] T.T_croftlaw5_book) = h5 at N5 ⊢
  obtain ⟨bb, ebb⟩ : ∃ bb, bb = Array.size h4 := ⟨_, rfl⟩
  rw [← ebb] at N5 ⊢
  have I5 := ((I4.sub (rs' := [wsR c Q1 x2]) (.cons_cons _ (.cons _ .slnil))).new (R := slR none ([] : List Bk).length 0 3 (bkV [])) ⟨Upd.refl _ _, sl_nil _ _ _, fun b e => absurd e (sl_nil_fp b)⟩).swap.join.new N5
  obtain ⟨w6, S6⟩ := f1_set (I5.at 0) (.slice none 0 0)
  have I6 := I5.step 0 S6
  refine ⟨w6, fun J8 hJ8 L9 hL9 => ?_⟩
  generalize setC h5 ⟨bb, 0, none⟩ (.slice none 0 0) = h6 at I6 ⊢
  have loop : ∀ (k i : Nat) (hx : Heap) (Q : WW) (x : BU) (fl : Nat → List Nat) (l : List Bk) (bp : Option Addr) (bc : Nat), i + k = n → Q.wb = wb → WI c x fl (lvB l) → l.length ≤ i → i ≤ 60 → Hold w.heap hx [blkR bb 1 fun _ => .slice bp l.length bc, wbR c Q x bp bc l] →
      L9 [.slice p n cp, .slice q m cq, .pointer (some ⟨wb, 0, none⟩), .pointer (some ⟨bb, 0, none⟩), .int .i64 (i : Int)] hx := by
    intro k
    induction k with
    | zero =>
      intro i hx Q x fl l bp bc hi hq W hl h60 I
      exact hL9 _ _ _ _ _ _ _ _ _ _ fun J10 hJ10 => qF' (decide_eq_false (by omega)) (hJ10 _ _ (iF rfl (hJ8 _ (hfin _ I.u))))
    | succ k ih =>
      intro i hx Q x fl l bp bc hi hq W hl h60 I
      refine hL9 _ _ _ _ _ _ _ _ _ _ fun J10 hJ10 => qT (decide_eq_true (by omega)) (hJ10 _ _ ?_)
      by_cases h300 : (i : Int) < 60
      case neg => exact iF (decide_eq_false h300) (hJ8 _ (hfin _ I.u))
      obtain ⟨ad, ead, hcell⟩ := dd_at hr (i := i) (by omega)
      have dc := hcell hx I.u
      have hwr : IntKind.wrap .i64 ((i : Int) + 1) = ((i + 1 : Nat) : Int) := by rw [IntKind.wrap_i64]; omega
      refine iT (decide_eq_true h300) fun J11 hJ11 J12 hJ12 => ⟨_, _, _, f1_cell (I.at 0), ad, ead, by omega, by omega, _, dc.1, _, dc.2.1, _, dc.2.2, ?_⟩
      have next : ∀ (hy : Heap) (Q' : WW) (x' : BU) (fl' : Nat → List Nat) (l' : List Bk) (bp' : Option Addr) (bc' : Nat), Q'.wb = wb → WI c x' fl' (lvB l') → l'.length ≤ i + 1 →
          Hold w.heap hy [blkR bb 1 fun _ => .slice bp' l'.length bc', wbR c Q' x' bp' bc' l'] → J11 [.slice p n cp, .slice q m cq, .pointer (some ⟨wb, 0, none⟩), .pointer (some ⟨bb, 0, none⟩), .int .i64 (i : Int)] hy := by
        intro hy Q' x' fl' l' bp' bc' hq' W' hl' I'
        refine hJ11 _ _ _ _ _ _ _ _ _ _ ?_
        rw [hwr]
        exact ih (i + 1) hy Q' x' fl' l' bp' bc' (by omega) hq' W' hl' (by omega) I'
      have after : ∀ (nb : Nat) (hy : Heap) (Q' : WW) (x' : BU) (fl' : Nat → List Nat) (l' : List Bk) (bp' : Option Addr) (bc' : Nat) (v : Value), Q'.wb = wb → WI c x' fl' (lvB l') → l'.length ≤ i + 1 →
          Hold w.heap hy [blkR nb 1 fun _ => .slice bp' l'.length bc', blkR bb 1 fun _ => v, wbR c Q' x' bp' bc' l'] → J12 [.slice p n cp, .slice q m cq, .pointer (some ⟨wb, 0, none⟩), .pointer (some ⟨bb, 0, none⟩), .int .i64 (i : Int), .pointer (some ⟨nb, 0, none⟩), .bool true] hy := by
        intro nb hy Q' x' fl' l' bp' bc' v hq' W' hl' I'
        obtain ⟨w9, S9⟩ := f1_set (I'.at 1) (.slice bp' l'.length bc')
        have I9 := (I'.step 1 S9).drop
        refine hJ12 _ _ _ _ _ _ _ _ _ _ _ _ (iF rfl ⟨_, _, _, f1_cell (I'.at 0), w9, ?_⟩)
        generalize setC hy ⟨bb, 0, none⟩ (.slice bp' l'.length bc') = hz at I9 ⊢
        have I9 : Hold w.heap hz [blkR bb 1 fun _ => .slice bp' l'.length bc', wbR c Q' x' bp' bc' l'] := I9
        by_cases him : (i : Int) ≥ (m : Int)
        · exact iT (decide_eq_true him) (next hz Q' x' fl' l' bp' bc' hq' W' hl' I9)
        have him : i < m := by omega
        have HB : (wbR c Q' x' bp' bc' l').P hz := I9.at 1
        have g5' := W'.g
        have hx' := W'.ok
        have o8 := hx'.m.o8
        have n1 := hx'.m.n1
        have h0 := Nat.two_pow_pos x'.m.o
        refine iF (decide_eq_false (by omega)) ⟨_, rfl, _, (by rw [← hq']; exact wb_cell HB (i := 5) (by omega)), ?_⟩
        refine headsW W' HB.1 fun h69 p69 c69 N69 => ⟨_, _, _, rfl, fun J15 hJ15 => ?_⟩
        have I10 := I9.new N69
        have I10 : Hold w.heap h69 [slR p69 (hdL c fl' x'.m.o).length c69 1 (uL (hdL c fl' x'.m.o)), blkR bb 1 fun _ => .slice bp' l'.length bc', wbR c Q' x' bp' bc' l'] := I10
        have HB10 : (wbR c Q' x' bp' bc' l').P h69 := I10.at 2
        -- what comes behind
        have fin15 : ∀ (Q2 : WW) (z : BU) (hv : Heap), Q2.wb = wb → WI c z fl' (lvB l') → z.m.o = x'.m.o → Stp h69 hv (wsR c Q' x') (wsR c Q2 z) →
            J15 [.slice p n cp, .slice q m cq, .pointer (some ⟨wb, 0, none⟩), .pointer (some ⟨bb, 0, none⟩), .int .i64 (i : Int), .slice p69 (hdL c fl' x'.m.o).length (hdL c fl' x'.m.o).length] hv := by
          intro Q2 z hv hq2 Wz ez S
          have I11 := I10.step 2 (R := wbR c Q' x' bp' bc' l') (S.left HB10)
          have I11 : Hold w.heap hv [slR p69 (hdL c fl' x'.m.o).length c69 1 (uL (hdL c fl' x'.m.o)), blkR bb 1 fun _ => .slice bp' l'.length bc', wbR c Q2 z bp' bc' l'] := I11
          have HB11 : (wbR c Q2 z bp' bc' l').P hv := I11.at 2
          refine hJ15 _ _ _ _ _ _ _ _ _ _ _ _ _ ⟨_, rfl, _, (by rw [← hq2]; exact wb_cell HB11 (i := 5) (by omega)), ?_⟩
          refine headsW Wz HB11.1 fun h12 p12 c12 N12 => ⟨_, _, _, rfl, ?_⟩
          rw [ez] at N12 ⊢
          have I12 := I11.new N12
          have hlen : (hdL c fl' x'.m.o).length < 4611686018427387904 := by rw [hdL_len]; omega
          refine ints_ok hlen (sl_uL (I12.at 0)) (sl_uL (I12.at 1)) ⟨_, rfl, fun J18 hJ18 => pF (by simp) ?_⟩
          have HB12 : (wbR c Q2 z bp' bc' l').P h12 := I12.at 3
          refine ⟨_, _, _, f1_cell (I12.at 2), ?_⟩
          rw [← hq2]
          refine tiled_ok Wz (by omega) HB12 fun h13 S13 => ⟨_, rfl, hJ18 _ _ (iF rfl ?_)⟩
          have I13 := I12.step 3 S13
          exact next h13 Q2 z fl' l' bp' bc' hq2 Wz hl' (I13.sub (.cons _ (.cons _ (.cons_cons _ (.cons_cons _ .slnil)))))
        rcases hr' with hr0 | ⟨b', off', rfl, hr'⟩
        · omega
        have hcb : cellAt h69 ((⟨b', off', none⟩ : Addr).add (Int.toNat (i : Int) * 1)) = some (.bool (f' i)) := by
          rw [add_mk, Int.toNat_natCast, Nat.mul_one]
          exact cellAt_upd (hr' i him) I10.u id
        refine ⟨_, rfl, by omega, by omega, _, hcb, fun _ => ?_, fun _ => ?_⟩
        -- the map goes ahead
        · have H10 := HB10.1
          refine ⟨_, rfl, _, (by rw [← hq']; exact wb_cell HB10 (i := 4) (by omega)), ?_⟩
          refine pm_Grow_ok hx'.m (bu_map (wd_bu H10)) fun h78 w78 S78 => ⟨rfl, ?_⟩
          have go : (mGrow x'.m).o = x'.m.o := by unfold mGrow; split <;> rfl
          let y : BU := ⟨x'.st, x'.hd, mGrow x'.m⟩
          let Q2 : WW := { Q' with W := { Q'.W with w := w78 } }
          have T1 : Stp h69 h78 (wsR c Q' x') (wdR c Q2 x'.m.n x'.st.n y) := wd_lift (x' := y) (W' := { Q'.W with w := w78 }) H10 go ⟨rfl, rfl, rfl⟩ (bu_liftw (wd_bu H10) go S78)
          have hq2 : Q2.wb = wb := hq'
          have P1 := T1.p
          refine ⟨_, rfl, _, (by rw [← hq2]; exact wd_cell P1 (i := 4) (by omega)), _, rfl, _, (by rw [← hq2]; exact wd_cell P1 (i := 7) (by omega)), ?_⟩
          refine pm_Pages_ok (bu_map (wd_bu P1)) ⟨_, rfl, (by rw [← hq2]; exact wd_cell P1 (i := 7) (by omega)), fun J22 hJ22 => ?_⟩
          by_cases hroom : x'.m.n + 2 ^ x'.m.o ≤ 1024
          · have eg := grow_eq hroom
            have yn : y.m.n = x'.m.n + 2 ^ x'.m.o := by show (mGrow x'.m).n = _; rw [eg]
            have oky : BU.Ok c y := grow_b hx' hroom x'.st
            have tn : topU y = none := top_none (by
              show (mGrow x'.m).n ≠ x'.st.n * 2 ^ (mGrow x'.m).o
              have e0 := W'.e
              rw [go, ← e0]
              have : (mGrow x'.m).n = x'.m.n + 2 ^ x'.m.o := yn
              omega)
            have hgt : ((y.m.n : Nat) : Int) > ((x'.m.n : Nat) : Int) := by rw [yn]; omega
            refine qT (decide_eq_true hgt) ⟨_, rfl, _, (by rw [← hq2]; exact wd_cell P1 (i := 5) (by omega)), ?_⟩
            refine feedA oky tn P1 fun h96 S96 => ⟨_, rfl, fun J24 hJ24 => ?_⟩
            have T2 := T1.trans S96
            refine pF rfl ⟨_, rfl, _, (by rw [← hq2]; exact wd_cell T2.p (i := 5) (by omega)), ?_⟩
            refine pullA oky tn T2.p fun h103 S103 => ⟨_, rfl, hJ24 _ _ fun J25 hJ25 => ?_⟩
            have T3 := T2.trans S103
            have P3 := T3.p
            refine pF rfl ⟨_, rfl, _, (by rw [← hq2]; exact wd_cell P3 (i := 4) (by omega)), ?_⟩
            have hdiv : 1 ≤ y.m.n / 2 ^ y.m.o := by
              have : y.m.o = x'.m.o := go
              rw [this]
              exact (Nat.le_div_iff_mul_le h0).2 (by omega)
            refine pm_Shrink_ok (k := 1) oky.m (by omega) (bu_map (wd_bu P3)) (fun t et ht h111 w111 S111 => ⟨_, rfl, hJ25 _ _ (hJ22 _ _ (iF rfl ?_))⟩) fun hcn => absurd (show (0 : Int) ≤ 1 ∧ (1 : Int) ≤ ((y.m.n / 2 ^ y.m.o : Nat) : Int) from ⟨by omega, by omega⟩) hcn
            have et : t = 1 := by omega
            subst et
            have T4 := T3.trans (wd_lift (x' := ⟨x'.st, x'.hd, mShrink y.m 1⟩) (W' := { Q2.W with w := w111 }) P3 rfl ⟨rfl, rfl, rfl⟩ (bu_liftw (wd_bu P3) rfl S111))
            have Wz := there_back W' hroom
            have zn : (mShrink y.m 1).n = x'.m.n := by
              show y.m.n - 1 * 2 ^ y.m.o = x'.m.n
              have : y.m.o = x'.m.o := go
              rw [this, yn]; omega
            refine fin15 { Q2 with W := { Q2.W with w := w111 } } ⟨x'.st, x'.hd, mShrink y.m 1⟩ h111 hq2 Wz go ?_
            show Stp h69 h111 (wsR c Q' x') (wdR c _ (mShrink y.m 1).n x'.st.n _)
            rw [zn]
            exact T4
          · have eg : mGrow x'.m = x'.m := by unfold mGrow; rw [if_pos (by omega)]
            have ey : y = x' := by show (⟨x'.st, x'.hd, mGrow x'.m⟩ : BU) = x'; rw [eg]
            have hle : ¬ ((y.m.n : Nat) : Int) > ((x'.m.n : Nat) : Int) := by rw [ey]; omega
            refine qF' (decide_eq_false hle) (hJ22 _ _ (iF rfl (fin15 Q2 x' h78 hq2 W' rfl ?_)))
            rw [ey] at T1
            exact T1
        -- the space goes ahead
        · have H10 := HB10.1
          refine ⟨_, rfl, _, (by rw [← hq']; exact wb_cell HB10 (i := 3) (by omega)), _, rfl, _, (by rw [← hq']; exact wb_cell HB10 (i := 1) (by omega)), ?_⟩
          refine mem_Regions_ok (bu_sp (wd_bu H10)) ⟨_, rfl, (by rw [← hq']; exact wb_cell HB10 (i := 1) (by omega)), ?_⟩
          by_cases hlt : (x'.st.n : Int) < c.limit
          case neg => exact iF (decide_eq_false hlt) (fin15 Q' x' h69 hq' W' rfl (Stp.refl H10))
          refine iT (decide_eq_true hlt) ⟨_, rfl, _, (by rw [← hq']; exact wb_cell HB10 (i := 3) (by omega)), ?_⟩
          refine commit_ok (bu_sp (wd_bu H10)) hlt fun Z' h131 S131 => ⟨_, _, rfl, fun J30 hJ30 => ?_⟩
          let y : BU := ⟨growS c x'.st, x'.hd, x'.m⟩
          let Q2 : WW := { Q' with W := { Q'.W with Z := Z' } }
          have hq2 : Q2.wb = wb := hq'
          have T1 : Stp h69 h131 (wsR c Q' x') (wdR c Q2 x'.m.n x'.st.n y) := wd_lift (x' := y) (W' := { Q'.W with Z := Z' }) H10 rfl ⟨rfl, rfl, rfl⟩ (bu_liftZ (wd_bu H10) S131)
          have oky : BU.Ok c y := ⟨hx'.m, hx'.o, hx'.b⟩
          have tn : topU y = none := apart_none W'.e (growS c x'.st) rfl
          refine pF rfl ⟨_, rfl, _, (by rw [← hq2]; exact wd_cell T1.p (i := 5) (by omega)), ?_⟩
          refine feedA oky tn T1.p fun h141 S141 => ⟨_, rfl, hJ30 _ _ fun J31 hJ31 => ?_⟩
          have T2 := T1.trans S141
          refine pF rfl ⟨_, rfl, _, (by rw [← hq2]; exact wd_cell T2.p (i := 5) (by omega)), ?_⟩
          refine pullA oky tn T2.p fun h149 S149 => ⟨_, rfl, hJ31 _ _ fun J32 hJ32 => ?_⟩
          have T3 := T2.trans S149
          have P3 := T3.p
          refine pF rfl ⟨_, rfl, _, (by rw [← hq2]; exact wd_cell P3 (i := 3) (by omega)), ?_⟩
          have eyn : y.st.n = x'.st.n + 1 := rfl
          refine mem_Decommit_ok (k := 1) (by omega) (bu_sp (wd_bu P3)) (fun hcn => absurd hcn (by rw [eyn]; omega)) fun m' em hm h157 u157 hs157 H157 => ⟨_, rfl, hJ32 _ _ (iF rfl ?_)⟩
          have em : m' = (growS c x'.st).n - 1 := by rw [eyn] at em; show m' = x'.st.n + 1 - 1; omega
          subst em
          have S5 : Stp h149 h157 (spR Q2.W.s c Q2.W.Z y.st) (spR Q2.W.s c Q2.W.Z ⟨(growS c x'.st).n - 1, (growS c x'.st).M⟩) := ⟨u157, H157, fun b e => .inl e⟩
          have T4 := T3.trans (wd_lift' (x' := ⟨⟨(growS c x'.st).n - 1, (growS c x'.st).M⟩, x'.hd, x'.m⟩) P3 rfl (bu_liftsp (wd_bu P3) S5))
          exact fin15 Q2 ⟨⟨(growS c x'.st).n - 1, (growS c x'.st).M⟩, x'.hd, x'.m⟩ h157 hq2 (back_there W') rfl T4
      rw [← hq]
      refine ⟨?_, ?_⟩
      · refine do_ok W (by omega) (I.at 1) fun x' fl' l' Q' h7 bp' bc' eq' W' _ hl' S7 => ⟨_, _, _, _, rfl, ?_⟩
        have I7 := I.step 1 S7
        have N8 := box1 h7 (.slice none 0 0) T.T_croftlaw5_book
        generalize Array.push h7 (.cells #[.slice none 0 0] T.T_croftlaw5_book) = h8 at N8 ⊢
        have I8 := I7.new N8
        have dc := hcell h8 I8.u
        obtain ⟨w9, S9⟩ := f1_set (I8.at 0) (.slice bp' l'.length bc')
        have I9 := I8.step 0 S9
        rw [hq]
        exact ⟨dc.1, dc.2.1, dc.2.2, f1_cell (I8.at 1), w9, after _ _ Q' x' fl' l' bp' bc' _ (eq'.trans hq) W' (by omega) I9⟩
      · have N8 := box1 hx (.slice none 0 0) T.T_croftlaw5_book
        generalize Array.push hx (.cells #[.slice none 0 0] T.T_croftlaw5_book) = h8 at N8 ⊢
        have I8 := I.new N8
        have dc := hcell h8 I8.u
        refine ⟨dc.1, dc.2.1, dc.2.2, f1_cell (I8.at 1), ?_⟩
        refine do_ok W (by omega) (I8.at 2) fun x' fl' l' Q' h7 bp' bc' eq' W' _ hl' S7 => ⟨_, _, _, _, rfl, ?_⟩
        have I7 := I8.step 2 S7
        obtain ⟨w9, S9⟩ := f1_set (I7.at 0) (.slice bp' l'.length bc')
        have I9 := I7.step 0 S9
        rw [hq]
        exact ⟨w9, after _ _ Q' x' fl' l' bp' bc' _ (eq'.trans hq) W' (by omega) I9⟩
  exact loop n 0 h6 Q1 x2 _ [] none 0 (by omega) eQ W2 (Nat.le_refl _) (by omega) I6
end Go.Proofs.Ytnlcmfdmbgnpfaa
