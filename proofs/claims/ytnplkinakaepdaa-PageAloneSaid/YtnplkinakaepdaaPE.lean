/- Chapter 4's law PageAlone. No condition. -/
import Derived.Test.YtnplkinakaepdaaPC
set_option linter.unusedSimpArgs false
set_option linter.unusedVariables false
namespace Go.Proofs.Ytnplkinakaepdaa
open Go.V Classical

theorem mq_pageS {h : Heap} {gp : Option Addr} {n gc : Nat} {pg : Nat → Nat → Int} (H : (slR gp n gc 11 (pgF pg)).P h) {i : Nat} (hi : i < n) : ∃ b, gp = some ⟨b, 0, none⟩ ∧ ∀ j, j < 11 → cellAt h ⟨b, i * 11 + j, none⟩ = some (pcl j (pg i j)) := by
  obtain ⟨b, g, e, B, hc, hg⟩ := sl_some H (by omega)
  have hcz := Nat.mul_le_mul_right 11 hc
  refine ⟨b, e, fun j hj => ?_⟩
  rw [B.cell (by omega), hg _ (by omega), pgF_at _ hj]

/-- How many pages a call speaks of. -/
noncomputable def speaks (s : MS) (o : PO) : Nat := if (mCall s o).2 = true ∧ 3 ≤ o.kind ∧ o.kind ≤ 7 then (if o.kind = 3 then 2 ^ o.x.toNat else 1) else 0

theorem putP_ne {pg : Nat → Nat → Int} {m i : Nat} {Q : Nat → Int} (h : i ≠ m) : putP pg m Q i = pg i := by unfold putP; rw [if_neg h]

theorem mCall_alone {s : MS} {o : PO} (h1 : o.kind ≠ 1) (h2 : o.kind ≠ 2) : (mCall s o).1.n = s.n ∧
    ∀ i : Nat, (speaks s o = 0 ∨ (i : Int) < o.page ∨ o.page + speaks s o ≤ i) → (mCall s o).1.pg i = s.pg i := by
  unfold speaks
  by_cases k3 : o.kind = 3
  · by_cases hr : runOk s o.page o.x o.y
    · have e : mCall s o = ({ s with pg := runP s.pg o.page.toNat o.x.toNat o.y }, true) := by simp [mCall, k3, hr]
      rw [e]
      refine ⟨rfl, fun i hi => ?_⟩
      rw [if_pos ⟨rfl, by omega, by omega⟩, if_pos k3] at hi
      show runP s.pg o.page.toNat o.x.toNat o.y i = _
      unfold runP
      have hp : 1 ≤ 2 ^ o.x.toNat := Nat.one_le_two_pow
      have := hr.2.2.2.1
      rw [if_neg (by omega)]
    · have e : mCall s o = (s, false) := by simp [mCall, k3, hr]
      rw [e]; exact ⟨rfl, fun _ _ => rfl⟩
  have one : ∀ (b : Prop) (Q : Nat → Int), (b → 0 ≤ o.page) → (3 ≤ o.kind ∧ o.kind ≤ 7) → mCall s o = (if b then (setPg s o.page Q, true) else (s, false)) →
      (mCall s o).1.n = s.n ∧ ∀ i : Nat, ((if (mCall s o).2 = true ∧ 3 ≤ o.kind ∧ o.kind ≤ 7 then (if o.kind = 3 then 2 ^ o.x.toNat else 1) else 0) = 0 ∨ (i : Int) < o.page ∨ o.page + ((if (mCall s o).2 = true ∧ 3 ≤ o.kind ∧ o.kind ≤ 7 then (if o.kind = 3 then 2 ^ o.x.toNat else 1) else 0 : Nat) : Int) ≤ i) → (mCall s o).1.pg i = s.pg i := by
    intro b Q h0 hk e
    by_cases hb : b
    · rw [if_pos hb] at e
      rw [e]
      refine ⟨rfl, fun i hi => ?_⟩
      rw [if_pos ⟨rfl, hk⟩, if_neg k3] at hi
      have := h0 hb
      exact putP_ne (by omega)
    · rw [if_neg hb] at e
      rw [e]; exact ⟨rfl, fun _ _ => rfl⟩
  by_cases k4 : o.kind = 4
  · exact one (slabOk s o.page o.x) (slabP o.x) (fun h => h.1) (by omega) (by simp [mCall, k4])
  by_cases k5 : o.kind = 5
  · exact one (ownOk s o.page o.x o.live) (pown (s.pg o.page.toNat) o.x.toNat o.live) (fun h => h.1) (by omega) (by simp [mCall, k5])
  by_cases k6 : o.kind = 6
  · exact one (chainOk s o.page o.x o.y) (chainP (s.pg o.page.toNat) o.x o.y) (fun h => h.1) (by omega) (by simp [mCall, k6])
  by_cases k7 : o.kind = 7
  · exact one (firstOk s o.page o.x) (firstP (s.pg o.page.toNat) o.x) (fun h => h.1) (by omega) (by simp [mCall, k7])
  · by_cases hp : pairOk s o.x o.page
    · simp [mCall, h1, h2, k3, k4, k5, k6, k7, hp]
    · simp [mCall, h1, h2, k3, k4, k5, k6, k7, hp]

/-- Regions come and go above. -/
theorem mCall_front {s : MS} {o : PO} (hk : o.kind = 1 ∨ o.kind = 2) : (∀ i, i < s.n → i < (mCall s o).1.n → (mCall s o).1.pg i = s.pg i) ∧ ((mCall s o).2 = true ∨ (mCall s o).1.n = s.n) := by
  rcases hk with hk | hk
  · have e : mCall s o = (mGrow s, true) := by simp [mCall, hk]
    rw [e]
    refine ⟨fun i hi _ => ?_, .inl rfl⟩
    show (mGrow s).pg i = _
    unfold mGrow
    split
    · rfl
    · simp [hi]
  · by_cases hs : shrinkOk s o.x
    · have e : mCall s o = (mShrink s o.x.toNat, true) := by simp [mCall, hk, hs]
      rw [e]
      exact ⟨fun i hi _ => rfl, .inl rfl⟩
    · have e : mCall s o = (s, false) := by simp [mCall, hk, hs]
      rw [e]
      exact ⟨fun i hi _ => rfl, .inr rfl⟩

set_option maxHeartbeats 2000000 in
theorem PageAlone_law {w : World} {a0 : Int} {p : Option Addr} {n cp : Nat} {e : PO} (h0 : (Lit.int .i64 a0).wf = true) (hs : POps w.heap p n cp) (eok : e.Ok) :
    CallV Try.prog w F.croftlaw4_PageAlone [.int .i64 a0, .slice p n cp, pov e] w.heap fun v h' => v = .bool true ∧ Upd NoB w.heap h' := by
  obtain ⟨o, hnc, hcp, hat, hok⟩ := hs
  obtain ⟨z0, z1, z2, z3, z4⟩ := e
  let e : PO := ⟨z0, z1, z2, z3, z4⟩
  have eok : e.Ok := eok
  refine croftlaw4_PageAlone.call ?_
  unfold croftlaw4_PageAlone.vc
  have I1 : Hold w.heap _ [blkR w.heap.size 5 (pof e)] := (Hold.nil w.heap).new (po_box w.heap e)
  simp only [add_mk, Nat.zero_add]
  refine pg_awake_ok fun h13 u13 => ⟨true, rfl, iF rfl (pm_New_ok fun h16 mb w16 N16 => ⟨_, rfl, ?_⟩)⟩
  have I0 := (I1.quiet u13).new N16
  intro J3 k3 L16 hL16
  have calls : ∀ (r i : Nat) (hx : Heap) (wm : MW), i + r = n → Hold w.heap hx [mapR mb (runs o (mNew a0) i) wm, blkR w.heap.size 5 (pof e)] → L16 [.slice p n cp, .pointer (some ⟨w.heap.size, 0, none⟩), .pointer (some ⟨mb, 0, none⟩), .int .i64 (i : Int)] hx := by
    intro r
    induction r with
    | succ r ih =>
      intro i hx wm hi I
      obtain ⟨b, off, eb, hc⟩ := hat.one (i := i) (by omega)
      have e1 : IntKind.wrap .i64 ((i : Int) + 1) = ((i + 1 : Nat) : Int) := by rw [IntKind.wrap_i64]; omega
      refine hL16 _ _ _ _ _ _ _ (iT (by simp; omega) ?_)
      rw [eb]
      simp only [jor, jand, cellAt_new, add_mk, List.getElem?_toArray, Nat.zero_add, List.getElem?_cons_zero, List.getElem?_cons_succ, Option.some.injEq, Value.int.injEq, Value.bool.injEq, Value.pointer.injEq, Value.slice.injEq, true_and, and_true, exists_eq_left', exists_eq', and_assoc, exists_and_left, Int.toNat_natCast]
      refine ⟨by omega, by omega, ?_⟩
      have c5 := hc hx I.u
      refine ⟨_, c5 0 (by omega), _, c5 1 (by omega), _, c5 2 (by omega), _, c5 3 (by omega), _, c5 4 (by omega), ?_⟩
      refine call_ok (hok i (by omega)) (runs_ok (k := i) (mNew_ok a0) fun j hj => hok j (by omega)) (I.at 0) fun h28 w' S => ⟨_, rfl, ?_⟩
      rw [e1, ← eb]
      exact ih (i + 1) h28 w' (by omega) (I.step 0 S)
    | zero =>
      intro i hx wm hi I
      have : i = n := by omega
      subst this
      have sok : (runs o (mNew a0) i).Ok := runs_ok (mNew_ok a0) hok
      generalize runs o (mNew a0) i = s at *
      have n1 := sok.n1
      refine hL16 _ _ _ _ _ _ _ (iF (by simp) (k3 _ _ _ (pm_Plain_ok sok (I.at 0) fun h35 gp gc qp qc wp wc N35 => ⟨_, _, _, _, _, _, rfl, ?_⟩)))
      have I35 := I.new N35
      have c5 : ∀ {hz : Heap}, (blkR w.heap.size 5 (pof e)).P hz → ∀ j, j < 5 → cellAt hz ⟨w.heap.size, j, none⟩ = some (pof e j) := fun B j hj => Blk.cell B hj
      have B35 := c5 (I35.at 2)
      refine ⟨_, B35 0 (by omega), _, B35 1 (by omega), _, B35 2 (by omega), _, B35 3 (by omega), _, B35 4 (by omega), ?_⟩
      refine call_ok eok sok (I35.at 1) fun h40 w' S => ⟨_, rfl, ?_⟩
      have I40 := I35.step 1 S
      have sok' : (mCall s e).1.Ok := mCall_ok sok eok
      refine pm_Plain_ok sok' (I40.at 1) fun h43 gp' gc' qp' qc' wp' wc' N43 => ⟨_, _, _, _, _, _, rfl, ?_⟩
      have I43 := I40.new N43
      have B43 := c5 (I43.at 3)
      have n1' := sok'.n1
      -- what was told of both
      have PA : ∀ hz, Upd NoB h43 hz → (slR gp' (mCall s e).1.n gc' 11 (pgF (mCall s e).1.pg)).P hz := fun hz u => ((I43.quiet u).at 0 (R := plainR (mCall s e).1 gp' gc' qp' qc' wp' wc')).1
      have PB : ∀ hz, Upd NoB h43 hz → (slR gp s.n gc 11 (pgF s.pg)).P hz := fun hz u => ((I43.quiet u).at 1 (R := plainR s gp gc qp qc wp wc)).1
      have ok := fun (hz : Heap) (u : Upd NoB h43 hz) => (I43.quiet u).u
      have fr := @mCall_front s e
      have al := @mCall_alone s e
      have sp : speaks s e = if (mCall s e).2 = true ∧ 3 ≤ z0 ∧ z0 ≤ 7 then (if z0 = 3 then 2 ^ z2.toNat else 1) else 0 := rfl
      have sp3 : (mCall s e).2 = true → z0 = 3 → runOk s z1 z2 z3 := fun h1 h2 => by
        by_cases hr : runOk s z1 z2 z3
        · exact hr
        · have : mCall s e = (s, false) := by simp [mCall, e, h2, hr]
          rw [this] at h1; cases h1
      have spg : (mCall s e).2 = true → 3 ≤ z0 → z0 ≤ 7 → 0 ≤ z1 ∧ z1 < s.n := fun h1 h2 h3 => by
        have hz : z0 = 3 ∨ z0 = 4 ∨ z0 = 5 ∨ z0 = 6 ∨ z0 = 7 := by omega
        rcases hz with hz | hz | hz | hz | hz
        · have hr := sp3 h1 hz
          have : 1 ≤ 2 ^ z2.toNat := Nat.one_le_two_pow
          have := hr.2.2.2; omega
        · by_cases hr : slabOk s z1 z2
          · exact ⟨hr.1, hr.2.1⟩
          · have : mCall s e = (s, false) := by simp [mCall, e, hz, hr]
            rw [this] at h1; cases h1
        · by_cases hr : ownOk s z1 z2 z4
          · exact ⟨hr.1, hr.2.1⟩
          · have : mCall s e = (s, false) := by simp [mCall, e, hz, hr]
            rw [this] at h1; cases h1
        · by_cases hr : chainOk s z1 z2 z3
          · exact ⟨hr.1, hr.2.1⟩
          · have : mCall s e = (s, false) := by simp [mCall, e, hz, hr]
            rw [this] at h1; cases h1
        · by_cases hr : firstOk s z1 z2
          · exact ⟨hr.1, hr.2.1⟩
          · have : mCall s e = (s, false) := by simp [mCall, e, hz, hr]
            rw [this] at h1; cases h1
      generalize (mCall s e).1 = s' at *
      generalize (mCall s e).2 = okb at *
      refine ⟨_, B43 0 (by omega), ?_⟩
      intro J8 k8
      by_cases h12 : z0 = 1 ∨ z0 = 2
      · -- regions
        have go : J8 true h43 := by
          have fr := fr h12
          refine k8 _ _ (iT rfl ?_)
          have hA := PA h43 (Upd.refl _ _)
          have hB := PB h43 (Upd.refl _ _)
          obtain ⟨mn, hmn, hm1, hm2⟩ : ∃ mn : Nat, (if ((s'.n : Nat) : Int) < ((s.n : Nat) : Int) then ((s'.n : Nat) : Int) else ((s.n : Nat) : Int)) = mn ∧ mn ≤ s.n ∧ mn ≤ s'.n := by
            by_cases hlt : s'.n < s.n
            · exact ⟨s'.n, if_pos (by omega), by omega, by omega⟩
            · exact ⟨s.n, if_neg (by omega), by omega, by omega⟩
          rw [hmn, sl_front hA rfl, sl_front hB rfl]
          have hcA := hA.1
          have hcB := hB.1
          refine ⟨by omega, by omega, by omega, by omega, by omega, by omega, ?_⟩
          have e3 : Int.toNat (mn : Int) - Int.toNat (0 : Int) = mn := by simp
          rw [e3]
          refine SamePages_ok (by omega) (sl_row (sl_take hB hm1)) (sl_row (sl_take hA hm2)) fun b hb => ⟨_, rfl, ?_⟩
          have : b = true := hb.2 ⟨rfl, fun i hi j hj => by rw [fr.1 i (by omega) (by omega)]⟩
          subst this
          intro J10 k10
          refine qT rfl ?_
          intro J11 k11
          rcases fr.2 with h | h
          · exact pT h (k11 _ _ (k10 _ _ ⟨rfl, I43.u⟩))
          · cases okb
            · refine pF rfl (k11 _ _ (k10 _ _ ⟨by simp [h], I43.u⟩))
            · exact pT rfl (k11 _ _ (k10 _ _ ⟨rfl, I43.u⟩))
        rcases h12 with h | h
        · exact pT (by simp [pof, e, h]) go
        · refine pF (by simp [pof, e, h]) ⟨_, B43 0 (by omega), ?_⟩
          have : ((z0 == (2 : Int)) : Bool) = true := by simp [h]
          show J8 (z0 == 2) h43
          rw [this]; exact go
      -- the others
      have hal := al (fun h => h12 (.inl h)) (fun h => h12 (.inr h))
      have hnn : s'.n = s.n := hal.1
      have go : J8 false h43 := by
        refine k8 _ _ (iF rfl (iF (by simp; omega) ?_))
        intro J12 k12
        obtain ⟨spk, hspk⟩ : ∃ spk, spk = speaks s e := ⟨_, rfl⟩
        have hA := PA h43 (Upd.refl _ _)
        have hB := PB h43 (Upd.refl _ _)
        have hcA := hA.1
        have hcB := hB.1
        have q1 : cellAt h43 ⟨w.heap.size, 1, none⟩ = some (.int .i64 z1) := B43 1 (by omega)
        have bz1 : bd63 z1 := eok.p
        have sp256 : spk ≤ 1024 ∧ (spk ≠ 0 → 0 ≤ z1 ∧ z1 < s.n) := by
          rw [hspk, sp]
          split
          · rename_i hc
            have h5 := spg hc.1 hc.2.1 hc.2.2
            split
            · rename_i h3
              have := (sp3 hc.1 h3).2.2.2.2.2
              exact ⟨by omega, fun _ => h5⟩
            · exact ⟨by omega, fun _ => h5⟩
          · exact ⟨by omega, fun h => absurd rfl h⟩
        have j12 : ∀ sp0 : Int, (¬ (okb = true ∧ z0 = 3) → sp0 = (spk : Int)) → J12 [.pointer (some ⟨w.heap.size, 0, none⟩), .slice gp s.n gc, .bool okb, .slice gp' s'.n gc', .int .i64 sp0] h43 := fun sp0 hsp0 => by
          refine k12 _ _ _ _ _ _ _ _ _ _ ?_
          intro J13 k13
          have F13 : J13 [.pointer (some ⟨w.heap.size, 0, none⟩), .slice gp s.n gc, .slice gp' s'.n gc', .int .i64 (spk : Int)] h43 := by
            refine k13 _ _ _ _ _ _ _ _ _ ?_
            intro J14 k14 L15 hL15
            have loop : ∀ (r i : Nat), i + r = s'.n → L15 [.pointer (some ⟨w.heap.size, 0, none⟩), .slice gp s.n gc, .slice gp' s'.n gc', .int .i64 (spk : Int), .int .i64 (i : Int)] h43 := by
              intro r
              induction r with
              | zero =>
                intro i hi
                have : i = s'.n := by omega
                subst this
                exact hL15 _ _ _ _ _ _ _ _ _ _ (iF (by simp) (k14 _ ⟨trivial, I43.u⟩))
              | succ r ih =>
                intro i hi
                have e1 : IntKind.wrap .i64 ((i : Int) + 1) = ((i + 1 : Nat) : Int) := by rw [IntKind.wrap_i64]; omega
                have nx := ih (i + 1) (by omega)
                obtain ⟨b, eb, hc⟩ := mq_pageS hB (i := i) (by omega)
                obtain ⟨b', eb', hc'⟩ := mq_pageS hA (i := i) (by omega)
                refine hL15 _ _ _ _ _ _ _ _ _ _ (iT (by simp; omega) ?_)
                intro J16 k16
                have j16t : (speaks s e = 0 ∨ (i : Int) < z1) → J16 true h43 := fun hh => by
                  refine k16 _ _ ?_
                  intro J17 k17
                  refine pT rfl (k17 _ _ ?_)
                  intro J18 k18
                  refine qT rfl ?_
                  rw [eb, eb']
                  simp only [jor, jand, cellAt_new, add_mk, List.getElem?_toArray, Nat.zero_add, List.getElem?_cons_zero, List.getElem?_cons_succ, Option.some.injEq, Value.int.injEq, Value.bool.injEq, Value.pointer.injEq, Value.slice.injEq, true_and, and_true, exists_eq_left', exists_eq', and_assoc, exists_and_left, Int.toNat_natCast]
                  refine ⟨by omega, by omega, ld_page hc ⟨by omega, by omega, ld_page hc' ?_⟩⟩
                  rw [eq_page]
                  refine k18 _ _ (iF ?_ ?_)
                  · have := hal.2 i (hh.elim .inl fun h => .inr (.inl h))
                    simp [this]
                  · rw [e1]; exact nx
                by_cases hs0 : spk = 0
                · refine pT (by simp [hs0]) (j16t (.inl (by omega)))
                · refine pF (by simp; omega) ⟨_, by rw [add_mk]; exact q1, ?_⟩
                  by_cases hi1 : (i : Int) < z1
                  · have : decide ((i : Int) < z1) = true := by simp [hi1]
                    rw [this]; exact j16t (.inr hi1)
                  · have : decide ((i : Int) < z1) = false := by simp; omega
                    rw [this]
                    refine k16 _ _ ?_
                    intro J17 k17
                    refine pF rfl ⟨_, by rw [add_mk]; exact q1, ?_⟩
                    have hz1 := sp256.2 hs0
                    have ew : IntKind.wrap .i64 (z1 + (spk : Int)) = z1 + spk := by rw [IntKind.wrap_i64]; omega
                    rw [ew]
                    refine k17 _ _ ?_
                    intro J18 k18
                    by_cases hi2 : z1 + (spk : Int) ≤ i
                    · refine qT (by simp; exact hi2) ?_
                      rw [eb, eb']
                      simp only [jor, jand, cellAt_new, add_mk, List.getElem?_toArray, Nat.zero_add, List.getElem?_cons_zero, List.getElem?_cons_succ, Option.some.injEq, Value.int.injEq, Value.bool.injEq, Value.pointer.injEq, Value.slice.injEq, true_and, and_true, exists_eq_left', exists_eq', and_assoc, exists_and_left, Int.toNat_natCast]
                      refine ⟨by omega, by omega, ld_page hc ⟨by omega, by omega, ld_page hc' ?_⟩⟩
                      rw [eq_page]
                      refine k18 _ _ (iF ?_ ?_)
                      · have := hal.2 i (.inr (.inr (by rw [← hspk]; exact hi2)))
                        simp [this]
                      · rw [e1]; exact nx
                    · refine qF' (by simp; omega) (k18 _ _ (iF rfl ?_))
                      rw [e1]; exact nx
            exact loop s'.n 0 (by omega)
          intro J19 k19
          cases hokb : okb
          · refine qF' rfl (k19 _ _ (iF rfl ?_))
            rw [hsp0 (by simp [hokb])]; exact F13
          · refine qT rfl ⟨_, B43 0 (by omega), ?_⟩
            show J19 (z0 == 3) h43
            by_cases h3 : z0 = 3
            · have : (z0 == (3 : Int)) = true := by simp [h3]
              rw [this]
              have hr := sp3 hokb h3
              refine k19 _ _ (iT rfl ⟨_, by rw [add_mk]; exact B43 2 (by omega), hr.2.1, ?_⟩)
              show J13 [_, _, _, .int .i64 (IntKind.wrap .i64 (1 * 2 ^ min (Int.toNat z2) (IntKind.bits .i64)))] h43
              obtain ⟨x, hx⟩ : ∃ x : Nat, z2 = x := ⟨z2.toNat, by have := hr.2.1; omega⟩
              have hx8 : x ≤ 8 := by have := hr.2.2.1; have := sok.o8; omega
              have e5 : IntKind.wrap .i64 (1 * 2 ^ min (Int.toNat z2) (IntKind.bits .i64)) = (spk : Int) := by
                rw [hx, shl_i64 (by omega), hspk, sp, if_pos ⟨hokb, by omega, by omega⟩, if_pos h3, hx, Int.toNat_natCast]
              rw [e5]; exact F13
            · have : (z0 == (3 : Int)) = false := by simp [h3]
              rw [this]
              refine k19 _ _ (iF rfl ?_)
              rw [hsp0 (by simp [h3])]; exact F13
        intro J20 k20
        cases hokb : okb
        · refine qF' rfl (k20 _ _ ?_)
          intro J21 k21
          refine qF' rfl (k21 _ _ (iF rfl ?_))
          have := j12 0 fun _ => by rw [hspk, sp, if_neg (by simp [hokb])]; rfl
          exact this
        · refine qT rfl ⟨_, B43 0 (by omega), k20 _ _ ?_⟩
          intro J21 k21
          have q0 : cellAt h43 ⟨w.heap.size, 0, none⟩ = some (.int .i64 z0) := B43 0 (by omega)
          by_cases h3 : 3 ≤ z0
          · refine qT (by simp [pof, e]; exact h3) ⟨_, q0, ?_⟩
            by_cases h7 : z0 ≤ 7
            · have : decide (z0 ≤ 7) = true := by simp [h7]
              rw [this]
              refine k21 _ _ (iT rfl ?_)
              have := j12 1 fun hh => by
                have h3' : z0 ≠ 3 := fun h => hh ⟨hokb, h⟩
                rw [hspk, sp, if_pos ⟨hokb, h3, h7⟩, if_neg h3']; rfl
              exact this
            · have : decide (z0 ≤ 7) = false := by simp; omega
              rw [this]
              refine k21 _ _ (iF rfl ?_)
              have := j12 0 fun hh => by rw [hspk, sp, if_neg (by omega)]; rfl
              exact this
          · refine qF' (by simp [pof, e]; omega) (k21 _ _ (iF rfl ?_))
            have := j12 0 fun hh => by rw [hspk, sp, if_neg (by omega)]; rfl
            exact this
      refine pF (by simp [pof, e]; omega) ⟨_, B43 0 (by omega), ?_⟩
      have : ((z0 == (2 : Int)) : Bool) = false := by simp; omega
      show J8 (z0 == 2) h43
      rw [this]; exact go
  exact calls n 0 h16 w16 (by omega) I0

end Go.Proofs.Ytnplkinakaepdaa
