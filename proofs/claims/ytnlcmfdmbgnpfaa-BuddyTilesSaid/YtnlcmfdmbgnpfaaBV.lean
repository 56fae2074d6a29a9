/- croftlaw5: BuddyTiles. No condition. -/
import Derived.Test.YtnlcmfdmbgnpfaaBT
set_option linter.unusedSimpArgs false
set_option linter.unusedVariables false
namespace Go.Proofs.Ytnlcmfdmbgnpfaa
open Go.V Classical

section
variable {w₀ : World} {h0 h : Heap} {K : Value → Heap → Prop} {c : Cfg} {Q : WW} {x : BU} {fl : Nat → List Nat} {l l' : List Bk} {bp p' : Option Addr} {bc c' : Nat}

/-- The book is laid anew. -/
theorem rebook {X : Res} {rs : List Res} (I : Hold h0 h (slR p' l'.length c' 3 (bkV l') :: X :: wbR c Q x bp bc l :: rs)) : Hold h0 h (X :: wbR c Q x p' c' l' :: rs) := by
  have I1 : Hold h0 h (wbR c Q x bp bc l :: slR p' l'.length c' 3 (bkV l') :: X :: rs) := I.perm ((List.Perm.swap _ _ _).trans ((List.Perm.swap _ _ _).cons _))
  have I2 := I1.split
  have I3 : Hold h0 h (wsR c Q x :: slR p' l'.length c' 3 (bkV l') :: X :: rs) := I2.sub (.cons_cons _ (.cons _ (List.Sublist.refl _)))
  exact I3.join.swap

theorem tops (W : WI c x fl []) : (fl x.m.o).length = x.st.n := by
  have hO : (fl x.m.o).Nodup := W.rep.ndF (Nat.le_refl _)
  have h0 := Nat.two_pow_pos x.m.o
  have e := W.e
  have s1 : (fl x.m.o).Subset ((List.range x.st.n).map fun i => i * 2 ^ x.m.o) := fun p hp => by
    have al := W.rep.al (Nat.le_refl _) hp
    refine List.mem_map.2 ⟨p / 2 ^ x.m.o, List.mem_range.2 ?_, Nat.div_mul_cancel (Nat.dvd_of_mod_eq_zero al.1)⟩
    rw [e] at al
    exact Nat.div_lt_of_lt_mul (by rw [Nat.mul_comm]; exact al.2.2)
  have s2 : ((List.range x.st.n).map fun i => i * 2 ^ x.m.o).Subset (fl x.m.o) := fun p hp => by
    obtain ⟨i, hi, rfl⟩ := List.mem_map.1 hp
    have hi := List.mem_range.1 hi
    have hlt : i * 2 ^ x.m.o < x.m.n := by rw [e]; exact Nat.mul_lt_mul_of_pos_right hi h0
    obtain ⟨p, j, h1, h2, h3, h4, h5⟩ := find_free (s := i * 2 ^ x.m.o) W.til W.rep.nb (Nat.le_refl _) (Nat.mul_mod_left _ _) (stretch W (Nat.le_refl _) hlt) (fun b hb => by cases hb)
    have : j = x.m.o := by omega
    subst this
    have : p = i * 2 ^ x.m.o := by omega
    rw [← this]; exact h3
  have n2 : ((List.range x.st.n).map fun i => i * 2 ^ x.m.o).Nodup := by
    refine List.Pairwise.map _ (fun a b hab e => hab (Nat.eq_of_mul_eq_mul_right h0 e)) List.nodup_range
  have l1 := List.Nodup.length_le_of_subset hO s1
  have l2 := List.Nodup.length_le_of_subset n2 s2
  simp at l1 l2
  omega
end

theorem BuddyTiles_law {w : World} {a b d : Int} {p : Option Addr} {n cp : Nat} (ha : (Lit.int .u64 a).wf = true) (hb : (Lit.int .i64 b).wf = true) (hd : (Lit.int .i64 d).wf = true) (hs : Dds w.heap p n cp) :
    CallV Try.prog w F.croftlaw5_BuddyTiles [.agg #[.int .u64 a, .int .i64 b, .int .i64 d], .slice p n cp] w.heap fun v h' => v = .bool true ∧ Upd NoB w.heap h' := by
  obtain ⟨f, hn, hc, hr⟩ := hs
  have hfin : ∀ h', Upd NoB w.heap h' → (fun (r : Value) (h' : Heap) => r = Value.bool true ∧ Upd NoB w.heap h') (.bool true) h' := fun h' u => ⟨rfl, u⟩
  generalize (fun (r : Value) (h' : Heap) => r = Value.bool true ∧ Upd NoB w.heap h') = K at hfin ⊢
  refine croftlaw5_BuddyTiles.call ?_
  unfold croftlaw5_BuddyTiles.vc
  have N0 := box3 w.heap (.int .u64 a) (.int .i64 b) (.int .i64 d) T.T_api_Config
  generalize Array.push w.heap (.cells #[.int .u64 a, .int .i64 b, .int .i64 d] T.T_api_Config) = h0 at N0 ⊢
  have I0 := (Hold.nil w.heap).new N0
  obtain ⟨k0, k1, k2⟩ := f3_cells (I0.at 0)
  refine ⟨_, k0, _, k1, _, k2, beginW (wf_u64 ha) fun h1 Q N1 => ⟨_, rfl, fun J3 hJ3 => pF rfl ?_⟩⟩
  have g5 := usual_good a b d
  generalize usualC a b d = c at N1 g5
  have W0 := wi0 g5
  have sn : (BU0 c).st.n = 0 := rfl
  generalize BU0 c = x0 at N1 W0 sn
  have I1 := I0.new N1
  refine lives_ok fun h2 u2 => ⟨_, rfl, hJ3 _ _ fun J4 hJ4 => pF rfl ?_⟩
  have I2 := I1.quiet u2
  have hlim : (x0.st.n : Int) < c.limit := by rw [sn]; have := g5.l1; omega
  refine comeW (fl := fun _ => []) (L := []) (Q := Q) W0 (I2.at 0) hlim fun x1 h3 Q1 eQ W1 eo en es _ S3 => ⟨_, rfl, hJ4 _ _ fun J5 hJ5 => pF rfl ?_⟩
  have I3 := I2.step 0 S3
  have e1 : x1.m.n - 2 ^ x1.m.o = x0.m.n := by rw [en, eo, Nat.add_sub_cancel]
  generalize hwb : Q.wb = wb at eQ hJ3 hJ4 hJ5 ⊢
  refine ⟨_, rfl, _, (by rw [← eQ]; exact wd_cell (I3.at 0) (i := 5) (by omega)), ?_⟩
  refine feedW W1 (I3.at 0) (by omega) (L' := []) (by rw [e1, eo]) fun x2 h4 W2 M2 S4 => ⟨_, rfl, hJ5 _ _ (iF rfl ?_)⟩
  have I4 := I3.step 0 S4
  have I4 : Hold w.heap h4 [wsR c Q1 x2, blkR w.heap.size 3 (f3 (.int .u64 a) (.int .i64 b) (.int .i64 d))] := I4
  have N5 := box1 h4 (.slice none 0 0) T.T_croftlaw5_book
  generalize Array.push h4 (.cells #[.slice none 0 0] T.T_croftlaw5_book) = h5 at N5 ⊢
  obtain ⟨bb, ebb⟩ : ∃ bb, bb = Array.size h4 := ⟨_, rfl⟩
  rw [← ebb] at N5 ⊢
  have I5 := ((I4.sub (rs' := [wsR c Q1 x2]) (.cons_cons _ (.cons _ .slnil))).new (R := slR none ([] : List Bk).length 0 3 (bkV [])) ⟨Upd.refl _ _, sl_nil _ _ _, fun b e => absurd e (sl_nil_fp b)⟩).swap.join.new N5
  obtain ⟨w6, S6⟩ := f1_set (I5.at 0) (.slice none 0 0)
  have I6 := I5.step 0 S6
  refine ⟨w6, fun J8 hJ8 L18 hL18 => ?_⟩
  generalize setC h5 ⟨bb, 0, none⟩ (.slice none 0 0) = h6 at I6 ⊢
  -- all come back
  have back : ∀ (hx : Heap) (Q : WW) (x : BU) (fl : Nat → List Nat) (l : List Bk) (bp : Option Addr) (bc : Nat), Q.wb = wb → WI c x fl (lvB l) → l.length ≤ 1000 → Hold w.heap hx [blkR bb 1 fun _ => .slice bp l.length bc, wbR c Q x bp bc l] →
      J8 [.pointer (some ⟨wb, 0, none⟩), .pointer (some ⟨bb, 0, none⟩)] hx := by
    intro hx Q x fl l bp bc hq W hl I
    subst hq
    refine hJ8 _ _ _ fun J9 hJ9 L13 hL13 => ?_
    have loop : ∀ (k : Nat) (hy : Heap) (x : BU) (fl : Nat → List Nat) (l : List Bk) (bp : Option Addr) (bc : Nat), l.length = k → k ≤ 1000 → WI c x fl (lvB l) → Hold w.heap hy [blkR bb 1 fun _ => .slice bp l.length bc, wbR c Q x bp bc l] →
        L13 [.pointer (some ⟨Q.wb, 0, none⟩), .pointer (some ⟨bb, 0, none⟩)] hy := by
      intro k
      induction k with
      | zero =>
        intro hy x fl l bp bc hk _ W I
        have hl0 : l = [] := List.eq_nil_of_length_eq_zero hk
        subst hl0
        have HB : (wbR c Q x bp bc []).P hy := I.at 1
        have W : WI c x fl [] := W
        have o8 := W.ok.m.o8
        have n1 := W.ok.m.n1
        have hxo := W.ok.o
        have h8 := pow8 o8
        refine hL13 _ _ _ ⟨_, _, _, f1_cell (I.at 0), iF (decide_eq_false (by simp)) (hJ9 _ _ _ ⟨_, _, _, f1_cell (I.at 0), ?_⟩)⟩
        refine tiled_ok (l := []) W (by simp) HB fun h7 S7 => ⟨_, rfl, fun J11 hJ11 => qT rfl ?_⟩
        have I7 := I.step 1 S7
        have HB7 : (wbR c Q x bp bc []).P h7 := I7.at 1
        have c2 : cellAt h7 ((⟨Q.wb, 0, none⟩ : Addr).add 2) = some (.int .i64 (x.m.o : Int)) := by have := wb_cell HB7 (i := 2) (by omega); rw [hxo]; exact this
        refine ⟨_, rfl, _, wb_cell HB7 (i := 5) (by omega), _, rfl, _, c2, _, rfl, _, c2, _, rfl, _, wb_cell HB7 (i := 7) (by omega), ?_⟩
        refine freeW W HB7.1 (Nat.le_refl _) fun h9 p9 c9 S9 => ⟨_, _, _, rfl, ?_⟩
        have S9' : Stp h7 h9 (wsR c Q x) (wsR c Q x) := S9.conv (fun A => A.1) fun b e => .inl e
        have I9 := I7.step 1 (R := wbR c Q x bp bc []) (S9'.left HB7)
        have HB9 : (wbR c Q x bp bc []).P h9 := I9.at 1
        have c2 : cellAt h9 ((⟨Q.wb, 0, none⟩ : Addr).add 2) = some (.int .i64 (x.m.o : Int)) := by have := wb_cell HB9 (i := 2) (by omega); rw [hxo]; exact this
        have ew : IntKind.wrap .u64 (x.m.o : Int) = (x.m.o : Int) := by rw [IntKind.wrap_u64]; omega
        refine ⟨wb_cell HB9 (i := 7) (by omega), c2, by rw [ew]; omega, ?_⟩
        have ht := tops W
        have hlen : ((fl x.m.o).map (adr c)).length = x.st.n := by rw [List.length_map, ht]
        have e0 := W.e
        have hmul : IntKind.wrap .i64 ((x.st.n : Int) * 2 ^ min (Int.toNat (x.m.o : Int)) (IntKind.bits .i64)) = (x.m.n : Int) := by
          have e2 : min (Int.toNat (x.m.o : Int)) (IntKind.bits .i64) = x.m.o := by rw [Int.toNat_natCast]; show min x.m.o 64 = x.m.o; omega
          rw [e2]
          have e3 : ((x.st.n : Int) * 2 ^ x.m.o) = (x.m.n : Int) := by rw [e0]; simp
          rw [e3, IntKind.wrap_i64]; omega
        rw [hlen, ew, hmul, beq_self_eq_true]
        exact hJ11 _ _ (hfin _ I9.u)
      | succ k ih =>
        intro hy x fl l bp bc hk hk2 W I
        have hil : 0 < l.length := by omega
        have HB : (wbR c Q x bp bc l).P hy := I.at 1
        have hlv := erase_lv hil
        have hel := erase_len hil
        have W1 := W.perm hlv
        obtain ⟨ad, e1, r1, r2, r3⟩ := row_bk (sl_row HB.2.1) (Upd.refl _ hy) hil
        generalize hbb : l.getD 0 bk0 = bbk at hlv W1 r1 r2 r3
        have al := W1.al (List.mem_cons_self ..)
        simp only [Bk.b] at al
        have hpb := Nat.two_pow_pos bbk.k
        have n1 := W.ok.m.n1
        refine hL13 _ _ _ ⟨_, _, _, f1_cell (I.at 0), iT (decide_eq_true (by omega)) ⟨_, rfl, _, wb_cell HB (i := 5) (by omega), _, _, _, f1_cell (I.at 0), ad, e1, by omega, by omega, _, r1, _, _, _, f1_cell (I.at 0), ad, e1, by omega, by omega, _, r2, ?_⟩⟩
        refine at_ok W.ok HB.1 (by omega) ⟨_, rfl, r2, f1_cell (I.at 0), wb_cell HB (i := 5) (by omega), ?_⟩
        refine giveW W HB.1 hlv fun x' h7 W' M S7 => ⟨_, rfl, iF rfl ?_⟩
        have I7 := I.step 1 (R := wbR c Q x bp bc l) (S7.left HB)
        have HB7 : (wbR c Q x' bp bc l).P h7 := I7.at 1
        refine ⟨_, _, _, f1_cell (I7.at 0), without_ok (i := 0) (by omega) hil (sl_row HB7.2.1) fun h8 p8 c8 N8 => ⟨_, _, _, rfl, ?_⟩⟩
        have I8 := I7.new N8
        obtain ⟨w9, S9⟩ := f1_set (I8.at 1) (.slice p8 (l.eraseIdx 0).length c8)
        have I9 := I8.step 1 S9
        exact ⟨w9, ih _ x' _ (l.eraseIdx 0) p8 c8 (by omega) (by omega) W' (rebook I9)⟩
    exact loop l.length hx x fl l bp bc rfl hl W I
  have loop : ∀ (k i : Nat) (hx : Heap) (Q : WW) (x : BU) (fl : Nat → List Nat) (l : List Bk) (bp : Option Addr) (bc : Nat), i + k = n → Q.wb = wb → WI c x fl (lvB l) → l.length ≤ i → i ≤ 150 → Hold w.heap hx [blkR bb 1 fun _ => .slice bp l.length bc, wbR c Q x bp bc l] →
      L18 [.slice p n cp, .pointer (some ⟨wb, 0, none⟩), .pointer (some ⟨bb, 0, none⟩), .int .i64 (i : Int)] hx := by
    intro k
    induction k with
    | zero =>
      intro i hx Q x fl l bp bc hi hq W hl h150 I
      exact hL18 _ _ _ _ _ _ _ fun J10 hJ10 => qF' (decide_eq_false (by omega)) (hJ10 _ _ (iF rfl (back hx Q x fl l bp bc hq W (by omega) I)))
    | succ k ih =>
      intro i hx Q x fl l bp bc hi hq W hl h150 I
      refine hL18 _ _ _ _ _ _ _ fun J10 hJ10 => qT (decide_eq_true (by omega)) (hJ10 _ _ ?_)
      by_cases h300 : (i : Int) < 150
      case neg => exact iF (decide_eq_false h300) (back hx Q x fl l bp bc hq W (by omega) I)
      obtain ⟨ad, ead, hcell⟩ := dd_at hr (i := i) (by omega)
      have dc := hcell hx I.u
      have hwr : IntKind.wrap .i64 ((i : Int) + 1) = ((i + 1 : Nat) : Int) := by rw [IntKind.wrap_i64]; omega
      refine iT (decide_eq_true h300) fun J20 hJ20 => ⟨_, _, _, f1_cell (I.at 0), ad, ead, by omega, by omega, _, dc.1, _, dc.2.1, _, dc.2.2, ?_⟩
      have after : ∀ (nb : Nat) (hy : Heap) (Q' : WW) (x' : BU) (fl' : Nat → List Nat) (l' : List Bk) (bp' : Option Addr) (bc' : Nat) (v : Value), Q'.wb = wb → WI c x' fl' (lvB l') → l'.length ≤ i + 1 →
          Hold w.heap hy [blkR nb 1 fun _ => .slice bp' l'.length bc', blkR bb 1 fun _ => v, wbR c Q' x' bp' bc' l'] → J20 [.slice p n cp, .pointer (some ⟨wb, 0, none⟩), .pointer (some ⟨bb, 0, none⟩), .int .i64 (i : Int), .pointer (some ⟨nb, 0, none⟩), .bool true] hy := by
        intro nb hy Q' x' fl' l' bp' bc' v hq' W' hl' I'
        have HB' : (wbR c Q' x' bp' bc' l').P hy := I'.at 2
        refine hJ20 _ _ _ _ _ _ _ _ _ fun J21 hJ21 => pF rfl ⟨_, _, _, f1_cell (I'.at 0), ?_⟩
        rw [← hq']
        refine tiled_ok W' (by omega) HB' fun h7 S7 => ⟨_, rfl, hJ21 _ _ (iF rfl ?_)⟩
        have I7 := I'.step 2 S7
        obtain ⟨w9, S9⟩ := f1_set (I7.at 1) (.slice bp' l'.length bc')
        have I9 := I7.step 1 S9
        refine ⟨_, _, _, f1_cell (I7.at 0), w9, ?_⟩
        rw [hwr]
        exact ih (i + 1) _ Q' x' fl' l' bp' bc' (by omega) hq' W' hl' (by omega) I9.drop
      rw [← hq]
      refine ⟨?_, ?_⟩
      · refine do_ok W (by omega) (I.at 1) fun x' fl' l' Q' h7 bp' bc' eq' W' _ hl' S7 => ⟨_, _, _, _, rfl, ?_⟩
        have I7 := I.step 1 S7
        have N8 := box1 h7 (.slice none 0 0) T.T_croftlaw5_book
        generalize Array.push h7 (.cells #[.slice none 0 0] T.T_croftlaw5_book) = h8 at N8 ⊢
        have I8 := I7.new N8
        have dc := hcell h8 I8.u
        obtain ⟨w9, S9⟩ := f1_set (I8.at 0) (.slice bp' l'.length bc')
        have I9 := I8.step 0 S9
        rw [hq]
        exact ⟨dc.1, dc.2.1, dc.2.2, f1_cell (I8.at 1), w9, after _ _ Q' x' fl' l' bp' bc' _ (eq'.trans hq) W' (by omega) I9⟩
      · have N8 := box1 hx (.slice none 0 0) T.T_croftlaw5_book
        generalize Array.push hx (.cells #[.slice none 0 0] T.T_croftlaw5_book) = h8 at N8 ⊢
        have I8 := I.new N8
        have dc := hcell h8 I8.u
        refine ⟨dc.1, dc.2.1, dc.2.2, f1_cell (I8.at 1), ?_⟩
        refine do_ok W (by omega) (I8.at 2) fun x' fl' l' Q' h7 bp' bc' eq' W' _ hl' S7 => ⟨_, _, _, _, rfl, ?_⟩
        have I7 := I8.step 2 S7
        obtain ⟨w9, S9⟩ := f1_set (I7.at 0) (.slice bp' l'.length bc')
        have I9 := I7.step 0 S9
        rw [hq]
        exact ⟨w9, after _ _ Q' x' fl' l' bp' bc' _ (eq'.trans hq) W' (by omega) I9⟩
  exact loop n 0 h6 Q1 x2 _ [] none 0 (by omega) eQ W2 (Nat.le_refl _) (by omega) I6
end Go.Proofs.Ytnlcmfdmbgnpfaa
