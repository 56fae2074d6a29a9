/- croftlaw5: users write into live blocks; BuddyKeeps. No condition. -/
import Derived.Test.YtnlcmfdmbgnpfaaBO
set_option linter.unusedSimpArgs false
set_option linter.unusedVariables false
namespace Go.Proofs.Ytnlcmfdmbgnpfaa
open Go.V Classical

section
variable {w₀ : World} {h h' : Heap} {c : Cfg} {Q : WW} {x : BU} {K : Value → Heap → Prop} {fl : Nat → List Nat} {L hs : List PBk} {l : List Bk} {p k : Nat}

/-- What lies in a live block is its user's. -/
theorem Rep.fill (R : Rep c x fl L hs) (hb : (p, k) ∈ L) {st' : Sto} (hn : st'.n = x.st.n) (hM : ∀ o, (o < 4096 * p ∨ 4096 * (p + 2 ^ k) ≤ o) → st'.M o = x.st.M o) : Rep c ⟨st', x.hd, x.m⟩ fl L hs := by
  refine ⟨⟨R.ok.m, R.ok.o, R.ok.b⟩, ⟨R.rm.b, R.rm.n, by have := R.rm.r; rw [hn]; exact this⟩, R.til, R.nb, fun j hj => ?_, R.pf, R.pl, R.bt⟩
  have L0 := R.ls j hj
  refine ⟨L0.hd, L0.nd, L0.cl, seg_congr (fun a ha => ?_) L0.sg⟩
  obtain ⟨q, hq, rfl⟩ := List.mem_map.1 ha
  have e1 : (adr c q - c.base).toNat = 4096 * q := by unfold adr; omega
  have e2 : (adr c q + 8 - c.base).toNat = 4096 * q + 8 := by unfold adr; omega
  have hbm : (p, k) ∈ hs ++ (L ++ blks x.m.o fl) := List.mem_append_right _ (List.mem_append_left _ hb)
  have hqm := R.mem hj hq
  have nd := R.til.nodup
  have hout : q < p ∨ p + 2 ^ k ≤ q := by
    refine Classical.byContradiction fun hno => ?_
    have := R.til.uniq hbm hqm (q := q) ⟨by simp only []; omega, by simp only []; omega⟩ cov_self
    have h2 := (List.nodup_append.1 (List.nodup_append.1 nd).2.1).2.2 (p, k) hb (q, j) (mem_blks.2 ⟨hj, hq⟩)
    exact h2 this
  have same : ∀ o, 4096 * q ≤ o → o < 4096 * q + 16 → st'.M o = x.st.M o := fun o h1 h2 => hM o (by
    rcases hout with ho | ho
    · left; omega
    · right; exact Nat.le_trans (Nat.mul_le_mul_left _ ho) h1)
  unfold Sto.rd
  rw [e1, e2]
  exact ⟨wrd_congr fun i hi => same _ (by omega) (by omega), wrd_congr fun i hi => same _ (by omega) (by omega)⟩

theorem live_there (W : WI c x fl L) (hb : (p, k) ∈ L) (g : c.Good) : There c x.st.n (adr c p) ((4096 * 2 ^ k : Nat) : Int) ∧ U64 (adr c p) ∧ 4096 * (p + 2 ^ k) ≤ x.st.n * c.size ∧ k ≤ 8 ∧ p < 4096 := by
  have al := W.al hb
  simp only [] at al
  have n1 := W.ok.m.n1
  have o8 := W.ok.m.o8
  have h0 := Nat.two_pow_pos k
  have r := W.rep.rm.r
  refine ⟨.inr ⟨by unfold adr; omega, by unfold adr; omega⟩, adr_u64 g W.ok.m (by omega), by omega, by omega, by omega⟩

theorem fillW (W : WI c x fl L) (hb : (p, k) ∈ L) {v : Int} (hv : 0 ≤ v ∧ v < 256) (H : (wsR c Q x).P h)
    (hK : ∀ st' h', st'.n = x.st.n → (∀ o, 4096 * p ≤ o → o < 4096 * (p + 2 ^ k) → st'.M o = v) → (∀ o, (o < 4096 * p ∨ 4096 * (p + 2 ^ k) ≤ o) → st'.M o = x.st.M o) → WI c ⟨st', x.hd, x.m⟩ fl L →
      Stp h h' (wsR c Q x) (wsR c Q ⟨st', x.hd, x.m⟩) → K (.int .i64 0) h') :
    CallV Try.prog w₀ F.mem_Space_Fill [.pointer (some ⟨Q.W.s, 0, none⟩), .int .u64 (adr c p), .int .u64 ((4096 * 2 ^ k : Nat) : Int), .int .u8 v] h K := by
  obtain ⟨t, hu, hle, k8, hp4⟩ := live_there W hb W.g
  have h8 := pow8 k8
  refine mem_Fill_ok hu (by omega) hv (bu_sp (wd_bu H)) (fun _ h1 u1 H1 => ?_) fun hn => absurd t hn
  have e1 : (adr c p - c.base).toNat = 4096 * p := by unfold adr; omega
  rw [e1, Int.toNat_natCast] at H1
  have e2 : 4096 * p + 4096 * 2 ^ k = 4096 * (p + 2 ^ k) := by rw [Nat.mul_add]
  rw [e2] at H1
  let st' : Sto := ⟨x.st.n, fun o => if 4096 * p ≤ o ∧ o < 4096 * (p + 2 ^ k) then v else x.st.M o⟩
  have hM : ∀ o, (o < 4096 * p ∨ 4096 * (p + 2 ^ k) ≤ o) → st'.M o = x.st.M o := fun o ho => by
    show (if 4096 * p ≤ o ∧ o < 4096 * (p + 2 ^ k) then v else x.st.M o) = _
    rw [if_neg (by omega)]
  have S1 : Stp h h1 (spR Q.W.s c Q.W.Z x.st) (spR Q.W.s c Q.W.Z st') := ⟨u1, H1, fun b e => .inl e⟩
  refine hK st' h1 rfl (fun o h1 h2 => ?_) hM ⟨W.rep.fill hb rfl hM, W.e, W.g⟩ ?_
  · show (if 4096 * p ≤ o ∧ o < 4096 * (p + 2 ^ k) then v else x.st.M o) = _
    rw [if_pos ⟨h1, h2⟩]
  · exact wd_lift' (x' := ⟨st', x.hd, x.m⟩) H rfl (bu_liftsp (wd_bu H) S1)

theorem readW (W : WI c x fl L) (hb : (p, k) ∈ L) (H : (wsR c Q x).P h)
    (hK : ∀ h' bb, New h h' (blkR bb (4096 * 2 ^ k) fun j => .int .u8 (x.st.M (4096 * p + j))) → K (.tuple #[.slice (some ⟨bb, 0, none⟩) (4096 * 2 ^ k) (4096 * 2 ^ k), .int .i64 0]) h') :
    CallV Try.prog w₀ F.mem_Space_Read [.pointer (some ⟨Q.W.s, 0, none⟩), .int .u64 (adr c p), .int .u64 ((4096 * 2 ^ k : Nat) : Int)] h K := by
  obtain ⟨t, hu, hle, k8, hp4⟩ := live_there W hb W.g
  have h8 := pow8 k8
  refine mem_Read_ok hu (by omega) (bu_sp (wd_bu H)) (fun _ h1 bb u1 hbb B1 => ?_) fun hn => absurd t hn
  have e1 : (adr c p - c.base).toNat = 4096 * p := by unfold adr; omega
  rw [e1, Int.toNat_natCast] at B1
  rw [Int.toNat_natCast]
  exact hK h1 bb ⟨u1, B1, fun b e => by have e : b = bb := e; omega⟩

theorem shl64 (hk : k ≤ 8) : IntKind.wrap .u64 ((4096 : Int) * 2 ^ min (Int.toNat (IntKind.wrap .u64 (k : Int))) (IntKind.bits .u64)) = ((4096 * 2 ^ k : Nat) : Int) ∧ IntKind.wrap .i64 ((4096 : Int) * 2 ^ min (Int.toNat (IntKind.wrap .u64 (k : Int))) (IntKind.bits .i64)) = ((4096 * 2 ^ k : Nat) : Int) := by
  have : k = 0 ∨ k = 1 ∨ k = 2 ∨ k = 3 ∨ k = 4 ∨ k = 5 ∨ k = 6 ∨ k = 7 ∨ k = 8 := by omega
  rcases this with rfl | rfl | rfl | rfl | rfl | rfl | rfl | rfl | rfl <;> decide

theorem marked_ok (W : WI c x fl (lvB l)) {b : Bk} (hb : b ∈ l) (hm : Mk x.st l) (H : (wsR c Q x).P h) (hK : ∀ h', Upd NoB h h' → K (.bool true) h') :
    CallV Try.prog w₀ F.croftlaw5_marked [.pointer (some ⟨Q.wb, 0, none⟩), .agg #[.int .i64 (b.p : Int), .int .i64 (b.k : Int), .int .u8 b.m]] h K := by
  refine croftlaw5_marked.call ?_
  unfold croftlaw5_marked.vc
  have hbL : (b.p, b.k) ∈ lvB l := List.mem_map.2 ⟨b, hb, rfl⟩
  obtain ⟨t, hu, hle, k8, hp4⟩ := live_there W hbL W.g
  have h8 := pow8 k8
  obtain ⟨s1, s2⟩ := shl64 k8
  have N1 := box3 h (.int .i64 (b.p : Int)) (.int .i64 (b.k : Int)) (.int .u8 b.m) T.T_croftlaw5_block
  generalize Array.push h (.cells #[.int .i64 (b.p : Int), .int .i64 (b.k : Int), .int .u8 b.m] T.T_croftlaw5_block) = h1 at N1 ⊢
  have I1 := (Go.V.Own.of H).new N1
  obtain ⟨b0, eb0⟩ : ∃ b0, b0 = h.size := ⟨_, rfl⟩
  rw [← eb0] at N1 I1 ⊢
  obtain ⟨q0, q1, q2⟩ := f3_cells (I1.at 0)
  have ew : IntKind.wrap .u64 (b.k : Int) = (b.k : Int) := by rw [IntKind.wrap_u64]; omega
  refine ⟨_, rfl, _, wd_cell (I1.at 1) (i := 3) (by omega), _, q0, _, q1, by rw [ew]; omega, ?_⟩
  refine at_ok W.ok (I1.at 1) (by omega) ⟨_, rfl, q1, wd_cell (I1.at 1) (i := 3) (by omega), ?_⟩
  rw [s1]
  refine readW W hbL (I1.at 1) fun h2 bb N2 => ⟨_, _, _, _, rfl, fun J4 hJ4 => ?_⟩
  have I2 := I1.new N2
  obtain ⟨q0, q1, q2⟩ := f3_cells (I2.at 1)
  refine pF rfl ⟨_, q1, by rw [ew]; omega, hJ4 _ _ (iF (by rw [s2]; simp) fun J5 hJ5 L6 hL6 => ?_)⟩
  have fin := hK h2 (N1.u.nx N2.u fun _ e _ => e)
  have loop : ∀ (d i : Nat), i + d = 4096 * 2 ^ b.k → L6 [.pointer (some ⟨b0, 0, none⟩), .slice (some ⟨bb, 0, none⟩) (4096 * 2 ^ b.k) (4096 * 2 ^ b.k), .int .i64 (i : Int)] h2 := by
    intro d
    induction d with
    | zero =>
      intro i hi
      exact hL6 _ _ _ _ _ _ (iF (decide_eq_false (by omega)) (hJ5 _ fin))
    | succ d ih =>
      intro i hi
      have B : Blk h2 bb (4096 * 2 ^ b.k) fun j => .int .u8 (x.st.M (4096 * b.p + j)) := N2.p
      have hc := B.cell (i := i) (by omega)
      have e : x.st.M (4096 * b.p + i) = b.m := hm b hb _ (by omega) (by rw [Nat.mul_add]; omega)
      rw [e] at hc
      refine hL6 _ _ _ _ _ _ (iT (decide_eq_true (by omega)) ⟨_, rfl, by omega, by omega, b.m, ?_, _, q2, iF (by simp) ?_⟩)
      · rw [add_mk, Int.toNat_natCast, Nat.mul_one, Nat.zero_add]; exact hc
      · rw [show IntKind.wrap .i64 ((i : Int) + 1) = ((i + 1 : Nat) : Int) by rw [IntKind.wrap_i64]; omega]
        exact ih (i + 1) (by omega)
  exact loop (4096 * 2 ^ b.k) 0 (by omega)
end

theorem BuddyKeeps_law {w : World} {a b d : Int} {p : Option Addr} {n cp : Nat} (ha : (Lit.int .u64 a).wf = true) (hb : (Lit.int .i64 b).wf = true) (hd : (Lit.int .i64 d).wf = true) (hs : Dds w.heap p n cp) :
    CallV Try.prog w F.croftlaw5_BuddyKeeps [.agg #[.int .u64 a, .int .i64 b, .int .i64 d], .slice p n cp] w.heap fun v h' => v = .bool true ∧ Upd NoB w.heap h' := by
  obtain ⟨f, hn, hc, hr⟩ := hs
  have hfin : ∀ h', Upd NoB w.heap h' → (fun (r : Value) (h' : Heap) => r = Value.bool true ∧ Upd NoB w.heap h') (.bool true) h' := fun h' u => ⟨rfl, u⟩
  generalize (fun (r : Value) (h' : Heap) => r = Value.bool true ∧ Upd NoB w.heap h') = K at hfin ⊢
  refine croftlaw5_BuddyKeeps.call ?_
  unfold croftlaw5_BuddyKeeps.vc
  have N0 := box3 w.heap (.int .u64 a) (.int .i64 b) (.int .i64 d) T.T_api_Config
  generalize Array.push w.heap (.cells #[.int .u64 a, .int .i64 b, .int .i64 d] T.T_api_Config) = h0 at N0 ⊢
  have I0 := (Hold.nil w.heap).new N0
  obtain ⟨k0, k1, k2⟩ := f3_cells (I0.at 0)
  refine ⟨_, k0, _, k1, _, k2, beginW (wf_u64 ha) fun h1 Q N1 => ⟨_, rfl, fun J3 hJ3 => pF rfl ?_⟩⟩
  have g5 := usual_good a b d
  generalize usualC a b d = c at N1 g5
  have W0 := wi0 g5
  have sn : (BU0 c).st.n = 0 := rfl
  generalize BU0 c = x0 at N1 W0 sn
  have I1 := I0.new N1
  refine lives_ok fun h2 u2 => ⟨_, rfl, hJ3 _ _ fun J4 hJ4 => pF rfl ?_⟩
  have I2 := I1.quiet u2
  have hlim : (x0.st.n : Int) < c.limit := by rw [sn]; have := g5.l1; omega
  refine comeW (fl := fun _ => []) (L := []) (Q := Q) W0 (I2.at 0) hlim fun x1 h3 Q1 eQ W1 eo en es _ S3 => ⟨_, rfl, hJ4 _ _ fun J5 hJ5 => pF rfl ?_⟩
  have I3 := I2.step 0 S3
  have e1 : x1.m.n - 2 ^ x1.m.o = x0.m.n := by rw [en, eo, Nat.add_sub_cancel]
  generalize hwb : Q.wb = wb at eQ hJ3 hJ4 hJ5 ⊢
  refine ⟨_, rfl, _, (by rw [← eQ]; exact wd_cell (I3.at 0) (i := 5) (by omega)), ?_⟩
  refine feedW W1 (I3.at 0) (by omega) (L' := []) (by rw [e1, eo]) fun x2 h4 W2 M2 S4 => ⟨_, rfl, hJ5 _ _ (iF rfl ?_)⟩
  have I4 := I3.step 0 S4
  have I4 : Hold w.heap h4 [wsR c Q1 x2, blkR w.heap.size 3 (f3 (.int .u64 a) (.int .i64 b) (.int .i64 d))] := I4
  have N5 := box1 h4 (.slice none 0 0) T.T_croftlaw5_book
  generalize Array.push h4 (.cells #[.slice none 0 0] T.T_croftlaw5_book) = h5 at N5 ⊢
  obtain ⟨bb, ebb⟩ : ∃ bb, bb = Array.size h4 := ⟨_, rfl⟩
  rw [← ebb] at N5 ⊢
  have I5 := ((I4.sub (rs' := [wsR c Q1 x2]) (.cons_cons _ (.cons _ .slnil))).new (R := slR none ([] : List Bk).length 0 3 (bkV [])) ⟨Upd.refl _ _, sl_nil _ _ _, fun b e => absurd e (sl_nil_fp b)⟩).swap.join.new N5
  obtain ⟨w6, S6⟩ := f1_set (I5.at 0) (.slice none 0 0)
  have I6 := I5.step 0 S6
  refine ⟨w6, fun J8 hJ8 L12 hL12 => ?_⟩
  generalize setC h5 ⟨bb, 0, none⟩ (.slice none 0 0) = h6 at I6 ⊢
  -- all are looked at
  have last : ∀ (hx : Heap) (Q : WW) (x : BU) (fl : Nat → List Nat) (l : List Bk) (bp : Option Addr) (bc : Nat), Q.wb = wb → WI c x fl (lvB l) → l.length ≤ 300 → Mk x.st l → Hold w.heap hx [blkR bb 1 fun _ => .slice bp l.length bc, wbR c Q x bp bc l] →
      J8 [.pointer (some ⟨wb, 0, none⟩), .pointer (some ⟨bb, 0, none⟩)] hx := by
    intro hx Q x fl l bp bc hq W hl hmk I
    refine hJ8 _ _ _ fun J9 hJ9 L10 hL10 => ?_
    have loop : ∀ (k i : Nat) (hy : Heap), i + k = l.length → Hold w.heap hy [blkR bb 1 fun _ => .slice bp l.length bc, wbR c Q x bp bc l] → L10 [.pointer (some ⟨wb, 0, none⟩), .pointer (some ⟨bb, 0, none⟩), .int .i64 (i : Int)] hy := by
      intro k
      induction k with
      | zero =>
        intro i hy hi I
        exact hL10 _ _ _ _ ⟨_, _, _, f1_cell (I.at 0), iF (decide_eq_false (by omega)) (hJ9 _ (hfin _ I.u))⟩
      | succ k ih =>
        intro i hy hi I
        have hil : i < l.length := by omega
        have HB : (wbR c Q x bp bc l).P hy := I.at 1
        obtain ⟨ad, e1, r1, r2, r3⟩ := row_bk (sl_row HB.2.1) (Upd.refl _ _) hil
        refine hL10 _ _ _ _ ⟨_, _, _, f1_cell (I.at 0), iT (decide_eq_true (by omega)) ⟨_, _, _, f1_cell (I.at 0), ad, e1, by omega, by omega, _, r1, _, r2, _, r3, ?_⟩⟩
        have hbm : l.getD i bk0 ∈ l := by rw [List.getD_eq_getElem?_getD, List.getElem?_eq_getElem hil]; exact List.getElem_mem hil
        rw [← hq]
        refine marked_ok W hbm hmk HB.1 fun h7 u7 => ⟨_, rfl, iF rfl ?_⟩
        rw [hq, show IntKind.wrap .i64 ((i : Int) + 1) = ((i + 1 : Nat) : Int) by rw [IntKind.wrap_i64]; omega]
        exact ih (i + 1) h7 (by omega) (I.quiet u7)
    exact loop l.length 0 hx (by omega) I
  have loop : ∀ (k i : Nat) (hx : Heap) (Q : WW) (x : BU) (fl : Nat → List Nat) (l : List Bk) (bp : Option Addr) (bc : Nat), i + k = n → Q.wb = wb → WI c x fl (lvB l) → l.length ≤ i → i ≤ 60 → Mk x.st l → Hold w.heap hx [blkR bb 1 fun _ => .slice bp l.length bc, wbR c Q x bp bc l] →
      L12 [.slice p n cp, .pointer (some ⟨wb, 0, none⟩), .pointer (some ⟨bb, 0, none⟩), .int .i64 (i : Int)] hx := by
    intro k
    induction k with
    | zero =>
      intro i hx Q x fl l bp bc hi hq W hl h60 hmk I
      exact hL12 _ _ _ _ _ _ _ fun J10 hJ10 => qF' (decide_eq_false (by omega)) (hJ10 _ _ (iF rfl (last hx Q x fl l bp bc hq W (by omega) hmk I)))
    | succ k ih =>
      intro i hx Q x fl l bp bc hi hq W hl h60 hmk I
      refine hL12 _ _ _ _ _ _ _ fun J10 hJ10 => qT (decide_eq_true (by omega)) (hJ10 _ _ ?_)
      by_cases h300 : (i : Int) < 60
      case neg => exact iF (decide_eq_false h300) (last hx Q x fl l bp bc hq W (by omega) hmk I)
      obtain ⟨ad, ead, hcell⟩ := dd_at hr (i := i) (by omega)
      have dc := hcell hx I.u
      have hwr : IntKind.wrap .i64 ((i : Int) + 1) = ((i + 1 : Nat) : Int) := by rw [IntKind.wrap_i64]; omega
      refine iT (decide_eq_true h300) fun J14 hJ14 => ⟨_, _, _, f1_cell (I.at 0), ad, ead, by omega, by omega, _, dc.1, _, dc.2.1, _, dc.2.2, ?_⟩
      have after : ∀ (nb : Nat) (hy : Heap) (Q' : WW) (x' : BU) (fl' : Nat → List Nat) (l' : List Bk) (bp' : Option Addr) (bc' : Nat), Q'.wb = wb → WI c x' fl' (lvB l') → l'.length ≤ i + 1 → Stay x.st x'.st l l' →
          Hold w.heap hy [blkR nb 1 fun _ => .slice bp' l'.length bc', blkR bb 1 fun _ => .slice bp l.length bc, wbR c Q' x' bp' bc' l'] → J14 [.slice p n cp, .pointer (some ⟨wb, 0, none⟩), .pointer (some ⟨bb, 0, none⟩), .int .i64 (i : Int), .pointer (some ⟨nb, 0, none⟩), .bool true] hy := by
        intro nb hy Q' x' fl' l' bp' bc' hq' W' hl' st I'
        refine hJ14 _ _ _ _ _ _ _ _ _ (iF rfl fun J15 hJ15 => ⟨_, _, _, f1_cell (I'.at 0), _, _, _, f1_cell (I'.at 1), ?_⟩)
        have go : ∀ (hz : Heap) (x2 : BU), WI c x2 fl' (lvB l') → Mk x2.st l' → Hold w.heap hz [blkR nb 1 fun _ => .slice bp' l'.length bc', blkR bb 1 fun _ => .slice bp l.length bc, wbR c Q' x2 bp' bc' l'] →
            J15 [.slice p n cp, .pointer (some ⟨wb, 0, none⟩), .pointer (some ⟨bb, 0, none⟩), .int .i64 (i : Int), .pointer (some ⟨nb, 0, none⟩)] hz := by
          intro hz x2 W2 hmk2 I2
          obtain ⟨w9, S9⟩ := f1_set (I2.at 1) (.slice bp' l'.length bc')
          have I9 := I2.step 1 S9
          refine hJ15 _ _ _ _ _ _ _ _ ⟨_, _, _, f1_cell (I2.at 0), w9, ?_⟩
          rw [hwr]
          exact ih (i + 1) _ Q' x2 fl' l' bp' bc' (by omega) hq' W2 hl' (by omega) hmk2 I9.drop
        rcases st with ⟨hle, hmk'⟩ | ⟨b, rfl, hbm, hmk'⟩
        · exact iF (decide_eq_false (by omega)) (go hy x' W' (hmk' hmk) I')
        · have el : (l ++ [b]).length = l.length + 1 := by simp
          have ei : IntKind.wrap .i64 (((l ++ [b]).length : Int) - 1) = (l.length : Int) := by rw [el, IntKind.wrap_i64]; omega
          have HB : (wbR c Q' x' bp' bc' (l ++ [b])).P hy := I'.at 2
          obtain ⟨ad', e1', r1, r2, r3⟩ := row_bk (l := l ++ [b]) (sl_row HB.2.1) (Upd.refl _ _) (i := l.length) (by omega)
          have eb : (l ++ [b]).getD l.length bk0 = b := by simp
          rw [eb] at r1 r2 r3
          have hbL : (b.p, b.k) ∈ lvB (l ++ [b]) := List.mem_map.2 ⟨b, by simp, rfl⟩
          obtain ⟨t, hu, hle, k8, hp4⟩ := live_there W' hbL W'.g
          have h8 := pow8 k8
          obtain ⟨s1, s2⟩ := shl64 k8
          refine iT (decide_eq_true (by omega)) ⟨_, _, _, f1_cell (I'.at 0), _, _, _, f1_cell (I'.at 0), ad', e1', ?_⟩
          rw [ei]
          refine ⟨by omega, by omega, _, r1, _, r2, _, r3, ?_⟩
          have N8 := box3 hy (.int .i64 0) (.int .i64 0) (.int .u8 0) T.T_croftlaw5_block
          generalize Array.push hy (.cells #[.int .i64 0, .int .i64 0, .int .u8 0] T.T_croftlaw5_block) = h8 at N8 ⊢
          obtain ⟨b8, eb8⟩ : ∃ b8, b8 = Array.size hy := ⟨_, rfl⟩
          rw [← eb8] at N8 ⊢
          have I8 := I'.new N8
          obtain ⟨w9, S9⟩ := assign3 (I8.at 0) (.int .i64 (b.p : Int)) (.int .i64 (b.k : Int)) (.int .u8 b.m)
          have I9 := I8.step 0 S9
          refine ⟨w9, ?_⟩
          generalize setCs h8 ⟨b8, 0, none⟩ 0 [.int .i64 (b.p : Int), .int .i64 (b.k : Int), .int .u8 b.m] = h9 at I9 ⊢
          have I9 : Hold w.heap h9 [blkR b8 3 (f3 (.int .i64 (b.p : Int)) (.int .i64 (b.k : Int)) (.int .u8 b.m)), blkR nb 1 fun _ => .slice bp' (l ++ [b]).length bc', blkR bb 1 fun _ => .slice bp l.length bc, wbR c Q' x' bp' bc' (l ++ [b])] := I9
          obtain ⟨q0, q1, q2⟩ := f3_cells (I9.at 0)
          have ew : IntKind.wrap .u64 (b.k : Int) = (b.k : Int) := by rw [IntKind.wrap_u64]; omega
          have H9 : (wbR c Q' x' bp' bc' (l ++ [b])).P h9 := I9.at 3
          rw [← hq']
          refine ⟨_, rfl, _, wd_cell H9.1 (i := 3) (by omega), _, q0, _, q1, by rw [ew]; omega, _, q2, ?_⟩
          refine at_ok W'.ok H9.1 (by omega) ⟨_, rfl, q2, q1, wd_cell H9.1 (i := 3) (by omega), ?_⟩
          rw [s1]
          refine fillW W' hbL hbm H9.1 fun st' h10 en eM eM' W10 S10 => ⟨_, rfl, iF rfl ?_⟩
          have I10 := I9.step 3 (R := wbR c Q' x' bp' bc' (l ++ [b])) (S10.left H9)
          rw [hq']
          refine go h10 ⟨st', x'.hd, x'.m⟩ W10 ?_ I10.drop
          intro z hz y hy1 hy2
          rcases List.mem_append.1 hz with hz | hz
          · have hdj : Dj z.b b.b := by
              have hW := W'.perm (show (lvB (l ++ [b])).Perm (b.b :: lvB l) by unfold lvB; rw [List.map_append]; exact List.perm_append_comm (l₂ := [b.b]))
              exact new_dj hW z.b (List.mem_map.2 ⟨z, hz, rfl⟩)
            rw [eM' y (by
              unfold Dj Bk.b at hdj
              simp only [] at hdj
              rcases hdj with hd1 | hd1
              · left; exact Nat.lt_of_lt_of_le hy2 (Nat.mul_le_mul_left _ hd1)
              · right; exact Nat.le_trans (Nat.mul_le_mul_left _ hd1) hy1)]
            exact hmk' hmk z hz y hy1 hy2
          · have hz : z = b := by simpa using hz
            subst hz
            exact eM y hy1 hy2
      rw [← hq]
      refine ⟨?_, ?_⟩
      · refine do_ok W (by omega) (I.at 1) fun x' fl' l' Q' h7 bp' bc' eq' W' st hl' S7 => ⟨_, _, _, _, rfl, ?_⟩
        have I7 := I.step 1 S7
        have N8 := box1 h7 (.slice none 0 0) T.T_croftlaw5_book
        generalize Array.push h7 (.cells #[.slice none 0 0] T.T_croftlaw5_book) = h8 at N8 ⊢
        have I8 := I7.new N8
        have dc := hcell h8 I8.u
        obtain ⟨w9, S9⟩ := f1_set (I8.at 0) (.slice bp' l'.length bc')
        have I9 := I8.step 0 S9
        rw [hq]
        exact ⟨dc.1, dc.2.1, dc.2.2, f1_cell (I8.at 1), w9, after _ _ Q' x' fl' l' bp' bc' (eq'.trans hq) W' (by omega) st I9⟩
      · have N8 := box1 hx (.slice none 0 0) T.T_croftlaw5_book
        generalize Array.push hx (.cells #[.slice none 0 0] T.T_croftlaw5_book) = h8 at N8 ⊢
        have I8 := I.new N8
        have dc := hcell h8 I8.u
        refine ⟨dc.1, dc.2.1, dc.2.2, f1_cell (I8.at 1), ?_⟩
        refine do_ok W (by omega) (I8.at 2) fun x' fl' l' Q' h7 bp' bc' eq' W' st hl' S7 => ⟨_, _, _, _, rfl, ?_⟩
        have I7 := I8.step 2 S7
        obtain ⟨w9, S9⟩ := f1_set (I7.at 0) (.slice bp' l'.length bc')
        have I9 := I7.step 0 S9
        rw [hq]
        exact ⟨w9, after _ _ Q' x' fl' l' bp' bc' (eq'.trans hq) W' (by omega) st I9⟩
  exact loop n 0 h6 Q1 x2 _ [] none 0 (by omega) eQ W2 (Nat.le_refl _) (by omega) (fun z hz => by cases hz) I6
end Go.Proofs.Ytnlcmfdmbgnpfaa
