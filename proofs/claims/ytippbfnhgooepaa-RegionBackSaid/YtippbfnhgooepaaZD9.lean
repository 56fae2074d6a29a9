/- croftlaw6: a pool opened of what a pool tells: again; RegionBack. No condition. -/
import Derived.Test.YtippbfnhgooepaaZD8
import Derived.Test.YtippbfnhgooepaaZC8
import Derived.Test.YtippbfnhgooepaaZBW
import Derived.Test.YtippbfnhgooepaaZGcroftlaw6RegionBack
set_option linter.unusedSimpArgs false
set_option linter.unusedVariables false
namespace Go.Proofs.Ytippbfnhgooepaa
open Go.V Classical

theorem plain_in6 {h : Heap} {s : MS} {gp : Option Addr} {gc : Nat} {qp : Option Addr} {qc : Nat} {wp : Nat → Option Addr} {wc : Nat → Nat} (H : (plainR s gp gc qp qc wp wc).P h) :
    Row h gp (s.n * 11) (pgF s.pg) ∧ PairsIn h qp s.o wp (fun k => nw (s.n / 2 ^ (k + 1))) wc (fun k j => wd (s.bt k) j) := by
  refine ⟨sl_row H.1, ?_, fun k hk => ?_, fun k j _ _ => wd_lt _ _⟩
  · have := sl_row H.2.1.1; rw [Nat.mul_one] at this; exact this
  · have := sl_row (H.2.1.2.1.1 k hk); rw [Nat.mul_one] at this; exact this

theorem open_same6 {s : MS} (hs : s.Ok) {k : Nat} (hk : k < s.o) (i : Nat) : (mOpen s.o s.n s.pg (fun k => nw (s.n / 2 ^ (k + 1))) (fun k j => wd (s.bt k) j)).bt k i = s.bt k i := by
  show (decide (i < s.n / 2 ^ (k + 1)) && (decide (i / 64 < nw (s.n / 2 ^ (k + 1))) && (wd (s.bt k) (i / 64)).testBit (i % 64))) = s.bt k i
  rw [wd_bit, show 64 * (i / 64) + i % 64 = i by omega]
  have h64 : i % 64 < 64 := by omega
  by_cases hi : i < s.n / 2 ^ (k + 1)
  · have := div_nw hi
    simp [hi, this, h64]
  · have : s.bt k i = false := by
      cases hb : s.bt k i
      · rfl
      · exact absurd (hs.bi k i hk hb) hi
    simp [hi, this]

section
variable {w₀ : World} {h h' : Heap} {K : Value → Heap → Prop} {c : Cfg} {Q : PL} {x : BU} {fl : Nat → List Nat} {L : List PBk}

theorem plain_fit {kind k : Nat} {o n : Nat} (hk : kind ≤ 3) (ho : k ≤ o) : Fit (plainP (kind : Int) (k : Int)) o n := by
  refine ⟨?_, ?_, ?_, ?_, ?_, ?_, ?_⟩
  · show 0 ≤ (kind : Int) ∧ (kind : Int) ≤ 4; omega
  · show 0 ≤ (k : Int) ∧ (k : Int) ≤ o; omega
  · show (0 : Int) ≤ 0 ∧ (0 : Int) ≤ 7; omega
  · show (0 : Int) ≤ 0 ∧ (0 : Int) ≤ 256; omega
  · show (-1 : Int) ≤ -1 ∧ (-1 : Int) ≤ n - 1; omega
  · show (-1 : Int) ≤ -1 ∧ (-1 : Int) ≤ n - 1; omega
  · show (-1 : Int) ≤ -1 ∧ (-1 : Int) ≤ 255; omega

theorem WI.fit (W : WI c x fl L) {i : Nat} (hi : i < x.m.n) : Fit (x.m.pg i) x.m.o x.m.n := by
  obtain ⟨b, hb, hc⟩ := W.rep.til.cv i hi
  have hb : b ∈ L ++ blks x.m.o fl := hb
  rcases List.mem_append.1 hb with hb | hb
  · have al := W.al hb
    rw [W.rep.pl b hb i hc]
    have := plain_fit (kind := if i = b.1 then 2 else 3) (k := b.2) (o := x.m.o) (n := x.m.n) (by split <;> omega) al.1
    rw [show ((if i = b.1 then 2 else 3 : Nat) : Int) = (if i = b.1 then 2 else 3 : Int) by split <;> rfl] at this
    exact this
  · obtain ⟨p, k⟩ := b
    obtain ⟨h1, h2⟩ := mem_blks.1 hb
    rw [W.rep.pf k p h1 h2 i hc]
    have := plain_fit (kind := if i = p then 0 else 1) (k := k) (o := x.m.o) (n := x.m.n) (by split <;> omega) h1
    rw [show ((if i = p then 0 else 1 : Nat) : Int) = (if i = p then 0 else 1 : Int) by split <;> rfl] at this
    exact this

theorem span_eq (W : WI c x fl L) : x.st.n * c.size = 4096 * x.m.n := by
  have h3 := W.e
  have h4 := W.ok.o
  have e : c.order.toNat = x.m.o := by omega
  unfold Cfg.size
  rw [e, Nat.mul_left_comm, ← h3]

def againU (c : Cfg) (x : BU) : BU := ropen c x.st.n (x.st.n * c.size) x.m.n x.st.M x.m.pg (fun k => nw (x.m.n / 2 ^ (k + 1))) (fun k j => wd (x.m.bt k) j) x.hd

theorem again_wi (W : WI c x fl L) : WI c (againU c x) fl L ∧ (againU c x).m.o = x.m.o ∧ (againU c x).st.n = x.st.n := by
  have h4 := W.ok.o
  have e : c.order.toNat = x.m.o := by omega
  have em : (againU c x).m = mOpen x.m.o x.m.n x.m.pg (fun k => nw (x.m.n / 2 ^ (k + 1))) (fun k j => wd (x.m.bt k) j) := by
    show mOpen c.order.toNat _ _ _ _ = _
    rw [e]
  have mok : (againU c x).m.Ok := by
    rw [em]
    refine ⟨W.ok.m.o8, W.ok.m.n1, W.ok.m.al, fun k i hk hb => ?_, W.ok.m.pg⟩
    have h1 : (decide (i < x.m.n / 2 ^ (k + 1)) && (decide (i / 64 < nw (x.m.n / 2 ^ (k + 1))) && (wd (x.m.bt k) (i / 64)).testBit (i % 64))) = true := hb
    simp only [Bool.and_eq_true, decide_eq_true_eq] at h1
    exact h1.1
  have eo : (againU c x).m.o = x.m.o := by rw [em]; rfl
  have en : (againU c x).m.n = x.m.n := by rw [em]; rfl
  have ok' : BU.Ok c (againU c x) := ⟨mok, by rw [eo]; exact h4, fun i hi hp => by
    rw [en] at hi
    rw [em] at hp ⊢
    exact W.ok.b i hi hp⟩
  refine ⟨⟨W.rep.same ok' eo en (fun q hq => by rw [em]; rfl) (fun k hk i => by rw [em]; exact open_same6 W.ok.m hk i) rfl rfl (fun o ho => ?_), by rw [en, eo]; exact W.e, W.g⟩, eo, rfl⟩
  show (if o < x.st.n * c.size then x.st.M o else 0) = _
  rw [if_pos (by rw [span_eq W]; exact ho)]

set_option maxHeartbeats 1000000 in
theorem again6_ok (W : WI c x fl L) (H : (plR c Q x).P h) (hK : ∀ h' Q', New h h' (plR c Q' (againU c x)) → K (.pointer (some ⟨Q'.pb, 0, none⟩)) h') :
    CallV Try.prog w₀ F.croftlaw6_again [.pointer (some ⟨Q.pb, 0, none⟩), .agg #[.int .u64 c.base, .int .i64 c.limit, .int .i64 c.order]] h K := by
  refine croftlaw6_again.call ?_
  unfold croftlaw6_again.vc
  have hbb := bu_bounds W.g W.ok.m
  have hsp := span_le W
  have hse := span_eq W
  have o8 := W.ok.m.o8
  have nr := W.nr
  have n1 := W.ok.m.n1
  have hco : c.order = x.m.o := W.ok.o.symm
  have p8 := pow8 o8
  have N5 := box3 h (.int .u64 c.base) (.int .i64 c.limit) (.int .i64 c.order) T.T_api_Config
  generalize Array.push h (.cells #[.int .u64 c.base, .int .i64 c.limit, .int .i64 c.order] T.T_api_Config) = h5 at N5 ⊢
  obtain ⟨b0, eb0⟩ : ∃ b0, b0 = h.size := ⟨_, rfl⟩
  rw [← eb0] at N5 ⊢
  have I0 := (Hold.nil h).new N5
  have P0 : ∀ {hx : Heap} {rs : List Res}, Hold h hx rs → (plR c Q x).P hx := fun I => (plR c Q x).st H I.u fun _ _ => id
  obtain ⟨k0, k1, k2⟩ := f3_cells (I0.at 0)
  refine ⟨_, rfl, ground_Space_ok (P0 I0) ⟨_, rfl, mem_Regions_ok (bu_sp (pl_bu (P0 I0))) ⟨_, rfl, _, rfl, _, k0, _, k0, _, k1, _, k2, ground_Space_ok (P0 I0) ⟨_, rfl, k0, k1, k2, k0, ?_⟩⟩⟩⟩
  rw [hco]
  refine ref2R_ok o8 fun h7 u7 => ⟨_, rfl, ?_⟩
  have I7 := I0.quiet u7
  obtain ⟨k0, k1, k2⟩ := f3_cells (I7.at 0)
  refine ⟨k0, ?_⟩
  have hsz : x.st.n * (4096 * 2 ^ x.m.o) = x.st.n * c.size := by rw [hse, Nat.mul_left_comm, ← W.e]
  rw [show IntKind.wrap .u64 (IntKind.wrap .u64 (x.st.n : Int) * ((4096 * 2 ^ x.m.o : Nat) : Int)) = ((x.st.n * c.size : Nat) : Int) by
    rw [show IntKind.wrap .u64 (x.st.n : Int) = (x.st.n : Int) by rw [IntKind.wrap_u64]; omega, ← Int.natCast_mul, hsz, IntKind.wrap_u64]; omega]
  refine mem_Read_ok ⟨by omega, by omega⟩ ⟨by omega, by omega⟩ (bu_sp (pl_bu (P0 I7))) (fun _ h8 bb u8 hbb8 B8 => ⟨_, _, _, _, rfl, ?_⟩) fun hn => absurd (Or.inr ⟨Int.le_refl _, by omega⟩) hn
  have B8 : Blk h8 bb (x.st.n * c.size) fun j => .int .u8 (x.st.M j) := by
    rw [Int.toNat_natCast] at B8
    refine B8.congr fun j hj => ?_
    rw [show (c.base - c.base).toNat + j = j by omega]
  have I8 := I7.new (R := blkR bb (x.st.n * c.size) fun j => .int .u8 (x.st.M j)) ⟨u8, B8, fun b e => by have e : b = bb := e; omega⟩
  rw [Int.toNat_natCast]
  refine ⟨_, rfl, ground_Map_ok (P0 I8) ⟨_, rfl, pm_Plain_ok W.ok.m (bu_map (pl_bu (P0 I8))) fun h9 gp gc qp qc wp wc N9 => ⟨_, _, _, _, _, _, rfl, ?_⟩⟩⟩
  have I9 := I8.new N9
  obtain ⟨k0, k1, k2⟩ := f3_cells (I9.at 2)
  refine ⟨_, k0, _, k1, _, k2, _, rfl, ground_Buddy_ok (P0 I9) ⟨_, rfl, k0, k1, k2, headsB W (pl_bu (P0 I9)) fun ha hp hc Na => ⟨_, _, _, rfl, ?_⟩⟩⟩
  have Ia := I9.new Na
  obtain ⟨k0, k1, k2⟩ := f3_cells (Ia.at 3)
  refine ⟨k0, k1, k2, ?_⟩
  obtain ⟨rp, rq⟩ := plain_in6 (Ia.at 1)
  have hlen : (hdL c fl x.m.o).length = x.m.o + 1 := hdL_len _ _ _
  have rh : Row ha hp (hdL c fl x.m.o).length (headU x.hd) := by
    have A : (slR hp (hdL c fl x.m.o).length hc 1 (headU x.hd)).P ha := sl_congr (Ia.at 0) fun i hi => by
      have hi : i < x.m.o + 1 := by omega
      have e := (W.rep.ls i (by omega)).hd
      simp only [] at e
      show Value.int .u64 ((hdL c fl x.m.o).getD i 0) = .int .u64 (x.hd i)
      rw [e]
      unfold hdL
      rw [List.getD_eq_getElem?_getD, List.getElem?_map, List.getElem?_range hi]
      simp only [Option.map_some, Option.getD_some]
    have := sl_row A
    rw [Nat.mul_one] at this
    exact this
  have rb : Row ha (some ⟨bb, 0, none⟩) (x.st.n * c.size) fun i => .int .u8 (x.st.M i) := by
    have := Blk.row (Ia.at 2) 0 (x.st.n * c.size) (by omega)
    simpa using this
  have mo : OpenOk c.order x.m.n x.m.pg x.m.o (fun k => nw (x.m.n / 2 ^ (k + 1))) :=
    ⟨by omega, by omega, n1, by rw [hco, Int.toNat_natCast]; exact W.ok.m.al, hco.symm, fun _ _ => rfl, fun i hi => by rw [hco, Int.toNat_natCast]; exact W.fit hi⟩
  have hOR : OpenR c (x.st.n : Int) (x.st.n * c.size) x.m.n x.m.pg x.m.o (fun k => nw (x.m.n / 2 ^ (k + 1))) (hdL c fl x.m.o).length := by
    refine ⟨by omega, (bu_sp (pl_bu H)).nl, Int.natCast_mul _ _, ?_, mo, by rw [hlen]; omega⟩
    rw [hco, Int.toNat_natCast, ← Int.natCast_mul, ← W.e]
  refine region_Open_ok (a := c.base) (b := c.limit) (d := c.order) (g := x.st.M) (pg := x.m.pg) (wp := wp) (wn := fun k => nw (x.m.n / 2 ^ (k + 1))) (wc := wc) (ws := fun k j => wd (x.m.bt k) j) (hd := x.hd)
    ⟨by omega, by omega⟩ (by omega) (Nat.le_refl _) (by omega) (by omega) (by omega) rb (bu_sp (pl_bu H)).by8 rp rq rh (fun i hi => bu_hu (pl_bu H) (by omega)) (fun hb => absurd W.g hb) (fun _ hno => absurd hOR hno) fun _ _ hb Q' Nb => ⟨_, _, rfl, fun J12 hJ12 => pF rfl (hJ12 _ _ (iF rfl (hK hb Q' ?_)))⟩
  have Nb : New ha hb (plR c Q' (againU c x)) := by
    have e : ropen ⟨c.base, c.limit, c.order⟩ (Int.toNat (x.st.n : Int)) (x.st.n * c.size) x.m.n x.st.M x.m.pg (fun k => nw (x.m.n / 2 ^ (k + 1))) (fun k j => wd (x.m.bt k) j) x.hd = againU c x := by rw [Int.toNat_natCast]; rfl
    rw [e] at Nb
    exact Nb
  exact New.after Ia.u Nb
end

set_option maxHeartbeats 4000000 in
theorem RegionBack_law {w : World} {a b d : Int} {p q : Option Addr} {n cp m cq : Nat} (ha : (Lit.int .u64 a).wf = true) (hb : (Lit.int .i64 b).wf = true) (hd : (Lit.int .i64 d).wf = true) (hs : Ops6 w.heap p n cp) (hs2 : Ops6 w.heap q m cq) :
    CallV Try.prog w F.croftlaw6_RegionBack [.agg #[.int .u64 a, .int .i64 b, .int .i64 d], .slice p n cp, .slice q m cq] w.heap fun v h' => v = .bool true ∧ Upd NoB w.heap h' := by
  obtain ⟨f, hn, hcp, hr, hop⟩ := hs
  obtain ⟨f2, hn2, hcp2, hr2, hop2⟩ := hs2
  have hfin : ∀ h', Upd NoB w.heap h' → (fun (r : Value) (h' : Heap) => r = Value.bool true ∧ Upd NoB w.heap h') (.bool true) h' := fun h' u => ⟨rfl, u⟩
  generalize (fun (r : Value) (h' : Heap) => r = Value.bool true ∧ Upd NoB w.heap h') = K at hfin ⊢
  refine croftlaw6_RegionBack.call ?_
  unfold croftlaw6_RegionBack.vc
  have N0 := box3 w.heap (.int .u64 a) (.int .i64 b) (.int .i64 d) T.T_api_Config
  generalize Array.push w.heap (.cells #[.int .u64 a, .int .i64 b, .int .i64 d] T.T_api_Config) = h0 at N0 ⊢
  have I0 := (Hold.nil w.heap).new N0
  refine awake6_ok fun h1 u1 => ⟨_, rfl, iF rfl ?_⟩
  have I1 := I0.quiet u1
  obtain ⟨k0, k1, k2⟩ := f3_cells (I1.at 0)
  refine ⟨_, k0, _, k1, _, k2, region_New_ok (wf_u64 ha) (fun hbad h2 u2 => ⟨_, _, rfl, ?_⟩) fun g h2 Q N2 => ⟨_, _, rfl, ?_⟩⟩
  · have I2 := I1.quiet u2
    obtain ⟨k0, k1, k2⟩ := f3_cells (I2.at 0)
    refine ⟨_, k0, _, k1, _, k2, ref2_May_ok (wf_u64 ha) fun h3 u3 => ⟨_, rfl, ?_⟩⟩
    rw [decide_eq_false hbad]
    exact iT rfl (hfin _ (I2.quiet u3).u)
  have I2 := I1.new N2
  obtain ⟨k0, k1, k2⟩ := f3_cells (I2.at 1)
  refine ⟨_, k0, _, k1, _, k2, ref2_May_ok (wf_u64 ha) fun h3 u3 => ⟨_, rfl, ?_⟩⟩
  rw [decide_eq_true g]
  have I3 := I2.quiet u3
  have W0 := wi0 g
  have mo : (BU0 ⟨a, b, d⟩).m.o = d.toNat := bu0_o g
  have sn : (BU0 ⟨a, b, d⟩).st.n = 0 := rfl
  have g0 := g.o0
  have g8 := g.o8
  simp only [] at g0 g8
  obtain ⟨O, rfl⟩ : ∃ O : Nat, d = O := ⟨d.toNat, by omega⟩
  rw [Int.toNat_natCast] at mo
  generalize BU0 ⟨a, b, (O : Int)⟩ = x0 at I3 W0 mo sn
  obtain ⟨k0, k1, k2⟩ := f3_cells (I3.at 1)
  refine iF rfl (iF rfl ⟨_, k0, _, k1, _, k2, New6_ok (by omega) fun h4 Y0 N4 => ⟨_, _, _, _, _, _, _, _, _, _, rfl, ?_⟩⟩)
  obtain ⟨c, hc⟩ : ∃ c : Cfg, c = ⟨a, b, O⟩ := ⟨_, rfl⟩
  have N5 := box6 h4 (.int .u64 0) (.int .i64 0) (.int .i64 0) (.int .i64 0) (.slice none 0 0) (.slice none 0 0) T.T_croftref6_Pool
  generalize Array.push h4 (.cells #[.int .u64 0, .int .i64 0, .int .i64 0, .int .i64 0, .slice none 0 0, .slice none 0 0] T.T_croftref6_Pool) = h5 at N5 ⊢
  obtain ⟨tb, etb⟩ : ∃ tb, tb = Array.size h4 := ⟨_, rfl⟩
  rw [← etb] at N5 ⊢
  have I5 := (I3.new N4).new N5
  rw [← hc] at I5 W0 ⊢
  obtain ⟨wI6, SI6⟩ := assign6 (I5.at 0) (.int .u64 c.base) (.int .i64 c.limit) (.int .i64 c.order) (.int .i64 ((0 : Nat) : Int)) (.slice Y0.fp (O + 1) Y0.fc) (.slice Y0.vp ([] : List PBk).length Y0.vc)
  have I6 := I5.step 0 SI6
  refine ⟨wI6, ?_⟩
  generalize setCs h5 ⟨tb, 0, none⟩ 0 [.int .u64 c.base, .int .i64 c.limit, .int .i64 c.order, .int .i64 ((0 : Nat) : Int), .slice Y0.fp (O + 1) Y0.fc, .slice Y0.vp ([] : List PBk).length Y0.vc] = h6 at I6 ⊢
  have I6 : Hold w.heap h6 [blkR tb 6 (pvF c 0 Y0 O []), rfR Y0 O (fun _ => []) [], plR c Q x0, blkR w.heap.size 3 (f3 (.int .u64 a) (.int .i64 b) (.int .i64 (O : Int)))] := I6
  have I7 : Hold w.heap h6 [blkR tb 6 (pvF c 0 Y0 O []), ptR c O Q x0 Y0 (fun _ => []) [], blkR w.heap.size 3 (f3 (.int .u64 a) (.int .i64 b) (.int .i64 (O : Int)))] := I6.swap2.swap.swap2.join.swap
  have ecfg : (f3 (.int .u64 a) (.int .i64 b) (.int .i64 (O : Int))) = f3 (.int .u64 c.base) (.int .i64 c.limit) (.int .i64 c.order) := by rw [hc]
  rw [ecfg] at I7
  clear I6 I5 N5 N4 I3 N2 I2 I1 I0 N0
  intro J8 hJ8 L24 hL24
  generalize hpb : Q.pb = pb
  -- then the other
  have back : ∀ (hx : Heap) (Q : PL) (x : BU) (Y : RW6) (fl : Nat → List Nat) (L : List PBk), Q.pb = pb → WI c x fl L → x.m.o = O →
      Hold w.heap hx [blkR tb 6 (pvF c x.st.n Y O L), ptR c O Q x Y fl L, blkR w.heap.size 3 (f3 (.int .u64 c.base) (.int .i64 c.limit) (.int .i64 c.order))] →
      J8 [.slice q m cq, .pointer (some ⟨w.heap.size, 0, none⟩), .pointer (some ⟨pb, 0, none⟩), .pointer (some ⟨tb, 0, none⟩)] hx := by
    intro hx Q x Y fl L hq W ox I
    obtain ⟨k0, k1, k2⟩ := f3_cells (I.at 2)
    refine hJ8 _ _ _ _ _ _ _ ⟨_, k0, _, k1, _, k2, ?_⟩
    rw [← hq]
    refine again6_ok W (I.at 1 (R := ptR c O Q x Y fl L)).1 fun h8 Q8 N8 => ⟨_, rfl, fun J10 hJ10 => pF rfl ?_⟩
    obtain ⟨W8, o8, s8⟩ := again_wi W
    generalize againU c x = y at N8 W8 o8 s8
    have I8 : Hold w.heap h8 [plR c Q8 y, rfR Y O fl L, blkR tb 6 (pvF c x.st.n Y O L), blkR w.heap.size 3 (f3 (.int .u64 c.base) (.int .i64 c.limit) (.int .i64 c.order))] := (I.swap.split.new N8).sub (.cons_cons _ (.cons _ (List.Sublist.refl _)))
    have I9 : Hold w.heap h8 [blkR tb 6 (pvF c x.st.n Y O L), ptR c O Q8 y Y fl L, blkR w.heap.size 3 (f3 (.int .u64 c.base) (.int .i64 c.limit) (.int .i64 c.order))] := I8.join.swap
    rw [← s8] at I9
    obtain ⟨k0, k1, k2, k3, k4, k5⟩ := f6_cells (I9.at 0)
    refine ⟨_, k0, _, k1, _, k2, _, k3, _, _, _, k4, _, _, _, k5, ?_⟩
    refine lists6_ok W8 (o8.trans ox) (I9.at 1) fun ha Sa => ⟨_, rfl, hJ10 _ _ (iF rfl fun J11 hJ11 L12 hL12 => ?_)⟩
    have Ia := I9.step 1 Sa
    generalize hqb : Q8.pb = qb
    have loop : ∀ (k i : Nat) (hx : Heap) (Q : PL) (x : BU) (Y : RW6) (fl : Nat → List Nat) (L : List PBk), i + k = m → Q.pb = qb → WI c x fl L → x.m.o = O →
        Hold w.heap hx [blkR tb 6 (pvF c x.st.n Y O L), ptR c O Q x Y fl L, blkR w.heap.size 3 (f3 (.int .u64 c.base) (.int .i64 c.limit) (.int .i64 c.order))] →
        L12 [.slice q m cq, .pointer (some ⟨tb, 0, none⟩), .pointer (some ⟨qb, 0, none⟩), .int .i64 (i : Int)] hx := by
      intro k
      induction k with
      | zero =>
        intro i hx Q x Y fl L hi hq W ox I
        exact hL12 _ _ _ _ _ _ _ (iF (decide_eq_false (by omega)) (hJ11 _ (hfin _ I.u)))
      | succ k ih =>
        intro i hx Q x Y fl L hi hq W ox I
        obtain ⟨k0, k1, k2, k3, k4, k5⟩ := f6_cells (I.at 0)
        obtain ⟨ad, ead, hcell⟩ := op6_at hr2 (i := i) (by omega)
        have ok := hop2 i (by omega)
        generalize f2 i = o at hcell ok
        obtain ⟨d0, d1, d2, d3, d4, d5, d6⟩ := hcell hx I.u
        have hwr : IntKind.wrap .i64 ((i : Int) + 1) = ((i + 1 : Nat) : Int) := by rw [IntKind.wrap_i64]; omega
        refine hL12 _ _ _ _ _ _ _ (iT (decide_eq_true (by omega)) fun J13 hJ13 => ⟨_, k0, _, k1, _, k2, _, k3, _, _, _, k4, _, _, _, k5, ad, ead, by omega, by omega, _, d0, _, d1, _, d2, _, d3, _, d4, _, d5, _, _, _, d6, ?_⟩)
        refine play2_ok (A := fun nb b h => J13 [.slice q m cq, .pointer (some ⟨tb, 0, none⟩), .pointer (some ⟨qb, 0, none⟩), .int .i64 (i : Int), .pointer (some nb), .bool b] h) W ox hq rfl ok hcell I fun x' fl' L' Q' Y' nb h9 hq' W' o' _ I9 => ?_
        obtain ⟨m0, m1, m2, m3, m4, m5⟩ := f6_cells (I9.at 0)
        refine hJ13 _ _ _ _ _ _ _ _ _ fun J14 hJ14 => pF rfl ⟨_, m0, _, m1, _, m2, _, m3, _, _, _, m4, _, _, _, m5, ?_⟩
        rw [← hq']
        refine lists6_ok W' o' (I9.at 2) fun ha Sa => ⟨_, rfl, hJ14 _ _ (iF rfl ?_)⟩
        have Ia := I9.step 2 Sa
        obtain ⟨m0, m1, m2, m3, m4, m5⟩ := f6_cells (Ia.at 0)
        refine ⟨_, m0, _, m1, _, m2, _, m3, _, _, _, m4, _, _, _, m5, ?_⟩
        obtain ⟨wIb, SIb⟩ := assign6 (Ia.at 1) (.int .u64 c.base) (.int .i64 c.limit) (.int .i64 c.order) (.int .i64 (x'.st.n : Int)) (.slice Y'.fp (O + 1) Y'.fc) (.slice Y'.vp L'.length Y'.vc)
        have Ib := Ia.step 1 SIb
        refine ⟨wIb, ?_⟩
        generalize setCs ha ⟨tb, 0, none⟩ 0 [.int .u64 c.base, .int .i64 c.limit, .int .i64 c.order, .int .i64 (x'.st.n : Int), .slice Y'.fp (O + 1) Y'.fc, .slice Y'.vp L'.length Y'.vc] = hb' at Ib ⊢
        rw [hwr]
        exact ih (i + 1) hb' Q' x' Y' fl' L' (by omega) hq' W' o' Ib.drop
    exact loop m 0 ha Q8 y Y fl L (by omega) hqb W8 (o8.trans ox) Ia
  have loop : ∀ (k i : Nat) (hx : Heap) (Q : PL) (x : BU) (Y : RW6) (fl : Nat → List Nat) (L : List PBk), i + k = n → Q.pb = pb → WI c x fl L → x.m.o = O →
      Hold w.heap hx [blkR tb 6 (pvF c x.st.n Y O L), ptR c O Q x Y fl L, blkR w.heap.size 3 (f3 (.int .u64 c.base) (.int .i64 c.limit) (.int .i64 c.order))] →
      L24 [.slice p n cp, .slice q m cq, .pointer (some ⟨w.heap.size, 0, none⟩), .pointer (some ⟨pb, 0, none⟩), .pointer (some ⟨tb, 0, none⟩), .int .i64 (i : Int)] hx := by
    intro k
    induction k with
    | zero =>
      intro i hx Q x Y fl L hi hq W ox I
      exact hL24 _ _ _ _ _ _ _ _ _ _ _ (iF (decide_eq_false (by omega)) (back hx Q x Y fl L hq W ox I))
    | succ k ih =>
      intro i hx Q x Y fl L hi hq W ox I
      obtain ⟨k0, k1, k2, k3, k4, k5⟩ := f6_cells (I.at 0)
      obtain ⟨ad, ead, hcell⟩ := op6_at hr (i := i) (by omega)
      have ok := hop i (by omega)
      generalize f i = o at hcell ok
      obtain ⟨d0, d1, d2, d3, d4, d5, d6⟩ := hcell hx I.u
      have hwr : IntKind.wrap .i64 ((i : Int) + 1) = ((i + 1 : Nat) : Int) := by rw [IntKind.wrap_i64]; omega
      refine hL24 _ _ _ _ _ _ _ _ _ _ _ (iT (decide_eq_true (by omega)) fun J25 hJ25 => ⟨_, k0, _, k1, _, k2, _, k3, _, _, _, k4, _, _, _, k5, ad, ead, by omega, by omega, _, d0, _, d1, _, d2, _, d3, _, d4, _, d5, _, _, _, d6, ?_⟩)
      refine play2_ok (A := fun nb b h => J25 [.slice p n cp, .slice q m cq, .pointer (some ⟨w.heap.size, 0, none⟩), .pointer (some ⟨pb, 0, none⟩), .pointer (some ⟨tb, 0, none⟩), .int .i64 (i : Int), .pointer (some nb), .bool b] h) W ox hq rfl ok hcell I fun x' fl' L' Q' Y' nb h9 hq' W' o' _ I9 => ?_
      obtain ⟨m0, m1, m2, m3, m4, m5⟩ := f6_cells (I9.at 0)
      refine hJ25 _ _ _ _ _ _ _ _ _ _ _ _ _ (iF rfl ⟨_, m0, _, m1, _, m2, _, m3, _, _, _, m4, _, _, _, m5, ?_⟩)
      obtain ⟨wIb, SIb⟩ := assign6 (I9.at 1) (.int .u64 c.base) (.int .i64 c.limit) (.int .i64 c.order) (.int .i64 (x'.st.n : Int)) (.slice Y'.fp (O + 1) Y'.fc) (.slice Y'.vp L'.length Y'.vc)
      have Ib := I9.step 1 SIb
      refine ⟨wIb, ?_⟩
      generalize setCs h9 ⟨tb, 0, none⟩ 0 [.int .u64 c.base, .int .i64 c.limit, .int .i64 c.order, .int .i64 (x'.st.n : Int), .slice Y'.fp (O + 1) Y'.fc, .slice Y'.vp L'.length Y'.vc] = hb' at Ib ⊢
      rw [hwr]
      exact ih (i + 1) hb' Q' x' Y' fl' L' (by omega) hq' W' o' Ib.drop
  exact loop n 0 h6 Q x0 Y0 _ [] (by omega) hpb W0 mo (by rw [sn]; exact I7)
end Go.Proofs.Ytippbfnhgooepaa
