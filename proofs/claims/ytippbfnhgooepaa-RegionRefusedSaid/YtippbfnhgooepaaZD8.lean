/- croftlaw6: what a pool tells: looked, same; RegionRefused. No condition. -/
import Derived.Test.YtippbfnhgooepaaZD6
import Derived.Test.YtippbfnhgooepaaZGcroftlaw6same
import Derived.Test.YtippbfnhgooepaaZGcroftlaw6RegionRefused
set_option linter.unusedSimpArgs false
set_option linter.unusedVariables false
namespace Go.Proofs.Ytippbfnhgooepaa
open Go.V Classical

section
variable {w₀ : World} {h h' : Heap} {K : Value → Heap → Prop} {c : Cfg} {Q : PL} {x : BU} {fl : Nat → List Nat} {L : List PBk}

theorem Same6_true {p q : Option Addr} {n cp cq : Nat} {f g : Nat → Int} (hn : n < 9223372036854775808) (hp : Row h p n (fun i => .int .u8 (f i))) (hq : Row h q n (fun i => .int .u8 (g i))) (he : ∀ i, i < n → f i = g i)
    (hK : K (.bool true) h) : CallV Try.prog w₀ F.croftref2_Same [.slice p n cp, .slice q n cq] h K := by
  refine croftref2_Same.call ?_
  unfold croftref2_Same.vc
  refine iF (by simp) ?_
  intro J k L hL
  have loop : ∀ r i : Nat, i + r = n → L [.slice p n cp, .slice q n cq, .int .i64 (i : Int)] h := by
    intro r
    induction r with
    | zero =>
      intro i hi
      have : i = n := by omega
      subst this
      exact hL _ _ _ _ _ _ _ _ (iF (by simp) (k _ hK))
    | succ r ih =>
      intro i hi
      have e3 : IntKind.wrap .i64 ((i : Int) + 1) = ((i + 1 : Nat) : Int) := by rw [IntKind.wrap_i64]; omega
      have t1 : Int.toNat (i : Int) = i := by omega
      rcases hp with hp | ⟨pb, po, rfl, hp⟩
      · omega
      rcases hq with hq | ⟨qb, qo, rfl, hq⟩
      · omega
      refine hL _ _ _ _ _ _ _ _ (iT (by simp; omega) ?_)
      rw [e3, t1]
      refine ⟨_, rfl, by omega, by omega, f i, by rw [add_mk, Nat.mul_one]; exact hp i (by omega), _, rfl, by omega, by omega, g i, by rw [add_mk, Nat.mul_one]; exact hq i (by omega), ?_⟩
      refine iF (by rw [he i (by omega)]; simp) (ih (i + 1) (by omega))
  exact loop n 0 (by omega)

theorem Pages6_true {p q : Option Addr} {n cp cq : Nat} {f : Nat → Nat → Int} (hn : n < 9223372036854775808) (hp : Row h p (n * 11) (pgF f)) (hq : Row h q (n * 11) (pgF f))
    (hK : K (.bool true) h) : CallV Try.prog w₀ F.croftref4_SamePages [.slice p n cp, .slice q n cq] h K := by
  refine croftref4_SamePages.call ?_
  unfold croftref4_SamePages.vc
  refine iF (by simp) ?_
  intro J k L hL
  have loop : ∀ (r i : Nat), i + r = n → L [.slice p n cp, .slice q n cq, .int .i64 (i : Int)] h := by
    intro r
    induction r with
    | zero =>
      intro i hi
      have : i = n := by omega
      subst this
      exact hL _ _ _ _ _ _ _ _ (iF (by simp) (k _ hK))
    | succ r ih =>
      intro i hi
      obtain ⟨b, o, eb, hc⟩ := row_page hp (i := i) (by omega)
      obtain ⟨b', o', eb', hc'⟩ := row_page hq (i := i) (by omega)
      have e1 : IntKind.wrap .i64 ((i : Int) + 1) = ((i + 1 : Nat) : Int) := by rw [IntKind.wrap_i64]; omega
      refine hL _ _ _ _ _ _ _ _ (iT (by simp; omega) ?_)
      rw [eb, eb']
      simp only [jor, jand, cellAt_new, add_mk, List.getElem?_toArray, Nat.zero_add, List.getElem?_cons_zero, List.getElem?_cons_succ, Option.some.injEq, Value.int.injEq, Value.bool.injEq, Value.pointer.injEq, Value.slice.injEq, true_and, and_true, exists_eq_left', exists_eq', and_assoc, exists_and_left, Int.toNat_natCast]
      refine ⟨by omega, by omega, ld_page hc ⟨by omega, by omega, ld_page hc' ?_⟩⟩
      rw [eq_page]
      refine iF (by simp) ?_
      rw [e1, ← eb, ← eb']
      exact ih (i + 1) (by omega)
  exact loop n 0 (by omega)

/-- What a pool tells, as it lies. -/
def lookR (c : Cfg) (x : BU) (fl : Nat → List Nat) (hp : Option Addr) (hc : Nat) (gp : Option Addr) (gc : Nat) (bb : Nat) : Res :=
  andR (slR hp (hdL c fl x.m.o).length hc 1 (uL (hdL c fl x.m.o))) (andR (slR gp x.m.n gc 11 (pgF x.m.pg)) (blkR bb (x.st.n * c.size) fun j => .int .u8 (x.st.M j)))
abbrev lookV (c : Cfg) (x : BU) (fl : Nat → List Nat) (hp : Option Addr) (gp : Option Addr) (gc : Nat) (bb : Nat) : Value :=
  .agg #[.int .i64 (x.st.n : Int), .slice hp (hdL c fl x.m.o).length (hdL c fl x.m.o).length, .slice gp x.m.n gc, .slice (some ⟨bb, 0, none⟩) (x.st.n * c.size) (x.st.n * c.size)]
abbrev lookF (c : Cfg) (x : BU) (fl : Nat → List Nat) (hp : Option Addr) (gp : Option Addr) (gc : Nat) (bb : Nat) : Nat → Value :=
  f4 (.int .i64 (x.st.n : Int)) (.slice hp (hdL c fl x.m.o).length (hdL c fl x.m.o).length) (.slice gp x.m.n gc) (.slice (some ⟨bb, 0, none⟩) (x.st.n * c.size) (x.st.n * c.size))

theorem span_le (W : WI c x fl L) : x.st.n * c.size ≤ 4194304 := by
  have h1 := W.rep.rm.r
  have h2 := W.ok.m.n1
  have h3 := W.e
  have h4 := W.ok.o
  have e : c.order.toNat = x.m.o := by omega
  unfold Cfg.size
  rw [e, Nat.mul_left_comm, ← h3]
  omega

set_option maxHeartbeats 1000000 in
theorem looked6_ok (W : WI c x fl L) (H : (plR c Q x).P h) (hK : ∀ h' hp hc gp gc bb, New h h' (lookR c x fl hp hc gp gc bb) → K (lookV c x fl hp gp gc bb) h') :
    CallV Try.prog w₀ F.croftlaw6_looked [.pointer (some ⟨Q.pb, 0, none⟩), .agg #[.int .u64 c.base, .int .i64 c.limit, .int .i64 c.order]] h K := by
  refine croftlaw6_looked.call ?_
  unfold croftlaw6_looked.vc
  have hbb := bu_bounds W.g W.ok.m
  have hsp := span_le W
  have N5 := box3 h (.int .u64 c.base) (.int .i64 c.limit) (.int .i64 c.order) T.T_api_Config
  generalize Array.push h (.cells #[.int .u64 c.base, .int .i64 c.limit, .int .i64 c.order] T.T_api_Config) = h5 at N5 ⊢
  have N6 := box4 h5 (.int .i64 0) (.slice none 0 0) (.slice none 0 0) (.slice none 0 0) T.T_croftlaw6_look
  generalize Array.push h5 (.cells #[.int .i64 0, .slice none 0 0, .slice none 0 0, .slice none 0 0] T.T_croftlaw6_look) = h6 at N6 ⊢
  obtain ⟨b0, eb0⟩ : ∃ b0, b0 = h.size := ⟨_, rfl⟩
  obtain ⟨b1, eb1⟩ : ∃ b1, b1 = h5.size := ⟨_, rfl⟩
  rw [← eb0] at N5 ⊢
  rw [← eb1] at N6 ⊢
  have I0 := ((Hold.nil h).new N5).new N6
  have P0 : ∀ {hx : Heap} {rs : List Res}, Hold h hx rs → (plR c Q x).P hx := fun I => (plR c Q x).st H I.u fun _ _ => id
  refine ⟨_, rfl, ground_Map_ok (P0 I0) ⟨_, rfl, pm_Plain_ok W.ok.m (bu_map (pl_bu (P0 I0))) fun h7 gp gc qp qc wp wc N7 => ⟨_, _, _, _, _, _, rfl, ?_⟩⟩⟩
  have I7 := I0.new N7
  obtain ⟨k0, k1, k2⟩ := f3_cells (I7.at 2)
  refine ⟨_, rfl, _, k0, _, rfl, _, k0, ground_Space_ok (P0 I7) ⟨_, rfl, k0, k0, ground_Space_ok (P0 I7) ⟨_, rfl, k0, k0, mem_End_ok (bu_sp (pl_bu (P0 I7))) ⟨_, rfl, k0, k0, ?_⟩⟩⟩⟩
  rw [show IntKind.wrap .u64 (c.base + ((x.st.n * c.size : Nat) : Int) - c.base) = ((x.st.n * c.size : Nat) : Int) by rw [IntKind.wrap_u64]; omega]
  refine mem_Read_ok ⟨by omega, by omega⟩ ⟨by omega, by omega⟩ (bu_sp (pl_bu (P0 I7))) (fun _ h8 bb u8 hbb8 B8 => ⟨_, _, _, _, rfl, ?_⟩) fun hn => absurd (Or.inr ⟨Int.le_refl _, by omega⟩) hn
  have B8 : Blk h8 bb (x.st.n * c.size) fun j => .int .u8 (x.st.M j) := by
    rw [Int.toNat_natCast] at B8
    refine B8.congr fun j hj => ?_
    rw [show (c.base - c.base).toNat + j = j by omega]
  have I8 := I7.new (R := blkR bb (x.st.n * c.size) fun j => .int .u8 (x.st.M j)) ⟨u8, B8, fun b e => by have e : b = bb := e; omega⟩
  rw [Int.toNat_natCast]
  refine ⟨_, rfl, _, rfl, ground_Space_ok (P0 I8) ⟨_, rfl, mem_Regions_ok (bu_sp (pl_bu (P0 I8))) ⟨_, rfl, ground_Buddy_ok (P0 I8) ⟨_, rfl, ?_⟩⟩⟩⟩
  refine headsB W (pl_bu (P0 I8)) fun h9 hp hc N9 => ⟨_, _, _, rfl, ?_⟩
  have I9 := I8.new N9
  obtain ⟨wa, Sa⟩ := assign4 (I9.at 3) (.int .i64 (x.st.n : Int)) (.slice hp (hdL c fl x.m.o).length (hdL c fl x.m.o).length) (.slice gp x.m.n gc) (.slice (some ⟨bb, 0, none⟩) (x.st.n * c.size) (x.st.n * c.size))
  have Ia := I9.step 3 Sa
  refine ⟨wa, ?_⟩
  generalize setCs h9 ⟨b1, 0, none⟩ 0 [.int .i64 (x.st.n : Int), .slice hp (hdL c fl x.m.o).length (hdL c fl x.m.o).length, .slice gp x.m.n gc, .slice (some ⟨bb, 0, none⟩) (x.st.n * c.size) (x.st.n * c.size)] = ha at Ia ⊢
  obtain ⟨m0, m1, m2, m3⟩ := f4_cells (Ia.at 3)
  refine ⟨_, m0, _, _, _, m1, _, _, _, m2, _, _, _, m3, hK ha hp hc gp gc bb ?_⟩
  have Ib : Hold h ha [slR hp (hdL c fl x.m.o).length hc 1 (uL (hdL c fl x.m.o)), blkR bb (x.st.n * c.size) fun j => .int .u8 (x.st.M j), plainR x.m gp gc qp qc wp wc] := Ia.sub (.cons_cons _ (.cons_cons _ (.cons_cons _ (.cons _ (.cons _ .slnil)))))
  have Ic := (Ib.as 2 (R := plainR x.m gp gc qp qc wp wc) (R' := slR gp x.m.n gc 11 (pgF x.m.pg)) (fun A => A.1) fun b e => .inl e).swap2.swap.swap2.join.swap.join
  exact Ic.toNew

theorem same6_ok {hp hp' gp gp' : Option Addr} {gc gc' bb bb' : Nat} {hcc hcc' : Nat} (W : WI c x fl L) (A : (lookR c x fl hp hcc gp gc bb).P h) (B : (lookR c x fl hp' hcc' gp' gc' bb').P h) (hK : ∀ h', Upd NoB h h' → K (.bool true) h') :
    CallV Try.prog w₀ F.croftlaw6_same [lookV c x fl hp gp gc bb, lookV c x fl hp' gp' gc' bb'] h K := by
  refine croftlaw6_same.call ?_
  unfold croftlaw6_same.vc
  have o8 := W.ok.m.o8
  have n1 := W.ok.m.n1
  have hsp := span_le W
  have hlen : (hdL c fl x.m.o).length = x.m.o + 1 := hdL_len _ _ _
  have N5 := box4 h (.int .i64 (x.st.n : Int)) (.slice hp (hdL c fl x.m.o).length (hdL c fl x.m.o).length) (.slice gp x.m.n gc) (.slice (some ⟨bb, 0, none⟩) (x.st.n * c.size) (x.st.n * c.size)) T.T_croftlaw6_look
  generalize Array.push h (.cells #[.int .i64 (x.st.n : Int), .slice hp (hdL c fl x.m.o).length (hdL c fl x.m.o).length, .slice gp x.m.n gc, .slice (some ⟨bb, 0, none⟩) (x.st.n * c.size) (x.st.n * c.size)] T.T_croftlaw6_look) = h5 at N5 ⊢
  have N6 := box4 h5 (.int .i64 (x.st.n : Int)) (.slice hp' (hdL c fl x.m.o).length (hdL c fl x.m.o).length) (.slice gp' x.m.n gc') (.slice (some ⟨bb', 0, none⟩) (x.st.n * c.size) (x.st.n * c.size)) T.T_croftlaw6_look
  generalize Array.push h5 (.cells #[.int .i64 (x.st.n : Int), .slice hp' (hdL c fl x.m.o).length (hdL c fl x.m.o).length, .slice gp' x.m.n gc', .slice (some ⟨bb', 0, none⟩) (x.st.n * c.size) (x.st.n * c.size)] T.T_croftlaw6_look) = h6 at N6 ⊢
  obtain ⟨b0, eb0⟩ : ∃ b0, b0 = h.size := ⟨_, rfl⟩
  obtain ⟨b1, eb1⟩ : ∃ b1, b1 = h5.size := ⟨_, rfl⟩
  rw [← eb0] at N5 ⊢
  rw [← eb1] at N6 ⊢
  have I0 := ((Hold.nil h).new N5).new N6
  have A6 : (lookR c x fl hp hcc gp gc bb).P h6 := (lookR c x fl hp hcc gp gc bb).st A I0.u fun _ _ => id
  have B6 : (lookR c x fl hp' hcc' gp' gc' bb').P h6 := (lookR c x fl hp' hcc' gp' gc' bb').st B I0.u fun _ _ => id
  obtain ⟨k0, k1, k2, k3⟩ := f4_cells (I0.at 1)
  obtain ⟨m0, m1, m2, m3⟩ := f4_cells (I0.at 0)
  have rowB : ∀ {bb : Nat}, Blk h6 bb (x.st.n * c.size) (fun j => .int .u8 (x.st.M j)) → Row h6 (some ⟨bb, 0, none⟩) (x.st.n * c.size) fun j => .int .u8 (x.st.M j) := fun B => by
    have := B.row 0 (x.st.n * c.size) (by omega)
    simpa using this
  refine ⟨_, k0, _, m0, fun J3 hJ3 => pF (eq_b rfl) ⟨_, _, _, k1, _, _, _, m1, hJ3 _ _ fun J4 hJ4 => pF (eq_b rfl) ⟨_, _, _, k2, _, _, _, m2, Pages6_true (by omega) (sl_row A6.2.1.1) (sl_row B6.2.1.1) ⟨_, rfl, hJ4 _ _ fun J5 hJ5 => pF rfl ⟨_, _, _, k3, _, _, _, m3, ?_⟩⟩⟩⟩⟩
  refine Same6_true (by omega) (rowB A6.2.1.2.1) (rowB B6.2.1.2.1) (fun _ _ => rfl) ⟨_, rfl, hJ5 _ _ (iF rfl fun J6 hJ6 L7 hL7 => ?_)⟩
  have loop : ∀ (d i : Nat), i + d = (hdL c fl x.m.o).length → L7 [.pointer (some ⟨b0, 0, none⟩), .pointer (some ⟨b1, 0, none⟩), .int .i64 (i : Int)] h6 := by
    intro d
    induction d with
    | zero =>
      intro i hi
      exact hL7 _ _ _ _ ⟨_, _, _, k1, iF (decide_eq_false (by omega)) (hJ6 _ (hK h6 I0.u))⟩
    | succ d ih =>
      intro i hi
      obtain ⟨bx, ex, vx⟩ := sl_cell A6.1 (i := i) (by omega)
      obtain ⟨by', ey, vy⟩ := sl_cell B6.1 (i := i) (by omega)
      refine hL7 _ _ _ _ ⟨_, _, _, k1, iT (decide_eq_true (by omega)) ⟨_, _, _, k1, _, ex, by omega, by omega, (hdL c fl x.m.o).getD i 0, by rw [at1]; exact vx, _, _, _, m1, _, ey, by omega, by omega, (hdL c fl x.m.o).getD i 0, by rw [at1]; exact vy, iF (eq_b rfl) ?_⟩⟩
      rw [show IntKind.wrap .i64 ((i : Int) + 1) = ((i + 1 : Nat) : Int) by rw [IntKind.wrap_i64]; omega]
      exact ih (i + 1) (by omega)
  exact loop (hdL c fl x.m.o).length 0 (by omega)
end

set_option maxHeartbeats 4000000 in
theorem RegionRefused_law {w : World} {a b d : Int} {p : Option Addr} {n cp : Nat} (ha : (Lit.int .u64 a).wf = true) (hb : (Lit.int .i64 b).wf = true) (hd : (Lit.int .i64 d).wf = true) (hs : Ops6 w.heap p n cp) :
    CallV Try.prog w F.croftlaw6_RegionRefused [.agg #[.int .u64 a, .int .i64 b, .int .i64 d], .slice p n cp] w.heap fun v h' => v = .bool true ∧ Upd NoB w.heap h' := by
  obtain ⟨f, hn, hcp, hr, hop⟩ := hs
  have hfin : ∀ h', Upd NoB w.heap h' → (fun (r : Value) (h' : Heap) => r = Value.bool true ∧ Upd NoB w.heap h') (.bool true) h' := fun h' u => ⟨rfl, u⟩
  generalize (fun (r : Value) (h' : Heap) => r = Value.bool true ∧ Upd NoB w.heap h') = K at hfin ⊢
  refine croftlaw6_RegionRefused.call ?_
  unfold croftlaw6_RegionRefused.vc
  have N0 := box3 w.heap (.int .u64 a) (.int .i64 b) (.int .i64 d) T.T_api_Config
  generalize Array.push w.heap (.cells #[.int .u64 a, .int .i64 b, .int .i64 d] T.T_api_Config) = h0 at N0 ⊢
  have I0 := (Hold.nil w.heap).new N0
  refine awake6_ok fun h1 u1 => ⟨_, rfl, iF rfl ?_⟩
  have I1 := I0.quiet u1
  obtain ⟨k0, k1, k2⟩ := f3_cells (I1.at 0)
  refine ⟨_, k0, _, k1, _, k2, region_New_ok (wf_u64 ha) (fun hbad h2 u2 => ⟨_, _, rfl, ?_⟩) fun g h2 Q N2 => ⟨_, _, rfl, ?_⟩⟩
  · have I2 := I1.quiet u2
    obtain ⟨k0, k1, k2⟩ := f3_cells (I2.at 0)
    refine iT rfl fun J4 hJ4 => qT rfl ⟨_, k0, _, k1, _, k2, ref2_May_ok (wf_u64 ha) fun h3 u3 => ⟨_, rfl, hJ4 _ _ ?_⟩⟩
    rw [decide_eq_false hbad]
    exact hfin _ (I2.quiet u3).u
  have I3 := I1.new N2
  have W0 := wi0 g
  have mo : (BU0 ⟨a, b, d⟩).m.o = d.toNat := bu0_o g
  have sn : (BU0 ⟨a, b, d⟩).st.n = 0 := rfl
  have g0 := g.o0
  have g8 := g.o8
  simp only [] at g0 g8
  obtain ⟨O, rfl⟩ : ∃ O : Nat, d = O := ⟨d.toNat, by omega⟩
  rw [Int.toNat_natCast] at mo
  generalize BU0 ⟨a, b, (O : Int)⟩ = x0 at I3 W0 mo sn
  obtain ⟨k0, k1, k2⟩ := f3_cells (I3.at 1)
  refine iF rfl ⟨_, k0, _, k1, _, k2, New6_ok (by omega) fun h4 Y0 N4 => ⟨_, _, _, _, _, _, _, _, _, _, rfl, ?_⟩⟩
  obtain ⟨c, hc⟩ : ∃ c : Cfg, c = ⟨a, b, O⟩ := ⟨_, rfl⟩
  have N5 := box6 h4 (.int .u64 0) (.int .i64 0) (.int .i64 0) (.int .i64 0) (.slice none 0 0) (.slice none 0 0) T.T_croftref6_Pool
  generalize Array.push h4 (.cells #[.int .u64 0, .int .i64 0, .int .i64 0, .int .i64 0, .slice none 0 0, .slice none 0 0] T.T_croftref6_Pool) = h5 at N5 ⊢
  obtain ⟨tb, etb⟩ : ∃ tb, tb = Array.size h4 := ⟨_, rfl⟩
  rw [← etb] at N5 ⊢
  have I5 := (I3.new N4).new N5
  rw [← hc] at I5 W0 ⊢
  obtain ⟨wI6, SI6⟩ := assign6 (I5.at 0) (.int .u64 c.base) (.int .i64 c.limit) (.int .i64 c.order) (.int .i64 ((0 : Nat) : Int)) (.slice Y0.fp (O + 1) Y0.fc) (.slice Y0.vp ([] : List PBk).length Y0.vc)
  have I6 := I5.step 0 SI6
  refine ⟨wI6, ?_⟩
  generalize setCs h5 ⟨tb, 0, none⟩ 0 [.int .u64 c.base, .int .i64 c.limit, .int .i64 c.order, .int .i64 ((0 : Nat) : Int), .slice Y0.fp (O + 1) Y0.fc, .slice Y0.vp ([] : List PBk).length Y0.vc] = h6 at I6 ⊢
  have I6 : Hold w.heap h6 [blkR tb 6 (pvF c 0 Y0 O []), rfR Y0 O (fun _ => []) [], plR c Q x0, blkR w.heap.size 3 (f3 (.int .u64 a) (.int .i64 b) (.int .i64 (O : Int)))] := I6
  have I7 : Hold w.heap h6 [blkR tb 6 (pvF c 0 Y0 O []), ptR c O Q x0 Y0 (fun _ => []) [], blkR w.heap.size 3 (f3 (.int .u64 a) (.int .i64 b) (.int .i64 (O : Int)))] := I6.swap2.swap.swap2.join.swap
  have ecfg : (f3 (.int .u64 a) (.int .i64 b) (.int .i64 (O : Int))) = f3 (.int .u64 c.base) (.int .i64 c.limit) (.int .i64 c.order) := by rw [hc]
  rw [ecfg] at I7
  clear I6 I5 N5 N4 I3 N2 I1 I0 N0
  intro J9 hJ9 L10 hL10
  generalize hpb : Q.pb = pb
  have loop : ∀ (k i : Nat) (hx : Heap) (Q : PL) (x : BU) (Y : RW6) (fl : Nat → List Nat) (L : List PBk), i + k = n → Q.pb = pb → WI c x fl L → x.m.o = O →
      Hold w.heap hx [blkR tb 6 (pvF c x.st.n Y O L), ptR c O Q x Y fl L, blkR w.heap.size 3 (f3 (.int .u64 c.base) (.int .i64 c.limit) (.int .i64 c.order))] →
      L10 [.slice p n cp, .pointer (some ⟨w.heap.size, 0, none⟩), .pointer (some ⟨pb, 0, none⟩), .pointer (some ⟨tb, 0, none⟩), .int .i64 (i : Int)] hx := by
    intro k
    induction k with
    | zero =>
      intro i hx Q x Y fl L hi hq W ox I
      exact hL10 _ _ _ _ _ _ _ _ (iF (decide_eq_false (by omega)) (hJ9 _ (hfin _ I.u)))
    | succ k ih =>
      intro i hx Q x Y fl L hi hq W ox I
      obtain ⟨ad, ead, hcell⟩ := op6_at hr (i := i) (by omega)
      have ok := hop i (by omega)
      generalize f i = o at hcell ok
      obtain ⟨d0, d1, d2, d3, d4, d5, d6⟩ := hcell hx I.u
      have hwr : IntKind.wrap .i64 ((i : Int) + 1) = ((i + 1 : Nat) : Int) := by rw [IntKind.wrap_i64]; omega
      refine hL10 _ _ _ _ _ _ _ _ (iT (decide_eq_true (by omega)) ⟨ad, ead, by omega, by omega, _, d0, _, d1, _, d2, _, d3, _, d4, _, d5, _, _, _, d6, ?_⟩)
      have N1 := box7 hx (.int .i64 0) (.int .i64 0) (.int .i64 0) (.int .i64 0) (.bool false) (.int .u64 0) (.slice none 0 0) T.T_croftlaw6_Op
      generalize Array.push hx (.cells #[.int .i64 0, .int .i64 0, .int .i64 0, .int .i64 0, .bool false, .int .u64 0, .slice none 0 0] T.T_croftlaw6_Op) = h8 at N1 ⊢
      obtain ⟨ob, eob⟩ : ∃ ob, ob = Array.size hx := ⟨_, rfl⟩
      rw [← eob] at N1 ⊢
      have I8 := I.new N1
      obtain ⟨w9, S9⟩ := assign7 (I8.at 0) (.int .i64 o.kind) (.int .i64 o.order) (.int .i64 o.which) (.int .i64 o.more) (.bool o.deny) (.int .u64 o.at') (.slice o.dp o.dn o.dc)
      have I9 := I8.step 0 S9
      refine ⟨w9, ?_⟩
      generalize setCs h8 ⟨ob, 0, none⟩ 0 [.int .i64 o.kind, .int .i64 o.order, .int .i64 o.which, .int .i64 o.more, .bool o.deny, .int .u64 o.at', .slice o.dp o.dn o.dc] = h9 at I9 ⊢
      have I9 : Hold w.heap h9 [blkR ob 7 (f7 (.int .i64 o.kind) (.int .i64 o.order) (.int .i64 o.which) (.int .i64 o.more) (.bool o.deny) (.int .u64 o.at') (.slice o.dp o.dn o.dc)), blkR tb 6 (pvF c x.st.n Y O L), ptR c O Q x Y fl L, blkR w.heap.size 3 (f3 (.int .u64 c.base) (.int .i64 c.limit) (.int .i64 c.order))] := I9
      obtain ⟨q0, q1, q2⟩ := f3_cells (I9.at 3)
      refine ⟨_, q0, _, q1, _, q2, ?_⟩
      rw [← hq]
      refine looked6_ok W (I9.at 2 (R := ptR c O Q x Y fl L)).1 fun ha hp hc gp gc bb Na => ⟨_, _, _, _, _, _, _, _, _, _, rfl, ?_⟩
      have Ia := I9.new Na
      have Nb := box4 ha (.int .i64 0) (.slice none 0 0) (.slice none 0 0) (.slice none 0 0) T.T_croftlaw6_look
      generalize Array.push ha (.cells #[.int .i64 0, .slice none 0 0, .slice none 0 0, .slice none 0 0] T.T_croftlaw6_look) = hb' at Nb ⊢
      obtain ⟨lb, elb⟩ : ∃ lb, lb = Array.size ha := ⟨_, rfl⟩
      rw [← elb] at Nb ⊢
      have Ib := Ia.new Nb
      obtain ⟨wc, Sc⟩ := assign4 (Ib.at 0) (.int .i64 (x.st.n : Int)) (.slice hp (hdL c fl x.m.o).length (hdL c fl x.m.o).length) (.slice gp x.m.n gc) (.slice (some ⟨bb, 0, none⟩) (x.st.n * c.size) (x.st.n * c.size))
      have Ic := Ib.step 0 Sc
      refine ⟨wc, ?_⟩
      generalize setCs hb' ⟨lb, 0, none⟩ 0 [.int .i64 (x.st.n : Int), .slice hp (hdL c fl x.m.o).length (hdL c fl x.m.o).length, .slice gp x.m.n gc, .slice (some ⟨bb, 0, none⟩) (x.st.n * c.size) (x.st.n * c.size)] = hc' at Ic ⊢
      have Ic : Hold w.heap hc' [blkR lb 4 (lookF c x fl hp gp gc bb), lookR c x fl hp hc gp gc bb, blkR ob 7 (f7 (.int .i64 o.kind) (.int .i64 o.order) (.int .i64 o.which) (.int .i64 o.more) (.bool o.deny) (.int .u64 o.at') (.slice o.dp o.dn o.dc)), blkR tb 6 (pvF c x.st.n Y O L), ptR c O Q x Y fl L, blkR w.heap.size 3 (f3 (.int .u64 c.base) (.int .i64 c.limit) (.int .i64 c.order))] := Ic
      obtain ⟨k0, k1, k2, k3, k4, k5⟩ := f6_cells (Ic.at 3)
      have oc : ∀ (j : Nat) (hj : j < 7), cellAt hc' ((⟨ob, 0, none⟩ : Addr).add j) = some ((f7 (.int .i64 o.kind) (.int .i64 o.order) (.int .i64 o.which) (.int .i64 o.more) (.bool o.deny) (.int .u64 o.at') (.slice o.dp o.dn o.dc)) j) := fun j hj => f7_cell (Ic.at 2) hj
      have oc0 : ∀ {hy : Heap} {rs : List Res} (I : Hold w.heap hy rs) (i : Nat) (hi : rs[i]? = some (blkR ob 7 (f7 (.int .i64 o.kind) (.int .i64 o.order) (.int .i64 o.which) (.int .i64 o.more) (.bool o.deny) (.int .u64 o.at') (.slice o.dp o.dn o.dc))) := by rfl), cellAt hy ⟨ob, 0, none⟩ = some (.int .i64 o.kind) := fun {hy} {rs} I i hi => by
        have := f7_cell (Hold.at I i hi) (i := 0) (by omega)
        rw [add_mk] at this
        exact this
      refine ⟨_, _, _, k5, _, k3, _, k0, _, k1, _, k2, _, k3, _, _, _, k4, _, _, _, k5, _, oc0 Ic 2, _, oc 1 (by omega), _, oc 2 (by omega), _, oc 3 (by omega), _, oc 4 (by omega), _, oc 5 (by omega), _, _, _, oc 6 (by omega), ?_⟩
      refine played6_ok (o := o) (fl := fl) W ox ok.a ok.dc (ok.row.upd Ic.u fun _ _ => id) ok.by8 (ok.off.imp id fun ho => off_Zp (c' := c) (Y' := Y) Ic (List.mem_of_getElem? (i := 4) rfl) ho) (Ic.at 4) fun x' fl' L' Q' Y' hd hq' W' o' hcl Sd => ⟨_, _, _, _, _, _, _, _, _, _, _, rfl, ?_⟩
      have Id := Ic.step 4 Sd
      have Nnb := box6 hd (.int .u64 0) (.int .i64 0) (.int .i64 0) (.int .i64 0) (.slice none 0 0) (.slice none 0 0) T.T_croftref6_Pool
      generalize Array.push hd (.cells #[.int .u64 0, .int .i64 0, .int .i64 0, .int .i64 0, .slice none 0 0, .slice none 0 0] T.T_croftref6_Pool) = he0 at Nnb ⊢
      obtain ⟨nb, enb⟩ : ∃ nb, nb = Array.size hd := ⟨_, rfl⟩
      rw [← enb] at Nnb ⊢
      have Ie0 := Id.new Nnb
      obtain ⟨wnb, Snb⟩ := assign6 (Ie0.at 0) (.int .u64 c.base) (.int .i64 c.limit) (.int .i64 c.order) (.int .i64 (x'.st.n : Int)) (.slice Y'.fp (O + 1) Y'.fc) (.slice Y'.vp L'.length Y'.vc)
      have Ie := Ie0.step 0 Snb
      refine ⟨wnb, ?_⟩
      generalize setCs he0 ⟨nb, 0, none⟩ 0 [.int .u64 c.base, .int .i64 c.limit, .int .i64 c.order, .int .i64 (x'.st.n : Int), .slice Y'.fp (O + 1) Y'.fc, .slice Y'.vp L'.length Y'.vc] = he at Ie ⊢
      obtain ⟨n0, n1, n2, n3, n4, n5⟩ := f6_cells (Ie.at 0)
      have Ie : Hold w.heap he [blkR nb 6 (pvF c x'.st.n Y' O L'), blkR lb 4 (lookF c x fl hp gp gc bb), lookR c x fl hp hc gp gc bb, blkR ob 7 (f7 (.int .i64 o.kind) (.int .i64 o.order) (.int .i64 o.which) (.int .i64 o.more) (.bool o.deny) (.int .u64 o.at') (.slice o.dp o.dn o.dc)), blkR tb 6 (pvF c x.st.n Y O L), ptR c O Q' x' Y' fl' L', blkR w.heap.size 3 (f3 (.int .u64 c.base) (.int .i64 c.limit) (.int .i64 c.order))] := Ie
      refine iF rfl ⟨_, oc0 Ie 3, fun J19 hJ19 => ?_⟩
      have go : ∀ (hy : Heap), Hold w.heap hy [blkR nb 6 (pvF c x'.st.n Y' O L'), blkR tb 6 (pvF c x.st.n Y O L), ptR c O Q' x' Y' fl' L', blkR w.heap.size 3 (f3 (.int .u64 c.base) (.int .i64 c.limit) (.int .i64 c.order))] →
          (∃ n0 : Int, cellAt hy ⟨nb, 0, none⟩ = some (.int .u64 n0) ∧ ∃ n1 : Int, cellAt hy ((⟨nb, 0, none⟩ : Addr).add 1) = some (.int .i64 n1) ∧ ∃ n2 : Int, cellAt hy ((⟨nb, 0, none⟩ : Addr).add 2) = some (.int .i64 n2) ∧ ∃ n3 : Int, cellAt hy ((⟨nb, 0, none⟩ : Addr).add 3) = some (.int .i64 n3) ∧ ∃ n4p : Option Addr, ∃ n4n : Nat, ∃ n4c : Nat, cellAt hy ((⟨nb, 0, none⟩ : Addr).add 4) = some (.slice n4p n4n n4c) ∧ ∃ n5p : Option Addr, ∃ n5n : Nat, ∃ n5c : Nat, cellAt hy ((⟨nb, 0, none⟩ : Addr).add 5) = some (.slice n5p n5n n5c) ∧
            (WrN hy ⟨tb, 0, none⟩ 6 ∧ L10 [.slice p n cp, .pointer (some ⟨w.heap.size, 0, none⟩), .pointer (some ⟨Q.pb, 0, none⟩), .pointer (some ⟨tb, 0, none⟩), .int .i64 (IntKind.wrap .i64 ((i : Int) + 1))] (setCs hy ⟨tb, 0, none⟩ 0 [.int .u64 n0, .int .i64 n1, .int .i64 n2, .int .i64 n3, .slice n4p n4n n4c, .slice n5p n5n n5c]))) := by
        intro hy Iy
        obtain ⟨m0, m1, m2, m3, m4, m5⟩ := f6_cells (Iy.at 0)
        refine ⟨_, m0, _, m1, _, m2, _, m3, _, _, _, m4, _, _, _, m5, ?_⟩
        obtain ⟨wz, Sz⟩ := assign6 (Iy.at 1) (.int .u64 c.base) (.int .i64 c.limit) (.int .i64 c.order) (.int .i64 (x'.st.n : Int)) (.slice Y'.fp (O + 1) Y'.fc) (.slice Y'.vp L'.length Y'.vc)
        have Iz := Iy.step 1 Sz
        refine ⟨wz, ?_⟩
        rw [hwr, hq]
        exact ih (i + 1) _ Q' x' Y' fl' L' (by omega) (hq'.trans hq) W' o' Iz.drop
      have Isub : Hold w.heap he [blkR nb 6 (pvF c x'.st.n Y' O L'), blkR tb 6 (pvF c x.st.n Y O L), ptR c O Q' x' Y' fl' L', blkR w.heap.size 3 (f3 (.int .u64 c.base) (.int .i64 c.limit) (.int .i64 c.order))] := Ie.sub (.cons_cons _ (.cons _ (.cons _ (.cons _ (List.Sublist.refl _)))))
      obtain ⟨e0, e1, e2, e3, e4, e5⟩ := f6_cells (Ie.at 0)
      have key : ∀ b68 : Bool, (b68 = true → (o.kind = 1 ∨ o.kind = 2)) → J19 b68 he := by
        intro b68 hb68
        refine hJ19 _ _ fun J20 hJ20 => ?_
        have f20 : ∀ bk : Bool, (bk = true → (o.kind = 1 ∨ o.kind = 2 ∨ o.kind = 3)) → J20 bk he := by
          intro bk hbk
          refine hJ20 _ _ fun J21 hJ21 => ?_
          have f21 : ∀ bl : Bool, (bl = true → (o.kind = 1 ∨ o.kind = 2 ∨ o.kind = 3) ∧ L'.length = L.length) → J21 bl he := by
            intro bl hbl
            refine hJ21 _ _ fun J22 hJ22 => ?_
            have f22 : ∀ br : Bool, (br = true → (o.kind = 1 ∨ o.kind = 2 ∨ o.kind = 3) ∧ L'.length = L.length) → J22 br he := by
              intro br hbr
              refine hJ22 _ _ fun J23 hJ23 => ?_
              cases br with
              | false => exact qF' rfl (hJ23 _ _ (iF rfl (go he Isub)))
              | true =>
                obtain ⟨hk, hlen⟩ := hbr rfl
                obtain ⟨ex, ef, eL⟩ := hcl hlen hk
                obtain ⟨l0, l1, l2, l3⟩ := f4_cells (Ie.at 1)
                obtain ⟨q0, q1, q2⟩ := f3_cells (Ie.at 6)
                refine qT rfl ⟨_, l0, _, _, _, l1, _, _, _, l2, _, _, _, l3, _, q0, _, q1, _, q2, ?_⟩
                rw [← hq']
                refine looked6_ok W' (Ie.at 5 (R := ptR c O Q' x' Y' fl' L')).1 fun hf hp2 hc2 gp2 gc2 bb2 Nf => ⟨_, _, _, _, _, _, _, _, _, _, rfl, ?_⟩
                have If := Ie.new Nf
                obtain ⟨l0, l1, l2, l3⟩ := f4_cells (If.at 2)
                have A1 : (lookR c x fl hp hc gp gc bb).P hf := If.at 3
                have A2 : (lookR c x' fl' hp2 hc2 gp2 gc2 bb2).P hf := If.at 0
                refine ⟨l0, l1, l2, l3, ?_⟩
                rw [ex, ef] at A2 ⊢
                refine same6_ok W A1 A2 fun hg ug => ⟨_, rfl, hJ23 _ _ (iF rfl (go hg ?_))⟩
                exact ((If.quiet ug).drop).sub (.cons_cons _ (.cons _ (.cons _ (.cons _ (List.Sublist.refl _)))))
            cases bl with
            | false => exact qF' rfl (f22 false fun e => by cases e)
            | true => exact qT rfl ⟨_, e3, f22 _ fun _ => hbl rfl⟩
          cases bk with
          | false => exact qF' rfl (f21 false fun e => by cases e)
          | true => exact qT rfl ⟨_, _, _, e5, f21 _ fun e => ⟨hbk rfl, by have := eq_of_beq e; omega⟩⟩
        cases b68 with
        | false => exact pF rfl ⟨_, oc0 Ie 3, f20 _ fun e => .inr (.inr (eq_of_beq e))⟩
        | true => exact pT rfl (f20 true fun _ => (hb68 rfl).elim .inl fun e => .inr (.inl e))
      by_cases hk1 : o.kind = 1
      · exact pT (by rw [hk1]; rfl) (key true fun _ => .inl hk1)
      · exact pF (beq_false_of_ne hk1) ⟨_, oc0 Ie 3, key _ fun e => .inr (eq_of_beq e)⟩
  exact loop n 0 h6 Q x0 Y0 _ [] (by omega) hpb W0 mo (by rw [sn]; exact I7)
end Go.Proofs.Ytippbfnhgooepaa
