/- croftlaw6: RegionExact. No condition. -/
import Derived.Test.YtippbfnhgooepaaCA
set_option linter.unusedSimpArgs false
set_option linter.unusedVariables false
namespace Go.Proofs.Ytippbfnhgooepaa
open Go.V Classical

theorem SnOk.kept {h : Heap} {st st' : Sto} {s : Sn} (S : SnOk h st s) (k : ∀ o, 4096 * s.p ≤ o → o < 4096 * (s.p + 2 ^ s.k) → st'.M o = st.M o) : SnOk h st' s :=
  ⟨S.n, S.c, S.r, fun j hj => by
    have := S.n
    rw [k _ (by omega) (by rw [Nat.mul_add]; omega)]; exact S.m j hj⟩

theorem sn_lv {l : List Sn} {s : Sn} (h : s ∈ l) : (s.p, s.k) ∈ lvB (bks l) := List.mem_map.2 ⟨s.bk, List.mem_map.2 ⟨s, h, rfl⟩, rfl⟩

theorem sn_kept {h : Heap} {st st' : Sto} {l : List Sn} (S : ∀ s ∈ l, SnOk h st s) (k : Keep (lvB (bks l)) st st') : ∀ s ∈ l, SnOk h st' s := fun s hs => (S s hs).kept (k _ (sn_lv hs))

theorem shlR {k : Nat} (hk : k ≤ 8) : IntKind.wrap .u64 ((4096 : Int) * 2 ^ min (Int.toNat (k : Int)) (IntKind.bits .u64)) = ((4096 * 2 ^ k : Nat) : Int) := by
  have := (shl64 hk).1
  rw [show IntKind.wrap .u64 (k : Int) = (k : Int) by rw [IntKind.wrap_u64]; omega] at this
  exact this

theorem endE {c : Cfg} {r o : Nat} (hc : c.base = 1048576) (h : r * 2 ^ o ≤ 2000) : IntKind.wrap .u64 (c.base + IntKind.wrap .u64 (IntKind.wrap .u64 (r : Int) * ((4096 * 2 ^ o : Nat) : Int))) = adr c (r * 2 ^ o) := by
  have h0 := Nat.two_pow_pos o
  have hr : r ≤ 2000 := Nat.le_trans (Nat.le_mul_of_pos_right r h0) h
  rw [show IntKind.wrap .u64 (r : Int) = (r : Int) by rw [IntKind.wrap_u64]; omega]
  rw [show (r : Int) * ((4096 * 2 ^ o : Nat) : Int) = ((4096 * (r * 2 ^ o) : Nat) : Int) by rw [← Int.natCast_mul, Nat.mul_left_comm]]
  generalize r * 2 ^ o = m at h ⊢
  unfold adr
  rw [hc, IntKind.wrap_u64, IntKind.wrap_u64]
  omega

theorem mod6 {c : Cfg} {p k : Nat} (hc : c.base = 1048576) (hk : k ≤ 8) (hp : p % 2 ^ k = 0) : Int.tmod (adr c p) ((4096 * 2 ^ k : Nat) : Int) = 0 := by
  obtain ⟨q, rfl⟩ := Nat.dvd_of_mod_eq_zero hp
  have e : adr c (2 ^ k * q) = ((4096 * 2 ^ k : Nat) : Int) * ((2 ^ (8 - k) + q : Nat) : Int) := by
    have e1 : 4096 * 2 ^ k * (2 ^ (8 - k) + q) = 1048576 + 4096 * (2 ^ k * q) := by
      rw [Nat.mul_add, Nat.mul_assoc 4096 (2 ^ k) (2 ^ (8 - k)), ← Nat.pow_add, show k + (8 - k) = 8 by omega, Nat.mul_assoc]
    rw [← Int.natCast_mul, e1]
    unfold adr
    rw [hc]; omega
  rw [e]
  exact Int.mul_tmod_right _ _

theorem mem_set_er {α : Type} {l : List α} {i : Nat} {a s : α} (h : s ∈ l.set i a) (hi : i < l.length) : s = a ∨ s ∈ l.eraseIdx i := by
  rw [List.set_eq_take_append_cons_drop, if_pos hi] at h
  rw [List.eraseIdx_eq_take_drop_succ]
  rcases List.mem_append.1 h with h | h
  · exact .inr (List.mem_append_left _ h)
  · rcases List.mem_cons.1 h with h | h
    · exact .inl h
    · exact .inr (List.mem_append_right _ h)

theorem op6_at {h : Heap} {p : Option Addr} {n : Nat} {f : Nat → O6} (hr : n = 0 ∨ ∃ b off, p = some ⟨b, off, none⟩ ∧ ∀ i, i < n → ∀ j, j < 7 → cellAt h ⟨b, off + i * 7 + j, none⟩ = some ((f i).f j)) {i : Nat} (hi : i < n) :
    ∃ a, p = some a ∧ ∀ h', Upd NoB h h' → cellAt h' (a.add (Int.toNat (i : Int) * 7)) = some (.int .i64 (f i).kind) ∧ cellAt h' ((a.add (Int.toNat (i : Int) * 7)).add 1) = some (.int .i64 (f i).order) ∧ cellAt h' ((a.add (Int.toNat (i : Int) * 7)).add 2) = some (.int .i64 (f i).which) ∧
      cellAt h' ((a.add (Int.toNat (i : Int) * 7)).add 3) = some (.int .i64 (f i).more) ∧ cellAt h' ((a.add (Int.toNat (i : Int) * 7)).add 4) = some (.bool (f i).deny) ∧ cellAt h' ((a.add (Int.toNat (i : Int) * 7)).add 5) = some (.int .u64 (f i).at') ∧ cellAt h' ((a.add (Int.toNat (i : Int) * 7)).add 6) = some (.slice (f i).dp (f i).dn (f i).dc) := by
  rcases hr with e | ⟨b, off, rfl, hr⟩
  · omega
  · have hc : ∀ j, j < 7 → ∀ h', Upd NoB h h' → cellAt h' (((⟨b, off, none⟩ : Addr).add (Int.toNat (i : Int) * 7)).add j) = some ((f i).f j) := fun j hj h' u => by
      rw [add_mk, add_mk, Int.toNat_natCast]; exact cellAt_upd (hr i hi j hj) u fun e => e
    refine ⟨_, rfl, fun h' u => ⟨?_, hc 1 (by omega) h' u, hc 2 (by omega) h' u, hc 3 (by omega) h' u, hc 4 (by omega) h' u, hc 5 (by omega) h' u, hc 6 (by omega) h' u⟩⟩
    have := hc 0 (by omega) h' u
    rw [add_mk, add_mk, Nat.add_zero] at this
    rw [add_mk]; exact this

section
variable {w₀ : World} {h0 h h' : Heap} {c : Cfg} {Q : PL} {x : BU} {K : Value → Heap → Prop} {fl : Nat → List Nat} {l : List Bk} {p k : Nat}

theorem off_Z {rs : List Res} {q : Option Addr} (I : Hold h0 h rs) (hm : plR c Q x ∈ rs) (ho : Off (fun b => h0.size ≤ b) q) : Off Q.B.Z q := fun a e hz => ho a e (I.ge _ hm _ (.inr (.inr (.inl (.inr hz)))))

theorem needX (W : WI c x fl (lvB l)) (H : (plR c Q x).P h) {o : Int} {deny : Bool}
    (hb : (o < 0 ∨ o > x.m.o) → ∀ h', Stp h h' (plR c Q x) (plR c Q x) → K (.tuple #[.int .u64 0, .bool false, .int .i64 1]) h')
    (hm : ∀ on : Nat, o = on → on ≤ x.m.o → Stuck l x.m.n on → (deny = true ∨ (x.st.n : Int) = c.limit) → ∀ h', Stp h h' (plR c Q x) (plR c Q x) → K (.tuple #[.int .u64 0, .bool false, .int .i64 2]) h')
    (hg : ∀ on : Nat, o = on → on ≤ x.m.o → ∀ (b : Bool) (p : Nat) x' fl' (Q' : PL) h', b = decide (Stuck l x.m.n on) → (b = true → deny = false ∧ (x.st.n : Int) < c.limit) → Q'.pb = Q.pb → WI c x' fl' ((p, on) :: lvB l) → meetsB l p on = false → x'.m.o = x.m.o →
      x'.st.n = x.st.n + b.toNat → Keep (lvB l) x.st x'.st → Stp h h' (plR c Q x) (plR c Q' x') → K (.tuple #[.int .u64 (adr c p), .bool b, .int .i64 0]) h') :
    CallV Try.prog w₀ F.region_Pool_Need [.pointer (some ⟨Q.pb, 0, none⟩), .int .i64 o, .bool deny] h K := by
  refine needP W H hb (fun on eo ho j p l' j1 j2 hF hi x' h' W' M S => ?_) (fun on eo ho hF hd => hm on eo ho (stuck_yes W ho hF) hd) fun on eo ho hF hd hlt x' h' Q' eq _ W' o' n' s' kp S => ?_
  · obtain ⟨a1, a2⟩ := stuck_no W' M.n
    exact hg on eo ho false p x' _ Q h' (decide_eq_false a1).symm (fun e => by cases e) rfl W' a2 M.o M.k.1 M.k.2 S
  · exact hg on eo ho true x.m.n x' _ Q' h' (decide_eq_true (stuck_yes W ho hF)).symm (fun _ => ⟨hd, hlt⟩) eq W' (stuck_no W' rfl).2 o' s' kp S
end

set_option maxHeartbeats 4000000 in
theorem RegionExact_law {w : World} {l0 o0 : Int} {p : Option Addr} {n cp : Nat} (hl0 : (Lit.int .i64 l0).wf = true) (ho0 : (Lit.int .i64 o0).wf = true) (hs : Ops6 w.heap p n cp) :
    CallV Try.prog w F.croftlaw6_RegionExact [.int .i64 l0, .int .i64 o0, .slice p n cp] w.heap fun v h' => v = .bool true ∧ Upd NoB w.heap h' := by
  obtain ⟨f, hn, hcp, hr, hop⟩ := hs
  have hfin : ∀ h', Upd NoB w.heap h' → (fun (r : Value) (h' : Heap) => r = Value.bool true ∧ Upd NoB w.heap h') (.bool true) h' := fun h' u => ⟨rfl, u⟩
  generalize (fun (r : Value) (h' : Heap) => r = Value.bool true ∧ Upd NoB w.heap h') = K at hfin ⊢
  refine croftlaw6_RegionExact.call ?_
  unfold croftlaw6_RegionExact.vc
  refine awake6_ok fun h1 u1 => ⟨_, rfl, iF rfl ?_⟩
  have I1 := (Hold.nil w.heap).quiet u1
  refine small_ok fun ln on hln hon h2 u2 => ⟨_, _, _, rfl, ?_⟩
  have I2 := I1.quiet u2
  have gd := small_good hln hon
  have N3 := box3 h2 (.int .u64 0) (.int .i64 0) (.int .i64 0) T.T_api_Config
  generalize Array.push h2 (.cells #[.int .u64 0, .int .i64 0, .int .i64 0] T.T_api_Config) = h3 at N3 ⊢
  obtain ⟨cb, ecb⟩ : ∃ cb, cb = Array.size h2 := ⟨_, rfl⟩
  rw [← ecb] at N3 ⊢
  have I3 := I2.new N3
  obtain ⟨w4, S4⟩ := assign3 (I3.at 0) (.int .u64 1048576) (.int .i64 ((ln : Int) + 1)) (.int .i64 (on : Int))
  have I4 := I3.step 0 S4
  refine ⟨w4, ?_⟩
  generalize setCs h3 ⟨cb, 0, none⟩ 0 [.int .u64 1048576, .int .i64 ((ln : Int) + 1), .int .i64 (on : Int)] = h4 at I4 ⊢
  obtain ⟨k0, k1, k2⟩ := f3_cells (I4.at 0)
  refine ⟨_, k0, _, k1, _, k2, ?_⟩
  refine region_New_ok (by unfold U64; omega) (fun hb => absurd gd hb) fun g h5 Q N5 => ⟨_, _, rfl, iF rfl ?_⟩
  have I5 := I4.new N5
  have I5 : Hold w.heap h5 [plR ⟨1048576, (ln : Int) + 1, (on : Int)⟩ Q (BU0 ⟨1048576, (ln : Int) + 1, (on : Int)⟩), blkR cb 3 (f3 (.int .u64 (Cfg.mk 1048576 ((ln : Int) + 1) (on : Int)).base) (.int .i64 (Cfg.mk 1048576 ((ln : Int) + 1) (on : Int)).limit) (.int .i64 (Cfg.mk 1048576 ((ln : Int) + 1) (on : Int)).order))] := I5
  have K2 := (f3_cells (I5.at 1)).2.2
  refine ⟨_, K2, by show 0 ≤ (on : Int); omega, ?_⟩
  clear k0 k1 k2 K2 S4 w4 I4 I3 N3 gd N5
  generalize hcc : (⟨1048576, (ln : Int) + 1, (on : Int)⟩ : Cfg) = c at I5 g ⊢
  have hco : c.order = on := by rw [← hcc]
  have hcb : c.base = 1048576 := by rw [← hcc]
  have W0 := wi0 g
  have mo : (BU0 c).m.o = on := by rw [bu0_o g, hco]; simp
  have sn : (BU0 c).st.n = 0 := rfl
  generalize BU0 c = x0 at I5 W0 mo sn
  generalize hpb : Q.pb = pb
  rw [hco, shlR (show on ≤ 8 by omega)]
  intro J6 hJ6 L9 hL9
  have p8 := pow8 (show on ≤ 8 by omega)
  have hcfg : ∀ {hx : Heap} {rs : List Res} (I : Hold w.heap hx rs) (i : Nat) (hi : rs[i]? = some (blkR cb 3 (f3 (.int .u64 c.base) (.int .i64 c.limit) (.int .i64 c.order))) := by rfl), _ := fun {hx} {rs} I i hi => f3_cells (Hold.at I i hi)
  have loop : ∀ (k i : Nat) (l : List Sn) (hx : Heap) (Q : PL) (x : BU) (fl : Nat → List Nat) (lp : Option Addr) (lc : Nat), i + k = n → Q.pb = pb → WI c x fl (lvB (bks l)) → x.m.o = on → (∀ s ∈ l, SnOk w.heap x.st s) →
      Hold w.heap hx [slR lp l.length lc 4 (snV c l), plR c Q x, blkR cb 3 (f3 (.int .u64 c.base) (.int .i64 c.limit) (.int .i64 c.order))] →
      L9 [.slice p n cp, .pointer (some ⟨cb, 0, none⟩), .pointer (some ⟨pb, 0, none⟩), .int .u64 ((4096 * 2 ^ on : Nat) : Int), .int .i64 (x.st.n : Int), .slice lp l.length lc, .int .i64 (i : Int)] hx := by
    intro k
    induction k with
    | zero =>
      intro i l hx Q x fl lp lc hi hq W ox sk I
      have P : (plR c Q x).P hx := I.at 1
      refine hL9 _ _ _ _ _ _ _ _ _ _ _ _ (iF (decide_eq_false (by omega)) (hJ6 _ _ _ ⟨_, rfl, ?_⟩))
      rw [← hq]
      refine ground_Space_ok P ⟨_, rfl, mem_Regions_ok (bu_sp (pl_bu P)) ⟨_, rfl, ?_⟩⟩
      rw [beq_self_eq_true]
      exact hfin _ I.u
    | succ k ih =>
      intro i l hx Q x fl lp lc hi hq W ox sk I
      have hwr : IntKind.wrap .i64 ((i : Int) + 1) = ((i + 1 : Nat) : Int) := by rw [IntKind.wrap_i64]; omega
      have bL : ∀ {x : BU} {fl : Nat → List Nat} {l : List Sn}, WI c x fl (lvB (bks l)) → l.length ≤ 1024 := fun {x} {fl} {l} W => by
        have := Nat.le_trans (L_len W) W.ok.m.n1
        simpa using this
      have hl := bL W
      have bnd : ∀ b ∈ l, b.p ≤ 4096 ∧ b.k ≤ 8 := fun b hb => W.bnd _ (List.mem_map.2 ⟨b, hb, rfl⟩)
      refine hL9 _ _ _ _ _ _ _ _ _ _ _ _ (iT (decide_eq_true (by omega)) fun J10 hJ10 => ?_)
      have nx : ∀ (hy : Heap) (Q' : PL) (x' : BU) (fl' : Nat → List Nat) (l' : List Sn) (lp' : Option Addr) (lc' : Nat), Q'.pb = pb → WI c x' fl' (lvB (bks l')) → x'.m.o = on → (∀ s ∈ l', SnOk w.heap x'.st s) →
          Hold w.heap hy [slR lp' l'.length lc' 4 (snV c l'), plR c Q' x', blkR cb 3 (f3 (.int .u64 c.base) (.int .i64 c.limit) (.int .i64 c.order))] →
          J10 [.slice p n cp, .pointer (some ⟨cb, 0, none⟩), .pointer (some ⟨pb, 0, none⟩), .int .u64 ((4096 * 2 ^ on : Nat) : Int), .int .i64 (x'.st.n : Int), .slice lp' l'.length lc', .int .i64 (i : Int)] hy := by
        intro hy Q' x' fl' l' lp' lc' hq' W' ox' sk' I'
        refine hJ10 _ _ _ _ _ _ _ _ _ _ _ _ ?_
        rw [hwr]
        exact ih (i + 1) l' hy Q' x' fl' lp' lc' (by omega) hq' W' ox' sk' I'
      obtain ⟨ad, ead, hcell⟩ := op6_at hr (i := i) (by omega)
      have ok := hop i (by omega)
      generalize f i = o at hcell ok
      obtain ⟨d0, d1, d2, d3, d4, d5, d6⟩ := hcell hx I.u
      refine ⟨ad, ead, by omega, by omega, _, d0, _, d1, _, d2, _, d3, _, d4, _, d5, _, _, _, d6, ?_⟩
      have N1 := box7 hx (.int .i64 0) (.int .i64 0) (.int .i64 0) (.int .i64 0) (.bool false) (.int .u64 0) (.slice none 0 0) T.T_croftlaw6_Op
      generalize Array.push hx (.cells #[.int .i64 0, .int .i64 0, .int .i64 0, .int .i64 0, .bool false, .int .u64 0, .slice none 0 0] T.T_croftlaw6_Op) = h6 at N1 ⊢
      obtain ⟨ob, eob⟩ : ∃ ob, ob = Array.size hx := ⟨_, rfl⟩
      rw [← eob] at N1 ⊢
      have I6 := I.new N1
      obtain ⟨w7, S7⟩ := assign7 (I6.at 0) (.int .i64 o.kind) (.int .i64 o.order) (.int .i64 o.which) (.int .i64 o.more) (.bool o.deny) (.int .u64 o.at') (.slice o.dp o.dn o.dc)
      have I7 := I6.step 0 S7
      refine ⟨w7, ?_⟩
      generalize setCs h6 ⟨ob, 0, none⟩ 0 [.int .i64 o.kind, .int .i64 o.order, .int .i64 o.which, .int .i64 o.more, .bool o.deny, .int .u64 o.at', .slice o.dp o.dn o.dc] = h7 at I7 ⊢
      have I7 : Hold w.heap h7 [blkR ob 7 (f7 (.int .i64 o.kind) (.int .i64 o.order) (.int .i64 o.which) (.int .i64 o.more) (.bool o.deny) (.int .u64 o.at') (.slice o.dp o.dn o.dc)), slR lp l.length lc 4 (snV c l), plR c Q x, blkR cb 3 (f3 (.int .u64 c.base) (.int .i64 c.limit) (.int .i64 c.order))] := I7
      clear S7 w7 I6 N1 I
      have oc : ∀ {hy : Heap} {rs : List Res} (I : Hold w.heap hy rs) (j : Nat) (hj : j < 7) (i : Nat) (hi : rs[i]? = some (blkR ob 7 (f7 (.int .i64 o.kind) (.int .i64 o.order) (.int .i64 o.which) (.int .i64 o.more) (.bool o.deny) (.int .u64 o.at') (.slice o.dp o.dn o.dc))) := by rfl), _ := fun {hy} {rs} I j hj i hi => f7_cell (Hold.at I i hi) hj
      have oc0 : ∀ {hy : Heap} {rs : List Res} (I : Hold w.heap hy (blkR ob 7 (f7 (.int .i64 o.kind) (.int .i64 o.order) (.int .i64 o.which) (.int .i64 o.more) (.bool o.deny) (.int .u64 o.at') (.slice o.dp o.dn o.dc)) :: rs)), cellAt hy ⟨ob, 0, none⟩ = some (.int .i64 o.kind) := fun {hy} {rs} I => by
        have := f7_cell (I.at 0) (i := 0) (by omega)
        rw [add_mk] at this
        exact this
      refine ⟨_, (hcfg I7 3).1, _, oc0 I7, ?_⟩
      have esz : x.st.n * 2 ^ on ≤ 1024 := by have := W.ok.m.n1; have e := W.e; rw [ox] at e; omega
      have eE : x.st.n * 2 ^ on = x.m.n := by rw [W.e, ox]
      by_cases hk1 : o.kind = 1
      · refine iT (by rw [hk1]; rfl) ⟨_, oc I7 1 (by omega) 0, _, oc I7 4 (by omega) 0, ?_⟩
        rw [← hq]
        refine needX W (I7.at 2) (fun hb h8 S8 => ⟨_, _, _, rfl, ?_⟩) (fun ono eo hoo hst hd h8 S8 => ⟨_, _, _, rfl, ?_⟩) fun ono eo hoo b pp x' fl' Q' h8 hbe hbt eq' W' hmt o' n' kp S8 => ⟨_, _, _, rfl, ?_⟩
        · have I8 := I7.step 2 S8
          rw [hq]
          have I8' := nx h8 Q x fl l lp lc hq W ox sk I8.drop
          refine ⟨_, oc I8 1 (by omega) 0, fun J14 hJ14 => ?_⟩
          by_cases hlt : o.order < 0
          · exact pT (decide_eq_true hlt) (hJ14 _ _ (iT rfl (iF rfl I8')))
          · exact pF (decide_eq_false hlt) ⟨_, oc I8 1 (by omega) 0, _, (hcfg I8 3).2.2, hJ14 _ _ (iT (decide_eq_true (by show o.order > c.order; omega)) (iF rfl I8'))⟩
        · have I8 := I7.step 2 S8
          rw [hq]
          have I8' := nx h8 Q x fl l lp lc hq W ox sk I8.drop
          refine ⟨_, oc I8 1 (by omega) 0, fun J14 hJ14 => pF (decide_eq_false (by show ¬ o.order < 0; omega)) ⟨_, oc I8 1 (by omega) 0, _, (hcfg I8 3).2.2, hJ14 _ _ (iF (decide_eq_false (by show ¬ o.order > c.order; omega)) ⟨_, oc I8 1 (by omega) 0, by show 0 ≤ o.order; omega, _, (hcfg I8 3).1, _, (hcfg I8 3).2.1, _, (hcfg I8 3).2.2, ?_⟩)⟩⟩
          have ee : f7 (.int .i64 o.kind) (.int .i64 o.order) (.int .i64 o.which) (.int .i64 o.more) (.bool o.deny) (.int .u64 o.at') (.slice o.dp o.dn o.dc) 1 = .int .i64 o.order := rfl
          rw [endE hcb (by omega), eo, shlR (by omega), eE]
          refine full6_ok ⟨by omega, by omega⟩ (by omega) (sl_row (I8.at 1)) bnd (by omega) (by omega) fun h9 u9 => ⟨_, rfl, fun J16 hJ16 => ?_⟩
          have I9 := I8.quiet u9
          have I9' := nx h9 Q x fl l lp lc hq W ox sk I9.drop
          have f16 : J16 true h9 := hJ16 _ _ (iT rfl fun J17 hJ17 => pF rfl (hJ17 _ _ (iF rfl I9')))
          rw [decide_eq_true hst]
          refine qT rfl ⟨_, oc I9 4 (by omega) 0, fun J30 hJ30 => ?_⟩
          cases hdd : o.deny with
          | true => exact pT rfl (hJ30 _ _ f16)
          | false =>
            refine pF rfl ⟨_, (hcfg I9 3).2.1, hJ30 _ _ ?_⟩
            rw [hdd] at hd
            rcases hd with hd | hd
            · cases hd
            · rw [hd, beq_self_eq_true]; exact f16
        · have I8 := I7.step 2 S8
          rw [hq]
          refine ⟨_, oc I8 1 (by omega) 0, fun J14 hJ14 => pF (decide_eq_false (by show ¬ o.order < 0; omega)) ⟨_, oc I8 1 (by omega) 0, _, (hcfg I8 3).2.2, hJ14 _ _ (iF (decide_eq_false (by show ¬ o.order > c.order; omega)) ⟨_, oc I8 1 (by omega) 0, by show 0 ≤ o.order; omega, _, (hcfg I8 3).1, _, (hcfg I8 3).2.1, _, (hcfg I8 3).2.2, ?_⟩)⟩⟩
          rw [endE hcb (by omega), eo, shlR (by omega), eE]
          refine full6_ok ⟨by omega, by omega⟩ (by omega) (sl_row (I8.at 1)) bnd (by omega) (by omega) fun h9 u9 => ?_
          rw [← hbe]
          refine ⟨_, rfl, fun J16 hJ16 => ?_⟩
          have I9 := I8.quiet u9
          have ox' : x'.m.o = on := by rw [o', ox]
          have al := W'.al (List.mem_cons_self ..)
          simp only [] at al
          have mx := W'.ok.m.n1
          have h0 := pow8 (show ono ≤ 8 by omega)
          have hq' : Q'.pb = pb := eq'.trans hq
          have f16 : J16 false h9 := by
            refine hJ16 _ _ (iF rfl fun J18 hJ18 => ?_)
            have m18 : J18 [.slice p n cp, .pointer (some ⟨cb, 0, none⟩), .pointer (some ⟨pb, 0, none⟩), .int .u64 ((4096 * 2 ^ on : Nat) : Int), .int .i64 (x'.st.n : Int), .slice lp l.length lc, .int .i64 (i : Int), .pointer (some ⟨ob, 0, none⟩), .int .u64 (adr c x'.m.n), .int .u64 (adr c pp), .bool b, .int .i64 0, .int .u64 ((4096 * 2 ^ ono : Nat) : Int), .bool b] h9 := by
              refine hJ18 _ _ _ _ _ _ _ _ _ _ _ _ _ _ _ _ _ _ _ fun J19 hJ19 => pF rfl (hJ19 _ _ fun J20 hJ20 => pF (by cases b <;> rfl) ⟨by omega, hJ20 _ _ fun J21 hJ21 => pF (eq_b (mod6 hcb (by omega) al.2.1)) ⟨_, (hcfg I9 3).1, hJ21 _ _ fun J22 hJ22 => pF (decide_eq_false (by unfold adr; omega)) (hJ22 _ _ fun J23 hJ23 => pF (decide_eq_false ?_) ?_)⟩⟩)
              · rw [IntKind.wrap_u64]; unfold adr; omega
              refine meets6_ok ⟨by omega, by omega⟩ (by omega) (sl_row (I9.at 1)) bnd (by omega) (by omega) ⟨_, rfl, hJ23 _ _ fun J24 hJ24 => pF hmt ⟨_, rfl, ?_⟩⟩
              have P9 : (plR c Q' x').P h9 := I9.at 2
              rw [← hq']
              refine ground_Space_ok P9 ⟨_, rfl, mem_Regions_ok (bu_sp (pl_bu P9)) ⟨_, rfl, hJ24 _ _ (iF (eq_b rfl) ⟨_, oc I9 1 (by omega) 0, ?_⟩)⟩⟩
              obtain ⟨os, q1, q2⟩ := sl_appB (zs := [.int .u64 0, .int .u64 0, .int .i64 0, .slice none 0 0]) (xs := snL c ⟨pp, ono, none, 0, 0, fun _ => 0⟩) (b := 48) (e := T.T_croftlaw6_span) (T := T.T_croftlaw6_span) (I9.at 1) (by decide) rfl (by simp [oneC, snL]) (by omega)
              rw [eo]
              refine ⟨os, _, q1, fun p' c' h10 res => ?_⟩
              have el : (l ++ [(⟨pp, ono, none, 0, 0, fun _ => 0⟩ : Sn)]).length = l.length + 1 := by simp
              have I10 := I9.step 1 (R := slR lp l.length lc 4 (snV c l)) (R' := slR p' (l.length + 1) c' 4 (snV c (l ++ [⟨pp, ono, none, 0, 0, fun _ => 0⟩]))) ((q2 p' c' h10 res).conv (fun A => sl_congr A fun j hj => snV_snoc c l _ hj) fun _ e => e)
              have := nx h10 Q' x' fl' (l ++ [⟨pp, ono, none, 0, 0, fun _ => 0⟩]) p' c' hq' (by
                have := W'.perm (List.perm_append_comm (l₁ := [(pp, ono)]) (l₂ := lvB (bks l)))
                have e2 : lvB (bks (l ++ [(⟨pp, ono, none, 0, 0, fun _ => 0⟩ : Sn)])) = lvB (bks l) ++ [(pp, ono)] := by simp [lvB, bks, Sn.bk, Bk.b]
                rw [e2]; exact this) ox' (fun s hs => by
                rcases List.mem_append.1 hs with hs | hs
                · exact sn_kept sk kp s hs
                · have hs : s = ⟨pp, ono, none, 0, 0, fun _ => 0⟩ := by simpa using hs
                  subst hs
                  exact ⟨Nat.zero_le _, ⟨Nat.le_refl _, (show 0 < 9223372036854775808 by decide)⟩, .inl rfl, fun j hj => absurd hj (Nat.not_lt_zero _)⟩) (by rw [el]; exact I10.drop)
              rw [el] at this
              exact this
            have ex : x'.st.n * 2 ^ on = x'.m.n := by rw [W'.e, ox']
            refine ⟨fun e => ?_, fun e => ?_⟩
            · subst e
              have n'' : x'.st.n = x.st.n + 1 := n'
              have nle : x.st.n ≤ 1024 := Nat.le_trans (Nat.le_mul_of_pos_right _ (by omega)) esz
              rw [show IntKind.wrap .i64 ((x.st.n : Int) + 1) = (x'.st.n : Int) by rw [IntKind.wrap_i64]; omega]
              rw [show IntKind.wrap .u64 (adr c x.m.n + ((4096 * 2 ^ on : Nat) : Int)) = adr c x'.m.n by
                rw [n'', Nat.succ_mul] at ex
                rw [IntKind.wrap_u64]; unfold adr; omega]
              exact m18
            · subst e
              have n'' : x'.st.n = x.st.n := n'
              have em : x'.m.n = x.m.n := by rw [← ex, ← eE, n'']
              rw [em, n''] at m18
              exact m18
          cases b with
          | false => exact qF' rfl f16
          | true =>
            obtain ⟨b1, b2⟩ := hbt rfl
            exact qT rfl ⟨_, oc I9 4 (by omega) 0, fun J30 hJ30 => pF b1 ⟨_, (hcfg I9 3).2.1, hJ30 _ _ (by rw [beq_false_of_ne (by omega)]; exact f16)⟩⟩
      · refine iF (beq_false_of_ne hk1) ⟨_, oc0 I7, ?_⟩
        by_cases hk4 : o.kind = 4
        · refine iT (by rw [hk4]; rfl) fun J31 hJ31 L36 hL36 => ?_
          have m31 : ∀ r : Nat, r = leftN on (bks l) x.st.n → J31 [.slice p n cp, .pointer (some ⟨cb, 0, none⟩), .pointer (some ⟨pb, 0, none⟩), .int .u64 ((4096 * 2 ^ on : Nat) : Int), .int .i64 (x.st.n : Int), .slice lp l.length lc, .int .i64 (i : Int), .int .i64 (r : Int)] h7 := by
            intro r hr9
            have hrle : r ≤ x.st.n := by rw [hr9]; exact leftN_le _ _ _
            have nle : x.st.n ≤ 1024 := Nat.le_trans (Nat.le_mul_of_pos_right _ (by omega)) esz
            refine hJ31 _ _ _ _ _ _ _ _ _ _ _ _ _ ?_
            rw [← hq]
            refine trimP W (I7.at 2) fun x' fl' Q' h8 eq' _ ht W' o' hle kp S8 => ⟨_, rfl, fun J33 hJ33 => ?_⟩
            have I8 := I7.step 2 S8
            have hq' : Q'.pb = pb := eq'.trans hq
            have ex : x'.st.n = r := by
              have := trimF_left (O := x.m.o) (l := bks l) x.st.n fl fun i hi => reg_mem W hi
              rw [ht, ox] at this
              rw [hr9]; exact this
            have P8 : (plR c Q' x').P h8 := I8.at 2
            rw [hq] at hJ33 ⊢
            rw [← hq']
            refine pF (eq_b (by rw [ex, IntKind.wrap_i64]; omega)) ⟨_, rfl, ground_Space_ok P8 ⟨_, rfl, mem_Regions_ok (bu_sp (pl_bu P8)) ⟨_, rfl, hJ33 _ _ (iF (eq_b (by rw [ex])) ?_)⟩⟩⟩
            have := nx h8 Q' x' fl' l lp lc hq' W' (by rw [o', ox]) (sn_kept sk kp) I8.drop
            rw [ex] at this
            exact this
          have lp36 : ∀ r : Nat, r ≤ x.st.n → leftN on (bks l) r = leftN on (bks l) x.st.n → L36 [.slice p n cp, .pointer (some ⟨cb, 0, none⟩), .pointer (some ⟨pb, 0, none⟩), .int .u64 ((4096 * 2 ^ on : Nat) : Int), .int .i64 (x.st.n : Int), .slice lp l.length lc, .int .i64 (i : Int), .int .i64 (r : Int)] h7 := by
            intro r
            induction r with
            | zero =>
              intro _ he
              exact hL36 _ _ _ _ _ _ _ _ _ _ _ _ _ fun J37 hJ37 => qF' (decide_eq_false (by omega)) (hJ37 _ _ (iF rfl (m31 0 he)))
            | succ r ih9 =>
              intro hle he
              have nle : x.st.n ≤ 1024 := Nat.le_trans (Nat.le_mul_of_pos_right _ (by omega)) esz
              have h9 : r * 2 ^ on ≤ 1024 := Nat.le_trans (Nat.mul_le_mul_right _ (by omega)) esz
              have er : IntKind.wrap .i64 (((r + 1 : Nat) : Int) - 1) = (r : Int) := by rw [IntKind.wrap_i64]; omega
              refine hL36 _ _ _ _ _ _ _ _ _ _ _ _ _ fun J37 hJ37 => qT (decide_eq_true (by omega)) ⟨_, (hcfg I7 3).1, ?_⟩
              rw [er] at hJ37 ⊢
              rw [endE hcb (by omega)]
              refine meets6_ok ⟨by omega, by omega⟩ (by omega) (sl_row (I7.at 1)) bnd (by omega) (by omega) ⟨_, rfl, hJ37 _ _ ?_⟩
              have he : (if meetsB (bks l) (r * 2 ^ on) on = false then leftN on (bks l) r else r + 1) = leftN on (bks l) x.st.n := he
              cases hm : meetsB (bks l) (r * 2 ^ on) on with
              | false =>
                rw [if_pos hm] at he
                exact iT rfl (ih9 (by omega) he)
              | true =>
                rw [if_neg (by rw [hm]; exact fun e => by cases e)] at he
                exact iF rfl (m31 (r + 1) he)
          exact lp36 x.st.n (Nat.le_refl _) rfl
        refine iF (beq_false_of_ne hk4) fun J39 hJ39 => ?_
        have skip : J39 false h7 := hJ39 _ _ (iF rfl (nx h7 Q x fl l lp lc hq W ox sk I7.drop))
        by_cases hl0 : 0 < l.length
        case neg => exact qF' (decide_eq_false (by omega)) skip
        refine qT (decide_eq_true (by omega)) ⟨_, oc0 I7, fun J58 hJ58 => ?_⟩
        have body : J39 true h7 := by
          refine hJ39 _ _ (iT rfl ⟨_, oc I7 2 (by omega) 0, by omega, fun J40 hJ40 => ?_⟩)
          obtain ⟨ix, hix, hab⟩ := abs_mod (n := l.length) hl0 (by omega) ok.o2
          have m40 : J40 [.slice p n cp, .pointer (some ⟨cb, 0, none⟩), .pointer (some ⟨pb, 0, none⟩), .int .u64 ((4096 * 2 ^ on : Nat) : Int), .int .i64 (x.st.n : Int), .slice lp l.length lc, .int .i64 (i : Int), .pointer (some ⟨ob, 0, none⟩), .int .i64 (ix : Int)] h7 := by
            refine hJ40 _ _ _ _ _ _ _ _ _ _ _ _ _ _ ⟨_, oc0 I7, ?_⟩
            have hmem : l.getD ix sn0 ∈ l := getD_sn hix
            have SK := sk _ hmem
            have hlv := sn_lv hmem
            have eix : ∀ (b j : Nat), ((⟨b, 0, none⟩ : Addr).add (Int.toNat (ix : Int) * 4)).add j = ⟨b, ix * 4 + j, none⟩ := fun b j => by rw [add_mk, add_mk, Int.toNat_natCast, Nat.zero_add]
            have hpr : (lvB (bks l)).Perm (((l.getD ix sn0).p, (l.getD ix sn0).k) :: lvB (bks (l.eraseIdx ix))) := by
              have := erase_lv (l := bks l) (i := ix) (by simpa using hix)
              rw [← sn_erase] at this
              have e2 : ((bks l).getD ix bk0).b = ((l.getD ix sn0).p, (l.getD ix sn0).k) := by
                unfold bks
                rw [List.getD_eq_getElem?_getD, List.getElem?_map, List.getD_eq_getElem?_getD, List.getElem?_eq_getElem hix]; rfl
              rw [e2] at this
              exact this
            obtain ⟨a, e1, r0, r1, r2, r3⟩ := row_sn (sl_row (I7.at 1)) (Upd.refl _ _) hix
            by_cases hk5 : o.kind = 5
            · refine iT (by rw [hk5]; rfl) ⟨_, _, _, oc I7 6 (by omega) 0, fun J41 hJ41 => ⟨a, e1, by omega, by omega, _, r1, ?_⟩⟩
              have m41 : ∀ (m cap : Nat) (q : Option Addr), m ≤ 4096 * 2 ^ (l.getD ix sn0).k → m ≤ cap → cap < 9223372036854775808 → Row w.heap q m (fun i => .int .u8 (o.g i)) → m ≤ o.dn → (m = 0 ∨ Off (fun b => w.heap.size ≤ b) q) →
                  J41 [.slice p n cp, .pointer (some ⟨cb, 0, none⟩), .pointer (some ⟨pb, 0, none⟩), .int .u64 ((4096 * 2 ^ on : Nat) : Int), .int .i64 (x.st.n : Int), .slice lp l.length lc, .int .i64 (i : Int), .int .i64 (ix : Int), .slice q m cap] h7 := by
                intro m cap q hm1 hm2 hm3 hrow hdn hoff
                have P7 : (plR c Q x).P h7 := I7.at 2
                refine hJ41 _ _ _ _ _ _ _ _ _ _ _ _ _ _ _ _ ⟨_, rfl, a, e1, by omega, by omega, _, r0, ?_⟩
                rw [← hq]
                refine ground_Space_ok P7 ⟨_, rfl, r0, ?_⟩
                refine writeP W hlv hm1 hm2 P7 (hrow.upd I7.u fun _ _ => id) (fun j hj => ok.by8 j (by omega)) (hoff.imp id fun ho => off_Z I7 (List.mem_cons_of_mem _ (List.mem_cons_of_mem _ (List.mem_cons_self ..))) ho) fun st' h8 en eM eM' W8 S8 => ⟨_, rfl, iF rfl ⟨a, e1, by omega, by omega, ?_⟩⟩
                have I8 := I7.step 2 S8
                obtain ⟨b9, e9, w9, S9⟩ := sl_set (I8.at 1) (o := ix * 4 + 3) (by omega) (.slice q m cap)
                rw [e9] at e1
                cases e1
                rw [eix]
                refine ⟨w9, ?_⟩
                have I9 := I8.step 1 (R := slR lp l.length lc 4 (snV c l)) (R' := slR lp (l.set ix ⟨(l.getD ix sn0).p, (l.getD ix sn0).k, q, m, cap, o.g⟩).length lc 4 (snV c (l.set ix ⟨(l.getD ix sn0).p, (l.getD ix sn0).k, q, m, cap, o.g⟩))) (S9.conv (fun A => by
                  rw [List.length_set]
                  exact sl_congr A fun j hj => sn_set c l hix q m cap o.g hj) fun _ e => e)
                have el : (l.set ix (⟨(l.getD ix sn0).p, (l.getD ix sn0).k, q, m, cap, o.g⟩ : Sn)).length = l.length := List.length_set
                rw [hq]
                have := nx _ Q ⟨st', x.hd, x.m⟩ fl (l.set ix ⟨(l.getD ix sn0).p, (l.getD ix sn0).k, q, m, cap, o.g⟩) lp lc hq (by rw [sn_set_bks l hix]; exact W8) ox (fun s hs => by
                  rcases mem_set_er hs hix with rfl | hs
                  · exact ⟨hm1, ⟨hm2, hm3⟩, hrow, fun j hj => eM j hj⟩
                  · refine (sk s (List.mem_of_mem_eraseIdx hs)).kept fun y hy1 hy2 => eM' y ?_
                    have hdj := new_dj (W.perm hpr) _ (sn_lv hs)
                    unfold Dj at hdj
                    simp only [] at hdj
                    rcases hdj with hd1 | hd1
                    · left; exact Nat.lt_of_lt_of_le hy2 (Nat.mul_le_mul_left _ hd1)
                    · right
                      refine Nat.le_trans ?_ (Nat.le_trans (Nat.mul_le_mul_left 4096 hd1) hy1)
                      rw [Nat.mul_add]; omega) I9.drop
                rw [el] at this
                show J10 [_, _, _, _, .int .i64 (x.st.n : Int), _, _] _
                have en : st'.n = x.st.n := en
                have this : J10 [.slice p n cp, .pointer (some ⟨cb, 0, none⟩), .pointer (some ⟨pb, 0, none⟩), .int .u64 ((4096 * 2 ^ on : Nat) : Int), .int .i64 (st'.n : Int), .slice lp l.length lc, .int .i64 (i : Int)] _ := this
                rw [en, e9] at this
                rw [e9]
                exact this
              have hd := ok.dc
              rw [show IntKind.wrap .u64 (o.dn : Int) = (o.dn : Int) by rw [IntKind.wrap_u64]; omega]
              by_cases hgt : 4096 * 2 ^ (l.getD ix sn0).k < o.dn
              · refine iT (decide_eq_true (by omega)) ⟨a, e1, by omega, by omega, _, r1, Int.le_refl _, by omega, by omega, ?_⟩
                have ep : (if o.dc = Int.toNat 0 then o.dp else Option.map (fun b => Addr.add b (Int.toNat 0 * 1)) o.dp) = o.dp := by
                  rw [if_neg (show ¬ o.dc = Int.toNat 0 by show ¬ o.dc = 0; omega)]
                  rcases ok.row with e | ⟨b, oo, e, _⟩
                  · omega
                  · rw [e]; show some ((⟨b, oo, none⟩ : Addr).add 0) = _; rw [add_mk]; rfl
                rw [ep, Int.toNat_natCast, show Int.toNat 0 = 0 from rfl, Nat.sub_zero, Nat.sub_zero]
                exact m41 _ _ _ (Nat.le_refl _) (by omega) hd.2 (ok.row.take (by omega)) (by omega) (ok.off.elim (fun e => absurd e (by omega)) .inr)
              · exact iF (decide_eq_false (by omega)) (m41 _ _ _ (by omega) hd.1 hd.2 ok.row (Nat.le_refl _) ok.off)
            · refine iF (beq_false_of_ne hk5) ⟨_, rfl, a, e1, by omega, by omega, _, r0, a, e1, by omega, by omega, _, _, _, r3, ?_⟩
              have P7 : (plR c Q x).P h7 := I7.at 2
              have SC := SK.c
              have SN := SK.n
              have hbn := bnd _ hmem
              have h9 := pow8 hbn.2
              rw [← hq]
              refine ground_Space_ok P7 ⟨_, rfl, r3, r0, ?_⟩
              rw [show IntKind.wrap .u64 ((l.getD ix sn0).dn : Int) = ((l.getD ix sn0).dn : Int) by rw [IntKind.wrap_u64]; omega]
              refine readP W hlv SN P7 fun h8 rb N8 => ⟨_, _, _, _, rfl, fun J47 hJ47 => pF rfl ?_⟩
              rw [hq] at hJ47
              have I8 := I7.quiet N8.u
              obtain ⟨a8, e8, q0, q1, q2, q3⟩ := row_sn (sl_row (I8.at 1)) (Upd.refl _ _) hix
              refine ⟨a8, e8, by omega, by omega, _, _, _, q3, ?_⟩
              have B8 : Blk h8 rb (l.getD ix sn0).dn fun j => .int .u8 (x.st.M (4096 * (l.getD ix sn0).p + j)) := N8.p
              refine equal6_ok (by omega) (f := fun j => x.st.M (4096 * (l.getD ix sn0).p + j)) (g := (l.getD ix sn0).g) (by
                have := B8.row 0 (l.getD ix sn0).dn (by omega)
                simpa using this) (SK.r.upd I8.u fun _ _ => id) (fun j hj => SK.m j hj) ⟨_, rfl, hJ47 _ _ fun J48 hJ48 => pF rfl ⟨a8, e8, by omega, by omega, _, q0, a8, e8, by omega, by omega, _, q2, ?_⟩⟩
              have P8 : (plR c Q x).P h8 := I8.at 2
              rw [← hq]
              refine giveP W P8 hpr fun x' ha W' M Sa => ⟨_, rfl, hJ48 _ _ fun J49 hJ49 => pF rfl ?_⟩
              have Ia := I8.step 2 Sa
              obtain ⟨aa, ea, t0, t1, t2, t3⟩ := row_sn (sl_row (Ia.at 1)) (Upd.refl _ _) hix
              refine ⟨aa, ea, by omega, by omega, _, t0, aa, ea, by omega, by omega, _, t2, ?_⟩
              have Pa : (plR c Q x').P ha := Ia.at 2
              have on1 := once (W.perm hpr)
              have hu := (live_there W hlv W.g).2.1
              rw [← hq]
              refine givePN W' Pa hu on1 fun hb Sb => ⟨_, rfl, hJ49 _ _ (iF rfl fun J50 hJ50 L51 hL51 => ?_)⟩
              have Ib := Ia.step 2 Sb
              have Ib := Ib.new (R := slR none (([] : List Sn)).length 0 4 (snV c [])) ⟨Upd.refl _ _, sl_nil _ _ _, fun b e => absurd e (sl_nil_fp b)⟩
              have skr : ∀ s ∈ l.eraseIdx ix, SnOk w.heap x'.st s := sn_kept (fun s hs => sk s (List.mem_of_mem_eraseIdx hs)) M.k.2
              have lp51 : ∀ (d j : Nat) (hy : Heap) (rp : Option Addr) (rc : Nat), j + d = l.length → Hold w.heap hy [slR rp ((l.take j).eraseIdx ix).length rc 4 (snV c ((l.take j).eraseIdx ix)), blkR ob 7 (f7 (.int .i64 o.kind) (.int .i64 o.order) (.int .i64 o.which) (.int .i64 o.more) (.bool o.deny) (.int .u64 o.at') (.slice o.dp o.dn o.dc)), slR lp l.length lc 4 (snV c l), plR c Q x', blkR cb 3 (f3 (.int .u64 c.base) (.int .i64 c.limit) (.int .i64 c.order))] →
                  L51 [.slice p n cp, .pointer (some ⟨cb, 0, none⟩), .pointer (some ⟨pb, 0, none⟩), .int .u64 ((4096 * 2 ^ on : Nat) : Int), .int .i64 (x.st.n : Int), .slice lp l.length lc, .int .i64 (i : Int), .int .i64 (ix : Int), .slice rp ((l.take j).eraseIdx ix).length rc, .int .i64 (j : Int)] hy := by
                intro d
                induction d with
                | zero =>
                  intro j hy rp rc hj Iy
                  have ej : j = l.length := by omega
                  subst ej
                  refine hL51 _ _ _ _ _ _ _ _ _ _ _ _ _ _ _ _ _ (iF (decide_eq_false (by omega)) (hJ50 _ _ _ _ _ _ _ _ _ _ _ _ ?_))
                  rw [List.take_length] at Iy ⊢
                  have := nx hy Q x' _ (l.eraseIdx ix) rp rc hq W' (by rw [M.o, ox]) skr (Iy.sub (.cons_cons _ (.cons _ (.cons _ (List.Sublist.refl _)))))
                  rw [M.k.1] at this
                  exact this
                | succ d ihd =>
                  intro j hy rp rc hj Iy
                  have hjl : j < l.length := by omega
                  refine hL51 _ _ _ _ _ _ _ _ _ _ _ _ _ _ _ _ _ (iT (decide_eq_true (by omega)) fun J52 hJ52 => ?_)
                  have nx2 : ∀ (hz : Heap) (rp' : Option Addr) (rc' : Nat), Hold w.heap hz [slR rp' ((l.take (j + 1)).eraseIdx ix).length rc' 4 (snV c ((l.take (j + 1)).eraseIdx ix)), blkR ob 7 (f7 (.int .i64 o.kind) (.int .i64 o.order) (.int .i64 o.which) (.int .i64 o.more) (.bool o.deny) (.int .u64 o.at') (.slice o.dp o.dn o.dc)), slR lp l.length lc 4 (snV c l), plR c Q x', blkR cb 3 (f3 (.int .u64 c.base) (.int .i64 c.limit) (.int .i64 c.order))] →
                      J52 [.slice p n cp, .pointer (some ⟨cb, 0, none⟩), .pointer (some ⟨pb, 0, none⟩), .int .u64 ((4096 * 2 ^ on : Nat) : Int), .int .i64 (x.st.n : Int), .slice lp l.length lc, .int .i64 (i : Int), .int .i64 (ix : Int), .slice rp' ((l.take (j + 1)).eraseIdx ix).length rc', .int .i64 (j : Int)] hz := by
                    intro hz rp' rc' Iz
                    refine hJ52 _ _ _ _ _ _ _ _ _ _ _ _ _ _ _ _ _ ?_
                    rw [show IntKind.wrap .i64 ((j : Int) + 1) = ((j + 1 : Nat) : Int) by rw [IntKind.wrap_i64]; omega]
                    exact ihd (j + 1) hz rp' rc' (by omega) Iz
                  by_cases hji : j = ix
                  · refine iF (eq_b (by omega)) ?_
                    have es := erase_stepS l ix j hjl
                    rw [if_pos hji] at es
                    have := nx2 hy rp rc (by rw [es]; exact Iy)
                    rw [es] at this
                    exact this
                  · have es := erase_stepS l ix j hjl
                    rw [if_neg hji] at es
                    obtain ⟨a9, e9, z0, z1, z2, z3⟩ := row_sn (sl_row (Iy.at 2)) (Upd.refl _ _) hjl
                    have hle : ((l.take j).eraseIdx ix).length ≤ 1024 := by
                      have h1 := List.length_eraseIdx_le (l.take j) ix
                      have h2 : (l.take j).length ≤ l.length := by simp; omega
                      omega
                    obtain ⟨os, g1, g2⟩ := sl_appB (zs := [.int .u64 0, .int .u64 0, .int .i64 0, .slice none 0 0]) (xs := snL c (l.getD j sn0)) (b := 48) (e := T.T_croftlaw6_span) (T := T.T_croftlaw6_span) (Iy.at 0) (by decide) rfl (by simp [oneC, snL]) (by omega)
                    refine iT (by simp only [bne_iff_ne]; omega) ⟨a9, e9, by omega, by omega, _, z0, _, z1, _, z2, _, _, _, z3, os, _, g1, fun p' c' hz res => ?_⟩
                    have el : ((l.take (j + 1)).eraseIdx ix).length = ((l.take j).eraseIdx ix).length + 1 := by rw [es]; simp
                    have Iz := Iy.step 0 (R := slR rp ((l.take j).eraseIdx ix).length rc 4 (snV c ((l.take j).eraseIdx ix))) (R' := slR p' (((l.take j).eraseIdx ix).length + 1) c' 4 (snV c ((l.take (j + 1)).eraseIdx ix))) ((g2 p' c' hz res).conv (fun A => sl_congr A fun j hj => by rw [es]; exact snV_snoc c _ _ hj) fun _ e => e)
                    have := nx2 hz p' c' (by rw [el]; exact Iz)
                    rw [el] at this
                    exact this
              exact lp51 l.length 0 hb none 0 (by omega) Ib
          rcases hab with ⟨a1, a2⟩ | ⟨a1, a2⟩
          · exact iT (decide_eq_true a1) (by rw [a2]; exact m40)
          · exact iF (decide_eq_false a1) (by rw [a2]; exact m40)
        by_cases hk2 : o.kind = 2
        · exact pT (by rw [hk2]; rfl) (hJ58 _ _ body)
        · refine pF (beq_false_of_ne hk2) ⟨_, oc0 I7, hJ58 _ _ ?_⟩
          by_cases hk5 : o.kind = 5
          · rw [hk5]; exact body
          · rw [beq_false_of_ne hk5]; exact skip
  have I6 : Hold w.heap h5 [slR none ([] : List Sn).length 0 4 (snV c []), plR c Q x0, blkR cb 3 (f3 (.int .u64 c.base) (.int .i64 c.limit) (.int .i64 c.order))] :=
    I5.new ⟨Upd.refl _ _, sl_nil _ _ _, fun b e => absurd e (sl_nil_fp b)⟩
  have := loop n 0 [] h5 Q x0 _ none 0 (by omega) hpb W0 mo (fun s hs => by cases hs) I6
  rw [sn] at this
  exact this
end Go.Proofs.Ytippbfnhgooepaa
