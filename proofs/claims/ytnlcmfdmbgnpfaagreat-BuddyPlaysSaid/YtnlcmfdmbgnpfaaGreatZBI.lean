/- croftlaw5: a world: begin, come, goes, at, page. No condition. -/
import Derived.Test.YtnlcmfdmbgnpfaaGreatZM7
import Derived.Test.YtnlcmfdmbgnpfaaGreatZM3
set_option linter.unusedSimpArgs false
set_option linter.unusedVariables false
namespace Go.Proofs.YtnlcmfdmbgnpfaaGreat
open Go.V Classical

theorem box3 (h : Heap) (v0 v1 v2 : Value) (T : TypeId) : New h (h.push (.cells #[v0, v1, v2] T)) (blkR h.size 3 (f3 v0 v1 v2)) :=
  (New.box h #[v0, v1, v2] T).conv (fun P => Blk.congr P fun i hi => by
    have hi : i < 3 := hi
    have : i = 0 ∨ i = 1 ∨ i = 2 := by omega
    rcases this with rfl | rfl | rfl <;> rfl) fun _ e => e

theorem assign3 {h : Heap} {b : Nat} {f : Nat → Value} (B : Blk h b 3 f) (v0 v1 v2 : Value) : WrN h ⟨b, 0, none⟩ 3 ∧ Stp h (setCs h ⟨b, 0, none⟩ 0 [v0, v1, v2]) (blkR b 3 f) (blkR b 3 (f3 v0 v1 v2)) := by
  refine ⟨fun j hj => by rw [add_mk]; exact B.wr (by omega), Stp.sets B [v0, v1, v2] 0 0 fun j hj => ?_⟩
  rw [if_pos ⟨by omega, by simpa using hj⟩]
  have : j = 0 ∨ j = 1 ∨ j = 2 := by omega
  rcases this with rfl | rfl | rfl <;> rfl

theorem f3_cells {h : Heap} {b : Nat} {v0 v1 v2 : Value} (B : (blkR b 3 (f3 v0 v1 v2)).P h) : cellAt h ⟨b, 0, none⟩ = some v0 ∧ cellAt h ((⟨b, 0, none⟩ : Addr).add 1) = some v1 ∧ cellAt h ((⟨b, 0, none⟩ : Addr).add 2) = some v2 :=
  ⟨B.cell (i := 0) (by omega), by rw [add_mk]; exact B.cell (i := 1) (by omega), by rw [add_mk]; exact B.cell (i := 2) (by omega)⟩

def liveRow (o r : Nat) : List (Int × Int) := (List.range r).map fun i => (((i * 2 ^ o : Nat) : Int), (o : Int))

theorem liveRow_len (o r : Nat) : (liveRow o r).length = r := by simp [liveRow]
theorem liveRow_succ (o r : Nat) : liveRow o (r + 1) = liveRow o r ++ [(((r * 2 ^ o : Nat) : Int), (o : Int))] := by simp [liveRow, List.range_succ]

structure WW where
  wb : Nat
  W : BW
  fp : Option Addr
  fn : Nat
  fc : Nat
  vp : Option Addr
  vc : Nat

def wF (c : Cfg) (Q : WW) (o P r : Nat) : Nat → Value
  | 0 => .int .u64 c.base
  | 1 => .int .i64 c.limit
  | 2 => .int .i64 c.order
  | 3 => .pointer (some ⟨Q.W.s, 0, none⟩)
  | 4 => .pointer (some ⟨Q.W.mb, 0, none⟩)
  | 5 => .pointer (some ⟨Q.W.b, 0, none⟩)
  | 6 => .int .i64 (o : Int)
  | 7 => .int .i64 (P : Int)
  | 8 => .slice Q.fp Q.fn Q.fc
  | _ => .slice Q.vp r Q.vc

abbrev whR (c : Cfg) (Q : WW) (o P r : Nat) : Res := andR (blkR Q.wb 10 (wF c Q o P r)) (slR Q.vp r Q.vc 2 (runV (liveRow o r)))
abbrev wdR (c : Cfg) (Q : WW) (P r : Nat) (x : BU) : Res := andR (whR c Q x.m.o P r) (buR c Q.W x)

noncomputable def usualC (a b d : Int) : Cfg := if Cfg.Good ⟨a, b, d⟩ then ⟨a, b, d⟩ else ⟨65536, 2, 2⟩

theorem usual_good (a b d : Int) : (usualC a b d).Good := by
  unfold usualC
  split
  · assumption
  · exact good_iff.2 (by decide)

theorem usual_u64 {a b d : Int} (ha : U64 a) : U64 (usualC a b d).base := by
  unfold usualC
  split
  · exact ha
  · simp [U64]

def BU0 (c : Cfg) : BU := ⟨⟨0, fun _ => 0⟩, fun _ => 0, mNew c.order⟩

theorem clamp_o {c : Cfg} (g : c.Good) : clampO c.order = c.order.toNat := by
  have := g.o0; have := g.o8
  unfold clampO
  rw [if_neg (by omega), if_neg (by omega)]

theorem rep0 {c : Cfg} (g : c.Good) : Rep c (BU0 c) (fun _ => []) [] [] := by
  have o0 := g.o0
  have ho : (BU0 c).m.o = c.order.toNat := clamp_o g
  have hb : blks (BU0 c).m.o (fun _ => []) = [] := by simp [blks]
  refine ⟨⟨mNew_ok _, by rw [ho]; omega, fun i hi => absurd hi (Nat.not_lt_zero _)⟩, ⟨⟨g.b0, ?_⟩, Nat.zero_le _, ?_⟩, ?_, fun _ _ _ h => (by cases h), fun k hk => ⟨rfl, .nil, fun p hp => (by cases hp), trivial⟩, fun _ _ _ h => (by cases h), fun b hb => (by cases hb), fun k p _ _ h => absurd h (Nat.not_lt_zero _), fun _ h => h.elim⟩
  · have := g.top
    have h3 : (0 : Int) ≤ c.size * c.limit := Int.mul_nonneg (by omega) (by have := g.l1; omega)
    omega
  · show 0 * 4096 ≤ 0 * c.size
    omega
  · rw [hb]
    exact ⟨fun b hb => (by cases hb), .nil, fun q hq => absurd hq (Nat.not_lt_zero _)⟩

section
variable {w₀ : World} {h h' : Heap} {c : Cfg} {Q : WW} {P r : Nat} {x : BU} {K : Value → Heap → Prop}

theorem wd_cell (H : (wdR c Q P r x).P h) {i : Nat} (hi : i < 10) : cellAt h ((⟨Q.wb, 0, none⟩ : Addr).add i) = some (wF c Q x.m.o P r i) := by rw [add_mk, Nat.zero_add]; exact H.1.1.cell hi
theorem wd_c0 (H : (wdR c Q P r x).P h) : cellAt h ⟨Q.wb, 0, none⟩ = some (.int .u64 c.base) := H.1.1.cell (i := 0) (by omega)
theorem wd_bu (H : (wdR c Q P r x).P h) : (buR c Q.W x).P h := H.2.1
theorem wd_row (H : (wdR c Q P r x).P h) : Row h Q.vp ((liveRow x.m.o r).length * 2) (runV (liveRow x.m.o r)) := by rw [liveRow_len]; exact sl_row H.1.2.1

theorem wd_lift {x' : BU} (H : (wdR c Q P r x).P h) (ho : x'.m.o = x.m.o) {W' : BW} (hw : W'.s = Q.W.s ∧ W'.mb = Q.W.mb ∧ W'.b = Q.W.b) (S : Stp h h' (buR c Q.W x) (buR c W' x')) : Stp h h' (wdR c Q P r x) (wdR c { Q with W := W' } P r x') := by
  have T := S.right H
  have e : wF c { Q with W := W' } x.m.o P r = wF c Q x.m.o P r := by
    funext i
    obtain ⟨h1, h2, h3⟩ := hw
    unfold wF
    split <;> simp [h1, h2, h3]
  unfold wdR whR
  simp only [ho]
  rw [e]
  exact T

theorem wd_lift' {x' : BU} (H : (wdR c Q P r x).P h) (ho : x'.m.o = x.m.o) (S : Stp h h' (buR c Q.W x) (buR c Q.W x')) : Stp h h' (wdR c Q P r x) (wdR c Q P r x') := wd_lift (W' := Q.W) H ho ⟨rfl, rfl, rfl⟩ S

theorem wd_setd (H : (wdR c Q P r x).P h) {vp' : Option Addr} {vc' r' P' : Nat} (N : New h h' (slR vp' r' vc' 2 (runV (liveRow x.m.o r')))) :
    WrN h' ((⟨Q.wb, 0, none⟩ : Addr).add 6) 4 ∧
    Stp h (setCs h' ((⟨Q.wb, 0, none⟩ : Addr).add 6) 0 [.int .i64 (x.m.o : Int), .int .i64 (P' : Int), .slice Q.fp Q.fn Q.fc, .slice vp' r' vc']) (wdR c Q P r x) (wdR c { Q with vp := vp', vc := vc' } P' r' x) := by
  have S1 := Stp.new H N
  have H1 := S1.p
  have B : Blk h' Q.wb 10 (wF c Q x.m.o P r) := H1.1.1.1
  rw [add_mk, Nat.zero_add]
  have S2 := Stp.sets B [.int .i64 (x.m.o : Int), .int .i64 (P' : Int), .slice Q.fp Q.fn Q.fc, .slice vp' r' vc'] 6 0 (g := wF c { Q with vp := vp', vc := vc' } x.m.o P' r') fun j hj => by
    have : j = 0 ∨ j = 1 ∨ j = 2 ∨ j = 3 ∨ j = 4 ∨ j = 5 ∨ j = 6 ∨ j = 7 ∨ j = 8 ∨ j = 9 := by omega
    rcases this with rfl | rfl | rfl | rfl | rfl | rfl | rfl | rfl | rfl | rfl <;> rfl
  refine ⟨fun j hj => by rw [add_mk]; exact B.wr (by omega), ?_⟩
  have S3 := S1.trans (((S2.left H1.1.1).left H1.1).left H1)
  refine S3.conv (fun A => ⟨⟨A.1.1.1, A.2.1, fun b e e' => A.2.2 b (.inl (.inl e)) e'⟩, A.1.2.1, fun b e e' => ?_⟩) fun b e => ?_
  · rcases e with e | e
    · exact A.1.2.2 b (.inl e) e'
    · exact A.2.2 b (.inr e') e
  · rcases e with (e | e) | e
    · exact .inl (.inl (.inl e))
    · exact .inr e
    · exact .inl (.inr e)

theorem usual_ok {a b d : Int} (ha : U64 a) (hK : ∀ h', Upd NoB h h' → K (.agg #[.int .u64 (usualC a b d).base, .int .i64 (usualC a b d).limit, .int .i64 (usualC a b d).order]) h') :
    CallV Tryz.prog w₀ F.croftlaw5_usual [.agg #[.int .u64 a, .int .i64 b, .int .i64 d]] h K := by
  refine croftlaw5_usual.call ?_
  unfold croftlaw5_usual.vc
  have N1 := box3 h (.int .u64 a) (.int .i64 b) (.int .i64 d) T.T_api_Config
  generalize Array.push h (.cells #[.int .u64 a, .int .i64 b, .int .i64 d] T.T_api_Config) = h1 at N1 ⊢
  have N2 := box3 h1 (.int .u64 0) (.int .i64 0) (.int .i64 0) T.T_api_Config
  generalize Array.push h1 (.cells #[.int .u64 0, .int .i64 0, .int .i64 0] T.T_api_Config) = h2 at N2 ⊢
  have I := ((Hold.nil h).new N1).new N2
  obtain ⟨k0, k1, k2⟩ := f3_cells (I.at 1)
  refine ⟨_, k0, _, k1, _, k2, ref2_May_ok ha fun h4 u4 => ⟨_, rfl, ?_⟩⟩
  have I4 := I.quiet u4
  have I4' : Hold h h4 [blkR h1.size 3 (f3 (.int .u64 0) (.int .i64 0) (.int .i64 0)), blkR h.size 3 (f3 (.int .u64 a) (.int .i64 b) (.int .i64 d))] := I4
  unfold usualC at hK
  by_cases g : Cfg.Good ⟨a, b, d⟩
  · rw [if_pos g] at hK
    obtain ⟨k0, k1, k2⟩ := f3_cells (I4'.at 1)
    refine iF (by simp [g]) ⟨_, k0, _, k1, _, k2, ?_⟩
    obtain ⟨w5, S5⟩ := assign3 (I4'.at 0) (.int .u64 a) (.int .i64 b) (.int .i64 d)
    have I5 := I4'.step 0 S5
    obtain ⟨k0, k1, k2⟩ := f3_cells (I5.at 0)
    exact ⟨w5, _, k0, _, k1, _, k2, hK _ I5.u⟩
  · rw [if_neg g] at hK
    obtain ⟨w5, S5⟩ := assign3 (I4'.at 0) (.int .u64 65536) (.int .i64 2) (.int .i64 2)
    have I5 := I4'.step 0 S5
    obtain ⟨k0, k1, k2⟩ := f3_cells (I5.at 0)
    exact iT (by simp [g]) ⟨w5, _, k0, _, k1, _, k2, hK _ I5.u⟩

theorem begin_ok {a b d : Int} (ha : U64 a)
    (hK : ∀ (h' : Heap) (Q : WW), New h h' (wdR (usualC a b d) Q 0 0 (BU0 (usualC a b d))) → K (.pointer (some ⟨Q.wb, 0, none⟩)) h') :
    CallV Tryz.prog w₀ F.croftlaw5_begin [.agg #[.int .u64 a, .int .i64 b, .int .i64 d]] h K := by
  refine croftlaw5_begin.call ?_
  unfold croftlaw5_begin.vc
  have N1 := box3 h (.int .u64 a) (.int .i64 b) (.int .i64 d) T.T_api_Config
  generalize Array.push h (.cells #[.int .u64 a, .int .i64 b, .int .i64 d] T.T_api_Config) = h1 at N1 ⊢
  have I1 := (Hold.nil h).new N1
  obtain ⟨k0, k1, k2⟩ := f3_cells (I1.at 0)
  refine ⟨_, k0, _, k1, _, k2, usual_ok ha fun h2 u2 => ⟨_, _, _, rfl, ?_⟩⟩
  have g := usual_good a b d
  have hu := usual_u64 (b := b) (d := d) ha
  generalize usualC a b d = c at hK g hu ⊢
  have I2 := I1.quiet u2
  obtain ⟨w3, S3⟩ := assign3 (I2.at 0) (.int .u64 c.base) (.int .i64 c.limit) (.int .i64 c.order)
  have I3 := I2.step 0 S3
  have I3 : Hold h (setCs h2 ⟨h.size, 0, none⟩ 0 [.int .u64 c.base, .int .i64 c.limit, .int .i64 c.order]) [blkR h.size 3 (f3 (.int .u64 c.base) (.int .i64 c.limit) (.int .i64 c.order))] := I3
  refine ⟨w3, ?_⟩
  generalize setCs h2 ⟨h.size, 0, none⟩ 0 [.int .u64 c.base, .int .i64 c.limit, .int .i64 c.order] = h3 at I3 ⊢
  obtain ⟨k0, k1, k2⟩ := f3_cells (I3.at 0)
  refine ⟨_, k0, _, k1, _, k2, ?_⟩
  refine mem_New_ok hu (fun hn => absurd g hn) fun _ h4 s u4 hs4 H4 => ⟨_, _, rfl, ?_⟩
  have N4 : New h3 h4 (spR s c (fun x => x = s) ⟨0, fun _ => 0⟩) := ⟨u4, H4, fun b e => by have e : b = s := e; omega⟩
  have I4 := I3.new N4
  obtain ⟨k0, k1, k2⟩ := f3_cells (I4.at 1)
  refine ⟨_, k2, pm_New_ok fun h5 mb w N5 => ⟨_, rfl, fun J6 hJ6 => pF rfl (hJ6 _ _ fun J7 hJ7 => pF rfl (hJ7 _ _ (iF rfl ?_)))⟩⟩
  have I5 := I4.new N5
  obtain ⟨k0, k1, k2⟩ := f3_cells (I5.at 2)
  refine ⟨_, k0, _, k1, _, k2, bu_New_ok ⟨g.o0, g.o8⟩ fun h6 b lp lc lb N6 => ⟨_, rfl, iF rfl ?_⟩⟩
  have I6 := I5.new N6
  obtain ⟨k0, k1, k2⟩ := f3_cells (I6.at 3)
  obtain ⟨on, hon⟩ : ∃ on : Nat, c.order = on := ⟨c.order.toNat, by have := g.o0; omega⟩
  have ho8 : on ≤ 8 := by have := g.o8; omega
  have hcl : (mNew c.order).o = on := by show clampO c.order = on; rw [clamp_o g, hon]; simp
  have hK := hK
  refine ⟨_, k0, _, k1, _, k2, _, k2, ?_⟩
  rw [hon]
  refine ref5_New_ok ho8 fun h7 fp fc N7 => ⟨_, _, _, _, _, _, _, _, rfl, ?_⟩
  have I7 := I6.quiet N7.u
  obtain ⟨k0, k1, k2⟩ := f3_cells (I7.at 3)
  refine ⟨k0, k1, by rw [k2, hon], ?_⟩
  have N8 := New.box h7 #[(.int .u64 c.base), (.int .i64 c.limit), (.int .i64 (on : Int)), (.pointer (some ⟨s, 0, none⟩)), (.pointer (some ⟨mb, 0, none⟩)), (.pointer (some ⟨b, 0, none⟩)), (.int .i64 (on : Int)), (.int .i64 0), (.slice fp (on + 1) fc), (.slice none 0 0)] T.T_croftlaw5_world
  let W : BW := ⟨s, fun x => x = s, mb, w, b, lp, lc, lb⟩
  let Q : WW := ⟨h7.size, W, fp, on + 1, fc, none, 0⟩
  have N9 : New h7 (h7.push (.cells #[(.int .u64 c.base), (.int .i64 c.limit), (.int .i64 (on : Int)), (.pointer (some ⟨s, 0, none⟩)), (.pointer (some ⟨mb, 0, none⟩)), (.pointer (some ⟨b, 0, none⟩)), (.int .i64 (on : Int)), (.int .i64 0), (.slice fp (on + 1) fc), (.slice none 0 0)] T.T_croftlaw5_world)) (blkR h7.size 10 (wF c Q on 0 0)) :=
    N8.conv (fun A => Blk.congr A fun j hj => by
      have hj : j < 10 := hj
      have : j = 0 ∨ j = 1 ∨ j = 2 ∨ j = 3 ∨ j = 4 ∨ j = 5 ∨ j = 6 ∨ j = 7 ∨ j = 8 ∨ j = 9 := by omega
      rcases this with rfl | rfl | rfl | rfl | rfl | rfl | rfl | rfl | rfl | rfl <;> first | rfl | (show _ = Value.int .i64 c.order; rw [hon]; rfl)) fun _ e => e
  refine hK _ Q ?_
  -- put together
  have J1 := I7.sub (rs' := [bopR c s mb b lp (c.order.toNat + 1) lc lb (fun _ => 0), mapR mb (mNew c.order) w, spR s c (fun x => x = s) ⟨0, fun _ => 0⟩]) (.cons_cons _ (.cons_cons _ (.cons_cons _ (.cons _ .slnil))))
  have J2 := J1.split.swap.split
  have J3 := (J2.front3.join.front4.front3.join).front3.swap.join.swap.join
  have J4 := J3.new (R := slR none 0 0 2 (runV (liveRow on 0))) ⟨Upd.refl _ _, sl_nil _ _ _, fun b e => absurd e (sl_nil_fp b)⟩
  have J5 := (J4.new N9).join.join.toNew
  refine J5.conv (fun A => ?_) fun b e => ?_
  · refine ⟨⟨?_, ?_, ?_⟩, ?_, ?_⟩
    · show Blk _ _ _ (wF c Q (mNew c.order).o 0 0)
      rw [hcl]; exact A.1.1
    · show (slR none 0 0 2 (runV (liveRow (mNew c.order).o 0))).P _
      rw [hcl]; exact A.1.2.1
    · exact A.1.2.2
    · have := A.2.1
      show (buR c W (BU0 c)).P _
      unfold buR
      rw [show (BU0 c).m.o = c.order.toNat by show (mNew c.order).o = _; rw [hcl, hon]; simp]
      exact this
    · intro z e e'
      have e' : (buR c W (BU0 c)).fp z := e'
      refine A.2.2 z e ?_
      unfold buR at e'
      rw [show (BU0 c).m.o = c.order.toNat by show (mNew c.order).o = _; rw [hcl, hon]; simp] at e'
      exact e'
  · rcases e with e | e
    · exact .inl e
    · refine .inr ?_
      have e' : (buR c W (BU0 c)).fp b := e
      unfold buR at e'
      rw [show (BU0 c).m.o = c.order.toNat by show (mNew c.order).o = _; rw [hcl, hon]; simp] at e'
      exact e'

theorem commit_ok {s : Nat} {Z : Nat → Prop} {st : Sto} (H : (spR s c Z st).P h) (hl : (st.n : Int) < c.limit) (hK : ∀ (Z' : Nat → Prop) (h' : Heap), Stp h h' (spR s c Z st) (spR s c Z' (growS c st)) → K (.tuple #[.int .u64 (c.base + (st.n * c.size : Nat)), .int .i64 0]) h') :
    CallV Tryz.prog w₀ F.mem_Space_Commit [.pointer (some ⟨s, 0, none⟩), .bool false] h K := by
  refine mem_Commit_ok H (fun e => ?_) fun _ _ h' u H' => hK _ h' ⟨u, H', fun b e => ?_⟩
  · rcases e with e | e
    · cases e
    · omega
  · rcases e with e | e
    · exact .inl e
    · exact .inr e.1

theorem apart_none (e : x.m.n = x.st.n * 2 ^ x.m.o) (st' : Sto) (hs : st'.n = x.st.n + 1) : topU ⟨st', x.hd, x.m⟩ = none := by
  unfold topU
  rw [if_neg]
  rintro ⟨_, h2⟩
  have h2 : x.m.n = st'.n * 2 ^ x.m.o := h2
  rw [hs, e, Nat.succ_mul] at h2
  have := Nat.two_pow_pos x.m.o
  omega

theorem come_ok (hx : BU.Ok c x) (e : x.m.n = x.st.n * 2 ^ x.m.o) (hr : x.m.n = r * 2 ^ x.m.o) (hl : (x.st.n : Int) < c.limit) (H : (wdR c Q x.m.n r x).P h)
    (hK : ∀ (h' : Heap) (Q' : WW), Q'.wb = Q.wb → x.m.n + 2 ^ x.m.o ≤ 1024 → Stp h h' (wdR c Q x.m.n r x) (wdR c Q' (x.m.n + 2 ^ x.m.o) (r + 1) ⟨growS c x.st, x.hd, mGrow x.m⟩) → K (.bool true) h') :
    CallV Tryz.prog w₀ F.croftlaw5_world_come [.pointer (some ⟨Q.wb, 0, none⟩)] h K := by
  refine croftlaw5_world_come.call ?_
  unfold croftlaw5_world_come.vc
  have g := bu_good (wd_bu H)
  have o8 := hx.m.o8
  have n1 := hx.m.n1
  have hroom : x.m.n + 2 ^ x.m.o ≤ 1024 := by
    have h1 := g.pg
    have h2 : c.order.toNat = x.m.o := by have := hx.o; omega
    rw [h2] at h1
    have h3 : ((x.st.n + 1 : Nat) : Int) * ((2 ^ x.m.o : Nat) : Int) ≤ c.limit * ((2 ^ x.m.o : Nat) : Int) := Int.mul_le_mul_of_nonneg_right (by omega) (Int.natCast_nonneg _)
    have h4 : (((x.st.n + 1) * 2 ^ x.m.o : Nat) : Int) ≤ 1024 := by rw [Int.natCast_mul]; exact Int.le_trans h3 h1
    rw [e, ← Nat.succ_mul]
    exact Int.ofNat_le.1 h4
  have hr1 : r ≤ 1024 := by
    have h5 : r * 1 ≤ r * 2 ^ x.m.o := Nat.mul_le_mul_left _ (Nat.one_le_two_pow)
    omega
  refine ⟨_, rfl, _, wd_cell H (i := 3) (by omega), commit_ok (bu_sp (wd_bu H)) hl fun Z' h1 S1 => ⟨_, _, rfl, fun J2 hJ2 => ?_⟩⟩
  have T1 := wd_lift (x' := ⟨growS c x.st, x.hd, x.m⟩) (W' := { Q.W with Z := Z' }) H rfl ⟨rfl, rfl, rfl⟩ (bu_liftZ (wd_bu H) S1)
  have ok1 : BU.Ok c ⟨growS c x.st, x.hd, x.m⟩ := ⟨hx.m, hx.o, hx.b⟩
  have ap := feed_apart (c := c) (apart_none e (growS c x.st) rfl)
  refine pF rfl ⟨_, rfl, _, wd_cell T1.p (i := 5) (by omega), ?_⟩
  refine bu_Feed_ok ok1 (wd_bu T1.p) fun h2 ok2 o2 S2 => ⟨_, rfl, hJ2 _ _ fun J3 hJ3 => ?_⟩
  rw [ap.1] at S2
  have T2 := T1.trans (wd_lift' T1.p rfl S2)
  rw [ap.1]
  refine pF rfl ⟨_, rfl, _, wd_cell T2.p (i := 5) (by omega), ?_⟩
  refine bu_Pull_ok ok1 (wd_bu T2.p) fun h3 ok3 o3 S3 => ⟨_, rfl, hJ3 _ _ ?_⟩
  rw [ap.2] at S3
  have T3 := T2.trans (wd_lift' T2.p rfl S3)
  rw [ap.2]
  refine iF rfl ⟨_, rfl, _, wd_cell T3.p (i := 4) (by omega), ?_⟩
  refine pm_Grow_ok hx.m (bu_map (x := ⟨growS c x.st, x.hd, x.m⟩) (wd_bu T3.p)) fun h4 w' S4 => ⟨rfl, ?_⟩
  have eg := grow_eq hroom
  have go : (mGrow x.m).o = x.m.o := by rw [eg]
  have gn : (mGrow x.m).n = x.m.n + 2 ^ x.m.o := by rw [eg]
  have T4 := T3.trans (wd_lift (x' := ⟨growS c x.st, x.hd, mGrow x.m⟩) (W' := { Q.W with Z := Z', w := w' }) T3.p go ⟨rfl, rfl, rfl⟩ (bu_liftw (x := ⟨growS c x.st, x.hd, x.m⟩) (wd_bu T3.p) go S4))
  have H4 := T4.p
  have c6 := wd_cell H4 (i := 6) (by omega)
  have c7 : cellAt h4 (((⟨Q.wb, 0, none⟩ : Addr).add 6).add 1) = some (.int .i64 (x.m.n : Int)) := by have := wd_cell H4 (i := 7) (by omega); rw [add_mk] at this; rw [add_mk, add_mk]; exact this
  have c8 : cellAt h4 (((⟨Q.wb, 0, none⟩ : Addr).add 6).add 2) = some (.slice Q.fp Q.fn Q.fc) := by have := wd_cell H4 (i := 8) (by omega); rw [add_mk] at this; rw [add_mk, add_mk]; exact this
  have c9 : cellAt h4 (((⟨Q.wb, 0, none⟩ : Addr).add 6).add 3) = some (.slice Q.vp r Q.vc) := by have := wd_cell H4 (i := 9) (by omega); rw [add_mk] at this; rw [add_mk, add_mk]; exact this
  have R4 := wd_row H4
  refine ⟨_, rfl, _, c6, _, c7, _, _, _, c8, _, _, _, c9, ?_⟩
  have hcome := ref5_Come_ok (w₀ := w₀) (h := h4) (K := fun v41 h41 => ∃ r41_0 r41_1 : Int, ∃ r41_2p r41_2n r41_2c, ∃ r41_3p r41_3n r41_3c, v41 = (.agg #[.int .i64 r41_0, .int .i64 r41_1, .slice r41_2p r41_2n r41_2c, .slice r41_3p r41_3n r41_3c]) ∧ (∃ a42 : Addr, (some (⟨Q.wb, 0, none⟩ : Addr) : Option Addr) = some a42 ∧ (WrN h41 (a42.add 6) 4 ∧ (∃ a45 : Addr, (some (⟨Q.wb, 0, none⟩ : Addr) : Option Addr) = some a45 ∧ (∃ n47 : Option Addr, cellAt (setCs h41 (a42.add 6) 0 [(.int .i64 r41_0), (.int .i64 r41_1), (.slice r41_2p r41_2n r41_2c), (.slice r41_3p r41_3n r41_3c)]) (a45.add 4) = some (.pointer n47) ∧ (∃ a50 : Addr, (some (⟨Q.wb, 0, none⟩ : Addr) : Option Addr) = some a50 ∧ (∃ n53 : Int, cellAt (setCs h41 (a42.add 6) 0 [(.int .i64 r41_0), (.int .i64 r41_1), (.slice r41_2p r41_2n r41_2c), (.slice r41_3p r41_3n r41_3c)]) (a50.add 7) = some (.int .i64 n53) ∧ (CallV Tryz.prog w₀ F.pagemap_Map_Pages [.pointer n47] (setCs h41 (a42.add 6) 0 [(.int .i64 r41_0), (.int .i64 r41_1), (.slice r41_2p r41_2n r41_2c), (.slice r41_3p r41_3n r41_3c)]) fun v48 h48 => ∃ r48 : Int, v48 = .int .i64 r48 ∧ (cellAt h48 (a50.add 7) = some (.int .i64 n53) ∧ K (.bool (r48 == n53)) h48)))))))))
    (fp := Q.fp) (fn := Q.fn) (fc := Q.fc) (vp := Q.vp) (vc := Q.vc) (l := liveRow x.m.o r) (on := x.m.o) (Pn := x.m.n) o8 n1 (by rw [liveRow_len]; omega) (by have := R4; rw [show ({ st := growS c x.st, hd := x.hd, m := mGrow x.m } : BU).m.o = x.m.o from go] at this; exact this) fun h5 vp' vc' N5 => ?_
  · rw [liveRow_len] at hcome
    have go' : ((⟨growS c x.st, x.hd, mGrow x.m⟩ : BU).m.o : Int) = (x.m.o : Int) := by show ((mGrow x.m).o : Int) = _; rw [go]
    rw [go']
    exact hcome
  · rw [hr, ← liveRow_succ, liveRow_len] at N5
    have N5' : New h4 h5 (slR vp' (r + 1) vc' 2 (runV (liveRow ({ st := growS c x.st, hd := x.hd, m := mGrow x.m } : BU).m.o (r + 1)))) := by
      show New h4 h5 (slR vp' (r + 1) vc' 2 (runV (liveRow (mGrow x.m).o (r + 1))))
      rw [go]; exact N5
    rw [liveRow_len]
    obtain ⟨w6, S6⟩ := wd_setd (P' := x.m.n + 2 ^ x.m.o) T4.p N5'
    have e6 : (({ st := growS c x.st, hd := x.hd, m := mGrow x.m } : BU).m.o : Int) = (x.m.o : Int) := by show ((mGrow x.m).o : Int) = _; rw [go]
    rw [e6] at S6
    have T6 := T4.trans S6
    refine ⟨_, _, _, _, _, _, _, _, rfl, _, rfl, w6, _, rfl, _, wd_cell T6.p (i := 4) (by omega), _, rfl, _, wd_cell T6.p (i := 7) (by omega), ?_⟩
    refine pm_Pages_ok (bu_map (wd_bu T6.p)) ⟨_, rfl, wd_cell T6.p (i := 7) (by omega), ?_⟩
    have e7 : ((((⟨growS c x.st, x.hd, mGrow x.m⟩ : BU).m.n : Nat) : Int) == (((x.m.n + 2 ^ x.m.o : Nat) : Int))) = true := by show ((((mGrow x.m).n : Nat) : Int) == _) = true; rw [gn]; simp
    rw [e7]
    exact hK _ ⟨Q.wb, { Q.W with Z := Z', w := w' }, Q.fp, Q.fn, Q.fc, vp', vc'⟩ rfl hroom T6
end
end Go.Proofs.YtnlcmfdmbgnpfaaGreat
