/- croftlaw5: rows of wild deeds; BuddyEnds. No condition. -/
import Derived.Test.YtnlcmfdmbgnpfaaBO
set_option linter.unusedSimpArgs false
set_option linter.unusedVariables false
namespace Go.Proofs.Ytnlcmfdmbgnpfaa
open Go.V Classical

structure Wi where
  o : Int
  a : Int
  b : Int
  p : Int
  v : Int

def Wi.f (x : Wi) : Nat → Value
  | 0 => .int .i64 x.o
  | 1 => .int .i64 x.a
  | 2 => .int .i64 x.b
  | 3 => .int .u64 x.p
  | _ => .int .u64 x.v

def bd64 (z : Int) : Prop := -9223372036854775808 ≤ z ∧ z ≤ 9223372036854775807
def Wi.Ok (x : Wi) : Prop := bd64 x.a ∧ bd64 x.b ∧ U64 x.p ∧ U64 x.v

/-- Wild deeds that were handed in. -/
def Wis (h : Heap) (p : Option Addr) (n c : Nat) : Prop := ∃ f : Nat → Wi, n ≤ c ∧ c < 9223372036854775808 ∧ (n = 0 ∨ ∃ b off, p = some ⟨b, off, none⟩ ∧ ∀ i, i < n → ∀ j, j < 5 → cellAt h ⟨b, off + i * 5 + j, none⟩ = some ((f i).f j)) ∧ ∀ i, i < n → (f i).Ok

def wiTy : Nat → TypeDesc
  | 0 => .int .i64
  | 1 => .int .i64
  | 2 => .int .i64
  | _ => .int .u64

theorem wiRow {H : Type} {enc : TypeId × Value → H} {W : World} {t e : TypeId} {fs : Array Field} {p : Option Addr} {n c : Nat} {d : DataW H} {ps : List MemPlace} (ht : Try.prog.underlying t = some (.slice e)) (he : Try.prog.underlying e = some (.struct fs)) (hm : fs.size = 5) (hce : Try.prog.cellsOf e = 5)
    (hf : ∀ j, j < 5 → ∃ f, fs[j]? = some f ∧ f.offset = j ∧ Try.prog.cellsOf f.type = 1 ∧ Try.prog.underlying f.type = some (wiTy j))
    (h : DataW.Trod enc Try.prog W 0 (fun _ => true) true t (.slice p n c) d ps) : Wis W.heap p n c := by
  obtain ⟨h1, h2, h3⟩ := structRow ht he hm (by decide) hce hf h
  rcases h3 with h0 | ⟨b, off, rfl, hc⟩
  · exact ⟨fun _ => ⟨0, 0, 0, 0, 0⟩, h1, h2, .inl h0, fun i hi => absurd hi (by omega)⟩
  · have each : ∀ i, ∃ o : Wi, i < n → (∀ j, j < 5 → cellAt W.heap ⟨b, off + i * 5 + j, none⟩ = some (o.f j)) ∧ o.Ok := by
      intro i
      by_cases hi : i < n
      · obtain ⟨v0, c0, z0, rfl, w0⟩ := hc i hi 0 (by omega)
        obtain ⟨v1, c1, z1, rfl, w1⟩ := hc i hi 1 (by omega)
        obtain ⟨v2, c2, z2, rfl, w2⟩ := hc i hi 2 (by omega)
        obtain ⟨v3, c3, z3, rfl, w3⟩ := hc i hi 3 (by omega)
        obtain ⟨v4, c4, z4, rfl, w4⟩ := hc i hi 4 (by omega)
        have bd : ∀ {z : Int}, (Lit.int .i64 z).wf = true → bd64 z := fun w => by have := Go.bounds_i64 w; unfold bd64; omega
        refine ⟨⟨z0, z1, z2, z3, z4⟩, fun _ => ⟨fun j hj => ?_, bd w1, bd w2, wf_u64 w3, wf_u64 w4⟩⟩
        have : j = 0 ∨ j = 1 ∨ j = 2 ∨ j = 3 ∨ j = 4 := by omega
        rcases this with rfl | rfl | rfl | rfl | rfl <;> assumption
      · exact ⟨⟨0, 0, 0, 0, 0⟩, fun e => absurd e hi⟩
    exact ⟨fun i => (each i).choose, h1, h2, .inr ⟨b, off, rfl, fun i hi => ((each i).choose_spec hi).1⟩, fun i hi => ((each i).choose_spec hi).2⟩

section
variable {w₀ : World} {h h' : Heap} {c : Cfg} {Q : WW} {P r : Nat} {x : BU} {K : Value → Heap → Prop}

theorem sto_b {st' : Sto} (H : BU.Ok c x) : BU.Ok c ⟨st', x.hd, x.m⟩ := ⟨H.m, H.o, H.b⟩

theorem slab_b {i : Nat} {k : Int} (H : BU.Ok c x) (hk : 0 ≤ k ∧ k ≤ 7) : BU.Ok c ⟨x.st, x.hd, setPg x.m i (slabP k)⟩ := by
  refine ⟨setPg_ok H.m (slabP_t hk), H.o, fun j hj h2 => ?_⟩
  have e : (setPg x.m i (slabP k)).pg j = if j = i then slabP k else x.m.pg j := by simp [setPg, putP]
  simp only [] at h2 ⊢
  rw [e] at h2 ⊢
  split at h2
  · simp [slabP, plainP] at h2
  · rename_i hne
    rw [if_neg hne]
    exact H.b j hj h2

/-- The calls, whatever they answer. -/
theorem run_e {i r' kind : Int} (hx : BU.Ok c x) (hi : bd64 i) (H : (wdR c Q P r x).P h) (hK : ∀ v x' h', BU.Ok c x' → Stp h h' (wdR c Q P r x) (wdR c Q P r x') → K (.int .i64 v) h') :
    CallV Try.prog w₀ F.pagemap_Map_Run [.pointer (some ⟨Q.W.mb, 0, none⟩), .int .i64 i, .int .i64 r', .int .i64 kind] h K := by
  have B := wd_bu H
  refine pm_Run_ok (o := x.m.o) (n := x.m.n) hx.m.o8 hx.m.n1 hi (bu_map B) (fun m k _ _ h1 h2 h3 hk h1' S => ?_) fun _ h1 u1 => hK _ x h1 hx (Stp.quiet H u1)
  have e : runU x.m m k kind = { x.m with pg := runP x.m.pg m k kind } := by unfold runU; rw [if_pos ⟨h1, h2, h3⟩]
  have ok := run_b (i := m) (r := k) hx hk
  rw [e] at ok
  refine hK _ _ h1' ok (wd_lift' (x' := ⟨x.st, x.hd, { x.m with pg := runP x.m.pg m k kind }⟩) H rfl (bu_liftm B rfl S))

theorem flip_e {i r' : Int} (hx : BU.Ok c x) (H : (wdR c Q P r x).P h) (hK : ∀ v v' x' h', BU.Ok c x' → Stp h h' (wdR c Q P r x) (wdR c Q P r x') → K (.tuple #[.bool v, .int .i64 v']) h') :
    CallV Try.prog w₀ F.pagemap_Map_Flip [.pointer (some ⟨Q.W.mb, 0, none⟩), .int .i64 r', .int .i64 i] h K := by
  have B := wd_bu H
  refine pm_Flip_ok hx.m (bu_map B) (fun k m _ hk _ hm h1 S => ?_) fun _ h1 u1 => hK _ _ x h1 hx (Stp.quiet H u1)
  have e : (turnU x.m m k).1 = { x.m with bt := flipB x.m.bt k (m / 2 ^ (k + 1)) } := by unfold turnU; rw [if_neg (by omega), if_pos ⟨hm, hk⟩]
  have ok := turn_b (i := m) (r := k) hx
  rw [e] at ok
  refine hK _ _ _ h1 ok (wd_lift' (x' := ⟨x.st, x.hd, { x.m with bt := flipB x.m.bt k (m / 2 ^ (k + 1)) }⟩) H rfl (bu_liftm B rfl S))

theorem slab_e {i k : Int} (hx : BU.Ok c x) (H : (wdR c Q P r x).P h) (hK : ∀ v x' h', BU.Ok c x' → Stp h h' (wdR c Q P r x) (wdR c Q P r x') → K (.int .i64 v) h') :
    CallV Try.prog w₀ F.pagemap_Map_Slab [.pointer (some ⟨Q.W.mb, 0, none⟩), .int .i64 i, .int .i64 k] h K := by
  have B := wd_bu H
  refine pm_Slab_ok (o := x.m.o) (n := x.m.n) (bu_map B) (fun m hm _ k0 k7 h1 S => ?_) fun _ h1 u1 => hK _ x h1 hx (Stp.quiet H u1)
  refine hK _ _ h1 (slab_b (i := m) hx ⟨k0, k7⟩) (wd_lift' (x' := ⟨x.st, x.hd, setPg x.m m (slabP k)⟩) H rfl (bu_liftm B rfl ?_))
  have e : setPg x.m m (slabP k) = { x.m with pg := putP x.m.pg m (slabP k) } := by simp [setPg]
  rw [e]
  exact S

theorem setword_e {p v : Int} (hx : BU.Ok c x) (hp : U64 p) (hv : U64 v) (H : (wdR c Q P r x).P h) (hK : ∀ v x' h', BU.Ok c x' → Stp h h' (wdR c Q P r x) (wdR c Q P r x') → K (.int .i64 v) h') :
    CallV Try.prog w₀ F.mem_Space_SetWord [.pointer (some ⟨Q.W.s, 0, none⟩), .int .u64 p, .int .u64 v] h K := by
  have B := wd_bu H
  refine mem_SetWord_ok hp hv (bu_sp B) (fun _ h1 u1 H1 => ?_) fun _ h1 u1 => hK _ x h1 hx (Stp.quiet H u1)
  let st' : Sto := ⟨x.st.n, fun o => if (p - c.base).toNat ≤ o ∧ o < (p - c.base).toNat + 8 then byteOf v (o - (p - c.base).toNat) else x.st.M o⟩
  have S1 : Stp h h1 (spR Q.W.s c Q.W.Z x.st) (spR Q.W.s c Q.W.Z st') := ⟨u1, H1, fun b e => .inl e⟩
  exact hK _ _ h1 (sto_b hx) (wd_lift' (x' := ⟨st', x.hd, x.m⟩) H rfl (bu_liftsp B S1))
end

def f5 (x : Wi) : Nat → Value := x.f

theorem box5 (h : Heap) (x : Wi) (T : TypeId) : New h (h.push (.cells #[.int .i64 0, .int .i64 0, .int .i64 0, .int .u64 0, .int .u64 0] T)) (blkR h.size 5 (f5 ⟨0, 0, 0, 0, 0⟩)) :=
  (New.box h #[.int .i64 0, .int .i64 0, .int .i64 0, .int .u64 0, .int .u64 0] T).conv (fun P => Blk.congr P fun i hi => by
    have hi : i < 5 := hi
    have : i = 0 ∨ i = 1 ∨ i = 2 ∨ i = 3 ∨ i = 4 := by omega
    rcases this with rfl | rfl | rfl | rfl | rfl <;> rfl) fun _ e => e

theorem assign5 {h : Heap} {b : Nat} {f : Nat → Value} (B : Blk h b 5 f) (x : Wi) : WrN h ⟨b, 0, none⟩ 5 ∧ Stp h (setCs h ⟨b, 0, none⟩ 0 [.int .i64 x.o, .int .i64 x.a, .int .i64 x.b, .int .u64 x.p, .int .u64 x.v]) (blkR b 5 f) (blkR b 5 (f5 x)) := by
  refine ⟨fun j hj => by rw [add_mk]; exact B.wr (by omega), Stp.sets B [.int .i64 x.o, .int .i64 x.a, .int .i64 x.b, .int .u64 x.p, .int .u64 x.v] 0 0 fun j hj => ?_⟩
  rw [if_pos ⟨by omega, by simpa using hj⟩]
  have : j = 0 ∨ j = 1 ∨ j = 2 ∨ j = 3 ∨ j = 4 := by omega
  rcases this with rfl | rfl | rfl | rfl | rfl <;> rfl

theorem f5_cells {h : Heap} {b : Nat} {x : Wi} (B : (blkR b 5 (f5 x)).P h) : cellAt h ⟨b, 0, none⟩ = some (.int .i64 x.o) ∧ cellAt h ((⟨b, 0, none⟩ : Addr).add 1) = some (.int .i64 x.a) ∧ cellAt h ((⟨b, 0, none⟩ : Addr).add 2) = some (.int .i64 x.b) ∧ cellAt h ((⟨b, 0, none⟩ : Addr).add 3) = some (.int .u64 x.p) ∧ cellAt h ((⟨b, 0, none⟩ : Addr).add 4) = some (.int .u64 x.v) :=
  ⟨Blk.cell (i := 0) B (by omega), by rw [add_mk]; exact Blk.cell (i := 1) B (by omega), by rw [add_mk]; exact Blk.cell (i := 2) B (by omega), by rw [add_mk]; exact Blk.cell (i := 3) B (by omega), by rw [add_mk]; exact Blk.cell (i := 4) B (by omega)⟩

theorem BuddyEnds_law {w : World} {a b d : Int} {p : Option Addr} {n cp : Nat} (ha : (Lit.int .u64 a).wf = true) (hb : (Lit.int .i64 b).wf = true) (hd : (Lit.int .i64 d).wf = true) (hs : Wis w.heap p n cp) :
    CallV Try.prog w F.croftlaw5_BuddyEnds [.agg #[.int .u64 a, .int .i64 b, .int .i64 d], .slice p n cp] w.heap fun v h' => v = .bool true ∧ Upd NoB w.heap h' := by
  obtain ⟨f, hn, hc, hr, hok⟩ := hs
  have hfin : ∀ h', Upd NoB w.heap h' → (fun (r : Value) (h' : Heap) => r = Value.bool true ∧ Upd NoB w.heap h') (.bool true) h' := fun h' u => ⟨rfl, u⟩
  generalize (fun (r : Value) (h' : Heap) => r = Value.bool true ∧ Upd NoB w.heap h') = K at hfin ⊢
  refine croftlaw5_BuddyEnds.call ?_
  unfold croftlaw5_BuddyEnds.vc
  have N0 := box3 w.heap (.int .u64 a) (.int .i64 b) (.int .i64 d) T.T_api_Config
  generalize Array.push w.heap (.cells #[.int .u64 a, .int .i64 b, .int .i64 d] T.T_api_Config) = h0 at N0 ⊢
  have I0 := (Hold.nil w.heap).new N0
  obtain ⟨k0, k1, k2⟩ := f3_cells (I0.at 0)
  refine ⟨_, k0, _, k1, _, k2, beginW (wf_u64 ha) fun h1 Q N1 => ⟨_, rfl, fun J3 hJ3 => pF rfl ?_⟩⟩
  have g5 := usual_good a b d
  generalize usualC a b d = c at N1 g5
  have W0 := wi0 g5
  have sn : (BU0 c).st.n = 0 := rfl
  generalize BU0 c = x0 at N1 W0 sn
  have I1 := I0.new N1
  refine lives_ok fun h2 u2 => ⟨_, rfl, hJ3 _ _ fun J4 hJ4 => pF rfl ?_⟩
  have I2 := I1.quiet u2
  have hlim : (x0.st.n : Int) < c.limit := by rw [sn]; have := g5.l1; omega
  refine comeW (fl := fun _ => []) (L := []) (Q := Q) W0 (I2.at 0) hlim fun x1 h3 Q1 eQ W1 eo en es _ S3 => ⟨_, rfl, hJ4 _ _ fun J5 hJ5 => pF rfl ?_⟩
  have I3 := I2.step 0 S3
  have e1 : x1.m.n - 2 ^ x1.m.o = x0.m.n := by rw [en, eo, Nat.add_sub_cancel]
  generalize hwb : Q.wb = wb at eQ hJ3 hJ4 hJ5 ⊢
  refine ⟨_, rfl, _, (by rw [← eQ]; exact wd_cell (I3.at 0) (i := 5) (by omega)), ?_⟩
  refine feedW W1 (I3.at 0) (by omega) (L' := []) (by rw [e1, eo]) fun x2 h4 W2 M2 S4 => ⟨_, rfl, hJ5 _ _ (iF rfl ?_)⟩
  have I4 := I3.step 0 S4
  have I4 : Hold w.heap h4 [wsR c Q1 x2, blkR w.heap.size 3 (f3 (.int .u64 a) (.int .i64 b) (.int .i64 d))] := I4
  have I5 : Hold w.heap h4 [wdR c Q1 x2.m.n x2.st.n x2] := I4.sub (.cons_cons _ (.cons _ .slnil))
  intro J6 hJ6 L7 hL7
  have ok2 := W2.ok
  generalize x2.m.n = P at I5
  generalize x2.st.n = r at I5
  subst eQ
  have loop : ∀ (k i : Nat) (hx : Heap) (x : BU), i + k = n → BU.Ok c x → Hold w.heap hx [wdR c Q1 P r x] → L7 [.slice p n cp, .pointer (some ⟨Q1.wb, 0, none⟩), .int .i64 (i : Int)] hx := by
    intro k
    induction k with
    | zero =>
      intro i hx x hi ok I
      exact hL7 _ _ _ _ _ _ fun J8 hJ8 => qF' (decide_eq_false (by omega)) (hJ8 _ _ (iF rfl (hJ6 _ (hfin _ I.u))))
    | succ k ih =>
      intro i hx x hi ok I
      refine hL7 _ _ _ _ _ _ fun J8 hJ8 => qT (decide_eq_true (by omega)) (hJ8 _ _ ?_)
      by_cases h200 : (i : Int) < 200
      case neg => exact iF (decide_eq_false h200) (hJ6 _ (hfin _ I.u))
      refine iT (decide_eq_true h200) fun J9 hJ9 => ?_
      have hwr : IntKind.wrap .i64 ((i : Int) + 1) = ((i + 1 : Nat) : Int) := by rw [IntKind.wrap_i64]; omega
      have next : ∀ (b : Nat) (e : Wi) (hy : Heap) (x' : BU), BU.Ok c x' → Hold w.heap hy [blkR b 5 (f5 e), wdR c Q1 P r x'] → J9 [.slice p n cp, .pointer (some ⟨Q1.wb, 0, none⟩), .int .i64 (i : Int)] hy := fun b e hy x' ok' I' => by
        refine hJ9 _ _ _ _ _ _ ?_
        rw [hwr]
        exact ih (i + 1) hy x' (by omega) ok' I'.drop
      rcases hr with hr | ⟨b0, off, rfl, hr⟩
      · omega
      have hri : ∀ j, j < 5 → cellAt hx ⟨b0, off + i * 5 + j, none⟩ = some ((f i).f j) := fun j hj => cellAt_upd (hr i (by omega) j hj) I.u id
      obtain ⟨oa, ob, op, ov⟩ := hok i (by omega)
      generalize f i = e at hri oa ob op ov
      have ea : (⟨b0, off, none⟩ : Addr).add (Int.toNat ((i : Nat) : Int) * 5) = ⟨b0, off + i * 5, none⟩ := by simp only [add_mk, Int.toNat_natCast]
      refine ⟨_, rfl, by omega, by omega, ?_⟩
      rw [ea]
      refine ⟨_, hri 0 (by omega), _, by rw [add_mk]; exact hri 1 (by omega), _, by rw [add_mk]; exact hri 2 (by omega), _, by rw [add_mk]; exact hri 3 (by omega), _, by rw [add_mk]; exact hri 4 (by omega), ?_⟩
      have N1 := box5 hx e T.T_croftlaw5_Wild
      generalize Array.push hx (.cells #[.int .i64 0, .int .i64 0, .int .i64 0, .int .u64 0, .int .u64 0] T.T_croftlaw5_Wild) = h7 at N1 ⊢
      obtain ⟨b5, eb5⟩ : ∃ b5, b5 = Array.size hx := ⟨_, rfl⟩
      rw [← eb5] at N1 ⊢
      have I7 := I.new N1
      obtain ⟨w8, S8⟩ := assign5 (I7.at 0) e
      have I8 := I7.step 0 S8
      refine ⟨w8, ?_⟩
      generalize setCs h7 ⟨b5, 0, none⟩ 0 [.int .i64 e.o, .int .i64 e.a, .int .i64 e.b, .int .u64 e.p, .int .u64 e.v] = h8 at I8 ⊢
      have I8 : Hold w.heap h8 [blkR b5 5 (f5 e), wdR c Q1 P r x] := I8
      have H8 : (wdR c Q1 P r x).P h8 := I8.at 1
      obtain ⟨q0, q1, q2, q3, q4⟩ := f5_cells (I8.at 0)
      have cb := wd_cell H8 (i := 5) (by omega)
      have cs := wd_cell H8 (i := 3) (by omega)
      have cm := wd_cell H8 (i := 4) (by omega)
      refine ⟨_, q0, fun _ => ⟨_, rfl, _, cb, _, q1, ?_⟩, fun _ => ⟨fun _ => ⟨_, rfl, _, cb, _, q3, _, q1, ?_⟩, fun _ => ⟨fun _ => ⟨_, rfl, _, cb, _, q3, _, q1, _, q2, ?_⟩, fun _ => ⟨fun _ => ⟨_, rfl, _, cb, ?_⟩, fun _ => ⟨fun _ => ⟨_, rfl, _, cb, ?_⟩, fun _ => ⟨fun _ => ⟨_, rfl, _, cs, _, q3, _, q4, ?_⟩, fun _ => ⟨fun _ => ⟨_, rfl, _, cm, _, q1, _, q2, _, q4, ?_⟩, fun _ => ⟨fun _ => ⟨_, rfl, _, cm, _, q1, _, q2, ?_⟩, fun _ J20 hJ20 => ?_⟩⟩⟩⟩⟩⟩⟩⟩
      · exact bu_Take_ok ok (wd_bu H8) fun h9 ok' o' S => ⟨_, _, rfl, next b5 e h9 _ ok' (I8.step 1 (wd_lift' H8 o' S))⟩
      · exact bu_Give_ok op ok (wd_bu H8) fun h9 ok' o' S => ⟨_, rfl, next b5 e h9 _ ok' (I8.step 1 (wd_lift' H8 o' S))⟩
      · exact bu_Shrink_ok op ok (wd_bu H8) fun h9 ok' o' S => ⟨_, rfl, next b5 e h9 _ ok' (I8.step 1 (wd_lift' H8 o' S))⟩
      · exact bu_Feed_ok ok (wd_bu H8) fun h9 ok' o' S => ⟨_, rfl, next b5 e h9 _ ok' (I8.step 1 (wd_lift' H8 o' S))⟩
      · exact bu_Pull_ok ok (wd_bu H8) fun h9 ok' o' S => ⟨_, rfl, next b5 e h9 _ ok' (I8.step 1 (wd_lift' H8 o' S))⟩
      · exact setword_e ok op ov H8 fun v x' h9 ok' S => ⟨_, rfl, next b5 e h9 _ ok' (I8.step 1 S)⟩
      · exact run_e ok oa H8 fun v x' h9 ok' S => ⟨_, rfl, next b5 e h9 _ ok' (I8.step 1 S)⟩
      · exact flip_e ok H8 fun v v' x' h9 ok' S => ⟨_, _, rfl, next b5 e h9 _ ok' (I8.step 1 S)⟩
      have main : ∀ b : Bool, J20 [.slice (some ⟨b0, off, none⟩) n cp, .pointer (some ⟨Q1.wb, 0, none⟩), .int .i64 (i : Int), .pointer (some ⟨b5, 0, none⟩), .int .i64 e.o, .bool b] h8 := by
        intro b
        refine hJ20 _ _ _ _ _ _ _ _ _ ⟨fun _ => ⟨_, rfl, _, cb, _, q1, ?_⟩, fun _ => ⟨fun _ => ⟨_, rfl, _, cm, _, q1, _, q2, ?_⟩, fun _ => next b5 e h8 x ok I8⟩⟩
        · have heads : ∀ h9, Hold w.heap h9 [blkR b5 5 (f5 e), wdR c Q1 P r x] → ∃ a140 : Addr, (some (⟨Q1.wb, 0, none⟩ : Addr) : Option Addr) = some a140 ∧ (∃ n142 : Option Addr, cellAt h9 (a140.add 5) = some (.pointer n142) ∧ (CallV Try.prog w F.buddy_Buddy_Heads [.pointer n142] h9 fun v143 h143 => ∃ r143p : Option Addr, ∃ r143n : Nat, ∃ r143c : Nat, v143 = .slice r143p r143n r143c ∧ J9 [.slice (some ⟨b0, off, none⟩) n cp, .pointer (some ⟨Q1.wb, 0, none⟩), .int .i64 (i : Int)] h143)) := fun h9 I9 => by
            have H9 : (wdR c Q1 P r x).P h9 := I9.at 1
            have o8 := ok.m.o8
            exact ⟨_, rfl, _, wd_cell H9 (i := 5) (by omega), bu_Heads_ok (by omega) (bu_bop (wd_bu H9)) fun h10 p10 c10 _ N10 => ⟨_, _, _, rfl, next b5 e h10 x ok (I9.quiet N10.u)⟩⟩
          refine bu_Free_ok ok (wd_bu H8) (fun _ => ⟨_, _, _, rfl, heads h8 I8⟩) fun k' h9 p9 c9 _ _ S9 => ⟨_, _, _, rfl, heads h9 ?_⟩
          have S10 : Stp h8 h9 (wdR c Q1 P r x) (wdR c Q1 P r x) := (S9.right H8).conv (fun A => ⟨A.1, A.2.1.1, fun b e e' => A.2.2 b e (.inl e')⟩) fun b e => e.elim .inl fun e => .inr (.inl e)
          exact I8.step 1 S10
        · exact slab_e ok H8 fun v x' h9 ok' S => ⟨_, rfl, next b5 e h9 _ ok' (I8.step 1 S)⟩
      exact ⟨fun _ => main _, fun _ => main _⟩
  exact loop n 0 h4 x2 (by omega) ok2 I5
end Go.Proofs.Ytnlcmfdmbgnpfaa
