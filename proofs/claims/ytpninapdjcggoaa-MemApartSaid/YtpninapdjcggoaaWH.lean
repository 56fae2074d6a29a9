/- Chapter 2's law MemPlays. No condition. -/
import Derived.Test.YtpninapdjcggoaaWG
set_option linter.unusedSimpArgs false
set_option linter.unusedVariables false
namespace Go.Proofs.Ytpninapdjcggoaa
open Go.V Classical

theorem MemPlays_law {w : World} {a b d : Int} {p : Option Addr} {n cp : Nat} (ha : (Lit.int .u64 a).wf = true) (hb : (Lit.int .i64 b).wf = true) (hd : (Lit.int .i64 d).wf = true) (hs : Ops w.heap p n cp) :
    CallV Try.prog w F.croftlaw2_MemPlays [.agg #[.int .u64 a, .int .i64 b, .int .i64 d], .slice p n cp] w.heap fun v h' => v = .bool true ∧ Upd NoB w.heap h' := by
  have ha := u64_wf ha
  obtain ⟨o, g, hnc, hcp, hop, hok⟩ := hs
  refine croftlaw2_MemPlays.call ?_
  unfold croftlaw2_MemPlays.vc
  simp only [add_mk, Nat.zero_add]
  let cf : Nat → Value := fun j => (#[(.int .u64 a), (.int .i64 b), (.int .i64 d)] : Array Value).getD j undef
  let H1 : Heap := Array.push w.heap (.cells #[(.int .u64 a), (.int .i64 b), (.int .i64 d)] T.T_api_Config)
  have u1 : Upd NoB w.heap H1 := push_upd _ _ _
  have B1 : Blk H1 w.heap.size 3 cf := Blk.new _ _ _
  have c0 : ∀ {hx : Heap}, Blk hx w.heap.size 3 cf → cellAt hx ⟨w.heap.size, 0, none⟩ = some (.int .u64 a) := fun B => B.cell (i := 0) (by omega)
  have c1 : ∀ {hx : Heap}, Blk hx w.heap.size 3 cf → cellAt hx ⟨w.heap.size, 1, none⟩ = some (.int .i64 b) := fun B => B.cell (i := 1) (by omega)
  have c2 : ∀ {hx : Heap}, Blk hx w.heap.size 3 cf → cellAt hx ⟨w.heap.size, 2, none⟩ = some (.int .i64 d) := fun B => B.cell (i := 2) (by omega)
  have hH1 : w.heap.size < H1.size := B1.lt
  refine awake_ok fun h12 u12 => ⟨true, rfl, iF rfl ?_⟩
  have B12 := B1.upd u12 id
  refine ⟨_, c0 B12, _, c1 B12, _, c2 B12, ?_⟩
  refine mem_New_ok ha (fun hn h16 u16 => ⟨_, _, rfl, ?_⟩) fun gd h16 s u16 hs16 S16 => ⟨_, _, rfl, ?_⟩
  · have B16 := B12.upd u16 id
    refine ⟨_, c0 B16, _, c1 B16, _, c2 B16, ref2_May_ok ha fun h20 u20 => ⟨_, rfl, iT (by simp [hn]) ⟨rfl, ?_⟩⟩⟩
    exact ((u1.nx u12 fun _ e _ => e).nx u16 fun _ e _ => e).nx u20 fun _ e _ => e
  have B16 := B12.upd u16 id
  refine ⟨_, c0 B16, _, c1 B16, _, c2 B16, ref2_May_ok ha fun h20 u20 => ⟨_, rfl, iF (by simp [gd]) (iF rfl ?_)⟩⟩
  have B20 := B16.upd u20 id
  refine ⟨_, c0 B20, _, c1 B20, _, c2 B20, ref2_New_ok gd fun h27 u27 => ⟨_, _, _, _, _, _, rfl, ?_⟩⟩
  have B27 := B20.upd u27 id
  obtain ⟨w1, w2, w3, w4, w5, w6, w7⟩ := lay4 h27 (.int .u64 (Cfg.base ⟨a, b, d⟩)) (.int .u64 (Cfg.size ⟨a, b, d⟩ : Int)) (.int .i64 (Cfg.limit ⟨a, b, d⟩)) (.slice none (0 * Cfg.size ⟨a, b, d⟩) 0) (T := T.T_croftref2_Space) (a0 := .int .u64 0) (a1 := .int .u64 0) (a2 := .int .i64 0) (a3 := .slice none 0 0)
  refine ⟨w1, ?_⟩
  intro J8 k8 L hL
  let c : Cfg := ⟨a, b, d⟩
  have BT : Blk _ h27.size 4 (hpf c (0 * c.size) none 0) := ((Blk.new h27 #[(.int .u64 (0 : Int)), (.int .u64 (0 : Int)), (.int .i64 (0 : Int)), (.slice none 0 0)] T.T_croftref2_Space).sets [.int .u64 c.base, .int .u64 (c.size : Int), .int .i64 c.limit, .slice none (0 * c.size) 0] 0 0).congr fun j hj => by
    have : j < 4 := hj
    have : j = 0 ∨ j = 1 ∨ j = 2 ∨ j = 3 := by omega
    rcases this with rfl | rfl | rfl | rfl <;> rfl
  have u0C : Upd NoB w.heap _ := ((((u1.nx u12 fun _ e _ => e).nx u16 fun _ e _ => e).nx u20 fun _ e _ => e).nx u27 fun _ e _ => e).nx w2 fun _ e _ => e
  have s12 : w.heap.size < h12.size := B12.lt
  have ss : s < h16.size := S16.lt s rfl
  have s27 : h16.size ≤ h27.size := Nat.le_trans u20.1 u27.1
  have c0' : (0 * c.size) = 0 := Nat.zero_mul _
  have I0 : PI w.heap _ s h27.size w.heap.size cf c 0 (fun _ => 0) none 0 (fun x => x = s) NoB := {
    u := u0C
    d := ⟨((S16.upd u20 fun _ _ => id).upd u27 fun _ _ => id).upd w2 fun _ _ => id, { good := gd, nl := by have := gd.l1; show ((0 : Nat) : Int) ≤ b; dsimp only at this; omega, row := .inl c0', mc := Nat.le_of_eq c0', lt := fun b e => e.elim, by8 := fun x hx => by rw [c0'] at hx; omega }, fun _ _ e => e⟩
    ge := fun b e => e.elim (fun e => by rw [e]; omega) fun e => e.elim
    t := BT
    cfg := B27.upd w2 id
    nt := fun e => e.elim (fun e => by have e : h27.size = s := e; omega) id
    nc := fun e => e.elim (fun e => by have e : w.heap.size = s := e; omega) id
    tc := by omega
    tg := by omega
    cg := Nat.le_refl _ }
  have loop : ∀ (r i : Nat) (hx : Heap) (n' : Nat) (M' : Nat → Int) (mp' : Option Addr) (mc' : Nat) (Z Y : Nat → Prop), i + r = n → PI w.heap hx s h27.size w.heap.size cf c n' M' mp' mc' Z Y →
      L [.slice p n cp, .pointer (some ⟨w.heap.size, 0, none⟩), .pointer (some ⟨s, 0, none⟩), .pointer (some ⟨h27.size, 0, none⟩), .int .i64 (i : Int)] hx := by
    intro r
    induction r with
    | zero =>
      intro i hx n' M' mp' mc' Z Y hi I
      have : i = n := by omega
      subst this
      refine hL _ _ _ _ _ _ _ _ (iF (by simp) (k8 _ _ _ _ ?_))
      have hl := I.d.rs.len
      have hb0 := gd.b0
      have ew : IntKind.wrap .u64 ((n' * c.size : Nat) : Int) = (n' * c.size : Nat) := by rw [IntKind.wrap_u64]; omega
      have tt : There c n' a ((n' * c.size : Nat) : Int) := .inr ⟨Int.le_refl _, by show a - a + _ ≤ _; omega⟩
      refine ⟨_, c0 I.cfg, _, _, _, by rw [add_mk]; exact I.t.cell (i := 3) (by omega), ?_⟩
      rw [ew]
      refine mem_Read_ok ha (by omega) I.d.sp (fun _ h55 bb u55 hbb B55 => ⟨_, _, _, _, rfl, ?_⟩) fun t => absurd tt t
      have D55 := I.d.upd u55 (fun _ _ => id) fun _ _ => id
      have T55 := I.t.upd u55 id
      have u05 := I.u.nx u55 fun _ e _ => e
      have tb0 : (a - Cfg.base c).toNat = 0 := by show (a - a).toNat = 0; omega
      have tn : Int.toNat ((n' * c.size : Nat) : Int) = n' * c.size := by omega
      rw [tb0, tn] at B55
      rw [tn]
      intro J10 k10
      refine qT rfl ⟨_, _, _, by rw [add_mk]; exact T55.cell (i := 3) (by omega), ?_⟩
      refine Same_true (by omega) ((B55.row 0 (n' * c.size) (by omega)).congr fun i hi => by rw [Nat.zero_add]) D55.rs.rowR (fun i hi => by rw [Nat.zero_add]) ⟨_, rfl, k10 _ _ ?_⟩
      intro J11 k11
      refine qT rfl ⟨_, T55.cell (i := 0) (by omega), _, by rw [add_mk]; exact T55.cell (i := 1) (by omega), _, by rw [add_mk]; exact T55.cell (i := 2) (by omega), _, _, _, by rw [add_mk]; exact T55.cell (i := 3) (by omega), ?_⟩
      refine mem_End_ok D55.sp ⟨_, rfl, T55.cell (i := 0) (by omega), by rw [add_mk]; exact T55.cell (i := 1) (by omega), by rw [add_mk]; exact T55.cell (i := 2) (by omega), by rw [add_mk]; exact T55.cell (i := 3) (by omega), ?_⟩
      refine ref2_End_ok D55.rs fun h70 u70 => ⟨_, rfl, k11 _ _ ?_⟩
      have D70 := D55.upd u70 (fun _ _ => id) fun _ _ => id
      have T70 := T55.upd u70 id
      intro J12 k12
      refine qT (by simp) ⟨_, T70.cell (i := 0) (by omega), _, by rw [add_mk]; exact T70.cell (i := 1) (by omega), _, by rw [add_mk]; exact T70.cell (i := 2) (by omega), _, _, _, by rw [add_mk]; exact T70.cell (i := 3) (by omega), ?_⟩
      refine mem_Regions_ok D70.sp ⟨_, rfl, T70.cell (i := 0) (by omega), by rw [add_mk]; exact T70.cell (i := 1) (by omega), by rw [add_mk]; exact T70.cell (i := 2) (by omega), by rw [add_mk]; exact T70.cell (i := 3) (by omega), ?_⟩
      exact ref2_Regions_ok D70.rs fun h77 u77 => ⟨_, rfl, k12 _ _ ⟨by simp, (u05.nx u70 fun _ e _ => e).nx u77 fun _ e _ => e⟩⟩
    | succ r ih =>
      intro i hx n' M' mp' mc' Z Y hi I
      obtain ⟨ob, oo, rfl, hcell⟩ := hop.one (i := i) (by omega)
      have t1 : Int.toNat (i : Int) = i := by omega
      have e3 : IntKind.wrap .i64 ((i : Int) + 1) = ((i + 1 : Nat) : Int) := by rw [IntKind.wrap_i64]; omega
      have hlt : ∀ b, Z b ∨ Y b → b < hx.size := fun b e => e.elim (I.d.sp.lt b) (I.d.rs.lt b)
      have hge : ∀ b, (Z b ∨ Y b) → b < w.heap.size → NoB b := fun b e hb => absurd (I.ge b e) (by omega)
      refine hL _ _ _ _ _ _ _ _ (iT (by simp; omega) ?_)
      intro J19 k19
      refine ⟨_, I.t.cell (i := 0) (by omega), _, by rw [add_mk]; exact I.t.cell (i := 1) (by omega), _, by rw [add_mk]; exact I.t.cell (i := 2) (by omega), _, _, _, by rw [add_mk]; exact I.t.cell (i := 3) (by omega), ⟨ob, oo, none⟩, rfl, by omega, by omega, ?_⟩
      simp only [t1, add_mk]
      have q := (hcell hx I.u).2
      refine ⟨_, q 0 (by omega), _, q 1 (by omega), _, q 2 (by omega), _, q 3 (by omega), _, q 4 (by omega), _, q 5 (by omega), _, q 6 (by omega), _, q 7 (by omega), _, _, _, q 8 (by omega), ?_⟩
      -- behind both
      have both : ∀ (hz : Heap) (ub n2 : Nat) (M2 : Nat → Int) (mp2 : Option Addr) (mc2 : Nat) (Z2 Y2 : Nat → Prop), Upd (fun b => Z b ∨ Y b) hx hz → Duo hz s c n2 M2 mp2 mc2 Z2 Y2 → (∀ b, Z2 b → Z b ∨ hx.size ≤ b) → (∀ b, Y2 b → Y b ∨ hx.size ≤ b) →
          cellAt hz ⟨ub, 0, none⟩ = some (.int .u64 c.base) → cellAt hz ⟨ub, 1, none⟩ = some (.int .u64 (c.size : Int)) → cellAt hz ⟨ub, 2, none⟩ = some (.int .i64 c.limit) → cellAt hz ⟨ub, 3, none⟩ = some (.slice mp2 (n2 * c.size) mc2) →
          J19 [.slice (some ⟨ob, oo, none⟩) n cp, .pointer (some ⟨w.heap.size, 0, none⟩), .pointer (some ⟨s, 0, none⟩), .pointer (some ⟨h27.size, 0, none⟩), .int .i64 (i : Int), .pointer (some ⟨ub, 0, none⟩), .bool true] hz := by
        intro hz ub n2 M2 mp2 mc2 Z2 Y2 uz D2 gz gy x0 x1 x2 x3
        obtain ⟨r1, I2⟩ := I.next uz D2 gz gy
        refine k19 _ _ _ _ _ _ _ _ _ _ (iF rfl ⟨_, x0, _, by rw [add_mk]; exact x1, _, by rw [add_mk]; exact x2, _, _, _, by rw [add_mk]; exact x3, r1, ?_⟩)
        rw [e3]
        exact ih (i + 1) _ n2 M2 mp2 mc2 Z2 Y2 (by omega) I2
      refine ⟨?_, ?_⟩
      · refine played_ok (((hok i (by omega)).upd I.u fun _ e => e.elim).sub I.ge) I.d fun h41 n2 M2 mp2 mc2 Z2 Y2 u41 D41 gz gy => ⟨_, _, _, _, _, _, _, rfl, ?_⟩
        obtain ⟨x1, x2, x3, x4, x5, x6, x7⟩ := lay4 h41 (.int .u64 c.base) (.int .u64 (c.size : Int)) (.int .i64 c.limit) (.slice mp2 (n2 * c.size) mc2) (T := T.T_croftref2_Space) (a0 := .int .u64 0) (a1 := .int .u64 0) (a2 := .int .i64 0) (a3 := .slice none 0 0)
        have uP : Upd NoB h41 (Array.push h41 (.cells #[(.int .u64 (0 : Int)), (.int .u64 (0 : Int)), (.int .i64 (0 : Int)), (.slice none 0 0)] T.T_croftref2_Space)) := push_upd _ _ _
        have q2 := (hcell _ ((I.u.nx u41 hge).nx uP fun _ e _ => e)).2
        have TP := (I.t.upd u41 I.nt).upd uP id
        refine ⟨q2 0 (by omega), q2 1 (by omega), q2 2 (by omega), q2 3 (by omega), q2 4 (by omega), q2 5 (by omega), q2 6 (by omega), q2 7 (by omega), q2 8 (by omega), TP.cell (i := 0) (by omega), TP.cell (i := 1) (by omega), TP.cell (i := 2) (by omega), TP.cell (i := 3) (by omega), x1, ?_⟩
        exact both _ _ n2 M2 mp2 mc2 Z2 Y2 (Upd.trans u41 x2 (fun b e => e) (fun b e _ => e.elim)) (D41.upd x2 (fun _ _ => id) fun _ _ => id) gz gy x4 x5 x6 x7
      · let hP : Heap := Array.push hx (.cells #[(.int .u64 (0 : Int)), (.int .u64 (0 : Int)), (.int .i64 (0 : Int)), (.slice none 0 0)] T.T_croftref2_Space)
        have uP : Upd NoB hx hP := push_upd _ _ _
        have sP : hP.size = hx.size + 1 := by simp [hP]
        have BU : Blk hP hx.size 4 (fun j => (#[(.int .u64 (0 : Int)), (.int .u64 (0 : Int)), (.int .i64 (0 : Int)), (.slice none 0 0)] : Array Value).getD j undef) := Blk.new hx _ _
        have q2 := (hcell _ (I.u.nx uP fun _ e _ => e)).2
        have TP := I.t.upd uP id
        have DP := I.d.upd uP (fun _ _ => id) fun _ _ => id
        refine ⟨q2 0 (by omega), q2 1 (by omega), q2 2 (by omega), q2 3 (by omega), q2 4 (by omega), q2 5 (by omega), q2 6 (by omega), q2 7 (by omega), q2 8 (by omega), TP.cell (i := 0) (by omega), TP.cell (i := 1) (by omega), TP.cell (i := 2) (by omega), TP.cell (i := 3) (by omega), ?_⟩
        refine played_ok (((hok i (by omega)).upd (I.u.nx uP fun _ e _ => e) fun _ e => e.elim).sub I.ge) DP fun h41 n2 M2 mp2 mc2 Z2 Y2 u41 D41 gz gy => ⟨_, _, _, _, _, _, _, rfl, ?_⟩
        obtain ⟨x1, x4, x5, x6, x7, x2⟩ := res4 (BU.upd u41 fun e => by have := hlt _ e; omega) (.int .u64 c.base) (.int .u64 (c.size : Int)) (.int .i64 c.limit) (.slice mp2 (n2 * c.size) mc2)
        refine ⟨x1, ?_⟩
        have gz' : ∀ b, Z2 b → Z b ∨ hx.size + 1 ≤ b := fun b e => (gz b e).imp id fun e => by have e : hP.size ≤ b := e; omega
        have gy' : ∀ b, Y2 b → Y b ∨ hx.size + 1 ≤ b := fun b e => (gy b e).imp id fun e => by have e : hP.size ≤ b := e; omega
        refine both _ _ n2 M2 mp2 mc2 Z2 Y2 (Upd.trans (Upd.trans uP u41 (S'' := fun b => Z b ∨ Y b) (fun b e => e.elim) (fun b e _ => e)) x2 (fun b e => e) (fun b e hb => by omega)) (D41.upd x2 (fun b hb e => ?_) (fun b hb e => ?_)) (fun b e => (gz' b e).imp id fun e => by omega) (fun b e => (gy' b e).imp id fun e => by omega) x4 x5 x6 x7
        · rcases gz' b hb with e' | e'
          · have := hlt b (.inl e'); omega
          · omega
        · rcases gy' b hb with e' | e'
          · have := hlt b (.inr e'); omega
          · omega
  exact loop n 0 _ 0 _ none 0 _ _ (by omega) I0

end Go.Proofs.Ytpninapdjcggoaa
