/- Chapter 2's law MemApart. No condition. -/
import Derived.Test.YtpninapdjcggoaaWJ
set_option linter.unusedSimpArgs false
set_option linter.unusedVariables false
namespace Go.Proofs.Ytpninapdjcggoaa
open Go.V Classical

/-- What a pair of spaces is. -/
structure PS where
  n : Nat
  M : Nat → Int
  mp : Option Addr
  mc : Nat
  Z : Nat → Prop
  Y : Nat → Prop

/-- The program's space and the document's own. -/
def duoR (s : Nat) (c : Cfg) (q : PS) : Res := ⟨fun b => q.Z b ∨ q.Y b, fun h => Duo h s c q.n q.M q.mp q.mc q.Z q.Y, fun H hu hs => H.upd hu (fun b e => hs b (.inl e)) (fun b e => hs b (.inr e)),
  fun H b e => e.elim (H.sp.lt b) (H.rs.lt b)⟩

/-- The document's space as a variable holds it. -/
def vbR (b : Nat) (c : Cfg) (q : PS) : Res := blkR b 4 (hpf c (q.n * c.size) q.mp q.mc)

abbrev opCells (h : Heap) (b k : Nat) (o : OpV) (X : Prop) : Prop :=
  cellAt h ⟨b, k, none⟩ = some (.int .i64 o.kind) ∧ cellAt h ⟨b, k + 1, none⟩ = some (.int .u64 o.P) ∧ cellAt h ⟨b, k + 2, none⟩ = some (.int .u64 o.Q) ∧ cellAt h ⟨b, k + 3, none⟩ = some (.int .u64 o.N) ∧ cellAt h ⟨b, k + 4, none⟩ = some (.bool o.A) ∧
    cellAt h ⟨b, k + 5, none⟩ = some (.int .u64 o.V) ∧ cellAt h ⟨b, k + 6, none⟩ = some (.bool o.deny) ∧ cellAt h ⟨b, k + 7, none⟩ = some (.int .i64 o.count) ∧ cellAt h ⟨b, k + 8, none⟩ = some (.slice o.dp o.dn o.dc) ∧ X

abbrev tCells (h : Heap) (b : Nat) (c : Cfg) (q : PS) (X : Prop) : Prop :=
  cellAt h ⟨b, 0, none⟩ = some (.int .u64 c.base) ∧ cellAt h ⟨b, 1, none⟩ = some (.int .u64 (c.size : Int)) ∧ cellAt h ⟨b, 2, none⟩ = some (.int .i64 c.limit) ∧ cellAt h ⟨b, 3, none⟩ = some (.slice q.mp (q.n * c.size) q.mc) ∧ X

abbrev tBox : Obj := .cells #[(.int .u64 (0 : Int)), (.int .u64 (0 : Int)), (.int .i64 (0 : Int)), (.slice none 0 0)] T.T_croftref2_Space (0, 0)

section
variable {w₀ : World} {h0 hx : Heap} {rs : List Res} {s tb ob k : Nat} {c : Cfg} {q : PS} {o : OpV} {g : Nat → Int} {J : Addr → Bool → Heap → Prop}

theorem vb_set {h : Heap} {b : Nat} {c : Cfg} {q q' : PS} (H : (vbR b c q).P h) : WrN h ⟨b, 0, none⟩ 4 ∧ Stp h (setCs h ⟨b, 0, none⟩ 0 [.int .u64 c.base, .int .u64 (c.size : Int), .int .i64 c.limit, .slice q'.mp (q'.n * c.size) q'.mc]) (vbR b c q) (vbR b c q') := by
  have B : Blk h b 4 (hpf c (q.n * c.size) q.mp q.mc) := H
  refine ⟨fun j hj => by rw [add_mk]; exact B.wr (by omega), Stp.sets B _ 0 0 fun j hj => ?_⟩
  have : j = 0 ∨ j = 1 ∨ j = 2 ∨ j = 3 := by omega
  rcases this with rfl | rfl | rfl | rfl <;> rfl

theorem vb_lay {h0 h : Heap} {rs : List Res} (H : Hold h0 h rs) (c : Cfg) (q : PS) : WrN (h.push tBox) ⟨h.size, 0, none⟩ 4 ∧
    Hold h0 (setCs (h.push tBox) ⟨h.size, 0, none⟩ 0 [.int .u64 c.base, .int .u64 (c.size : Int), .int .i64 c.limit, .slice q.mp (q.n * c.size) q.mc]) (vbR h.size c q :: rs) := by
  have HB := H.box #[(.int .u64 (0 : Int)), (.int .u64 (0 : Int)), (.int .i64 (0 : Int)), (.slice none 0 0)] T.T_croftref2_Space
  have B : Blk (h.push tBox) h.size 4 _ := HB.at 0
  refine ⟨fun j hj => by rw [add_mk]; exact B.wr (by omega), HB.step 0 (Stp.sets B _ 0 0 fun j hj => ?_)⟩
  have : j = 0 ∨ j = 1 ∨ j = 2 ∨ j = 3 := by omega
  rcases this with rfl | rfl | rfl | rfl <;> rfl

theorem tCells_of {h : Heap} {b : Nat} {c : Cfg} {q : PS} {X : Prop} (H : (vbR b c q).P h) (x : X) : tCells h b c q X := by
  have B : Blk h b 4 (hpf c (q.n * c.size) q.mp q.mc) := H
  exact ⟨B.cell (i := 0) (by omega), B.cell (i := 1) (by omega), B.cell (i := 2) (by omega), B.cell (i := 3) (by omega), x⟩

theorem opCells_of {h : Heap} {b k : Nat} {o : OpV} {X : Prop} (H : ∀ j, j < 9 → cellAt h ⟨b, k + j, none⟩ = some (opf o j)) (x : X) : opCells h b k o X :=
  ⟨H 0 (by omega), H 1 (by omega), H 2 (by omega), H 3 (by omega), H 4 (by omega), H 5 (by omega), H 6 (by omega), H 7 (by omega), H 8 (by omega), x⟩

theorem duo_g {s s' : Nat} {c c' : Cfg} {q q' : PS} {hx : Heap} (gz : ∀ b, q'.Z b → q.Z b ∨ hx.size ≤ b) (gy : ∀ b, q'.Y b → q.Y b ∨ hx.size ≤ b) : ∀ b, (duoR s' c' q').fp b → (duoR s c q).fp b ∨ hx.size ≤ b := by
  rintro b (e | e)
  · exact (gz b e).imp (fun x => Or.inl x) id
  · exact (gy b e).imp (fun x => Or.inr x) id

/-- A call done on both, its answer laid ahead of it or behind. -/
theorem two_ways (i j : Nat) (hi : rs[i]? = some (duoR s c q)) (hj : rs[j]? = some (vbR tb c q)) (hij : i ≠ j) (I : Hold h0 hx rs) (ho : o.Ok h0 g (fun b => h0.size ≤ b))
    (hcell : ∀ h' : Heap, Upd NoB h0 h' → ∀ j, j < 9 → cellAt h' ⟨ob, k + j, none⟩ = some (opf o j))
    (hJ : ∀ (ub : Nat) (hz : Heap) (q' : PS), Hold h0 hz (vbR ub c q' :: rs.set i (duoR s c q')) → J ⟨ub, 0, none⟩ true hz) :
    (CallV Try.prog w₀ F.croftlaw2_played [.pointer (some ⟨s, 0, none⟩), rsv c q.n q.mp q.mc, opv o] hx fun v h => ∃ r0 : Int, ∃ r1 : Int, ∃ r2 : Int, ∃ rp : Option Addr, ∃ rn : Nat, ∃ rc : Nat, ∃ t : Bool, v = .tuple #[.agg #[.int .u64 r0, .int .u64 r1, .int .i64 r2, .slice rp rn rc], .bool t] ∧
      opCells (h.push tBox) ob k o (tCells (h.push tBox) tb c q (WrN (h.push tBox) ⟨h.size, 0, none⟩ 4 ∧ J ⟨h.size, 0, none⟩ t (setCs (h.push tBox) ⟨h.size, 0, none⟩ 0 [.int .u64 r0, .int .u64 r1, .int .i64 r2, .slice rp rn rc])))) ∧
    (opCells (hx.push tBox) ob k o (tCells (hx.push tBox) tb c q (CallV Try.prog w₀ F.croftlaw2_played [.pointer (some ⟨s, 0, none⟩), rsv c q.n q.mp q.mc, opv o] (hx.push tBox) fun v h => ∃ r0 : Int, ∃ r1 : Int, ∃ r2 : Int, ∃ rp : Option Addr, ∃ rn : Nat, ∃ rc : Nat, ∃ t : Bool, v = .tuple #[.agg #[.int .u64 r0, .int .u64 r1, .int .i64 r2, .slice rp rn rc], .bool t] ∧
      WrN h ⟨hx.size, 0, none⟩ 4 ∧ J ⟨hx.size, 0, none⟩ t (setCs h ⟨hx.size, 0, none⟩ 0 [.int .u64 r0, .int .u64 r1, .int .i64 r2, .slice rp rn rc])))) := by
  have hmem : duoR s c q ∈ rs := List.mem_of_getElem? hi
  refine ⟨?_, ?_⟩
  · refine played_ok ((ho.upd I.u fun _ e => e.elim).sub fun b e => I.ge _ hmem b e) (I.at i hi) fun h41 n2 M2 mp2 mc2 Z2 Y2 u41 D41 gz gy => ⟨_, _, _, _, _, _, _, rfl, ?_⟩
    have I2 := I.step i (R' := duoR s c ⟨n2, M2, mp2, mc2, Z2, Y2⟩) ⟨u41, D41, duo_g gz gy⟩ hi
    obtain ⟨x1, I3⟩ := vb_lay I2 c ⟨n2, M2, mp2, mc2, Z2, Y2⟩
    have uP : Upd NoB h41 (h41.push tBox) := push_upd _ _ _
    have hj2 : (rs.set i (duoR s c ⟨n2, M2, mp2, mc2, Z2, Y2⟩))[j]? = some (vbR tb c q) := by rw [List.getElem?_set_ne hij]; exact hj
    refine opCells_of (hcell _ (I2.u.nx uP fun _ e _ => e)) (tCells_of ((I2.quiet uP).at j hj2) ⟨x1, hJ _ _ _ I3⟩)
  · have IB := I.box #[(.int .u64 (0 : Int)), (.int .u64 (0 : Int)), (.int .i64 (0 : Int)), (.slice none 0 0)] T.T_croftref2_Space
    refine opCells_of (hcell _ IB.u) (tCells_of (IB.at (j + 1) (by rw [List.getElem?_cons_succ]; exact hj)) ?_)
    refine played_ok ((ho.upd IB.u fun _ e => e.elim).sub fun b e => I.ge _ hmem b e) (IB.at (i + 1) (by rw [List.getElem?_cons_succ]; exact hi)) fun h41 n2 M2 mp2 mc2 Z2 Y2 u41 D41 gz gy => ⟨_, _, _, _, _, _, _, rfl, ?_⟩
    have I2 := IB.step (i + 1) (R := duoR s c q) (R' := duoR s c ⟨n2, M2, mp2, mc2, Z2, Y2⟩) ⟨u41, D41, duo_g gz gy⟩ (by rw [List.getElem?_cons_succ]; exact hi)
    rw [List.set_cons_succ] at I2
    have B : Blk h41 hx.size 4 _ := I2.at 0
    refine ⟨fun j hj => by rw [add_mk]; exact B.wr (by omega), hJ _ _ ⟨n2, M2, mp2, mc2, Z2, Y2⟩ (I2.step 0 (R' := vbR hx.size c ⟨n2, M2, mp2, mc2, Z2, Y2⟩) (Stp.sets B _ 0 0 fun j hj => ?_))⟩
    have : j = 0 ∨ j = 1 ∨ j = 2 ∨ j = 3 := by omega
    rcases this with rfl | rfl | rfl | rfl <;> rfl

end

theorem duo_new {hx : Heap} {s : Nat} {c : Cfg} (gd : c.Good) (S : Sp hx s c 0 (fun _ => 0) (fun x => x = s)) : (duoR s c ⟨0, fun _ => 0, none, 0, fun x => x = s, NoB⟩).P hx := by
  have c0' : (0 * c.size) = 0 := Nat.zero_mul _
  exact ⟨S, { good := gd, nl := by have := gd.l1; show ((0 : Nat) : Int) ≤ c.limit; omega, row := .inl c0', mc := Nat.le_of_eq c0', lt := fun b e => e.elim, by8 := fun x hx => by rw [c0'] at hx; omega }, fun _ _ e => e⟩

set_option maxHeartbeats 2000000 in
theorem MemApart_law {w : World} {a b d : Int} {p : Option Addr} {n cp : Nat} {p' : Option Addr} {m cp' : Nat} (ha : (Lit.int .u64 a).wf = true) (hb : (Lit.int .i64 b).wf = true) (hd : (Lit.int .i64 d).wf = true) (hs : Ops w.heap p n cp) (hs' : Ops w.heap p' m cp') :
    CallV Try.prog w F.croftlaw2_MemApart [.agg #[.int .u64 a, .int .i64 b, .int .i64 d], .slice p n cp, .slice p' m cp'] w.heap fun v h' => v = .bool true ∧ Upd NoB w.heap h' := by
  have ha := u64_wf ha
  obtain ⟨o, g, hnc, hcp, hop, hok⟩ := hs
  obtain ⟨o', g', hnc', hcp', hop', hok'⟩ := hs'
  refine croftlaw2_MemApart.call ?_
  unfold croftlaw2_MemApart.vc
  simp only [add_mk, Nat.zero_add]
  have A1 := (Hold.nil w.heap).box #[(.int .u64 a), (.int .i64 b), (.int .i64 d)] T.T_api_Config
  refine awake_ok fun h12 u12 => ⟨true, rfl, iF rfl ?_⟩
  have A12 := A1.quiet u12
  have B12 : Blk h12 w.heap.size 3 (cff a b d) := A12.at 0
  refine ⟨_, B12.cell (i := 0) (by omega), _, B12.cell (i := 1) (by omega), _, B12.cell (i := 2) (by omega), ?_⟩
  refine mem_New_ok ha (fun hn h16 u16 => ⟨_, _, rfl, ?_⟩) fun gd h16 s u16 hs16 S16 => ⟨_, _, rfl, ?_⟩
  · have A16 := A12.quiet u16
    have B16 : Blk h16 w.heap.size 3 (cff a b d) := A16.at 0
    refine ⟨_, B16.cell (i := 0) (by omega), _, B16.cell (i := 1) (by omega), _, B16.cell (i := 2) (by omega), ?_⟩
    refine mem_New_ok ha (fun hn h17 u17 => ⟨_, _, rfl, ?_⟩) fun gd => absurd gd hn
    have A17 := A16.quiet u17
    have B17 : Blk h17 w.heap.size 3 (cff a b d) := A17.at 0
    intro J5 k5
    refine pT (by simp) (k5 _ _ (iT rfl ?_))
    intro J6 k6
    refine qT (by simp) (k6 _ _ ?_)
    intro J7 k7
    refine qT (by simp) ⟨_, B17.cell (i := 0) (by omega), _, B17.cell (i := 1) (by omega), _, B17.cell (i := 2) (by omega), ref2_May_ok ha fun h20 u20 => ⟨_, rfl, k7 _ _ ⟨by simp [hn], (A17.quiet u20).u⟩⟩⟩
  have A16 := A12.add (R := spR s ⟨a, b, d⟩ 0 (fun _ => 0) (fun x => x = s)) u16 S16 fun b e => by have e : b = s := e; rw [e]; exact hs16
  have B16 : Blk h16 w.heap.size 3 (cff a b d) := A16.at 1
  refine ⟨_, B16.cell (i := 0) (by omega), _, B16.cell (i := 1) (by omega), _, B16.cell (i := 2) (by omega), ?_⟩
  refine mem_New_ok ha (fun hn => absurd gd hn) fun _ h17 s' u17 hs17 S17 => ⟨_, _, rfl, ?_⟩
  have A17 := A16.add (R := spR s' ⟨a, b, d⟩ 0 (fun _ => 0) (fun x => x = s')) u17 S17 fun b e => by have e : b = s' := e; rw [e]; exact hs17
  have B17 : Blk h17 w.heap.size 3 (cff a b d) := A17.at 2
  intro J5 k5
  refine pF (by simp) (k5 _ _ (iF (by simp) ?_))
  let c : Cfg := ⟨a, b, d⟩
  refine ⟨_, B17.cell (i := 0) (by omega), _, B17.cell (i := 1) (by omega), _, B17.cell (i := 2) (by omega), ref2_New_ok gd fun h27 u27 => ⟨_, _, _, _, _, _, rfl, ?_⟩⟩
  have A27 := A17.quiet u27
  have A27 : Hold w.heap h27 [duoR s' c ⟨0, fun _ => 0, none, 0, fun x => x = s', NoB⟩, spR s ⟨a, b, d⟩ 0 (fun _ => 0) (fun x => x = s), _] := A27.as 0 (R' := duoR s' c ⟨0, fun _ => 0, none, 0, fun x => x = s', NoB⟩) (fun S => duo_new gd S) fun b e => e.elim id fun e => e.elim
  have A27 : Hold w.heap h27 [duoR s' c ⟨0, fun _ => 0, none, 0, fun x => x = s', NoB⟩, duoR s c ⟨0, fun _ => 0, none, 0, fun x => x = s, NoB⟩, blkR w.heap.size 3 (cff a b d)] := A27.as 1 (R' := duoR s c ⟨0, fun _ => 0, none, 0, fun x => x = s, NoB⟩) (fun S => duo_new gd S) fun b e => e.elim id fun e => e.elim
  obtain ⟨w1, A28⟩ := vb_lay A27 c ⟨0, fun _ => 0, none, 0, fun x => x = s, NoB⟩
  refine ⟨w1, ?_⟩
  have B28 : Blk _ w.heap.size 3 (cff a b d) := A28.at 3
  refine ⟨_, B28.cell (i := 0) (by omega), _, B28.cell (i := 1) (by omega), _, B28.cell (i := 2) (by omega), ref2_New_ok gd fun h37 u37 => ⟨_, _, _, _, _, _, rfl, ?_⟩⟩
  have A37 := A28.quiet u37
  obtain ⟨w2, A38⟩ := vb_lay A37 c ⟨0, fun _ => 0, none, 0, fun x => x = s', NoB⟩
  refine ⟨w2, ?_⟩
  intro J15 k15 L hL
  have loop : ∀ (r i : Nat) (hx : Heap) (q q' : PS) (tb tb' : Nat), i + r = max n m → Hold w.heap hx [vbR tb' c q', vbR tb c q, duoR s' c q', duoR s c q, blkR w.heap.size 3 (cff a b d)] →
      L [.slice p n cp, .slice p' m cp', .pointer (some ⟨w.heap.size, 0, none⟩), .pointer (some ⟨s, 0, none⟩), .pointer (some ⟨s', 0, none⟩), .pointer (some ⟨tb, 0, none⟩), .pointer (some ⟨tb', 0, none⟩), .int .i64 (i : Int)] hx := by
    intro r
    induction r with
    | zero =>
      intro i hx q q' tb tb' hi I
      refine hL _ _ _ _ _ _ _ _ _ _ _ _ _ ?_
      intro J24 k24
      refine pF (by simp; omega) (k24 _ _ (iF (by simp; omega) (k15 _ _ _ _ _ _ ?_)))
      have D : Duo hx s c q.n q.M q.mp q.mc q.Z q.Y := I.at 3
      have D' : Duo hx s' c q'.n q'.M q'.mp q'.mc q'.Z q'.Y := I.at 2
      have Cf : Blk hx w.heap.size 3 (cff a b d) := I.at 4
      have V : Blk hx tb 4 (hpf c (q.n * c.size) q.mp q.mc) := I.at 1
      have hl := D.rs.len
      have hl' := D'.rs.len
      have hb0 := gd.b0
      have ew : ∀ k : Nat, (k : Int) ≤ 9223372036854775808 → IntKind.wrap .u64 (k : Int) = k := fun k hk => by rw [IntKind.wrap_u64]; omega
      have ew1 := ew (q.n * c.size) (by omega)
      have ew2 := ew (q'.n * c.size) (by omega)
      have tt : There c q.n a ((q.n * c.size : Nat) : Int) := .inr ⟨Int.le_refl _, by show a - a + _ ≤ _; omega⟩
      have tt' : There c q'.n a ((q'.n * c.size : Nat) : Int) := .inr ⟨Int.le_refl _, by show a - a + _ ≤ _; omega⟩
      have tb0 : (a - Cfg.base c).toNat = 0 := by show (a - a).toNat = 0; omega
      refine ⟨_, Cf.cell (i := 0) (by omega), _, _, _, V.cell (i := 3) (by omega), ?_⟩
      rw [ew1]
      refine mem_Read_ok ha (by omega) D.sp (fun _ h55 bb u55 hbb B55 => ⟨_, _, _, _, rfl, ?_⟩) fun t => absurd tt t
      rw [tb0, Int.toNat_natCast] at B55
      rw [Int.toNat_natCast]
      have I2 := I.add (R := blkR bb (q.n * c.size) (fun j => .int .u8 (q.M (0 + j)))) u55 B55 fun b e => by have e : b = bb := e; omega
      have V2 : Blk h55 tb' 4 (hpf c (q'.n * c.size) q'.mp q'.mc) := I2.at 1
      have Cf2 : Blk h55 w.heap.size 3 (cff a b d) := I2.at 5
      have D2' : Duo h55 s' c q'.n q'.M q'.mp q'.mc q'.Z q'.Y := I2.at 3
      refine ⟨_, Cf2.cell (i := 0) (by omega), _, _, _, V2.cell (i := 3) (by omega), ?_⟩
      rw [ew2]
      refine mem_Read_ok ha (by omega) D2'.sp (fun _ h56 cc u56 hcc B56 => ⟨_, _, _, _, rfl, ?_⟩) fun t => absurd tt' t
      rw [tb0, Int.toNat_natCast] at B56
      rw [Int.toNat_natCast]
      have I3 := I2.add (R := blkR cc (q'.n * c.size) (fun j => .int .u8 (q'.M (0 + j)))) u56 B56 fun b e => by have e : b = cc := e; omega
      have V3 : Blk h56 tb' 4 (hpf c (q'.n * c.size) q'.mp q'.mc) := I3.at 2
      have V4 : Blk h56 tb 4 (hpf c (q.n * c.size) q.mp q.mc) := I3.at 3
      have P3 : Blk h56 bb (q.n * c.size) (fun j => .int .u8 (q.M (0 + j))) := I3.at 1
      have D3 : Duo h56 s c q.n q.M q.mp q.mc q.Z q.Y := I3.at 5
      have D3' : Duo h56 s' c q'.n q'.M q'.mp q'.mc q'.Z q'.Y := I3.at 4
      intro J18 k18
      refine qT (by simp) (k18 _ _ ?_)
      intro J19 k19
      refine qT (by simp) ⟨_, _, _, V4.cell (i := 3) (by omega), ?_⟩
      refine Same_true (by omega) ((P3.row 0 _ (by omega)).congr fun i hi => by rw [Nat.zero_add]) D3.rs.rowR (fun i hi => by rw [Nat.zero_add]) ⟨_, rfl, k19 _ _ ?_⟩
      intro J20 k20
      refine qT rfl ⟨_, _, _, V3.cell (i := 3) (by omega), ?_⟩
      exact Same_true (by omega) ((B56.row 0 _ (by omega)).congr fun i hi => by rw [Nat.zero_add]) D3'.rs.rowR (fun i hi => by rw [Nat.zero_add]) ⟨_, rfl, k20 _ _ ⟨rfl, I3.u⟩⟩
    | succ r ih =>
      intro i hx q q' tb tb' hi I
      have t1 : Int.toNat (i : Int) = i := by omega
      have e3 : IntKind.wrap .i64 ((i : Int) + 1) = ((i + 1 : Nat) : Int) := by rw [IntKind.wrap_i64]; omega
      refine hL _ _ _ _ _ _ _ _ _ _ _ _ _ ?_
      intro J24 k24
      have body : ∀ h62 : Heap, h62 = hx → J24 true h62 := fun h62 e62 => by
        subst e62
        refine k24 _ _ (iT rfl ?_)
        intro J25 k25 J26 k26
        -- the second half
        have second : ∀ (hy : Heap) (q1 : PS), Hold w.heap hy [vbR tb' c q', vbR tb c q1, duoR s' c q', duoR s c q1, blkR w.heap.size 3 (cff a b d)] →
            J26 [.slice p n cp, .slice p' m cp', .pointer (some ⟨w.heap.size, 0, none⟩), .pointer (some ⟨s, 0, none⟩), .pointer (some ⟨s', 0, none⟩), .pointer (some ⟨tb, 0, none⟩), .pointer (some ⟨tb', 0, none⟩), .int .i64 (i : Int)] hy := by
          intro hy q1 I1
          have fin : ∀ (hz : Heap) (q2 : PS), Hold w.heap hz [vbR tb' c q2, vbR tb c q1, duoR s' c q2, duoR s c q1, blkR w.heap.size 3 (cff a b d)] →
              J25 [.slice p n cp, .slice p' m cp', .pointer (some ⟨w.heap.size, 0, none⟩), .pointer (some ⟨s, 0, none⟩), .pointer (some ⟨s', 0, none⟩), .pointer (some ⟨tb, 0, none⟩), .pointer (some ⟨tb', 0, none⟩), .int .i64 (i : Int)] hz := fun hz q2 I2 =>
            k25 _ _ _ _ _ _ _ _ _ _ _ _ _ (by rw [e3]; exact ih (i + 1) hz q1 q2 tb tb' (by omega) I2)
          refine k26 _ _ _ _ _ _ _ _ _ _ _ _ _ ⟨fun hlt => ?_, fun hlt => fin _ _ I1⟩
          simp at hlt
          obtain ⟨ob, oo, rfl, hcell⟩ := hop'.one (i := i) (by omega)
          intro J27 k27
          have V : Blk hy tb' 4 (hpf c (q'.n * c.size) q'.mp q'.mc) := I1.at 0
          simp only [add_mk, Nat.zero_add]
          refine ⟨_, V.cell (i := 0) (by omega), _, V.cell (i := 1) (by omega), _, V.cell (i := 2) (by omega), _, _, _, V.cell (i := 3) (by omega), ⟨ob, oo, none⟩, rfl, by omega, by omega, ?_⟩
          simp only [t1, add_mk]
          have qq := (hcell hy I1.u).2
          refine ⟨_, qq 0 (by omega), _, qq 1 (by omega), _, qq 2 (by omega), _, qq 3 (by omega), _, qq 4 (by omega), _, qq 5 (by omega), _, qq 6 (by omega), _, qq 7 (by omega), _, _, _, qq 8 (by omega), ?_⟩
          refine two_ways (s := s') (tb := tb') (c := c) (q := q') (o := o' i) (g := g' i) (J := fun ub t hz => J27 [.slice p n cp, .slice (some ⟨ob, oo, none⟩) m cp', .pointer (some ⟨w.heap.size, 0, none⟩), .pointer (some ⟨s, 0, none⟩), .pointer (some ⟨s', 0, none⟩), .pointer (some ⟨tb, 0, none⟩), .pointer (some ⟨tb', 0, none⟩), .int .i64 (i : Int), .pointer (some ub), .bool t] hz)
            2 0 rfl rfl (by decide) I1 (hok' i (by omega)) (fun h' u j hj => (hcell h' u).2 j hj) fun ub hz q2 I2 => k27 _ _ _ _ _ _ _ _ _ _ _ _ _ _ _ (iF rfl ?_)
          have U : Blk hz ub 4 (hpf c (q2.n * c.size) q2.mp q2.mc) := I2.at 0
          simp only [add_mk, Nat.zero_add]
          refine ⟨_, U.cell (i := 0) (by omega), _, U.cell (i := 1) (by omega), _, U.cell (i := 2) (by omega), _, _, _, U.cell (i := 3) (by omega), ?_⟩
          obtain ⟨w3, A3⟩ := vb_set (q' := q2) (I2.at 1)
          exact ⟨w3, fin _ q2 (I2.step 1 A3).drop⟩
        refine ⟨fun hlt => ?_, fun hlt => second _ _ I⟩
        simp at hlt
        obtain ⟨ob, oo, rfl, hcell⟩ := hop.one (i := i) (by omega)
        intro J35 k35
        have V : Blk h62 tb 4 (hpf c (q.n * c.size) q.mp q.mc) := I.at 1
        simp only [add_mk, Nat.zero_add]
        refine ⟨_, V.cell (i := 0) (by omega), _, V.cell (i := 1) (by omega), _, V.cell (i := 2) (by omega), _, _, _, V.cell (i := 3) (by omega), ⟨ob, oo, none⟩, rfl, by omega, by omega, ?_⟩
        simp only [t1, add_mk]
        have qq := (hcell h62 I.u).2
        refine ⟨_, qq 0 (by omega), _, qq 1 (by omega), _, qq 2 (by omega), _, qq 3 (by omega), _, qq 4 (by omega), _, qq 5 (by omega), _, qq 6 (by omega), _, qq 7 (by omega), _, _, _, qq 8 (by omega), ?_⟩
        refine two_ways (s := s) (tb := tb) (c := c) (q := q) (o := o i) (g := g i) (J := fun ub t hz => J35 [.slice (some ⟨ob, oo, none⟩) n cp, .slice p' m cp', .pointer (some ⟨w.heap.size, 0, none⟩), .pointer (some ⟨s, 0, none⟩), .pointer (some ⟨s', 0, none⟩), .pointer (some ⟨tb, 0, none⟩), .pointer (some ⟨tb', 0, none⟩), .int .i64 (i : Int), .pointer (some ub), .bool t] hz)
          3 1 rfl rfl (by decide) I (hok i (by omega)) (fun h' u j hj => (hcell h' u).2 j hj) fun ub hz q2 I2 => k35 _ _ _ _ _ _ _ _ _ _ _ _ _ _ _ (iF rfl ?_)
        have U : Blk hz ub 4 (hpf c (q2.n * c.size) q2.mp q2.mc) := I2.at 0
        simp only [add_mk, Nat.zero_add]
        refine ⟨_, U.cell (i := 0) (by omega), _, U.cell (i := 1) (by omega), _, U.cell (i := 2) (by omega), _, _, _, U.cell (i := 3) (by omega), ?_⟩
        obtain ⟨w3, A3⟩ := vb_set (q' := q2) (I2.at 2)
        exact ⟨w3, second _ q2 (I2.step 2 A3).drop⟩
      by_cases h1 : i < n
      · exact ⟨fun e => by simp at e; omega, fun _ => body _ rfl⟩
      · refine ⟨fun _ => ?_, fun e => by simp at e; omega⟩
        have e : decide ((i : Int) < ((m : Nat) : Int)) = true := by simp; omega
        rw [e]
        exact body _ rfl
  exact loop (max n m) 0 _ ⟨0, fun _ => 0, none, 0, fun x => x = s, NoB⟩ ⟨0, fun _ => 0, none, 0, fun x => x = s', NoB⟩ _ _ (by omega) (A38.perm (by
    refine .cons _ (.cons _ (.cons _ (.cons _ (.cons _ .nil)))))) 

end Go.Proofs.Ytpninapdjcggoaa
