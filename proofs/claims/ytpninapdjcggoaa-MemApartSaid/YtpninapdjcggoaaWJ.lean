/- Chapter 2's law MemRefused. No condition. -/
import Derived.Test.YtpninapdjcggoaaWI
set_option linter.unusedSimpArgs false
set_option linter.unusedVariables false
namespace Go.Proofs.Ytpninapdjcggoaa
open Go.V Classical

/-- The cells of a Config's box. -/
def cff (a b d : Int) : Nat → Value := fun j => (#[(.int .u64 a), (.int .i64 b), (.int .i64 d)] : Array Value).getD j undef

/-- An op's box, laid and set. -/
theorem opBox {h0 hx : Heap} {rs : List Res} (H : Hold h0 hx rs) (o : OpV) {T : TypeId} :
    let hB := hx.push (.cells #[(.int .i64 (0 : Int)), (.int .u64 (0 : Int)), (.int .u64 (0 : Int)), (.int .u64 (0 : Int)), (.bool false), (.int .u64 (0 : Int)), (.bool false), (.int .i64 (0 : Int)), (.slice none 0 0)] T)
    WrN hB ⟨hx.size, 0, none⟩ 9 ∧ Hold h0 (setCs hB ⟨hx.size, 0, none⟩ 0 [.int .i64 o.kind, .int .u64 o.P, .int .u64 o.Q, .int .u64 o.N, .bool o.A, .int .u64 o.V, .bool o.deny, .int .i64 o.count, .slice o.dp o.dn o.dc]) (blkR hx.size 9 (opf o) :: rs) := by
  intro hB
  have HB := H.box #[(.int .i64 (0 : Int)), (.int .u64 (0 : Int)), (.int .u64 (0 : Int)), (.int .u64 (0 : Int)), (.bool false), (.int .u64 (0 : Int)), (.bool false), (.int .i64 (0 : Int)), (.slice none 0 0)] T
  have B : Blk hB hx.size 9 _ := HB.at 0
  refine ⟨fun j hj => by rw [add_mk]; exact B.wr (by omega), HB.step 0 (Stp.sets B _ 0 0 fun j hj => ?_)⟩
  have : j = 0 ∨ j = 1 ∨ j = 2 ∨ j = 3 ∨ j = 4 ∨ j = 5 ∨ j = 6 ∨ j = 7 ∨ j = 8 := by omega
  rcases this with rfl | rfl | rfl | rfl | rfl | rfl | rfl | rfl | rfl <;> rfl

theorem MemRefused_law {w : World} {a b d : Int} {p : Option Addr} {n cp : Nat} (ha : (Lit.int .u64 a).wf = true) (hb : (Lit.int .i64 b).wf = true) (hd : (Lit.int .i64 d).wf = true) (hs : Ops w.heap p n cp) :
    CallV Try.prog w F.croftlaw2_MemRefused [.agg #[.int .u64 a, .int .i64 b, .int .i64 d], .slice p n cp] w.heap fun v h' => v = .bool true ∧ Upd NoB w.heap h' := by
  have ha := u64_wf ha
  obtain ⟨o, g, hnc, hcp, hop, hok⟩ := hs
  refine croftlaw2_MemRefused.call ?_
  unfold croftlaw2_MemRefused.vc
  simp only [add_mk, Nat.zero_add]
  have A1 := (Hold.nil w.heap).box #[(.int .u64 a), (.int .i64 b), (.int .i64 d)] T.T_api_Config
  refine awake_ok fun h12 u12 => ⟨true, rfl, iF rfl ?_⟩
  have A12 := A1.quiet u12
  have B12 : Blk h12 w.heap.size 3 (cff a b d) := A12.at 0
  refine ⟨_, B12.cell (i := 0) (by omega), _, B12.cell (i := 1) (by omega), _, B12.cell (i := 2) (by omega), ?_⟩
  refine mem_New_ok ha (fun hn h16 u16 => ⟨_, _, rfl, ?_⟩) fun gd h16 s u16 hs16 S16 => ⟨_, _, rfl, ?_⟩
  · refine iT (by simp) ?_
    intro J4 k4
    have A16 := A12.quiet u16
    have B16 : Blk h16 w.heap.size 3 (cff a b d) := A16.at 0
    refine qT rfl ⟨_, B16.cell (i := 0) (by omega), _, B16.cell (i := 1) (by omega), _, B16.cell (i := 2) (by omega), ref2_May_ok ha fun h20 u20 => ⟨_, rfl, k4 _ _ ⟨by simp [hn], (A16.quiet u20).u⟩⟩⟩
  refine iF (by simp) ?_
  intro J6 k6 L hL
  let c : Cfg := ⟨a, b, d⟩
  have I0 : Hold w.heap h16 [spR s c 0 (fun _ => 0) (fun x => x = s), blkR w.heap.size 3 (cff a b d)] := A12.add u16 S16 fun b e => by have e : b = s := e; rw [e]; exact hs16
  have loop : ∀ (r i : Nat) (hx : Heap) (n' : Nat) (M' : Nat → Int) (Z : Nat → Prop), i + r = n → Hold w.heap hx [spR s c n' M' Z, blkR w.heap.size 3 (cff a b d)] →
      L [.slice p n cp, .pointer (some ⟨w.heap.size, 0, none⟩), .pointer (some ⟨s, 0, none⟩), .int .i64 (i : Int)] hx := by
    intro r
    induction r with
    | zero =>
      intro i hx n' M' Z hi I
      refine hL _ _ _ _ _ _ _ (iF (by simp; omega) (k6 _ ⟨trivial, I.u⟩))
    | succ r ih =>
      intro i hx n' M' Z hi I
      obtain ⟨ob, oo, rfl, hcell⟩ := hop.one (i := i) (by omega)
      have t1 : Int.toNat (i : Int) = i := by omega
      have e3 : IntKind.wrap .i64 ((i : Int) + 1) = ((i + 1 : Nat) : Int) := by rw [IntKind.wrap_i64]; omega
      refine hL _ _ _ _ _ _ _ (iT (by simp; omega) ?_)
      intro J8 k8
      have next : ∀ (hy : Heap) (n2 : Nat) (M2 : Nat → Int) (Z2 : Nat → Prop), Hold w.heap hy [spR s c n2 M2 Z2, blkR w.heap.size 3 (cff a b d)] →
          J8 [.slice (some ⟨ob, oo, none⟩) n cp, .pointer (some ⟨w.heap.size, 0, none⟩), .pointer (some ⟨s, 0, none⟩), .int .i64 (i : Int)] hy := fun hy n2 M2 Z2 I2 => k8 _ _ _ _ _ _ _ (by rw [e3]; exact ih (i + 1) hy n2 M2 Z2 (by omega) I2)
      refine ⟨⟨ob, oo, none⟩, rfl, by omega, by omega, ?_⟩
      simp only [t1, add_mk]
      have q := (hcell hx I.u).2
      refine ⟨_, q 0 (by omega), _, q 1 (by omega), _, q 2 (by omega), _, q 3 (by omega), _, q 4 (by omega), _, q 5 (by omega), _, q 6 (by omega), _, q 7 (by omega), _, _, _, q 8 (by omega), ?_⟩
      obtain ⟨w1, I1⟩ := opBox I (o i) (T := T.T_croftlaw2_Op)
      refine ⟨w1, ?_⟩
      have C1 : Blk _ w.heap.size 3 (cff a b d) := I1.at 2
      refine ⟨_, C1.cell (i := 0) (by omega), _, C1.cell (i := 0) (by omega), ?_⟩
      have S1 : Sp _ s c n' M' Z := I1.at 1
      have hl := S1.good.len S1.nl
      have hb0 := S1.good.b0
      have ew : IntKind.wrap .u64 (c.base + ((n' * c.size : Nat) : Int) - a) = ((n' * c.size : Nat) : Int) := by
        rw [IntKind.wrap_u64]; show (a + _ - a) % _ = _; omega
      have tt : There c n' a ((n' * c.size : Nat) : Int) := .inr ⟨Int.le_refl _, by show a - a + _ ≤ _; omega⟩
      have tb0 : (a - Cfg.base c).toNat = 0 := by show (a - a).toNat = 0; omega
      have tn : Int.toNat ((n' * c.size : Nat) : Int) = n' * c.size := by omega
      refine mem_End_ok S1 ⟨_, rfl, C1.cell (i := 0) (by omega), C1.cell (i := 0) (by omega), ?_⟩
      rw [ew]
      refine mem_Read_ok ha (by omega) S1 (fun _ h49 bb u49 hbb B49 => ⟨_, _, _, _, rfl, iF (by simp) ?_⟩) fun t => absurd tt t
      rw [tb0, tn] at B49
      rw [tn]
      have I2 : Hold w.heap h49 _ := I1.add (R := blkR bb (n' * c.size) (fun j => .int .u8 (M' (0 + j)))) u49 B49 fun b e => by have e : b = bb := e; omega
      have C2 : Blk _ w.heap.size 3 (cff a b d) := I2.at 3
      have O2 : Blk _ hx.size 9 (opf (o i)) := I2.at 1
      have S2 : Sp _ s c n' M' Z := I2.at 2
      refine ⟨_, C2.cell (i := 0) (by omega), _, O2.cell (i := 0) (by omega), _, O2.cell (i := 1) (by omega), _, O2.cell (i := 2) (by omega), _, O2.cell (i := 3) (by omega), _, O2.cell (i := 4) (by omega), _, O2.cell (i := 5) (by omega), _, O2.cell (i := 6) (by omega), _, O2.cell (i := 7) (by omega), _, _, _, O2.cell (i := 8) (by omega), ?_⟩
      refine act_ok (((hok i (by omega)).upd I2.u fun _ e => e.elim).sub fun b e => I2.ge (spR s c n' M' Z) (by simp) b e) S2 fun h58 n2 M2 Z2 e A58 he => ⟨_, rfl, ?_⟩
      have I3 := I2.step 2 A58
      have O3 : Blk _ hx.size 9 (opf (o i)) := I3.at 1
      refine ⟨_, O3.cell (i := 0) (by omega), ?_⟩
      have reads : ∀ f : Bool, (f = true ↔ ((o i).kind = 3 ∨ (o i).kind = 5 ∨ (o i).kind = 9)) → (∀ J16 : Bool → Heap → Prop, (∀ (b77 : Bool) (h77 : Heap), (b77 = (decide (e = 0) && !f)) → h77 = h58 → J16 b77 h77) → ((e == 0) = true → J16 (!f) h58) ∧ ((e == 0) = (!true) → J16 false h58)) := by
        intro f hf J16 k16
        refine ⟨fun h0 => k16 _ _ (by simp at h0; simp [h0]) rfl, fun h0 => k16 _ _ (by simp at h0; simp [h0]) rfl⟩
      have tail : ∀ (bb' : Bool) (h66 : Heap), h66 = h58 → bb' = (decide (e = 0) && !(decide ((o i).kind = 3 ∨ (o i).kind = 5 ∨ (o i).kind = 9))) → ((bb' = true → J8 [.slice (some ⟨ob, oo, none⟩) n cp, .pointer (some ⟨w.heap.size, 0, none⟩), .pointer (some ⟨s, 0, none⟩), .int .i64 (i : Int)] h66) ∧
          (bb' = false → n2 = n' ∧ M2 = M')) := by
        intro bb' h66 e66 eb
        subst e66
        refine ⟨fun _ => next _ n2 M2 Z2 (I3.drop.drop), fun hf => he ?_⟩
        rw [hf] at eb
        by_cases e0 : e = 0
        · right; have := eb.symm; simp [e0] at this; omega
        · exact .inl e0
      have rest : ∀ h77 : Heap, h77 = h58 → (n2 = n' ∧ M2 = M') → ∃ n81 : Int, cellAt h77 ⟨w.heap.size, 0, none⟩ = some (.int .u64 n81) ∧ (∃ n85 : Int, cellAt h77 ⟨w.heap.size, 0, none⟩ = some (.int .u64 n85) ∧
          CallV Try.prog w F.mem_Space_End [.pointer (some ⟨s, 0, none⟩)] h77 fun (v83 : Value) (h83 : Heap) => ∃ r83 : Int, v83 = (.int .u64 r83) ∧ cellAt h83 ⟨w.heap.size, 0, none⟩ = some (.int .u64 n85) ∧ cellAt h83 ⟨w.heap.size, 0, none⟩ = some (.int .u64 n81) ∧
            CallV Try.prog w F.mem_Space_Read [.pointer (some ⟨s, 0, none⟩), .int .u64 n81, .int .u64 (IntKind.wrap .u64 (r83 - n85))] h83 fun (v87 : Value) (h87 : Heap) => ∃ (r0p : Option Addr) (r0n r0c : Nat) (r1 : Int), v87 = (.tuple #[.slice r0p r0n r0c, .int .i64 r1]) ∧
              ∀ J19 : Bool → Heap → Prop, (∀ (b97 : Bool) (h97 : Heap), (b97 = true → (.bool false) = (Value.bool true) ∧ Upd NoB w.heap h97) ∧ (b97 = false → J8 [.slice (some ⟨ob, oo, none⟩) n cp, .pointer (some ⟨w.heap.size, 0, none⟩), .pointer (some ⟨s, 0, none⟩), .int .i64 (i : Int)] h97) → J19 b97 h97) →
                ((r1 != 0) = false → CallV Try.prog w F.croftref2_Same [.slice (some ⟨bb, 0, none⟩) (n' * c.size) (n' * c.size), .slice r0p r0n r0c] h87 fun (v95 : Value) (h95 : Heap) => ∃ r95 : Bool, v95 = (.bool r95) ∧ J19 (!r95) h95) ∧ ((r1 != 0) = (!false) → J19 true h87)) := by
        rintro h77 rfl ⟨rfl, rfl⟩
        have C3 : Blk _ w.heap.size 3 (cff a b d) := I3.at 3
        have S3 : Sp _ s c n2 M2 Z2 := I3.at 2
        refine ⟨_, C3.cell (i := 0) (by omega), _, C3.cell (i := 0) (by omega), ?_⟩
        refine mem_End_ok S3 ⟨_, rfl, C3.cell (i := 0) (by omega), C3.cell (i := 0) (by omega), ?_⟩
        rw [ew]
        refine mem_Read_ok ha (by omega) S3 (fun _ h87 cc u87 hcc B87 => ⟨_, _, _, _, rfl, ?_⟩) fun t => absurd tt t
        rw [tb0, tn] at B87
        rw [tn]
        have I4 := I3.quiet u87
        have D4 : Blk h87 bb (n2 * c.size) (fun j => .int .u8 (M2 (0 + j))) := I4.at 0
        intro J19 k19
        refine pF (by simp) ?_
        refine Same_true (by omega) ((D4.row 0 (n2 * c.size) (by omega)).congr fun i hi => by rw [Nat.zero_add]) ((B87.row 0 (n2 * c.size) (by omega)).congr fun i hi => by rw [Nat.zero_add]) (fun i hi => rfl) ⟨_, rfl, k19 _ _ ⟨fun e => (by cases e), fun _ => next _ n2 M2 Z2 I4.drop.drop⟩⟩
      intro J14 k14
      have both : ∀ f : Bool, f = decide ((o i).kind = 3 ∨ (o i).kind = 5 ∨ (o i).kind = 9) → ∀ J16 : Bool → Heap → Prop, (∀ (b77 : Bool) (h77 : Heap), ((b77 = true → J8 [.slice (some ⟨ob, oo, none⟩) n cp, .pointer (some ⟨w.heap.size, 0, none⟩), .pointer (some ⟨s, 0, none⟩), .int .i64 (i : Int)] h77) ∧ (b77 = false → _)) → J16 b77 h77) →
          ((e == 0) = true → J16 (!f) h58) ∧ ((e == 0) = (!true) → J16 false h58) := fun f hf J16 k16 => by
        refine reads f (by rw [hf]; simp) J16 fun b77 h77 eb e77 => k16 _ _ ?_
        have T := tail b77 h77 e77 (by rw [eb, hf])
        exact ⟨T.1, fun hf => rest h77 e77 (T.2 hf)⟩
      refine ⟨fun e3' => ⟨_, O3.cell (i := 0) (by omega), k14 _ _ fun J15 k15 => ?_⟩, fun e3' => k14 _ _ fun J15 k15 => ?_⟩
      · simp only [beq_eq_false_iff_ne, ne_eq] at e3'
        refine ⟨fun e5 => ⟨_, O3.cell (i := 0) (by omega), ?_⟩, fun e5 => ?_⟩
        · simp only [beq_eq_false_iff_ne, ne_eq] at e5
          refine k15 _ _ (both _ ?_)
          rw [Bool.eq_iff_iff]; simp only [opf] at *; simp; omega
        · refine k15 _ _ (both _ ?_)
          simp at e5
          simp only [opf] at *
          simp [e5]
      · refine ⟨fun e => (by cases e), fun _ => ?_⟩
        refine k15 _ _ (both _ ?_)
        simp at e3'
        simp only [opf] at *
        simp [e3']
  exact loop n 0 _ 0 _ _ (by omega) I0

end Go.Proofs.Ytpninapdjcggoaa
