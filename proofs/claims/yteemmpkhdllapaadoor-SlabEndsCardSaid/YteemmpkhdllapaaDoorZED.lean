/- croftlaw7: scripts that are handed in; SlabEnds. No condition. -/
import Derived.Test.YteemmpkhdllapaaDoorZEC
import Derived.Test.YteemmpkhdllapaaDoorZX3
import Derived.Test.YteemmpkhdllapaaDoorZGcroftlaw7SlabEnds
set_option linter.unusedSimpArgs false
set_option linter.unusedVariables false
namespace Go.Proofs.YteemmpkhdllapaaDoor
open Go.V Classical

def HRow (h : Heap) (ty : Nat → TypeDesc) (m : Nat) (p : Option Addr) (n c : Nat) : Prop :=
  n ≤ c ∧ c < 9223372036854775808 ∧ (n = 0 ∨ ∃ b o, p = some ⟨b, o, none⟩ ∧ ∀ i, i < n → ∀ j, j < m → ∃ v, cellAt h ⟨b, o + i * m + j, none⟩ = some v ∧ Scal (ty j) v)

def wi7Ty : Nat → TypeDesc
  | 4 => .bool
  | 5 => .int .u64
  | 6 => .int .u64
  | _ => .int .i64

theorem wi7Row {H : Type} {enc : TypeId × Value → H} {W : World} {t e : TypeId} {fs : Array Field} {p : Option Addr} {n c : Nat} {d : DataW H} {ps : List MemPlace} (ht : Tryd.prog.underlying t = some (.slice e)) (he : Tryd.prog.underlying e = some (.struct fs)) (hm : fs.size = 7) (hce : Tryd.prog.cellsOf e = 7)
    (hf : ∀ j, j < 7 → ∃ f, fs[j]? = some f ∧ f.offset = j ∧ Tryd.prog.cellsOf f.type = 1 ∧ Tryd.prog.underlying f.type = some (wi7Ty j))
    (h : DataW.Trod enc Tryd.prog W 0 (fun _ => true) true t (.slice p n c) d ps) : HRow W.heap wi7Ty 7 p n c := structRow ht he hm (by decide) hce hf h

theorem wf_bd63 {z : Int} (w : (Lit.int .i64 z).wf = true) : bd63 z := by have := Go.bounds_i64 w; unfold bd63; omega

abbrev wiL (o a b d : Int) (e : Bool) (p v : Int) : List Value := [.int .i64 o, .int .i64 a, .int .i64 b, .int .i64 d, .bool e, .int .u64 p, .int .u64 v]

theorem SlabEnds_law {w : World} {a b d : Int} {p : Option Addr} {n cp : Nat} (T0 : Tab w.heap) (ha : (Lit.int .u64 a).wf = true) (hb : (Lit.int .i64 b).wf = true) (hd : (Lit.int .i64 d).wf = true) (hs : HRow w.heap wi7Ty 7 p n cp) :
    CallV Tryd.prog w F.croftlaw7_SlabEnds [.agg #[.int .u64 a, .int .i64 b, .int .i64 d], .slice p n cp] w.heap fun v h' => v = .bool true ∧ Upd NoB w.heap h' := by
  obtain ⟨hn, hc, hr⟩ := hs
  have hfin : ∀ h', Upd NoB w.heap h' → (fun (r : Value) (h' : Heap) => r = Value.bool true ∧ Upd NoB w.heap h') (.bool true) h' := fun h' u => ⟨rfl, u⟩
  generalize (fun (r : Value) (h' : Heap) => r = Value.bool true ∧ Upd NoB w.heap h') = K at hfin ⊢
  refine croftlaw7_SlabEnds.call ?_
  unfold croftlaw7_SlabEnds.vc
  have N0 := box_l w.heap [.int .u64 a, .int .i64 b, .int .i64 d] T.T_api_Config
  generalize Array.push w.heap (.cells #[.int .u64 a, .int .i64 b, .int .i64 d] T.T_api_Config) = h0 at N0 ⊢
  have I0 := (Hold.nil w.heap).new N0
  have B0 := I0.at 0
  refine ⟨_, cell_l0 B0, _, cell_l B0 1, _, cell_l B0 2, beginX (wf_u64 ha) fun h1 wb Q1 l hl N1 => ⟨_, rfl, fun J3 hJ3 => pF rfl ?_⟩⟩
  have g5 := usual7_good a b d
  have W0 := (si0 g5 (fun _ => 0) (fun _ => [])).ki
  generalize usual7 a b d = c at N1 g5 W0
  generalize BU0 c = x0 at N1 W0
  have I1 := I0.new N1
  refine lives7_ok (T0.upd I1.u id) fun h2 u2 => ⟨_, rfl, hJ3 _ _ (iF rfl ?_)⟩
  have I2 := I1.quiet u2
  have I2 : Hold w.heap h2 [w7R c wb l Q1 x0 fun _ => -1] := I2.sub (.cons_cons _ (.cons _ .slnil))
  refine ⟨_, rfl, _, w_c3 (I2.at 0), _, rfl, ground_Map_ok (s_pl (w_s (I2.at 0))) ⟨_, rfl, fun J5 hJ5 L6 hL6 => ?_⟩⟩
  generalize hmb : Q1.pl.B.mb = mb
  have loop : ∀ (k i : Nat) (hx : Heap) (Q : SL) (x : BU) (hp : Nat → Int), i + k = n → Q.pl.B.mb = mb → KI c x → Hold w.heap hx [w7R c wb l Q x hp] → L6 [.slice p n cp, gptr wb, gptr mb, .int .i64 (i : Int)] hx := by
    intro k
    induction k with
    | zero =>
      intro i hx Q x hp hi _ ok I
      exact hL6 _ _ _ _ _ _ _ fun J8 hJ8 => qF' (decide_eq_false (by omega)) (hJ8 _ _ (iF rfl (hJ5 _ (hfin _ I.u))))
    | succ k ih =>
      intro i hx Q x hp hi hQ ok I
      refine hL6 _ _ _ _ _ _ _ fun J7 hJ7 => qT (decide_eq_true (by omega)) (hJ7 _ _ ?_)
      by_cases h200 : (i : Int) < 200
      case neg => exact iF (decide_eq_false h200) (hJ5 _ (hfin _ I.u))
      refine iT (decide_eq_true h200) fun J8 hJ8 => ?_
      have hwr : IntKind.wrap .i64 ((i : Int) + 1) = ((i + 1 : Nat) : Int) := by rw [IntKind.wrap_i64]; omega
      rcases hr with hr | ⟨b0, off, rfl, hr⟩
      · omega
      obtain ⟨v0, c0, z0, rfl, w0⟩ := hr i (by omega) 0 (by omega)
      obtain ⟨v1, c1, z1, rfl, w1⟩ := hr i (by omega) 1 (by omega)
      obtain ⟨v2, c2, z2, rfl, w2⟩ := hr i (by omega) 2 (by omega)
      obtain ⟨v3, c3, z3, rfl, w3⟩ := hr i (by omega) 3 (by omega)
      obtain ⟨v4, c4, z4, rfl⟩ := hr i (by omega) 4 (by omega)
      obtain ⟨v5, c5, z5, rfl, w5⟩ := hr i (by omega) 5 (by omega)
      obtain ⟨v6, c6, z6, rfl, w6⟩ := hr i (by omega) 6 (by omega)
      have up : ∀ {j : Nat} {v : Value}, cellAt w.heap ⟨b0, off + i * 7 + j, none⟩ = some v → cellAt hx ⟨b0, off + i * 7 + j, none⟩ = some v := fun h => cellAt_upd h I.u id
      have next : ∀ (bx : Nat) (hy : Heap) (Q' : SL) (x' : BU) (hp' : Nat → Int), Q'.pl.B.mb = mb → KI c x' → Hold w.heap hy [lR bx (wiL z0 z1 z2 z3 z4 z5 z6), w7R c wb l Q' x' hp'] → J8 [.slice (some ⟨b0, off, none⟩) n cp, gptr wb, gptr mb, .int .i64 (i : Int)] hy := fun bx hy Q' x' hp' hQ' ok' I' => by
        refine hJ8 _ _ _ _ _ _ _ ?_
        rw [hwr]
        exact ih (i + 1) hy Q' x' hp' (by omega) hQ' ok' I'.drop
      have ea : (⟨b0, off, none⟩ : Addr).add (Int.toNat ((i : Nat) : Int) * 7) = ⟨b0, off + i * 7, none⟩ := by simp only [add_mk, Int.toNat_natCast]
      refine ⟨_, rfl, by omega, by omega, ?_⟩
      rw [ea]
      refine ⟨_, up c0, _, by rw [add_mk]; exact up c1, _, by rw [add_mk]; exact up c2, _, by rw [add_mk]; exact up c3, _, by rw [add_mk]; exact up c4, _, by rw [add_mk]; exact up c5, _, by rw [add_mk]; exact up c6, ?_⟩
      have N1 := box_l hx (wiL 0 0 0 0 false 0 0) T.T_croftlaw7_Wild
      generalize Array.push hx (.cells #[.int .i64 0, .int .i64 0, .int .i64 0, .int .i64 0, .bool false, .int .u64 0, .int .u64 0] T.T_croftlaw7_Wild) = h7 at N1 ⊢
      obtain ⟨b5, eb5⟩ : ∃ b5, b5 = Array.size hx := ⟨_, rfl⟩
      rw [← eb5] at N1 ⊢
      have I7 := I.new N1
      obtain ⟨w8, S8⟩ := assign_l (I7.at 0) (wiL z0 z1 z2 z3 z4 z5 z6)
      have I8 := I7.step 0 S8
      refine ⟨w8, ?_⟩
      generalize setCs h7 ⟨b5, 0, none⟩ 0 [.int .i64 z0, .int .i64 z1, .int .i64 z2, .int .i64 z3, .bool z4, .int .u64 z5, .int .u64 z6] = h8 at I8 ⊢
      have I8 : Hold w.heap h8 [lR b5 (wiL z0 z1 z2 z3 z4 z5 z6), w7R c wb l Q x hp] := I8
      have H8 := I8.at 1
      have T8 := TabH.of T0 I8 1
      have B8 := I8.at 0
      have hs8 := w_s H8
      have u5 : U64 z5 := wf_u64 w5
      have u6 : U64 z6 := wf_u64 w6
      refine ⟨_, cell_l0 B8, fun J11 hJ11 => ?_⟩
      have main : ∀ bb : Bool, J11 [.slice (some ⟨b0, off, none⟩) n cp, gptr wb, gptr mb, .int .i64 (i : Int), gptr b5, .int .i64 z0, .bool bb] h8 := by
        intro bb
        refine hJ11 _ _ _ _ _ _ _ _ _ _ ⟨fun _ => ⟨_, rfl, _, w_c4 H8, _, cell_l B8 1, _, cell_l B8 4, ?_⟩, fun _ => ⟨fun _ => ⟨_, rfl, _, w_c4 H8, _, cell_l B8 5, ?_⟩, fun _ => ⟨fun _ => ⟨_, rfl, _, w_c4 H8, _, cell_l B8 5, ?_⟩, fun _ => ⟨fun _ => ⟨_, rfl, _, w_c3 H8, _, rfl, _, cell_l B8 5, _, cell_l B8 6, ?_⟩,
          fun _ => ⟨fun _ => ⟨_, cell_l B8 1, _, cell_l B8 2, _, cell_l B8 3, ?_⟩, fun _ => ⟨fun _ => ⟨_, cell_l B8 1, _, cell_l B8 2, ?_⟩, fun _ => ⟨fun _ => ⟨_, cell_l B8 1, _, cell_l B8 2, _, cell_l B8 4, ?_⟩, fun _ => ⟨fun _ => ⟨_, cell_l B8 1, _, cell_l B8 2, ?_⟩, fun _ => ⟨fun _ => ⟨_, cell_l B8 1, ?_⟩, fun _ J23 hJ23 => ?_⟩⟩⟩⟩⟩⟩⟩⟩⟩
        · by_cases hk : z1 < 0 ∨ 8 ≤ z1
          · exact take_no hk ⟨_, _, _, rfl, next b5 h8 Q x hp hQ ok I8⟩
          · obtain ⟨k1, rfl⟩ : ∃ k1 : Nat, z1 = k1 := ⟨z1.toNat, by omega⟩
            exact take_ok (by omega) ok (w_T T8) hs8 fun h9 Q9 hS9 W9 S9 => ⟨_, _, _, rfl, next b5 h9 Q9 _ _ (hS9.mb.trans hQ) W9 (I8.step 1 (w_lift H8 hS9 S9))⟩
        · exact sgive_ok u5 ok (w_T T8) hs8 fun h9 W9 S9 => ⟨_, rfl, next b5 h9 Q _ _ hQ W9 (I8.step 1 (w_lift H8 (.refl Q) S9))⟩
        · refine size_ok u5 ok (w_T T8) hs8 fun h9 u9 => ⟨_, rfl, ?_⟩
          have I9 := I8.quiet u9
          exact ⟨_, rfl, _, w_c4 (I9.at 1), Partial_ok (w_s (I9.at 1)).1 fun h10 q10 N10 => ⟨_, _, _, rfl, next b5 h10 Q x hp hQ ok (I9.quiet N10.u)⟩⟩
        · refine ground_Space_ok (s_pl hs8) ⟨_, rfl, cell_l B8 6, cell_l B8 5, sset_ok u5 u6 hs8 fun e h9 S9 => ⟨_, rfl, next b5 h9 Q _ hp hQ (ki_sto ok (by simp)) (I8.step 1 (w_lift H8 (.refl Q) S9))⟩⟩
        · rw [← hQ]; exact chain_ok ok hs8 fun v h9 S9 => ⟨_, rfl, by rw [hQ]; exact next b5 h9 Q _ hp hQ (ki_chain ok) (I8.step 1 (w_lift H8 (.refl Q) S9))⟩
        · rw [← hQ]; exact first_ok ok hs8 fun v h9 S9 => ⟨_, rfl, by rw [hQ]; exact next b5 h9 Q _ hp hQ (ki_first ok) (I8.step 1 (w_lift H8 (.refl Q) S9))⟩
        · rw [← hQ]; exact own_ok ok hs8 fun v h9 S9 => ⟨_, rfl, by rw [hQ]; exact next b5 h9 Q _ hp hQ (ki_own ok) (I8.step 1 (w_lift H8 (.refl Q) S9))⟩
        · rw [← hQ]; exact slabm_ok hs8 fun v h9 S9 => ⟨_, rfl, by rw [hQ]; exact next b5 h9 Q _ hp hQ (ki_slab ok) (I8.step 1 (w_lift H8 (.refl Q) S9))⟩
        · rw [← hQ]; exact run1_ok (wf_bd63 w1) ok hs8 fun v h9 S9 => ⟨_, rfl, by rw [hQ]; exact next b5 h9 Q _ hp hQ (ki_run ok) (I8.step 1 (w_lift H8 (.refl Q) S9))⟩
        have last : ∀ bb : Bool, J23 [.slice (some ⟨b0, off, none⟩) n cp, gptr wb, gptr mb, .int .i64 (i : Int), gptr b5, .bool bb] h8 := fun bb =>
          hJ23 _ _ _ _ _ _ _ _ _ ⟨fun _ => ⟨_, rfl, _, w_c3 H8, _, cell_l B8 1, _, cell_l B8 4, need_u ok hs8 fun h9 Q9 hS9 W9 _ S9 => ⟨_, _, _, rfl, next b5 h9 Q9 _ _ (hS9.mb.trans hQ) W9 (I8.step 1 (w_lift H8 hS9 S9))⟩⟩, fun _ => next b5 h8 Q x hp hQ ok I8⟩
        exact ⟨fun _ => last _, fun _ => last _⟩
      exact ⟨fun _ => main _, fun _ => main _⟩
  exact loop n 0 h2 Q1 x0 _ (by omega) hmb W0 I2
end Go.Proofs.YteemmpkhdllapaaDoor
