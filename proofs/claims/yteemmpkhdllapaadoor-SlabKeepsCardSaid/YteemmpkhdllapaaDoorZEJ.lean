/- croftlaw7: scripts of deeds; SlabExactly. No condition. -/
import Derived.Test.YteemmpkhdllapaaDoorZEI
import Derived.Test.YteemmpkhdllapaaDoorZED
set_option linter.unusedSimpArgs false
set_option linter.unusedVariables false
namespace Go.Proofs.YteemmpkhdllapaaDoor
open Go.V Classical

theorem dd7_at {h : Heap} {p : Option Addr} {n c i : Nat} (R : HRow h dd7Ty 4 p n c) (hi : i < n) : ∃ (ad : Addr) (z0 z1 z2 : Int) (z3 : Bool), p = some ad ∧ bd63 z1 ∧ bd63 z2 ∧ ∀ hx, Upd NoB h hx →
    cellAt hx (ad.add (Int.toNat (i : Int) * 4)) = some (.int .i64 z0) ∧ cellAt hx ((ad.add (Int.toNat (i : Int) * 4)).add 1) = some (.int .i64 z1) ∧ cellAt hx ((ad.add (Int.toNat (i : Int) * 4)).add 2) = some (.int .i64 z2) ∧ cellAt hx ((ad.add (Int.toNat (i : Int) * 4)).add 3) = some (.bool z3) := by
  obtain ⟨_, _, hr⟩ := R
  rcases hr with hr | ⟨b0, off, rfl, hr⟩
  · omega
  obtain ⟨v0, c0, z0, rfl, w0⟩ := hr i hi 0 (by omega)
  obtain ⟨v1, c1, z1, rfl, w1⟩ := hr i hi 1 (by omega)
  obtain ⟨v2, c2, z2, rfl, w2⟩ := hr i hi 2 (by omega)
  obtain ⟨v3, c3, z3, rfl⟩ := hr i hi 3 (by omega)
  refine ⟨_, z0, z1, z2, z3, rfl, wf_bd63 w1, wf_bd63 w2, fun hx u => ?_⟩
  have up : ∀ {j : Nat} {v : Value}, cellAt h ⟨b0, off + i * 4 + j, none⟩ = some v → cellAt hx ⟨b0, off + i * 4 + j, none⟩ = some v := fun e => cellAt_upd e u id
  refine ⟨?_, ?_, ?_, ?_⟩
  · rw [add_mk, Int.toNat_natCast]; exact up c0
  · rw [add_mk, add_mk, Int.toNat_natCast]; exact up c1
  · rw [add_mk, add_mk, Int.toNat_natCast]; exact up c2
  · rw [add_mk, add_mk, Int.toNat_natCast]; exact up c3

theorem book0 : Book [] noS [] (fun _ => 0) (fun _ => []) := by
  refine ⟨fun a n => ⟨?_, fun ⟨e, he, _⟩ => by cases he⟩, .nil, fun q h => h.elim⟩
  rintro (⟨q, k, hL, _⟩ | ⟨q, j, hS, _⟩)
  · cases hL
  · exact hS.elim

theorem bk_nil {h0 h : Heap} {A : Res} {rs : List Res} {b0 : Int} (I : Hold h0 h (A :: rs)) : Hold h0 h (andR A (bkR none 0 b0 []) :: rs) :=
  (I.new (R := bkR none 0 b0 []) ⟨Upd.refl _ _, sl_nil _ _ _, fun b e => absurd e (sl_nil_fp b)⟩).swap.join

end Go.Proofs.YteemmpkhdllapaaDoor
