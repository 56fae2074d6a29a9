/- croftlaw5: a world: begin, come, goes, at, page. No condition. -/
import Derived.Test.YteemmpkhdllapaaDoorZM7
import Derived.Test.YteemmpkhdllapaaDoorZM3
set_option linter.unusedSimpArgs false
set_option linter.unusedVariables false
namespace Go.Proofs.YteemmpkhdllapaaDoor
open Go.V Classical

theorem box3 (h : Heap) (v0 v1 v2 : Value) (T : TypeId) : New h (h.push (.cells #[v0, v1, v2] T)) (blkR h.size 3 (f3 v0 v1 v2)) :=
  (New.box h #[v0, v1, v2] T).conv (fun P => Blk.congr P fun i hi => by
    have hi : i < 3 := hi
    have : i = 0 ∨ i = 1 ∨ i = 2 := by omega
    rcases this with rfl | rfl | rfl <;> rfl) fun _ e => e

theorem f3_cells {h : Heap} {b : Nat} {v0 v1 v2 : Value} (B : (blkR b 3 (f3 v0 v1 v2)).P h) : cellAt h ⟨b, 0, none⟩ = some v0 ∧ cellAt h ((⟨b, 0, none⟩ : Addr).add 1) = some v1 ∧ cellAt h ((⟨b, 0, none⟩ : Addr).add 2) = some v2 :=
  ⟨B.cell (i := 0) (by omega), by rw [add_mk]; exact B.cell (i := 1) (by omega), by rw [add_mk]; exact B.cell (i := 2) (by omega)⟩

structure WW where
  wb : Nat
  W : BW
  fp : Option Addr
  fn : Nat
  fc : Nat
  vp : Option Addr
  vc : Nat

def BU0 (c : Cfg) : BU := ⟨⟨0, fun _ => 0⟩, fun _ => 0, mNew c.order⟩

theorem clamp_o {c : Cfg} (g : c.Good) : clampO c.order = c.order.toNat := by
  have := g.o0; have := g.o8
  unfold clampO
  rw [if_neg (by omega), if_neg (by omega)]

theorem rep0 {c : Cfg} (g : c.Good) : Rep c (BU0 c) (fun _ => []) [] [] := by
  have o0 := g.o0
  have ho : (BU0 c).m.o = c.order.toNat := clamp_o g
  have hb : blks (BU0 c).m.o (fun _ => []) = [] := by simp [blks]
  refine ⟨⟨mNew_ok _, by rw [ho]; omega, fun i hi => absurd hi (Nat.not_lt_zero _)⟩, ⟨⟨g.b0, ?_⟩, Nat.zero_le _, ?_⟩, ?_, fun _ _ _ h => (by cases h), fun k hk => ⟨rfl, .nil, fun p hp => (by cases hp), trivial⟩, fun _ _ _ h => (by cases h), fun b hb => (by cases hb), fun k p _ _ h => absurd h (Nat.not_lt_zero _), fun _ h => h.elim⟩
  · have := g.top
    have h3 : (0 : Int) ≤ c.size * c.limit := Int.mul_nonneg (by omega) (by have := g.l1; omega)
    omega
  · show 0 * 4096 ≤ 0 * c.size
    omega
  · rw [hb]
    exact ⟨fun b hb => (by cases hb), .nil, fun q hq => absurd hq (Nat.not_lt_zero _)⟩

section
variable {w₀ : World} {h h' : Heap} {c : Cfg} {Q : WW} {P r : Nat} {x : BU} {K : Value → Heap → Prop}

theorem commit_ok {s : Nat} {Z : Nat → Prop} {st : Sto} (H : (spR s c Z st).P h) (hl : (st.n : Int) < c.limit) (hK : ∀ (Z' : Nat → Prop) (h' : Heap), Stp h h' (spR s c Z st) (spR s c Z' (growS c st)) → K (.tuple #[.int .u64 (c.base + (st.n * c.size : Nat)), .int .i64 0]) h') :
    CallV Tryd.prog w₀ F.mem_Space_Commit [.pointer (some ⟨s, 0, none⟩), .bool false] h K := by
  refine mem_Commit_ok H (fun e => ?_) fun _ _ h' u H' => hK _ h' ⟨u, H', fun b e => ?_⟩
  · rcases e with e | e
    · cases e
    · omega
  · rcases e with e | e
    · exact .inl e
    · exact .inr e.1

end
end Go.Proofs.YteemmpkhdllapaaDoor
