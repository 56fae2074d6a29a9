/- buddy: what its calls do to what its state stands for. No condition. -/
import Derived.Test.YteemmpkhdllapaaDoorZBW
set_option linter.unusedSimpArgs false
set_option linter.unusedVariables false
namespace Go.Proofs.YteemmpkhdllapaaDoor
open Go.V Classical

section
variable {w₀ : World} {h h' : Heap} {S : Nat → Prop} {c : Cfg} {B : BW} {x : BU} {K : Value → Heap → Prop} {fl : Nat → List Nat} {L L' : List PBk} {p k : Nat}

theorem room (W : WS S c x fl L) (hl : (x.st.n : Int) < c.limit) : x.m.n + 2 ^ x.m.o ≤ 1024 := by
  have h1 := W.g.pg
  have h2 : c.order.toNat = x.m.o := by have := W.ok.o; omega
  rw [h2] at h1
  have h3 : ((x.st.n + 1 : Nat) : Int) * ((2 ^ x.m.o : Nat) : Int) ≤ c.limit * ((2 ^ x.m.o : Nat) : Int) := Int.mul_le_mul_of_nonneg_right (by omega) (Int.natCast_nonneg _)
  have h4 : (((x.st.n + 1) * 2 ^ x.m.o : Nat) : Int) ≤ 1024 := by rw [Int.natCast_mul]; exact Int.le_trans h3 h1
  rw [W.e, ← Nat.succ_mul]
  exact Int.ofNat_le.1 h4

theorem comeS (W : WS S c x fl L) (hl : (x.st.n : Int) < c.limit) : WS S c ⟨growS c x.st, x.hd, mGrow x.m⟩ fl ((x.m.n, x.m.o) :: L) ∧ (mGrow x.m).o = x.m.o ∧ (mGrow x.m).n = x.m.n + 2 ^ x.m.o ∧
    (∀ b ∈ L, ∀ o, 4096 * b.1 ≤ o → o < 4096 * (b.1 + 2 ^ b.2) → (growS c x.st).M o = x.st.M o) ∧ PK L x.m (mGrow x.m) := by
  obtain ⟨R, eo, en, hM, pk⟩ := sim_come W.g W.rep W.e (room W hl)
  refine ⟨⟨R, ?_, W.g⟩, eo, en, hM, pk⟩
  show (mGrow x.m).n = (x.st.n + 1) * 2 ^ (mGrow x.m).o
  rw [eo, en, Nat.succ_mul, ← W.e]

end
end Go.Proofs.YteemmpkhdllapaaDoor
