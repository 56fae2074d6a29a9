/- buddy: what its calls do to what its state stands for. No condition. -/
import Derived.Test.YteemmpkhdllapaaDoorZBW
set_option linter.unusedSimpArgs false
set_option linter.unusedVariables false
namespace Go.Proofs.YteemmpkhdllapaaDoor
open Go.V Classical

section
variable {w₀ : World} {h h' : Heap} {S : Nat → Prop} {c : Cfg} {B : BW} {x : BU} {K : Value → Heap → Prop} {fl : Nat → List Nat} {L L' : List PBk} {p k : Nat}

theorem pullB (W : WS S c x fl L) (H : (buR c B x).P h) (hn : 0 < x.st.n) (hF : x.m.n - 2 ^ x.m.o ∈ fl x.m.o)
    (hK : ∀ x' h', WS S c x' (fset fl x.m.o ((fl x.m.o).filter (· ≠ x.m.n - 2 ^ x.m.o))) ((x.m.n - 2 ^ x.m.o, x.m.o) :: L) → Mv x x' L → Stp h h' (buR c B x) (buR c B x') → K (.int .i64 0) h') :
    CallV Tryd.prog w₀ F.buddy_Buddy_Pull [.pointer (some ⟨B.b, 0, none⟩)] h K := by
  refine bu_Pull_ok W.ok H fun h' ok' o' S => ?_
  obtain ⟨e, G⟩ := sim_pull W.rep hn W.e hF
  obtain ⟨W', M⟩ := W.mv G
  rw [e]
  exact hK _ h' W' M S

theorem pullBN (W : WS S c x fl L) (H : (buR c B x).P h) (hF : x.m.n - 2 ^ x.m.o ∉ fl x.m.o) (hK : ∀ h', Stp h h' (buR c B x) (buR c B x) → K (.int .i64 9) h') :
    CallV Tryd.prog w₀ F.buddy_Buddy_Pull [.pointer (some ⟨B.b, 0, none⟩)] h K := by
  refine bu_Pull_ok W.ok H fun h' ok' o' S => ?_
  have e := pull_no W.rep hF
  rw [e] at S ⊢
  exact hK h' S

theorem room (W : WS S c x fl L) (hl : (x.st.n : Int) < c.limit) : x.m.n + 2 ^ x.m.o ≤ 1024 := by
  have h1 := W.g.pg
  have h2 : c.order.toNat = x.m.o := by have := W.ok.o; omega
  rw [h2] at h1
  have h3 : ((x.st.n + 1 : Nat) : Int) * ((2 ^ x.m.o : Nat) : Int) ≤ c.limit * ((2 ^ x.m.o : Nat) : Int) := Int.mul_le_mul_of_nonneg_right (by omega) (Int.natCast_nonneg _)
  have h4 : (((x.st.n + 1) * 2 ^ x.m.o : Nat) : Int) ≤ 1024 := by rw [Int.natCast_mul]; exact Int.le_trans h3 h1
  rw [W.e, ← Nat.succ_mul]
  exact Int.ofNat_le.1 h4

theorem comeS (W : WS S c x fl L) (hl : (x.st.n : Int) < c.limit) : WS S c ⟨growS c x.st, x.hd, mGrow x.m⟩ fl ((x.m.n, x.m.o) :: L) ∧ (mGrow x.m).o = x.m.o ∧ (mGrow x.m).n = x.m.n + 2 ^ x.m.o ∧
    (∀ b ∈ L, ∀ o, 4096 * b.1 ≤ o → o < 4096 * (b.1 + 2 ^ b.2) → (growS c x.st).M o = x.st.M o) ∧ PK L x.m (mGrow x.m) := by
  obtain ⟨R, eo, en, hM, pk⟩ := sim_come W.g W.rep W.e (room W hl)
  refine ⟨⟨R, ?_, W.g⟩, eo, en, hM, pk⟩
  show (mGrow x.m).n = (x.st.n + 1) * 2 ^ (mGrow x.m).o
  rw [eo, en, Nat.succ_mul, ← W.e]

theorem goS (W : WS S c x fl ((x.m.n - 2 ^ x.m.o, x.m.o) :: L)) (hn : 0 < x.st.n) (hS : ¬ S (x.m.n - 2 ^ x.m.o)) : WS S c ⟨⟨x.st.n - 1, x.st.M⟩, x.hd, mShrink x.m 1⟩ fl L ∧ (mShrink x.m 1).o = x.m.o ∧ (mShrink x.m 1).n = x.m.n - 2 ^ x.m.o := by
  have e := W.e
  have hle : 2 ^ x.m.o ≤ x.m.n := by
    rw [e]
    exact Nat.le_mul_of_pos_left _ hn
  obtain ⟨R, eo, en⟩ := sim_goes W.rep e hle hS
  refine ⟨⟨R, ?_, W.g⟩, eo, en⟩
  show (mShrink x.m 1).n = (x.st.n - 1) * 2 ^ (mShrink x.m 1).o
  rw [eo, en, e, Nat.sub_mul, Nat.one_mul]

def trimF (O : Nat) : Nat → (Nat → List Nat) → Nat × (Nat → List Nat)
  | 0, fl => (0, fl)
  | r + 1, fl => if r * 2 ^ O ∈ fl O then trimF O r (fset fl O ((fl O).filter (· ≠ r * 2 ^ O))) else (r + 1, fl)

end
end Go.Proofs.YteemmpkhdllapaaDoor
