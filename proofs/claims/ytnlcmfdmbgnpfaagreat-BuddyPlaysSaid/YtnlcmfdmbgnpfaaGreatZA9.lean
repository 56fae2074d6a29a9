/- croftref5: Pair. No condition. -/
import Derived.Test.YtnlcmfdmbgnpfaaGreatZA8
set_option linter.unusedSimpArgs false
set_option linter.unusedVariables false
namespace Go.Proofs.YtnlcmfdmbgnpfaaGreat
open Go.V Classical

section
variable {w₀ : World} {h h0 hx : Heap} {K : Value → Heap → Prop} {Y : RW5} {O : Nat} {P : Int} {fl : Nat → List Nat} {vp : Option Addr} {vn vc : Nat}

theorem ref5_Pair_ok {k q : Nat} (hO : O ≤ 8) (hk : k ≤ O) (hq : q ≤ 100000) (f : ∀ k, k ≤ O → (fl k).length ≤ 2000) (H : (frR Y O fl).P h) (hK : ∀ h', Upd NoB h h' → K (.bool (!(decide (q ∈ fl k) == decide (q + 2 ^ k ∈ fl k)))) h') :
    CallV Tryz.prog w₀ F.croftref5_Pair [dv (O : Int) P Y.fp (O + 1) Y.fc vp vn vc, .int .i64 (k : Int), .int .i64 (q : Int)] h K := by
  refine croftref5_Pair.call ?_
  unfold croftref5_Pair.vc
  have N5 := box4 h (.int .i64 (O : Int)) (.int .i64 P) (.slice Y.fp (O + 1) Y.fc) (.slice vp vn vc) T.T_croftref5_Buddy
  generalize Array.push h (.cells #[.int .i64 (O : Int), .int .i64 P, .slice Y.fp (O + 1) Y.fc, .slice vp vn vc] T.T_croftref5_Buddy) = h5 at N5 ⊢
  obtain ⟨b0, eb0⟩ : ∃ b0, b0 = h.size := ⟨_, rfl⟩
  rw [← eb0] at N5 ⊢
  have h8 := pow8 (show k ≤ 8 by omega)
  have I := (Go.V.Own.of H).new N5
  obtain ⟨k0, k1, k2, k3⟩ := f4_cells (I.at 0)
  have hl := f k hk
  refine ⟨_, k0, _, k1, _, _, _, k2, _, _, _, k3, _, k0, _, k1, _, _, _, k2, _, _, _, k3, by rw [IntKind.wrap_u64]; omega, ref5_Is_ok (Y := Y) (fl := fl) hO hk (by omega) (I.at 1) fun h6 u6 => ⟨_, rfl, ?_⟩⟩
  have I6 := I.quiet u6
  obtain ⟨k0, k1, k2, k3⟩ := f4_cells (I6.at 0)
  rw [shlI (show k ≤ 8 by omega), show IntKind.wrap .i64 ((q : Int) + ((2 ^ k : Nat) : Int)) = ((q + 2 ^ k : Nat) : Int) by rw [IntKind.wrap_i64]; omega]
  exact ⟨k0, k1, k2, k3, ref5_Is_ok (Y := Y) (fl := fl) hO hk (by omega) (I6.at 1) fun h7 u7 => ⟨_, rfl, hK h7 ((N5.u.nx u6 fun _ e _ => e).nx u7 fun _ e _ => e)⟩⟩
end
end Go.Proofs.YtnlcmfdmbgnpfaaGreat
