/- croftref5: New; the world with the document's own buddy. No condition. -/
import Derived.Test.YtnlcmfdmbgnpfaaGreatZAC
set_option linter.unusedSimpArgs false
set_option linter.unusedVariables false
namespace Go.Proofs.YtnlcmfdmbgnpfaaGreat
open Go.V Classical

section
variable {w₀ : World} {h : Heap} {K : Value → Heap → Prop} {O : Nat}

theorem new5_ok (hO : O ≤ 8) (hK : ∀ h' Y, New h h' (rfR Y O (fun _ => []) []) → K (pv Y O 0 []) h') :
    CallV Tryz.prog w₀ F.croftref5_New [.int .i64 (O : Int)] h K := by
  refine ref5_New_ok hO fun h' fp fc N => ?_
  have I := (((Hold.nil h).new N).new (R := inR ⟨fp, fc, fun _ => none, fun _ => 0, none, 0⟩ O fun _ => []) ⟨Upd.refl _ _, ⟨fun k hk => sl_nil _ _ _, fun i hi j hj hij b e => absurd e (sl_nil_fp b)⟩, fun b ⟨i, hi, e⟩ => absurd e (sl_nil_fp b)⟩).swap.join.new (R := liR ⟨fp, fc, fun _ => none, fun _ => 0, none, 0⟩ []) ⟨Upd.refl _ _, sl_nil _ _ _, fun b e => absurd e (sl_nil_fp b)⟩
  exact hK h' ⟨fp, fc, fun _ => none, fun _ => 0, none, 0⟩ (I.swap.join).toNew
end
end Go.Proofs.YtnlcmfdmbgnpfaaGreat
