/- croftlaw5: the document's buddy put into the world. No condition. -/
import Derived.Test.YtnlcmfdmbgnpfaaGreatZAE
set_option linter.unusedSimpArgs false
set_option linter.unusedVariables false
namespace Go.Proofs.YtnlcmfdmbgnpfaaGreat
open Go.V Classical

section
variable {h h' : Heap} {c : Cfg} {Q : WZ} {O P n : Nat}

theorem wz_put (B : (blkR Q.wb 10 (wzF c Q O P n)).P h) (Y' : RW5) (P' n' : Nat) : WrN h ((⟨Q.wb, 0, none⟩ : Addr).add 6) 4 ∧
    Stp h (setCs h ((⟨Q.wb, 0, none⟩ : Addr).add 6) 0 [.int .i64 (O : Int), .int .i64 (P' : Int), .slice Y'.fp (O + 1) Y'.fc, .slice Y'.vp n' Y'.vc]) (blkR Q.wb 10 (wzF c Q O P n)) (blkR Q.wb 10 (wzF c { Q with Y := Y' } O P' n')) := by
  rw [add_mk, Nat.zero_add]
  have B : Blk h Q.wb 10 (wzF c Q O P n) := B
  refine ⟨fun j hj => by rw [add_mk]; exact B.wr (by omega), Stp.sets B [.int .i64 (O : Int), .int .i64 (P' : Int), .slice Y'.fp (O + 1) Y'.fc, .slice Y'.vp n' Y'.vc] 6 0 fun j hj => ?_⟩
  have : j = 0 ∨ j = 1 ∨ j = 2 ∨ j = 3 ∨ j = 4 ∨ j = 5 ∨ j = 6 ∨ j = 7 ∨ j = 8 ∨ j = 9 := by omega
  rcases this with rfl | rfl | rfl | rfl | rfl | rfl | rfl | rfl | rfl | rfl <;> rfl
end
end Go.Proofs.YtnlcmfdmbgnpfaaGreat
