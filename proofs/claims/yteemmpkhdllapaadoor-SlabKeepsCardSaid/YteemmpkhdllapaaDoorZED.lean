/- croftlaw7: scripts that are handed in; SlabEnds. No condition. -/
import Derived.Test.YteemmpkhdllapaaDoorZEC
import Derived.Test.YteemmpkhdllapaaDoorZX3
import Derived.Test.YteemmpkhdllapaaDoorZGcroftlaw7SlabEnds
set_option linter.unusedSimpArgs false
set_option linter.unusedVariables false
namespace Go.Proofs.YteemmpkhdllapaaDoor
open Go.V Classical

def HRow (h : Heap) (ty : Nat → TypeDesc) (m : Nat) (p : Option Addr) (n c : Nat) : Prop :=
  n ≤ c ∧ c < 9223372036854775808 ∧ (n = 0 ∨ ∃ b o, p = some ⟨b, o, none⟩ ∧ ∀ i, i < n → ∀ j, j < m → ∃ v, cellAt h ⟨b, o + i * m + j, none⟩ = some v ∧ Scal (ty j) v)

def dd7Ty : Nat → TypeDesc
  | 3 => .bool
  | _ => .int .i64

theorem dd7Row {H : Type} {enc : TypeId × Value → H} {W : World} {t e : TypeId} {fs : Array Field} {p : Option Addr} {n c : Nat} {d : DataW H} {ps : List MemPlace} (ht : Tryd.prog.underlying t = some (.slice e)) (he : Tryd.prog.underlying e = some (.struct fs)) (hm : fs.size = 4) (hce : Tryd.prog.cellsOf e = 4)
    (hf : ∀ j, j < 4 → ∃ f, fs[j]? = some f ∧ f.offset = j ∧ Tryd.prog.cellsOf f.type = 1 ∧ Tryd.prog.underlying f.type = some (dd7Ty j))
    (h : DataW.Trod enc Tryd.prog W 0 (fun _ => true) true t (.slice p n c) d ps) : HRow W.heap dd7Ty 4 p n c := structRow ht he hm (by decide) hce hf h

theorem wf_bd63 {z : Int} (w : (Lit.int .i64 z).wf = true) : bd63 z := by have := Go.bounds_i64 w; unfold bd63; omega

end Go.Proofs.YteemmpkhdllapaaDoor
