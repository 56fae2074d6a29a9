/- croftlaw5: a world: goes, at, page, ints; what a call does to what a world stands for. No condition. -/
import Derived.Test.YteemmpkhdllapaaDoorZBI
set_option linter.unusedSimpArgs false
set_option linter.unusedVariables false
namespace Go.Proofs.YteemmpkhdllapaaDoor
open Go.V Classical

def pgI : Option Nat → Int
  | none => -1
  | some q => (q : Int)

structure WS (S : Nat → Prop) (c : Cfg) (x : BU) (F : Nat → List Nat) (L : List PBk) : Prop where
  rep : RepS S c x F L []
  e : x.m.n = x.st.n * 2 ^ x.m.o
  g : c.Good
abbrev WI := WS noS

structure Mv (x x' : BU) (L : List PBk) : Prop where
  k : Kept L x.st x'.st
  o : x'.m.o = x.m.o
  n : x'.m.n = x.m.n
  pk : PK L x.m x'.m

section
variable {w₀ : World} {h h' : Heap} {S : Nat → Prop} {c : Cfg} {Q : WW} {x : BU} {K : Value → Heap → Prop} {fl : Nat → List Nat} {L L' : List PBk} {p k : Nat}

theorem WS.ok (W : WS S c x fl L) : BU.Ok c x := W.rep.ok
theorem WS.perm (W : WS S c x fl L) (h : L.Perm L') : WS S c x fl L' := ⟨W.rep.permL h, W.e, W.g⟩

theorem WS.mv {x' : BU} {F' : Nat → List Nat} {L0 : List PBk} (W : WS S c x fl L) (G : Go' S c x x' F' L0 L') : WS S c x' F' L' ∧ Mv x x' L0 :=
  ⟨⟨G.r, by rw [G.n, G.k.1, G.o]; exact W.e, W.g⟩, ⟨G.k, G.o, G.n, G.pk⟩⟩

end
end Go.Proofs.YteemmpkhdllapaaDoor
