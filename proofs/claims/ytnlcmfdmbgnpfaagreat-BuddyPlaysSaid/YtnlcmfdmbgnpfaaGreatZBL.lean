/- croftlaw5: what the book says of the lists: stuck, meets, the topmost region. No condition. -/
import Derived.Test.YtnlcmfdmbgnpfaaGreatZBK
set_option linter.unusedSimpArgs false
set_option linter.unusedVariables false
namespace Go.Proofs.YtnlcmfdmbgnpfaaGreat
open Go.V Classical

def Mk (st : Sto) (l : List Bk) : Prop := ∀ b ∈ l, ∀ o, 4096 * b.p ≤ o → o < 4096 * (b.p + 2 ^ b.k) → st.M o = b.m

theorem Mk.kept {st st' : Sto} {l : List Bk} (H : Mk st l) (k : Kept (lvB l) st st') : Mk st' l := fun b hb o h1 h2 => by
  rw [k.2 b.b (List.mem_map.2 ⟨b, hb, rfl⟩) o h1 h2]; exact H b hb o h1 h2

section
variable {c : Cfg} {x : BU} {fl : Nat → List Nat} {l : List Bk} {L : List PBk} {p k o : Nat}

theorem WS.al {S : Nat → Prop} (W : WS S c x fl L) {b : PBk} (h : b ∈ L) : b.2 ≤ x.m.o ∧ b.1 % 2 ^ b.2 = 0 ∧ b.1 + 2 ^ b.2 ≤ x.m.n :=
  W.rep.til.al b (List.mem_append_right _ (List.mem_append_left _ h))

theorem WS.til {S : Nat → Prop} (W : WS S c x fl L) : Tile x.m.o x.m.n (L ++ blks x.m.o fl) := W.rep.til

theorem WS.nd {S : Nat → Prop} (W : WS S c x fl L) : L.Nodup := (List.nodup_append.1 W.til.nodup).1

end
end Go.Proofs.YtnlcmfdmbgnpfaaGreat
