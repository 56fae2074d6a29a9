/- croftlaw7: the book of live stretches, against what a slab's state stands for: plain laws. No condition. -/
import Derived.Test.YteemmpkhdllapaaDoorZEC
set_option linter.unusedSimpArgs false
set_option linter.unusedVariables false
namespace Go.Proofs.YteemmpkhdllapaaDoor
open Go.V Classical

structure CE where
  a : Nat
  n : Nat
  m : Int

def Lv (S : Nat → Prop) (L : List PBk) (cl : Nat → Nat) (fr : Nat → List Nat) (a n : Nat) : Prop :=
  (∃ q k, (q, k) ∈ L ∧ ¬ S q ∧ a = 4096 * q ∧ n = 4096 * 2 ^ k) ∨ (∃ q j, S q ∧ j < cnt (cl q) ∧ j ∉ fr q ∧ a = 4096 * q + j * wdt (cl q) ∧ n = wdt (cl q))

structure Book (l : List CE) (S : Nat → Prop) (L : List PBk) (cl : Nat → Nat) (fr : Nat → List Nat) : Prop where
  mem : ∀ a n, Lv S L cl fr a n ↔ ∃ e ∈ l, e.a = a ∧ e.n = n
  dj : l.Pairwise fun e e' => e.a ≠ e'.a
  lv : ∀ q, S q → (fr q).length < cnt (cl q)

section
variable {c : Cfg} {x : BU} {hp : Nat → Int} {S S' : Nat → Prop} {fl : Nat → List Nat} {L L' : List PBk} {cl cl' : Nat → Nat} {fr fr' pl : Nat → List Nat} {p k q j : Nat} {l : List CE}

/-! ### What the calls do to the book -/
theorem Book.add (B : Book l S L cl fr) {a n : Nat} (m : Int) (hl : ∀ q, S' q → (fr' q).length < cnt (cl' q)) (h : ∀ a' n', Lv S' L' cl' fr' a' n' ↔ Lv S L cl fr a' n' ∨ (a' = a ∧ n' = n)) (hf : ∀ n', ¬ Lv S L cl fr a n') : Book (l ++ [⟨a, n, m⟩]) S' L' cl' fr' := by
  refine ⟨fun a' n' => ?_, List.pairwise_append.2 ⟨B.dj, List.pairwise_singleton _ _, fun e he e' he' ea => ?_⟩, hl⟩
  · rw [h, B.mem]
    constructor
    · rintro (⟨e, he, h1, h2⟩ | ⟨h1, h2⟩)
      · exact ⟨e, List.mem_append_left _ he, h1, h2⟩
      · exact ⟨_, List.mem_append_right _ (List.mem_singleton.2 rfl), h1.symm, h2.symm⟩
    · rintro ⟨e, he, h1, h2⟩
      rcases List.mem_append.1 he with he | he
      · exact .inl ⟨e, he, h1, h2⟩
      · rw [List.mem_singleton.1 he] at h1 h2
        exact .inr ⟨h1.symm, h2.symm⟩
  · rw [List.mem_singleton.1 he'] at ea
    exact hf e.n ((B.mem a e.n).2 ⟨e, he, ea, rfl⟩)

end
end Go.Proofs.YteemmpkhdllapaaDoor
