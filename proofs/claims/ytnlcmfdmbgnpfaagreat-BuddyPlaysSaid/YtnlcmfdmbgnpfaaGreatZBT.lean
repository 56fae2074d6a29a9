/- croftlaw5: tiled. No condition. -/
import Derived.Test.YtnlcmfdmbgnpfaaGreatZBO
set_option linter.unusedSimpArgs false
set_option linter.unusedVariables false
namespace Go.Proofs.YtnlcmfdmbgnpfaaGreat
open Go.V Classical

def intF (G : Nat → Int) : Nat → Value := fun q => .int .i64 (G q)

def In (bs : List PBk) (q : Nat) : Prop := ∃ b ∈ bs, Cov b q

theorem In.nil (q : Nat) : ¬ In [] q := fun ⟨b, hb, _⟩ => by cases hb

def Beg (fl : Nat → List Nat) (o i : Nat) (G : Nat → Int) : Prop := ∀ q k : Nat, G q = (k : Int) + 1 ↔ (k < o ∧ q ∈ fl k) ∨ (k = o ∧ q ∈ (fl o).take i)

theorem take_snoc {l : List Nat} {i : Nat} (hi : i < l.length) : l.take (i + 1) = l.take i ++ [l.getD i 0] := by
  rw [List.take_add_one, List.getD_eq_getElem?_getD, List.getElem?_eq_getElem hi]; rfl

theorem getD_mem {l : List Nat} {i : Nat} (hi : i < l.length) : l.getD i 0 ∈ l := by
  rw [List.getD_eq_getElem?_getD, List.getElem?_eq_getElem hi]; exact List.getElem_mem hi

section
variable {w₀ : World} {h : Heap} {K : Value → Heap → Prop} {c : Cfg} {Q : WW} {x : BU} {fl : Nat → List Nat} {l : List Bk} {bp : Option Addr} {bc : Nat}

theorem Beg.put {o i : Nat} {G : Nat → Int} (W : WI c x fl (lvB l)) (ho : o ≤ x.m.o) (B : Beg fl o i G) (hi : i < (fl o).length) : Beg fl o (i + 1) fun y => if y = (fl o).getD i 0 then (o : Int) + 1 else G y := by
  intro q k
  have hm := getD_mem hi
  rw [take_snoc hi]
  generalize (fl o).getD i 0 = p at hm
  simp only [List.mem_append, List.mem_singleton]
  by_cases e : q = p
  · subst e
    rw [if_pos rfl]
    constructor
    · intro hk
      exact .inr ⟨by omega, .inr rfl⟩
    · rintro (⟨hk, hq⟩ | ⟨hk, _⟩)
      · have := W.rep.one ho (Nat.le_of_lt (Nat.lt_of_lt_of_le hk ho)) hm hq
        omega
      · omega
  · rw [if_neg e, B q k]
    constructor
    · rintro (h | ⟨h1, h2⟩)
      · exact .inl h
      · exact .inr ⟨h1, .inl h2⟩
    · rintro (h | ⟨h1, h2 | h2⟩)
      · exact .inl h
      · exact .inr ⟨h1, h2⟩
      · exact absurd h2 e

theorem Beg.next {o : Nat} {G : Nat → Int} (B : Beg fl o (fl o).length G) : Beg fl (o + 1) 0 G := by
  intro q k
  rw [B q k, List.take_length]
  constructor
  · rintro (⟨h1, h2⟩ | ⟨rfl, h2⟩)
    · exact .inl ⟨by omega, h2⟩
    · exact .inl ⟨by omega, h2⟩
  · rintro (⟨h1, h2⟩ | ⟨_, h2⟩)
    · rcases Nat.lt_or_ge k o with h | h
      · exact .inl ⟨h, h2⟩
      · have : k = o := by omega
        subst this; exact .inr ⟨rfl, h2⟩
    · cases h2

end
end Go.Proofs.YtnlcmfdmbgnpfaaGreat
