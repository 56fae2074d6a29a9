/- A scope with labels, over heaps: whatever is closed under its passes holds at its labels. No condition. -/
import Derived.Test.YtfijahblggnbbaaV0
import Derived.Scope
set_option linter.unusedVariables false
namespace Go.V
open Go.RowKit

def jumpH (c : Code) (J : Nat → Act → Heap → Prop) (Q : Exit → Act → Heap → Prop) : Exit → Act → Heap → Prop
  | .goto l, a, h => if (findLabel c l).isSome then J l a h else Q (.goto l) a h
  | e, a, h => Q e a h

def ScopeA (r : Option Nat) (P : Program) (w₀ : World) (c : Code) (Q : Exit → Act → Heap → Prop) (a : Act) (h : Heap) : Prop :=
  ∀ J : Nat → Act → Heap → Prop, (∀ l rest a h, findLabel c l = some rest → WA r P w₀ rest (jumpH c J Q) a h → J l a h) → WA r P w₀ c (jumpH c J Q) a h

section
variable {r : Option Nat} {P : Program} {w₀ : World} {Q : Exit → Act → Heap → Prop} {a : Act} {h : Heap} {b : Frame} {k : List Item} {cs : List Frame} {w : World}

theorem stepR_scope {c : Code} : step P (lone (b.atR a (.code (.scope c) :: k)) cs w) = .next (lone (b.atR a (.code c :: .inScope c :: k)) cs w) :=
  step_lone_go (by simp [stepG, stepG.exec, Frame.atR])
theorem stepR_inScope {c : Code} : step P (lone (b.atR a (.inScope c :: k)) cs w) = .next (lone (b.atR a k) cs w) :=
  step_lone_go (by simp [stepG, stepG.exec, Frame.atR])

theorem passScope {I : Machine → Prop} {m : Machine} {c : Code} {e : Exit} (hn : e ≠ .normal) (hg : ∀ l, e = .goto l → findLabel c l = none) (H : ArrivesIn I P m b (.inScope c :: k) cs e a w) : ArrivesIn I P m b k cs e a w := by
  cases e with
  | normal => exact absurd rfl hn
  | exit id => exact ⟨fun k' hk => H.1 k' (by simpa [exitTo] using hk), fun hr hk => H.2 hr (by simpa [exitTo] using hk)⟩
  | goto l =>
    have h1 := hg l rfl
    exact ⟨fun k' hk => H.1 k' (by simpa [gotoIn, h1] using hk), fun hr hk => H.2 hr (by simpa [gotoIn, h1] using hk)⟩
  | ret => exact H
  | panic chain => exact H
  | outgrown => exact H

theorem WA_scope {c : Code} (H : ScopeA r P w₀ c Q a h) : WA r P w₀ (.scope c) Q a h := by
  let Go : Code → Act → Heap → Prop := fun rest a h => ∀ (n : Nat) (b : Frame) (k : List Item) (cs : List Frame), b.roundOf = (Fr r).round → (Fr r).fn b.fn → (Fr r).room (cs.length + 1 + 0) →
      ∃ e a' w', lft w₀ Q e a' w' ∧ ArrivesIn (Machine.fenced P (Fr r)) P (lone (b.atR a (.code rest :: .inScope c :: k)) cs (on w₀ h n)) b k cs e a' w'
  let J : Nat → Act → Heap → Prop := fun l a h => ∀ rest, findLabel c l = some rest → Go rest a h
  have run : ∀ rest a h, WA r P w₀ rest (jumpH c J Q) a h → Go rest a h := by
    intro rest a h hW n b k cs hro hb hr
    obtain ⟨e, a₁, w₁, ⟨h₁, n₁, rfl, hq⟩, harr⟩ := hW n b (.inScope c :: k) cs hro hb hr
    cases e with
    | normal => exact ⟨.normal, a₁, _, ⟨h₁, n₁, rfl, hq⟩, StepsIn.trans harr (.one (fenced_calm hb hr rfl) stepR_inScope)⟩
    | goto l =>
      cases hf : findLabel c l with
      | some rest' =>
        have hq : (if (findLabel c l).isSome then J l a₁ h₁ else Q (.goto l) a₁ h₁) := hq
        rw [hf] at hq
        obtain ⟨e₂, a₂, w₂, hq₂, harr₂⟩ := hq rest' hf n₁ b k cs hro hb hr
        exact ⟨e₂, a₂, w₂, hq₂, .of_steps (harr.1 _ (by simp [gotoIn, hf])) harr₂⟩
      | none =>
        have hq : (if (findLabel c l).isSome then J l a₁ h₁ else Q (.goto l) a₁ h₁) := hq
        rw [hf] at hq
        exact ⟨_, a₁, _, ⟨h₁, n₁, rfl, hq⟩, passScope (by simp) (fun l' e => by cases e; exact hf) harr⟩
    | exit id => exact ⟨_, a₁, _, ⟨h₁, n₁, rfl, hq⟩, passScope (by simp) (fun l e => by cases e) harr⟩
    | ret => exact ⟨_, a₁, _, ⟨h₁, n₁, rfl, hq⟩, passScope (by simp) (fun l e => by cases e) harr⟩
    | panic ch => exact ⟨_, a₁, _, ⟨h₁, n₁, rfl, hq⟩, passScope (by simp) (fun l e => by cases e) harr⟩
    | outgrown => exact ⟨_, a₁, _, ⟨h₁, n₁, rfl, hq⟩, passScope (by simp) (fun l e => by cases e) harr⟩
  have key := run c a h (H J fun l rest a h hf hW rest' hf' => by
    rw [hf] at hf'
    cases hf'
    exact run _ a h hW)
  intro n b k cs hro hb hr
  obtain ⟨e, a', w', hq, harr⟩ := key n b k cs hro hb hr
  exact ⟨e, a', w', hq, .of_steps (.one (fenced_calm hb hr rfl) stepR_scope) harr⟩

end
end Go.V
