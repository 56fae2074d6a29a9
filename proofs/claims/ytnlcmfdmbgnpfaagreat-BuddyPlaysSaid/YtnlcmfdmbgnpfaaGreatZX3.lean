/- Lists of structs of numbers and truths that are handed in, out of their reading. No condition. -/
import Derived.Test.YtnlcmfdmbgnpfaaGreatZM2
import Derived.Lib.SmallJoins
set_option linter.unusedVariables false
set_option linter.unusedSimpArgs false
namespace Go.V
open Go.RowKit

def Scal (d : TypeDesc) (v : Value) : Prop :=
  match d with
  | .int k => ∃ z, v = .int k z ∧ (Lit.int k z).wf = true
  | .bool => ∃ b, v = .bool b
  | _ => True

section
variable {H : Type} {enc : TypeId × Value → H} {P : Program} {W : World}

theorem scal_of {t : TypeId} {d : TypeDesc} {fuel : Nat} {v : Value} {x : DataW H × List MemPlace} (hd : P.underlying t = some d) (h : DataW.trod enc P W 0 (fun _ => true) true fuel t [v] = some x) : Scal d v := by
  unfold Scal
  split
  · obtain ⟨z, e, _, w⟩ := DataW.trod_int hd h
    simp only [List.cons.injEq, and_true] at e
    exact ⟨z, e, w⟩
  · obtain ⟨b, e, _⟩ := DataW.trod_bool hd h
    simp only [List.cons.injEq, and_true] at e
    exact ⟨b, e⟩
  · trivial

theorem structCells {e : TypeId} {fs : Array Field} {m : Nat} {ty : Nat → TypeDesc} {fuel : Nat} {cs : List Value} {x : DataW H × List MemPlace} (he : P.underlying e = some (.struct fs)) (hm : fs.size = m)
    (hf : ∀ j, j < m → ∃ f, fs[j]? = some f ∧ f.offset = j ∧ P.cellsOf f.type = 1 ∧ P.underlying f.type = some (ty j)) (hl : cs.length = m)
    (h : DataW.trod enc P W 0 (fun _ => true) true fuel e cs = some x) : ∀ j, j < m → ∃ v, cs[j]? = some v ∧ Scal (ty j) v := by
  obtain ⟨xs, n, _, _, _, hx, hfx⟩ := DataW.trod_struct he h
  intro j hj
  obtain ⟨f, h1, h2, h3, h4⟩ := hf j hj
  have h5 := hfx j f h1
  have hlt : j < xs.length := by rw [hx, hm]; exact hj
  rw [h2, h3, List.getElem?_eq_getElem hlt] at h5
  have h6 : (cs.drop j).take 1 = [cs[j]] := by
    rw [List.drop_eq_getElem_cons (by omega)]
    rfl
  rw [h6] at h5
  exact ⟨cs[j], List.getElem?_eq_getElem (by omega), scal_of h4 h5⟩

theorem structRow {t e : TypeId} {fs : Array Field} {m : Nat} {ty : Nat → TypeDesc} {p : Option Addr} {n c : Nat} {d : DataW H} {ps : List MemPlace} (ht : P.underlying t = some (.slice e)) (he : P.underlying e = some (.struct fs)) (hm : fs.size = m) (hm0 : 0 < m) (hce : P.cellsOf e = m)
    (hf : ∀ j, j < m → ∃ f, fs[j]? = some f ∧ f.offset = j ∧ P.cellsOf f.type = 1 ∧ P.underlying f.type = some (ty j))
    (h : DataW.Trod enc P W 0 (fun _ => true) true t (.slice p n c) d ps) :
    n ≤ c ∧ c < 9223372036854775808 ∧ (n = 0 ∨ ∃ b o, p = some ⟨b, o, none⟩ ∧ ∀ i, i < n → ∀ j, j < m → ∃ v, cellAt W.heap ⟨b, o + i * m + j, none⟩ = some v ∧ Scal (ty j) v) := by
  obtain ⟨fuel, hf'⟩ := h
  rcases DataW.trod_slice ht hf' with ⟨hcs, _⟩ | ⟨a, len, cap, elems, rest, k, _, hcs, _, _, hl, hmx, hlen, hel, _⟩
  · simp only [Value.cells, List.cons.injEq, Value.slice.injEq, and_true] at hcs
    obtain ⟨rfl, rfl, rfl⟩ := hcs
    exact ⟨Nat.le_refl _, by decide, .inl rfl⟩
  · simp only [Value.cells, List.cons.injEq, Value.slice.injEq, and_true] at hcs
    obtain ⟨rfl, rfl, rfl⟩ := hcs
    have each : ∀ i, i < n → ∀ j, j < m → ∃ v, W.cell? ((a.add (i * m)).add j) = some v ∧ Scal (ty j) v := by
      intro i hi j hj
      have h1 := hel i hi
      rw [hce, List.getElem?_eq_getElem (by omega)] at h1
      simp only [Option.bind_eq_some_iff] at h1
      obtain ⟨cs, hc1, hc2⟩ := h1
      obtain ⟨_, hlm, hcell⟩ := World.cells?_some hc1
      obtain ⟨v, hv, hs⟩ := structCells he hm hf (by omega) hc2 j hj
      exact ⟨v, by rw [hcell j (by omega), hv], hs⟩
    refine ⟨hl, ?_, ?_⟩
    · have : maxLen = 9223372036854775807 := rfl
      omega
    · rcases Nat.eq_zero_or_pos n with h0 | h0
      · exact .inl h0
      · obtain ⟨v, h1, _⟩ := each 0 h0 0 hm0
        have hs0 : a.spot = none := by
          have hadd : (a.add (0 * m)).add 0 = a := by simp [Addr.add]
          rw [hadd] at h1
          have h1' : cellAt W.heap a = some _ := h1
          obtain ⟨_, _, _, _, hs, _⟩ := cellAt_block (h := W.heap) (a := a) (by rw [h1']; rfl)
          exact hs
        obtain ⟨ab, ao, asp⟩ := a
        simp only at hs0
        subst hs0
        refine .inr ⟨ab, ao, rfl, fun i hi j hj => ?_⟩
        obtain ⟨v, h1, h2⟩ := each i hi j hj
        have e : ((⟨ab, ao, none⟩ : Addr).add (i * m)).add j = ⟨ab, ao + i * m + j, none⟩ := by rw [add_mk, add_mk]
        exact ⟨v, (congrArg (fun a => W.cell? a) e.symm).trans h1, h2⟩

end
end Go.V
