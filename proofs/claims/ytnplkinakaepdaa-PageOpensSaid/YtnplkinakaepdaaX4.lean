/- Lists of pages and lists of lists of words that are handed in, out of their reading. No condition. -/
import Derived.Test.YtnplkinakaepdaaX3
import Derived.Test.YtnplkinakaepdaaP9
import Derived.OpenShut
set_option linter.unusedVariables false
set_option linter.unusedSimpArgs false
namespace Go.Proofs.Ytnplkinakaepdaa
open Go.V Go.RowKit

def Pgs (h : Heap) (p : Option Addr) (n c : Nat) : Prop := ∃ pg : Nat → Nat → Int, n ≤ c ∧ c < 9223372036854775808 ∧ Row h p (n * 11) (pgF pg) ∧
  ∀ i, i < n → (∀ j, j < 7 → -9223372036854775808 ≤ pg i j ∧ pg i j ≤ 9223372036854775807) ∧ ∀ j, j < 11 → 7 ≤ j → 0 ≤ pg i j ∧ pg i j < 18446744073709551616

def Prs (h : Heap) (p : Option Addr) (n c : Nat) : Prop := ∃ (wp : Nat → Option Addr) (wn wc : Nat → Nat) (ws : Nat → Nat → Nat), n ≤ c ∧ c < 9223372036854775808 ∧ PairsIn h p n wp wn wc ws

section
variable {H : Type} {enc : TypeId × Value → H} {P : Program} {W : World}

theorem pgCells {e tu : TypeId} {fs : Array Field} {fuel : Nat} {cs : List Value} {x : DataW H × List MemPlace} (he : P.underlying e = some (.struct fs)) (hm : fs.size = 8)
    (hf : ∀ j, j < 7 → ∃ f, fs[j]? = some f ∧ f.offset = j ∧ P.cellsOf f.type = 1 ∧ P.underlying f.type = some (.int .i64))
    (ha : ∃ f, fs[7]? = some f ∧ f.offset = 7 ∧ P.cellsOf f.type = 4 ∧ P.underlying f.type = some (.array 4 tu)) (hu : P.underlying tu = some (.int .u64)) (cu : P.cellsOf tu = 1) (hl : cs.length = 11)
    (h : DataW.trod enc P W 0 (fun _ => true) true fuel e cs = some x) : ∀ j, j < 11 → ∃ z, cs[j]? = some (pcl j z) ∧ (j < 7 → (Lit.int .i64 z).wf = true) ∧ (7 ≤ j → (Lit.int .u64 z).wf = true) := by
  obtain ⟨xs, n, _, _, _, hx, hfx⟩ := DataW.trod_struct he h
  intro j hj
  by_cases h7 : j < 7
  · obtain ⟨f, h1, h2, h3, h4⟩ := hf j h7
    have h5 := hfx j f h1
    have hlt : j < xs.length := by rw [hx, hm]; omega
    rw [h2, h3, List.getElem?_eq_getElem hlt] at h5
    have h6 : (cs.drop j).take 1 = [cs[j]] := by
      rw [List.drop_eq_getElem_cons (by omega)]
      rfl
    rw [h6] at h5
    obtain ⟨z, e1, _, w⟩ := DataW.trod_int h4 h5
    simp only [List.cons.injEq, and_true] at e1
    refine ⟨z, ?_, fun _ => w, fun e => by omega⟩
    rw [List.getElem?_eq_getElem (by omega), e1]
    unfold pcl
    rw [if_pos h7]
  · obtain ⟨f, h1, h2, h3, h4⟩ := ha
    have h5 := hfx 7 f h1
    have hlt : 7 < xs.length := by rw [hx, hm]; omega
    rw [h2, h3, List.getElem?_eq_getElem hlt] at h5
    obtain ⟨ys, k, _, _, _, hy, hyx⟩ := DataW.trod_array h4 h5
    have h8 := hyx (j - 7) (by omega)
    rw [cu, List.getElem?_eq_getElem (by omega)] at h8
    have h6 : ((((cs.drop 7).take 4).drop ((j - 7) * 1)).take 1) = [cs[j]] := by
      apply List.ext_getElem?
      intro i
      cases i with
      | zero =>
        rw [List.getElem?_take, if_pos (by omega), List.getElem?_drop, List.getElem?_take, if_pos (by omega), List.getElem?_drop]
        rw [show 7 + ((j - 7) * 1 + 0) = j by omega, List.getElem?_eq_getElem (by omega)]
        rfl
      | succ i =>
        rw [List.getElem?_take, if_neg (by omega)]
        rfl
    rw [h6] at h8
    obtain ⟨z, e1, _, w⟩ := DataW.trod_int hu h8
    simp only [List.cons.injEq, and_true] at e1
    refine ⟨z, ?_, fun e => absurd e h7, fun _ => w⟩
    rw [List.getElem?_eq_getElem (by omega), e1]
    unfold pcl
    rw [if_neg h7]

theorem pgRow {t e tu : TypeId} {fs : Array Field} {p : Option Addr} {n c : Nat} {d : DataW H} {ps : List MemPlace} (ht : P.underlying t = some (.slice e)) (he : P.underlying e = some (.struct fs)) (hm : fs.size = 8) (hce : P.cellsOf e = 11)
    (hf : ∀ j, j < 7 → ∃ f, fs[j]? = some f ∧ f.offset = j ∧ P.cellsOf f.type = 1 ∧ P.underlying f.type = some (.int .i64))
    (ha : ∃ f, fs[7]? = some f ∧ f.offset = 7 ∧ P.cellsOf f.type = 4 ∧ P.underlying f.type = some (.array 4 tu)) (hu : P.underlying tu = some (.int .u64)) (cu : P.cellsOf tu = 1)
    (h : DataW.Trod enc P W 0 (fun _ => true) true t (.slice p n c) d ps) : Pgs W.heap p n c := by
  obtain ⟨fuel, hf'⟩ := h
  rcases DataW.trod_slice ht hf' with ⟨hcs, _⟩ | ⟨a, len, cap, elems, rest, k, _, hcs, _, _, hl, hmx, hlen, hel, _⟩
  · simp only [Value.cells, List.cons.injEq, Value.slice.injEq, and_true] at hcs
    obtain ⟨rfl, rfl, rfl⟩ := hcs
    exact ⟨fun _ _ => 0, Nat.le_refl _, by decide, .inl rfl, fun i hi => absurd hi (by omega)⟩
  · simp only [Value.cells, List.cons.injEq, Value.slice.injEq, and_true] at hcs
    obtain ⟨rfl, rfl, rfl⟩ := hcs
    have each : ∀ i j, ∃ z : Int, i < n → j < 11 → W.cell? ((a.add (i * 11)).add j) = some (pcl j z) ∧ (j < 7 → (Lit.int .i64 z).wf = true) ∧ (7 ≤ j → (Lit.int .u64 z).wf = true) := by
      intro i j
      by_cases hij : i < n ∧ j < 11
      · have h1 := hel i hij.1
        rw [hce, List.getElem?_eq_getElem (by omega)] at h1
        simp only [Option.bind_eq_some_iff] at h1
        obtain ⟨cs, hc1, hc2⟩ := h1
        obtain ⟨_, hlm, hcell⟩ := World.cells?_some hc1
        obtain ⟨z, hv, hs⟩ := pgCells he hm hf ha hu cu (by omega) hc2 j hij.2
        exact ⟨z, fun _ _ => ⟨by rw [hcell j (by omega), hv], hs⟩⟩
      · exact ⟨0, fun h1 h2 => absurd ⟨h1, h2⟩ hij⟩
    refine ⟨fun i j => (each i j).choose, hl, ?_, ?_, fun i hi => ⟨fun j hj => ?_, fun j hj h7 => ?_⟩⟩
    · have : maxLen = 9223372036854775807 := rfl
      omega
    · rcases Nat.eq_zero_or_pos n with h0 | h0
      · exact .inl (by omega)
      · obtain ⟨v, h1⟩ : ∃ v, W.cell? ((a.add (0 * 11)).add 0) = some v := ⟨_, ((each 0 0).choose_spec h0 (by omega)).1⟩
        have hs0 : a.spot = none := by
          have hadd : (a.add (0 * 11)).add 0 = a := by simp [Addr.add]
          rw [hadd] at h1
          have h1' : cellAt W.heap a = some _ := h1
          obtain ⟨_, _, _, _, hs, _⟩ := cellAt_block (h := W.heap) (a := a) (by rw [h1']; rfl)
          exact hs
        obtain ⟨ab, ao, asp⟩ := a
        simp only at hs0
        subst hs0
        refine .inr ⟨ab, ao, rfl, fun y hy => ?_⟩
        have h2 := ((each (y / 11) (y % 11)).choose_spec (by omega) (by omega)).1
        have e : ((⟨ab, ao, none⟩ : Addr).add (y / 11 * 11)).add (y % 11) = ⟨ab, ao + y, none⟩ := by
          rw [add_mk, add_mk]
          congr 1
          omega
        exact (congrArg (fun a => W.cell? a) e.symm).trans h2
    · have := Go.bounds_i64 (((each i j).choose_spec hi (by omega)).2.1 hj)
      show -9223372036854775808 ≤ (each i j).choose ∧ (each i j).choose ≤ 9223372036854775807
      omega
    · have := Go.bounds_u64 (((each i j).choose_spec hi hj).2.2 h7)
      show 0 ≤ (each i j).choose ∧ (each i j).choose < 18446744073709551616
      omega

theorem wordsRow {t e u : TypeId} {p : Option Addr} {n c : Nat} {d : DataW H} {ps : List MemPlace} (ht : P.underlying t = some (.slice e)) (he : P.underlying e = some (.slice u)) (hu : P.underlying u = some (.int .u64)) (ce : P.cellsOf e = 1) (cu : P.cellsOf u = 1)
    (h : DataW.Trod enc P W 0 (fun _ => true) true t (.slice p n c) d ps) : Prs W.heap p n c := by
  obtain ⟨fuel, hf'⟩ := h
  rcases DataW.trod_slice ht hf' with ⟨hcs, _⟩ | ⟨a, len, cap, elems, rest, k, _, hcs, _, _, hl, hmx, hlen, hel, _⟩
  · simp only [Value.cells, List.cons.injEq, Value.slice.injEq, and_true] at hcs
    obtain ⟨rfl, rfl, rfl⟩ := hcs
    exact ⟨fun _ => none, fun _ => 0, fun _ => 0, fun _ _ => 0, Nat.le_refl _, by decide, .inl rfl, fun k hk => absurd hk (by omega), fun k j hk => absurd hk (by omega)⟩
  · simp only [Value.cells, List.cons.injEq, Value.slice.injEq, and_true] at hcs
    obtain ⟨rfl, rfl, rfl⟩ := hcs
    have each : ∀ i, ∃ (y : Option Addr × Nat × Nat) (g : Nat → Int), i < n → W.cell? (a.add (i * 1)) = some (.slice y.1 y.2.1 y.2.2) ∧ y.2.1 ≤ y.2.2 ∧ Row W.heap y.1 y.2.2 (fun i => .int .u64 (g i)) ∧ ∀ i, i < y.2.2 → (Lit.int .u64 (g i)).wf = true := by
      intro i
      by_cases hi : i < n
      · have h1 := hel i hi
        rw [ce, List.getElem?_eq_getElem (by omega)] at h1
        simp only [Option.bind_eq_some_iff] at h1
        obtain ⟨cs, hc1, hc2⟩ := h1
        obtain ⟨_, hlm, hcell⟩ := World.cells?_some hc1
        have key : ∃ p n c, cs = [.slice p n c] := by
          rcases ChangeShapes.open_ints he hu cu hc2 with ⟨hcs, _⟩ | ⟨a, len, cap, zs, hcs, _⟩
          · exact ⟨none, 0, 0, hcs⟩
          · exact ⟨some a, len, cap, hcs⟩
        obtain ⟨p', n', c', rfl⟩ := key
        obtain ⟨g, q1, q2, q3, q4⟩ := byteRow (d := _) (ps := _) he hu cu ⟨k, hc2⟩
        have h0 := hcell 0 (by omega)
        have hadd : (a.add (i * 1)).add 0 = a.add (i * 1) := by simp [Addr.add]
        rw [hadd] at h0
        exact ⟨(p', n', c'), g, fun _ => ⟨h0, q1, q3, q4⟩⟩
      · exact ⟨(none, 0, 0), fun _ => 0, fun e => absurd e hi⟩
    have spec := fun i (hi : i < n) => (each i).choose_spec.choose_spec hi
    have bd := fun i (hi : i < n) j hj => Go.bounds_u64 ((spec i hi).2.2.2 j hj)
    refine ⟨fun i => (each i).choose.1, fun i => (each i).choose.2.1, fun i => (each i).choose.2.2, fun i j => ((each i).choose_spec.choose j).toNat, hl, ?_, ?_, fun k hk => ?_, fun k j hk hj => ?_⟩
    · have : maxLen = 9223372036854775807 := rfl
      omega
    · rcases Nat.eq_zero_or_pos n with h0 | h0
      · exact .inl h0
      · obtain ⟨v, h1⟩ : ∃ v, W.cell? (a.add (0 * 1)) = some v := ⟨_, (spec 0 h0).1⟩
        have hs0 : a.spot = none := by
          have hadd : a.add (0 * 1) = a := by simp [Addr.add]
          rw [hadd] at h1
          have h1' : cellAt W.heap a = some _ := h1
          obtain ⟨_, _, _, _, hs, _⟩ := cellAt_block (h := W.heap) (a := a) (by rw [h1']; rfl)
          exact hs
        obtain ⟨ab, ao, asp⟩ := a
        simp only at hs0
        subst hs0
        refine .inr ⟨ab, ao, rfl, fun y hy => ?_⟩
        have h2 := (spec y hy).1
        have e : (⟨ab, ao, none⟩ : Addr).add (y * 1) = ⟨ab, ao + y, none⟩ := by rw [add_mk, Nat.mul_one]
        exact (congrArg (fun a => W.cell? a) e.symm).trans h2
    · refine ((spec k hk).2.2.1.take (spec k hk).2.1).congr fun j hj => ?_
      have := bd k hk j (Nat.lt_of_lt_of_le hj (spec k hk).2.1)
      rw [Int.toNat_of_nonneg (by omega)]
    · have := bd k hk j (Nat.lt_of_lt_of_le hj (spec k hk).2.1)
      show ((each k).choose_spec.choose j).toNat < 18446744073709551616
      omega

end
end Go.Proofs.Ytnplkinakaepdaa
