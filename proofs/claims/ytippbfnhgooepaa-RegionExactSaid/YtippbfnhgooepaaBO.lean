/- croftlaw5: rows of deeds; BuddyExactly. No condition. -/
import Derived.Test.YtippbfnhgooepaaBN
import Derived.Test.YtippbfnhgooepaaX3
set_option linter.unusedSimpArgs false
set_option linter.unusedVariables false
namespace Go.Proofs.Ytippbfnhgooepaa
open Go.V Classical

theorem wf_u64 {n : Int} (h : (Lit.int .u64 n).wf = true) : U64 n := by
  have := Go.bounds_u64 h; exact ⟨by omega, by omega⟩
theorem wf_i64 {n : Int} (h : (Lit.int .i64 n).wf = true) : -9223372036854775808 ≤ n ∧ n ≤ 9223372036854775807 := by
  have := Go.bounds_i64 h; omega

/-- Deeds that were handed in. -/
def Dds (h : Heap) (p : Option Addr) (n c : Nat) : Prop := ∃ f : Nat → Int × Int × Int, n ≤ c ∧ c < 9223372036854775808 ∧
  (n = 0 ∨ ∃ b off, p = some ⟨b, off, none⟩ ∧ ∀ i, i < n → cellAt h ⟨b, off + i * 3, none⟩ = some (.int .i64 (f i).1) ∧ cellAt h ⟨b, off + i * 3 + 1, none⟩ = some (.int .i64 (f i).2.1) ∧ cellAt h ⟨b, off + i * 3 + 2, none⟩ = some (.int .i64 (f i).2.2))

def ddTy : Nat → TypeDesc := fun _ => .int .i64

theorem ddRow {H : Type} {enc : TypeId × Value → H} {W : World} {t e : TypeId} {fs : Array Field} {p : Option Addr} {n c : Nat} {d : DataW H} {ps : List MemPlace} (ht : Try.prog.underlying t = some (.slice e)) (he : Try.prog.underlying e = some (.struct fs)) (hm : fs.size = 3) (hce : Try.prog.cellsOf e = 3)
    (hf : ∀ j, j < 3 → ∃ f, fs[j]? = some f ∧ f.offset = j ∧ Try.prog.cellsOf f.type = 1 ∧ Try.prog.underlying f.type = some (ddTy j))
    (h : DataW.Trod enc Try.prog W 0 (fun _ => true) true t (.slice p n c) d ps) : Dds W.heap p n c := by
  obtain ⟨h1, h2, h3⟩ := structRow ht he hm (by decide) hce hf h
  rcases h3 with h0 | ⟨b, off, rfl, hc⟩
  · exact ⟨fun _ => (0, 0, 0), h1, h2, .inl h0⟩
  · have each : ∀ i, ∃ o : Int × Int × Int, i < n → cellAt W.heap ⟨b, off + i * 3, none⟩ = some (.int .i64 o.1) ∧ cellAt W.heap ⟨b, off + i * 3 + 1, none⟩ = some (.int .i64 o.2.1) ∧ cellAt W.heap ⟨b, off + i * 3 + 2, none⟩ = some (.int .i64 o.2.2) := by
      intro i
      by_cases hi : i < n
      · obtain ⟨v0, c0, z0, rfl, w0⟩ := hc i hi 0 (by omega)
        obtain ⟨v1, c1, z1, rfl, w1⟩ := hc i hi 1 (by omega)
        obtain ⟨v2, c2, z2, rfl, w2⟩ := hc i hi 2 (by omega)
        exact ⟨(z0, z1, z2), fun _ => ⟨c0, c1, c2⟩⟩
      · exact ⟨(0, 0, 0), fun e => absurd e hi⟩
    exact ⟨fun i => (each i).choose, h1, h2, .inr ⟨b, off, rfl, fun i hi => (each i).choose_spec hi⟩⟩

theorem dd_at {h : Heap} {p : Option Addr} {n : Nat} {f : Nat → Int × Int × Int} (hr : n = 0 ∨ ∃ b off, p = some ⟨b, off, none⟩ ∧ ∀ i, i < n → cellAt h ⟨b, off + i * 3, none⟩ = some (.int .i64 (f i).1) ∧ cellAt h ⟨b, off + i * 3 + 1, none⟩ = some (.int .i64 (f i).2.1) ∧ cellAt h ⟨b, off + i * 3 + 2, none⟩ = some (.int .i64 (f i).2.2))
    {i : Nat} (hi : i < n) : ∃ a, p = some a ∧ ∀ h', Upd NoB h h' → cellAt h' (a.add (Int.toNat (i : Int) * 3)) = some (.int .i64 (f i).1) ∧ cellAt h' ((a.add (Int.toNat (i : Int) * 3)).add 1) = some (.int .i64 (f i).2.1) ∧ cellAt h' ((a.add (Int.toNat (i : Int) * 3)).add 2) = some (.int .i64 (f i).2.2) := by
  rcases hr with e | ⟨b, off, rfl, hr⟩
  · omega
  · obtain ⟨c0, c1, c2⟩ := hr i hi
    refine ⟨_, rfl, fun h' u => ⟨?_, ?_, ?_⟩⟩
    · rw [add_mk, Int.toNat_natCast, cellAt_upd c0 u fun e => e]
    · rw [add_mk, add_mk, Int.toNat_natCast, Nat.add_assoc, ← Nat.add_assoc, cellAt_upd c1 u fun e => e]
    · rw [add_mk, add_mk, Int.toNat_natCast, Nat.add_assoc, ← Nat.add_assoc, cellAt_upd c2 u fun e => e]

end Go.Proofs.Ytippbfnhgooepaa
