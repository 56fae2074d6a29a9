/- croftlaw6: RegionExact. No condition. -/
import Derived.Test.YtippbfnhgooepaaZCA
set_option linter.unusedSimpArgs false
set_option linter.unusedVariables false
namespace Go.Proofs.Ytippbfnhgooepaa
open Go.V Classical

theorem SnOk.kept {h : Heap} {st st' : Sto} {s : Sn} (S : SnOk h st s) (k : ∀ o, 4096 * s.p ≤ o → o < 4096 * (s.p + 2 ^ s.k) → st'.M o = st.M o) : SnOk h st' s :=
  ⟨S.n, S.c, S.r, fun j hj => by
    have := S.n
    rw [k _ (by omega) (by rw [Nat.mul_add]; omega)]; exact S.m j hj⟩

theorem op6_at {h : Heap} {p : Option Addr} {n : Nat} {f : Nat → O6} (hr : n = 0 ∨ ∃ b off, p = some ⟨b, off, none⟩ ∧ ∀ i, i < n → ∀ j, j < 7 → cellAt h ⟨b, off + i * 7 + j, none⟩ = some ((f i).f j)) {i : Nat} (hi : i < n) :
    ∃ a, p = some a ∧ ∀ h', Upd NoB h h' → cellAt h' (a.add (Int.toNat (i : Int) * 7)) = some (.int .i64 (f i).kind) ∧ cellAt h' ((a.add (Int.toNat (i : Int) * 7)).add 1) = some (.int .i64 (f i).order) ∧ cellAt h' ((a.add (Int.toNat (i : Int) * 7)).add 2) = some (.int .i64 (f i).which) ∧
      cellAt h' ((a.add (Int.toNat (i : Int) * 7)).add 3) = some (.int .i64 (f i).more) ∧ cellAt h' ((a.add (Int.toNat (i : Int) * 7)).add 4) = some (.bool (f i).deny) ∧ cellAt h' ((a.add (Int.toNat (i : Int) * 7)).add 5) = some (.int .u64 (f i).at') ∧ cellAt h' ((a.add (Int.toNat (i : Int) * 7)).add 6) = some (.slice (f i).dp (f i).dn (f i).dc) := by
  rcases hr with e | ⟨b, off, rfl, hr⟩
  · omega
  · have hc : ∀ j, j < 7 → ∀ h', Upd NoB h h' → cellAt h' (((⟨b, off, none⟩ : Addr).add (Int.toNat (i : Int) * 7)).add j) = some ((f i).f j) := fun j hj h' u => by
      rw [add_mk, add_mk, Int.toNat_natCast]; exact cellAt_upd (hr i hi j hj) u fun e => e
    refine ⟨_, rfl, fun h' u => ⟨?_, hc 1 (by omega) h' u, hc 2 (by omega) h' u, hc 3 (by omega) h' u, hc 4 (by omega) h' u, hc 5 (by omega) h' u, hc 6 (by omega) h' u⟩⟩
    have := hc 0 (by omega) h' u
    rw [add_mk, add_mk, Nat.add_zero] at this
    rw [add_mk]; exact this

end Go.Proofs.Ytippbfnhgooepaa
