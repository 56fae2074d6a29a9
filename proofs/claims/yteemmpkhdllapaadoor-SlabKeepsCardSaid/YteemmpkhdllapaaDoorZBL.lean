/- croftlaw5: what the book says of the lists: stuck, meets, the topmost region. No condition. -/
import Derived.Test.YteemmpkhdllapaaDoorZBK
set_option linter.unusedSimpArgs false
set_option linter.unusedVariables false
namespace Go.Proofs.YteemmpkhdllapaaDoor
open Go.V Classical

def Mk (st : Sto) (l : List Bk) : Prop := ∀ b ∈ l, ∀ o, 4096 * b.p ≤ o → o < 4096 * (b.p + 2 ^ b.k) → st.M o = b.m

theorem Mk.kept {st st' : Sto} {l : List Bk} (H : Mk st l) (k : Kept (lvB l) st st') : Mk st' l := fun b hb o h1 h2 => by
  rw [k.2 b.b (List.mem_map.2 ⟨b, hb, rfl⟩) o h1 h2]; exact H b hb o h1 h2

theorem Mk.erase {st : Sto} {l : List Bk} (H : Mk st l) (i : Nat) : Mk st (l.eraseIdx i) := fun b hb => H b (List.mem_of_mem_eraseIdx hb)

section
variable {c : Cfg} {x : BU} {fl : Nat → List Nat} {l : List Bk} {L : List PBk} {p k o : Nat}

theorem WS.al {S : Nat → Prop} (W : WS S c x fl L) {b : PBk} (h : b ∈ L) : b.2 ≤ x.m.o ∧ b.1 % 2 ^ b.2 = 0 ∧ b.1 + 2 ^ b.2 ≤ x.m.n :=
  W.rep.til.al b (List.mem_append_right _ (List.mem_append_left _ h))

theorem WS.dvd {S : Nat → Prop} (W : WS S c x fl L) (hk : k ≤ x.m.o) : x.m.n % 2 ^ k = 0 := by
  rw [W.e]
  exact Nat.mod_eq_zero_of_dvd (Nat.dvd_trans (Nat.pow_dvd_pow 2 hk) (Nat.dvd_mul_left _ _))

theorem WS.til {S : Nat → Prop} (W : WS S c x fl L) : Tile x.m.o x.m.n (L ++ blks x.m.o fl) := W.rep.til

theorem stretch {S : Nat → Prop} (W : WS S c x fl L) (hk : k ≤ x.m.o) {i : Nat} (hi : i * 2 ^ k < x.m.n) : i * 2 ^ k + 2 ^ k ≤ x.m.n := by
  obtain ⟨d, hd⟩ := Nat.dvd_of_mod_eq_zero (W.dvd hk)
  rw [hd, Nat.mul_comm (2 ^ k) d] at hi ⊢
  have h1 : i < d := Nat.lt_of_mul_lt_mul_right hi
  rw [← Nat.succ_mul]
  exact Nat.mul_le_mul_right _ h1

theorem top_zero {S : Nat → Prop} (W : WS S c x fl L) (hn : x.m.n = 0) : x.m.n - 2 ^ x.m.o ∉ fl x.m.o := fun h => by
  have := (W.rep.al (Nat.le_refl _) h).2.1
  have h0 := Nat.two_pow_pos x.m.o
  omega

theorem WS.nd {S : Nat → Prop} (W : WS S c x fl L) : L.Nodup := (List.nodup_append.1 W.til.nodup).1

theorem WS.pos {S : Nat → Prop} (W : WS S c x fl L) (hn : 0 < x.m.n) : 0 < x.st.n := by
  rcases Nat.eq_zero_or_pos x.st.n with h | h
  · have := W.e; rw [h, Nat.zero_mul] at this; omega
  · exact h
end
end Go.Proofs.YteemmpkhdllapaaDoor
