/- croftlaw5: what the book says of the lists: stuck, meets, the topmost region. No condition. -/
import Derived.Test.YtippbfnhgooepaaBK
set_option linter.unusedSimpArgs false
set_option linter.unusedVariables false
namespace Go.Proofs.Ytippbfnhgooepaa
open Go.V Classical

theorem meets_no {l : List Bk} {p k : Nat} (h : meetsB l p k = false) : ∀ b ∈ lvB l, Dj b (p, k) := by
  intro b hb
  obtain ⟨a, ha, rfl⟩ := List.mem_map.1 hb
  unfold meetsB at h
  rw [List.any_eq_false] at h
  have := h a ha
  simp only [Bool.and_eq_true, decide_eq_true_eq, not_and] at this
  unfold Dj Bk.b
  simp only []
  omega

theorem meets_dj {l : List Bk} {p k : Nat} (h : ∀ b ∈ lvB l, Dj b (p, k)) : meetsB l p k = false := by
  unfold meetsB
  rw [List.any_eq_false]
  intro a ha
  have := h a.b (List.mem_map.2 ⟨a, ha, rfl⟩)
  unfold Dj Bk.b at this
  simp only [] at this
  simp only [Bool.and_eq_true, decide_eq_true_eq, not_and]
  omega

theorem erase_perm : ∀ (l : List Bk) (i : Nat), i < l.length → l.Perm (l.getD i bk0 :: l.eraseIdx i)
  | a :: l, 0, _ => by simp
  | a :: l, i + 1, hi => by
    have := erase_perm l i (by simpa using hi)
    simp only [List.getD_cons_succ, List.eraseIdx_cons_succ]
    exact (this.cons a).trans (.swap _ _ _)

theorem erase_lv {l : List Bk} {i : Nat} (hi : i < l.length) : (lvB l).Perm ((l.getD i bk0).b :: lvB (l.eraseIdx i)) := (erase_perm l i hi).map Bk.b

theorem erase_len {l : List Bk} {i : Nat} (hi : i < l.length) : (l.eraseIdx i).length = l.length - 1 := List.length_eraseIdx_of_lt hi

/-- The live blocks bear their marks. -/
def Mk (st : Sto) (l : List Bk) : Prop := ∀ b ∈ l, ∀ o, 4096 * b.p ≤ o → o < 4096 * (b.p + 2 ^ b.k) → st.M o = b.m

theorem Mk.kept {st st' : Sto} {l : List Bk} (H : Mk st l) (k : Kept (lvB l) st st') : Mk st' l := fun b hb o h1 h2 => by
  rw [k.2 b.b (List.mem_map.2 ⟨b, hb, rfl⟩) o h1 h2]; exact H b hb o h1 h2

theorem Mk.erase {st : Sto} {l : List Bk} (H : Mk st l) (i : Nat) : Mk st (l.eraseIdx i) := fun b hb => H b (List.mem_of_mem_eraseIdx hb)

/-- What a deed does to the book. -/
def Stay (st st' : Sto) (l l' : List Bk) : Prop := (l'.length ≤ l.length ∧ (Mk st l → Mk st' l')) ∨ ∃ b, l' = l ++ [b] ∧ (0 ≤ b.m ∧ b.m < 256) ∧ (Mk st l → Mk st' l)

section
variable {c : Cfg} {x : BU} {fl : Nat → List Nat} {l : List Bk} {L : List PBk} {p k o : Nat}

theorem WI.al (W : WI c x fl L) {b : PBk} (h : b ∈ L) : b.2 ≤ x.m.o ∧ b.1 % 2 ^ b.2 = 0 ∧ b.1 + 2 ^ b.2 ≤ x.m.n :=
  W.rep.til.al b (List.mem_append_right _ (List.mem_append_left _ h))

theorem WI.bnd (W : WI c x fl (lvB l)) : ∀ b ∈ l, b.p ≤ 4096 ∧ b.k ≤ 8 := fun b hb => by
  have := W.al (List.mem_map.2 ⟨b, hb, rfl⟩)
  have n1 := W.ok.m.n1
  have o8 := W.ok.m.o8
  simp only [Bk.b] at this
  omega

theorem WI.dvd (W : WI c x fl L) (hk : k ≤ x.m.o) : x.m.n % 2 ^ k = 0 := by
  rw [W.e]
  exact Nat.mod_eq_zero_of_dvd (Nat.dvd_trans (Nat.pow_dvd_pow 2 hk) (Nat.dvd_mul_left _ _))

theorem WI.til (W : WI c x fl L) : Tile x.m.o x.m.n (L ++ blks x.m.o fl) := W.rep.til

theorem stretch (W : WI c x fl L) (hk : k ≤ x.m.o) {i : Nat} (hi : i * 2 ^ k < x.m.n) : i * 2 ^ k + 2 ^ k ≤ x.m.n := by
  obtain ⟨d, hd⟩ := Nat.dvd_of_mod_eq_zero (W.dvd hk)
  rw [hd, Nat.mul_comm (2 ^ k) d] at hi ⊢
  have h1 : i < d := Nat.lt_of_mul_lt_mul_right hi
  rw [← Nat.succ_mul]
  exact Nat.mul_le_mul_right _ h1

theorem stuck_yes (W : WI c x fl (lvB l)) (hk : k ≤ x.m.o) (h : ∀ j, k ≤ j → j ≤ x.m.o → fl j = []) : Stuck l x.m.n k := by
  intro i hi
  refine Classical.byContradiction fun hm => ?_
  have hm : meetsB l (i * 2 ^ k) k = false := by simpa using hm
  obtain ⟨p, j, h1, h2, h3, _⟩ := find_free (s := i * 2 ^ k) W.til W.rep.nb hk (Nat.mul_mod_left _ _) (stretch W hk hi) (meets_no hm)
  rw [h j h1 h2] at h3
  cases h3

theorem new_dj (W : WI c x fl ((p, k) :: L)) : ∀ b ∈ L, Dj b (p, k) := by
  intro b hb
  have := List.pairwise_cons.1 W.til.dj
  exact (this.1 b (List.mem_append_left _ hb)).symm

theorem stuck_no {n : Nat} (W : WI c x fl ((p, k) :: lvB l)) (hn : x.m.n = n) : ¬ Stuck l n k ∧ meetsB l p k = false := by
  have hm := meets_dj (new_dj W)
  refine ⟨fun hs => ?_, hm⟩
  have al := W.al (List.mem_cons_self ..)
  simp only [] at al
  have h0 := Nat.two_pow_pos k
  have e : p / 2 ^ k * 2 ^ k = p := Nat.div_mul_cancel (Nat.dvd_of_mod_eq_zero al.2.1)
  have := hs (p / 2 ^ k) (by rw [e]; omega)
  rw [e, hm] at this
  cases this

theorem top_free (W : WI c x fl (lvB l)) (hn : 0 < x.m.n) : x.m.n - 2 ^ x.m.o ∈ fl x.m.o ↔ meetsB l (x.m.n - 2 ^ x.m.o) x.m.o = false := by
  have h0 := Nat.two_pow_pos x.m.o
  have hle : 2 ^ x.m.o ≤ x.m.n := Nat.le_of_dvd hn (Nat.dvd_of_mod_eq_zero (W.dvd (Nat.le_refl _)))
  have hal : (x.m.n - 2 ^ x.m.o) % 2 ^ x.m.o = 0 := Nat.mod_eq_zero_of_dvd (Nat.dvd_sub (Nat.dvd_of_mod_eq_zero (W.dvd (Nat.le_refl _))) (Nat.dvd_refl _))
  constructor
  · intro h
    refine meets_dj fun b hb => ?_
    have hm : (x.m.n - 2 ^ x.m.o, x.m.o) ∈ blks x.m.o fl := mem_blks.2 ⟨Nat.le_refl _, h⟩
    exact (List.pairwise_append.1 W.til.dj).2.2 b hb _ hm
  · intro h
    obtain ⟨p, j, h1, h2, h3, h4, h5⟩ := find_free (s := x.m.n - 2 ^ x.m.o) W.til W.rep.nb (Nat.le_refl _) hal (by omega) (meets_no h)
    have : j = x.m.o := by omega
    subst this
    have : p = x.m.n - 2 ^ x.m.o := by omega
    rw [← this]; exact h3

theorem top_zero (W : WI c x fl L) (hn : x.m.n = 0) : x.m.n - 2 ^ x.m.o ∉ fl x.m.o := fun h => by
  have := (W.rep.al (Nat.le_refl _) h).2.1
  have h0 := Nat.two_pow_pos x.m.o
  omega

theorem WI.nd (W : WI c x fl L) : L.Nodup := (List.nodup_append.1 W.til.nodup).1

theorem once (W : WI c x fl ((p, k) :: L)) : ∀ b ∈ L, ¬ (adr c p = adr c b.1 ∧ (k : Int) = b.2) := fun b hb ⟨h1, h2⟩ => by
  have e : b = (p, k) := by
    obtain ⟨b1, b2⟩ := b
    have := adr_inj h1
    simp only [] at this h2
    rw [this, show k = b2 by omega]
  rw [e] at hb
  exact (List.nodup_cons.1 W.nd).1 hb

theorem WI.pos (W : WI c x fl L) (hn : 0 < x.m.n) : 0 < x.st.n := by
  rcases Nat.eq_zero_or_pos x.st.n with h | h
  · have := W.e; rw [h, Nat.zero_mul] at this; omega
  · exact h
end
end Go.Proofs.Ytippbfnhgooepaa
