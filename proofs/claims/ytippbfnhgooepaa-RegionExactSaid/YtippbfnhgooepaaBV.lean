/- croftlaw5: BuddyTiles. No condition. -/
import Derived.Test.YtippbfnhgooepaaBT
set_option linter.unusedSimpArgs false
set_option linter.unusedVariables false
namespace Go.Proofs.Ytippbfnhgooepaa
open Go.V Classical

section
variable {w₀ : World} {h0 h : Heap} {K : Value → Heap → Prop} {c : Cfg} {Q : WW} {x : BU} {fl : Nat → List Nat} {l l' : List Bk} {bp p' : Option Addr} {bc c' : Nat}

/-- The book is laid anew. -/
theorem rebook {X : Res} {rs : List Res} (I : Hold h0 h (slR p' l'.length c' 3 (bkV l') :: X :: wbR c Q x bp bc l :: rs)) : Hold h0 h (X :: wbR c Q x p' c' l' :: rs) := by
  have I1 : Hold h0 h (wbR c Q x bp bc l :: slR p' l'.length c' 3 (bkV l') :: X :: rs) := I.perm ((List.Perm.swap _ _ _).trans ((List.Perm.swap _ _ _).cons _))
  have I2 := I1.split
  have I3 : Hold h0 h (wsR c Q x :: slR p' l'.length c' 3 (bkV l') :: X :: rs) := I2.sub (.cons_cons _ (.cons _ (List.Sublist.refl _)))
  exact I3.join.swap

theorem tops (W : WI c x fl []) : (fl x.m.o).length = x.st.n := by
  have hO : (fl x.m.o).Nodup := W.rep.ndF (Nat.le_refl _)
  have h0 := Nat.two_pow_pos x.m.o
  have e := W.e
  have s1 : (fl x.m.o).Subset ((List.range x.st.n).map fun i => i * 2 ^ x.m.o) := fun p hp => by
    have al := W.rep.al (Nat.le_refl _) hp
    refine List.mem_map.2 ⟨p / 2 ^ x.m.o, List.mem_range.2 ?_, Nat.div_mul_cancel (Nat.dvd_of_mod_eq_zero al.1)⟩
    rw [e] at al
    exact Nat.div_lt_of_lt_mul (by rw [Nat.mul_comm]; exact al.2.2)
  have s2 : ((List.range x.st.n).map fun i => i * 2 ^ x.m.o).Subset (fl x.m.o) := fun p hp => by
    obtain ⟨i, hi, rfl⟩ := List.mem_map.1 hp
    have hi := List.mem_range.1 hi
    have hlt : i * 2 ^ x.m.o < x.m.n := by rw [e]; exact Nat.mul_lt_mul_of_pos_right hi h0
    obtain ⟨p, j, h1, h2, h3, h4, h5⟩ := find_free (s := i * 2 ^ x.m.o) W.til W.rep.nb (Nat.le_refl _) (Nat.mul_mod_left _ _) (stretch W (Nat.le_refl _) hlt) (fun b hb => by cases hb)
    have : j = x.m.o := by omega
    subst this
    have : p = i * 2 ^ x.m.o := by omega
    rw [← this]; exact h3
  have n2 : ((List.range x.st.n).map fun i => i * 2 ^ x.m.o).Nodup := by
    refine List.Pairwise.map _ (fun a b hab e => hab (Nat.eq_of_mul_eq_mul_right h0 e)) List.nodup_range
  have l1 := List.Nodup.length_le_of_subset hO s1
  have l2 := List.Nodup.length_le_of_subset n2 s2
  simp at l1 l2
  omega
end

end Go.Proofs.Ytippbfnhgooepaa
