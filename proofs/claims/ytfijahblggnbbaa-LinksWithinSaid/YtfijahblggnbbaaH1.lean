/- Things of several parts, and rows of things. No condition. -/
import Derived.Test.YtfijahblggnbbaaH0
set_option linter.unusedSimpArgs false
set_option linter.unusedVariables false
namespace Go.V

theorem Stp.left {h h' : Heap} {A A' B : Res} (S : Stp h h' A A') (H : (andR A B).P h) : Stp h h' (andR A B) (andR A' B) := by
  obtain ⟨h1, h2, h3⟩ := H
  refine ⟨S.u.mono fun b e _ => .inl e, ⟨S.p, B.st h2 S.u fun b e e' => h3 b e' e, fun b e e' => ?_⟩, fun b e => ?_⟩
  · rcases S.g b e with e | e
    · exact h3 b e e'
    · have := B.lt h2 b e'; omega
  · rcases e with e | e
    · exact (S.g b e).imp (fun x => Or.inl x) id
    · exact .inl (.inr e)

theorem Stp.right {h h' : Heap} {A B B' : Res} (S : Stp h h' B B') (H : (andR A B).P h) : Stp h h' (andR A B) (andR A B') := by
  obtain ⟨h1, h2, h3⟩ := H
  refine ⟨S.u.mono fun b e _ => .inr e, ⟨A.st h1 S.u fun b e e' => h3 b e e', S.p, fun b e e' => ?_⟩, fun b e => ?_⟩
  · rcases S.g b e' with f | f
    · exact h3 b e f
    · have := A.lt h1 b e; omega
  · rcases e with e | e
    · exact .inl (.inl e)
    · exact (S.g b e).imp (fun x => Or.inr x) id

/-- A row of things, each apart from the others. -/
def allR (n : Nat) (R : Nat → Res) : Res := ⟨fun b => ∃ k, k < n ∧ (R k).fp b, fun h => (∀ k, k < n → (R k).P h) ∧ ∀ i, i < n → ∀ j, j < n → i ≠ j → ∀ b, (R i).fp b → (R j).fp b → False,
  fun H hu hs => ⟨fun k hk => (R k).st (H.1 k hk) hu fun b e => hs b ⟨k, hk, e⟩, H.2⟩,
  fun H b ⟨k, hk, e⟩ => (R k).lt (H.1 k hk) b e⟩

theorem Stp.all {h h' : Heap} {n : Nat} {R : Nat → Res} (k : Nat) {R' : Res} (hk : k < n) (S : Stp h h' (R k) R') (H : (allR n R).P h) : Stp h h' (allR n R) (allR n fun i => if i = k then R' else R i) := by
  obtain ⟨h1, h2⟩ := H
  refine ⟨S.u.mono fun b e _ => ⟨k, hk, e⟩, ⟨fun i hi => ?_, fun i hi j hj hij b e e' => ?_⟩, fun b ⟨i, hi, e⟩ => ?_⟩
  · by_cases hik : i = k
    · simp only [hik, if_true]; exact S.p
    · simp only [hik, if_false]; exact (R i).st (h1 i hi) S.u fun b e e' => h2 i hi k hk hik b e e'
  · have one : ∀ i, i < n → i ≠ k → (R i).fp b → R'.fp b → False := by
      intro i hi hik e e'
      rcases S.g b e' with f | f
      · exact h2 i hi k hk hik b e f
      · have := (R i).lt (h1 i hi) b e; omega
    by_cases hik : i = k
    · by_cases hjk : j = k
      · exact hij (hik.trans hjk.symm)
      · simp only [hik, hjk, if_true, if_false] at e e'
        exact one j hj hjk e' e
    · by_cases hjk : j = k
      · simp only [hik, hjk, if_true, if_false] at e e'
        exact one i hi hik e e'
      · simp only [hik, hjk, if_false] at e e'
        exact h2 i hi j hj hij b e e'
  · by_cases hik : i = k
    · simp only [hik, if_true] at e
      exact (S.g b e).imp (fun e => ⟨k, hk, e⟩) id
    · simp only [hik, if_false] at e
      exact .inl ⟨i, hi, e⟩

/-- The row told otherwise, thing by thing. -/
theorem allR_congr {n : Nat} {R R' : Nat → Res} (hr : ∀ k, k < n → R k = R' k) {h : Heap} (H : (allR n R).P h) : (allR n R').P h :=
  ⟨fun k hk => by rw [← hr k hk]; exact H.1 k hk, fun i hi j hj hij b e e' => H.2 i hi j hj hij b (by rw [hr i hi]; exact e) (by rw [hr j hj]; exact e')⟩

theorem allR_fp {n : Nat} {R R' : Nat → Res} (hr : ∀ k, k < n → R k = R' k) (b : Nat) (e : (allR n R').fp b) : (allR n R).fp b := by
  obtain ⟨k, hk, e⟩ := e
  exact ⟨k, hk, by rw [hr k hk]; exact e⟩

theorem Stp.all' {h h' : Heap} {n : Nat} {R : Nat → Res} (k : Nat) {R' : Res} (hk : k < n) (S : Stp h h' (R k) R') (H : (allR n R).P h) {R'' : Nat → Res} (he : ∀ i, i < n → (if i = k then R' else R i) = R'' i) : Stp h h' (allR n R) (allR n R'') :=
  (Stp.all k hk S H).conv (allR_congr he) (allR_fp he)

/-- One more at the end. -/
theorem allR_snoc {h : Heap} {n : Nat} {R : Nat → Res} (H : (allR n R).P h) (hp : (R n).P h) (hd : ∀ b, (R n).fp b → ¬ (allR n R).fp b) : (allR (n + 1) R).P h := by
  refine ⟨fun k hk => ?_, fun i hi j hj hij b e e' => ?_⟩
  · rcases Nat.lt_or_ge k n with hl | hl
    · exact H.1 k hl
    · rw [show k = n by omega]; exact hp
  · rcases Nat.lt_or_ge i n with h1 | h1
    · rcases Nat.lt_or_ge j n with h2 | h2
      · exact H.2 i h1 j h2 hij b e e'
      · rw [show j = n by omega] at e'; exact hd b e' ⟨i, h1, e⟩
    · rcases Nat.lt_or_ge j n with h2 | h2
      · rw [show i = n by omega] at e; exact hd b e ⟨j, h2, e'⟩
      · omega

/-- Fewer of a row. -/
theorem allR_less {h : Heap} {n m : Nat} {R : Nat → Res} (H : (allR n R).P h) (hm : m ≤ n) : (allR m R).P h :=
  ⟨fun k hk => H.1 k (by omega), fun i hi j hj => H.2 i (by omega) j (by omega)⟩

theorem allR_less_fp {n m : Nat} {R : Nat → Res} (hm : m ≤ n) (b : Nat) (e : (allR m R).fp b) : (allR n R).fp b := let ⟨k, hk, e⟩ := e; ⟨k, by omega, e⟩

/-- A thing grows by a new one. -/
theorem Stp.addR {h h' : Heap} {A A' B : Res} (S : Stp h h' A A') (hb : B.P h') (hn : ∀ b, B.fp b → h.size ≤ b) (hd : ∀ b, A'.fp b → B.fp b → False) : Stp h h' A (andR A' B) :=
  ⟨S.u, ⟨S.p, hb, hd⟩, fun b e => e.elim (S.g b) fun e => .inr (hn b e)⟩

/-- A new thing, out of nothing. -/
structure New (h h' : Heap) (R : Res) : Prop where
  u : Upd (fun _ => False) h h'
  p : R.P h'
  g : ∀ b, R.fp b → h.size ≤ b

theorem New.stp {h h1 h2 : Heap} {R R' : Res} (A : New h h1 R) (S : Stp h1 h2 R R') : New h h2 R' :=
  ⟨A.u.nx S.u fun b e hb => by have := A.g b e; omega, S.p, fun b e => (S.g b e).elim (A.g b) fun e => Nat.le_trans A.u.1 e⟩

theorem New.quiet {h h1 h2 : Heap} {R : Res} (A : New h h1 R) (u : Upd (fun _ => False) h1 h2) : New h h2 R := A.stp (Stp.quiet A.p u)
theorem New.after {h h1 h2 : Heap} {R : Res} (u : Upd (fun _ => False) h h1) (A : New h1 h2 R) : New h h2 R := ⟨u.nx A.u fun _ e _ => e, A.p, fun b e => Nat.le_trans u.1 (A.g b e)⟩

theorem New.box (h : Heap) (arr : Array Value) (T : TypeId) : New h (h.push (.cells arr T)) (blkR h.size arr.size (fun j => arr.getD j undef)) :=
  ⟨push_upd _ _ _, Blk.new h arr T, fun b e => Nat.le_of_eq (Eq.symm e)⟩

theorem New.and {h h1 h2 : Heap} {A B : Res} (X : New h h1 A) (Y : New h1 h2 B) : New h h2 (andR A B) :=
  ⟨X.u.nx Y.u fun _ e _ => e, ⟨A.st X.p Y.u fun _ _ => id, Y.p, fun b e e' => by have := A.lt X.p b e; have := Y.g b e'; omega⟩, fun b e => e.elim (X.g b) fun e => Nat.le_trans X.u.1 (Y.g b e)⟩

theorem New.conv {h h1 : Heap} {R R' : Res} (A : New h h1 R) (hp : R.P h1 → R'.P h1) (hf : ∀ b, R'.fp b → R.fp b) : New h h1 R' := ⟨A.u, hp A.p, fun b e => A.g b (hf b e)⟩

theorem Hold.new {h0 h h' : Heap} {rs : List Res} (H : Hold h0 h rs) {R : Res} (A : New h h' R) : Hold h0 h' (R :: rs) := H.add A.u A.p A.g

theorem Stp.new {h h' : Heap} {R B : Res} (H : R.P h) (A : New h h' B) : Stp h h' R (andR R B) :=
  ⟨A.u.mono fun _ e => e.elim, ⟨R.st H A.u fun _ _ => id, A.p, fun b e e' => by have := R.lt H b e; have := A.g b e'; omega⟩, fun b e => e.elim .inl fun e => .inr (A.g b e)⟩

theorem andR_fp {A B : Res} {b : Nat} : (andR A B).fp b ↔ A.fp b ∨ B.fp b := Iff.rfl

end Go.V
