/- Several things in one heap, apart from each other, and how they stay. No condition. -/
import Derived.Test.YtfijahblggnbbaaW1
set_option linter.unusedSimpArgs false
set_option linter.unusedVariables false
namespace Go.V

/-- A thing in a heap: its blocks, what it is; it stays where none of its blocks is touched. -/
structure Res where
  fp : Nat → Prop
  P : Heap → Prop
  st : ∀ {h h' : Heap} {S : Nat → Prop}, P h → Upd S h h' → (∀ b, fp b → ¬ S b) → P h'
  lt : ∀ {h : Heap}, P h → ∀ b, fp b → b < h.size

/-- One block. -/
def blkR (b n : Nat) (f : Nat → Value) : Res := ⟨fun x => x = b, fun h => Blk h b n f, fun H hu hs => H.upd hu (hs _ rfl), fun H x e => by rw [e]; exact H.lt⟩

/-- Nothing. -/
def noR : Res := ⟨fun _ => False, fun _ => True, fun _ _ _ => trivial, fun _ _ e => e.elim⟩

/-- Two things that are apart. -/
def andR (A B : Res) : Res := ⟨fun b => A.fp b ∨ B.fp b, fun h => A.P h ∧ B.P h ∧ ∀ b, A.fp b → B.fp b → False,
  fun H hu hs => ⟨A.st H.1 hu fun b e => hs b (.inl e), B.st H.2.1 hu fun b e => hs b (.inr e), H.2.2⟩,
  fun H b e => e.elim (A.lt H.1 b) (B.lt H.2.1 b)⟩

/-- A thing of which something is not told. -/
def exR {α : Sort _} (Z : Nat → Prop) (R : α → Res) (hz : ∀ x b, (R x).fp b ↔ Z b) : Res := ⟨Z, fun h => ∃ x, (R x).P h,
  fun ⟨x, H⟩ hu hs => ⟨x, (R x).st H hu fun b e => hs b ((hz x b).1 e)⟩, fun ⟨x, H⟩ b e => (R x).lt H b ((hz x b).2 e)⟩

/-- From one thing to another: only its own blocks and new ones are touched. -/
structure Stp (h h' : Heap) (R R' : Res) : Prop where
  u : Upd R.fp h h'
  p : R'.P h'
  g : ∀ b, R'.fp b → R.fp b ∨ h.size ≤ b

theorem Stp.refl {h : Heap} {R : Res} (H : R.P h) : Stp h h R R := ⟨Upd.refl _ _, H, fun _ e => .inl e⟩

theorem Stp.trans {h h1 h2 : Heap} {R R1 R2 : Res} (A : Stp h h1 R R1) (B : Stp h1 h2 R1 R2) : Stp h h2 R R2 :=
  ⟨Upd.trans A.u B.u (fun _ e => e) fun b e hb => (A.g b e).elim id fun e' => absurd e' (by omega), B.p, fun b e => (B.g b e).elim (A.g b) fun e' => .inr (Nat.le_trans A.u.1 e')⟩

theorem Stp.quiet {h h1 : Heap} {R : Res} (H : R.P h) (u : Upd (fun _ => False) h h1) : Stp h h1 R R := ⟨u.mono fun _ e => e.elim, R.st H u fun _ _ => id, fun _ e => .inl e⟩

theorem Stp.conv {h h1 : Heap} {R R1 R2 : Res} (A : Stp h h1 R R1) (hp : R1.P h1 → R2.P h1) (hf : ∀ b, R2.fp b → R1.fp b) : Stp h h1 R R2 := ⟨A.u, hp A.p, fun b e => A.g b (hf b e)⟩

/-- Things apart, in blocks that h0 did not have; h0's own blocks stand as they stood. -/
structure Hold (h0 h : Heap) (rs : List Res) : Prop where
  u : Upd (fun _ => False) h0 h
  p : ∀ R ∈ rs, R.P h
  ge : ∀ R ∈ rs, ∀ b, R.fp b → h0.size ≤ b
  dj : rs.Pairwise fun R R' => ∀ b, R.fp b → R'.fp b → False

theorem Hold.nil (h : Heap) : Hold h h [] := ⟨Upd.refl _ _, fun _ e => (by cases e), fun _ e => (by cases e), .nil⟩

theorem Hold.at {h0 h : Heap} {rs : List Res} (H : Hold h0 h rs) (i : Nat) {R : Res} (hi : rs[i]? = some R := by rfl) : R.P h := H.p R (List.mem_of_getElem? hi)

theorem Hold.quiet {h0 h h' : Heap} {rs : List Res} (H : Hold h0 h rs) (u : Upd (fun _ => False) h h') : Hold h0 h' rs :=
  ⟨H.u.nx u fun _ e _ => e, fun R hR => R.st (H.p R hR) u fun _ _ => id, H.ge, H.dj⟩

theorem Hold.add {h0 h h' : Heap} {rs : List Res} (H : Hold h0 h rs) {R : Res} (u : Upd (fun _ => False) h h') (p : R.P h') (g : ∀ b, R.fp b → h.size ≤ b) : Hold h0 h' (R :: rs) := by
  have H' := H.quiet u
  refine ⟨H'.u, fun R' hR => ?_, fun R' hR b e => ?_, .cons (fun R' hR b e e' => ?_) H'.dj⟩
  · rcases List.mem_cons.1 hR with rfl | hR
    · exact p
    · exact H'.p R' hR
  · rcases List.mem_cons.1 hR with rfl | hR
    · exact Nat.le_trans H.u.1 (g b e)
    · exact H'.ge R' hR b e
  · have := R'.lt (H.p R' hR) b e'
    have := g b e
    omega

theorem Hold.box {h0 h : Heap} {rs : List Res} (H : Hold h0 h rs) (arr : Array Value) (T : TypeId) : Hold h0 (h.push (.cells arr T)) (blkR h.size arr.size (fun j => arr.getD j undef) :: rs) :=
  H.add (push_upd _ _ _) (Blk.new h arr T) fun b e => Nat.le_of_eq (Eq.symm e)

theorem Hold.step {h0 h h' : Heap} {rs : List Res} (H : Hold h0 h rs) (i : Nat) {R R' : Res} (A : Stp h h' R R') (hi : rs[i]? = some R := by rfl) : Hold h0 h' (rs.set i R') := by
  have hR := List.mem_of_getElem? hi
  have hil : i < rs.length := (List.getElem?_eq_some_iff.1 hi).1
  have key : ∀ (j : Nat) (hj : j < rs.length), j ≠ i → (∀ b, rs[j].fp b → R.fp b → False) := by
    intro j hj hji b e1 e2
    have hRi : rs[i] = R := (List.getElem?_eq_some_iff.1 hi).2
    have hp := List.pairwise_iff_getElem.1 H.dj
    rcases Nat.lt_or_gt_of_ne hji with hl | hl
    · exact hp j i hj hil hl b e1 (by rw [hRi]; exact e2)
    · exact hp i j hil hj hl b (by rw [hRi]; exact e2) e1
  have mem : ∀ X ∈ rs.set i R', X = R' ∨ ∃ j, ∃ hj : j < rs.length, j ≠ i ∧ X = rs[j] := by
    intro X hX
    obtain ⟨j, hj, e⟩ := List.mem_iff_getElem.1 hX
    rw [List.getElem_set] at e
    split at e
    · exact .inl e.symm
    · rename_i hne
      exact .inr ⟨j, by simpa using hj, Ne.symm hne, e.symm⟩
  refine ⟨H.u.nx A.u fun b e hb => absurd (H.ge R hR b e) (by omega), fun X hX => ?_, fun X hX b e => ?_, ?_⟩
  · rcases mem X hX with rfl | ⟨j, hj, hne, rfl⟩
    · exact A.p
    · exact (rs[j]).st (H.p _ (List.getElem_mem hj)) A.u fun b e => key j hj hne b e
  · rcases mem X hX with rfl | ⟨j, hj, hne, rfl⟩
    · rcases A.g b e with e | e
      · exact H.ge R hR b e
      · exact Nat.le_trans H.u.1 e
    · exact H.ge _ (List.getElem_mem hj) b e
  · rw [List.pairwise_iff_getElem]
    intro a b ha hb hab x e1 e2
    rw [List.length_set] at ha hb
    rw [List.getElem_set] at e1 e2
    have hp := List.pairwise_iff_getElem.1 H.dj
    have sep : ∀ (j : Nat) (hj : j < rs.length), j ≠ i → rs[j].fp x → R'.fp x → False := by
      intro j hj hne f1 f2
      rcases A.g x f2 with f | f
      · exact key j hj hne x f1 f
      · have := (rs[j]).lt (H.p _ (List.getElem_mem hj)) x f1
        omega
    by_cases h1 : i = a
    · rw [if_pos h1] at e1
      rw [if_neg (by omega)] at e2
      exact sep b hb (by omega) e2 e1
    · rw [if_neg h1] at e1
      by_cases h2 : i = b
      · rw [if_pos h2] at e2
        exact sep a ha (by omega) e1 e2
      · rw [if_neg h2] at e2
        exact hp a b ha hb hab x e1 e2

/-- One thing is left out of sight. -/
theorem Hold.drop {h0 h : Heap} {rs : List Res} {R : Res} (H : Hold h0 h (R :: rs)) : Hold h0 h rs :=
  ⟨H.u, fun X hX => H.p X (List.mem_cons_of_mem _ hX), fun X hX => H.ge X (List.mem_cons_of_mem _ hX), (List.pairwise_cons.1 H.dj).2⟩

/-- Fewer, in another order. -/
theorem Hold.sub {h0 h : Heap} {rs rs' : List Res} (H : Hold h0 h rs) (hs : rs'.Sublist rs) : Hold h0 h rs' :=
  ⟨H.u, fun X hX => H.p X (hs.subset hX), fun X hX => H.ge X (hs.subset hX), H.dj.sublist hs⟩

theorem Hold.perm {h0 h : Heap} {rs rs' : List Res} (H : Hold h0 h rs) (hs : rs'.Perm rs) : Hold h0 h rs' :=
  ⟨H.u, fun X hX => H.p X (hs.subset hX), fun X hX => H.ge X (hs.subset hX), hs.pairwise_iff (fun {x y} hxy b e e' => hxy b e' e) |>.2 H.dj⟩

/-- The same thing told otherwise. -/
theorem Hold.as {h0 h : Heap} {rs : List Res} (H : Hold h0 h rs) (i : Nat) {R R' : Res} (hp : R.P h → R'.P h) (hf : ∀ b, R'.fp b → R.fp b) (hi : rs[i]? = some R := by rfl) : Hold h0 h (rs.set i R') :=
  H.step i ⟨Upd.refl _ _, hp (H.at i hi), fun b e => .inl (hf b e)⟩ hi

/-- Two become one. -/
theorem Hold.join {h0 h : Heap} {rs : List Res} {A B : Res} (H : Hold h0 h (A :: B :: rs)) : Hold h0 h (andR A B :: rs) := by
  obtain ⟨h1, h2⟩ := List.pairwise_cons.1 H.dj
  obtain ⟨h3, h4⟩ := List.pairwise_cons.1 h2
  refine ⟨H.u, fun X hX => ?_, fun X hX b e => ?_, .cons (fun X hX b e e' => ?_) h4⟩
  · rcases List.mem_cons.1 hX with rfl | hX
    · exact ⟨H.p A (List.mem_cons_self ..), H.p B (List.mem_cons_of_mem _ (List.mem_cons_self ..)), h1 B (List.mem_cons_self ..)⟩
    · exact H.p X (List.mem_cons_of_mem _ (List.mem_cons_of_mem _ hX))
  · rcases List.mem_cons.1 hX with rfl | hX
    · rcases e with e | e
      · exact H.ge A (List.mem_cons_self ..) b e
      · exact H.ge B (List.mem_cons_of_mem _ (List.mem_cons_self ..)) b e
    · exact H.ge X (List.mem_cons_of_mem _ (List.mem_cons_of_mem _ hX)) b e
  · rcases e with e | e
    · exact h1 X (List.mem_cons_of_mem _ hX) b e e'
    · exact h3 X hX b e e'

theorem Hold.split {h0 h : Heap} {rs : List Res} {A B : Res} (H : Hold h0 h (andR A B :: rs)) : Hold h0 h (A :: B :: rs) := by
  obtain ⟨h1, h2⟩ := List.pairwise_cons.1 H.dj
  have hp := H.p _ (List.mem_cons_self ..)
  refine ⟨H.u, fun X hX => ?_, fun X hX b e => ?_, .cons (fun X hX b e e' => ?_) (.cons (fun X hX b e e' => h1 X hX b (.inr e) e') h2)⟩
  · rcases List.mem_cons.1 hX with rfl | hX
    · exact hp.1
    · rcases List.mem_cons.1 hX with rfl | hX
      · exact hp.2.1
      · exact H.p X (List.mem_cons_of_mem _ hX)
  · rcases List.mem_cons.1 hX with rfl | hX
    · exact H.ge _ (List.mem_cons_self ..) b (.inl e)
    · rcases List.mem_cons.1 hX with rfl | hX
      · exact H.ge _ (List.mem_cons_self ..) b (.inr e)
      · exact H.ge X (List.mem_cons_of_mem _ hX) b e
  · rcases List.mem_cons.1 hX with rfl | hX
    · exact hp.2.2 b e e'
    · exact h1 X hX b (.inl e) e'

/-- A block's cells set. -/
theorem Stp.sets {h : Heap} {b n : Nat} {f : Nat → Value} (H : Blk h b n f) (vs : List Value) (o i : Nat) {g : Nat → Value} (hg : ∀ j, j < n → (if o + i ≤ j ∧ j < o + i + vs.length then vs.getD (j - (o + i)) undef else f j) = g j) :
    Stp h (setCs h ⟨b, o, none⟩ i vs) (blkR b n f) (blkR b n g) :=
  ⟨setCs_upd _ _ _ _, (H.sets vs o i).congr hg, fun _ e => .inl e⟩

theorem Stp.set {h : Heap} {b n : Nat} {f : Nat → Value} (H : Blk h b n f) (i : Nat) (v : Value) {g : Nat → Value} (hg : ∀ j, j < n → (if j = i then v else f j) = g j) :
    Stp h (setC h ⟨b, i, none⟩ v) (blkR b n f) (blkR b n g) :=
  ⟨setC_upd _ _ _, (H.set i v).congr hg, fun _ e => .inl e⟩

end Go.V
