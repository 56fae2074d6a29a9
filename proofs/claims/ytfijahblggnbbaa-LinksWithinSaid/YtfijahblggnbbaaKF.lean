/- croftlaw3: step: three lists over one space and the document's own, side by side. No condition. -/
import Derived.Test.YtfijahblggnbbaaKE
set_option linter.unusedSimpArgs false
set_option linter.unusedVariables false
namespace Go.Proofs.Ytfijahblggnbbaa
open Go.V Classical

structure PS where
  lb : Nat → Nat
  hd : Nat → Int
  st : Sto

def setf {α : Type} (f : Nat → α) (k : Nat) (v : α) : Nat → α := fun i => if i = k then v else f i
theorem setf_same {α : Type} (f : Nat → α) (k : Nat) (v : α) : setf f k v k = v := by simp [setf]
theorem setf_ne {α : Type} (f : Nat → α) {k i : Nat} (v : α) (h : i ≠ k) : setf f k v i = f i := by simp [setf, h]

def mineF (lb : Nat → Nat) : Nat → Value := fun i => .pointer (some ⟨lb i, 0, none⟩)
def headF (hd : Nat → Int) : Nat → Value := fun i => .int .u64 (hd i)

/-- Where it all lies. -/
structure PW where
  s : Nat
  c : Cfg
  Z : Nat → Prop
  mp : Option Addr
  mc : Nat
  Y : Nat → Prop
  bm : Nat
  bh : Nat

abbrev QR (W : PW) (lb lb2 : Nat → Nat) (hd hd2 : Nat → Int) (st st2 : Sto) : Res :=
  andR (andR (allR 3 fun i => lsR W.s (lb i) (hd i)) (spR W.s W.c W.Z st)) (andR (andR (blkR W.bm 3 (mineF lb2)) (blkR W.bh 3 (headF hd2))) (rsR W.c W.mp W.mc W.Y st2))

abbrev psR (W : PW) (σ : PS) : Res := QR W σ.lb σ.lb σ.hd σ.hd σ.st σ.st

def kU (i : Int) : Nat := if i < 0 ∨ i > 2 then 0 else i.toNat

theorem kU_lt (i : Int) : kU i < 3 := by unfold kU; split <;> omega

theorem pushU_n (c : Cfg) (x : LS) (p : Int) : (pushU c x p).1.st.n = x.st.n := by
  unfold pushU
  split
  · rfl
  · split
    · rfl
    · simp only []
      split <;> rfl

theorem removeU_n (c : Cfg) (x : LS) (p : Int) : (removeU c x p).1.st.n = x.st.n := by
  unfold removeU
  split
  · rfl
  · split
    · rfl
    · simp only []
      split <;> (split <;> rfl)

theorem popU_n (c : Cfg) (x : LS) : (popU c x).1.st.n = x.st.n := by
  unfold popU
  split
  · rfl
  · split <;> exact removeU_n c x x.hd

section
variable {w₀ : World} {h : Heap} {W : PW} {lb lb2 : Nat → Nat} {hd hd2 : Nat → Int} {st st2 : Sto} {K : Value → Heap → Prop}

theorem q_list (P : (QR W lb lb2 hd hd2 st st2).P h) {k : Nat} (hk : k < 3) : (lwR W.s (lb k) W.c W.Z ⟨st, hd k⟩).P h := ⟨P.1.1.1 k hk, P.1.2.1, fun b e e' => P.1.2.2 b ⟨k, hk, e⟩ e'⟩

theorem q_lift (P : (QR W lb lb2 hd hd2 st st2).P h) {k : Nat} (hk : k < 3) {h' : Heap} {x' : LS} (S : Stp h h' (lwR W.s (lb k) W.c W.Z ⟨st, hd k⟩) (lwR W.s (lb k) W.c W.Z x')) :
    Stp h h' (QR W lb lb2 hd hd2 st st2) (QR W lb lb2 (setf hd k x'.hd) hd2 x'.st st2) := by
  have S1 := Stp.allAnd (R := fun i => lsR W.s (lb i) (hd i)) k hk S P.1
  have he : ∀ i, i < 3 → (if i = k then lsR W.s (lb k) x'.hd else lsR W.s (lb i) (hd i)) = lsR W.s (lb i) (setf hd k x'.hd i) := by
    intro i _
    unfold setf
    split
    · rename_i e; rw [e]
    · rfl
  have S2 : Stp h h' (andR (allR 3 fun i => lsR W.s (lb i) (hd i)) (spR W.s W.c W.Z st)) (andR (allR 3 fun i => lsR W.s (lb i) (setf hd k x'.hd i)) (spR W.s W.c W.Z x'.st)) :=
    S1.conv (fun P => ⟨allR_congr he P.1, P.2.1, fun b e e' => P.2.2 b (allR_fp he b e) e'⟩) fun b e => e.imp (fun e => allR_fp he b e) id
  exact S2.left P

theorem q_new (P : (QR W lb lb2 hd hd2 st st2).P h) {k : Nat} (hk : k < 3) {h' : Heap} {nb : Nat} {p : Int} (N : New h h' (lsR W.s nb p)) :
    Stp h h' (QR W lb lb2 hd hd2 st st2) (QR W (setf lb k nb) lb2 (setf hd k p) hd2 st st2) := by
  have S0 : Stp h h' (lsR W.s (lb k) (hd k)) (lsR W.s nb p) := ⟨N.u.mono fun _ e => e.elim, N.p, fun b e => .inr (N.g b e)⟩
  have he : ∀ i, i < 3 → (if i = k then lsR W.s nb p else lsR W.s (lb i) (hd i)) = lsR W.s (setf lb k nb i) (setf hd k p i) := by
    intro i _
    unfold setf
    split <;> rfl
  exact ((Stp.all' (R := fun i => lsR W.s (lb i) (hd i)) k hk S0 P.1.1 he).left P.1).left P

theorem q_mine (P : (QR W lb lb2 hd hd2 st st2).P h) {k : Nat} (hk : k < 3) : cellAt h ⟨W.bm, k, none⟩ = some (.pointer (some ⟨lb2 k, 0, none⟩)) := P.2.1.1.1.cell hk
theorem q_head (P : (QR W lb lb2 hd hd2 st st2).P h) {k : Nat} (hk : k < 3) : cellAt h ⟨W.bh, k, none⟩ = some (.int .u64 (hd2 k)) := P.2.1.1.2.1.cell hk

theorem q_seth (P : (QR W lb lb2 hd hd2 st st2).P h) {k : Nat} (hk : k < 3) (v : Int) : Wr h ⟨W.bh, k, none⟩ ∧ Stp h (setC h ⟨W.bh, k, none⟩ (.int .u64 v)) (QR W lb lb2 hd hd2 st st2) (QR W lb lb2 hd (setf hd2 k v) st st2) := by
  have B : Blk h W.bh 3 (headF hd2) := P.2.1.1.2.1
  have S := Stp.set B k (.int .u64 v) (g := headF (setf hd2 k v)) fun j hj => by unfold headF setf; split <;> rfl
  exact ⟨B.wr hk, ((S.right P.2.1.1).left P.2.1).right P⟩

theorem q_setm (P : (QR W lb lb2 hd hd2 st st2).P h) {k : Nat} (hk : k < 3) (v : Nat) : Wr h ⟨W.bm, k, none⟩ ∧ Stp h (setC h ⟨W.bm, k, none⟩ (.pointer (some ⟨v, 0, none⟩))) (QR W lb lb2 hd hd2 st st2) (QR W lb (setf lb2 k v) hd hd2 st st2) := by
  have B : Blk h W.bm 3 (mineF lb2) := P.2.1.1.1
  have S := Stp.set B k (.pointer (some ⟨v, 0, none⟩)) (g := mineF (setf lb2 k v)) fun j hj => by unfold mineF setf; split <;> rfl
  exact ⟨B.wr hk, ((S.left P.2.1.1).left P.2.1).right P⟩

theorem q_ref (P : (QR W lb lb2 hd hd2 st st2).P h) {h' : Heap} {st3 : Sto} (S : Stp h h' (rsR W.c W.mp W.mc W.Y st2) (rsR W.c W.mp W.mc W.Y st3)) :
    Stp h h' (QR W lb lb2 hd hd2 st st2) (QR W lb lb2 hd hd2 st st3) := (S.right P.2.1).right P

theorem q_sp (P : (QR W lb lb2 hd hd2 st st2).P h) {h' : Heap} {st3 : Sto} (S : Stp h h' (spR W.s W.c W.Z st) (spR W.s W.c W.Z st3)) :
    Stp h h' (QR W lb lb2 hd hd2 st st2) (QR W lb lb2 hd hd2 st3 st2) := (S.right P.1).left P

theorem q_hu (P : (QR W lb lb2 hd hd2 st st2).P h) {k : Nat} (hk : k < 3) : U64 (hd k) := (P.1.1.1 k hk).1

/-- The bounded range's walk. -/
theorem walkR_bound {c : Cfg} {x : LS} {m : Nat} : ∀ (k : Nat) (p b : Int) (o : OutS) (τ : OutS × Bool), o.xs.length ≤ m →
    WalkR c (fun _ : OutS × Bool => x) (fun a q z => if a.1.xs.length = m then z = (a.1, true) else z.1.xs = a.1.xs ++ [q] ∧ z.2 = false) (fun a _ => decide (a.1.xs.length ≠ m)) k p b (o, false) τ →
    τ.1.xs = o.xs ++ (walkL c x.st k p b).take (m - o.xs.length)
  | 0, p, b, o, τ, _, h => by
    have h : τ = (o, false) := h
    rw [h]; simp [walkL]
  | k + 1, p, b, o, τ, hm, h => by
    simp only [WalkR] at h
    simp only [walkL]
    cases hc : ((p == 0 || !x.st.th c p 16) || (lk2 x.st c p != b)) <;> rw [hc] at h
    · simp only [cond_false] at h ⊢
      obtain ⟨⟨o', e'⟩, h1, h2⟩ := h
      by_cases he : o.xs.length = m
      · rw [if_pos he] at h1
        rw [decide_eq_false (by simpa using he)] at h2
        simp only [cond_false] at h2
        rw [h2, h1, he]
        simp
      · rw [if_neg he] at h1
        rw [decide_eq_true he] at h2
        simp only [cond_true] at h2
        obtain ⟨h3, h4⟩ := h1
        have h4 : e' = false := h4
        have h3 : o'.xs = o.xs ++ [p] := h3
        subst h4
        have := walkR_bound k _ _ o' τ (by rw [h3]; simp; omega) h2
        rw [this, h3]
        have e : m - o.xs.length = (m - (o.xs ++ [p]).length) + 1 := by simp; omega
        rw [e, List.take_succ_cons]
        simp
    · simp only [cond_true] at h ⊢
      rw [h]; simp
end
end Go.Proofs.Ytfijahblggnbbaa
