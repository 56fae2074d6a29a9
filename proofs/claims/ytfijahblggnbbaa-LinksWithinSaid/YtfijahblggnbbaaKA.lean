/- Lists of cells of which a link is written over, plainly; a row with one address ahead. No condition. -/
import Derived.Test.YtfijahblggnbbaaK9
set_option linter.unusedSimpArgs false
set_option linter.unusedVariables false
namespace Go.Proofs.Ytfijahblggnbbaa
open Go.V Classical

theorem remove_bad {x : LS} {p : Int} (t : x.st.th C1 p 16 = true) (h : sndU C1 x p (x.st.rd C1 p) (x.st.rd C1 (p + 8)) = false) : removeU C1 x p = (x, 8) := by
  unfold removeU
  rw [if_neg (by rw [t]; simp), if_pos h]

theorem spoil_next {x : LS} {l1 l2 : List Int} {p n v : Int} (H : Inv x (l1 ++ p :: n :: l2)) (hv : U64 v) (hn : v ≠ n) : removeU C1 ⟨x.st.wr C1 p v, x.hd⟩ n = (⟨x.st.wr C1 p v, x.hd⟩, 8) := by
  have cp := H.cl p (by simp)
  have cn := H.cl n (by simp)
  have hne : p ≠ n := fun e => by
    have := (List.nodup_cons.1 (List.nodup_append.1 H.nd).2.1).1
    exact this (by rw [e]; exact List.mem_cons_self ..)
  have f := (wr_far (st := x.st) (v := v) cp cn hne).1
  have g := (seg_append.1 H.sg).2
  have g2 : x.st.rd C1 (n + 8) = p := g.2.2.2.1
  refine remove_bad (x := ⟨x.st.wr C1 p v, x.hd⟩) (cell_th H.n1 cn) ?_
  show sndU C1 _ n ((x.st.wr C1 p v).rd C1 n) ((x.st.wr C1 p v).rd C1 (n + 8)) = false
  rw [f.1, f.2, g2]
  have hz : (p == 0) = false := by have := cell_lo cp; exact beq_false_of_ne (by omega)
  have hr : ((x.st.wr C1 p v).rd C1 p == n) = false := by rw [rd_wr_same hv]; exact beq_false_of_ne hn
  unfold sndU
  simp only [hz, hr, Bool.and_false, Bool.or_false, Bool.false_and]

theorem spoil_prev {x : LS} {l1 l2 : List Int} {a p v : Int} (H : Inv x (l1 ++ a :: p :: l2)) (hv : U64 v) (hn : v ≠ a) : removeU C1 ⟨x.st.wr C1 (p + 8) v, x.hd⟩ a = (⟨x.st.wr C1 (p + 8) v, x.hd⟩, 8) := by
  have cp := H.cl p (by simp)
  have ca := H.cl a (by simp)
  have hne : p ≠ a := fun e => by
    have := (List.nodup_cons.1 (List.nodup_append.1 H.nd).2.1).1
    exact this (by rw [e]; exact List.mem_cons_self ..)
  have f := (wr_far (st := x.st) (v := v) cp ca hne).2
  have g := (seg_append.1 H.sg).2
  have g1 : x.st.rd C1 a = p := g.1
  refine remove_bad (x := ⟨x.st.wr C1 (p + 8) v, x.hd⟩) (cell_th H.n1 ca) ?_
  show sndU C1 _ a ((x.st.wr C1 (p + 8) v).rd C1 a) ((x.st.wr C1 (p + 8) v).rd C1 (a + 8)) = false
  rw [f.1, f.2, g1]
  have hz : (p == 0) = false := by have := cell_lo cp; exact beq_false_of_ne (by omega)
  have hr : ((x.st.wr C1 (p + 8) v).rd C1 (p + 8) == a) = false := by rw [rd_wr_same hv]; exact beq_false_of_ne hn
  unfold sndU
  simp only [hz, hr, Bool.and_false, Bool.or_false]

theorem walkL_stop {st : Sto} (n1 : st.n = 1) {e : Int} : ∀ {l : List Int} {b : Int} {k : Nat}, (∀ p ∈ l, Cell p) → l.length ≤ k → Seg st b l e → lk2 st C1 e ≠ l.getLastD b → walkL C1 st k (l.headD e) b = l
  | [], b, 0, _, _, _, _ => rfl
  | [], b, k + 1, _, _, _, h => by
    have : (lk2 st C1 e != b) = true := ne_b h
    simp [walkL, this]
  | p :: l, b, 0, _, hk, _, _ => by simp at hk
  | p :: l, b, k + 1, hc, hk, H, h => by
    have hp := hc p (List.mem_cons_self ..)
    have t := cell_th n1 hp
    have h1 : lk2 st C1 p = b := by simp only [lk2, t, if_true]; exact H.2.1
    have h2 : lk1 st C1 p = l.headD e := by simp only [lk1, (th8 t).1, if_true]; exact H.1
    have hz : (p == 0) = false := by have := cell_lo hp; exact beq_false_of_ne (by omega)
    have h3 : lk2 st C1 e ≠ l.getLastD p := by cases l <;> exact h
    show walkL C1 st (k + 1) p b = p :: l
    simp only [walkL, h1, h2, t, hz]
    rw [walkL_stop n1 (fun q hq => hc q (List.mem_cons_of_mem _ hq)) (by simpa using hk) H.2.2 h3]
    simp

theorem spoil_all {x : LS} {l1 l2 : List Int} {p v : Int} (H : Inv x (l1 ++ p :: l2)) (hv : U64 v) (hn : v ≠ l1.getLastD 0) : allL C1 ⟨x.st.wr C1 (p + 8) v, x.hd⟩ = l1 := by
  have cp := H.cl p (by simp)
  have c1 : ∀ q ∈ l1, Cell q := fun q hq => H.cl q (List.mem_append_left _ hq)
  have nd := List.nodup_append.1 H.nd
  have pl : p ∉ l1 := fun h => nd.2.2 p h p (List.mem_cons_self ..) rfl
  have g := (seg_append.1 H.sg).1
  have hr : roomU C1 (x.st.wr C1 (p + 8) v) = 256 := by unfold roomU; rw [wr_n, H.n1]; rfl
  unfold allL
  simp only [hr]
  have hh : x.hd = l1.headD p := by rw [H.hd]; cases l1 <;> rfl
  rw [hh]
  refine walkL_stop (by exact H.n1) c1 (cells_len nd.1 c1) (seg_far cp c1 pl g).2 ?_
  have : lk2 (x.st.wr C1 (p + 8) v) C1 p = v := by
    have t : (x.st.wr C1 (p + 8) v).th C1 p 16 = true := cell_th H.n1 cp
    simp only [lk2, t, if_true]
    exact rd_wr_same hv
  rw [this]
  exact hn

/-- Who has p as its next. -/
theorem seg_who {st : Sto} {p v : Int} {l2 : List Int} : ∀ {l1 : List Int} {b : Int}, Seg st b (l1 ++ p :: l2) 0 → (l1 ++ p :: l2).Nodup → p ≠ 0 → v ∈ l1 ++ p :: l2 → st.rd C1 v = p → v = l1.getLastD b
  | [], b, H, hn, hz, hm, hr => by
    -- v is in p :: l2: its next is behind it
    exfalso
    have key : ∀ (l : List Int) (q : Int), Seg st q l 0 → p ∉ l → ∀ u ∈ l, st.rd C1 u ≠ p := by
      intro l
      induction l with
      | nil => intro q _ _ u hu; cases hu
      | cons a l ih =>
        intro q Hs hp u hu
        have hp' : p ∉ l := fun h => hp (List.mem_cons_of_mem _ h)
        rcases List.mem_cons.1 hu with rfl | hu
        · rw [Hs.1]
          cases l with
          | nil => exact fun e => hz e.symm
          | cons c l => exact fun e => hp (by rw [← (show c = p from e)]; simp)
        · exact ih a Hs.2.2 hp' u hu
    have hn' := List.nodup_cons.1 hn
    rcases List.mem_cons.1 hm with rfl | hm
    · rw [H.1] at hr
      cases l2 with
      | nil => exact hz hr.symm
      | cons c l => exact hn'.1 (by rw [← (show c = v from hr)]; simp)
    · exact key l2 p H.2.2 hn'.1 v hm hr
  | a :: l1, b, H, hn, hz, hm, hr => by
    have hn' := List.nodup_cons.1 hn
    have e2 : (a :: l1).getLastD b = l1.getLastD a := by cases l1 <;> rfl
    rw [e2]
    rcases List.mem_cons.1 hm with rfl | hm
    · have h1 : st.rd C1 v = (l1 ++ p :: l2).headD 0 := H.1
      rw [hr] at h1
      cases l1 with
      | nil => rfl
      | cons c l =>
        exfalso
        have h1 : p = c := h1
        have := (List.nodup_cons.1 hn'.2).1
        exact this (by rw [← h1]; simp)
    · exact seg_who H.2.2 hn'.2 hz hm hr

theorem spoil_self {x : LS} {l1 l2 : List Int} {p v : Int} (H : Inv x (l1 ++ p :: l2)) (hv : U64 v) (hn : v ≠ l1.getLastD 0) (hm : v = 0 ∨ v ∈ l1 ++ p :: l2) :
    removeU C1 ⟨x.st.wr C1 (p + 8) v, x.hd⟩ p = (⟨x.st.wr C1 (p + 8) v, x.hd⟩, 8) := by
  have cp := H.cl p (by simp)
  have nd := List.nodup_append.1 H.nd
  have pl : p ∉ l1 := fun h => nd.2.2 p h p (List.mem_cons_self ..) rfl
  have pz : p ≠ 0 := by have := cell_lo cp; omega
  refine remove_bad (x := ⟨x.st.wr C1 (p + 8) v, x.hd⟩) (cell_th H.n1 cp) ?_
  show sndU C1 _ p ((x.st.wr C1 (p + 8) v).rd C1 p) ((x.st.wr C1 (p + 8) v).rd C1 (p + 8)) = false
  rw [rd_wr_same hv]
  by_cases hz : v = 0
  · have h1 : ((v == 0) == (p == x.hd)) = false := by
      cases l1 with
      | nil => exact absurd hz hn
      | cons a l =>
        have : x.hd = a := H.hd
        have h2 : (p == x.hd) = false := by rw [this]; exact beq_false_of_ne fun e => pl (e ▸ List.mem_cons_self ..)
        rw [h2, hz]; rfl
    unfold sndU
    simp only [h1, Bool.false_and]
  · have hm := hm.resolve_left hz
    have cv := H.cl v hm
    have hr : ((x.st.wr C1 (p + 8) v).rd C1 v == p) = false := by
      have e : (x.st.wr C1 (p + 8) v).rd C1 v = x.st.rd C1 v := by
        by_cases hvp : p = v
        · rw [← hvp]; exact (wr_lo cp).2
        · exact (wr_far cp cv hvp).2.1
      rw [e]
      exact beq_false_of_ne fun e => hn (seg_who H.sg H.nd pz hm e)
    have hz' : (v == 0) = false := beq_false_of_ne hz
    unfold sndU
    simp only [hr, hz', Bool.and_false, Bool.or_false, Bool.false_and]

/-- No link is 12345. -/
theorem cell_odd {p : Int} (hp : Cell p) : p ≠ 12345 := by obtain ⟨i, _, rfl⟩ := hp; omega

theorem linkD_ne {l : List Int} (hc : ∀ p ∈ l, Cell p) : l.headD 0 ≠ 12345 ∧ l.getLastD 0 ≠ 12345 := by
  cases l with
  | nil => exact ⟨by simp, by simp⟩
  | cons a l => exact ⟨cell_odd (hc a (List.mem_cons_self ..)), cell_odd (hc _ (getLastD_mem (by simp)))⟩

section
variable {w₀ : World} {h : Heap} {K : Value → Heap → Prop}

/-- append([]uint64{p}, want..). -/
theorem cons_app {xs : List Int} {q : Option Addr} {p : Int} (hx : xs.length ≤ 1073741824) (P : Row h q xs.length (uL xs)) :
    ∃ os vs, AppPre (h.push (.cells #[.int .u64 p] T.T_uint64)) (some ⟨h.size, 0, none⟩) 1 1 q xs.length 1 8 os vs ∧
      ∀ (p' : Option Addr) (c' : Nat) (h' : Heap), AppRes (h.push (.cells #[.int .u64 p] T.T_uint64)) (some ⟨h.size, 0, none⟩) 1 1 xs.length [(.int .u64 (0 : Int))] T.T_uint64 os vs p' c' h' →
        New h h' (slR p' (1 + xs.length) c' 1 (uL (p :: xs))) := by
  have N := sl_lit h #[.int .u64 p] T.T_uint64 1 1 rfl
  have P1 := P.upd N.u fun _ _ => id
  obtain ⟨os, q1, q2⟩ := sl_app (zs := [(.int .u64 (0 : Int))]) (xs := lst xs.length (uL xs)) (q := q) (m := xs.length) (b := 8) (e := T.T_uint64) N.p (by simp) (by simp) P1.rowAt (fun v hv => by
    obtain ⟨i, _, rfl⟩ := List.mem_map.1 hv; rfl) (by omega)
  refine ⟨os, _, q1, fun p' c' h' hres => N.stp ((q2 p' c' h' hres).conv (fun Q => sl_congr Q fun i hi => ?_) fun _ e => e)⟩
  simp only [List.length_singleton, Nat.mul_one]
  rcases i with _ | i
  · rfl
  · rw [if_neg (by omega), lst_getD (by simp at hi; omega)]
    simp [uL]
end
end Go.Proofs.Ytfijahblggnbbaa
