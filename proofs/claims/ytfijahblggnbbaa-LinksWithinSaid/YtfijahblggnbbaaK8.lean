/- Lists of cells in one page, as plain states: what a list holds, a push, a removal. No condition. -/
import Derived.Test.YtfijahblggnbbaaK5
set_option linter.unusedSimpArgs false
set_option linter.unusedVariables false
namespace Go.Proofs.Ytfijahblggnbbaa
open Go.V Classical

theorem rd_wr_same {st : Sto} {c : Cfg} {p v : Int} (hv : U64 v) : (st.wr c p v).rd c p = v := by
  unfold Sto.rd
  have : wrd (fun i => (st.wr c p v).M ((p - c.base).toNat + i)) 8 = wrd (byteOf v) 8 := wrd_congr fun i hi => by
    simp only [Sto.wr]
    rw [if_pos (by omega)]
    congr 1
    omega
  rw [this, wrd_byteOf]
  exact Int.emod_eq_of_lt hv.1 hv.2

theorem rd_wr_other {st : Sto} {c : Cfg} {p q v : Int} (hp : c.base ≤ p) (hq : c.base ≤ q) (h : q + 8 ≤ p ∨ p + 8 ≤ q) : (st.wr c p v).rd c q = st.rd c q := by
  unfold Sto.rd
  refine wrd_congr fun i hi => ?_
  simp only [Sto.wr]
  rw [if_neg (by omega)]

def Cell (p : Int) : Prop := ∃ i : Nat, i < 256 ∧ p = 4096 + 16 * (i : Int)

theorem cell_sep {p q : Int} (hp : Cell p) (hq : Cell q) (h : p ≠ q) : p + 16 ≤ q ∨ q + 16 ≤ p := by
  obtain ⟨i, _, rfl⟩ := hp
  obtain ⟨j, _, rfl⟩ := hq
  omega

theorem cell_lo {p : Int} (hp : Cell p) : 4096 ≤ p ∧ p ≤ 8176 := by
  obtain ⟨i, _, rfl⟩ := hp
  omega

theorem th1 {st : Sto} (h1 : st.n = 1) {p q : Int} : st.th C1 p q = true ↔ (q = 0 ∨ (4096 ≤ p ∧ p + q ≤ 8192)) := by
  have hs : C1.size = 4096 := rfl
  rw [th_iff]
  unfold There
  rw [h1, hs]
  show (q = 0 ∨ (4096 ≤ p ∧ p - 4096 + q ≤ _)) ↔ _
  omega

theorem cell_th {st : Sto} (h1 : st.n = 1) {p : Int} (hp : Cell p) : st.th C1 p 16 = true := by
  rw [th1 h1]
  have := cell_lo hp
  omega

/-- The links of some in a row: ahead of them b, behind them e. -/
def Seg (st : Sto) : Int → List Int → Int → Prop
  | _, [], _ => True
  | b, p :: l, e => st.rd C1 p = l.headD e ∧ st.rd C1 (p + 8) = b ∧ Seg st p l e

theorem seg_congr {st st' : Sto} : ∀ {l : List Int} {b e : Int}, (∀ p ∈ l, st'.rd C1 p = st.rd C1 p ∧ st'.rd C1 (p + 8) = st.rd C1 (p + 8)) → Seg st b l e → Seg st' b l e
  | [], _, _, _, _ => trivial
  | p :: l, b, e, h, H => by
    have h1 := h p (List.mem_cons_self ..)
    exact ⟨by rw [h1.1]; exact H.1, by rw [h1.2]; exact H.2.1, seg_congr (fun q hq => h q (List.mem_cons_of_mem _ hq)) H.2.2⟩

theorem seg_append {st : Sto} : ∀ {l1 l2 : List Int} {b e : Int}, Seg st b (l1 ++ l2) e ↔ Seg st b l1 (l2.headD e) ∧ Seg st (l1.getLastD b) l2 e
  | [], l2, b, e => by simp [Seg]
  | p :: l1, l2, b, e => by
    simp only [List.cons_append, Seg, seg_append (l1 := l1)]
    have e1 : (l1 ++ l2).headD e = l1.headD (l2.headD e) := by cases l1 <;> rfl
    have e2 : (p :: l1).getLastD b = l1.getLastD p := by cases l1 <;> rfl
    rw [e1, e2]
    constructor
    · rintro ⟨h1, h2, h3, h4⟩; exact ⟨⟨h1, h2, h3⟩, h4⟩
    · rintro ⟨⟨h1, h2, h3⟩, h4⟩; exact ⟨h1, h2, h3, h4⟩

/-- A word written in one cell leaves the others' links. -/
theorem wr_far {st : Sto} {p q v : Int} (hp : Cell p) (hq : Cell q) (h : p ≠ q) : ((st.wr C1 p v).rd C1 q = st.rd C1 q ∧ (st.wr C1 p v).rd C1 (q + 8) = st.rd C1 (q + 8)) ∧
    ((st.wr C1 (p + 8) v).rd C1 q = st.rd C1 q ∧ (st.wr C1 (p + 8) v).rd C1 (q + 8) = st.rd C1 (q + 8)) := by
  have h1 := cell_sep hp hq h
  have h2 := cell_lo hp
  have h3 := cell_lo hq
  have hb : C1.base = 4096 := rfl
  refine ⟨⟨?_, ?_⟩, ?_, ?_⟩ <;> exact rd_wr_other (by rw [hb]; omega) (by rw [hb]; omega) (by omega)

theorem wr_lo {st : Sto} {p v : Int} (hp : Cell p) : (st.wr C1 p v).rd C1 (p + 8) = st.rd C1 (p + 8) ∧ (st.wr C1 (p + 8) v).rd C1 p = st.rd C1 p := by
  have h2 := cell_lo hp
  have hb : C1.base = 4096 := rfl
  exact ⟨rd_wr_other (by rw [hb]; omega) (by rw [hb]; omega) (by omega), rd_wr_other (by rw [hb]; omega) (by rw [hb]; omega) (by omega)⟩

theorem seg_far {st : Sto} {p v : Int} {l : List Int} {b e : Int} (hp : Cell p) (hl : ∀ q ∈ l, Cell q) (h : p ∉ l) (H : Seg st b l e) : Seg (st.wr C1 p v) b l e ∧ Seg (st.wr C1 (p + 8) v) b l e := by
  have key : ∀ q ∈ l, p ≠ q := fun q hq e => h (e ▸ hq)
  exact ⟨seg_congr (fun q hq => (wr_far hp (hl q hq) (key q hq)).1) H, seg_congr (fun q hq => (wr_far hp (hl q hq) (key q hq)).2) H⟩

theorem getLastD_mem : ∀ {l : List Int} {d : Int}, l ≠ [] → l.getLastD d ∈ l
  | [], _, h => absurd rfl h
  | [p], _, _ => List.mem_cons_self ..
  | p :: q :: l, _, _ => List.mem_cons_of_mem _ (getLastD_mem (l := q :: l) (d := p) (by simp))

/-- The last one's next is set. -/
theorem seg_last {st : Sto} {v : Int} (hv : U64 v) : ∀ {l : List Int} {b e d : Int}, l ≠ [] → (∀ q ∈ l, Cell q) → l.Nodup → Seg st b l e → Seg (st.wr C1 (l.getLastD d) v) b l v
  | [], _, _, _, h, _, _, _ => absurd rfl h
  | [p], b, e, d, _, hc, _, H => by
    have hp := hc p (List.mem_cons_self ..)
    exact ⟨rd_wr_same hv, by rw [show ([p] : List Int).getLastD d = p from rfl, (wr_lo hp).1]; exact H.2.1, trivial⟩
  | p :: q :: l, b, e, d, _, hc, hn, H => by
    have hp := hc p (List.mem_cons_self ..)
    have hn' := List.nodup_cons.1 hn
    have e1 : (p :: q :: l).getLastD d = (q :: l).getLastD p := rfl
    have hm : (q :: l).getLastD p ∈ q :: l := getLastD_mem (by simp)
    have hne : (q :: l).getLastD p ≠ p := fun e => hn'.1 (e ▸ hm)
    have hf := (wr_far (st := st) (v := v) (hc _ (List.mem_cons_of_mem _ hm)) hp hne).1
    rw [e1]
    exact ⟨by rw [hf.1]; exact H.1, by rw [hf.2]; exact H.2.1, seg_last hv (by simp) (fun q hq => hc q (List.mem_cons_of_mem _ hq)) hn'.2 H.2.2⟩

/-- The first one's prev is set. -/
theorem seg_first {st : Sto} {v p : Int} {l : List Int} {b e : Int} (hv : U64 v) (hc : ∀ q ∈ p :: l, Cell q) (hn : (p :: l).Nodup) (H : Seg st b (p :: l) e) : Seg (st.wr C1 (p + 8) v) v (p :: l) e := by
  have hp := hc p (List.mem_cons_self ..)
  have hn' := List.nodup_cons.1 hn
  exact ⟨by rw [(wr_lo hp).2]; exact H.1, rd_wr_same hv, (seg_far hp (fun q hq => hc q (List.mem_cons_of_mem _ hq)) hn'.1 H.2.2).2⟩

/-- A list of cells. -/
structure Inv (x : LS) (l : List Int) : Prop where
  n1 : x.st.n = 1
  hd : x.hd = l.headD 0
  nd : l.Nodup
  cl : ∀ p ∈ l, Cell p
  sg : Seg x.st 0 l 0

/-- Links of a cell as they were. -/
def Same (st st' : Sto) (q : Int) : Prop := st'.rd C1 q = st.rd C1 q ∧ st'.rd C1 (q + 8) = st.rd C1 (q + 8)

theorem Same.trans {a b c : Sto} {q : Int} (h : Same a b q) (k : Same b c q) : Same a c q := ⟨k.1.trans h.1, k.2.trans h.2⟩

theorem cell_u64 {p : Int} (hp : Cell p) : U64 p := by have := cell_lo hp; exact ⟨by omega, by omega⟩

theorem hd_cell {l : List Int} (hc : ∀ p ∈ l, Cell p) : U64 (l.headD 0) := by
  cases l with
  | nil => simp [U64]
  | cons p l => exact cell_u64 (hc p (List.mem_cons_self ..))

theorem push_inv {x : LS} {l : List Int} {p : Int} (H : Inv x l) (hp : Cell p) (hn : p ∉ l) : (pushU C1 x p).2 = 0 ∧ Inv (pushU C1 x p).1 (p :: l) ∧ ∀ q, Cell q → q ∉ p :: l → Same x.st (pushU C1 x p).1.st q := by
  have t := cell_th H.n1 hp
  have uh := hd_cell H.cl
  have hnb : ¬ (x.hd ≠ 0 ∧ (x.st.th C1 x.hd 16 = false ∨ x.st.rd C1 (x.hd + 8) ≠ 0)) := by
    rintro ⟨h1, h2⟩
    cases l with
    | nil => exact h1 H.hd
    | cons a l =>
      have e : x.hd = a := H.hd
      rw [e, cell_th H.n1 (H.cl a (List.mem_cons_self ..)), H.sg.2.1] at h2
      rcases h2 with h2 | h2
      · cases h2
      · exact h2 rfl
  have e : pushU C1 x p = (⟨(if x.hd ≠ 0 then ((x.st.wr C1 p x.hd).wr C1 (p + 8) 0).wr C1 (x.hd + 8) p else (x.st.wr C1 p x.hd).wr C1 (p + 8) 0), p⟩, 0) := by
    unfold pushU
    rw [if_neg (by rw [t]; simp), if_neg hnb]
  rw [e]
  have s1 := (seg_far (v := x.hd) hp H.cl hn H.sg).1
  have s2 := (seg_far (v := 0) hp H.cl hn s1).2
  have p1 : ((x.st.wr C1 p x.hd).wr C1 (p + 8) 0).rd C1 p = x.hd := by rw [(wr_lo hp).2, rd_wr_same (by rw [H.hd]; exact uh)]
  have p2 : ((x.st.wr C1 p x.hd).wr C1 (p + 8) 0).rd C1 (p + 8) = 0 := rd_wr_same (by simp [U64])
  have same : ∀ q, Cell q → q ≠ p → Same x.st ((x.st.wr C1 p x.hd).wr C1 (p + 8) 0) q := fun q hq hne =>
    Same.trans (wr_far hp hq (Ne.symm hne)).1 (wr_far hp hq (Ne.symm hne)).2
  cases l with
  | nil =>
    have hz : x.hd = 0 := H.hd
    rw [if_neg (by simp [hz])]
    refine ⟨rfl, ⟨H.n1, rfl, by simp, fun q hq => ?_, ⟨by rw [p1, hz]; rfl, p2, trivial⟩⟩, fun q hq hne => same q hq (by simpa using hne)⟩
    have : q = p := by simpa using hq
    rw [this]; exact hp
  | cons a l =>
    have ea : x.hd = a := H.hd
    have ha := H.cl a (List.mem_cons_self ..)
    have hz : x.hd ≠ 0 := by have := cell_lo ha; omega
    have hpa : a ≠ p := fun e => hn (e ▸ List.mem_cons_self ..)
    rw [if_pos hz, ea]
    rw [ea] at s2 p1 p2 same
    have s3 := seg_first (v := p) (cell_u64 hp) H.cl H.nd s2
    have f := (wr_far (st := (x.st.wr C1 p a).wr C1 (p + 8) 0) (v := p) ha hp hpa).2
    refine ⟨rfl, ⟨H.n1, rfl, List.nodup_cons.2 ⟨hn, H.nd⟩, fun q hq => ?_, ⟨by rw [f.1, p1]; rfl, by rw [f.2, p2], s3⟩⟩, fun q hq hne => ?_⟩
    · rcases List.mem_cons.1 hq with rfl | hq
      · exact hp
      · exact H.cl q hq
    · have h1 : q ≠ p := fun e => hne (e ▸ List.mem_cons_self ..)
      have h2 : q ≠ a := fun e => hne (e ▸ List.mem_cons_of_mem _ (List.mem_cons_self ..))
      exact (same q hq h1).trans (wr_far ha hq (Ne.symm h2)).2

theorem lastNext {st : Sto} : ∀ {l : List Int} {b e d : Int}, l ≠ [] → Seg st b l e → st.rd C1 (l.getLastD d) = e
  | [], _, _, _, h, _ => absurd rfl h
  | [p], _, _, _, _, H => H.1
  | p :: q :: l, b, e, d, _, H => by
    show st.rd C1 ((q :: l).getLastD p) = e
    exact lastNext (by simp) H.2.2

theorem remove_inv {x : LS} {l1 l2 : List Int} {p : Int} (H : Inv x (l1 ++ p :: l2)) : (removeU C1 x p).2 = 0 ∧ Inv (removeU C1 x p).1 (l1 ++ l2) ∧ ∀ q, Cell q → q ∉ l1 ++ p :: l2 → Same x.st (removeU C1 x p).1.st q := by
  obtain ⟨n1, hd, nd, cl, sg⟩ := H
  have hp := cl p (by simp)
  have t := cell_th n1 hp
  obtain ⟨g1, g2⟩ := seg_append.1 sg
  obtain ⟨r1, r2, g3⟩ := g2
  have nd' := List.nodup_append.1 nd
  have nd2 := List.nodup_cons.1 nd'.2.1
  have c1 : ∀ q ∈ l1, Cell q := fun q hq => cl q (List.mem_append_left _ hq)
  have c2 : ∀ q ∈ l2, Cell q := fun q hq => cl q (by simp [hq])
  have g1 : Seg x.st 0 l1 p := g1
  have dis : ∀ a ∈ l1, ∀ b ∈ l2, a ≠ b := fun a ha b hb => nd'.2.2 a ha b (List.mem_cons_of_mem _ hb)
  have pl1 : p ∉ l1 := fun h => nd'.2.2 p h p (List.mem_cons_self ..) rfl
  have un : U64 (l2.headD 0) := hd_cell c2
  have ub : U64 (l1.getLastD 0) := by
    cases l1 with
    | nil => simp [U64]
    | cons a l => exact cell_u64 (c1 _ (getLastD_mem (by simp)))
  have hs : sndU C1 x p (l2.headD 0) (l1.getLastD 0) = true := by
    unfold sndU
    have h1 : ((l1.getLastD 0 == 0) == (p == x.hd)) = true := by
      cases l1 with
      | nil => have : x.hd = p := hd; simp [this]
      | cons a l =>
        have e1 : ((a :: l).getLastD 0 == 0) = false := by
          have := cell_lo (c1 _ (getLastD_mem (l := a :: l) (d := 0) (by simp)))
          exact beq_false_of_ne (by omega)
        have e2 : (p == x.hd) = false := by
          have : x.hd = a := hd
          rw [this]
          exact beq_false_of_ne fun e => pl1 (e ▸ List.mem_cons_self ..)
        rw [e1, e2]; rfl
    have h2 : (l1.getLastD 0 == 0 || (x.st.th C1 (l1.getLastD 0) 16 && x.st.rd C1 (l1.getLastD 0) == p)) = true := by
      cases l1 with
      | nil => rfl
      | cons a l =>
        have hm := getLastD_mem (l := a :: l) (d := 0) (by simp)
        have := lastNext (d := 0) (by simp) g1
        rw [cell_th n1 (c1 _ hm), this]
        simp
    have h3 : (l2.headD 0 == 0 || (x.st.th C1 (l2.headD 0) 16 && x.st.rd C1 (l2.headD 0 + 8) == p)) = true := by
      cases l2 with
      | nil => rfl
      | cons a l =>
        have e1 : x.st.rd C1 (a + 8) = p := g3.2.1
        show (a == 0 || (x.st.th C1 a 16 && x.st.rd C1 (a + 8) == p)) = true
        rw [cell_th n1 (c2 a (List.mem_cons_self ..)), e1]
        simp
    rw [h1, h2, h3]; rfl
  have e : removeU C1 x p = (let y : LS := if l1.getLastD 0 = 0 then ⟨x.st, l2.headD 0⟩ else ⟨x.st.wr C1 (l1.getLastD 0) (l2.headD 0), x.hd⟩
    ((if l2.headD 0 ≠ 0 then ⟨y.st.wr C1 (l2.headD 0 + 8) (l1.getLastD 0), y.hd⟩ else y), 0)) := by
    unfold removeU
    rw [if_neg (by rw [t]; simp), r1, r2, if_neg (by rw [hs]; simp)]
  have ndN : (l1 ++ l2).Nodup := List.nodup_append.2 ⟨nd'.1, nd2.2, dis⟩
  have clN : ∀ q ∈ l1 ++ l2, Cell q := fun q hq => by
    rcases List.mem_append.1 hq with hq | hq
    · exact c1 q hq
    · exact c2 q hq
  -- the first half: b's next
  have first : ∃ y : LS, y = (if l1.getLastD 0 = 0 then (⟨x.st, l2.headD 0⟩ : LS) else ⟨x.st.wr C1 (l1.getLastD 0) (l2.headD 0), x.hd⟩) ∧ y.st.n = 1 ∧ y.hd = (l1 ++ l2).headD 0 ∧ Seg y.st 0 l1 (l2.headD 0) ∧ Seg y.st p l2 0 ∧
      ∀ q, Cell q → q ∉ l1 ++ p :: l2 → Same x.st y.st q := by
    refine ⟨_, rfl, ?_⟩
    cases l1 with
    | nil => exact ⟨n1, rfl, trivial, g3, fun _ _ _ => ⟨rfl, rfl⟩⟩
    | cons a l =>
      have hm := getLastD_mem (l := a :: l) (d := 0) (by simp)
      have hz : (a :: l).getLastD 0 ≠ 0 := by have := cell_lo (c1 _ hm); omega
      rw [if_neg hz]
      refine ⟨n1, hd, seg_last un (by simp) c1 nd'.1 g1, (seg_far (c1 _ hm) c2 (fun h => dis _ hm _ h rfl) g3).1, fun q hq hne => ?_⟩
      exact (wr_far (c1 _ hm) hq fun e => hne (e ▸ List.mem_append_left _ hm)).1
  obtain ⟨y, hy, y1, y2, y3, y4, y5⟩ := first
  rw [e]
  simp only [← hy]
  cases l2 with
  | nil =>
    refine ⟨trivial, ⟨y1, y2, ndN, clN, ?_⟩, y5⟩
    show Seg y.st 0 (l1 ++ []) 0
    rw [List.append_nil]; exact y3
  | cons a l =>
    have ha := c2 a (List.mem_cons_self ..)
    have hz : (a :: l).headD 0 ≠ 0 := by have := cell_lo ha; show a ≠ 0; omega
    rw [if_pos hz]
    refine ⟨trivial, ⟨y1, y2, ndN, clN, ?_⟩, fun q hq hne => ?_⟩
    · exact seg_append.2 ⟨(seg_far ha c1 (fun h => dis _ h _ (List.mem_cons_self ..) rfl) y3).2, seg_first ub c2 nd2.2 y4⟩
    · exact (y5 q hq hne).trans (wr_far ha hq fun e => hne (by rw [← e]; simp)).2
end Go.Proofs.Ytfijahblggnbbaa
