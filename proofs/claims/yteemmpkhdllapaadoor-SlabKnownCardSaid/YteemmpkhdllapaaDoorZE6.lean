/- slab: lists of pages by their own links, lists of cells by the words in them: plain laws. No condition. -/
import Derived.Test.YteemmpkhdllapaaDoorZE5
set_option linter.unusedSimpArgs false
set_option linter.unusedVariables false
namespace Go.Proofs.YteemmpkhdllapaaDoor
open Go.V Classical

def hdE : List Nat → Int → Int
  | [], b => b
  | q :: _, _ => q
def lastE : List Nat → Int → Int
  | [], a => a
  | p :: l, _ => lastE l p

def CS (pg : Nat → Nat → Int) : List Nat → Int → Int → Prop
  | [], _, _ => True
  | p :: l, a, b => pg p 5 = a ∧ pg p 4 = hdE l b ∧ CS pg l p b

theorem CS_append {pg : Nat → Nat → Int} : ∀ {l1 l2 : List Nat} {a b : Int}, CS pg (l1 ++ l2) a b ↔ CS pg l1 a (hdE l2 b) ∧ CS pg l2 (lastE l1 a) b
  | [], l2, a, b => by simp [CS, lastE]
  | p :: l1, l2, a, b => by
    have ih := CS_append (pg := pg) (l1 := l1) (l2 := l2) (a := p) (b := b)
    have e : hdE (l1 ++ l2) b = hdE l1 (hdE l2 b) := by cases l1 <;> rfl
    simp only [List.cons_append, CS, lastE, ih, e, and_assoc]

theorem CS_congr {pg pg' : Nat → Nat → Int} : ∀ {l : List Nat} {a b : Int}, (∀ p ∈ l, pg' p 4 = pg p 4 ∧ pg' p 5 = pg p 5) → CS pg l a b → CS pg' l a b
  | [], _, _, _, _ => trivial
  | p :: l, a, b, h, H => by
    obtain ⟨h1, h2⟩ := h p (List.mem_cons_self ..)
    exact ⟨h2.trans H.1, h1.trans H.2.1, CS_congr (fun q hq => h q (List.mem_cons_of_mem _ hq)) H.2.2⟩

theorem CS_head {pg pg' : Nat → Nat → Int} {l : List Nat} {a a' b : Int} (nd : l.Nodup) (h : ∀ p, p ∈ l → hdE l (-1) ≠ p → pg' p 4 = pg p 4 ∧ pg' p 5 = pg p 5) (h0 : ∀ p l', l = p :: l' → pg' p 4 = pg p 4 ∧ pg' p 5 = a') (H : CS pg l a b) : CS pg' l a' b := by
  cases l with
  | nil => trivial
  | cons p l =>
    obtain ⟨e1, e2⟩ := h0 p l rfl
    refine ⟨e2, e1.trans H.2.1, CS_congr (fun q hq => h q (List.mem_cons_of_mem _ hq) fun e => ?_) H.2.2⟩
    have e : (p : Int) = q := e
    have : p = q := by omega
    subst this
    exact (List.nodup_cons.1 nd).1 hq

theorem lastE_mem : ∀ {l : List Nat} {a : Int}, l ≠ [] → ∃ q ∈ l, lastE l a = q
  | [], _, h => absurd rfl h
  | [p], _, _ => ⟨p, List.mem_cons_self .., rfl⟩
  | p :: q :: l, a, _ => by
    obtain ⟨r, hr, e⟩ := lastE_mem (l := q :: l) (a := p) (by simp)
    exact ⟨r, List.mem_cons_of_mem _ hr, e⟩

theorem CS_last {pg pg' : Nat → Nat → Int} : ∀ {l : List Nat} {a b b' : Int}, l.Nodup → (∀ p ∈ l, lastE l a ≠ p → pg' p 4 = pg p 4 ∧ pg' p 5 = pg p 5) → (∀ p ∈ l, lastE l a = p → pg' p 4 = b' ∧ pg' p 5 = pg p 5) → CS pg l a b → CS pg' l a b'
  | [], _, _, _, _, _, _, _ => trivial
  | [p], a, b, b', nd, h, h0, H => by
    obtain ⟨e1, e2⟩ := h0 p (List.mem_cons_self ..) rfl
    exact ⟨e2.trans H.1, e1, trivial⟩
  | p :: q :: l, a, b, b', nd, h, h0, H => by
    have hl : lastE (p :: q :: l) a = lastE (q :: l) p := rfl
    obtain ⟨r, hr, er⟩ := lastE_mem (l := q :: l) (a := p) (by simp)
    have hne : lastE (p :: q :: l) a ≠ p := by
      rw [hl, er]
      intro e
      have : r = p := by omega
      subst this
      exact (List.nodup_cons.1 nd).1 hr
    obtain ⟨e1, e2⟩ := h p (List.mem_cons_self ..) hne
    exact ⟨e2.trans H.1, e1.trans H.2.1, CS_last (l := q :: l) (a := p) (List.nodup_cons.1 nd).2 (fun s hs hn => h s (List.mem_cons_of_mem _ hs) hn) (fun s hs hn => h0 s (List.mem_cons_of_mem _ hs) hn) H.2.2⟩

def lkV (a : Int) (w : Nat) : List Nat → Int
  | [] => 0
  | i :: _ => a + ((i * w : Nat) : Int)
def Lnk (c : Cfg) (st : Sto) (a : Int) (w : Nat) : List Nat → Prop
  | [] => True
  | j :: l => st.rd c (a + ((j * w : Nat) : Int)) = lkV a w l ∧ Lnk c st a w l

theorem Lnk_congr {c : Cfg} {st st' : Sto} {a : Int} {w : Nat} : ∀ {l : List Nat}, (∀ j ∈ l, st'.rd c (a + ((j * w : Nat) : Int)) = st.rd c (a + ((j * w : Nat) : Int))) → Lnk c st a w l → Lnk c st' a w l
  | [], _, _ => trivial
  | j :: l, h, H => ⟨(h j (List.mem_cons_self ..)).trans H.1, Lnk_congr (fun i hi => h i (List.mem_cons_of_mem _ hi)) H.2⟩

structure PgI (P : Nat → Int) (k : Nat) (f : List Nat) : Prop where
  k0 : P 0 = 4
  k1 : P 1 = 0
  k2 : P 2 = k
  k3 : P 3 = (cnt k : Int) - f.length
  k6 : P 6 = hdE f (-1)
  bit : ∀ j, j < 256 → pbit P j = (decide (j < cnt k) && !decide (j ∈ f))

theorem ncells_k {P : Nat → Int} {k : Nat} (h : P 2 = k) : ncells P = cnt k := by unfold ncells cnt; rw [h]; rfl

theorem chainP_bit (P : Nat → Int) (a b : Int) (j : Nat) : pbit (chainP P a b) j = pbit P j := by
  unfold pbit chainP
  rw [if_neg (by omega), if_neg (by omega)]
theorem firstP_bit (P : Nat → Int) (a : Int) (j : Nat) : pbit (firstP P a) j = pbit P j := by
  unfold pbit firstP
  rw [if_neg (by omega)]

theorem PgI.chain {P : Nat → Int} {k : Nat} {f : List Nat} (H : PgI P k f) (a b : Int) : PgI (chainP P a b) k f :=
  ⟨H.k0, H.k1, H.k2, H.k3, H.k6, fun j hj => by rw [chainP_bit]; exact H.bit j hj⟩

theorem pown_bit {P : Nat → Int} {j : Nat} {l : Bool} (hP : ∀ j, j < 11 → 7 ≤ j → 0 ≤ P j) (hj : j < 256) (i : Nat) (hi : i < 256) : pbit (pown P j l) i = (pbit P i ^^ decide (i = j)) := by
  unfold pbit pown
  rw [if_neg (by omega)]
  by_cases e : 7 + i / 64 = 7 + j / 64
  · rw [if_pos e, Int.toNat_natCast, Nat.testBit_xor, Nat.testBit_two_pow]
    have e' : i / 64 = j / 64 := by omega
    rw [e']
    congr 1
    by_cases e2 : i = j
    · subst e2; simp
    · simp only [e2, decide_false]
      exact decide_eq_false (by omega)
  · rw [if_neg e]
    have : i ≠ j := fun h => e (by rw [h])
    simp [this]

theorem PgI.take {P : Nat → Int} {k : Nat} {j : Nat} {f : List Nat} (H : PgI P k (j :: f)) (T : PgT P) (hk : k < 8) (hj : j < cnt k) (nd : (j :: f).Nodup) (hl : (j :: f).length ≤ 256) : PgI (firstP (pown P j true) (hdE f (-1))) k f := by
  have hc := (cnt_wdt hk).2.2.2.1
  have h3 := H.k3
  rw [List.length_cons] at h3 hl
  refine ⟨?_, ?_, ?_, ?_, ?_, fun i hi => ?_⟩
  · unfold firstP pown; rw [if_neg (by omega), if_neg (by omega), if_neg (by omega)]; exact H.k0
  · unfold firstP pown; rw [if_neg (by omega), if_neg (by omega), if_neg (by omega)]; exact H.k1
  · unfold firstP pown; rw [if_neg (by omega), if_neg (by omega), if_neg (by omega)]; exact H.k2
  · unfold firstP pown
    rw [if_neg (by omega), if_pos rfl, if_pos rfl, h3, wI (by unfold bd63; omega)]
    omega
  · unfold firstP; rw [if_pos rfl]
  · rw [firstP_bit, pown_bit (fun j h1 h2 => (T.u j h1 h2).1) (by omega) i hi, H.bit i hi]
    have n1 := (List.nodup_cons.1 nd).1
    by_cases e : i = j
    · subst e
      simp [n1, hj]
    · simp [e]

theorem PgI.give {P : Nat → Int} {k : Nat} {j : Nat} {f : List Nat} (H : PgI P k f) (T : PgT P) (hk : k < 8) (hj : j < cnt k) (hn : j ∉ f) (hl : f.length ≤ 256) : PgI (firstP (pown P j false) j) k (j :: f) := by
  have hc := (cnt_wdt hk).2.2.2.1
  have h3 := H.k3
  refine ⟨?_, ?_, ?_, ?_, ?_, fun i hi => ?_⟩
  · unfold firstP pown; rw [if_neg (by omega), if_neg (by omega), if_neg (by omega)]; exact H.k0
  · unfold firstP pown; rw [if_neg (by omega), if_neg (by omega), if_neg (by omega)]; exact H.k1
  · unfold firstP pown; rw [if_neg (by omega), if_neg (by omega), if_neg (by omega)]; exact H.k2
  · unfold firstP pown
    rw [if_neg (by omega), if_pos rfl, if_neg (by decide), h3, List.length_cons, wI (by unfold bd63; omega)]
    omega
  · unfold firstP; rw [if_pos rfl]; rfl
  · rw [firstP_bit, pown_bit (fun j h1 h2 => (T.u j h1 h2).1) (by omega) i hi, H.bit i hi]
    by_cases e : i = j
    · subst e
      simp [hn, hj]
    · simp [e]

theorem PgI.born {k : Nat} (hk : k < 8) : PgI (firstP (slabP k) 0) k (List.range (cnt k)) := by
  have hc := cnt_wdt hk
  refine ⟨rfl, rfl, rfl, ?_, ?_, fun i hi => ?_⟩
  · rw [List.length_range]
    show (0 : Int) = _
    omega
  · show (0 : Int) = hdE (List.range (cnt k)) (-1)
    obtain ⟨n, hn⟩ : ∃ n, cnt k = n + 1 := ⟨cnt k - 1, by omega⟩
    rw [hn, List.range_succ_eq_map]
    rfl
  · rw [firstP_bit]
    have : pbit (slabP (k : Int)) i = false := by
      unfold pbit slabP
      rw [if_neg (by omega)]
      have h4 : i / 64 = 0 ∨ i / 64 = 1 ∨ i / 64 = 2 ∨ i / 64 = 3 := by omega
      rcases h4 with e | e | e | e <;> rw [e] <;> simp [plainP]
    rw [this]
    by_cases h : i < cnt k <;> simp [h]

section
variable {m : MS} {n : Nat}

theorem chainU_pg {q : Nat} {a b : Int} (hq : q < m.n) (h4 : m.pg q 0 = 4) (ha : -1 ≤ a ∧ a < m.n) (hb : -1 ≤ b ∧ b < m.n) : (chainU m q a b).pg = putP m.pg q (chainP (m.pg q) a b) := by
  unfold chainU
  rw [if_pos (show chainOk m q a b from ⟨by omega, by omega, by rw [Int.toNat_natCast]; exact h4, ha.1, ha.2, hb.1, hb.2⟩)]
  simp only [setPg, Int.toNat_natCast]

theorem pgA_nat {q : Nat} (hq : q < m.n) : pgA m q = m.pg q := by unfold pgA; rw [if_pos ⟨by omega, by omega⟩, Int.toNat_natCast]

theorem putP_same (pg : Nat → Nat → Int) (q : Nat) (P : Nat → Int) : putP pg q P q = P := by unfold putP; rw [if_pos rfl]
theorem putP_ne (pg : Nat → Nat → Int) {q r : Nat} (P : Nat → Int) (h : r ≠ q) : putP pg q P r = pg r := by unfold putP; rw [if_neg h]

theorem hdE_bd {l : List Nat} (h : ∀ p ∈ l, p < n) : -1 ≤ hdE l (-1) ∧ hdE l (-1) < n ∨ n = 0 := by
  cases l with
  | nil => by_cases e : n = 0; exact .inr e; left; show -1 ≤ (-1 : Int) ∧ (-1 : Int) < n; omega
  | cons q l => have := h q (List.mem_cons_self ..); left; show (-1 : Int) ≤ (q : Int) ∧ (q : Int) < n; omega

structure Nb (pg pg' : Nat → Nat → Int) (U : Nat → Prop) : Prop where
  o : ∀ q, ¬ U q → pg' q = pg q
  i : ∀ q, ∃ a b, pg' q = chainP (pg q) a b ∨ pg' q = pg q

theorem Nb.pgI {pg pg' : Nat → Nat → Int} {U : Nat → Prop} (H : Nb pg pg' U) {q k : Nat} {f : List Nat} (h : PgI (pg q) k f) : PgI (pg' q) k f := by
  obtain ⟨a, b, e | e⟩ := H.i q
  · rw [e]; exact h.chain a b
  · rw [e]; exact h

theorem chainP_chainP (P : Nat → Int) (a b a' b' : Int) : chainP (chainP P a b) a' b' = chainP P a' b' := by
  funext j
  unfold chainP
  by_cases h4 : j = 4 <;> by_cases h5 : j = 5 <;> simp [h4, h5]

theorem Nb.put {pg pg' : Nat → Nat → Int} {U : Nat → Prop} (H : Nb pg pg' U) {q : Nat} (hq : U q) (a b : Int) : Nb pg (putP pg' q (chainP (pg' q) a b)) U := by
  refine ⟨fun r hr => ?_, fun r => ?_⟩
  · rw [putP_ne _ _ (fun e : r = q => hr (e.symm ▸ hq))]; exact H.o r hr
  · by_cases e : r = q
    · subst e
      rw [putP_same]
      obtain ⟨a1, b1, e1 | e1⟩ := H.i r
      · exact ⟨a, b, .inl (by rw [e1, chainP_chainP])⟩
      · exact ⟨a, b, .inl (by rw [e1])⟩
    · rw [putP_ne _ _ e]; exact H.i r

theorem Nb.refl (pg : Nat → Nat → Int) (U : Nat → Prop) : Nb pg pg U := ⟨fun _ _ => rfl, fun _ => ⟨0, 0, .inr rfl⟩⟩

theorem hang_sim {pt : Nat → Int} {p k : Nat} {l : List Nat} (hl : ∀ q ∈ p :: l, q < m.n ∧ m.pg q 0 = 4) (nd : (p :: l).Nodup) (hh : pt k = hdE l (-1)) (H : CS m.pg l (-1) (-1)) :
    CS (hangM m pt p k).pg (p :: l) (-1) (-1) ∧ Nb m.pg (hangM m pt p k).pg (fun q => q ∈ p :: l) := by
  obtain ⟨hp, hp4⟩ := hl p (List.mem_cons_self ..)
  have n1 := List.nodup_cons.1 nd
  have hb : -1 ≤ hdE l (-1) ∧ hdE l (-1) < m.n := by
    rcases hdE_bd (n := m.n) (l := l) fun q hq => (hl q (List.mem_cons_of_mem _ hq)).1 with h | h
    · exact h
    · omega
  have e1 : (chainU m p (pt k) (-1)).pg = putP m.pg p (chainP (m.pg p) (pt k) (-1)) := chainU_pg hp hp4 (by rw [hh]; exact hb) (by omega)
  have B1 := (Nb.refl m.pg (fun q => q ∈ p :: l)).put (List.mem_cons_self ..) (pt k) (-1)
  rw [← e1] at B1
  cases l with
  | nil =>
    have hneg : ¬ 0 ≤ pt k := by rw [hh]; decide
    have e : hangM m pt p k = chainU m p (pt k) (-1) := by unfold hangM; simp only []; rw [if_neg hneg]
    rw [e]
    refine ⟨?_, B1⟩
    rw [e1]
    refine ⟨by rw [putP_same]; rfl, by rw [putP_same]; exact hh, trivial⟩
  | cons q l =>
    have hq0 : pt k = (q : Int) := hh
    obtain ⟨hq, hq4⟩ := hl q (List.mem_cons_of_mem _ (List.mem_cons_self ..))
    have hqp : q ≠ p := fun e => n1.1 (e ▸ List.mem_cons_self ..)
    have e : hangM m pt p k = chainU (chainU m p (pt k) (-1)) q (pgA (chainU m p (pt k) (-1)) q 4) p := by
      unfold hangM; simp only []; rw [if_pos (by omega), hq0]
    have hpgq : (chainU m p (pt k) (-1)).pg q = m.pg q := by rw [e1, putP_ne _ _ hqp]
    have e2 : pgA (chainU m p (pt k) (-1)) q 4 = hdE l (-1) := by
      rw [pgA_nat (by simpa using hq), hpgq]; exact H.2.1
    have hb2 : -1 ≤ hdE l (-1) ∧ hdE l (-1) < m.n := by
      rcases hdE_bd (n := m.n) (l := l) fun r hr => (hl r (List.mem_cons_of_mem _ (List.mem_cons_of_mem _ hr))).1 with h | h
      · exact h
      · omega
    have e3 : (hangM m pt p k).pg = putP (chainU m p (pt k) (-1)).pg q (chainP ((chainU m p (pt k) (-1)).pg q) (hdE l (-1)) p) := by
      rw [e, e2]
      exact chainU_pg (by simpa using hq) (by rw [hpgq]; exact hq4) (by simpa using hb2) (by simp; omega)
    refine ⟨?_, ?_⟩
    · rw [e3]
      refine ⟨?_, ?_, ?_⟩
      · rw [putP_ne _ _ (Ne.symm hqp), e1, putP_same]; rfl
      · rw [putP_ne _ _ (Ne.symm hqp), e1, putP_same]; exact hh
      · refine CS_head n1.2 (fun r hr hne => ?_) (fun r l' er => ?_) H
        · have hrq : r ≠ q := fun e => hne (by rw [e]; rfl)
          have hrp : r ≠ p := fun e => n1.1 (e ▸ hr)
          rw [putP_ne _ _ hrq, e1, putP_ne _ _ hrp]
          exact ⟨rfl, rfl⟩
        · cases er
          rw [putP_same]
          exact ⟨H.2.1.symm ▸ rfl, rfl⟩
    · rw [e3]
      exact B1.put (List.mem_cons_of_mem _ (List.mem_cons_self ..)) _ _

theorem unhang_sim {pt : Nat → Int} {p k : Nat} {l1 l2 : List Nat} (hl : ∀ q ∈ l1 ++ p :: l2, q < m.n ∧ m.pg q 0 = 4) (nd : (l1 ++ p :: l2).Nodup) (hh : pt k = hdE (l1 ++ p :: l2) (-1)) (H : CS m.pg (l1 ++ p :: l2) (-1) (-1)) :
    CS (unhangM m p).pg (l1 ++ l2) (-1) (-1) ∧ (unhangM m p).pg p 4 = -1 ∧ (unhangM m p).pg p 5 = -1 ∧ Nb m.pg (unhangM m p).pg (fun q => q ∈ l1 ++ p :: l2) ∧ unhangP m pt p k = fset pt k (hdE (l1 ++ l2) (-1)) := by
  have hpm : p ∈ l1 ++ p :: l2 := by simp
  obtain ⟨hp, hp4⟩ := hl p hpm
  obtain ⟨A, B⟩ := CS_append.1 H
  obtain ⟨p5, p4, C⟩ := B
  have A : CS m.pg l1 (-1) p := A
  have nd' := List.nodup_append.1 nd
  have nd2 := List.nodup_cons.1 nd'.2.1
  have ePA : pgA m p = m.pg p := pgA_nat hp
  have n1p : p ∉ l1 := fun h => nd'.2.2 p h p (List.mem_cons_self ..) rfl
  have dj : ∀ q ∈ l1, q ∉ l2 := fun q h h2 => nd'.2.2 q h q (List.mem_cons_of_mem _ h2) rfl
  have bd2 : -1 ≤ hdE l2 (-1) ∧ hdE l2 (-1) < m.n := by
    rcases hdE_bd (n := m.n) (l := l2) fun r hr => (hl r (by simp [hr])).1 with h | h
    · exact h
    · omega
  have bd1 : -1 ≤ lastE l1 (-1) ∧ lastE l1 (-1) < m.n := by
    by_cases e : l1 = []
    · rw [e]; show -1 ≤ (-1 : Int) ∧ (-1 : Int) < _; omega
    · obtain ⟨q, hq, eq⟩ := lastE_mem (a := -1) e
      have := (hl q (by simp [hq])).1
      rw [eq]; omega
  -- the one ahead
  have SA : CS (unA m p).pg l1 (-1) (hdE l2 (-1)) ∧ (∀ q, q ∉ l1 → (unA m p).pg q = m.pg q) ∧ Nb m.pg (unA m p).pg (fun q => q ∈ l1 ++ p :: l2) ∧ unhangP m pt p k = fset pt k (hdE (l1 ++ l2) (-1)) := by
    by_cases e : l1 = []
    · subst e
      have h5 : m.pg p 5 = -1 := p5
      have eu : unA m p = m := by unfold unA; rw [ePA, h5, if_neg (by decide)]
      rw [eu]
      refine ⟨trivial, fun q _ => rfl, Nb.refl _ _, ?_⟩
      unfold unhangP
      rw [ePA, h5, if_neg (by decide), p4]
      rfl
    · obtain ⟨r, hr, er⟩ := lastE_mem (a := -1) e
      have h5 : m.pg p 5 = (r : Int) := p5.trans er
      obtain ⟨hrn, hr4⟩ := hl r (by simp [hr])
      have eu : unA m p = chainU m r (hdE l2 (-1)) (m.pg r 5) := by
        unfold unA; rw [ePA, h5, if_pos (by omega), pgA_nat hrn, p4]
      -- its own one ahead
      have b5 : -1 ≤ m.pg r 5 ∧ m.pg r 5 < m.n := by
        obtain ⟨s, t, est⟩ := List.append_of_mem hr
        have A2 := A
        rw [est] at A2
        have := (CS_append.1 A2).2.1
        rw [this]
        by_cases e2 : s = []
        · rw [e2]; show -1 ≤ (-1 : Int) ∧ (-1 : Int) < _; omega
        · obtain ⟨q, hq, eq⟩ := lastE_mem (a := -1) e2
          have := (hl q (by rw [est]; simp [hq])).1
          rw [eq]; omega
      have epg : (unA m p).pg = putP m.pg r (chainP (m.pg r) (hdE l2 (-1)) (m.pg r 5)) := by rw [eu]; exact chainU_pg hrn hr4 bd2 b5
      refine ⟨?_, fun q hq => ?_, ?_, ?_⟩
      · rw [epg]
        refine CS_last nd'.1 (fun q hq hne => ?_) (fun q hq he => ?_) A
        · rw [putP_ne _ _ (fun e => hne (by rw [er, e]))]; exact ⟨rfl, rfl⟩
        · have : q = r := by rw [er] at he; omega
          subst this
          rw [putP_same]
          exact ⟨rfl, rfl⟩
      · rw [epg, putP_ne _ _ (fun e : q = r => hq (e.symm ▸ hr))]
      · rw [epg]; exact (Nb.refl m.pg _).put (show r ∈ l1 ++ p :: l2 by simp [hr]) _ _
      · unfold unhangP
        rw [ePA, h5, if_pos (by omega)]
        cases l1 with
        | nil => exact absurd rfl e
        | cons q l1 =>
          have : pt k = (q : Int) := hh
          funext j
          unfold fset
          by_cases ej : j = k
          · rw [if_pos ej, ej, this]; rfl
          · rw [if_neg ej]
  obtain ⟨SA1, SA2, SA3, SA4⟩ := SA
  have oA : (unA m p).n = m.n := by unfold unA; split <;> simp
  -- the one behind
  have SB : CS (unB m p).pg l1 (-1) (hdE l2 (-1)) ∧ CS (unB m p).pg l2 (lastE l1 (-1)) (-1) ∧ (unB m p).pg p = m.pg p ∧ Nb m.pg (unB m p).pg (fun q => q ∈ l1 ++ p :: l2) := by
    cases l2 with
    | nil =>
      have h4 : m.pg p 4 = -1 := p4
      have eu : unB m p = unA m p := by unfold unB; rw [ePA, h4, if_neg (by decide)]
      rw [eu]
      exact ⟨SA1, trivial, SA2 p n1p, SA3⟩
    | cons q l2 =>
      have h4 : m.pg p 4 = (q : Int) := p4
      obtain ⟨hqn, hq4⟩ := hl q (by simp)
      have hq1 : q ∉ l1 := fun h => dj q h (List.mem_cons_self ..)
      have hqp : q ≠ p := fun e => nd2.1 (e ▸ List.mem_cons_self ..)
      have eq4 : (unA m p).pg q = m.pg q := SA2 q hq1
      have eu : unB m p = chainU (unA m p) q (hdE l2 (-1)) (lastE l1 (-1)) := by
        unfold unB
        rw [ePA, h4, if_pos (by omega), pgA_nat (by rw [oA]; exact hqn), eq4, p5, C.2.1]
      have bd3 : -1 ≤ hdE l2 (-1) ∧ hdE l2 (-1) < m.n := by
        rcases hdE_bd (n := m.n) (l := l2) fun r hr => (hl r (by simp [hr])).1 with h | h
        · exact h
        · omega
      have epg : (unB m p).pg = putP (unA m p).pg q (chainP ((unA m p).pg q) (hdE l2 (-1)) (lastE l1 (-1))) := by
        rw [eu]; exact chainU_pg (by rw [oA]; exact hqn) (by rw [eq4]; exact hq4) (by rw [oA]; exact bd3) (by rw [oA]; exact bd1)
      refine ⟨?_, ?_, ?_, ?_⟩
      · rw [epg]
        exact CS_congr (fun r hr => by rw [putP_ne _ _ (fun e : r = q => hq1 (e ▸ hr))]; exact ⟨rfl, rfl⟩) SA1
      · rw [epg]
        refine CS_head (pg := m.pg) nd2.2 (fun r hr hne => ?_) (fun r l' er => ?_) C
        · have hrq : r ≠ q := fun e => hne (by rw [e]; rfl)
          rw [putP_ne _ _ hrq, SA2 r (fun h => dj r h hr)]
          exact ⟨rfl, rfl⟩
        · cases er
          rw [putP_same]
          exact ⟨C.2.1.symm ▸ rfl, rfl⟩
      · rw [epg, putP_ne _ _ (Ne.symm hqp)]; exact SA2 p n1p
      · rw [epg]; exact SA3.put (show q ∈ l1 ++ p :: q :: l2 by simp) _ _
  obtain ⟨SB1, SB2, SB3, SB4⟩ := SB
  have oB : (unB m p).n = m.n := by unfold unB; split <;> simp [oA]
  have epg : (unhangM m p).pg = putP (unB m p).pg p (chainP ((unB m p).pg p) (-1) (-1)) := chainU_pg (by rw [oB]; exact hp) (by rw [SB3]; exact hp4) (by rw [oB]; omega) (by rw [oB]; omega)
  have oth : ∀ q, q ≠ p → (unhangM m p).pg q = (unB m p).pg q := fun q h => by rw [epg, putP_ne _ _ h]
  refine ⟨CS_append.2 ⟨CS_congr (fun q hq => ?_) SB1, CS_congr (fun q hq => ?_) SB2⟩, ?_, ?_, ?_, SA4⟩
  · rw [oth q fun e => n1p (e ▸ hq)]; exact ⟨rfl, rfl⟩
  · rw [oth q fun e => nd2.1 (e ▸ hq)]; exact ⟨rfl, rfl⟩
  · rw [epg, putP_same]; rfl
  · rw [epg, putP_same]; rfl
  · rw [epg]; exact SB4.put hpm _ _
end
end Go.Proofs.YteemmpkhdllapaaDoor
