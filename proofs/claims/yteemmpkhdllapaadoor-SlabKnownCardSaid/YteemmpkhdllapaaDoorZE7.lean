/- slab: what its state stands for; one page changes. No condition. -/
import Derived.Test.YteemmpkhdllapaaDoorZE6
set_option linter.unusedSimpArgs false
set_option linter.unusedVariables false
namespace Go.Proofs.YteemmpkhdllapaaDoor
open Go.V Classical

structure SI (c : Cfg) (x : BU) (hp : Nat → Int) (S : Nat → Prop) (fl : Nat → List Nat) (L : List PBk) (cl : Nat → Nat) (fr : Nat → List Nat) (pl : Nat → List Nat) : Prop where
  w : WS S c x fl L
  k8 : ∀ p, S p → cl p < 8
  nd : ∀ p, S p → (fr p).Nodup ∧ ∀ j ∈ fr p, j < cnt (cl p)
  pn : ∀ k, k < 8 → (pl k).Nodup ∧ ∀ p, p ∈ pl k ↔ (S p ∧ cl p = k ∧ fr p ≠ [])
  hd : ∀ k, k < 8 → hp k = hdE (pl k) (-1)
  pg : ∀ p, S p → PgI (x.m.pg p) (cl p) (fr p)
  ch : ∀ k, k < 8 → CS x.m.pg (pl k) (-1) (-1)
  no : ∀ p, S p → fr p = [] → x.m.pg p 4 = -1 ∧ x.m.pg p 5 = -1
  lk : ∀ p, S p → Lnk c x.st (adr c p) (wdt (cl p)) (fr p)

section
variable {c : Cfg} {x : BU} {hp hp' : Nat → Int} {S S' : Nat → Prop} {fl : Nat → List Nat} {L : List PBk} {cl : Nat → Nat} {fr pl : Nat → List Nat} {p k q : Nat}

theorem RepS.uniq0 {hs : List PBk} (R : RepS S c x fl L hs) (h : (p, 0) ∈ L) {b : PBk} (hb : b ∈ L) (hc : Cov b p) : b = (p, 0) :=
  R.til.uniq (List.mem_append_right _ (List.mem_append_left _ hb)) (List.mem_append_right _ (List.mem_append_left _ h)) hc cov_self

theorem RepS.freeL {hs : List PBk} (R : RepS S c x fl L hs) (h : (p, 0) ∈ L) {j r : Nat} (hj : j ≤ x.m.o) (hr : r ∈ fl j) : ¬ Cov (r, j) p := fun hc => by
  have nd := R.til.nodup
  have := R.til.uniq (R.mem hj hr) (List.mem_append_right _ (List.mem_append_left _ h)) hc cov_self
  exact (List.nodup_append.1 (List.nodup_append.1 nd).2.1).2.2 _ h (r, j) (mem_blks.2 ⟨hj, hr⟩) this.symm

theorem RepS.ltL {hs : List PBk} (R : RepS S c x fl L hs) (h : (p, 0) ∈ L) : p < x.m.n := by
  have := (R.til.al _ (List.mem_append_right _ (List.mem_append_left _ h))).2.2
  simp only [] at this
  omega

theorem WS.re (W : WS S c x fl L) {x' : BU} (ok' : BU.Ok c x') (ho : x'.m.o = x.m.o) (hn : x'.m.n = x.m.n) (hbt : x'.m.bt = x.m.bt) (hhd : x'.hd = x.hd) (hst : x'.st.n = x.st.n)
    (hs' : ∀ p, S' p → (p, 0) ∈ L ∧ x'.m.pg p 0 = 4) (hout : ∀ p, S p → ¬ S' p → x'.m.pg p = plainP 2 0) (hpg : ∀ q, ¬ S q → ¬ S' q → x'.m.pg q = x.m.pg q)
    (hM : ∀ o, (∀ q, S q ∨ S' q → ¬ (4096 * q ≤ o ∧ o < 4096 * (q + 1))) → x'.st.M o = x.st.M o) : WS S' c x' fl L := by
  have R := W.rep
  have inL : ∀ q, S q ∨ S' q → (q, 0) ∈ L := fun q h => h.elim (fun h => (R.ps q h).1) fun h => (hs' q h).1
  refine ⟨⟨ok', ⟨R.rm.b, by rw [hn]; exact R.rm.n, by rw [hn, hst]; exact R.rm.r⟩, by rw [ho, hn]; exact R.til, by rw [ho]; exact R.nb, fun k hk => ?_, fun k p hk hp q hq => ?_, fun b hb hS q hq => ?_, by rw [ho, hn, hbt]; exact R.bt, hs'⟩, by rw [hn, hst, ho]; exact W.e, W.g⟩
  · rw [ho] at hk
    have L0 := R.ls k hk
    rw [hn, hhd]
    refine ⟨L0.hd, L0.nd, L0.cl, seg_congr (fun a ha => ?_) L0.sg⟩
    obtain ⟨q, hq, rfl⟩ := List.mem_map.1 ha
    have e1 : (adr c q - c.base).toNat = 4096 * q := by unfold adr; omega
    have e2 : (adr c q + 8 - c.base).toNat = 4096 * q + 8 := by unfold adr; omega
    have same : ∀ o, 4096 * q ≤ o → o < 4096 * q + 16 → x'.st.M o = x.st.M o := fun o h1 h2 => hM o fun r hr hc => by
      have : r = q := by omega
      subst this
      exact R.freeL (inL r hr) hk hq cov_self
    unfold Sto.rd
    rw [e1, e2]
    exact ⟨wrd_congr fun i hi => same _ (by omega) (by omega), wrd_congr fun i hi => same _ (by omega) (by omega)⟩
  · rw [ho] at hk
    rw [hpg q (fun h => R.freeL (inL q (.inl h)) hk hp hq) (fun h => R.freeL (inL q (.inr h)) hk hp hq)]
    exact R.pf k p hk hp q hq
  · by_cases h : S q
    · have e := R.uniq0 (inL q (.inl h)) hb hq
      subst e
      rw [hout q h hS, if_pos rfl]; rfl
    · have hS' : ¬ S' q := fun h' => by
        have e := R.uniq0 (inL q (.inr h')) hb hq
        subst e
        exact hS h'
      rw [hpg q h hS']
      refine R.pl b hb (fun hb1 => ?_) q hq
      have hb0 := R.s0 hb hb1
      have : q = b.1 := by have := hq.1; have := hq.2; rw [hb0] at this; omega
      exact h (this ▸ hb1)

theorem WS.k4 (W : WS S c x fl L) (hq : q < x.m.n) (h4 : x.m.pg q 0 = 4) : S q := by
  have R := W.rep
  obtain ⟨b, hb, hc⟩ := R.til.cv q hq
  rcases List.mem_append.1 (by simpa using hb : b ∈ L ++ blks x.m.o fl) with hb | hb
  · refine Classical.byContradiction fun hn => ?_
    have hS : ¬ S b.1 := fun hb1 => by
      have hb0 := R.s0 hb hb1
      have : q = b.1 := by have := hc.1; have := hc.2; rw [hb0] at this; omega
      exact hn (this ▸ hb1)
    have := R.pl b hb hS q hc
    rw [this] at h4
    split at h4 <;> simp [plainP] at h4
  · obtain ⟨b1, b2⟩ := b
    obtain ⟨g1, g2⟩ := mem_blks.1 hb
    rw [R.pf b2 b1 g1 g2 q hc] at h4
    split at h4 <;> simp [plainP] at h4

theorem rd_page {st st' : Sto} {j w : Nat} (h : ∀ o, 4096 * q ≤ o → o < 4096 * (q + 1) → st'.M o = st.M o) (hj : j * w + 8 ≤ 4096) : st'.rd c (adr c q + ((j * w : Nat) : Int)) = st.rd c (adr c q + ((j * w : Nat) : Int)) := by
  have e1 : (adr c q + ((j * w : Nat) : Int) - c.base).toNat = 4096 * q + j * w := by unfold adr; omega
  unfold Sto.rd
  rw [e1]
  exact wrd_congr fun i hi => h _ (by omega) (by omega)

theorem cell_in {k j : Nat} (hk : k < 8) (hj : j < cnt k) : j * wdt k + wdt k ≤ 4096 ∧ j * wdt k + 16 ≤ 4096 := by
  obtain ⟨c1, c2, c3, c4, c5, c6⟩ := cnt_wdt hk
  have : j * wdt k + wdt k ≤ 4096 := by rw [← c1, ← Nat.succ_mul]; exact Nat.mul_le_mul_right _ hj
  omega

theorem Lnk_page {st st' : Sto} {k : Nat} {l : List Nat} (hk : k < 8) (hl : ∀ j ∈ l, j < cnt k) (h : ∀ o, 4096 * q ≤ o → o < 4096 * (q + 1) → st'.M o = st.M o) (H : Lnk c st (adr c q) (wdt k) l) : Lnk c st' (adr c q) (wdt k) l :=
  Lnk_congr (fun j hj => rd_page h (by have := (cell_in hk (hl j hj)).2; omega)) H

theorem SI.len (I : SI c x hp S fl L cl fr pl) (h : S p) : (fr p).length ≤ cnt (cl p) := by
  obtain ⟨h1, h2⟩ := I.nd p h
  have := List.Nodup.length_le_of_subset h1 (l₂ := List.range (cnt (cl p))) fun j hj => List.mem_range.2 (h2 j hj)
  simpa using this

theorem SI.ki (I : SI c x hp S fl L cl fr pl) : KI c x := I.w.ki

theorem SI.plS (I : SI c x hp S fl L cl fr pl) (hk : k < 8) (h : p ∈ pl k) : p < x.m.n ∧ x.m.pg p 0 = 4 ∧ S p ∧ cl p = k ∧ fr p ≠ [] := by
  have hs := ((I.pn k hk).2 p).1 h
  exact ⟨I.w.rep.sn hs.1, (I.w.rep.ps p hs.1).2, hs.1, hs.2.1, hs.2.2⟩

theorem SI.pool (I : SI c x hp S fl L cl fr pl) {x' : BU} {fl' : Nat → List Nat} {L' : List PBk} (W : WS S c x' fl' L') (hpk : ∀ q, S q → x'.m.pg q = x.m.pg q) (hM : ∀ q, S q → ∀ o, 4096 * q ≤ o → o < 4096 * (q + 1) → x'.st.M o = x.st.M o) :
    SI c x' hp S fl' L' cl fr pl := by
  refine ⟨W, I.k8, I.nd, I.pn, I.hd, fun p hp => by rw [hpk p hp]; exact I.pg p hp, fun k hk => CS_congr (fun p hp => ?_) (I.ch k hk), fun p hp h => by rw [hpk p hp]; exact I.no p hp h, fun p hp => Lnk_page (I.k8 p hp) (I.nd p hp).2 (hM p hp) (I.lk p hp)⟩
  rw [hpk p (I.plS hk hp).2.2.1]; exact ⟨rfl, rfl⟩

theorem SI.step (I : SI c x hp S fl L cl fr pl) (hk : k < 8) (hqL : (q, 0) ∈ L) (hqS : S q ∨ S' q) (hqk : S q → cl q = k) {m' : MS} {st' : Sto} {f' l' : List Nat} (ok' : KI c ⟨st', x.hd, m'⟩) (ho : m'.o = x.m.o) (hn : m'.n = x.m.n) (hbt : m'.bt = x.m.bt) (hst : st'.n = x.st.n)
    (hS : ∀ p, p ≠ q → (S' p ↔ S p)) (hoth : ∀ p, p ≠ q → p ∉ pl k → m'.pg p = x.m.pg p) (hnb : ∀ p, p ≠ q → S p → ∃ a b, m'.pg p = chainP (x.m.pg p) a b ∨ m'.pg p = x.m.pg p)
    (hin : S' q → PgI (m'.pg q) k f' ∧ f'.Nodup ∧ (∀ j ∈ f', j < cnt k) ∧ (f' = [] → m'.pg q 4 = -1 ∧ m'.pg q 5 = -1) ∧ Lnk c st' (adr c q) (wdt k) f') (hout : ¬ S' q → m'.pg q = plainP 2 0)
    (hl' : l'.Nodup ∧ ∀ p, p ∈ l' ↔ ((p = q ∧ S' q ∧ f' ≠ []) ∨ (p ≠ q ∧ p ∈ pl k))) (hch : CS m'.pg l' (-1) (-1)) (hhp : hp' = fset hp k (hdE l' (-1)))
    (hM : ∀ o, ¬ (4096 * q ≤ o ∧ o < 4096 * (q + 1)) → st'.M o = x.st.M o) : SI c ⟨st', x.hd, m'⟩ hp' S' fl L (fset cl q k) (fset fr q f') (fset pl k l') := by
  have R := I.w.rep
  have hns : ∀ p, p ≠ q → ¬ S p → m'.pg p = x.m.pg p := fun p h h2 => hoth p h fun hm => h2 (I.plS hk hm).2.2.1
  have hcl : ∀ p, p ≠ q → fset cl q k p = cl p := fun p h => fset_ne _ _ h
  have hfr : ∀ p, p ≠ q → fset fr q f' p = fr p := fun p h => fset_ne _ _ h
  have W' : WS S' c ⟨st', x.hd, m'⟩ fl L := by
    refine I.w.re ok'.ok ho hn hbt rfl hst (fun p hp => ?_) (fun p hp hp' => ?_) (fun p hp hp' => ?_) fun o h => hM o fun hc => ?_
    · by_cases e : p = q
      · subst e; exact ⟨hqL, (hin hp).1.k0⟩
      · have hs := (hS p e).1 hp
        refine ⟨(R.ps p hs).1, ?_⟩
        obtain ⟨a, b, e1 | e1⟩ := hnb p e hs
        · show m'.pg p 0 = 4; rw [e1]; exact (R.ps p hs).2
        · show m'.pg p 0 = 4; rw [e1]; exact (R.ps p hs).2
    · by_cases e : p = q
      · subst e; exact hout hp'
      · exact absurd ((hS p e).2 hp) hp'
    · by_cases e : p = q
      · subst e
        show m'.pg p = x.m.pg p
        rw [hout hp']
        have := R.pl (p, 0) hqL hp p cov_self
        rw [this, if_pos rfl]; rfl
      · exact hns p e hp
    · exact h q hqS hc
  have notq : ∀ {k' p}, k' < 8 → k' ≠ k → p ∈ pl k' → p ≠ q ∧ p ∉ pl k := fun {k' p} hk' hne hm => by
    have h1 := I.plS hk' hm
    refine ⟨fun e => ?_, fun h2 => hne (h1.2.2.2.1.symm.trans (I.plS hk h2).2.2.2.1)⟩
    subst e
    exact hne (h1.2.2.2.1.symm.trans (hqk h1.2.2.1))
  refine ⟨W', fun p hp => ?_, fun p hp => ?_, fun k' hk' => ?_, fun k' hk' => ?_, fun p hp => ?_, fun k' hk' => ?_, fun p hp hf => ?_, fun p hp => ?_⟩
  · by_cases e : p = q
    · rw [e, fset_same]; exact hk
    · rw [hcl p e]; exact I.k8 p ((hS p e).1 hp)
  · by_cases e : p = q
    · subst e; rw [fset_same, fset_same]; exact ⟨(hin hp).2.1, (hin hp).2.2.1⟩
    · rw [hcl p e, hfr p e]; exact I.nd p ((hS p e).1 hp)
  · by_cases ek : k' = k
    · subst ek
      rw [fset_same]
      refine ⟨hl'.1, fun p => ?_⟩
      rw [hl'.2 p]
      by_cases e : p = q
      · subst e; rw [fset_same, fset_same]; simp
      · rw [hcl p e, hfr p e, hS p e, (I.pn k' hk').2 p]; simp [e]
    · rw [fset_ne _ _ ek]
      refine ⟨(I.pn k' hk').1, fun p => ?_⟩
      by_cases e : p = q
      · subst e
        rw [fset_same]
        exact ⟨fun h => absurd rfl (notq hk' ek h).1, fun h => absurd h.2.1.symm ek⟩
      · rw [hcl p e, hfr p e, hS p e]; exact (I.pn k' hk').2 p
  · rw [hhp]
    by_cases ek : k' = k
    · subst ek; rw [fset_same, fset_same]
    · rw [fset_ne _ _ ek, fset_ne _ _ ek]; exact I.hd k' hk'
  · by_cases e : p = q
    · subst e; rw [fset_same, fset_same]; exact (hin hp).1
    · have hs := (hS p e).1 hp
      rw [hcl p e, hfr p e]
      obtain ⟨a, b, e1 | e1⟩ := hnb p e hs
      · show PgI (m'.pg p) _ _; rw [e1]; exact (I.pg p hs).chain a b
      · show PgI (m'.pg p) _ _; rw [e1]; exact I.pg p hs
  · by_cases ek : k' = k
    · subst ek; rw [fset_same]; exact hch
    · rw [fset_ne _ _ ek]
      refine CS_congr (fun p hp => ?_) (I.ch k' hk')
      obtain ⟨h1, h2⟩ := notq hk' ek hp
      show m'.pg p 4 = _ ∧ m'.pg p 5 = _
      rw [hoth p h1 h2]; exact ⟨rfl, rfl⟩
  · by_cases e : p = q
    · subst e; rw [fset_same] at hf; exact (hin hp).2.2.2.1 hf
    · rw [hfr p e] at hf
      have hs := (hS p e).1 hp
      show m'.pg p 4 = _ ∧ m'.pg p 5 = _
      rw [hoth p e fun hm => (I.plS hk hm).2.2.2.2 hf]
      exact I.no p hs hf
  · by_cases e : p = q
    · subst e; rw [fset_same, fset_same]; exact (hin hp).2.2.2.2
    · have hs := (hS p e).1 hp
      rw [hcl p e, hfr p e]
      exact Lnk_page (I.k8 p hs) (I.nd p hs).2 (fun o h1 h2 => hM o (by omega)) (I.lk p hs)
end
end Go.Proofs.YteemmpkhdllapaaDoor
