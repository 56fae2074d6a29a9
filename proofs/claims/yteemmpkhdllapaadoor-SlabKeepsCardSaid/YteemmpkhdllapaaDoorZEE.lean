/- croftlaw7: the book of live stretches, against what a slab's state stands for: plain laws. No condition. -/
import Derived.Test.YteemmpkhdllapaaDoorZEC
set_option linter.unusedSimpArgs false
set_option linter.unusedVariables false
namespace Go.Proofs.YteemmpkhdllapaaDoor
open Go.V Classical

structure CE where
  a : Nat
  n : Nat
  m : Int

def meetsE (l : List CE) (a n : Nat) : Bool := l.any fun e => decide (e.a < a + n) && decide (a < e.a + e.n)
def cntE (l : List CE) (a n : Nat) : Nat := l.countP fun e => decide (e.n = n) && (decide (a ≤ e.a) && decide (e.a < a + 4096))

def Lv (S : Nat → Prop) (L : List PBk) (cl : Nat → Nat) (fr : Nat → List Nat) (a n : Nat) : Prop :=
  (∃ q k, (q, k) ∈ L ∧ ¬ S q ∧ a = 4096 * q ∧ n = 4096 * 2 ^ k) ∨ (∃ q j, S q ∧ j < cnt (cl q) ∧ j ∉ fr q ∧ a = 4096 * q + j * wdt (cl q) ∧ n = wdt (cl q))

structure Book (l : List CE) (S : Nat → Prop) (L : List PBk) (cl : Nat → Nat) (fr : Nat → List Nat) : Prop where
  mem : ∀ a n, Lv S L cl fr a n ↔ ∃ e ∈ l, e.a = a ∧ e.n = n
  dj : l.Pairwise fun e e' => e.a ≠ e'.a
  lv : ∀ q, S q → (fr q).length < cnt (cl q)

theorem wdt_inj {k k' : Nat} (hk : k < 8) (hk' : k' < 8) (h : wdt k = wdt k') : k = k' := by
  rcases k8 hk with rfl | rfl | rfl | rfl | rfl | rfl | rfl | rfl <;> rcases k8 hk' with rfl | rfl | rfl | rfl | rfl | rfl | rfl | rfl <;> first | rfl | (exact absurd h (by decide))

theorem wdt_lt {k : Nat} (hk : k < 8) : wdt k < 4096 := by have := (cnt_wdt hk).2.2.2.2.2; omega

section
variable {c : Cfg} {x : BU} {hp : Nat → Int} {S S' : Nat → Prop} {fl : Nat → List Nat} {L L' : List PBk} {cl cl' : Nat → Nat} {fr fr' pl : Nat → List Nat} {p k q j : Nat} {l : List CE}

theorem live_cell (I : SI c x hp S fl L cl fr pl) (B : Book l S L cl fr) (hS : S q) : ∃ j, j < cnt (cl q) ∧ j ∉ fr q := by
  refine Classical.byContradiction fun hno => ?_
  have := List.Nodup.length_le_of_subset (List.nodup_range (n := cnt (cl q))) (l₂ := fr q) fun j hj => Classical.byContradiction fun hn => hno ⟨j, List.mem_range.1 hj, hn⟩
  have h2 := B.lv q hS
  simp at this
  omega

theorem meets_blk (I : SI c x hp S fl L cl fr pl) (B : Book l S L cl fr) (P k : Nat) : meetsE l (4096 * P) (4096 * 2 ^ k) = true ↔ ∃ b ∈ L, ¬ Dj b (P, k) := by
  unfold meetsE
  rw [List.any_eq_true]
  constructor
  · rintro ⟨e, he, h⟩
    simp only [Bool.and_eq_true, decide_eq_true_eq] at h
    rcases (B.mem e.a e.n).2 ⟨e, he, rfl, rfl⟩ with ⟨q, k', hL, hS, ea, en⟩ | ⟨q, j, hS, hj, hnj, ea, en⟩
    · refine ⟨_, hL, ?_⟩
      unfold Dj
      simp only []
      omega
    · refine ⟨_, (I.w.rep.ps q hS).1, ?_⟩
      have := cell_in (I.k8 q hS) hj
      unfold Dj
      simp only [Nat.pow_zero]
      omega
  · rintro ⟨⟨q, k'⟩, hL, h⟩
    unfold Dj at h
    simp only [] at h
    by_cases hS : S q
    · have e0 : k' = 0 := I.w.rep.s0 hL hS
      subst e0
      simp only [Nat.pow_zero] at h
      obtain ⟨j, hj, hnj⟩ := live_cell I B hS
      obtain ⟨e, he, ea, en⟩ := (B.mem _ _).1 (.inr ⟨q, j, hS, hj, hnj, rfl, rfl⟩)
      have := cell_in (I.k8 q hS) hj
      have := wdt_pos (cl q)
      refine ⟨e, he, ?_⟩
      simp only [Bool.and_eq_true, decide_eq_true_eq]
      omega
    · obtain ⟨e, he, ea, en⟩ := (B.mem _ _).1 (.inl ⟨q, k', hL, hS, rfl, rfl⟩)
      refine ⟨e, he, ?_⟩
      simp only [Bool.and_eq_true, decide_eq_true_eq]
      omega

theorem nofit_blk (I : SI c x hp S fl L cl fr pl) (B : Book l S L cl fr) (hk : k ≤ x.m.o) : (∀ i, i * 2 ^ k < x.m.n → meetsE l (4096 * (i * 2 ^ k)) (4096 * 2 ^ k) = true) ↔ ∀ j, k ≤ j → j ≤ x.m.o → fl j = [] := by
  have h0 := Nat.two_pow_pos k
  constructor
  · intro h j hkj hj
    refine Classical.byContradiction fun hne => ?_
    obtain ⟨p, hp⟩ := List.exists_mem_of_ne_nil _ hne
    have al := I.w.rep.al hj hp
    obtain ⟨d, hd⟩ : ∃ d, j = k + d := ⟨j - k, by omega⟩
    have hpk : p % 2 ^ k = 0 := Nat.mod_eq_zero_of_dvd (Nat.dvd_trans (Nat.pow_dvd_pow 2 hkj) (Nat.dvd_of_mod_eq_zero al.1))
    obtain ⟨i, hi⟩ := Nat.dvd_of_mod_eq_zero hpk
    rw [Nat.mul_comm] at hi
    have hm := h i (by rw [← hi]; exact al.2.2)
    rw [← hi] at hm
    obtain ⟨b, hb, hnd⟩ := (meets_blk I B p k).1 hm
    have hdj := (List.pairwise_append.1 I.w.til.dj).2.2 b hb (p, j) (mem_blks.2 ⟨hj, hp⟩)
    have h2 : 2 ^ k ≤ 2 ^ j := Nat.pow_le_pow_right (by omega) hkj
    unfold Dj at hdj hnd
    simp only [] at hdj hnd
    omega
  · intro h i hi
    refine Classical.byContradiction fun hne => ?_
    have hdj : ∀ b ∈ L, Dj b (i * 2 ^ k, k) := fun b hb => Classical.byContradiction fun hn => hne ((meets_blk I B _ _).2 ⟨b, hb, hn⟩)
    obtain ⟨p, j, h1, h2, h3, _⟩ := find_free (s := i * 2 ^ k) I.w.til I.w.rep.nb hk (Nat.mul_mod_left _ _) (stretch I.w hk hi) hdj
    rw [h j h1 h2] at h3
    cases h3

theorem reg_free7 (I : SI c x hp S fl L cl fr pl) (B : Book l S L cl fr) {i : Nat} (hi : i < x.st.n) : i * 2 ^ x.m.o ∈ fl x.m.o ↔ meetsE l (4096 * (i * 2 ^ x.m.o)) (4096 * 2 ^ x.m.o) = false := by
  have h0 := Nat.two_pow_pos x.m.o
  have hlt : i * 2 ^ x.m.o < x.m.n := by rw [I.w.e]; exact Nat.mul_lt_mul_of_pos_right hi h0
  constructor
  · intro h
    refine Bool.eq_false_iff.2 fun hm => ?_
    obtain ⟨b, hb, hnd⟩ := (meets_blk I B _ _).1 hm
    exact hnd ((List.pairwise_append.1 I.w.til.dj).2.2 b hb _ (mem_blks.2 ⟨Nat.le_refl _, h⟩))
  · intro h
    have hdj : ∀ b ∈ L, Dj b (i * 2 ^ x.m.o, x.m.o) := fun b hb => Classical.byContradiction fun hn => by
      rw [(meets_blk I B _ _).2 ⟨b, hb, hn⟩] at h; cases h
    obtain ⟨p, j, h1, h2, h3, h4, h5⟩ := find_free (s := i * 2 ^ x.m.o) I.w.til I.w.rep.nb (Nat.le_refl _) (Nat.mul_mod_left _ _) (stretch I.w (Nat.le_refl _) hlt) hdj
    have : j = x.m.o := by omega
    subst this
    have : p = i * 2 ^ x.m.o := by omega
    rw [← this]; exact h3

theorem cnt_page (I : SI c x hp S fl L cl fr pl) (B : Book l S L cl fr) (hk : k < 8) (P : Nat) : cntE l (4096 * P) (wdt k) ≤ cnt k ∧ (0 < cntE l (4096 * P) (wdt k) ↔ S P ∧ cl P = k) ∧ (S P → cl P = k → (cntE l (4096 * P) (wdt k) < cnt k ↔ fr P ≠ [])) := by
  obtain ⟨F, hF⟩ : ∃ F, F = l.filter fun e => decide (e.n = wdt k) && (decide (4096 * P ≤ e.a) && decide (e.a < 4096 * P + 4096)) := ⟨_, rfl⟩
  have hcnt : cntE l (4096 * P) (wdt k) = F.length := by unfold cntE; rw [List.countP_eq_length_filter, hF]
  have hw := wdt_pos k
  have hm : ∀ e, e ∈ F ↔ e ∈ l ∧ e.n = wdt k ∧ 4096 * P ≤ e.a ∧ e.a < 4096 * P + 4096 := fun e => by
    rw [hF, List.mem_filter]; simp only [Bool.and_eq_true, decide_eq_true_eq]
  have each : ∀ e ∈ F, S P ∧ cl P = k ∧ ∃ j, j < cnt k ∧ j ∉ fr P ∧ e.a = 4096 * P + j * wdt k := fun e he => by
    obtain ⟨h1, h2, h3, h4⟩ := (hm e).1 he
    rcases (B.mem e.a e.n).2 ⟨e, h1, rfl, rfl⟩ with ⟨q, k', hL, hS, ea, en⟩ | ⟨q, j, hS, hj, hnj, ea, en⟩
    · have := wdt_lt hk
      have := Nat.two_pow_pos k'
      omega
    · have hk' := I.k8 q hS
      have ek : cl q = k := wdt_inj hk' hk (by omega)
      have hin := cell_in hk' hj
      have eq : q = P := by omega
      subst eq
      exact ⟨hS, ek, j, ek ▸ hj, hnj, by rw [ea, ek]⟩
  have nd : (F.map fun e => (e.a - 4096 * P) / wdt k).Nodup := by
    have hp : F.Pairwise fun e e' => e.a ≠ e'.a := by rw [hF]; exact B.dj.filter _
    rw [List.Nodup, List.pairwise_map]
    refine List.Pairwise.imp_of_mem ?_ hp
    intro e e' he he' hne h
    obtain ⟨_, _, j, _, _, ej⟩ := each e he
    obtain ⟨_, _, j', _, _, ej'⟩ := each e' he'
    rw [ej, ej', Nat.add_sub_cancel_left, Nat.add_sub_cancel_left, Nat.mul_div_cancel _ hw, Nat.mul_div_cancel _ hw] at h
    exact hne (by rw [ej, ej', h])
  have sub : ∀ i ∈ F.map fun e => (e.a - 4096 * P) / wdt k, i < cnt k ∧ i ∉ fr P := fun i hi => by
    obtain ⟨e, he, rfl⟩ := List.mem_map.1 hi
    obtain ⟨_, _, j, hj, hnj, ej⟩ := each e he
    rw [ej, Nat.add_sub_cancel_left, Nat.mul_div_cancel _ hw]
    exact ⟨hj, hnj⟩
  have sup : S P → cl P = k → ∀ i, i < cnt k → i ∉ fr P → i ∈ F.map fun e => (e.a - 4096 * P) / wdt k := fun hS hc i hi hn => by
    obtain ⟨e, he, ea, en⟩ := (B.mem (4096 * P + i * wdt k) (wdt k)).1 (.inr ⟨P, i, hS, by rw [hc]; exact hi, hn, by rw [hc], by rw [hc]⟩)
    have hin := cell_in hk hi
    refine List.mem_map.2 ⟨e, (hm e).2 ⟨he, en, by omega, by omega⟩, ?_⟩
    rw [ea, Nat.add_sub_cancel_left, Nat.mul_div_cancel _ hw]
  have hlen : (F.map fun e => (e.a - 4096 * P) / wdt k).length = F.length := List.length_map _
  rw [hcnt, ← hlen]
  refine ⟨?_, ⟨fun h => ?_, fun ⟨hS, hc⟩ => ?_⟩, fun hS hc => ⟨fun h he => ?_, fun hne => ?_⟩⟩
  · have := List.Nodup.length_le_of_subset nd (l₂ := List.range (cnt k)) fun i hi => List.mem_range.2 (sub i hi).1
    simpa using this
  · obtain ⟨i, hi⟩ := List.exists_mem_of_length_pos h
    obtain ⟨e, he, _⟩ := List.mem_map.1 hi
    exact ⟨(each e he).1, (each e he).2.1⟩
  · obtain ⟨j, hj, hnj⟩ := live_cell I B hS
    exact List.length_pos_of_mem (sup hS hc j (hc ▸ hj) hnj)
  · have := List.Nodup.length_le_of_subset (List.nodup_range (n := cnt k)) fun i hi => sup hS hc i (List.mem_range.1 hi) (by rw [he]; simp)
    rw [List.length_range] at this
    omega
  · obtain ⟨i, hi⟩ := List.exists_mem_of_ne_nil _ hne
    have hik := (I.nd P hS).2 i hi
    rw [hc] at hik
    have := List.Nodup.length_le_of_subset nd (l₂ := (List.range (cnt k)).erase i) fun r hr => by
      obtain ⟨h1, h2⟩ := sub r hr
      exact (List.Nodup.mem_erase_iff List.nodup_range).2 ⟨fun e => h2 (e ▸ hi), List.mem_range.2 h1⟩
    rw [List.length_erase_of_mem (List.mem_range.2 hik), List.length_range] at this
    omega

theorem pl_nil (I : SI c x hp S fl L cl fr pl) (hk : k < 8) : pl k = [] ↔ ∀ q, S q → cl q = k → fr q = [] := by
  constructor
  · intro h q hS hc
    refine Classical.byContradiction fun hne => ?_
    have := ((I.pn k hk).2 q).2 ⟨hS, hc, hne⟩
    rw [h] at this
    cases this
  · intro h
    refine Classical.byContradiction fun hne => ?_
    obtain ⟨q, hq⟩ := List.exists_mem_of_ne_nil _ hne
    have := I.plS hk hq
    exact this.2.2.2.2 (h q this.2.2.1 this.2.2.2.1)

/-! ### What the calls do to the book -/
theorem Book.add (B : Book l S L cl fr) {a n : Nat} (m : Int) (hl : ∀ q, S' q → (fr' q).length < cnt (cl' q)) (h : ∀ a' n', Lv S' L' cl' fr' a' n' ↔ Lv S L cl fr a' n' ∨ (a' = a ∧ n' = n)) (hf : ∀ n', ¬ Lv S L cl fr a n') : Book (l ++ [⟨a, n, m⟩]) S' L' cl' fr' := by
  refine ⟨fun a' n' => ?_, List.pairwise_append.2 ⟨B.dj, List.pairwise_singleton _ _, fun e he e' he' ea => ?_⟩, hl⟩
  · rw [h, B.mem]
    constructor
    · rintro (⟨e, he, h1, h2⟩ | ⟨h1, h2⟩)
      · exact ⟨e, List.mem_append_left _ he, h1, h2⟩
      · exact ⟨_, List.mem_append_right _ (List.mem_singleton.2 rfl), h1.symm, h2.symm⟩
    · rintro ⟨e, he, h1, h2⟩
      rcases List.mem_append.1 he with he | he
      · exact .inl ⟨e, he, h1, h2⟩
      · rw [List.mem_singleton.1 he] at h1 h2
        exact .inr ⟨h1.symm, h2.symm⟩
  · rw [List.mem_singleton.1 he'] at ea
    exact hf e.n ((B.mem a e.n).2 ⟨e, he, ea, rfl⟩)

theorem Book.del (B : Book l S L cl fr) {i : Nat} {e : CE} (hi : l[i]? = some e) (hl : ∀ q, S' q → (fr' q).length < cnt (cl' q)) (h : ∀ a' n', Lv S' L' cl' fr' a' n' ↔ Lv S L cl fr a' n' ∧ a' ≠ e.a) : Book (l.eraseIdx i) S' L' cl' fr' := by
  obtain ⟨hlt, he⟩ := List.getElem?_eq_some_iff.1 hi
  have hsplit : l = l.take i ++ e :: l.drop (i + 1) := by rw [← he, ← List.drop_eq_getElem_cons hlt, List.take_append_drop]
  have hdel : l.eraseIdx i = l.take i ++ l.drop (i + 1) := List.eraseIdx_eq_take_drop_succ ..
  have dj := B.dj
  rw [hsplit] at dj
  obtain ⟨d1, d2, d3⟩ := List.pairwise_append.1 dj
  obtain ⟨d4, d5⟩ := List.pairwise_cons.1 d2
  refine ⟨fun a' n' => ?_, B.dj.sublist (List.eraseIdx_sublist _ _), hl⟩
  rw [h, B.mem, hdel]
  constructor
  · rintro ⟨⟨r, hr, h1, h2⟩, hne⟩
    rw [hsplit] at hr
    refine ⟨r, ?_, h1, h2⟩
    rcases List.mem_append.1 hr with hr | hr
    · exact List.mem_append_left _ hr
    · rcases List.mem_cons.1 hr with hr | hr
      · rw [hr] at h1; exact absurd h1.symm hne
      · exact List.mem_append_right _ hr
  · rintro ⟨r, hr, h1, h2⟩
    rcases List.mem_append.1 hr with hr | hr
    · exact ⟨⟨r, by rw [hsplit]; exact List.mem_append_left _ hr, h1, h2⟩, fun ea => d3 r hr e (List.mem_cons_self ..) (by rw [h1, ea])⟩
    · exact ⟨⟨r, by rw [hsplit]; exact List.mem_append_right _ (List.mem_cons_of_mem _ hr), h1, h2⟩, fun ea => d4 r hr (by rw [h1, ea])⟩

theorem cell_at {k k' q q' j j' : Nat} (hk : k < 8) (hk' : k' < 8) (hj : j < cnt k) (hj' : j' < cnt k') (h : 4096 * q + j * wdt k = 4096 * q' + j' * wdt k') : q = q' ∧ j * wdt k = j' * wdt k' := by
  have h1 := cell_in hk hj
  have h2 := cell_in hk' hj'
  have := wdt_pos k
  have := wdt_pos k'
  omega

theorem mul_w {k j j' : Nat} (h : j * wdt k = j' * wdt k) : j = j' := Nat.eq_of_mul_eq_mul_right (wdt_pos k) h

theorem lv_take (I : SI c x hp S fl L cl fr pl) (hS : S q) {f : List Nat} (hfr : fr q = j :: f) : (∀ a n, Lv S L cl (fset fr q f) a n ↔ Lv S L cl fr a n ∨ (a = 4096 * q + j * wdt (cl q) ∧ n = wdt (cl q))) ∧ ∀ n, ¬ Lv S L cl fr (4096 * q + j * wdt (cl q)) n := by
  obtain ⟨nd, hb⟩ := I.nd q hS
  rw [hfr] at nd hb
  have ndf := (List.nodup_cons.1 nd).1
  have hj := hb j (List.mem_cons_self ..)
  have hk := I.k8 q hS
  refine ⟨fun a n => ⟨?_, ?_⟩, fun n => ?_⟩
  · rintro (h | ⟨q', j', hS', hj', hn', ea, en⟩)
    · exact .inl (.inl h)
    · by_cases e : q' = q
      · subst e
        rw [fset_same] at hn'
        by_cases ej : j' = j
        · subst ej; exact .inr ⟨ea, en⟩
        · exact .inl (.inr ⟨q', j', hS', hj', by rw [hfr]; simp [ej, hn'], ea, en⟩)
      · rw [fset_ne _ _ e] at hn'
        exact .inl (.inr ⟨q', j', hS', hj', hn', ea, en⟩)
  · rintro ((h | ⟨q', j', hS', hj', hn', ea, en⟩) | ⟨ea, en⟩)
    · exact .inl h
    · refine .inr ⟨q', j', hS', hj', ?_, ea, en⟩
      by_cases e : q' = q
      · subst e; rw [fset_same]; rw [hfr] at hn'; exact fun h => hn' (List.mem_cons_of_mem _ h)
      · rw [fset_ne _ _ e]; exact hn'
    · exact .inr ⟨q, j, hS, hj, by rw [fset_same]; exact ndf, ea, en⟩
  · rintro (⟨q', k', hL, hS', ea, en⟩ | ⟨q', j', hS', hj', hn', ea, en⟩)
    · have := cell_in hk hj
      have := wdt_pos (cl q)
      have : q' = q := by omega
      exact hS' (this ▸ hS)
    · obtain ⟨h1, h2⟩ := cell_at hk (I.k8 q' hS') hj hj' ea
      subst h1
      have := mul_w h2
      subst this
      exact hn' (by rw [hfr]; exact List.mem_cons_self ..)

theorem lv_new (I : SI c x hp (fun p => S p ∨ p = q) fl ((q, 0) :: L) (fset cl q k) fr' pl) (hSL : ∀ p, S p → (p, 0) ∈ L) (hk : k < 8) (hfr : fr' = fset fr q (List.range' 1 (cnt k - 1))) :
    (∀ a n, Lv (fun p => S p ∨ p = q) ((q, 0) :: L) (fset cl q k) fr' a n ↔ Lv S L cl fr a n ∨ (a = 4096 * q ∧ n = wdt k)) ∧ ∀ n, ¬ Lv S L cl fr (4096 * q) n := by
  have hc := cnt_wdt hk
  have hq : ¬ S q := fun h => (List.nodup_cons.1 I.w.nd).1 (hSL q h)
  have uq : ∀ k', (q, k') ∉ L := fun k' h => by
    have nd := List.nodup_cons.1 I.w.nd
    have := I.w.rep.uniq0 (List.mem_cons_self ..) (List.mem_cons_of_mem _ h) (cov_self (p := q) (k := k'))
    rw [this] at h
    exact nd.1 h
  subst hfr
  refine ⟨fun a n => ⟨?_, ?_⟩, fun n => ?_⟩
  · rintro (⟨q', k', hL, hS', ea, en⟩ | ⟨q', j', hS', hj', hn', ea, en⟩)
    · rcases List.mem_cons.1 hL with e | hL
      · cases e; exact absurd (.inr rfl) hS'
      · exact .inl (.inl ⟨q', k', hL, fun h => hS' (.inl h), ea, en⟩)
    · by_cases e : q' = q
      · subst e
        rw [fset_same] at hj' ea en hn'
        have : j' = 0 := Classical.byContradiction fun h => hn' (List.mem_range'_1.2 ⟨by omega, by omega⟩)
        subst this
        exact .inr ⟨by simpa using ea, en⟩
      · rw [fset_ne _ _ e] at hj' ea en hn'
        exact .inl (.inr ⟨q', j', hS'.resolve_right e, hj', hn', ea, en⟩)
  · rintro ((⟨q', k', hL, hS', ea, en⟩ | ⟨q', j', hS', hj', hn', ea, en⟩) | ⟨ea, en⟩)
    · refine .inl ⟨q', k', List.mem_cons_of_mem _ hL, fun h => h.elim hS' fun e => ?_, ea, en⟩
      subst e; exact uq k' hL
    · have e : q' ≠ q := fun e => hq (e ▸ hS')
      exact .inr ⟨q', j', .inl hS', by rw [fset_ne _ _ e]; exact hj', by rw [fset_ne _ _ e]; exact hn', by rw [fset_ne _ _ e]; exact ea, by rw [fset_ne _ _ e]; exact en⟩
    · refine .inr ⟨q, 0, .inr rfl, by rw [fset_same]; omega, by rw [fset_same]; simp [List.mem_range'_1], by simpa using ea, by rw [fset_same]; exact en⟩
  · rintro (⟨q', k', hL, hS', ea, en⟩ | ⟨q', j', hS', hj', hn', ea, en⟩)
    · have : q' = q := by omega
      subst this; exact uq k' hL
    · have hne : q' ≠ q := fun e => hq (e ▸ hS')
      have hk' := I.k8 q' (.inl hS')
      rw [fset_ne _ _ hne] at hk'
      have := cell_in hk' hj'
      have := wdt_pos (cl q')
      omega

theorem lv_need (I : SI c x hp S fl ((q, k) :: L) cl fr pl) (hSL : ∀ p, S p → (p, 0) ∈ L) : (∀ a n, Lv S ((q, k) :: L) cl fr a n ↔ Lv S L cl fr a n ∨ (a = 4096 * q ∧ n = 4096 * 2 ^ k)) ∧ ∀ n, ¬ Lv S L cl fr (4096 * q) n := by
  have nd := List.nodup_cons.1 I.w.nd
  have uq : ∀ k', (q, k') ∉ L := fun k' h => by
    have := I.w.til.uniq (q := q) (a := (q, k)) (b := (q, k')) (List.mem_append_left _ (List.mem_cons_self ..)) (List.mem_append_left _ (List.mem_cons_of_mem _ h)) cov_self cov_self
    rw [← this] at h
    exact nd.1 h
  have hq : ¬ S q := fun h => uq 0 (hSL q h)
  refine ⟨fun a n => ⟨?_, ?_⟩, fun n => ?_⟩
  · rintro (⟨q', k', hL, hS', ea, en⟩ | h)
    · rcases List.mem_cons.1 hL with e | hL
      · cases e; exact .inr ⟨ea, en⟩
      · exact .inl (.inl ⟨q', k', hL, hS', ea, en⟩)
    · exact .inl (.inr h)
  · rintro ((⟨q', k', hL, hS', ea, en⟩ | h) | ⟨ea, en⟩)
    · exact .inl ⟨q', k', List.mem_cons_of_mem _ hL, hS', ea, en⟩
    · exact .inr h
    · exact .inl ⟨q, k, List.mem_cons_self .., hq, ea, en⟩
  · rintro (⟨q', k', hL, hS', ea, en⟩ | ⟨q', j', hS', hj', hn', ea, en⟩)
    · have : q' = q := by omega
      subst this; exact uq k' hL
    · have hk' := I.k8 q' hS'
      have := cell_in hk' hj'
      have := wdt_pos (cl q')
      have : q' = q := by omega
      subst this; exact hq hS'

theorem lv_give (I : SI c x hp S fl L cl fr pl) (hS : S q) (hj : j < cnt (cl q)) : ∀ a n, Lv S L cl (fset fr q (j :: fr q)) a n ↔ Lv S L cl fr a n ∧ a ≠ 4096 * q + j * wdt (cl q) := by
  have hk := I.k8 q hS
  intro a n
  constructor
  · rintro (⟨q', k', hL, hS', ea, en⟩ | ⟨q', j', hS', hj', hn', ea, en⟩)
    · refine ⟨.inl ⟨q', k', hL, hS', ea, en⟩, fun e => ?_⟩
      have := cell_in hk hj
      have := wdt_pos (cl q)
      have : q' = q := by omega
      exact hS' (this ▸ hS)
    · by_cases e : q' = q
      · subst e
        rw [fset_same] at hn'
        refine ⟨.inr ⟨q', j', hS', hj', fun h => hn' (List.mem_cons_of_mem _ h), ea, en⟩, fun e2 => ?_⟩
        have := (cell_at hk hk hj' hj (by rw [← ea, e2])).2
        have := mul_w this
        subst this
        exact hn' (List.mem_cons_self ..)
      · rw [fset_ne _ _ e] at hn'
        refine ⟨.inr ⟨q', j', hS', hj', hn', ea, en⟩, fun e2 => ?_⟩
        exact e (cell_at (I.k8 q' hS') hk hj' hj (by rw [← ea, e2])).1
  · rintro ⟨h | ⟨q', j', hS', hj', hn', ea, en⟩, hne⟩
    · exact .inl h
    · refine .inr ⟨q', j', hS', hj', ?_, ea, en⟩
      by_cases e : q' = q
      · subst e
        rw [fset_same]
        intro h
        rcases List.mem_cons.1 h with e | h
        · subst e; exact hne ea
        · exact hn' h
      · rw [fset_ne _ _ e]; exact hn'

theorem lv_last (I : SI c x hp S fl L cl fr pl) (hS : S q) (hj : j < cnt (cl q)) (hnj : j ∉ fr q) (hl : (fr q).length + 1 = cnt (cl q)) (hL : L.Perm ((q, 0) :: L')) : ∀ a n, Lv (fun p => S p ∧ p ≠ q) L' cl (fset fr q []) a n ↔ Lv S L cl fr a n ∧ a ≠ 4096 * q + j * wdt (cl q) := by
  have hk := I.k8 q hS
  have nd := List.nodup_cons.1 (hL.nodup_iff.1 I.w.nd)
  have uq : ∀ k', (q, k') ∉ L' := fun k' h => by
    have hm : (q, k') ∈ L := hL.mem_iff.2 (List.mem_cons_of_mem _ h)
    have := I.w.rep.uniq0 (I.w.rep.ps q hS).1 hm (cov_self (p := q) (k := k'))
    rw [this] at h
    exact nd.1 h
  -- the only live cell
  have only : ∀ j', j' < cnt (cl q) → j' ∉ fr q → j' = j := fun j' hj' hn' => Classical.byContradiction fun hne => by
    have := List.Nodup.length_le_of_subset (List.nodup_cons.2 ⟨by simp [hne, hn'], List.nodup_cons.2 ⟨hnj, (I.nd q hS).1⟩⟩ : (j' :: j :: fr q).Nodup) (l₂ := List.range (cnt (cl q))) fun i hi => by
      rcases List.mem_cons.1 hi with e | hi
      · exact List.mem_range.2 (e ▸ hj')
      · rcases List.mem_cons.1 hi with e | hi
        · exact List.mem_range.2 (e ▸ hj)
        · exact List.mem_range.2 ((I.nd q hS).2 i hi)
    simp at this
    omega
  intro a n
  constructor
  · rintro (⟨q', k', hL', hS', ea, en⟩ | ⟨q', j', hS', hj', hn', ea, en⟩)
    · have hne : q' ≠ q := fun e => uq k' (e ▸ hL')
      refine ⟨.inl ⟨q', k', hL.mem_iff.2 (List.mem_cons_of_mem _ hL'), fun h => hS' ⟨h, hne⟩, ea, en⟩, fun e => ?_⟩
      have := cell_in hk hj
      have := wdt_pos (cl q)
      omega
    · rw [fset_ne _ _ hS'.2] at hn'
      refine ⟨.inr ⟨q', j', hS'.1, hj', hn', ea, en⟩, fun e2 => ?_⟩
      exact hS'.2 (cell_at (I.k8 q' hS'.1) hk hj' hj (by rw [← ea, e2])).1
  · rintro ⟨⟨q', k', hL', hS', ea, en⟩ | ⟨q', j', hS', hj', hn', ea, en⟩, hne⟩
    · have hqq : q' ≠ q := fun e => hS' (e ▸ hS)
      refine .inl ⟨q', k', (List.mem_cons.1 (hL.mem_iff.1 hL')).resolve_left fun e => hqq (by cases e; rfl), fun h => hS' h.1, ea, en⟩
    · have hqq : q' ≠ q := fun e => by
        subst e
        have := only j' hj' hn'
        subst this
        exact hne ea
      exact .inr ⟨q', j', ⟨hS', hqq⟩, hj', by rw [fset_ne _ _ hqq]; exact hn', ea, en⟩

theorem lv_back (I : SI c x hp S fl L cl fr pl) (hS : ¬ S q) (hL : L.Perm ((q, k) :: L')) : ∀ a n, Lv S L' cl fr a n ↔ Lv S L cl fr a n ∧ a ≠ 4096 * q := by
  have nd := List.nodup_cons.1 (hL.nodup_iff.1 I.w.nd)
  have hm0 : (q, k) ∈ L := hL.mem_iff.2 (List.mem_cons_self ..)
  have uq : ∀ k', (q, k') ∈ L → k' = k := fun k' h => by
    have := I.w.til.uniq (q := q) (a := (q, k)) (b := (q, k')) (List.mem_append_left _ hm0) (List.mem_append_left _ h) cov_self cov_self
    cases this; rfl
  intro a n
  constructor
  · rintro (⟨q', k', hL', hS', ea, en⟩ | ⟨q', j', hS', hj', hn', ea, en⟩)
    · have hm : (q', k') ∈ L := hL.mem_iff.2 (List.mem_cons_of_mem _ hL')
      refine ⟨.inl ⟨q', k', hm, hS', ea, en⟩, fun e => ?_⟩
      have : q' = q := by omega
      subst this
      have := uq k' hm
      subst this
      exact nd.1 hL'
    · refine ⟨.inr ⟨q', j', hS', hj', hn', ea, en⟩, fun e => ?_⟩
      have := cell_in (I.k8 q' hS') hj'
      have := wdt_pos (cl q')
      have : q' = q := by omega
      exact hS (this ▸ hS')
  · rintro ⟨⟨q', k', hL', hS', ea, en⟩ | h, hne⟩
    · exact .inl ⟨q', k', (List.mem_cons.1 (hL.mem_iff.1 hL')).resolve_left fun e => hne (by cases e; exact ea), hS', ea, en⟩
    · exact .inr h
end
end Go.Proofs.YteemmpkhdllapaaDoor
