/- croftref5: what the document's painted pages, words and links are: plainly. No condition. -/
import Derived.Test.YtnlcmfdmbgnpfaaGreatZAK
set_option linter.unusedSimpArgs false
set_option linter.unusedVariables false
namespace Go.Proofs.YtnlcmfdmbgnpfaaGreat
open Go.V Classical

section
variable {G : Nat → Nat → Int} {q k : Nat}

theorem paintT_out {p k : Nat} {kind : Int} (h : ¬ Cov (p, k) q) : paintT G p k kind (2 ^ k) q = G q := by
  funext j
  unfold paintT
  rw [if_neg (show ¬ (p ≤ q ∧ q < p + 2 ^ k) from h)]

theorem paintT_in {p k : Nat} {kind : Int} (h : Cov (p, k) q) : paintT G p k kind (2 ^ k) q = plainP (if q = p then kind else kind + 1) k := by
  have h : p ≤ q ∧ q < p + 2 ^ k := h
  funext j
  unfold paintT
  rw [if_pos h]
  have e : (if q - p = 0 then kind else kind + 1) = (if q = p then kind else kind + 1) := by
    by_cases e : q = p
    · rw [if_pos e, if_pos (by omega)]
    · rw [if_neg e, if_neg (by omega)]
  match j with
  | 0 => exact e
  | 1 | 2 | 3 | 4 | 5 | 6 => rfl
  | _ + 7 => rfl

theorem paintLv_out : ∀ {L : List PBk} {G : Nat → Nat → Int}, (∀ b ∈ L, ¬ Cov b q) → paintLv G L q = G q
  | [], G, _ => rfl
  | b :: L, G, h => by
    show paintLv (paintT G b.1 b.2 2 (2 ^ b.2)) L q = G q
    rw [paintLv_out fun b' hb' => h b' (List.mem_cons_of_mem _ hb')]
    exact paintT_out (h b (List.mem_cons_self ..))

theorem paintLv_in : ∀ {L : List PBk} {G : Nat → Nat → Int} {b : PBk}, b ∈ L → Cov b q → (∀ b' ∈ L, Cov b' q → b' = b) → paintLv G L q = plainP (if q = b.1 then 2 else 3) b.2
  | a :: L, G, b, hb, hc, hu => by
    show paintLv (paintT G a.1 a.2 2 (2 ^ a.2)) L q = _
    by_cases h : ∃ b' ∈ L, Cov b' q
    · obtain ⟨b', hb', hc'⟩ := h
      have e := hu b' (List.mem_cons_of_mem _ hb') hc'
      subst e
      exact paintLv_in hb' hc' fun z hz => hu z (List.mem_cons_of_mem _ hz)
    · rw [paintLv_out fun b' hb' hc' => h ⟨b', hb', hc'⟩]
      have : b = a := by
        rcases List.mem_cons.1 hb with e | hb
        · exact e
        · exact absurd ⟨b, hb, hc⟩ h
      subst this
      exact paintT_in (k := b.2) (p := b.1) hc

theorem paintF_out : ∀ {l : List Nat} {G : Nat → Nat → Int}, (∀ p ∈ l, ¬ Cov (p, k) q) → paintF G k l q = G q
  | [], G, _ => rfl
  | p :: l, G, h => by
    show paintF (paintT G p k 0 (2 ^ k)) k l q = G q
    rw [paintF_out fun b' hb' => h b' (List.mem_cons_of_mem _ hb')]
    exact paintT_out (h p (List.mem_cons_self ..))

theorem paintF_in : ∀ {l : List Nat} {G : Nat → Nat → Int} {p : Nat}, p ∈ l → Cov (p, k) q → (∀ p' ∈ l, Cov (p', k) q → p' = p) → paintF G k l q = plainP (if q = p then 0 else 1) k
  | a :: l, G, p, hb, hc, hu => by
    show paintF (paintT G a k 0 (2 ^ k)) k l q = _
    by_cases h : ∃ b' ∈ l, Cov (b', k) q
    · obtain ⟨b', hb', hc'⟩ := h
      have e := hu b' (List.mem_cons_of_mem _ hb') hc'
      subst e
      exact paintF_in hb' hc' fun z hz => hu z (List.mem_cons_of_mem _ hz)
    · rw [paintF_out fun b' hb' hc' => h ⟨b', hb', hc'⟩]
      have : p = a := by
        rcases List.mem_cons.1 hb with e | hb
        · exact e
        · exact absurd ⟨p, hb, hc⟩ h
      subst this
      exact paintT_in hc

theorem paintO_in {fl : Nat → List Nat} {p k : Nat} (hp : p ∈ fl k) (hc : Cov (p, k) q) : ∀ (n : Nat), k < n → (∀ j, j < n → ∀ p' ∈ fl j, Cov (p', j) q → j = k ∧ p' = p) → paintO fl n q = plainP (if q = p then 0 else 1) k
  | 0, h, _ => by omega
  | n + 1, h, hu => by
    show paintF (paintO fl n) n (fl n) q = _
    by_cases e : k = n
    · subst e
      exact paintF_in hp hc fun p' hp' hc' => (hu k (by omega) p' hp' hc').2
    · rw [paintF_out fun p' hp' hc' => e (hu n (by omega) p' hp' hc').1.symm]
      exact paintO_in hp hc n (by omega) fun j hj => hu j (by omega)
end

section
variable {S : Nat → Prop} {c : Cfg} {x : BU} {fl : Nat → List Nat} {L : List PBk}

theorem WS.painted (W : WS S c x fl L) {q : Nat} (hq : q < x.m.n) (hS : ¬ S q) : paintLv (paintO fl (x.m.o + 1)) L q = x.m.pg q := by
  have til : Tile x.m.o x.m.n (L ++ blks x.m.o fl) := W.rep.til
  by_cases h : ∃ b ∈ L, Cov b q
  · obtain ⟨b, hb, hc⟩ := h
    rw [paintLv_in hb hc fun b' hb' hc' => til.uniq (List.mem_append_left _ hb') (List.mem_append_left _ hb) hc' hc]
    refine (W.rep.pl b hb (fun hs => ?_) q hc).symm
    have h0 := W.rep.s0 hb hs
    have hc : b.1 ≤ q ∧ q < b.1 + 2 ^ b.2 := hc
    rw [h0] at hc
    have : q = b.1 := by simp at hc; omega
    exact hS (this ▸ hs)
  · rw [paintLv_out fun b hb hc => h ⟨b, hb, hc⟩]
    obtain ⟨b, hb, hc⟩ := til.cv q hq
    rcases List.mem_append.1 hb with hb | hb
    · exact absurd ⟨b, hb, hc⟩ h
    · obtain ⟨p, k⟩ := b
      obtain ⟨hk, hp⟩ := mem_blks.1 hb
      rw [paintO_in hp hc (x.m.o + 1) (by omega) fun j hj p' hp' hc' => ?_]
      · exact (W.rep.pf k p hk hp q hc).symm
      · have e := til.uniq (List.mem_append_right _ (mem_blks.2 ⟨by omega, hp'⟩)) (List.mem_append_right _ hb) hc' hc
        exact ⟨(Prod.mk.inj e).2, (Prod.mk.inj e).1⟩

theorem WS.worded (W : WS S c x fl L) {k : Nat} (hk : k < x.m.o) (j : Nat) : wd (x.m.bt k) j = wd (prT fl k (x.m.n / 2 ^ (k + 1))) j := by
  refine wd_congr fun i hi => ?_
  generalize 64 * j + i = t
  unfold prT
  by_cases h : t < x.m.n / 2 ^ (k + 1)
  · have h2 : (t + 1) * 2 ^ (k + 1) ≤ x.m.n := (Nat.le_div_iff_mul_le (Nat.two_pow_pos _)).1 h
    have h3 := Nat.two_pow_pos (k + 1)
    rw [decide_eq_true h, Bool.true_and]
    rw [Nat.succ_mul] at h2
    exact prB_bits W.rep.bt hk (by omega)
  · rw [decide_eq_false h, Bool.false_and]
    cases hb : x.m.bt k t with
    | false => rfl
    | true => exact absurd (W.ok.m.bi k t hk hb) h

theorem seg_at {st : Sto} : ∀ {l : List Int} {b : Int} {i : Nat}, Seg c st b l 0 → i < l.length → st.rd c (l.getD i 0) = (if i + 1 < l.length then l.getD (i + 1) 0 else 0) ∧ st.rd c (l.getD i 0 + 8) = (if 0 < i then l.getD (i - 1) 0 else b)
  | p :: l, b, 0, H, hi => by
    refine ⟨?_, ?_⟩
    · show st.rd c p = _
      rw [H.1]
      cases l with
      | nil => simp
      | cons a l => simp
    · show st.rd c (p + 8) = _
      rw [H.2.1]
      rfl
  | p :: l, b, i + 1, H, hi => by
    have := seg_at (i := i) H.2.2 (by simpa using hi)
    obtain ⟨h1, h2⟩ := this
    refine ⟨?_, ?_⟩
    · show st.rd c (l.getD i 0) = _
      rw [h1]
      by_cases e : i + 1 < l.length
      · rw [if_pos e, if_pos (by simpa using e)]; rfl
      · rw [if_neg e, if_neg (by simpa using e)]
    · show st.rd c (l.getD i 0 + 8) = _
      rw [h2]
      cases i with
      | zero => rfl
      | succ z => rfl
end
end Go.Proofs.YtnlcmfdmbgnpfaaGreat
