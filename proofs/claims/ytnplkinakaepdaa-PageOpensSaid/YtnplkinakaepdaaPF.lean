/- Chapter 4's laws: what holds of a map that was made by calls; what it tells makes it again. No condition. -/
import Derived.Test.YtnplkinakaepdaaPC
set_option linter.unusedSimpArgs false
set_option linter.unusedVariables false
namespace Go.Proofs.Ytnplkinakaepdaa
open Go.V Classical

/-- How many of the first k are true. -/
def cntB (f : Nat → Bool) : Nat → Nat
  | 0 => 0
  | k + 1 => cntB f k + (f k).toNat

theorem cntB_le (f : Nat → Bool) : ∀ k, cntB f k ≤ k
  | 0 => Nat.le_refl _
  | k + 1 => by have := cntB_le f k; have : (f k).toNat ≤ 1 := by cases f k <;> decide
                simp only [cntB]; omega

theorem cntB_congr {f g : Nat → Bool} : ∀ {k : Nat}, (∀ i, i < k → f i = g i) → cntB f k = cntB g k
  | 0, _ => rfl
  | k + 1, h => by simp only [cntB]; rw [cntB_congr (k := k) fun i hi => h i (by omega), h k (by omega)]

theorem cntB_flip {f g : Nat → Bool} {c : Nat} (hg : ∀ i, i ≠ c → g i = f i) (hc : g c = !f c) : ∀ {k : Nat}, c < k → cntB g k + (f c).toNat = cntB f k + (g c).toNat
  | 0, h => by omega
  | k + 1, h => by
    simp only [cntB]
    by_cases h1 : c = k
    · subst h1
      have := cntB_congr (f := g) (g := f) (k := c) fun i hi => hg i (by omega)
      omega
    · have ih := cntB_flip hg hc (k := k) (by omega)
      have := hg k (fun e => h1 e.symm)
      rw [this]; omega

theorem cntB_false {f : Nat → Bool} : ∀ {k : Nat}, (∀ i, i < k → f i = false) → cntB f k = 0
  | 0, _ => rfl
  | k + 1, h => by simp only [cntB]; rw [cntB_false (k := k) fun i hi => h i (by omega), h k (by omega)]; rfl

/-- A page that was made by calls. -/
structure PgI (P : Nat → Int) (o : Nat) : Prop where
  k : 0 ≤ P 0 ∧ P 0 ≤ 4
  o : 0 ≤ P 1 ∧ P 1 ≤ o
  c : 0 ≤ P 2 ∧ P 2 ≤ 7
  l : P 3 = cntB (pbit P) 256
  nx : -1 ≤ P 4
  pv : -1 ≤ P 5
  f : -1 ≤ P 6 ∧ P 6 ≤ 255

def Made (s : MS) : Prop := ∀ i, i < s.n → PgI (s.pg i) s.o

theorem pbit_zero {P : Nat → Int} (h : ∀ j, 7 ≤ j → j < 11 → P j = 0) {c : Nat} (hc : c < 256) : pbit P c = false := by
  unfold pbit; rw [h _ (by omega) (by omega)]; simp

theorem plainP_i {k r : Int} {o : Nat} (hk : 0 ≤ k ∧ k ≤ 4) (hr : 0 ≤ r ∧ r ≤ o) : PgI (plainP k r) o := by
  refine ⟨hk, hr, by simp [plainP], ?_, by simp [plainP], by simp [plainP], by simp [plainP]⟩
  rw [cntB_false fun i hi => pbit_zero (fun j h7 h11 => ?_) hi]
  · rfl
  · have : j = 7 ∨ j = 8 ∨ j = 9 ∨ j = 10 := by omega
    rcases this with rfl | rfl | rfl | rfl <;> rfl

theorem slabP_i {c : Int} {o : Nat} (hc : 0 ≤ c ∧ c ≤ 7) : PgI (slabP c) o := by
  refine ⟨by simp [slabP, plainP], by simp [slabP, plainP], by simp [slabP]; omega, ?_, by simp [slabP, plainP], by simp [slabP, plainP], by simp [slabP, plainP]⟩
  rw [cntB_false fun i hi => pbit_zero (fun j h7 h11 => ?_) hi]
  · rfl
  · have : j = 7 ∨ j = 8 ∨ j = 9 ∨ j = 10 := by omega
    rcases this with rfl | rfl | rfl | rfl <;> rfl

theorem pown_bit {P : Nat → Int} {c : Nat} {live : Bool} (T : PgT P) (hc : c < 256) : (∀ i, i < 256 → i ≠ c → pbit (pown P c live) i = pbit P i) ∧ pbit (pown P c live) c = !pbit P c := by
  have h7 : ∀ i : Nat, i < 256 → (7 + i / 64 = 7 + c / 64 → (pown P c live (7 + i / 64)).toNat = (P (7 + c / 64)).toNat ^^^ 2 ^ (c % 64)) ∧ (7 + i / 64 ≠ 7 + c / 64 → pown P c live (7 + i / 64) = P (7 + i / 64)) := by
    intro i hi
    unfold pown
    refine ⟨fun h => ?_, fun h => ?_⟩
    · rw [if_neg (by omega), if_pos h]; simp
    · rw [if_neg (by omega), if_neg h]
  refine ⟨fun i hi hne => ?_, ?_⟩
  · unfold pbit
    by_cases h : 7 + i / 64 = 7 + c / 64
    · rw [(h7 i hi).1 h, h, Nat.testBit_xor, Nat.testBit_two_pow]
      have : ¬ (c % 64 = i % 64) := by omega
      simp [this]
    · rw [(h7 i hi).2 h]
  · unfold pbit
    rw [(h7 c hc).1 rfl, Nat.testBit_xor, Nat.testBit_two_pow]
    simp

theorem pown_i {P : Nat → Int} {c o : Nat} {live : Bool} (T : PgT P) (H : PgI P o) (hc : c < 256) (hb : pbit P c ≠ live) : PgI (pown P c live) o := by
  have e : ∀ j, j ≠ 3 → j < 7 → pown P c live j = P j := fun j h1 h2 => by unfold pown; rw [if_neg h1, if_neg (by omega)]
  obtain ⟨b1, b2⟩ := pown_bit (live := live) T hc
  have hf : cntB (pbit (pown P c live)) 256 + (pbit P c).toNat = cntB (pbit P) 256 + (pbit (pown P c live) c).toNat := by
    have := cntB_flip (f := pbit P) (g := fun i => if i < 256 then pbit (pown P c live) i else pbit P i) (c := c) (fun i hi => by
      by_cases h : i < 256
      · simp only [h, if_true]; exact b1 i h hi
      · simp only [h, if_false]) (by simp only [hc, if_true]; exact b2) (k := 256) hc
    rw [cntB_congr (g := pbit (pown P c live)) (fun i hi => by simp only [hi, if_true])] at this
    simpa only [hc, if_true] using this
  rw [b2] at hf
  have h256 := cntB_le (pbit (pown P c live)) 256
  have hl := H.l
  refine ⟨by rw [e 0 (by omega) (by omega)]; exact H.k, by rw [e 1 (by omega) (by omega)]; exact H.o, by rw [e 2 (by omega) (by omega)]; exact H.c, ?_, by rw [e 4 (by omega) (by omega)]; exact H.nx, by rw [e 5 (by omega) (by omega)]; exact H.pv, by rw [e 6 (by omega) (by omega)]; exact H.f⟩
  have h3 : pown P c live 3 = IntKind.wrap .i64 (if live then P 3 + 1 else P 3 - 1) := by unfold pown; rw [if_pos rfl]
  have h257 := cntB_le (pbit P) 256
  rw [h3, IntKind.wrap_i64, hl]
  cases live
  · have hp : pbit P c = true := by cases hq : pbit P c <;> simp_all
    rw [hp] at hf
    simp at hf ⊢
    omega
  · have hp : pbit P c = false := by cases hq : pbit P c <;> simp_all
    rw [hp] at hf
    simp at hf ⊢
    omega

theorem bits_same {P Q : Nat → Int} (h : ∀ j, 7 ≤ j → P j = Q j) : cntB (pbit P) 256 = cntB (pbit Q) 256 :=
  cntB_congr fun i _ => by unfold pbit; rw [h _ (by omega)]

theorem chainP_i {P : Nat → Int} {o : Nat} {p q : Int} (H : PgI P o) (hp : -1 ≤ p) (hq : -1 ≤ q) : PgI (chainP P p q) o :=
  ⟨H.k, H.o, H.c, by
    have : chainP P p q 3 = P 3 := rfl
    rw [this, H.l, bits_same (P := chainP P p q) (Q := P) fun j hj => by unfold chainP; rw [if_neg (by omega), if_neg (by omega)]], hp, hq, H.f⟩

theorem firstP_i {P : Nat → Int} {o : Nat} {c : Int} (H : PgI P o) (hc : -1 ≤ c ∧ c ≤ 255) : PgI (firstP P c) o :=
  ⟨H.k, H.o, H.c, by
    have : firstP P c 3 = P 3 := rfl
    rw [this, H.l, bits_same (P := firstP P c) (Q := P) fun j hj => by unfold firstP; rw [if_neg (by omega)]], H.nx, H.pv, hc⟩

theorem setPg_made {s : MS} {i : Int} {Q : Nat → Int} (H : Made s) (T : PgI Q s.o) : Made (setPg s i Q) := by
  intro x hx
  show PgI (putP s.pg i.toNat Q x) s.o
  unfold putP
  split
  · exact T
  · exact H x hx

theorem mCall_made {s : MS} {o : PO} (hs : s.Ok) (H : Made s) : Made (mCall s o).1 := by
  unfold mCall
  split
  · intro i hi
    unfold mGrow at hi ⊢
    split at hi
    · rename_i h; rw [if_pos h]; exact H i hi
    · rename_i h; rw [if_neg h]
      show PgI (if i < s.n then s.pg i else plainP (if i = s.n then 2 else 3) s.o) s.o
      split
      · exact H i (by assumption)
      · exact plainP_i (by split <;> omega) (by omega)
  split
  · split
    · intro i hi
      exact H i (Nat.lt_of_lt_of_le hi (Nat.sub_le _ _))
    · exact H
  split
  · split
    · rename_i h
      intro i hi
      show PgI (runP s.pg o.page.toNat o.x.toNat o.y i) s.o
      unfold runP
      split
      · exact plainP_i (by have := h.1; split <;> omega) (by have := h.2.1; have := h.2.2.1; omega)
      · exact H i hi
    · exact H
  split
  · split
    · rename_i h; exact setPg_made H (slabP_i h.2.2)
    · exact H
  split
  · split
    · rename_i h
      have hc := ncells_le (P := s.pg o.page.toNat)
      have h1 := h.1
      have h2 := h.2.1
      have h4 := h.2.2.2.1
      have h5 := h.2.2.2.2.1
      exact setPg_made H (pown_i (hs.pg _ (by omega)) (H _ (by omega)) (by omega) h.2.2.2.2.2)
    · exact H
  split
  · split
    · rename_i h; exact setPg_made H (chainP_i (H _ (by have := h.1; have := h.2.1; omega)) h.2.2.2.1 h.2.2.2.2.2.1)
    · exact H
  split
  · split
    · rename_i h
      have hc := ncells_le (P := s.pg o.page.toNat)
      have h5 := h.2.2.2.2
      exact setPg_made H (firstP_i (H _ (by have := h.1; have := h.2.1; omega)) ⟨h.2.2.2.1, by omega⟩)
    · exact H
  split
  · exact H
  · exact H

theorem runs_made {o : Nat → PO} {s : MS} (hs : s.Ok) (H : Made s) : ∀ {k : Nat}, (∀ i, i < k → (o i).Ok) → Made (runs o s k)
  | 0, _ => H
  | k + 1, h => mCall_made (runs_ok hs fun i hi => h i (by omega)) (runs_made hs H fun i hi => h i (by omega))

/-- Does a page name one that is not there? -/
def Gone (pg : Nat → Nat → Int) (n : Nat) : Prop := ∃ i, i < n ∧ ((n : Int) ≤ pg i 4 ∨ (n : Int) ≤ pg i 5)

theorem made_fit {s : MS} (H : Made s) (hg : ¬ Gone s.pg s.n) {i : Nat} (hi : i < s.n) : Fit (s.pg i) s.o s.n := by
  have h := H i hi
  have h256 := cntB_le (pbit (s.pg i)) 256
  have hl := h.l
  have g4 : s.pg i 4 < s.n := by
    rcases Int.lt_or_le (s.pg i 4) s.n with h | h
    · exact h
    · exact absurd ⟨i, hi, .inl h⟩ hg
  have g5 : s.pg i 5 < s.n := by
    rcases Int.lt_or_le (s.pg i 5) s.n with h | h
    · exact h
    · exact absurd ⟨i, hi, .inr h⟩ hg
  exact ⟨h.k, h.o, h.c, by omega, ⟨h.nx, by omega⟩, ⟨h.pv, by omega⟩, h.f⟩

/-- What a map tells, as data that are handed in. -/
theorem plain_in {h : Heap} {s : MS} {gp : Option Addr} {gc : Nat} {qp : Option Addr} {qc : Nat} {wp : Nat → Option Addr} {wc : Nat → Nat} (H : (plainR s gp gc qp qc wp wc).P h) :
    Row h gp (s.n * 11) (pgF s.pg) ∧ PairsIn h qp s.o wp (fun k => nw (s.n / 2 ^ (k + 1))) wc (fun k j => wd (s.bt k) j) := by
  refine ⟨sl_row H.1, ?_, fun k hk => ?_, fun k j _ _ => wd_lt _ _⟩
  · have := sl_row H.2.1.1; rw [Nat.mul_one] at this; exact this
  · have := sl_row (H.2.1.2.1.1 k hk); rw [Nat.mul_one] at this; exact this

theorem open_same {s : MS} (hs : s.Ok) {k : Nat} (hk : k < s.o) (i : Nat) : (mOpen s.o s.n s.pg (fun k => nw (s.n / 2 ^ (k + 1))) (fun k j => wd (s.bt k) j)).bt k i = s.bt k i := by
  show (decide (i < s.n / 2 ^ (k + 1)) && (decide (i / 64 < nw (s.n / 2 ^ (k + 1))) && (wd (s.bt k) (i / 64)).testBit (i % 64))) = s.bt k i
  rw [wd_bit, show 64 * (i / 64) + i % 64 = i by omega]
  have h64 : i % 64 < 64 := by omega
  by_cases hi : i < s.n / 2 ^ (k + 1)
  · have := div_nw hi
    simp [hi, this, h64]
  · have : s.bt k i = false := by
      cases hb : s.bt k i
      · rfl
      · exact absurd (hs.bi k i hk hb) hi
    simp [hi, this]

/-- The map that is opened of what s tells is s. -/
theorem open_again {h h' : Heap} {mb : Nat} {s : MS} {w : MW} (hs : s.Ok) (N : New h h' (mapR mb (mOpen s.o s.n s.pg (fun k => nw (s.n / 2 ^ (k + 1))) (fun k j => wd (s.bt k) j)) w)) : New h h' (mapR mb s w) :=
  N.conv (fun P => mapQ_congr P (fun _ _ _ _ => rfl) (fun _ _ => rfl) fun k hk i => open_same hs hk i) fun b e => mapQ_fp b e

theorem open_ok {s : MS} (hs : s.Ok) (H : Made s) (hg : ¬ Gone s.pg s.n) : OpenOk s.o s.n s.pg s.o (fun k => nw (s.n / 2 ^ (k + 1))) :=
  ⟨by omega, by have := hs.o8; omega, hs.n1, by rw [Int.toNat_natCast]; exact hs.al, rfl, fun _ _ => rfl, fun i hi => by rw [Int.toNat_natCast]; exact made_fit H hg hi⟩

theorem open_gone {s : MS} (hg : Gone s.pg s.n) : ¬ OpenOk s.o s.n s.pg s.o (fun k => nw (s.n / 2 ^ (k + 1))) := fun F => by
  obtain ⟨i, hi, h⟩ := hg
  have f := F.f i hi
  have := f.nx
  have := f.pv
  omega

section
variable {w₀ : World} {h : Heap} {K : Value → Heap → Prop}

theorem gone_ok {p : Option Addr} {n c : Nat} {pg : Nat → Nat → Int} (hn : n < 9223372036854775808) (hp : Row h p (n * 11) (pgF pg)) (hK : K (.bool (decide (Gone pg n))) h) : CallV Try.prog w₀ F.croftlaw4_gone [.slice p n c] h K := by
  refine croftlaw4_gone.call ?_
  unfold croftlaw4_gone.vc
  intro J k L hL
  have yes : Gone pg n → K (.bool true) h := fun hg => by rw [decide_eq_true hg] at hK; exact hK
  have loop : ∀ (r i : Nat), i + r = n → (∀ a, a < i → pg a 4 < n ∧ pg a 5 < n) → L [.slice p n c, .int .i64 (i : Int)] h := by
    intro r
    induction r with
    | zero =>
      intro i hi ha
      have : i = n := by omega
      subst this
      refine hL _ _ _ _ _ (iF (by simp) (k _ ?_))
      have : ¬ Gone pg i := fun ⟨a, h1, h2⟩ => by have := ha a h1; omega
      rw [decide_eq_false this] at hK
      exact hK
    | succ r ih =>
      intro i hi ha
      obtain ⟨b, o, eb, hc⟩ := row_page hp (i := i) (by omega)
      have e1 : IntKind.wrap .i64 ((i : Int) + 1) = ((i + 1 : Nat) : Int) := by rw [IntKind.wrap_i64]; omega
      refine hL _ _ _ _ _ (iT (by simp; omega) ?_)
      rw [eb]
      simp only [jor, jand, cellAt_new, add_mk, List.getElem?_toArray, Nat.zero_add, List.getElem?_cons_zero, List.getElem?_cons_succ, Option.some.injEq, Value.int.injEq, Value.bool.injEq, Value.pointer.injEq, Value.slice.injEq, true_and, and_true, exists_eq_left', exists_eq', and_assoc, exists_and_left, Int.toNat_natCast]
      have c4 : cellAt h ⟨b, o + i * 11 + 4, none⟩ = some (.int .i64 (pg i 4)) := hc 4 (by omega)
      have c5 : cellAt h ⟨b, o + i * 11 + 5, none⟩ = some (.int .i64 (pg i 5)) := hc 5 (by omega)
      refine ⟨by omega, by omega, _, c4, ?_⟩
      intro J3 k3
      by_cases h4 : (n : Int) ≤ pg i 4
      · exact pT (by simp; exact h4) (k3 _ _ (iT rfl (yes ⟨i, by omega, .inl h4⟩)))
      · refine pF (by simp; omega) ⟨by omega, by omega, _, c5, k3 _ _ ⟨fun e => ?_, fun e => ?_⟩⟩
        · exact yes ⟨i, by omega, .inr (by simpa using e)⟩
        · rw [e1, ← eb]
          refine ih (i + 1) (by omega) fun a ha' => ?_
          rcases Nat.lt_or_ge a i with hl | hl
          · exact ha a hl
          · rw [show a = i by omega]; simp at e; omega
  exact loop n 0 (by omega) fun a ha => absurd ha (by omega)

end
end Go.Proofs.Ytnplkinakaepdaa
