/- croftlaw7: gone; which regions go. No condition. -/
import Derived.Test.YteemmpkhdllapaaDoorZEG
set_option linter.unusedSimpArgs false
set_option linter.unusedVariables false
namespace Go.Proofs.YteemmpkhdllapaaDoor
open Go.V Classical

section
variable {c : Cfg} {x : BU} {hp : Nat → Int} {S : Nat → Prop} {fl : Nat → List Nat} {L : List PBk} {cl : Nat → Nat} {fr pl : Nat → List Nat} {l : List CE}

theorem lv_in (hk : ∀ p, S p → cl p < 8) (hp : ∀ p, S p → (p, 0) ∈ L) {a n : Nat} (h : Lv S L cl fr a n) : ∃ b ∈ L, 4096 * b.1 ≤ a ∧ a + n ≤ 4096 * (b.1 + 2 ^ b.2) ∧ 0 < n := by
  rcases h with ⟨q, k, hL, hS, ea, en⟩ | ⟨q, j, hS, hj, hn, ea, en⟩
  · have := Nat.two_pow_pos k
    exact ⟨_, hL, by simp only []; omega, by simp only []; omega, by omega⟩
  · have := cell_in (hk q hS) hj
    have := wdt_pos (cl q)
    exact ⟨_, hp q hS, by simp only []; omega, by simp only [Nat.pow_zero]; omega, by omega⟩

theorem SI.inL (I : SI c x hp S fl L cl fr pl) : ∀ p, S p → (p, 0) ∈ L := fun p h => (I.w.rep.ps p h).1

theorem lv_bd (I : SI c x hp S fl L cl fr pl) {a n : Nat} (h : Lv S L cl fr a n) : a + n ≤ 4096 * x.m.n ∧ 0 < n := by
  obtain ⟨b, hb, h1, h2, h3⟩ := lv_in I.k8 I.inL h
  have al := (I.w.al hb).2.2
  generalize b.1 + 2 ^ b.2 = z at h2 al
  omega

theorem Book.bd (I : SI c x hp S fl L cl fr pl) (B : Book l S L cl fr) (hl : l.length ≤ 1048575) : BdE c.base l := by
  have hb := bu_bounds I.w.g I.w.ok.m
  refine ⟨by omega, fun e he => ?_, by omega⟩
  have := lv_bd I ((B.mem e.a e.n).2 ⟨e, he, rfl, rfl⟩)
  omega

theorem lv_dj (I : SI c x hp S fl L cl fr pl) {a n a' n' : Nat} (h : Lv S L cl fr a n) (h' : Lv S L cl fr a' n') (hne : a ≠ a') : a + n ≤ a' ∨ a' + n' ≤ a := by
  have dj := (List.pairwise_append.1 I.w.til.dj).1
  have pw : ∀ b ∈ L, ∀ b' ∈ L, b ≠ b' → Dj b b' := fun b hb b' hb' hn => pw_of (fun _ _ => Dj.symm) dj hb hb' hn
  rcases h with ⟨q, k, hL, hS, ea, en⟩ | ⟨q, j, hS, hj, hn, ea, en⟩ <;> rcases h' with ⟨q', k', hL', hS', ea', en'⟩ | ⟨q', j', hS', hj', hn', ea', en'⟩
  · have := pw _ hL _ hL' (fun e => by cases e; omega)
    unfold Dj at this
    simp only [] at this
    omega
  · have := pw _ hL _ (I.inL q' hS') (fun e => by cases e; exact hS hS')
    have := cell_in (I.k8 q' hS') hj'
    unfold Dj at *
    simp only [Nat.pow_zero] at *
    omega
  · have := pw _ (I.inL q hS) _ hL' (fun e => by cases e; exact hS' hS)
    have := cell_in (I.k8 q hS) hj
    unfold Dj at *
    simp only [Nat.pow_zero] at *
    omega
  · have h1 := cell_in (I.k8 q hS) hj
    have h2 := cell_in (I.k8 q' hS') hj'
    by_cases e : q = q'
    · subst e
      rcases Nat.lt_trichotomy j j' with h | h | h
      · have : j * wdt (cl q) + wdt (cl q) ≤ j' * wdt (cl q) := by rw [← Nat.succ_mul]; exact Nat.mul_le_mul_right _ h
        omega
      · subst h; omega
      · have : j' * wdt (cl q) + wdt (cl q) ≤ j * wdt (cl q) := by rw [← Nat.succ_mul]; exact Nat.mul_le_mul_right _ h
        omega
    · omega

theorem erase_mem {i : Nat} {e : CE} (B : Book l S L cl fr) (hi : l[i]? = some e) : ∀ e' ∈ l.eraseIdx i, e' ∈ l ∧ e'.a ≠ e.a := by
  obtain ⟨hlt, he⟩ := List.getElem?_eq_some_iff.1 hi
  have hsplit : l = l.take i ++ e :: l.drop (i + 1) := by rw [← he, ← List.drop_eq_getElem_cons hlt, List.take_append_drop]
  have hdel : l.eraseIdx i = l.take i ++ l.drop (i + 1) := List.eraseIdx_eq_take_drop_succ ..
  have dj := B.dj
  rw [hsplit] at dj
  obtain ⟨d1, d2, d3⟩ := List.pairwise_append.1 dj
  obtain ⟨d4, d5⟩ := List.pairwise_cons.1 d2
  intro e' h
  rw [hdel] at h
  rcases List.mem_append.1 h with h | h
  · exact ⟨by rw [hsplit]; exact List.mem_append_left _ h, d3 e' h e (List.mem_cons_self ..)⟩
  · exact ⟨by rw [hsplit]; exact List.mem_append_right _ (List.mem_cons_of_mem _ h), fun ea => d4 e' h ea.symm⟩

def leftE (O : Nat) (l : List CE) : Nat → Nat
  | 0 => 0
  | r + 1 => if meetsE l (4096 * (r * 2 ^ O)) (4096 * 2 ^ O) = false then leftE O l r else r + 1

theorem trimF_leftE {O : Nat} : ∀ (r : Nat) (f : Nat → List Nat), (∀ i, i < r → (i * 2 ^ O ∈ f O ↔ meetsE l (4096 * (i * 2 ^ O)) (4096 * 2 ^ O) = false)) → (trimF O r f).1 = leftE O l r
  | 0, _, _ => rfl
  | r + 1, f, h => by
    have h0 := Nat.two_pow_pos O
    unfold trimF leftE
    by_cases hm : meetsE l (4096 * (r * 2 ^ O)) (4096 * 2 ^ O) = false
    · rw [if_pos ((h r (by omega)).2 hm), if_pos hm]
      refine trimF_leftE r _ fun i hi => ?_
      rw [fset_same, List.mem_filter, ← h i (by omega)]
      refine ⟨fun hx => hx.1, fun hx => ⟨hx, ?_⟩⟩
      have : i * 2 ^ O < r * 2 ^ O := Nat.mul_lt_mul_of_pos_right hi h0
      simp only [ne_eq, decide_not, Bool.not_eq_true', decide_eq_false_iff_not]
      omega
    · rw [if_neg fun hx => hm ((h r (by omega)).1 hx), if_neg hm]
end

theorem mod16 {c : Cfg} {q j k : Nat} : (adr c q + ((j * wdt k : Nat) : Int) - c.base) % 16 = 0 := by
  unfold adr wdt
  rw [show j * (16 * 2 ^ k) = 16 * (j * 2 ^ k) by rw [Nat.mul_left_comm]]
  omega

section
variable {w₀ : World} {h : Heap} {c : Cfg} {wb : Nat} {d : List Value} {Q : SL} {x : BU} {hp : Nat → Int} {S : Nat → Prop} {fl : Nat → List Nat} {L : List PBk} {cl : Nat → Nat} {fr pl : Nat → List Nat} {l : List CE} {K : Value → Heap → Prop}

theorem adr_off (c : Cfg) (q : Nat) (z : Nat) : c.base + ((4096 * q + z : Nat) : Int) = adr c q + ((z : Nat) : Int) := by unfold adr; omega

theorem gone_ok {i : Nat} {e : CE} (I : SI c x hp S fl L cl fr pl) (B : Book l S L cl fr) (TT : TabH h (w7R c wb d Q x hp)) (H : (w7R c wb d Q x hp).P h) (hi : l[i]? = some e)
    (hK : ∀ x' hp' S' fl' L' fr' pl' h', SI c x' hp' S' fl' L' cl fr' pl' → Book (l.eraseIdx i) S' L' cl fr' → x'.m.n = x.m.n → x'.m.o = x.m.o → x'.st.n = x.st.n → (∀ e' ∈ l.eraseIdx i, ∀ o, e'.a ≤ o → o < e'.a + e'.n → x'.st.M o = x.st.M o) →
      Stp h h' (w7R c wb d Q x hp) (w7R c wb d Q x' hp') → K (.bool true) h') :
    CallV Tryd.prog w₀ F.croftlaw7_world_gone [gptr wb, .agg #[.int .u64 (c.base + (e.a : Int)), .int .u64 (e.n : Int), .int .u8 e.m]] h K := by
  have hlv := (B.mem e.a e.n).2 ⟨e, List.mem_of_getElem? hi, rfl, rfl⟩
  have hbd := lv_bd I hlv
  have n1 := I.w.ok.m.n1
  have hb := bu_bounds I.w.g I.w.ok.m
  have hem := erase_mem B hi
  refine croftlaw7_world_gone.call ?_
  unfold croftlaw7_world_gone.vc
  have N0 := box_l h [.int .u64 (c.base + (e.a : Int)), .int .u64 (e.n : Int), .int .u8 e.m] T.T_croftlaw7_block
  generalize Array.push h (.cells #[.int .u64 (c.base + (e.a : Int)), .int .u64 (e.n : Int), .int .u8 e.m] T.T_croftlaw7_block) = h0 at N0 ⊢
  have J0 := (Own.of H).new N0
  obtain ⟨bx, ebx⟩ : ∃ bx, bx = Array.size h := ⟨_, rfl⟩
  rw [← ebx] at J0 ⊢
  have J0 : Go.V.Own h h0 (w7R c wb d Q x hp) [lR bx [.int .u64 (c.base + (e.a : Int)), .int .u64 (e.n : Int), .int .u8 e.m], w7R c wb d Q x hp] := J0
  have B0 := J0.at 0
  have ua : U64 (c.base + (e.a : Int)) := by unfold U64; omega
  -- what stays of the others
  have keep : ∀ {L' : List PBk} {S' : Nat → Prop} {fr' : Nat → List Nat} {st' : Sto}, (∀ p, S' p → cl p < 8) → (∀ p, S' p → (p, 0) ∈ L') → (∀ a n, Lv S' L' cl fr' a n ↔ Lv S L cl fr a n ∧ a ≠ e.a) → Kept L' x.st st' →
      ∀ e' ∈ l.eraseIdx i, ∀ o, e'.a ≤ o → o < e'.a + e'.n → st'.M o = x.st.M o := fun k8' inL' hlv' hk e' he' o h1 h2 => by
    obtain ⟨m1, m2⟩ := hem e' he'
    obtain ⟨b, hb, b1, b2, _⟩ := lv_in k8' inL' ((hlv' _ _).2 ⟨(B.mem e'.a e'.n).2 ⟨e', m1, rfl, rfl⟩, m2⟩)
    exact hk.2 b hb o (by omega) (by generalize b.1 + 2 ^ b.2 = z at b2 ⊢; omega)
  refine ⟨_, cell_l B0 1, ?_⟩
  rcases hlv with ⟨q, k, hL, hS, ea, en⟩ | ⟨q, j, hS, hj, hnj, ea, en⟩
  · -- whole pages
    have al := I.w.al hL
    have o8 := I.w.ok.m.o8
    simp only [] at al
    have h8 := pow8 (show k ≤ 8 by omega)
    have hp2 := Nat.two_pow_pos k
    have hpm := List.perm_cons_erase hL
    have eadr : c.base + (e.a : Int) = adr c q := by rw [ea]; unfold adr; omega
    refine iF (decide_eq_false (by omega)) fun J11 hJ11 L15 hL15 => ?_
    have fin : J11 [gptr wb, .pointer (some ⟨bx, 0, none⟩), .int .i64 (k : Int)] h0 := by
      refine hJ11 _ _ _ _ ⟨_, rfl, _, w_c3 (J0.at 1), _, cell_l0 (J0.at 0), ?_⟩
      rw [eadr]
      refine backX I (J0.at 1) hpm hS fun x1 h1 I1 M1 S1 => ⟨_, rfl, fun J13 hJ13 => qT rfl ⟨_, rfl, _, w_c3 S1.p, _, cell_l0 ((J0.step 1 S1).at 0), ?_⟩⟩
      have J1 := J0.step 1 S1
      have nd := List.nodup_cons.1 (hpm.nodup_iff.1 I.w.nd)
      refine backXN ua I1 (J1.at 1) (fun b hb hSb ⟨h1, h2⟩ => ?_) fun h2 S2 => ⟨_, rfl, hJ13 _ _ ?_⟩
      · rw [eadr] at h1
        have : q = b.1 := adr_inj h1
        have h2 : k = b.2 := by omega
        have : b = (q, k) := by cases b; simp_all
        rw [this] at hb
        exact nd.1 hb
      have J2 := J1.step 1 S2
      have hd := lv_back I hS hpm
      rw [← ea] at hd
      exact hK x1 hp S _ _ fr pl h2 I1 (B.del hi B.lv hd) M1.n M1.o M1.k.1 (keep I1.k8 I1.inL hd M1.k) (J2.one 1)
    -- the order is told
    have loop : ∀ (dd y : Nat), y + dd = k → L15 [gptr wb, .pointer (some ⟨bx, 0, none⟩), .int .i64 (y : Int)] h0 := by
      intro dd
      induction dd with
      | zero =>
        intro y hy
        have hy : y = k := by omega
        subst hy
        refine hL15 _ _ _ _ ⟨by rw [wU (by unfold U64; omega)]; omega, _, cell_l B0 1, iF ?_ fin⟩
        rw [wU (z := (y : Int)) (by unfold U64; omega), Int.toNat_natCast, show min y (IntKind.bits .i64) = y from Nat.min_eq_left (by show y ≤ 64; omega), wI (z := (e.n : Int)) (by unfold bd63; omega), en]
        have e2 : (4096 : Int) * 2 ^ y = ((4096 * 2 ^ y : Nat) : Int) := by simp
        rw [e2, wI (by unfold bd63; omega)]
        exact eq_b rfl
      | succ dd ih =>
        intro y hy
        have hlt : 2 ^ y < 2 ^ k := Nat.pow_lt_pow_right (by omega) (by omega)
        refine hL15 _ _ _ _ ⟨by rw [wU (by unfold U64; omega)]; omega, _, cell_l B0 1, iT ?_ ?_⟩
        · rw [wU (z := (y : Int)) (by unfold U64; omega), Int.toNat_natCast, show min y (IntKind.bits .i64) = y from Nat.min_eq_left (by show y ≤ 64; omega), wI (z := (e.n : Int)) (by unfold bd63; omega), en]
          have e2 : (4096 : Int) * 2 ^ y = ((4096 * 2 ^ y : Nat) : Int) := by simp
          rw [e2, wI (by unfold bd63; omega)]
          exact ne_b (by omega)
        · rw [show IntKind.wrap .i64 ((y : Int) + 1) = ((y + 1 : Nat) : Int) by rw [IntKind.wrap_i64]; omega]
          exact ih (y + 1) (by omega)
    exact loop k 0 (by omega)
  · -- a cell
    have hk := I.k8 q hS
    have hin := cell_in hk hj
    have hw := wdt_pos (cl q)
    have hw2 := cnt_wdt hk
    have eadr : c.base + (e.a : Int) = adr c q + ((j * wdt (cl q) : Nat) : Int) := by rw [ea]; exact adr_off c q _
    have e1 : IntKind.wrap .u64 (c.base + (e.a : Int) + 1) = c.base + (e.a : Int) + 1 := wU (by unfold U64; omega)
    refine iT (decide_eq_true (by omega)) ⟨_, rfl, _, w_c4 (J0.at 1), _, cell_l0 B0, _, cell_l B0 1, ?_⟩
    refine sizeX ua I (TT.at J0 1) (J0.at 1) (fun hn => absurd eadr (hn q j hS hj hnj)) fun q1 j1 hS1 hj1 hn1 ea1 h1 u1 => ⟨_, rfl, ?_⟩
    have eq1 : cl q1 = cl q := by
      have := cell_at (q := q1) (q' := q) (I.k8 q1 hS1) hk hj1 hj (by unfold adr at *; omega)
      rw [this.1]
    have J1 := J0.quiet u1
    refine ⟨cell_l (J1.at 0) 1, fun J3 hJ3 => qT (by rw [eq1, en]; simp) ⟨_, rfl, _, w_c4 (J1.at 1), _, cell_l0 (J1.at 0), ?_⟩⟩
    rw [e1]
    have no1 : ∀ q' j', c.base + (e.a : Int) + 1 ≠ adr c q' + ((j' * wdt (cl q') : Nat) : Int) := fun q' j' he => by
      have m1 := mod16 (c := c) (q := q) (j := j) (k := cl q)
      have m2 := mod16 (c := c) (q := q') (j := j') (k := cl q')
      omega
    refine giveX (by unfold U64; omega) I (TT.at J1 1) (J1.at 1) (fun _ h2 S2 => ⟨_, rfl, hJ3 _ _ fun J4 hJ4 => qT rfl ?_⟩) (fun q' j' _ _ _ he => absurd he (no1 q' j')) (fun q' j' _ _ _ _ he => absurd he (no1 q' j'))
    have J2 := J1.step 1 S2
    refine ⟨_, rfl, _, w_c4 (J2.at 1), _, cell_l0 (J2.at 0), ?_⟩
    -- behind it
    have after : ∀ (x1 : BU) (hp1 : Nat → Int) (S1 : Nat → Prop) (fl1 : Nat → List Nat) (L1 : List PBk) (fr1 pl1 : Nat → List Nat) (h3 : Heap), SI c x1 hp1 S1 fl1 L1 cl fr1 pl1 → (∀ a n, Lv S1 L1 cl fr1 a n ↔ Lv S L cl fr a n ∧ a ≠ e.a) → (∀ q, S1 q → (fr1 q).length < cnt (cl q)) → x1.m.n = x.m.n → x1.m.o = x.m.o → x1.st.n = x.st.n →
        (∀ e' ∈ l.eraseIdx i, ∀ o, e'.a ≤ o → o < e'.a + e'.n → x1.st.M o = x.st.M o) → Stp h2 h3 (w7R c wb d Q x hp) (w7R c wb d Q x1 hp1) → ∀ J5 : Bool → Heap → Prop, (∀ (b49 : Bool) (h49 : Heap), (∀ J6 : Bool → Heap → Prop, (∀ (b59 : Bool) (h59 : Heap), K (.bool b59) h59 → J6 b59 h59) → (b49 = true → (∃ a52 : Addr, ((some ⟨wb, 0, none⟩ : Option Addr)) = some a52 ∧ (∃ n54 : Option Addr, cellAt h49 (a52.add 4) = some (.pointer n54) ∧ (∃ n56 : Int, cellAt h49 (⟨bx, 0, none⟩ : Addr) = some (.int .u64 n56) ∧ (CallV Tryd.prog w₀ F.slab_Slab_Size [.pointer n54, .int .u64 n56] h49 fun (v57 : Value) (h57 : Heap) => ∃ r57 : Int, v57 = (.int .u64 r57) ∧ J6 (r57 == (0 : Int)) h57))))) ∧ (b49 = (!true) → J6 false h49)) → J5 b49 h49) →
        ∃ a42 : Addr, ((some ⟨wb, 0, none⟩ : Option Addr)) = some a42 ∧ (∃ n44 : Option Addr, cellAt h3 (a42.add 4) = some (.pointer n44) ∧ (∃ n46 : Int, cellAt h3 (⟨bx, 0, none⟩ : Addr) = some (.int .u64 n46) ∧ (CallV Tryd.prog w₀ F.slab_Slab_Give [.pointer n44, .int .u64 n46] h3 fun (v47 : Value) (h47 : Heap) => ∃ r47 : Int, v47 = (.int .i64 r47) ∧ J5 (r47 == (1 : Int)) h47))) := by
      intro x1 hp1 S1 fl1 L1 fr1 pl1 h3 I1 hlv1 lv1 en1 eo1 es1 hM1 S3 J5 hJ5
      have J3 := J2.step 1 S3
      have no2 : ∀ q' j', S1 q' → j' < cnt (cl q') → j' ∉ fr1 q' → c.base + (e.a : Int) ≠ adr c q' + ((j' * wdt (cl q') : Nat) : Int) := fun q' j' hS' hj' hn' he => by
        have := ((hlv1 (4096 * q' + j' * wdt (cl q')) (wdt (cl q'))).1 (.inr ⟨q', j', hS', hj', hn', rfl, rfl⟩)).2
        rw [← adr_off] at he
        omega
      refine ⟨_, rfl, _, w_c4 (J3.at 1), _, cell_l0 (J3.at 0), ?_⟩
      refine giveX ua I1 (TT.at J3 1) (J3.at 1) (fun _ h4 S4 => ⟨_, rfl, hJ5 _ _ fun J6 hJ6 => qT rfl ?_⟩) (fun q' j' a1 a2 a3 he => absurd he (no2 q' j' a1 a2 a3)) (fun q' j' _ a1 a2 a3 he => absurd he (no2 q' j' a1 a2 a3))
      have J4 := J3.step 1 S4
      refine ⟨_, rfl, _, w_c4 (J4.at 1), _, cell_l0 (J4.at 0), ?_⟩
      refine sizeX ua I1 (TT.at J4 1) (J4.at 1) (fun _ h5 u5 => ⟨_, rfl, hJ6 _ _ ?_⟩) fun q' j' a1 a2 a3 he => absurd he (no2 q' j' a1 a2 a3)
      exact hK x1 hp1 S1 fl1 L1 fr1 pl1 h5 I1 (B.del hi lv1 hlv1) en1 eo1 es1 hM1 ((J4.quiet u5).one 1)
    refine giveX ua I (TT.at J2 1) (J2.at 1) (fun hn => absurd eadr (hn q j hS hj hnj)) (fun q' j' hS' hj' hn' he hlt x1 hp1 h3 I1 n1' o1' s1' hM S3 => ?_) (fun q' j' L' hS' hj' hn' he hle hL x1 hp1 h3 I1 n1' o1' hkp S3 => ?_)
    · obtain ⟨rfl, hjj⟩ := cell_at (q := q') (q' := q) (I.k8 q' hS') hk hj' hj (by unfold adr at *; omega)
      have := mul_w hjj
      subst this
      have hd := lv_give I hS hj'
      rw [← ea] at hd
      refine ⟨_, rfl, hJ4 _ _ fun J5 hJ5 => qT rfl (after x1 hp1 _ _ _ _ _ h3 I1 hd (fun r hr => ?_) n1' o1' s1' (fun e' he' o h1 h2 => hM o fun hc => ?_) S3 J5 hJ5)⟩
      · by_cases er : r = q'
        · subst er; rw [fset_same]; simpa using hlt
        · rw [fset_ne _ _ er]; exact B.lv r hr
      · obtain ⟨m1, m2⟩ := hem e' he'
        have := lv_dj I ((B.mem e'.a e'.n).2 ⟨e', m1, rfl, rfl⟩) (.inr ⟨q', j', hS', hj', hn', ea, en⟩) m2
        omega
    · obtain ⟨rfl, hjj⟩ := cell_at (q := q') (q' := q) (I.k8 q' hS') hk hj' hj (by unfold adr at *; omega)
      have := mul_w hjj
      subst this
      have hd := lv_last I hS hj' hn' hle hL
      rw [← ea] at hd
      refine ⟨_, rfl, hJ4 _ _ fun J5 hJ5 => qT rfl (after x1 hp1 _ _ _ _ _ h3 I1 hd (fun r hr => ?_) n1' o1' hkp.1 (keep (fun p hp => I.k8 p hp.1) I1.inL hd hkp) S3 J5 hJ5)⟩
      rw [fset_ne _ _ hr.2]; exact B.lv r hr.1
end
end Go.Proofs.YteemmpkhdllapaaDoor
