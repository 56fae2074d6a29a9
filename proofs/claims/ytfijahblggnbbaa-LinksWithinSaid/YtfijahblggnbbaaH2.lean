/- Slices that own their blocks, and what append, make, a cut leave of them. No condition. -/
import Derived.Test.YtfijahblggnbbaaH1
import Derived.Laws.Append
set_option linter.unusedSimpArgs false
set_option linter.unusedVariables false
namespace Go.V

/-- A slice of n elements of z cells, of room c, at the front of a block of its own. -/
def slR (p : Option Addr) (n c z : Nat) (f : Nat → Value) : Res := ⟨fun b => p = some ⟨b, 0, none⟩,
  fun h => n ≤ c ∧ ((p = none ∧ c = 0) ∨ ∃ b g, p = some ⟨b, 0, none⟩ ∧ Blk h b (c * z) g ∧ ∀ i, i < n * z → g i = f i),
  fun {h h' S} H hu hs => ⟨H.1, H.2.imp id fun ⟨b, g, e, B, hg⟩ => ⟨b, g, e, B.upd hu (hs b e), hg⟩⟩,
  fun {h} H b e => by
    rcases H.2 with ⟨e', _⟩ | ⟨b', g, e', B, _⟩
    · rw [e'] at e; cases e
    · rw [e'] at e; cases e; exact B.lt⟩

section
variable {h h' : Heap} {p : Option Addr} {n c z : Nat} {f g : Nat → Value}

theorem sl_nil (z : Nat) (f : Nat → Value) (h : Heap) : (slR none 0 0 z f).P h := ⟨Nat.le_refl _, .inl ⟨rfl, rfl⟩⟩

theorem sl_congr (H : (slR p n c z f).P h) (hf : ∀ i, i < n * z → f i = g i) : (slR p n c z g).P h :=
  ⟨H.1, H.2.imp id fun ⟨b, k, e, B, hg⟩ => ⟨b, k, e, B, fun i hi => by rw [hg i hi, hf i hi]⟩⟩

theorem sl_cell (H : (slR p n c z f).P h) {i : Nat} (hi : i < n * z) : ∃ b, p = some ⟨b, 0, none⟩ ∧ cellAt h ⟨b, i, none⟩ = some (f i) := by
  obtain ⟨hc, ⟨e, e0⟩ | ⟨b, g, e, B, hg⟩⟩ := H
  · have : n = 0 := by omega
    subst this; simp at hi
  · refine ⟨b, e, ?_⟩
    rw [B.cell (Nat.lt_of_lt_of_le hi (Nat.mul_le_mul_right z hc)), hg i hi]

theorem sl_some (H : (slR p n c z f).P h) (hn : 0 < n) : ∃ b g, p = some ⟨b, 0, none⟩ ∧ Blk h b (c * z) g ∧ n ≤ c ∧ ∀ i, i < n * z → g i = f i := by
  obtain ⟨hc, ⟨e, e0⟩ | ⟨b, g, e, B, hg⟩⟩ := H
  · omega
  · exact ⟨b, g, e, B, hc, hg⟩

theorem sl_row (H : (slR p n c z f).P h) : Row h p (n * z) f := by
  rcases Nat.eq_zero_or_pos (n * z) with h0 | h0
  · exact .inl h0
  · obtain ⟨b, g, e, B, hc, hg⟩ := sl_some H (Nat.pos_of_ne_zero fun e => by subst e; simp at h0)
    exact .inr ⟨b, 0, e, fun i hi => by rw [Nat.zero_add, B.cell (Nat.lt_of_lt_of_le hi (Nat.mul_le_mul_right z hc)), hg i hi]⟩

/-- Its cells set from one on. -/
theorem sl_sets (H : (slR p n c z f).P h) (o : Nat) (vs : List Value) (ho : o + vs.length ≤ n * z) (hv : 0 < vs.length) : ∃ b, p = some ⟨b, 0, none⟩ ∧ WrN h ⟨b, o, none⟩ vs.length ∧
    Stp h (setCs h ⟨b, o, none⟩ 0 vs) (slR p n c z f) (slR p n c z fun i => if o ≤ i ∧ i < o + vs.length then vs.getD (i - o) undef else f i) := by
  have hn : 0 < n := by
    rcases Nat.eq_zero_or_pos n with e | e
    · rw [e, Nat.zero_mul] at ho; omega
    · exact e
  obtain ⟨b, g, e, B, hc, hg⟩ := sl_some H hn
  have hcz := Nat.mul_le_mul_right z hc
  refine ⟨b, e, fun j hj => by rw [add_mk]; exact B.wr (by omega), (setCs_upd vs h ⟨b, o, none⟩ 0).mono fun x hx _ => by rw [hx]; exact e, ⟨hc, .inr ⟨b, _, e, B.sets vs o 0, fun i hi => ?_⟩⟩, fun x hx => .inl hx⟩
  simp only [Nat.add_zero]
  split
  · rfl
  · exact hg i hi

theorem sl_set (H : (slR p n c z f).P h) {o : Nat} (ho : o < n * z) (v : Value) : ∃ b, p = some ⟨b, 0, none⟩ ∧ Wr h ⟨b, o, none⟩ ∧
    Stp h (setC h ⟨b, o, none⟩ v) (slR p n c z f) (slR p n c z fun i => if i = o then v else f i) := by
  have hn : 0 < n := by
    rcases Nat.eq_zero_or_pos n with e | e
    · rw [e, Nat.zero_mul] at ho; omega
    · exact e
  obtain ⟨b, g, e, B, hc, hg⟩ := sl_some H hn
  have hcz := Nat.mul_le_mul_right z hc
  refine ⟨b, e, B.wr (by omega), (setC_upd h ⟨b, o, none⟩ v).mono fun x hx _ => by rw [hx]; exact e, ⟨hc, .inr ⟨b, _, e, B.set o v, fun i hi => ?_⟩⟩, fun x hx => .inl hx⟩
  by_cases h1 : i = o
  · simp [h1]
  · simp [h1, hg i hi]

/-- Fewer of it: s[:m]. -/
theorem sl_take (H : (slR p n c z f).P h) {m : Nat} (hm : m ≤ n) : (slR p m c z f).P h :=
  ⟨Nat.le_trans hm H.1, H.2.imp id fun ⟨b, g, e, B, hg⟩ => ⟨b, g, e, B, fun i hi => hg i (Nat.lt_of_lt_of_le hi (Nat.mul_le_mul_right z hm))⟩⟩

theorem sl_front (H : (slR p n c z f).P h) {w : Nat} {k : Int} (hk : k = 0) : (if c = Int.toNat k then p else Option.map (fun b => Addr.add b (Int.toNat k * w)) p) = p := by
  subst hk
  obtain ⟨hc, ⟨e, e0⟩ | ⟨b, g, e, B, hg⟩⟩ := H
  · rw [e]; simp
  · rw [e]; simp

/-- make([]T, n, c). -/
theorem sl_make (h : Heap) (zs : List Value) (T : TypeId) (n c : Nat) (hc : n ≤ c) : New h (h.push (.cells (List.toArray (zrow zs c)) T)) (slR (some ⟨h.size, 0, none⟩) n c zs.length fun i => zs.getD (i % zs.length) undef) := by
  refine ⟨push_upd _ _ _, ⟨hc, .inr ⟨h.size, fun i => zs.getD (i % zs.length) undef, rfl, Blk.new' _ _ _ _ _ (by simp [zrow_length]) fun j hj => ?_, fun i hi => rfl⟩⟩, fun b e => ?_⟩
  · rw [List.getElem?_toArray, zrow_get _ _ _ hj]
    have : 0 < zs.length := by
      rcases Nat.eq_zero_or_pos zs.length with e | e
      · rw [e] at hj; simp at hj
      · exact e
    have := Nat.mod_lt j this
    simp [List.getD, this]
  · have e : some (⟨h.size, 0, none⟩ : Addr) = some ⟨b, 0, none⟩ := e
    simp at e; omega

/-- A literal []T{..}. -/
theorem sl_lit (h : Heap) (arr : Array Value) (T : TypeId) (n z : Nat) (hn : n * z = arr.size) : New h (h.push (.cells arr T)) (slR (some ⟨h.size, 0, none⟩) n n z fun i => arr.getD i undef) := by
  refine ⟨push_upd _ _ _, ⟨Nat.le_refl _, .inr ⟨h.size, fun i => arr.getD i undef, rfl, by rw [hn]; exact Blk.new h arr T, fun i hi => rfl⟩⟩, fun b e => ?_⟩
  have e : some (⟨h.size, 0, none⟩ : Addr) = some ⟨b, 0, none⟩ := e
  simp at e; omega

theorem blk_list (h : Heap) (l : List Value) (T : TypeId) (n : Nat) (hn : l.length = n) : Blk (h.push (.cells l.toArray T)) h.size n (fun i => l.getD i undef) :=
  Blk.new' _ _ _ _ _ (by simpa using hn) fun j hj => by
    rw [List.getElem?_toArray, List.getD_eq_getElem?_getD]
    rw [List.getElem?_eq_getElem (by omega)]
    rfl

/-- append(s, x..). -/
theorem sl_app {zs xs : List Value} {q : Option Addr} {m b : Nat} {e : TypeId} (H : (slR p n c zs.length f).P h) (hz : 0 < zs.length) (hx : xs.length = m * zs.length) (hr : rowAt h q xs) (ho : ∀ v ∈ xs, oneC v = true)
    (hb : 2 * (n + m) * b ≤ 2 ^ 48) :
    ∃ os, AppPre h p n c q m zs.length b os xs ∧ ∀ (p' : Option Addr) (c' : Nat) (h' : Heap), AppRes h p n c m zs e os xs p' c' h' →
      Stp h h' (slR p n c zs.length f) (slR p' (n + m) c' zs.length fun i => if i < n * zs.length then f i else xs.getD (i - n * zs.length) undef) := by
  have hmz : (n + m) * zs.length = n * zs.length + m * zs.length := Nat.add_mul _ _ _
  refine ⟨lst (n * zs.length) f, ⟨by simp, (sl_row H).rowAt, hx, hr, fun hc => ⟨ho, fun a ha => ?_⟩, fun hc => ?_⟩, fun p' c' h' hres => ?_⟩
  · obtain ⟨hnc, ⟨e1, e0⟩ | ⟨b', g, e1, B, hg⟩⟩ := H
    · rw [e1] at ha; cases ha
    · rw [e1] at ha; cases ha
      intro j hj
      rw [add_mk, add_mk]
      refine B.wr ?_
      have := Nat.mul_le_mul_right zs.length hc
      omega
  · exact Nat.le_trans (Nat.mul_le_mul_right b (nextslicecap_le hc)) hb
  · rcases hres with ⟨r1, rfl, rfl, rfl⟩ | ⟨r1, r2, rfl, rfl⟩
    · rcases Nat.eq_zero_or_pos m with hm0 | hm0
      · subst hm0
        have : xs = [] := List.length_eq_zero_iff.1 (by omega)
        subst this
        have e : wrH h (p'.map (·.add (n * zs.length))) [] = h := by cases p' <;> rfl
        rw [e]
        exact ⟨Upd.refl _ _, sl_congr H fun i hi => by rw [if_pos (by omega)], fun _ e => .inl e⟩
      · obtain ⟨hnc, ⟨e1, e0⟩ | ⟨b', g, e1, B, hg⟩⟩ := H
        · omega
        · subst e1
          have e : wrH h (Option.map (fun x : Addr => x.add (n * zs.length)) (some ⟨b', 0, none⟩)) xs = setCs h ⟨b', n * zs.length, none⟩ 0 xs := by
            simp [wrH]
          rw [e]
          refine ⟨(setCs_upd xs h _ 0).mono fun x hx' _ => by rw [hx']; rfl, ⟨r1, .inr ⟨b', _, rfl, B.sets xs (n * zs.length) 0, fun i hi => ?_⟩⟩, fun _ e => .inl e⟩
          simp only [Nat.add_zero]
          by_cases h1 : i < n * zs.length
          · rw [if_neg (by omega), if_pos h1, hg i h1]
          · rw [if_pos (by omega), if_neg h1]
    · refine ⟨push_upd _ _ _, ⟨r2, .inr ⟨h.size, fun i => (lst (n * zs.length) f ++ xs ++ zrow zs (c' - (n + m))).getD i undef, rfl, ?_, fun i hi => ?_⟩⟩, fun x hx' => .inr ?_⟩
      · refine blk_list _ _ _ _ ?_
        simp only [List.length_append, lst_length, zrow_length, hx]
        rw [← hmz, ← Nat.add_mul]; congr 1; omega
      · show List.getD _ i undef = (if i < n * zs.length then f i else xs.getD (i - n * zs.length) undef)
        by_cases h1 : i < n * zs.length
        · rw [if_pos h1, List.getD_eq_getElem?_getD, List.append_assoc, List.getElem?_append_left (by simpa using h1), lst_get h1]; rfl
        · rw [if_neg h1, List.getD_eq_getElem?_getD, List.append_assoc, List.getElem?_append_right (by simp; omega), List.getElem?_append_left (by simp; omega), lst_length, List.getD_eq_getElem?_getD]
      · have hx' : some (⟨h.size, 0, none⟩ : Addr) = some ⟨x, 0, none⟩ := hx'
        simp at hx'; omega

/-- append(s, make([]T, m)..). -/
theorem sl_appZ {zs : List Value} {m : Nat} {b : Nat} {e : TypeId} (H : (slR p n c zs.length f).P h) (hz : 0 < zs.length) (hm : 0 < m) (ho : ∀ v ∈ zs, oneC v = true) (hb : 2 * (n + m) * b ≤ 2 ^ 48) (hb0 : 0 < b) :
    ∃ os, AppZPre h p n c (m : Int) zs b os ∧ ∀ (p' : Option Addr) (c' : Nat) (h' : Heap), AppRes h p n c (Int.toNat (m : Int)) zs e os (zrow zs (Int.toNat (m : Int))) p' c' h' →
      Stp h h' (slR p n c zs.length f) (slR p' (n + m) c' zs.length fun i => if i < n * zs.length then f i else zs.getD ((i - n * zs.length) % zs.length) undef) := by
  have hmz : (n + m) * zs.length = n * zs.length + m * zs.length := Nat.add_mul _ _ _
  have hb1 : 2 * (n + m) ≤ 2 * (n + m) * b := Nat.le_mul_of_pos_right _ hb0
  have hmb : m * b ≤ 2 * (n + m) * b := Nat.mul_le_mul_right b (by omega)
  rw [Int.toNat_natCast]
  have hone : ∀ v ∈ zrow zs m, oneC v = true := by
    intro v hv
    obtain ⟨l, hl, hvl⟩ := List.mem_flatten.1 hv
    rw [(List.mem_replicate.1 hl).2] at hvl
    exact ho v hvl
  -- the cells that are added, as a row of their own
  have key := fun (q : Option Addr) (hr : rowAt h q (zrow zs m)) => sl_app (e := e) (q := q) (xs := zrow zs m) H hz (by rw [zrow_length]) hr hone hb
  refine ⟨lst (n * zs.length) f, ⟨by simp, (sl_row H).rowAt, by omega, by norm_cast; omega, ho, fun hc a ha => ?_, fun hc => ⟨by rw [Int.toNat_natCast]; omega, ?_⟩⟩, fun p' c' h' hres => ?_⟩
  · rw [Int.toNat_natCast] at hc
    obtain ⟨hnc, ⟨e1, e0⟩ | ⟨b', g, e1, B, hg⟩⟩ := H
    · rw [e1] at ha; cases ha
    · rw [e1] at ha; cases ha
      intro j hj
      rw [Int.toNat_natCast] at hj
      rw [add_mk, add_mk]
      refine B.wr ?_
      have := Nat.mul_le_mul_right zs.length hc
      omega
  · rw [Int.toNat_natCast] at hc ⊢
    exact Nat.le_trans (Nat.mul_le_mul_right b (nextslicecap_le hc)) hb
  · have fin : ∀ i, i < (n + m) * zs.length → (if i < n * zs.length then f i else (zrow zs m).getD (i - n * zs.length) undef) = (if i < n * zs.length then f i else zs.getD ((i - n * zs.length) % zs.length) undef) := by
      intro i hi
      split
      · rfl
      · rw [List.getD_eq_getElem?_getD, zrow_get _ _ _ (by omega), List.getD_eq_getElem?_getD]
    rcases hres with ⟨r1, rfl, rfl, rfl⟩ | ⟨r1, r2, rfl, rfl⟩
    · obtain ⟨hnc, ⟨e1, e0⟩ | ⟨b', g, e1, B, hg⟩⟩ := H
      · omega
      · subst e1
        have e : wrH h (Option.map (fun x : Addr => x.add (n * zs.length)) (some ⟨b', 0, none⟩)) (zrow zs m) = setCs h ⟨b', n * zs.length, none⟩ 0 (zrow zs m) := by
          simp [wrH]
        rw [e]
        refine ⟨(setCs_upd _ h _ 0).mono fun x hx' _ => by rw [hx']; rfl, ⟨r1, .inr ⟨b', _, rfl, B.sets (zrow zs m) (n * zs.length) 0, fun i hi => ?_⟩⟩, fun _ e => .inl e⟩
        simp only [Nat.add_zero]
        refine Eq.trans ?_ (fin i hi)
        rw [zrow_length]
        by_cases h1 : i < n * zs.length
        · rw [if_neg (by omega), if_pos h1, hg i h1]
        · rw [if_pos (by omega), if_neg h1]
    · refine ⟨push_upd _ _ _, ⟨r2, .inr ⟨h.size, fun i => (lst (n * zs.length) f ++ zrow zs m ++ zrow zs (c' - (n + m))).getD i undef, rfl, ?_, fun i hi => ?_⟩⟩, fun x hx' => .inr ?_⟩
      · refine blk_list _ _ _ _ ?_
        simp only [List.length_append, lst_length, zrow_length]
        rw [← hmz, ← Nat.add_mul]; congr 1; omega
      · refine Eq.trans ?_ (fin i hi)
        show List.getD _ i undef = _
        by_cases h1 : i < n * zs.length
        · rw [if_pos h1, List.getD_eq_getElem?_getD, List.append_assoc, List.getElem?_append_left (by simpa using h1), lst_get h1]; rfl
        · rw [if_neg h1, List.getD_eq_getElem?_getD, List.append_assoc, List.getElem?_append_right (by simp; omega), List.getElem?_append_left (by simp [zrow_length]; omega), lst_length, List.getD_eq_getElem?_getD]
      · have hx' : some (⟨h.size, 0, none⟩ : Addr) = some ⟨x, 0, none⟩ := hx'
        simp at hx'; omega

theorem New.of_stp {R R' : Res} (S : Stp h h' R R') (hn : ∀ b, ¬ R.fp b) : New h h' R' := ⟨S.u.mono fun b e _ => hn b e, S.p, fun b e => (S.g b e).elim (fun e => absurd e (hn b)) id⟩

theorem sl_nil_fp {z : Nat} {f : Nat → Value} (b : Nat) : ¬ (slR none 0 0 z f).fp b := fun e => by cases (show none = some _ from e)

theorem row1 (h : Heap) (v : Value) (T : TypeId) : rowAt (h.push (.cells #[v] T)) (some ⟨h.size, 0, none⟩) [v] := by
  intro j u hj
  cases j with
  | zero => simp at hj; subst hj; rw [add_mk, cellAt_new]; rfl
  | succ j => simp at hj

/-- append(s, v) of one cell, v in a box that is new. -/
theorem sl_app1 {zs : List Value} {v : Value} {b : Nat} {e T : TypeId} (H : (slR p n c zs.length f).P h) (hz : zs.length = 1) (ho : oneC v = true) (hb : 2 * (n + 1) * b ≤ 2 ^ 48) :
    ∃ os, AppPre (h.push (.cells #[v] T)) p n c (some ⟨h.size, 0, none⟩) 1 1 b os [v] ∧ ∀ (p' : Option Addr) (c' : Nat) (h' : Heap), AppRes (h.push (.cells #[v] T)) p n c 1 zs e os [v] p' c' h' →
      Stp h h' (slR p n c 1 f) (slR p' (n + 1) c' 1 fun i => if i = n then v else f i) := by
  have u : Upd (fun _ => False) h (h.push (.cells #[v] T)) := push_upd _ _ _
  have H' := (slR p n c zs.length f).st H u fun _ _ => id
  obtain ⟨os, h1, h2⟩ := sl_app (e := e) (b := b) (m := 1) (xs := [v]) H' (by omega) (by simp [hz]) (row1 h v T) (by simpa using ho) hb
  rw [hz] at h1 h2 H
  refine ⟨os, h1, fun p' c' h' hr => ?_⟩
  have S := h2 p' c' h' hr
  refine ((Stp.quiet H u).trans S).conv (fun P => sl_congr P fun i hi => ?_) fun _ e => e
  rw [Nat.mul_one] at *
  by_cases h3 : i < n
  · have : i ≠ n := by omega
    simp [h3, this]
  · have : i = n := by omega
    subst this; simp

/-- A thing behind a row of things. -/
theorem Hold.snoc {h0 : Heap} {rs : List Res} {k : Nat} {R : Nat → Res} (H : Hold h0 h (R k :: allR k R :: rs)) : Hold h0 h (allR (k + 1) R :: rs) := by
  refine H.join.as 0 (R := andR (R k) (allR k R)) (R' := allR (k + 1) R) (fun P => allR_snoc P.2.1 P.1 fun b e e' => P.2.2 b e e') ?_
  rintro b ⟨i, hi, e⟩
  rcases Nat.lt_or_ge i k with hl | hl
  · exact Or.inr ⟨i, hl, e⟩
  · have : i = k := by omega
    subst this; exact Or.inl e

theorem Hold.swap {h0 : Heap} {rs : List Res} {A B : Res} (H : Hold h0 h (A :: B :: rs)) : Hold h0 h (B :: A :: rs) := H.perm (.swap _ _ _)
theorem Hold.swap2 {h0 : Heap} {rs : List Res} {A B C : Res} (H : Hold h0 h (A :: B :: C :: rs)) : Hold h0 h (A :: C :: B :: rs) := H.perm (.cons _ (.swap _ _ _))
theorem Hold.front3 {h0 : Heap} {rs : List Res} {A B C : Res} (H : Hold h0 h (A :: B :: C :: rs)) : Hold h0 h (C :: A :: B :: rs) := H.swap2.swap
theorem Hold.front4 {h0 : Heap} {rs : List Res} {A B C D : Res} (H : Hold h0 h (A :: B :: C :: D :: rs)) : Hold h0 h (D :: A :: B :: C :: rs) := (H.perm (.cons _ (.cons _ (.swap _ _ _)))).front3

theorem Hold.swap3 {h0 : Heap} {rs : List Res} {A B C D : Res} (H : Hold h0 h (A :: B :: C :: D :: rs)) : Hold h0 h (A :: B :: D :: C :: rs) := H.perm (.cons _ (.cons _ (.swap _ _ _)))
theorem Hold.back4 {h0 : Heap} {rs : List Res} {A B C D : Res} (H : Hold h0 h (D :: A :: B :: C :: rs)) : Hold h0 h (A :: B :: C :: D :: rs) := H.swap.swap2.swap3

theorem Hold.toNew {R : Res} (H : Hold h h' [R]) : New h h' R := ⟨H.u, H.at 0, fun b e => H.ge R (by simp) b e⟩

theorem allR_zero (R : Nat → Res) : (allR 0 R).P h := ⟨fun k hk => absurd hk (by omega), fun i hi => absurd hi (by omega)⟩

end
end Go.V
