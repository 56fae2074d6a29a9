/- croftlaw5: the book of live blocks: meets, stuck, without. No condition. -/
import Derived.Test.YtnlcmfdmbgnpfaaBJ
import Derived.Test.YtnlcmfdmbgnpfaaM2
set_option linter.unusedSimpArgs false
set_option linter.unusedVariables false
namespace Go.Proofs.Ytnlcmfdmbgnpfaa
open Go.V Classical

structure Bk where
  p : Nat
  k : Nat
  m : Int

def bk0 : Bk := ⟨0, 0, 0⟩
def bkC (b : Bk) (j : Nat) : Value := if j = 0 then .int .i64 (b.p : Int) else if j = 1 then .int .i64 (b.k : Int) else .int .u8 b.m
def bkV (l : List Bk) : Nat → Value := fun i => bkC (l.getD (i / 3) bk0) (i % 3)
def bkL (b : Bk) : List Value := [.int .i64 (b.p : Int), .int .i64 (b.k : Int), .int .u8 b.m]
def rowL (l : List Bk) : List Value := (List.range (l.length * 3)).map (bkV l)
abbrev Bk.b (b : Bk) : PBk := (b.p, b.k)
abbrev lvB (l : List Bk) : List PBk := l.map Bk.b

def meetsB (l : List Bk) (p k : Nat) : Bool := l.any fun b => decide (b.p < p + 2 ^ k) && decide (p < b.p + 2 ^ b.k)

theorem bkV_at (l : List Bk) (i : Nat) : bkV l (i * 3) = .int .i64 ((l.getD i bk0).p : Int) ∧ bkV l (i * 3 + 1) = .int .i64 ((l.getD i bk0).k : Int) ∧ bkV l (i * 3 + 2) = .int .u8 (l.getD i bk0).m := by
  unfold bkV
  rw [show i * 3 / 3 = i by omega, show (i * 3 + 1) / 3 = i by omega, show (i * 3 + 2) / 3 = i by omega, show i * 3 % 3 = 0 by omega, show (i * 3 + 1) % 3 = 1 by omega, show (i * 3 + 2) % 3 = 2 by omega]
  exact ⟨rfl, rfl, rfl⟩

theorem bkC_L (b : Bk) {j : Nat} (hj : j < 3) : (bkL b).getD j undef = bkC b j := by
  have : j = 0 ∨ j = 1 ∨ j = 2 := by omega
  rcases this with rfl | rfl | rfl <;> rfl

theorem bkV_snoc (l : List Bk) (e : Bk) {i : Nat} (hi : i < (l.length + 1) * 3) : (if i < l.length * 3 then bkV l i else (bkL e).getD (i - l.length * 3) undef) = bkV (l ++ [e]) i := by
  unfold bkV
  split
  · rename_i h
    rw [List.getD_eq_getElem?_getD, List.getD_eq_getElem?_getD, List.getElem?_append_left (by omega)]
  · rename_i h
    have h1 : i / 3 = l.length := by omega
    have h2 : (l ++ [e]).getD l.length bk0 = e := by simp
    rw [h1, h2, bkC_L _ (by omega)]
    congr 1
    omega

theorem rowL_len (l : List Bk) : (rowL l).length = l.length * 3 := by simp [rowL]
theorem rowL_get (l : List Bk) {j : Nat} (hj : j < l.length * 3) : (rowL l)[j]? = some (bkV l j) := by
  unfold rowL
  rw [List.getElem?_map, List.getElem?_range hj]; rfl

section
variable {w₀ : World} {h : Heap} {K : Value → Heap → Prop} {l : List Bk} {sp : Option Addr} {cap : Nat}

theorem row_bk {hx : Heap} (R : Row h sp (l.length * 3) (bkV l)) (u : Upd NoB h hx) {i : Nat} (hi : i < l.length) : ∃ a, sp = some a ∧ cellAt hx (a.add (Int.toNat (i : Int) * 3)) = some (.int .i64 ((l.getD i bk0).p : Int)) ∧
    cellAt hx ((a.add (Int.toNat (i : Int) * 3)).add 1) = some (.int .i64 ((l.getD i bk0).k : Int)) ∧ cellAt hx ((a.add (Int.toNat (i : Int) * 3)).add 2) = some (.int .u8 (l.getD i bk0).m) := by
  obtain ⟨v0, v1, v2⟩ := bkV_at l i
  rcases R with e | ⟨b, off, rfl, R⟩
  · omega
  · refine ⟨_, rfl, ?_, ?_, ?_⟩
    · rw [add_mk, Int.toNat_natCast, cellAt_upd (R (i * 3) (by omega)) u fun e => e, v0]
    · rw [add_mk, add_mk, Int.toNat_natCast, Nat.add_assoc, cellAt_upd (R (i * 3 + 1) (by omega)) u fun e => e, v1]
    · rw [add_mk, add_mk, Int.toNat_natCast, Nat.add_assoc, cellAt_upd (R (i * 3 + 2) (by omega)) u fun e => e, v2]

theorem copy_ok {c : Nat} {p : Option Addr} {f : Nat → Value} (hl : l.length ≤ 1073741824) (H : (slR p 0 c 3 f).P h) (R : Row h sp (l.length * 3) (bkV l)) :
    ∃ os, AppPre h p 0 c sp l.length 3 24 os (rowL l) ∧ ∀ (p' : Option Addr) (c' : Nat) (h' : Heap), AppRes h p 0 c l.length [.int .i64 0, .int .i64 0, .int .u8 0] T.T_croftlaw5_block os (rowL l) p' c' h' →
      Stp h h' (slR p 0 c 3 f) (slR p' l.length c' 3 (bkV l)) := by
  have hr : Go.V.rowAt h sp (rowL l) := by
    rcases R with e | ⟨b, off, rfl, R⟩
    · have el : rowL l = [] := List.eq_nil_of_length_eq_zero (by rw [rowL_len]; exact e)
      rw [el]
      cases sp with
      | none => rfl
      | some a => intro j v hj; cases hj
    · intro j v hj
      have hl : j < l.length * 3 := by rw [← rowL_len]; exact (List.getElem?_eq_some_iff.1 hj).1
      rw [rowL_get _ hl] at hj
      show cellAt h ((⟨b, off, none⟩ : Addr).add j) = some v
      rw [add_mk, R j hl, hj]
  obtain ⟨os, h1, h2⟩ := sl_app (zs := [.int .i64 0, .int .i64 0, .int .u8 0]) (e := T.T_croftlaw5_block) (b := 24) (m := l.length) (xs := rowL l) H (by decide) (by rw [rowL_len]; rfl) hr (fun v hv => by
    unfold rowL at hv
    obtain ⟨i, _, rfl⟩ := List.mem_map.1 hv
    unfold bkV bkC
    split
    · rfl
    · split <;> rfl) (by omega)
  refine ⟨os, h1, fun p' c' h' hres => (h2 p' c' h' hres).conv (fun P => ?_) fun _ e => e⟩
  have P : (slR p' (0 + l.length) c' 3 fun i => if i < 0 * 3 then f i else (rowL l).getD (i - 0 * 3) undef).P h' := P
  rw [Nat.zero_add] at P
  refine sl_congr P fun j hj => ?_
  show (if j < 0 * 3 then f j else (rowL l).getD (j - 0 * 3) undef) = bkV l j
  rw [if_neg (by omega), Nat.zero_mul, Nat.sub_zero, List.getD_eq_getElem?_getD, rowL_get _ hj]; rfl

theorem add_ok {n c : Nat} {p q : Option Addr} {b : Bk} (hn : n = l.length) (hl : l.length ≤ 1073741824) (H : (slR p l.length c 3 (bkV l)).P h) (hr : Go.V.rowAt h q (bkL b)) :
    ∃ os, AppPre h p n c q 1 3 24 os (bkL b) ∧ ∀ (p' : Option Addr) (c' : Nat) (h' : Heap), AppRes h p n c 1 [.int .i64 0, .int .i64 0, .int .u8 0] T.T_croftlaw5_block os (bkL b) p' c' h' →
      Stp h h' (slR p l.length c 3 (bkV l)) (slR p' (l.length + 1) c' 3 (bkV (l ++ [b]))) := by
  subst hn
  obtain ⟨os, h1, h2⟩ := sl_app (zs := [.int .i64 0, .int .i64 0, .int .u8 0]) (e := T.T_croftlaw5_block) (b := 24) (m := 1) (xs := bkL b) H (by decide) rfl hr (by simp [oneC, bkL]) (by omega)
  exact ⟨os, h1, fun p' c' h' hres => (h2 p' c' h' hres).conv (fun P => sl_congr P fun j hj => bkV_snoc l b hj) fun _ e => e⟩

theorem row_f3 {bx : Nat} {b : Bk} (B : (blkR bx 3 (f3 (.int .i64 (b.p : Int)) (.int .i64 (b.k : Int)) (.int .u8 b.m))).P h) : Go.V.rowAt h (some ⟨bx, 0, none⟩) (bkL b) := by
  intro j v hj
  have hl : j < 3 := (List.getElem?_eq_some_iff.1 hj).1
  have := Blk.cell (i := j) B hl
  show cellAt h ((⟨bx, 0, none⟩ : Addr).add j) = some v
  rw [add_mk, Nat.zero_add, this, ← hj]
  have : j = 0 ∨ j = 1 ∨ j = 2 := by omega
  rcases this with rfl | rfl | rfl <;> rfl

theorem box1 (h : Heap) (v : Value) (T : TypeId) : New h (h.push (.cells #[v] T)) (blkR h.size 1 fun _ => v) :=
  (New.box h #[v] T).conv (fun P => Blk.congr P fun i hi => by
    have hi : i < 1 := hi
    have : i = 0 := by omega
    subst this; rfl) fun _ e => e

theorem f1_set {b : Nat} {v : Value} (B : (blkR b 1 fun _ => v).P h) (v' : Value) : Wr h ⟨b, 0, none⟩ ∧ Stp h (setC h ⟨b, 0, none⟩ v') (blkR b 1 fun _ => v) (blkR b 1 fun _ => v') :=
  ⟨Blk.wr (i := 0) B (by omega), Stp.set B 0 v' fun j hj => by rw [if_pos (by omega)]⟩

theorem f1_cell {b : Nat} {v : Value} (B : (blkR b 1 fun _ => v).P h) : cellAt h ⟨b, 0, none⟩ = some v := Blk.cell (i := 0) B (by omega)

abbrev bkv (sp : Option Addr) (n cap : Nat) : Value := .agg #[.slice sp n cap]

theorem meets_ok {p k : Nat} (hl : l.length ≤ 1073741824) (R : Row h sp (l.length * 3) (bkV l)) (hb : ∀ b ∈ l, b.p ≤ 4096 ∧ b.k ≤ 8) (hp : p ≤ 4096) (hk : k ≤ 8) (hK : ∀ h', Upd NoB h h' → K (.bool (meetsB l p k)) h') :
    CallV Try.prog w₀ F.croftlaw5_book_meets [bkv sp l.length cap, .int .i64 (p : Int), .int .i64 (k : Int)] h K := by
  refine croftlaw5_book_meets.call ?_
  unfold croftlaw5_book_meets.vc
  have N1 := box1 h (.slice sp l.length cap) T.T_croftlaw5_book
  generalize Array.push h (.cells #[.slice sp l.length cap] T.T_croftlaw5_book) = h1 at N1 ⊢
  have hK := hK h1 N1.u
  have k0 := f1_cell N1.p
  intro J2 hJ2 L3 hL3
  have ew : IntKind.wrap .u64 (k : Int) = (k : Int) := by rw [IntKind.wrap_u64]; omega
  have h8 := pow8 hk
  have loop : ∀ (d i : Nat), i + d = l.length → (∀ j, j < i → ¬ ((l.getD j bk0).p < p + 2 ^ k ∧ p < (l.getD j bk0).p + 2 ^ (l.getD j bk0).k)) → L3 [.int .i64 (p : Int), .int .i64 (k : Int), .pointer (some ⟨h.size, 0, none⟩), .int .i64 (i : Int)] h1 := by
    intro d
    induction d with
    | zero =>
      intro i hi hno
      refine hL3 _ _ _ _ _ ⟨_, _, _, k0, iF (decide_eq_false (by omega)) (hJ2 _ ?_)⟩
      have e : meetsB l p k = false := by
        unfold meetsB
        rw [List.any_eq_false]
        intro b hbl
        obtain ⟨j, hj, rfl⟩ := List.mem_iff_getElem.1 hbl
        have := hno j (by omega)
        rw [List.getD_eq_getElem?_getD, List.getElem?_eq_getElem hj] at this
        simpa using this
      rw [e] at hK; exact hK
    | succ d ih =>
      intro i hi hno
      obtain ⟨a, e1, r1, r2, r3⟩ := row_bk R N1.u (i := i) (by omega)
      have hbi := hb (l.getD i bk0) (by rw [List.getD_eq_getElem?_getD, List.getElem?_eq_getElem (by omega)]; exact List.getElem_mem (by omega))
      have h8' := pow8 hbi.2
      have ew' : IntKind.wrap .u64 ((l.getD i bk0).k : Int) = ((l.getD i bk0).k : Int) := by rw [IntKind.wrap_u64]; omega
      have es : IntKind.wrap .i64 ((p : Int) + ((2 ^ k : Nat) : Int)) = ((p + 2 ^ k : Nat) : Int) := by rw [IntKind.wrap_i64]; omega
      have es' : IntKind.wrap .i64 (((l.getD i bk0).p : Int) + ((2 ^ (l.getD i bk0).k : Nat) : Int)) = (((l.getD i bk0).p + 2 ^ (l.getD i bk0).k : Nat) : Int) := by rw [IntKind.wrap_i64]; omega
      have hnext : ¬ ((l.getD i bk0).p < p + 2 ^ k ∧ p < (l.getD i bk0).p + 2 ^ (l.getD i bk0).k) → L3 [.int .i64 (p : Int), .int .i64 (k : Int), .pointer (some ⟨h.size, 0, none⟩), .int .i64 (IntKind.wrap .i64 ((i : Int) + 1))] h1 := fun hn => by
        rw [show IntKind.wrap .i64 ((i : Int) + 1) = ((i + 1 : Nat) : Int) by rw [IntKind.wrap_i64]; omega]
        refine ih (i + 1) (by omega) fun j hj => ?_
        rcases Nat.lt_or_ge j i with h1 | h1
        · exact hno j h1
        · have : j = i := by omega
          subst this; exact hn
      refine hL3 _ _ _ _ _ ⟨_, _, _, k0, iT (decide_eq_true (by omega)) ⟨_, _, _, k0, a, e1, by omega, by omega, _, r1, by rw [ew]; omega, fun J4 hJ4 => ?_⟩⟩
      rw [ew, shl1 hk, es]
      by_cases c1 : (l.getD i bk0).p < p + 2 ^ k
      · refine qT (decide_eq_true (by omega)) ⟨_, _, _, k0, a, e1, by omega, by omega, _, r1, _, _, _, k0, a, e1, by omega, by omega, _, r2, by rw [ew']; omega, hJ4 _ _ ?_⟩
        rw [ew', shl1 hbi.2, es']
        by_cases c2 : p < (l.getD i bk0).p + 2 ^ (l.getD i bk0).k
        · refine iT (decide_eq_true (by omega)) ?_
          have e : meetsB l p k = true := by
            unfold meetsB
            rw [List.any_eq_true]
            refine ⟨l.getD i bk0, by rw [List.getD_eq_getElem?_getD, List.getElem?_eq_getElem (by omega)]; exact List.getElem_mem (by omega), ?_⟩
            rw [decide_eq_true c1, decide_eq_true c2]; rfl
          rw [e] at hK; exact hK
        · exact iF (decide_eq_false (by omega)) (hnext fun hc => c2 hc.2)
      · exact qF' (decide_eq_false (by omega)) (hJ4 _ _ (iF rfl (hnext fun hc => c1 hc.1)))
  exact loop l.length 0 (by omega) fun j hj => by omega

/-- Each stretch of an order is met. -/
def Stuck (l : List Bk) (P k : Nat) : Prop := ∀ i, i * 2 ^ k < P → meetsB l (i * 2 ^ k) k = true

theorem stuck_ok {P k : Nat} (hl : l.length ≤ 1073741824) (R : Row h sp (l.length * 3) (bkV l)) (hb : ∀ b ∈ l, b.p ≤ 4096 ∧ b.k ≤ 8) (hP : P ≤ 1024) (hk : k ≤ 8) (hK : ∀ h', Upd NoB h h' → K (.bool (decide (Stuck l P k))) h') :
    CallV Try.prog w₀ F.croftlaw5_book_stuck [bkv sp l.length cap, .int .i64 (P : Int), .int .i64 (k : Int)] h K := by
  refine croftlaw5_book_stuck.call ?_
  unfold croftlaw5_book_stuck.vc
  have N1 := box1 h (.slice sp l.length cap) T.T_croftlaw5_book
  generalize Array.push h (.cells #[.slice sp l.length cap] T.T_croftlaw5_book) = h1 at N1 ⊢
  intro J2 hJ2 L3 hL3
  have ew : IntKind.wrap .u64 (k : Int) = (k : Int) := by rw [IntKind.wrap_u64]; omega
  have h8 := pow8 hk
  have loop : ∀ (d i : Nat) (hx : Heap), P ≤ i * 2 ^ k + d → Upd NoB h hx → (blkR h.size 1 fun _ => .slice sp l.length cap).P hx → i * 2 ^ k ≤ P + 256 → (∀ j, j < i → meetsB l (j * 2 ^ k) k = true) → L3 [.int .i64 (P : Int), .int .i64 (k : Int), .pointer (some ⟨h.size, 0, none⟩), .int .i64 ((i * 2 ^ k : Nat) : Int)] hx := by
    intro d
    induction d with
    | zero =>
      intro i hx hi u B hle hall
      refine hL3 _ _ _ _ _ (iF (decide_eq_false (by omega)) (hJ2 _ ?_))
      have : Stuck l P k := fun j hj => hall j (Nat.lt_of_mul_lt_mul_right (a := 2 ^ k) (by omega))
      have hK := hK hx u
      rw [decide_eq_true this] at hK
      exact hK
    | succ d ih =>
      intro i hx hi u B hle hall
      by_cases hlt : i * 2 ^ k < P
      · have k0 := f1_cell B
        refine hL3 _ _ _ _ _ (iT (decide_eq_true (by omega)) ⟨_, _, _, k0, meets_ok hl (R.upd u fun _ _ => id) hb (by omega) hk fun h3 u3 => ⟨_, rfl, ?_⟩⟩)
        cases hm : meetsB l (i * 2 ^ k) k with
        | false =>
          refine iT rfl ?_
          have : ¬ Stuck l P k := fun hs => by rw [hs i hlt] at hm; cases hm
          have hK := hK h3 (u.nx u3 fun _ e _ => e)
          rw [decide_eq_false this] at hK
          exact hK
        | true =>
          refine iF rfl ⟨by rw [ew]; omega, ?_⟩
          have es : IntKind.wrap .i64 (((i * 2 ^ k : Nat) : Int) + ((2 ^ k : Nat) : Int)) = (((i + 1) * 2 ^ k : Nat) : Int) := by rw [Nat.succ_mul, IntKind.wrap_i64]; omega
          rw [ew, shl1 hk, es]
          refine ih (i + 1) h3 (by rw [Nat.succ_mul]; omega) (u.nx u3 fun _ e _ => e) ((blkR h.size 1 _).st B u3 fun _ _ => id) (by rw [Nat.succ_mul]; omega) fun j hj => ?_
          rcases Nat.lt_or_ge j i with h1 | h1
          · exact hall j h1
          · have : j = i := by omega
            subst this; exact hm
      · refine hL3 _ _ _ _ _ (iF (decide_eq_false (by omega)) (hJ2 _ ?_))
        have : Stuck l P k := fun j hj => hall j (Nat.lt_of_mul_lt_mul_right (a := 2 ^ k) (by omega))
        have hK := hK hx u
        rw [decide_eq_true this] at hK
        exact hK
  have := loop P 0 h1 (by omega) N1.u N1.p (by omega) fun j hj => by omega
  rw [Nat.zero_mul] at this
  exact this

theorem erase_step (l : List Bk) (i j : Nat) (hj : j < l.length) : (l.take (j + 1)).eraseIdx i = if j = i then (l.take j).eraseIdx i else (l.take j).eraseIdx i ++ [l.getD j bk0] := by
  have htk : l.take (j + 1) = l.take j ++ [l.getD j bk0] := by
    rw [List.take_add_one, List.getD_eq_getElem?_getD, List.getElem?_eq_getElem (by omega)]; rfl
  have hlen : (l.take j).length = j := by simp; omega
  split
  · rename_i e
    subst e
    rw [htk, List.eraseIdx_append_of_length_le (by omega), List.eraseIdx_of_length_le (by omega : (l.take j).length ≤ j), hlen, Nat.sub_self]
    simp
  · rename_i e
    rcases Nat.lt_or_ge i j with h1 | h1
    · rw [htk, List.eraseIdx_append_of_lt_length (by omega)]
    · rw [List.eraseIdx_of_length_le (by simp; omega), List.eraseIdx_of_length_le (by omega), htk]

theorem without_ok {i : Nat} (hl : l.length ≤ 1073741824) (hi : i < l.length) (R : Row h sp (l.length * 3) (bkV l))
    (hK : ∀ h' p c, New h h' (slR p (l.eraseIdx i).length c 3 (bkV (l.eraseIdx i))) → K (bkv p (l.eraseIdx i).length c) h') :
    CallV Try.prog w₀ F.croftlaw5_book_without [bkv sp l.length cap, .int .i64 (i : Int)] h K := by
  refine croftlaw5_book_without.call ?_
  unfold croftlaw5_book_without.vc
  have N1 := box1 h (.slice sp l.length cap) T.T_croftlaw5_book
  generalize Array.push h (.cells #[.slice sp l.length cap] T.T_croftlaw5_book) = h1 at N1 ⊢
  have N2 := box1 h1 (.slice none 0 0) T.T_croftlaw5_book
  generalize Array.push h1 (.cells #[.slice none 0 0] T.T_croftlaw5_book) = h2 at N2 ⊢
  obtain ⟨b0, eb0⟩ : ∃ b0, b0 = h.size := ⟨_, rfl⟩
  obtain ⟨b1, eb1⟩ : ∃ b1, b1 = h1.size := ⟨_, rfl⟩
  rw [← eb0] at N1 ⊢
  rw [← eb1] at N2 ⊢
  intro J3 hJ3 L5 hL5
  have I0 : Hold h h2 [slR none ((l.take 0).eraseIdx i).length 0 3 (bkV ((l.take 0).eraseIdx i)), blkR b1 1 fun _ => .slice none 0 0, blkR b0 1 fun _ => .slice sp l.length cap] :=
    (((Hold.nil h).new N1).new N2).new ⟨Upd.refl _ _, by simpa using sl_nil _ _ _, fun b e => absurd e (sl_nil_fp b)⟩
  have key : ∀ (d j : Nat) (y : Option Addr) (cp : Nat) (hx : Heap), j + d = l.length → Hold h hx [slR y ((l.take j).eraseIdx i).length cp 3 (bkV ((l.take j).eraseIdx i)), blkR b1 1 fun _ => .slice none 0 0, blkR b0 1 fun _ => .slice sp l.length cap] →
      L5 [.int .i64 (i : Int), .pointer (some ⟨b0, 0, none⟩), .pointer (some ⟨b1, 0, none⟩), .slice y ((l.take j).eraseIdx i).length cp, .int .i64 (j : Int)] hx := by
    intro d
    induction d with
    | zero =>
      intro j y cp hx hj I
      have hj : j = l.length := by omega
      subst hj
      rw [List.take_length] at I ⊢
      refine hL5 _ _ _ _ _ _ _ _ ⟨_, _, _, f1_cell (I.at 2), iF (decide_eq_false (by omega)) (hJ3 _ _ _ _ _ ?_)⟩
      obtain ⟨w3, S3⟩ := f1_set (I.at 1) (.slice y (l.eraseIdx i).length cp)
      have I3 := I.step 1 S3
      refine ⟨w3, _, _, _, f1_cell (I3.at 1), hK _ y cp ?_⟩
      exact (I3.sub (rs' := [slR y (l.eraseIdx i).length cp 3 (bkV (l.eraseIdx i))]) (.cons_cons _ (.cons _ (.cons _ .slnil)))).toNew
    | succ d ih =>
      intro j y cp hx hj I
      obtain ⟨a, e1, r1, r2, r3⟩ := row_bk R I.u (i := j) (by omega)
      have es := erase_step l i j (by omega)
      have hwr : IntKind.wrap .i64 ((j : Int) + 1) = ((j + 1 : Nat) : Int) := by rw [IntKind.wrap_i64]; omega
      refine hL5 _ _ _ _ _ _ _ _ ⟨_, _, _, f1_cell (I.at 2), iT (decide_eq_true (by omega)) fun J6 hJ6 => ?_⟩
      by_cases hne : j = i
      · rw [if_pos hne] at es
        refine iF (eq_b (by omega)) (hJ6 _ _ _ _ _ _ _ _ ?_)
        rw [hwr]
        have := ih (j + 1) y cp hx (by omega) (by rw [es]; exact I)
        rw [es] at this
        exact this
      · rw [if_neg hne] at es
        refine iT (ne_b (by omega)) ⟨_, _, _, f1_cell (I.at 2), a, e1, by omega, by omega, _, r1, _, r2, _, r3, ?_⟩
        have hfl : ((l.take j).eraseIdx i).length ≤ l.length := Nat.le_trans (List.length_eraseIdx_le _ _) (by simp; omega)
        have N7 := box3 hx (.int .i64 ((l.getD j bk0).p : Int)) (.int .i64 ((l.getD j bk0).k : Int)) (.int .u8 (l.getD j bk0).m) T.T_croftlaw5_block
        generalize Array.push hx (.cells #[(.int .i64 ((l.getD j bk0).p : Int)), (.int .i64 ((l.getD j bk0).k : Int)), (.int .u8 (l.getD j bk0).m)] T.T_croftlaw5_block) = h7 at N7 ⊢
        have I7 := I.new N7
        obtain ⟨os, q1, q2⟩ := add_ok (l := (l.take j).eraseIdx i) rfl (by omega) (I7.at 1) (row_f3 (I7.at 0))
        refine ⟨os, _, q1, fun p' c' h29 hres => hJ6 _ _ _ _ _ _ _ _ ?_⟩
        have I8 := I7.step 1 (q2 p' c' h29 hres)
        rw [hwr]
        have := ih (j + 1) p' c' h29 (by omega) (by rw [es, List.length_append]; exact I8.drop)
        rw [es, List.length_append] at this
        exact this
  exact key l.length 0 none 0 h2 (by omega) I0
end
end Go.Proofs.Ytnlcmfdmbgnpfaa
