/- croftlaw5: the book of live blocks: meets, stuck, without. No condition. -/
import Derived.Test.YtippbfnhgooepaaBJ
import Derived.Test.YtippbfnhgooepaaM2
set_option linter.unusedSimpArgs false
set_option linter.unusedVariables false
namespace Go.Proofs.Ytippbfnhgooepaa
open Go.V Classical

structure Bk where
  p : Nat
  k : Nat
  m : Int

def bk0 : Bk := ⟨0, 0, 0⟩
def bkC (b : Bk) (j : Nat) : Value := if j = 0 then .int .i64 (b.p : Int) else if j = 1 then .int .i64 (b.k : Int) else .int .u8 b.m
def bkV (l : List Bk) : Nat → Value := fun i => bkC (l.getD (i / 3) bk0) (i % 3)
def bkL (b : Bk) : List Value := [.int .i64 (b.p : Int), .int .i64 (b.k : Int), .int .u8 b.m]
def rowL (l : List Bk) : List Value := (List.range (l.length * 3)).map (bkV l)
abbrev Bk.b (b : Bk) : PBk := (b.p, b.k)
abbrev lvB (l : List Bk) : List PBk := l.map Bk.b

def meetsB (l : List Bk) (p k : Nat) : Bool := l.any fun b => decide (b.p < p + 2 ^ k) && decide (p < b.p + 2 ^ b.k)

theorem bkV_at (l : List Bk) (i : Nat) : bkV l (i * 3) = .int .i64 ((l.getD i bk0).p : Int) ∧ bkV l (i * 3 + 1) = .int .i64 ((l.getD i bk0).k : Int) ∧ bkV l (i * 3 + 2) = .int .u8 (l.getD i bk0).m := by
  unfold bkV
  rw [show i * 3 / 3 = i by omega, show (i * 3 + 1) / 3 = i by omega, show (i * 3 + 2) / 3 = i by omega, show i * 3 % 3 = 0 by omega, show (i * 3 + 1) % 3 = 1 by omega, show (i * 3 + 2) % 3 = 2 by omega]
  exact ⟨rfl, rfl, rfl⟩

theorem bkC_L (b : Bk) {j : Nat} (hj : j < 3) : (bkL b).getD j undef = bkC b j := by
  have : j = 0 ∨ j = 1 ∨ j = 2 := by omega
  rcases this with rfl | rfl | rfl <;> rfl

theorem bkV_snoc (l : List Bk) (e : Bk) {i : Nat} (hi : i < (l.length + 1) * 3) : (if i < l.length * 3 then bkV l i else (bkL e).getD (i - l.length * 3) undef) = bkV (l ++ [e]) i := by
  unfold bkV
  split
  · rename_i h
    rw [List.getD_eq_getElem?_getD, List.getD_eq_getElem?_getD, List.getElem?_append_left (by omega)]
  · rename_i h
    have h1 : i / 3 = l.length := by omega
    have h2 : (l ++ [e]).getD l.length bk0 = e := by simp
    rw [h1, h2, bkC_L _ (by omega)]
    congr 1
    omega

theorem rowL_len (l : List Bk) : (rowL l).length = l.length * 3 := by simp [rowL]
theorem rowL_get (l : List Bk) {j : Nat} (hj : j < l.length * 3) : (rowL l)[j]? = some (bkV l j) := by
  unfold rowL
  rw [List.getElem?_map, List.getElem?_range hj]; rfl

section
variable {w₀ : World} {h : Heap} {K : Value → Heap → Prop} {l : List Bk} {sp : Option Addr} {cap : Nat}

theorem row_bk {hx : Heap} (R : Row h sp (l.length * 3) (bkV l)) (u : Upd NoB h hx) {i : Nat} (hi : i < l.length) : ∃ a, sp = some a ∧ cellAt hx (a.add (Int.toNat (i : Int) * 3)) = some (.int .i64 ((l.getD i bk0).p : Int)) ∧
    cellAt hx ((a.add (Int.toNat (i : Int) * 3)).add 1) = some (.int .i64 ((l.getD i bk0).k : Int)) ∧ cellAt hx ((a.add (Int.toNat (i : Int) * 3)).add 2) = some (.int .u8 (l.getD i bk0).m) := by
  obtain ⟨v0, v1, v2⟩ := bkV_at l i
  rcases R with e | ⟨b, off, rfl, R⟩
  · omega
  · refine ⟨_, rfl, ?_, ?_, ?_⟩
    · rw [add_mk, Int.toNat_natCast, cellAt_upd (R (i * 3) (by omega)) u fun e => e, v0]
    · rw [add_mk, add_mk, Int.toNat_natCast, Nat.add_assoc, cellAt_upd (R (i * 3 + 1) (by omega)) u fun e => e, v1]
    · rw [add_mk, add_mk, Int.toNat_natCast, Nat.add_assoc, cellAt_upd (R (i * 3 + 2) (by omega)) u fun e => e, v2]

theorem row_f3 {bx : Nat} {b : Bk} (B : (blkR bx 3 (f3 (.int .i64 (b.p : Int)) (.int .i64 (b.k : Int)) (.int .u8 b.m))).P h) : Go.V.rowAt h (some ⟨bx, 0, none⟩) (bkL b) := by
  intro j v hj
  have hl : j < 3 := (List.getElem?_eq_some_iff.1 hj).1
  have := Blk.cell (i := j) B hl
  show cellAt h ((⟨bx, 0, none⟩ : Addr).add j) = some v
  rw [add_mk, Nat.zero_add, this, ← hj]
  have : j = 0 ∨ j = 1 ∨ j = 2 := by omega
  rcases this with rfl | rfl | rfl <;> rfl

theorem box1 (h : Heap) (v : Value) (T : TypeId) : New h (h.push (.cells #[v] T)) (blkR h.size 1 fun _ => v) :=
  (New.box h #[v] T).conv (fun P => Blk.congr P fun i hi => by
    have hi : i < 1 := hi
    have : i = 0 := by omega
    subst this; rfl) fun _ e => e

theorem f1_set {b : Nat} {v : Value} (B : (blkR b 1 fun _ => v).P h) (v' : Value) : Wr h ⟨b, 0, none⟩ ∧ Stp h (setC h ⟨b, 0, none⟩ v') (blkR b 1 fun _ => v) (blkR b 1 fun _ => v') :=
  ⟨Blk.wr (i := 0) B (by omega), Stp.set B 0 v' fun j hj => by rw [if_pos (by omega)]⟩

theorem f1_cell {b : Nat} {v : Value} (B : (blkR b 1 fun _ => v).P h) : cellAt h ⟨b, 0, none⟩ = some v := Blk.cell (i := 0) B (by omega)

abbrev bkv (sp : Option Addr) (n cap : Nat) : Value := .agg #[.slice sp n cap]

/-- Each stretch of an order is met. -/
def Stuck (l : List Bk) (P k : Nat) : Prop := ∀ i, i * 2 ^ k < P → meetsB l (i * 2 ^ k) k = true

theorem erase_step (l : List Bk) (i j : Nat) (hj : j < l.length) : (l.take (j + 1)).eraseIdx i = if j = i then (l.take j).eraseIdx i else (l.take j).eraseIdx i ++ [l.getD j bk0] := by
  have htk : l.take (j + 1) = l.take j ++ [l.getD j bk0] := by
    rw [List.take_add_one, List.getD_eq_getElem?_getD, List.getElem?_eq_getElem (by omega)]; rfl
  have hlen : (l.take j).length = j := by simp; omega
  split
  · rename_i e
    subst e
    rw [htk, List.eraseIdx_append_of_length_le (by omega), List.eraseIdx_of_length_le (by omega : (l.take j).length ≤ j), hlen, Nat.sub_self]
    simp
  · rename_i e
    rcases Nat.lt_or_ge i j with h1 | h1
    · rw [htk, List.eraseIdx_append_of_lt_length (by omega)]
    · rw [List.eraseIdx_of_length_le (by simp; omega), List.eraseIdx_of_length_le (by omega), htk]

end
end Go.Proofs.Ytippbfnhgooepaa
