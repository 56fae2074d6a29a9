/- pagemap: what a map is in the heap; pages as values. No condition. -/
import Derived.Test.YtnplkinakaepdaaP2
set_option linter.unusedSimpArgs false
set_option linter.unusedVariables false
namespace Go.Proofs.Ytnplkinakaepdaa
open Go.V Classical

/-- No block. -/
abbrev NoB : Nat → Prop := fun _ => False

def pcl (j : Nat) (v : Int) : Value := if j < 7 then .int .i64 v else .int .u64 v

abbrev pgL (P : Nat → Int) : List Value := [.int .i64 (P 0), .int .i64 (P 1), .int .i64 (P 2), .int .i64 (P 3), .int .i64 (P 4), .int .i64 (P 5), .int .i64 (P 6), .int .u64 (P 7), .int .u64 (P 8), .int .u64 (P 9), .int .u64 (P 10)]
abbrev pgv (P : Nat → Int) : Value := .agg #[.int .i64 (P 0), .int .i64 (P 1), .int .i64 (P 2), .int .i64 (P 3), .int .i64 (P 4), .int .i64 (P 5), .int .i64 (P 6), .int .u64 (P 7), .int .u64 (P 8), .int .u64 (P 9), .int .u64 (P 10)]
abbrev zpO : Obj := .cells #[(.int .i64 (0 : Int)), (.int .i64 (0 : Int)), (.int .i64 (0 : Int)), (.int .i64 (0 : Int)), (.int .i64 (0 : Int)), (.int .i64 (0 : Int)), (.int .i64 (0 : Int)), (.int .u64 (0 : Int)), (.int .u64 (0 : Int)), (.int .u64 (0 : Int)), (.int .u64 (0 : Int))] T.T_api_Page (0, 0)
abbrev zpL : List Value := [(.int .i64 (0 : Int)), (.int .i64 (0 : Int)), (.int .i64 (0 : Int)), (.int .i64 (0 : Int)), (.int .i64 (0 : Int)), (.int .i64 (0 : Int)), (.int .i64 (0 : Int)), (.int .u64 (0 : Int)), (.int .u64 (0 : Int)), (.int .u64 (0 : Int)), (.int .u64 (0 : Int))]

theorem lt11 {j : Nat} (hj : j < 11) : j = 0 ∨ j = 1 ∨ j = 2 ∨ j = 3 ∨ j = 4 ∨ j = 5 ∨ j = 6 ∨ j = 7 ∨ j = 8 ∨ j = 9 ∨ j = 10 := by omega

theorem pgL_get (P : Nat → Int) {j : Nat} (hj : j < 11) : (pgL P)[j]? = some (pcl j (P j)) := by
  rcases lt11 hj with rfl | rfl | rfl | rfl | rfl | rfl | rfl | rfl | rfl | rfl | rfl <;> rfl

theorem pgL_getD (P : Nat → Int) {j : Nat} (hj : j < 11) (d : Value) : (pgL P).getD j d = pcl j (P j) := by rw [List.getD_eq_getElem?_getD, pgL_get P hj]; rfl

theorem pgL_one (P : Nat → Int) : ∀ v ∈ pgL P, oneC v = true := by
  intro v hv
  obtain ⟨j, hj, e⟩ := List.mem_iff_getElem.1 hv
  have hj : j < 11 := hj
  rcases lt11 hj with rfl | rfl | rfl | rfl | rfl | rfl | rfl | rfl | rfl | rfl | rfl <;> (subst e; rfl)

theorem ld_page {h : Heap} {b o : Nat} {P : Nat → Int} (H : ∀ j, j < 11 → cellAt h ⟨b, o + j, none⟩ = some (pcl j (P j)))
    {X : Int → Int → Int → Int → Int → Int → Int → Int → Int → Int → Int → Prop} (x : X (P 0) (P 1) (P 2) (P 3) (P 4) (P 5) (P 6) (P 7) (P 8) (P 9) (P 10)) : LD_api_Page h ⟨b, o, none⟩ X := by
  unfold LD_api_Page
  simp only [add_mk]
  exact ⟨_, H 0 (by omega), _, H 1 (by omega), _, H 2 (by omega), _, H 3 (by omega), _, H 4 (by omega), _, H 5 (by omega), _, H 6 (by omega), _, H 7 (by omega), _, H 8 (by omega), _, H 9 (by omega), _, H 10 (by omega), x⟩

/-- A page in a box. -/
def pgR (b : Nat) (P : Nat → Int) : Res := blkR b 11 fun j => pcl j (P j)

theorem pgR_ld {h : Heap} {b : Nat} {P : Nat → Int} (H : (pgR b P).P h) {X : Int → Int → Int → Int → Int → Int → Int → Int → Int → Int → Int → Prop} (x : X (P 0) (P 1) (P 2) (P 3) (P 4) (P 5) (P 6) (P 7) (P 8) (P 9) (P 10)) :
    LD_api_Page h ⟨b, 0, none⟩ X := ld_page (fun j hj => by rw [Nat.zero_add]; exact Blk.cell (f := fun j => pcl j (P j)) H hj) x

theorem pg_new (h : Heap) (P : Nat → Int) : New h (h.push (.cells (pgL P).toArray T.T_api_Page)) (pgR h.size P) :=
  ⟨push_upd _ _ _, Blk.new' _ _ _ _ _ rfl fun j hj => by rw [List.getElem?_toArray]; exact pgL_get P hj, fun b e => Nat.le_of_eq (Eq.symm e)⟩

theorem pg_zero (h : Heap) : New h (h.push zpO) (pgR h.size fun _ => 0) := pg_new h fun _ => 0

theorem pg_set {h : Heap} {b : Nat} {P : Nat → Int} (Q : Nat → Int) (H : (pgR b P).P h) : WrN h ⟨b, 0, none⟩ 11 ∧ Stp h (setCs h ⟨b, 0, none⟩ 0 (pgL Q)) (pgR b P) (pgR b Q) := by
  have B : Blk h b 11 _ := H
  refine ⟨fun j hj => by rw [add_mk]; exact B.wr (by omega), Stp.sets B _ 0 0 fun j hj => ?_⟩
  have hl : (pgL Q).length = 11 := rfl
  rw [if_pos (by rw [hl]; omega), Nat.add_zero, Nat.sub_zero]
  exact pgL_getD Q hj _

theorem pg_lay (h : Heap) (P : Nat → Int) : WrN (h.push zpO) ⟨h.size, 0, none⟩ 11 ∧ New h (setCs (h.push zpO) ⟨h.size, 0, none⟩ 0 (pgL P)) (pgR h.size P) :=
  let A := pg_zero h
  let B := pg_set P A.p
  ⟨B.1, A.stp B.2⟩

theorem pg_set1 {h : Heap} {b : Nat} {P : Nat → Int} (H : (pgR b P).P h) {i : Nat} (hi : i < 11) (v : Int) : Wr h ⟨b, i, none⟩ ∧ Stp h (setC h ⟨b, i, none⟩ (pcl i v)) (pgR b P) (pgR b fun j => if j = i then v else P j) := by
  have B : Blk h b 11 _ := H
  refine ⟨B.wr hi, Stp.set B i _ fun j hj => ?_⟩
  by_cases h1 : j = i
  · subst h1; simp
  · simp [h1]

theorem eq_page (P Q : Nat → Int) : EQ_api_Page (P 0) (P 1) (P 2) (P 3) (P 4) (P 5) (P 6) (P 7) (P 8) (P 9) (P 10) (Q 0) (Q 1) (Q 2) (Q 3) (Q 4) (Q 5) (Q 6) (Q 7) (Q 8) (Q 9) (Q 10) = decide (∀ j, j < 11 → P j = Q j) := by
  rw [Bool.eq_iff_iff]
  unfold EQ_api_Page
  simp only [Bool.and_eq_true, beq_iff_eq, decide_eq_true_eq, and_true]
  constructor
  · rintro ⟨h0, h1, h2, h3, h4, h5, h6, h7, h8, h9, h10⟩ j hj
    rcases lt11 hj with rfl | rfl | rfl | rfl | rfl | rfl | rfl | rfl | rfl | rfl | rfl <;> assumption
  · intro H
    exact ⟨H 0 (by omega), H 1 (by omega), H 2 (by omega), H 3 (by omega), H 4 (by omega), H 5 (by omega), H 6 (by omega), H 7 (by omega), H 8 (by omega), H 9 (by omega), H 10 (by omega)⟩

/-! ### Maps -/
/-- A row of pages, cell by cell. -/
def pgF (pg : Nat → Nat → Int) : Nat → Value := fun x => pcl (x % 11) (pg (x / 11) (x % 11))

theorem pgF_at (pg : Nat → Nat → Int) {i j : Nat} (hj : j < 11) : pgF pg (i * 11 + j) = pcl j (pg i j) := by
  unfold pgF
  rw [show (i * 11 + j) % 11 = j by omega, show (i * 11 + j) / 11 = i by omega]

/-- Where a map's parts are. -/
structure MW where
  gp : Option Addr
  gc : Nat
  qp : Option Addr
  qc : Nat
  sb : Nat → Nat
  sw : Nat → Nat

/-- What a map is: its order, how many pages, the pages, the pair bits. -/
structure MS where
  o : Nat
  n : Nat
  pg : Nat → Nat → Int
  bt : Nat → Nat → Bool

def mapF (o n : Nat) (w : MW) : Nat → Value
  | 0 => .int .i64 o
  | 1 => .slice w.gp n w.gc
  | _ => .slice w.qp o w.qc

def mapQ (mb o n : Nat) (pg : Nat → Nat → Int) (w : MW) (ns : Nat → Nat) (bt : Nat → Nat → Bool) : Res :=
  andR (blkR mb 3 (mapF o n w)) (andR (slR w.gp n w.gc 11 (pgF pg)) (andR (slR w.qp o w.qc 1 fun k => .pointer (some ⟨w.sb k, 0, none⟩)) (allR o fun k => setR (w.sb k) (w.sw k) (ns k) (bt k))))

def mapR (mb : Nat) (s : MS) (w : MW) : Res := mapQ mb s.o s.n s.pg w (fun k => s.n / 2 ^ (k + 1)) s.bt

/-- A page's numbers are in their kinds; its order and class may be. -/
structure PgT (P : Nat → Int) : Prop where
  i : ∀ j, j < 7 → -9223372036854775808 ≤ P j ∧ P j ≤ 9223372036854775807
  u : ∀ j, j < 11 → 7 ≤ j → 0 ≤ P j ∧ P j < 18446744073709551616
  o : 0 ≤ P 1 ∧ P 1 ≤ 8
  c : 0 ≤ P 2 ∧ P 2 ≤ 7

structure MS.Ok (s : MS) : Prop where
  o8 : s.o ≤ 8
  n1 : s.n ≤ 1024
  al : s.n % 2 ^ s.o = 0
  bi : ∀ k i, k < s.o → s.bt k i = true → i < s.n / 2 ^ (k + 1)
  pg : ∀ i, i < s.n → PgT (s.pg i)

theorem npair {n : Nat} (hn : n ≤ 1024) (k : Nat) : n / 2 ^ (k + 1) ≤ 1048576 := Nat.le_trans (Nat.div_le_self _ _) (by omega)

section
variable {w₀ : World} {h : Heap} {mb o n : Nat} {pg : Nat → Nat → Int} {w : MW} {ns : Nat → Nat} {bt : Nat → Nat → Bool} {s : MS} {K : Value → Heap → Prop}

theorem mq_o (H : (mapQ mb o n pg w ns bt).P h) : cellAt h ⟨mb, 0, none⟩ = some (.int .i64 o) := Blk.cell (i := 0) H.1 (by omega)
theorem mq_g (H : (mapQ mb o n pg w ns bt).P h) : cellAt h ⟨mb, 1, none⟩ = some (.slice w.gp n w.gc) := Blk.cell (i := 1) H.1 (by omega)
theorem mq_q (H : (mapQ mb o n pg w ns bt).P h) : cellAt h ⟨mb, 2, none⟩ = some (.slice w.qp o w.qc) := Blk.cell (i := 2) H.1 (by omega)
theorem mq_pages (H : (mapQ mb o n pg w ns bt).P h) : (slR w.gp n w.gc 11 (pgF pg)).P h := H.2.1.1
theorem mq_pairs (H : (mapQ mb o n pg w ns bt).P h) : (slR w.qp o w.qc 1 fun k => .pointer (some ⟨w.sb k, 0, none⟩)).P h := H.2.1.2.1.1
theorem mq_sets (H : (mapQ mb o n pg w ns bt).P h) : (allR o fun k => setR (w.sb k) (w.sw k) (ns k) (bt k)).P h := H.2.1.2.1.2.1
theorem mq_set (H : (mapQ mb o n pg w ns bt).P h) {k : Nat} (hk : k < o) : (setR (w.sb k) (w.sw k) (ns k) (bt k)).P h := (mq_sets H).1 k hk
theorem mq_pair (H : (mapQ mb o n pg w ns bt).P h) {k : Nat} (hk : k < o) : ∃ b, w.qp = some ⟨b, 0, none⟩ ∧ cellAt h ⟨b, k, none⟩ = some (.pointer (some ⟨w.sb k, 0, none⟩)) := sl_cell (mq_pairs H) (by omega)
theorem mq_page (H : (mapQ mb o n pg w ns bt).P h) {i : Nat} (hi : i < n) : ∃ b, w.gp = some ⟨b, 0, none⟩ ∧ ∀ j, j < 11 → cellAt h ⟨b, i * 11 + j, none⟩ = some (pcl j (pg i j)) := by
  obtain ⟨b, g, e, B, hc, hg⟩ := sl_some (mq_pages H) (by omega)
  have hcz := Nat.mul_le_mul_right 11 hc
  refine ⟨b, e, fun j hj => ?_⟩
  rw [B.cell (by omega), hg _ (by omega), pgF_at _ hj]

theorem stp_head {h' : Heap} {f : Nat → Value} {o' n' : Nat} (H : (mapQ mb o n pg w ns bt).P h) (S : Stp h h' (blkR mb 3 (mapF o n w)) (blkR mb 3 f)) :
    Stp h h' (mapQ mb o n pg w ns bt) (andR (blkR mb 3 f) (andR (slR w.gp n w.gc 11 (pgF pg)) (andR (slR w.qp o w.qc 1 fun k => .pointer (some ⟨w.sb k, 0, none⟩)) (allR o fun k => setR (w.sb k) (w.sw k) (ns k) (bt k))))) := Stp.left S H

theorem stp_pages {h' : Heap} {R : Res} (H : (mapQ mb o n pg w ns bt).P h) (S : Stp h h' (slR w.gp n w.gc 11 (pgF pg)) R) :
    Stp h h' (mapQ mb o n pg w ns bt) (andR (blkR mb 3 (mapF o n w)) (andR R (andR (slR w.qp o w.qc 1 fun k => .pointer (some ⟨w.sb k, 0, none⟩)) (allR o fun k => setR (w.sb k) (w.sw k) (ns k) (bt k))))) := Stp.right (Stp.left S H.2.1) H

theorem stp_sets {h' : Heap} {R : Res} (H : (mapQ mb o n pg w ns bt).P h) (S : Stp h h' (allR o fun k => setR (w.sb k) (w.sw k) (ns k) (bt k)) R) :
    Stp h h' (mapQ mb o n pg w ns bt) (andR (blkR mb 3 (mapF o n w)) (andR (slR w.gp n w.gc 11 (pgF pg)) (andR (slR w.qp o w.qc 1 fun k => .pointer (some ⟨w.sb k, 0, none⟩)) R))) := Stp.right (Stp.right (Stp.right S H.2.1.2.1) H.2.1) H

/-- One page written anew. -/
theorem stp_page {i : Nat} (hi : i < n) (Q : Nat → Int) (H : (mapQ mb o n pg w ns bt).P h) : ∃ b, w.gp = some ⟨b, 0, none⟩ ∧ WrN h ⟨b, i * 11, none⟩ 11 ∧
    Stp h (setCs h ⟨b, i * 11, none⟩ 0 (pgL Q)) (mapQ mb o n pg w ns bt) (mapQ mb o n (fun x => if x = i then Q else pg x) w ns bt) := by
  obtain ⟨b, e, hw, S⟩ := sl_sets (mq_pages H) (i * 11) (pgL Q) (by show i * 11 + 11 ≤ n * 11; omega) (by show 0 < 11; omega)
  refine ⟨b, e, hw, stp_pages H (S.conv (fun P => sl_congr P fun x hx => ?_) fun _ e => e)⟩
  have hl : (pgL Q).length = 11 := rfl
  rw [hl]
  split
  · rename_i hx'
    obtain ⟨j, hj, rfl⟩ : ∃ j, j < 11 ∧ x = i * 11 + j := ⟨x - i * 11, by omega, by omega⟩
    rw [pgF_at _ hj, if_pos rfl, show i * 11 + j - i * 11 = j by omega]
    exact pgL_getD Q hj _
  · unfold pgF
    have : x / 11 ≠ i := by omega
    simp only [this, if_false]

/-- One number of a page set. -/
theorem stp_cell {i j : Nat} (hi : i < n) (hj : j < 11) (v : Int) (H : (mapQ mb o n pg w ns bt).P h) : ∃ b, w.gp = some ⟨b, 0, none⟩ ∧ Wr h ⟨b, i * 11 + j, none⟩ ∧
    Stp h (setC h ⟨b, i * 11 + j, none⟩ (pcl j v)) (mapQ mb o n pg w ns bt) (mapQ mb o n (fun x y => if x = i ∧ y = j then v else pg x y) w ns bt) := by
  obtain ⟨b, e, hw, S⟩ := sl_set (mq_pages H) (o := i * 11 + j) (by omega) (pcl j v)
  refine ⟨b, e, hw, stp_pages H (S.conv (fun P => sl_congr P fun x hx => ?_) fun _ e => e)⟩
  unfold pgF
  split
  · rename_i hx'
    subst hx'
    rw [show (i * 11 + j) % 11 = j by omega, show (i * 11 + j) / 11 = i by omega]
    simp
  · have : ¬ (x / 11 = i ∧ x % 11 = j) := by omega
    simp only [this, if_false]

/-- One set of pair bits changed. -/
theorem stp_set {h' : Heap} {k : Nat} {sw' n' : Nat} {f' : Nat → Bool} (hk : k < o) (H : (mapQ mb o n pg w ns bt).P h) (S : Stp h h' (setR (w.sb k) (w.sw k) (ns k) (bt k)) (setR (w.sb k) sw' n' f')) :
    Stp h h' (mapQ mb o n pg w ns bt) (mapQ mb o n pg { w with sw := fun i => if i = k then sw' else w.sw i } (fun i => if i = k then n' else ns i) (fun i => if i = k then f' else bt i)) := by
  refine stp_sets H (Stp.all' k hk S (mq_sets H) fun i hi => ?_)
  by_cases h1 : i = k
  · subst h1; simp
  · simp [h1]

theorem mapQ_congr {pg' : Nat → Nat → Int} {ns' : Nat → Nat} {bt' : Nat → Nat → Bool} (H : (mapQ mb o n pg w ns bt).P h) (hp : ∀ i, i < n → ∀ j, j < 11 → pg i j = pg' i j) (hn : ∀ k, k < o → ns k = ns' k) (hb : ∀ k, k < o → ∀ i, bt k i = bt' k i) :
    (mapQ mb o n pg' w ns' bt').P h := by
  have hs : ∀ k, k < o → setR (w.sb k) (w.sw k) (ns k) (bt k) = setR (w.sb k) (w.sw k) (ns' k) (bt' k) := fun k hk => by
    rw [hn k hk, show bt k = bt' k from funext (hb k hk)]
  obtain ⟨h1, ⟨h2, ⟨h3, h4, h5⟩, h6⟩, h7⟩ := H
  have fpe : ∀ b, (allR o fun k => setR (w.sb k) (w.sw k) (ns' k) (bt' k)).fp b → (allR o fun k => setR (w.sb k) (w.sw k) (ns k) (bt k)).fp b := fun b e => allR_fp hs b e
  refine ⟨h1, ⟨sl_congr h2 fun x hx => ?_, ⟨h3, allR_congr hs h4, fun b e e' => h5 b e (fpe b e')⟩, fun b e e' => h6 b e (e'.imp id (fpe b))⟩, fun b e e' => h7 b e (e'.imp id fun x => x.imp id (fpe b))⟩
  unfold pgF
  rw [hp (x / 11) (by omega) (x % 11) (by omega)]

theorem mapQ_fp {pg' : Nat → Nat → Int} {ns' : Nat → Nat} {bt' : Nat → Nat → Bool} {n' : Nat} : ∀ b, (mapQ mb o n' pg' w ns' bt').fp b → (mapQ mb o n pg w ns bt).fp b := fun _ e => e

end
end Go.Proofs.Ytnplkinakaepdaa
