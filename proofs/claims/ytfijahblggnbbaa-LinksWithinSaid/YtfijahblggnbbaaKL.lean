/- croftlaw3: ranged: what lies in the heap while a range is gone over. No condition. -/
import Derived.Test.YtfijahblggnbbaaKJ
set_option linter.unusedSimpArgs false
set_option linter.unusedVariables false
set_option maxHeartbeats 1000000
namespace Go.Proofs.Ytfijahblggnbbaa
open Go.V Classical

abbrev cell1 (b : Nat) (v : Value) : Res := blkR b 1 fun _ => v

theorem cell1_get {h : Heap} {b : Nat} {v : Value} (P : (cell1 b v).P h) : cellAt h ⟨b, 0, none⟩ = some v := P.cell (i := 0) (by omega)
theorem cell1_wr {h : Heap} {b : Nat} {v : Value} (P : (cell1 b v).P h) : Wr h ⟨b, 0, none⟩ := P.wr (i := 0) (by omega)
theorem cell1_set {h : Heap} {b : Nat} {v : Value} (P : (cell1 b v).P h) (u : Value) : Stp h (setC h ⟨b, 0, none⟩ u) (cell1 b v) (cell1 b u) :=
  Stp.set P 0 u fun j hj => by rw [if_pos (by omega)]
theorem cell1_new (h : Heap) (v : Value) (T : TypeId) : New h (h.push (.cells #[v] T)) (cell1 h.size v) :=
  (New.box h #[v] T).conv (fun P => Blk.congr P fun j hj => by
    have hj : j < 1 := hj
    have : j = 0 := by omega
    subst this; rfl) fun _ e => e
theorem cell1_var (h : Heap) (z v : Value) (T : TypeId) : Wr (h.push (.cells #[z] T)) ⟨h.size, 0, none⟩ ∧ New h (setC (h.push (.cells #[z] T)) ⟨h.size, 0, none⟩ v) (cell1 h.size v) := by
  have N := cell1_new h z T
  exact ⟨cell1_wr N.p, N.stp (cell1_set N.p v)⟩

/-- The parameters and variables of a range under way. -/
structure RW where
  W : PW
  n0 : Nat
  L0 : Nat
  cb : Nat
  b6 : Nat
  b7 : Nat
  b9 : Nat
  b10 : Nat
  b11 : Nat
  b12 : Nat
  b13 : Nat
  bk : Nat
  bo : Nat
  bl : Nat
  p5 : Option Addr
  n : Nat
  cp : Nat

structure RS where
  σ : PS
  w : Wk
  k : Nat
  left : Bool

abbrev cbR (R : RW) : Res := cell1 R.cb (.pointer (some ⟨R.L0, 0, none⟩))
abbrev imR (R : RW) : Res := andR (cell1 R.b6 (.pointer (some ⟨R.W.s, 0, none⟩))) (andR (blkR R.b7 4 (dF R.W.c R.n0 R.W.mp R.W.mc)) (andR (cell1 R.b9 (.pointer (some ⟨R.W.bm, 0, none⟩))) (andR (cell1 R.b10 (.pointer (some ⟨R.W.bh, 0, none⟩))) (cell1 R.b11 (.slice R.p5 R.n R.cp)))))
abbrev muR (R : RW) (w : Wk) (k : Nat) (left res : Bool) : Res := andR (blkR R.b13 3 (f3 (.int .u64 w.p) (.int .u64 w.b) (.int .i64 w.left))) (andR (cell1 R.bk (.int .i64 ((k : Nat) : Int))) (andR (cell1 R.bo (.bool true)) (andR (cell1 R.bl (.bool left)) (cell1 R.b12 (.bool res)))))
abbrev mgR (R : RW) (Q : Res) (w : Wk) (k : Nat) (left res : Bool) : Res := andR Q (andR (imR R) (muR R w k left res))

/-- All that rounds may touch. -/
abbrev mR (R : RW) (x : RS) : Res := factR (x.σ.lb 0 = R.L0 ∧ x.σ.st.n = R.n0 ∧ U64 x.w.p ∧ 0 ≤ x.w.left ∧ x.w.left < 9223372036854775808) (mgR R (psR R.W x.σ) x.w x.k x.left false)

section
variable {R : RW} {Q Q' : Res} {w : Wk} {k : Nat} {left res : Bool} {h : Heap}

theorem mg_q (P : (mgR R Q w k left res).P h) {h' : Heap} (S : Stp h h' Q Q') : Stp h h' (mgR R Q w k left res) (mgR R Q' w k left res) := S.left P
theorem mg_w (P : (mgR R Q w k left res).P h) (w' : Wk) : WrN h ⟨R.b13, 0, none⟩ 3 ∧ Stp h (setCs h ⟨R.b13, 0, none⟩ 0 [.int .u64 w'.p, .int .u64 w'.b, .int .i64 w'.left]) (mgR R Q w k left res) (mgR R Q w' k left res) := by
  have B : Blk h R.b13 3 (f3 (.int .u64 w.p) (.int .u64 w.b) (.int .i64 w.left)) := P.2.1.2.1.1
  have S := Stp.sets B [.int .u64 w'.p, .int .u64 w'.b, .int .i64 w'.left] 0 0 (g := f3 (.int .u64 w'.p) (.int .u64 w'.b) (.int .i64 w'.left)) fun j hj => by
    rw [if_pos ⟨by omega, by simpa using hj⟩]
    have : j = 0 ∨ j = 1 ∨ j = 2 := by omega
    rcases this with rfl | rfl | rfl <;> rfl
  exact ⟨fun j hj => by rw [add_mk]; exact B.wr (by omega), ((S.left P.2.1.2.1).right P.2.1).right P⟩
theorem mg_k (P : (mgR R Q w k left res).P h) (k' : Nat) : Wr h ⟨R.bk, 0, none⟩ ∧ Stp h (setC h ⟨R.bk, 0, none⟩ (.int .i64 ((k' : Nat) : Int))) (mgR R Q w k left res) (mgR R Q w k' left res) :=
  ⟨cell1_wr P.2.1.2.1.2.1.1, ((((cell1_set P.2.1.2.1.2.1.1 _).left P.2.1.2.1.2.1).right P.2.1.2.1).right P.2.1).right P⟩
theorem mg_o (P : (mgR R Q w k left res).P h) : Wr h ⟨R.bo, 0, none⟩ ∧ Stp h (setC h ⟨R.bo, 0, none⟩ (.bool true)) (mgR R Q w k left res) (mgR R Q w k left res) :=
  ⟨cell1_wr P.2.1.2.1.2.1.2.1.1, (((((cell1_set P.2.1.2.1.2.1.2.1.1 _).left P.2.1.2.1.2.1.2.1).right P.2.1.2.1.2.1).right P.2.1.2.1).right P.2.1).right P⟩
theorem mg_l (P : (mgR R Q w k left res).P h) (l' : Bool) : Wr h ⟨R.bl, 0, none⟩ ∧ Stp h (setC h ⟨R.bl, 0, none⟩ (.bool l')) (mgR R Q w k left res) (mgR R Q w k l' res) :=
  ⟨cell1_wr P.2.1.2.1.2.1.2.1.2.1.1, ((((((cell1_set P.2.1.2.1.2.1.2.1.2.1.1 _).left P.2.1.2.1.2.1.2.1.2.1).right P.2.1.2.1.2.1.2.1).right P.2.1.2.1.2.1).right P.2.1.2.1).right P.2.1).right P⟩

theorem mg_6 (P : (mgR R Q w k left res).P h) : cellAt h ⟨R.b6, 0, none⟩ = some (.pointer (some ⟨R.W.s, 0, none⟩)) := cell1_get P.2.1.1.1
theorem mg_7 (P : (mgR R Q w k left res).P h) : cellAt h ⟨R.b7, 0, none⟩ = some (.int .u64 R.W.c.base) ∧ cellAt h ⟨R.b7, 1, none⟩ = some (.int .u64 (R.W.c.size : Int)) ∧ cellAt h ⟨R.b7, 2, none⟩ = some (.int .i64 R.W.c.limit) ∧ cellAt h ⟨R.b7, 3, none⟩ = some (.slice R.W.mp (R.n0 * R.W.c.size) R.W.mc) := f4_cells P.2.1.1.2.1.1
theorem mg_9 (P : (mgR R Q w k left res).P h) : cellAt h ⟨R.b9, 0, none⟩ = some (.pointer (some ⟨R.W.bm, 0, none⟩)) := cell1_get P.2.1.1.2.1.2.1.1
theorem mg_10 (P : (mgR R Q w k left res).P h) : cellAt h ⟨R.b10, 0, none⟩ = some (.pointer (some ⟨R.W.bh, 0, none⟩)) := cell1_get P.2.1.1.2.1.2.1.2.1.1
theorem mg_11 (P : (mgR R Q w k left res).P h) : cellAt h ⟨R.b11, 0, none⟩ = some (.slice R.p5 R.n R.cp) := cell1_get P.2.1.1.2.1.2.1.2.1.2.1
theorem mg_13 (P : (mgR R Q w k left res).P h) : cellAt h ⟨R.b13, 0, none⟩ = some (.int .u64 w.p) ∧ cellAt h ⟨R.b13, 1, none⟩ = some (.int .u64 w.b) ∧ cellAt h ⟨R.b13, 2, none⟩ = some (.int .i64 w.left) := f3_cells P.2.1.2.1.1
theorem mg_ck (P : (mgR R Q w k left res).P h) : cellAt h ⟨R.bk, 0, none⟩ = some (.int .i64 ((k : Nat) : Int)) := cell1_get P.2.1.2.1.2.1.1
theorem mg_co (P : (mgR R Q w k left res).P h) : cellAt h ⟨R.bo, 0, none⟩ = some (.bool true) := cell1_get P.2.1.2.1.2.1.2.1.1
theorem mg_cl (P : (mgR R Q w k left res).P h) : cellAt h ⟨R.bl, 0, none⟩ = some (.bool left) := cell1_get P.2.1.2.1.2.1.2.1.2.1.1
theorem mg_12 (P : (mgR R Q w k left res).P h) : (cell1 R.b12 (.bool res)).P h := P.2.1.2.1.2.1.2.1.2.1.2.1
theorem mg_r (P : (mgR R Q w k left res).P h) (r' : Bool) : Wr h ⟨R.b12, 0, none⟩ ∧ Stp h (setC h ⟨R.b12, 0, none⟩ (.bool r')) (mgR R Q w k left res) (mgR R Q w k left r') :=
  ⟨cell1_wr (mg_12 P), ((((((cell1_set (mg_12 P) _).right P.2.1.2.1.2.1.2.1.2.1).right P.2.1.2.1.2.1.2.1).right P.2.1.2.1.2.1).right P.2.1.2.1).right P.2.1).right P⟩
end
end Go.Proofs.Ytfijahblggnbbaa
