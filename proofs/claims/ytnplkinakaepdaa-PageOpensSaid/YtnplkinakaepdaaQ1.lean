/- Chapter 4's own answer (croftref4): its map in the heap; made, grown and shrunk. No condition. -/
import Derived.Test.YtnplkinakaepdaaPF
set_option linter.unusedSimpArgs false
set_option linter.unusedVariables false
namespace Go.Proofs.Ytnplkinakaepdaa
open Go.V Classical

/-- Where the parts of the document's own map are. -/
structure RW where
  gp : Option Addr
  gc : Nat
  qp : Option Addr
  qc : Nat
  tp : Nat → Option Addr
  tc : Nat → Nat

def bitsR (o n : Nat) (qp : Option Addr) (qc : Nat) (tp : Nat → Option Addr) (tc : Nat → Nat) (bt : Nat → Nat → Bool) : Res :=
  andR (slR qp o qc 1 fun k => .slice (tp k) (n / 2 ^ (k + 1)) (tc k)) (allR o fun k => slR (tp k) (n / 2 ^ (k + 1)) (tc k) 1 fun i => .bool (bt k i))

def refR (s : MS) (w : RW) : Res := andR (slR w.gp s.n w.gc 11 (pgF s.pg)) (bitsR s.o s.n w.qp w.qc w.tp w.tc s.bt)

abbrev refV (s : MS) (w : RW) : Value := .agg #[.int .i64 s.o, .slice w.gp s.n w.gc, .slice w.qp s.o w.qc]

/-- A box of the document's own map. -/
def rbF (o : Nat) (gp : Option Addr) (n gc : Nat) (qp : Option Addr) (m qc : Nat) : Nat → Value
  | 0 => .int .i64 o
  | 1 => .slice gp n gc
  | _ => .slice qp m qc

def rbR (b o : Nat) (gp : Option Addr) (n gc : Nat) (qp : Option Addr) (m qc : Nat) : Res := blkR b 3 (rbF o gp n gc qp m qc)

abbrev zmO : Obj := .cells #[(.int .i64 (0 : Int)), (.slice none 0 0), (.slice none 0 0)] T.T_croftref4_Map (0, 0)

theorem bitsR_congr {o n : Nat} {qp : Option Addr} {qc : Nat} {tp : Nat → Option Addr} {tc : Nat → Nat} {bt bt' : Nat → Nat → Bool} {h : Heap} (H : (bitsR o n qp qc tp tc bt).P h) (hb : ∀ k i, k < o → i < n / 2 ^ (k + 1) → bt k i = bt' k i) : (bitsR o n qp qc tp tc bt').P h :=
  ⟨H.1, ⟨fun k hk => sl_congr (H.2.1.1 k hk) fun i hi => by rw [hb k i hk (by omega)], H.2.1.2⟩, H.2.2⟩

theorem bitsR_fp {o n : Nat} {qp : Option Addr} {qc : Nat} {tp : Nat → Option Addr} {tc : Nat → Nat} {bt bt' : Nat → Nat → Bool} {n' : Nat} : ∀ b, (bitsR o n' qp qc tp tc bt').fp b → (bitsR o n qp qc tp tc bt).fp b := fun _ e => e

theorem refR_congr {s s' : MS} {w : RW} {h : Heap} (H : (refR s w).P h) (ho : s.o = s'.o) (hn : s.n = s'.n) (hp : ∀ i, i < s.n → ∀ j, j < 11 → s.pg i j = s'.pg i j) (hb : ∀ k i, k < s.o → i < s.n / 2 ^ (k + 1) → s.bt k i = s'.bt k i) : (refR s' w).P h := by
  obtain ⟨h1, h2, h3⟩ := H
  obtain ⟨o, n, pg, bt⟩ := s
  obtain ⟨o', n', pg', bt'⟩ := s'
  simp only at ho hn
  subst ho hn
  refine ⟨sl_congr h1 fun x hx => ?_, bitsR_congr h2 hb, h3⟩
  have := hp (x / 11) (by dsimp only at hx ⊢; omega) (x % 11) (by omega)
  show pcl (x % 11) (pg (x / 11) (x % 11)) = pcl (x % 11) (pg' (x / 11) (x % 11))
  rw [show pg (x / 11) (x % 11) = pg' (x / 11) (x % 11) from this]

section
variable {w₀ : World} {h : Heap} {K : Value → Heap → Prop}

theorem rb_new (h : Heap) (o : Nat) (gp : Option Addr) (n gc : Nat) (qp : Option Addr) (m qc : Nat) : New h (h.push (.cells #[.int .i64 (o : Int), .slice gp n gc, .slice qp m qc] T.T_croftref4_Map)) (rbR h.size o gp n gc qp m qc) :=
  ⟨push_upd _ _ _, Blk.new' _ _ _ _ _ rfl fun j hj => by
    have : j = 0 ∨ j = 1 ∨ j = 2 := by omega
    rcases this with rfl | rfl | rfl <;> rfl, fun b e => Nat.le_of_eq (Eq.symm e)⟩

theorem rb_zero (h : Heap) : New h (h.push zmO) (rbR h.size 0 none 0 0 none 0 0) := rb_new h 0 none 0 0 none 0 0

theorem rb_c {b o : Nat} {gp : Option Addr} {n gc : Nat} {qp : Option Addr} {m qc : Nat} (H : (rbR b o gp n gc qp m qc).P h) : cellAt h ⟨b, 0, none⟩ = some (.int .i64 o) ∧ cellAt h ⟨b, 1, none⟩ = some (.slice gp n gc) ∧ cellAt h ⟨b, 2, none⟩ = some (.slice qp m qc) :=
  ⟨Blk.cell (f := rbF o gp n gc qp m qc) (i := 0) H (by omega), Blk.cell (f := rbF o gp n gc qp m qc) (i := 1) H (by omega), Blk.cell (f := rbF o gp n gc qp m qc) (i := 2) H (by omega)⟩

theorem rb_set {b o : Nat} {gp : Option Addr} {n gc : Nat} {qp : Option Addr} {m qc : Nat} {o' : Nat} {gp' : Option Addr} {n' gc' : Nat} {qp' : Option Addr} {m' qc' : Nat} (H : (rbR b o gp n gc qp m qc).P h) :
    WrN h ⟨b, 0, none⟩ 3 ∧ Stp h (setCs h ⟨b, 0, none⟩ 0 [.int .i64 (o' : Int), .slice gp' n' gc', .slice qp' m' qc']) (rbR b o gp n gc qp m qc) (rbR b o' gp' n' gc' qp' m' qc') := by
  have B : Blk h b 3 _ := H
  refine ⟨fun j hj => by rw [add_mk]; exact B.wr (by omega), Stp.sets B _ 0 0 fun j hj => ?_⟩
  have : j = 0 ∨ j = 1 ∨ j = 2 := by omega
  rcases this with rfl | rfl | rfl <;> rfl

theorem rb_set1 {b o : Nat} {gp : Option Addr} {n gc : Nat} {qp : Option Addr} {m qc : Nat} {gp' : Option Addr} {n' gc' : Nat} (H : (rbR b o gp n gc qp m qc).P h) :
    Wr h ⟨b, 1, none⟩ ∧ Stp h (setC h ⟨b, 1, none⟩ (.slice gp' n' gc')) (rbR b o gp n gc qp m qc) (rbR b o gp' n' gc' qp m qc) := by
  have B : Blk h b 3 _ := H
  refine ⟨B.wr (by omega), Stp.set B 1 _ fun j hj => ?_⟩
  have : j = 0 ∨ j = 1 ∨ j = 2 := by omega
  rcases this with rfl | rfl | rfl <;> rfl

theorem rb_set2 {b o : Nat} {gp : Option Addr} {n gc : Nat} {qp : Option Addr} {m qc : Nat} {qp' : Option Addr} {m' qc' : Nat} (H : (rbR b o gp n gc qp m qc).P h) :
    Wr h ⟨b, 2, none⟩ ∧ Stp h (setC h ⟨b, 2, none⟩ (.slice qp' m' qc')) (rbR b o gp n gc qp m qc) (rbR b o gp n gc qp' m' qc') := by
  have B : Blk h b 3 _ := H
  refine ⟨B.wr (by omega), Stp.set B 2 _ fun j hj => ?_⟩
  have : j = 0 ∨ j = 1 ∨ j = 2 := by omega
  rcases this with rfl | rfl | rfl <;> rfl

theorem r4_power_ok {k : Nat} (hk : k ≤ 40) (hK : K (.int .i64 ((2 ^ k : Nat) : Int)) h) : CallV Try.prog w₀ F.croftref4_power [.int .i64 (k : Int)] h K := by
  refine croftref4_power.call ?_
  unfold croftref4_power.vc
  intro J k1 L hL
  have loop : ∀ (r i : Nat), i + r = k → L [.int .i64 (k : Int), .int .i64 ((2 ^ i : Nat) : Int), .int .i64 (i : Int)] h := by
    intro r
    induction r with
    | zero =>
      intro i hi
      have : i = k := by omega
      subst this
      exact hL _ _ _ _ (iF (by simp) (k1 _ _ hK))
    | succ r ih =>
      intro i hi
      refine hL _ _ _ _ (iT (by simp; omega) ?_)
      have e1 : IntKind.wrap .i64 ((i : Int) + 1) = ((i + 1 : Nat) : Int) := by rw [IntKind.wrap_i64]; omega
      have hp : (2 : Nat) ^ i ≤ 2 ^ 40 := Nat.pow_le_pow_right (by decide) (by omega)
      have e2 : IntKind.wrap .i64 (((2 ^ i : Nat) : Int) * 2) = ((2 ^ (i + 1) : Nat) : Int) := by
        rw [Nat.pow_succ, IntKind.wrap_i64]
        have : (2 : Nat) ^ 40 = 1099511627776 := by decide
        rw [this] at hp
        generalize (2 : Nat) ^ i = x at *
        omega
      rw [e1, e2]
      exact ih (i + 1) (by omega)
  exact loop k 0 (by omega)

theorem r4_page_ok {k r : Int} (hK : ∀ h', Upd NoB h h' → K (pgv (plainP k r)) h') : CallV Try.prog w₀ F.croftref4_page [.int .i64 k, .int .i64 r] h K := by
  refine croftref4_page.call ?_
  unfold croftref4_page.vc
  have A := pg_zero h
  have B := pg_zero (h.push zpO)
  have I : Hold h _ [pgR (h.push zpO).size fun _ => 0, pgR h.size fun _ => 0] := ((Hold.nil h).new A).new B
  obtain ⟨x1, S1⟩ := pg_set1 (I.at 0) (i := 0) (by omega) k
  have I1 := I.step 0 S1
  obtain ⟨x2, S2⟩ := pg_set1 (I1.at 0 (R := pgR (h.push zpO).size _)) (i := 1) (by omega) r
  have I2 := I1.step 0 S2
  obtain ⟨x3, S3⟩ := pg_set1 (I2.at 0 (R := pgR (h.push zpO).size _)) (i := 4) (by omega) (-1)
  have I3 := I2.step 0 S3
  obtain ⟨x4, S4⟩ := pg_set1 (I3.at 0 (R := pgR (h.push zpO).size _)) (i := 5) (by omega) (-1)
  have I4 := I3.step 0 S4
  obtain ⟨x5, S5⟩ := pg_set1 (I4.at 0 (R := pgR (h.push zpO).size _)) (i := 6) (by omega) (-1)
  have I6 := I4.step 0 (R' := pgR (h.push zpO).size (plainP k r)) (S5.conv (fun P => Blk.congr P fun j hj => by
    rcases lt11 hj with rfl | rfl | rfl | rfl | rfl | rfl | rfl | rfl | rfl | rfl | rfl <;> rfl) fun _ e => e)
  simp only [add_mk, Nat.zero_add]
  obtain ⟨x6, S6⟩ := pg_set (plainP k r) (I6.at 1)
  have I7 := I6.step 1 S6
  exact ⟨x1, x2, x3, x4, x5, pgR_ld (I6.at 0) ⟨x6, pgR_ld (I7.at 1) (hK _ I7.u)⟩⟩

end
end Go.Proofs.Ytnplkinakaepdaa
