/- pagemap: maps made, of nothing or of data. No condition. -/
import Derived.Test.YtnplkinakaepdaaP7
set_option linter.unusedSimpArgs false
set_option linter.unusedVariables false
namespace Go.Proofs.Ytnplkinakaepdaa
open Go.V Classical

/-- A page's numbers are in range, as Open asks. -/
structure Fit (P : Nat → Int) (o n : Nat) : Prop where
  k : 0 ≤ P 0 ∧ P 0 ≤ 4
  o : 0 ≤ P 1 ∧ P 1 ≤ o
  c : 0 ≤ P 2 ∧ P 2 ≤ 7
  l : 0 ≤ P 3 ∧ P 3 ≤ 256
  nx : -1 ≤ P 4 ∧ P 4 ≤ (n : Int) - 1
  pv : -1 ≤ P 5 ∧ P 5 ≤ (n : Int) - 1
  f : -1 ≤ P 6 ∧ P 6 ≤ 255

/-- An order that is told, within bounds. -/
def clampO (p : Int) : Nat := if p < 0 then 0 else if p > 8 then 8 else p.toNat

def mNew (p : Int) : MS := { o := clampO p, n := 0, pg := fun _ _ => 0, bt := fun _ _ => false }

theorem mNew_ok (p : Int) : (mNew p).Ok := by
  refine ⟨?_, by simp [mNew], by simp [mNew], fun k i _ h => by simp [mNew] at h, fun i hi => by simp [mNew] at hi⟩
  simp only [mNew, clampO]
  split
  · omega
  · split <;> omega

section
variable {w₀ : World} {h : Heap} {mb o n : Nat} {pg : Nat → Nat → Int} {w : MW} {ns : Nat → Nat} {bt : Nat → Nat → Bool} {s : MS} {K : Value → Heap → Prop}

theorem pm_fits_ok {P : Nat → Int} {o n : Nat} (hn : n ≤ 1024) (hK : ∀ h', Upd NoB h h' → K (.bool (decide (Fit P o n))) h') :
    CallV Try.prog w₀ F.pagemap_fits [pgv P, .int .i64 (o : Int), .int .i64 (n : Int)] h K := by
  refine pagemap_fits.call ?_
  unfold pagemap_fits.vc
  have A := pg_new h P
  let HP : Heap := Array.push h (.cells (pgL P).toArray T.T_api_Page)
  have hc : ∀ j, j < 11 → cellAt HP ⟨h.size, j, none⟩ = some (pcl j (P j)) := fun j hj => Blk.cell (f := fun j => pcl j (P j)) A.p hj
  have e1 : IntKind.wrap .i64 ((n : Int) - 1) = (n : Int) - 1 := by rw [IntKind.wrap_i64]; omega
  simp only [add_mk, Nat.zero_add, e1]
  have yes : ∀ b : Bool, (b = true ↔ Fit P o n) → K (.bool b) HP := fun b hb => by
    have : b = decide (Fit P o n) := by rw [Bool.eq_iff_iff, hb]; simp
    rw [this]; exact hK _ A.u
  have no : ¬ Fit P o n → K (.bool false) HP := fun hf => yes false ⟨fun e => (by cases e), fun e => absurd e hf⟩
  refine ⟨_, hc 0 (by omega), pm_within_ok ⟨_, rfl, ?_⟩⟩
  intro J3 k3
  by_cases f0 : 0 ≤ P 0 ∧ P 0 ≤ 4
  case neg =>
    have nf : ¬ Fit P o n := fun F => f0 F.k
    rw [decide_eq_false f0]
    refine qF' rfl (k3 _ _ ?_); intro J4 k4
    refine qF' rfl (k4 _ _ ?_); intro J5 k5
    refine qF' rfl (k5 _ _ ?_); intro J6 k6
    refine qF' rfl (k6 _ _ ?_); intro J7 k7
    refine qF' rfl (k7 _ _ ?_); intro J8 k8
    exact qF' rfl (k8 _ _ (no nf))
  refine qT (by simpa using f0) ⟨_, hc 1 (by omega), pm_within_ok ⟨_, rfl, k3 _ _ ?_⟩⟩
  intro J4 k4
  by_cases f1 : 0 ≤ P 1 ∧ P 1 ≤ o
  case neg =>
    have nf : ¬ Fit P o n := fun F => f1 F.o
    rw [decide_eq_false f1]
    refine qF' rfl (k4 _ _ ?_); intro J5 k5
    refine qF' rfl (k5 _ _ ?_); intro J6 k6
    refine qF' rfl (k6 _ _ ?_); intro J7 k7
    refine qF' rfl (k7 _ _ ?_); intro J8 k8
    exact qF' rfl (k8 _ _ (no nf))
  refine qT (by simpa using f1) ⟨_, hc 2 (by omega), pm_within_ok ⟨_, rfl, k4 _ _ ?_⟩⟩
  intro J5 k5
  by_cases f2 : 0 ≤ P 2 ∧ P 2 ≤ 7
  case neg =>
    have nf : ¬ Fit P o n := fun F => f2 F.c
    rw [decide_eq_false f2]
    refine qF' rfl (k5 _ _ ?_); intro J6 k6
    refine qF' rfl (k6 _ _ ?_); intro J7 k7
    refine qF' rfl (k7 _ _ ?_); intro J8 k8
    exact qF' rfl (k8 _ _ (no nf))
  refine qT (by simpa using f2) ⟨_, hc 3 (by omega), pm_within_ok ⟨_, rfl, k5 _ _ ?_⟩⟩
  intro J6 k6
  by_cases f3 : 0 ≤ P 3 ∧ P 3 ≤ 256
  case neg =>
    have nf : ¬ Fit P o n := fun F => f3 F.l
    rw [decide_eq_false f3]
    refine qF' rfl (k6 _ _ ?_); intro J7 k7
    refine qF' rfl (k7 _ _ ?_); intro J8 k8
    exact qF' rfl (k8 _ _ (no nf))
  refine qT (by simpa using f3) ⟨_, hc 4 (by omega), pm_within_ok ⟨_, rfl, k6 _ _ ?_⟩⟩
  intro J7 k7
  by_cases f4 : -1 ≤ P 4 ∧ P 4 ≤ (n : Int) - 1
  case neg =>
    have nf : ¬ Fit P o n := fun F => f4 F.nx
    rw [decide_eq_false f4]
    refine qF' rfl (k7 _ _ ?_); intro J8 k8
    exact qF' rfl (k8 _ _ (no nf))
  refine qT (by simpa using f4) ⟨_, hc 5 (by omega), pm_within_ok ⟨_, rfl, k7 _ _ ?_⟩⟩
  intro J8 k8
  by_cases f5 : -1 ≤ P 5 ∧ P 5 ≤ (n : Int) - 1
  case neg =>
    have nf : ¬ Fit P o n := fun F => f5 F.pv
    rw [decide_eq_false f5]
    exact qF' rfl (k8 _ _ (no nf))
  refine qT (by simpa using f5) ⟨_, hc 6 (by omega), pm_within_ok ⟨_, rfl, k8 _ _ (yes _ ?_)⟩⟩
  simp only [decide_eq_true_eq]
  exact ⟨fun f6 => ⟨f0, f1, f2, f3, f4, f5, f6⟩, fun F => F.f⟩

/-- The parts of a map under way, put together. -/
theorem map_of_hold {h0 hx : Heap} {mb o n q : Nat} {pg : Nat → Nat → Int} {w : MW} {ns : Nat → Nat} {bt : Nat → Nat → Bool}
    (I : Hold h0 hx [allR o fun k => setR (w.sb k) (w.sw k) (ns k) (bt k), slR w.qp o w.qc 1 fun k => .pointer (some ⟨w.sb k, 0, none⟩), blkR mb 3 (mapF o n w), slR w.gp n w.gc 11 (pgF pg)]) :
    Hold h0 hx [mapQ mb o n pg w ns bt] := ((I.swap.join.swap2.swap.join).swap).join

theorem pm_New_ok {p : Int} (hK : ∀ (h' : Heap) (mb : Nat) (w : MW), New h h' (mapR mb (mNew p) w) → K (.pointer (some ⟨mb, 0, none⟩)) h') : CallV Try.prog w₀ F.pagemap_New [.int .i64 p] h K := by
  refine pagemap_New.call ?_
  unfold pagemap_New.vc
  have eo : (if (if (8 : Int) < p then (8 : Int) else p) > (0 : Int) then (if (8 : Int) < p then (8 : Int) else p) else (0 : Int)) = ((clampO p : Nat) : Int) := by
    unfold clampO; split <;> split <;> (try split) <;> (try split) <;> omega
  have o8 : clampO p ≤ 8 := (mNew_ok p).o8
  rw [eo]
  generalize ho : clampO p = o at *
  intro J k1
  have I0 := (Hold.nil h).box #[.int .i64 (o : Int), .slice none 0 0, .slice none 0 0] T.T_pagemap_Map
  have c0 : cellAt _ ⟨h.size, 0, none⟩ = some (.int .i64 (o : Int)) := Blk.cell (n := 3) (i := 0) (I0.at 0) (by omega)
  simp only [jor, jand, cellAt_new, add_mk, List.getElem?_toArray, Nat.zero_add, List.getElem?_cons_zero, List.getElem?_cons_succ, Option.some.injEq, Value.int.injEq, Value.bool.injEq, Value.pointer.injEq, Value.slice.injEq, true_and, and_true, exists_eq_left', exists_eq', and_assoc, exists_and_left]
  intro L hL
  -- the head, with q pairs
  let HF : Nat → Option Addr → Nat → Nat → Value := fun q qp qc j => match j with | 0 => .int .i64 (o : Int) | 1 => .slice none 0 0 | _ => .slice qp q qc
  have loop : ∀ (r k : Nat) (hx : Heap) (qp : Option Addr) (qc : Nat) (sb sw : Nat → Nat), k + r = o →
      Hold h hx [allR k fun k => setR (sb k) (sw k) 0 fun _ => false, slR qp k qc 1 fun k => .pointer (some ⟨sb k, 0, none⟩), blkR h.size 3 (HF k qp qc)] →
      L [.pointer (some ⟨h.size, 0, none⟩), .int .i64 (o : Int), .int .i64 (k : Int)] hx := by
    intro r
    induction r with
    | zero =>
      intro k hx qp qc sb sw hk I
      have : k = o := by omega
      subst this
      refine hL _ _ _ _ (iF (by simp) (k1 _ _ (hK hx h.size { gp := none, gc := 0, qp := qp, qc := qc, sb := sb, sw := sw } ?_)))
      have I2 := (I.add (R := slR none 0 0 11 (pgF fun _ _ => 0)) (Upd.refl _ _) (sl_nil 11 (pgF fun _ _ => 0) hx) (fun b e => absurd e (sl_nil_fp b))).back4
      have I3 := I2.as 2 (R' := blkR h.size 3 (mapF k 0 { gp := none, gc := 0, qp := qp, qc := qc, sb := sb, sw := sw })) (fun P => Blk.congr P fun j hj => by
        have : j = 0 ∨ j = 1 ∨ j = 2 := by omega
        rcases this with rfl | rfl | rfl <;> rfl) fun _ e => e
      have M := (map_of_hold (w := { gp := none, gc := 0, qp := qp, qc := qc, sb := sb, sw := sw }) (ns := fun _ => 0) (bt := fun _ _ => false) (q := 0) I3).toNew
      refine M.conv (fun P => ?_) (fun b e => ?_)
      · unfold mapR mNew
        simp only [ho, Nat.zero_div]
        exact P
      · unfold mapR mNew at e
        simp only [ho, Nat.zero_div] at e
        exact e
    | succ r ih =>
      intro k hx qp qc sb sw hk I
      have B : Blk hx h.size 3 (HF k qp qc) := I.at 2
      have c2 : cellAt hx ⟨h.size, 2, none⟩ = some (.slice qp k qc) := B.cell (i := 2) (by omega)
      have e1 : IntKind.wrap .i64 ((k : Int) + 1) = ((k + 1 : Nat) : Int) := by rw [IntKind.wrap_i64]; omega
      refine hL _ _ _ _ (iT (by simp; omega) ?_)
      simp only [jor, jand, cellAt_new, add_mk, List.getElem?_toArray, Nat.zero_add, List.getElem?_cons_zero, List.getElem?_cons_succ, Option.some.injEq, Value.int.injEq, Value.bool.injEq, Value.pointer.injEq, Value.slice.injEq, true_and, and_true, exists_eq_left', exists_eq', and_assoc, exists_and_left, c2]
      refine bits_NewSet_ok (n := 0) (by omega) fun h20 sb1 sw1 N => ⟨_, rfl, ?_⟩
      have I20 := I.new N
      have B20 : Blk h20 h.size 3 (HF k qp qc) := I20.at 3
      have uP : Upd NoB h20 (h20.push (.cells #[.pointer (some ⟨sb1, 0, none⟩)] T.T_p_bits_Set)) := push_upd _ _ _
      obtain ⟨os, hpre, hS⟩ := sl_app1 (e := T.T_p_bits_Set) (T := T.T_p_bits_Set) (b := 8) (zs := [.pointer none]) (v := .pointer (some ⟨sb1, 0, none⟩)) (I20.at 2 (R := slR qp k qc 1 fun k => .pointer (some ⟨sb k, 0, none⟩))) rfl rfl (by omega)
      refine ⟨B20.cell (i := 2) (by omega), (B20.upd uP id).cell (i := 2) (by omega), os, _, hpre, fun p22 c22 h22 hres => ?_⟩
      have I22 := I20.step 2 (hS p22 c22 h22 hres)
      have B22 : Blk h22 h.size 3 (HF k qp qc) := I22.at 3
      refine ⟨B22.wr (by omega), ?_⟩
      have I23 := I22.step 3 (R' := blkR h.size 3 (HF (k + 1) p22 c22)) (Stp.set B22 2 (.slice p22 (k + 1) c22) fun j hj => by
        have : j = 0 ∨ j = 1 ∨ j = 2 := by omega
        rcases this with rfl | rfl | rfl <;> rfl)
      rw [e1]
      let sb' : Nat → Nat := fun i => if i = k then sb1 else sb i
      let sw' : Nat → Nat := fun i => if i = k then sw1 else sw i
      have eR : ∀ i, i < k → setR (sb i) (sw i) 0 (fun _ => false) = setR (sb' i) (sw' i) 0 (fun _ => false) := fun i hi => by
        have : i ≠ k := by omega
        simp only [sb', sw', this, if_false]
      have eK : setR sb1 sw1 0 (fun _ => false) = setR (sb' k) (sw' k) 0 (fun _ => false) := by simp only [sb', sw', if_true]
      refine ih (k + 1) _ p22 c22 sb' sw' (by omega) (Hold.snoc (R := fun k => setR (sb' k) (sw' k) 0 fun _ => false) ?_)
      have I24 := I23.as 1 (R' := allR k fun k => setR (sb' k) (sw' k) 0 fun _ => false) (allR_congr eR) (fun b e => allR_fp eR b e)
      have I25 := I24.as 2 (R := slR p22 (k + 1) c22 1 fun i => if i = k then .pointer (some ⟨sb1, 0, none⟩) else .pointer (some ⟨sb i, 0, none⟩)) (R' := slR p22 (k + 1) c22 1 fun k => .pointer (some ⟨sb' k, 0, none⟩)) (fun P => sl_congr P fun i hi => by
        simp only [sb']
        by_cases h1 : i = k <;> simp [h1]) (fun b e => e)
      rw [eK] at I25
      exact I25
  refine loop o 0 _ none 0 (fun _ => 0) (fun _ => 0) (by omega) ?_
  have I1 := I0.as 0 (R := blkR h.size 3 fun j => (#[.int .i64 (o : Int), .slice none 0 0, .slice none 0 0] : Array Value).getD j undef) (R' := blkR h.size 3 (HF 0 none 0)) (fun P => Blk.congr P fun j hj => by
        have : j < 3 := hj
        have : j = 0 ∨ j = 1 ∨ j = 2 := by omega
        rcases this with rfl | rfl | rfl <;> rfl) fun _ e => e
  exact (I1.add (R := slR none 0 0 1 fun k => .pointer (some ⟨0, 0, none⟩)) (Upd.refl _ _) (sl_nil 1 _ _) (fun b e => absurd e (sl_nil_fp b))).add (Upd.refl _ _) (allR_zero _) fun b ⟨k, hk, _⟩ => absurd hk (by omega)

end
end Go.Proofs.Ytnplkinakaepdaa
