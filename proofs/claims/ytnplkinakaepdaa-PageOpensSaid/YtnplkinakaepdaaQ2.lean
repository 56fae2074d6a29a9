/- Chapter 4's own answer (croftref4): the pair bits' lists made anew; maps made, grown, shrunk. No condition. -/
import Derived.Test.YtnplkinakaepdaaQ1
set_option linter.unusedSimpArgs false
set_option linter.unusedVariables false
namespace Go.Proofs.Ytnplkinakaepdaa
open Go.V Classical

section
variable {w₀ : World} {h : Heap} {K : Value → Heap → Prop}

/-- The bits that are kept. -/
def keepB (m : Nat) (ml : Nat → Nat) (bt : Nat → Nat → Bool) : Nat → Nat → Bool := fun k i => decide (k < m) && (decide (i < ml k) && bt k i)

set_option maxHeartbeats 1000000 in
theorem r4_paired_ok {o n gc m qc : Nat} {gp qp : Option Addr} {tp : Nat → Option Addr} {ml tc : Nat → Nat} {bt : Nat → Nat → Bool} (ho : o ≤ 8) (hn : n ≤ 1024) (hm : m ≤ 8) (hml : ∀ k, k < m → ml k ≤ 1024)
    (hq : Row h qp m fun k => .slice (tp k) (ml k) (tc k)) (hw : ∀ k, k < m → Row h (tp k) (ml k) fun i => .bool (bt k i))
    (hK : ∀ (h' : Heap) (qp' : Option Addr) (qc' : Nat) (tp' : Nat → Option Addr) (tc' : Nat → Nat), New h h' (bitsR o n qp' qc' tp' tc' (keepB m ml bt)) → K (.agg #[.int .i64 o, .slice gp n gc, .slice qp' o qc']) h') :
    CallV Try.prog w₀ F.croftref4_paired [.agg #[.int .i64 o, .slice gp n gc, .slice qp m qc]] h K := by
  refine croftref4_paired.call ?_
  unfold croftref4_paired.vc
  have A := rb_new h o gp n gc qp m qc
  let h1 : Heap := h.push (.cells #[.int .i64 (o : Int), .slice gp n gc, .slice qp m qc] T.T_croftref4_Map)
  have B := rb_zero h1
  have I0 : Hold h _ [rbR h1.size 0 none 0 0 none 0 0, rbR h.size o gp n gc qp m qc] := ((Hold.nil h).new A).new B
  intro J3 k3 L6 hL6
  let RB := keepB m ml bt
  let WR : (Nat → Option Addr) → (Nat → Nat) → Nat → Res := fun tp' tc' k => slR (tp' k) (n / 2 ^ (k + 1)) (tc' k) 1 fun i => .bool (RB k i)
  have loop : ∀ (r k : Nat) (hx : Heap) (qp' : Option Addr) (qc' : Nat) (tp' : Nat → Option Addr) (tc' : Nat → Nat), k + r = o →
      Hold h hx [allR k (WR tp' tc'), slR qp' k qc' 1 fun k => .slice (tp' k) (n / 2 ^ (k + 1)) (tc' k), rbR h1.size 0 none 0 0 none 0 0, rbR h.size o gp n gc qp m qc] →
      L6 [.pointer (some ⟨h.size, 0, none⟩), .pointer (some ⟨h1.size, 0, none⟩), .slice qp' k qc', .int .i64 (k : Int)] hx := by
    intro r
    induction r with
    | zero =>
      intro k hx qp' qc' tp' tc' hk I
      have : k = o := by omega
      subst this
      obtain ⟨c0, c1, c2⟩ := rb_c (I.at 3)
      refine hL6 _ _ _ _ _ _ _ ⟨_, c0, iF (by simp) (k3 _ _ _ _ _ _ ?_)⟩
      obtain ⟨w2, S2⟩ := rb_set2 (qp' := qp') (m' := k) (qc' := qc') (I.at 3)
      have I2 := I.step 3 S2
      obtain ⟨d0, d1, d2⟩ := rb_c (I2.at 3 (R := rbR h.size k gp n gc qp' k qc'))
      obtain ⟨w3, S3⟩ := rb_set (o' := k) (gp' := gp) (n' := n) (gc' := gc) (qp' := qp') (m' := k) (qc' := qc') (I2.at 2)
      have I3 := I2.step 2 S3
      obtain ⟨e0, e1, e2⟩ := rb_c (I3.at 2 (R := rbR h1.size k gp n gc qp' k qc'))
      simp only [add_mk, Nat.zero_add]
      refine ⟨w2, _, d0, _, _, _, d1, _, _, _, d2, w3, _, e0, _, _, _, e1, _, _, _, e2, hK _ qp' qc' tp' tc' ?_⟩
      exact ((I3.sub (.cons_cons _ (.cons_cons _ (.cons _ (.cons _ .slnil))))).swap.join).toNew
    | succ r ih =>
      intro k hx qp' qc' tp' tc' hk I
      have hko : k < o := by omega
      have ek : IntKind.wrap .i64 ((k : Int) + 1) = ((k + 1 : Nat) : Int) := by rw [IntKind.wrap_i64]; omega
      obtain ⟨c0, c1, c2⟩ := rb_c (I.at 3)
      obtain ⟨x, hpw, hx1, hx2⟩ := pow_small (k := k + 1) (by omega)
      refine hL6 _ _ _ _ _ _ _ ⟨_, c0, iT (by simp; omega) ?_⟩
      intro J7 k7
      simp only [add_mk, Nat.zero_add]
      rw [ek]
      refine ⟨_, _, _, c1, r4_power_ok (by omega) ⟨_, rfl, c1, ?_⟩⟩
      rw [hpw]
      have hnx : n / x ≤ n := Nat.div_le_self _ _
      have ed : IntKind.wrap .i64 (Int.tdiv (n : Int) (x : Int)) = ((n / x : Nat) : Int) := by
        rw [Int.tdiv_eq_ediv_of_nonneg (by omega), ← Int.natCast_ediv, IntKind.wrap_i64]
        generalize n / x = y at *
        omega
      rw [ed]
      generalize hy : n / x = y at *
      refine ⟨by omega, by omega, by omega, by omega, ?_⟩
      rw [Int.toNat_natCast]
      have T0 := sl_make hx [(.bool false)] T.T_bool y y (Nat.le_refl _)
      let f0 : Nat → Nat → Value := fun j i => .bool (decide (i < j) && RB k i)
      have I1 := (I.new T0).as 0 (R := slR (some ⟨hx.size, 0, none⟩) y y 1 fun i => [(.bool false)].getD (i % 1) undef) (R' := slR (some ⟨hx.size, 0, none⟩) y y 1 (f0 0)) (fun P => sl_congr P fun i hi => by simp [Nat.mod_one, f0]) fun _ e => e
      intro J10 k10 L13 hL13
      -- behind the row's bits
      have done : ∀ (hv : Heap), Hold h hv [slR (some ⟨hx.size, 0, none⟩) y y 1 fun i => .bool (RB k i), allR k (WR tp' tc'), slR qp' k qc' 1 fun k => .slice (tp' k) (n / 2 ^ (k + 1)) (tc' k), rbR h1.size 0 none 0 0 none 0 0, rbR h.size o gp n gc qp m qc] →
          J10 [.pointer (some ⟨h.size, 0, none⟩), .pointer (some ⟨h1.size, 0, none⟩), .slice qp' k qc', .int .i64 (k : Int), .slice (some ⟨hx.size, 0, none⟩) y y] hv := by
        intro hv IV
        obtain ⟨os, hpre, hS⟩ := sl_app1 (e := T.T_sl_bool) (T := T.T_sl_bool) (b := 24) (zs := [.slice none 0 0]) (v := .slice (some ⟨hx.size, 0, none⟩) y y) (IV.at 2 (R := slR qp' k qc' 1 fun k => .slice (tp' k) (n / 2 ^ (k + 1)) (tc' k))) rfl rfl (by omega)
        refine k10 _ _ _ _ _ _ _ _ _ _ ⟨os, _, hpre, fun p58 c58 h58 hres => k7 _ _ _ _ _ _ _ ?_⟩
        have I2 := IV.step 2 (hS p58 c58 h58 hres)
        rw [ek]
        let tp2 : Nat → Option Addr := fun i => if i = k then some ⟨hx.size, 0, none⟩ else tp' i
        let tc2 : Nat → Nat := fun i => if i = k then y else tc' i
        have eR : ∀ i, i < k → WR tp' tc' i = WR tp2 tc2 i := fun i hi => by
          have : i ≠ k := by omega
          simp only [WR, tp2, tc2, this, if_false]
        have eK : (slR (some ⟨hx.size, 0, none⟩) y y 1 fun i => .bool (RB k i)) = WR tp2 tc2 k := by simp only [WR, tp2, tc2, if_true, hpw, hy]
        refine ih (k + 1) h58 p58 c58 tp2 tc2 (by omega) (Hold.snoc (R := WR tp2 tc2) ?_)
        have I3 := I2.as 1 (R := allR k (WR tp' tc')) (R' := allR k (WR tp2 tc2)) (allR_congr eR) (fun b e => allR_fp eR b e)
        have I4 := I3.as 2 (R := slR p58 (k + 1) c58 1 fun i => if i = k then .slice (some ⟨hx.size, 0, none⟩) y y else .slice (tp' i) (n / 2 ^ (i + 1)) (tc' i)) (R' := slR p58 (k + 1) c58 1 fun k => .slice (tp2 k) (n / 2 ^ (k + 1)) (tc2 k)) (fun P => sl_congr P fun i hi => by
          simp only [tp2, tc2]
          by_cases h1 : i = k
          · subst h1; simp [hpw, hy]
          · simp [h1]) fun _ e => e
        rw [eK] at I4
        exact I4
      have bits : ∀ (r j : Nat) (hv : Heap), j + r = y → Hold h hv [slR (some ⟨hx.size, 0, none⟩) y y 1 (f0 j), allR k (WR tp' tc'), slR qp' k qc' 1 fun k => .slice (tp' k) (n / 2 ^ (k + 1)) (tc' k), rbR h1.size 0 none 0 0 none 0 0, rbR h.size o gp n gc qp m qc] →
          L13 [.pointer (some ⟨h.size, 0, none⟩), .pointer (some ⟨h1.size, 0, none⟩), .slice qp' k qc', .int .i64 (k : Int), .slice (some ⟨hx.size, 0, none⟩) y y, .int .i64 (j : Int)] hv := by
        intro r
        induction r with
        | zero =>
          intro j hv hj IV
          refine hL13 _ _ _ _ _ _ _ _ _ _ _ ?_
          intro J14 k14
          refine qF' (by simp; omega) (k14 _ _ ?_)
          intro J15 k15
          refine qF' rfl (k15 _ _ (iF rfl (done hv ?_)))
          exact IV.as 0 (R := slR (some ⟨hx.size, 0, none⟩) y y 1 (f0 j)) (R' := slR (some ⟨hx.size, 0, none⟩) y y 1 fun i => .bool (RB k i)) (fun P => sl_congr P fun i hi => by
            have : i < j := by omega
            simp [f0, this]) fun _ e => e
        | succ r ihj =>
          intro j hv hj IV
          have ej : IntKind.wrap .i64 ((j : Int) + 1) = ((j + 1 : Nat) : Int) := by rw [IntKind.wrap_i64]; omega
          obtain ⟨b0, b1, b2⟩ := rb_c (IV.at 4)
          -- no more bits of this order
          have stop : (¬ (k < m ∧ j < ml k)) → J10 [.pointer (some ⟨h.size, 0, none⟩), .pointer (some ⟨h1.size, 0, none⟩), .slice qp' k qc', .int .i64 (k : Int), .slice (some ⟨hx.size, 0, none⟩) y y] hv := fun hs => by
            refine done hv (IV.as 0 (R := slR (some ⟨hx.size, 0, none⟩) y y 1 (f0 j)) (R' := slR (some ⟨hx.size, 0, none⟩) y y 1 fun i => .bool (RB k i)) (fun P => sl_congr P fun i hi => ?_) fun _ e => e)
            simp only [f0, RB, keepB]
            by_cases h1 : i < j
            · simp [h1]
            · have : (decide (k < m) && (decide (i < ml k) && bt k i)) = false := by
                by_cases h2 : k < m
                · have : ¬ i < ml k := by omega
                  simp [this]
                · simp [h2]
              simp [h1, this]
          refine hL13 _ _ _ _ _ _ _ _ _ _ _ ?_
          intro J14 k14
          refine qT (by simp; omega) ⟨_, _, _, by first | exact b2 | (rw [add_mk]; exact b2), k14 _ _ ?_⟩
          intro J15 k15
          by_cases hkm : k < m
          case neg => exact qF' (by simp; omega) (k15 _ _ (iF rfl (stop fun h => hkm h.1)))
          obtain ⟨qb, qo, eq, hqc⟩ := row_at (hq.upd IV.u fun _ _ => id) (i := k) hkm
          have hmlk := hml k hkm
          refine qT (by simp; exact hkm) ⟨_, _, _, by first | exact b2 | (rw [add_mk]; exact b2), ⟨qb, qo, none⟩, eq, by omega, by omega, _, _, _, by rw [add_mk, Int.toNat_natCast, Nat.mul_one]; exact hqc, k15 _ _ ?_⟩
          by_cases hjm : j < ml k
          case neg => exact iF (by simp; omega) (stop fun h => hjm h.2)
          obtain ⟨tb, to, et, htc⟩ := row_at ((hw k hkm).upd IV.u fun _ _ => id) (i := j) hjm
          obtain ⟨b3, eb3, hw3, S3⟩ := sl_set (IV.at 0 (R := slR (some ⟨hx.size, 0, none⟩) y y 1 (f0 j))) (o := j) (by omega) (.bool (bt k j))
          simp at eb3; subst eb3
          refine iT (by simp; exact hjm) ⟨_, _, _, by first | exact b2 | (rw [add_mk]; exact b2), ⟨qb, qo, none⟩, eq, by omega, by omega, _, _, _, by rw [add_mk, Int.toNat_natCast, Nat.mul_one]; exact hqc, ⟨tb, to, none⟩, et, by omega, by omega, _, by rw [add_mk, Int.toNat_natCast, Nat.mul_one]; exact htc, _, rfl, by omega, by omega, by rw [add_mk, Int.toNat_natCast, Nat.mul_one, Nat.zero_add]; exact hw3, ?_⟩
          rw [ej, add_mk, Int.toNat_natCast, Nat.mul_one, Nat.zero_add]
          refine ihj (j + 1) _ (by omega) (IV.step 0 (R' := slR (some ⟨hx.size, 0, none⟩) y y 1 (f0 (j + 1))) (S3.conv (fun P => sl_congr P fun i hi => ?_) fun _ e => e))
          simp only [f0, RB, keepB]
          by_cases h1 : i = j
          · subst h1; simp [hkm, hjm]
          · by_cases h2 : i < j
            · have : i < j + 1 := by omega
              simp [h1, h2, this]
            · have : ¬ i < j + 1 := by omega
              simp [h1, h2, this]
      exact bits y 0 _ (by omega) I1
  exact loop o 0 _ none 0 (fun _ => none) (fun _ => 0) (by omega) ((I0.add (R := slR none 0 0 1 fun k => .slice none (n / 2 ^ (k + 1)) 0) (Upd.refl _ _) (sl_nil 1 _ _) (fun b e => absurd e (sl_nil_fp b))).add (Upd.refl _ _) (allR_zero _) fun b ⟨k, hk, _⟩ => absurd hk (by omega))

end
end Go.Proofs.Ytnplkinakaepdaa
