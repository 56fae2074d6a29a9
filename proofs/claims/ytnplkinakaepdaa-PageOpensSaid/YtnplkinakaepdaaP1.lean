/- bits: sets of numbers in the heap, and what their functions do. No condition. -/
import Derived.Test.YtnplkinakaepdaaP0
import Derived.Test.YtnplkinakaepdaaH2
import Derived.Test.YtnplkinakaepdaaG0
import Derived.Test.YtnplkinakaepdaaG1
import Derived.Test.YtnplkinakaepdaaG2
import Derived.Test.YtnplkinakaepdaaG3
set_option linter.unusedSimpArgs false
set_option linter.unusedVariables false
namespace Go.Proofs.Ytnplkinakaepdaa
open Go.V Classical

def nw (n : Nat) : Nat := (n + 63) / 64

def setF (n sw : Nat) : Nat → Value
  | 0 => .int .i64 n
  | _ => .slice (some ⟨sw, 0, none⟩) (nw n) (nw n)

/-- A Set at block sb, its words at sw: of the numbers below n those with f. -/
def setR (sb sw n : Nat) (f : Nat → Bool) : Res := andR (blkR sb 2 (setF n sw)) (slR (some ⟨sw, 0, none⟩) (nw n) (nw n) 1 fun j => .int .u64 (wd f j))

section
variable {w₀ : World} {h : Heap} {sb sw n : Nat} {f : Nat → Bool} {K : Value → Heap → Prop}

theorem set_n (H : (setR sb sw n f).P h) : cellAt h ⟨sb, 0, none⟩ = some (.int .i64 n) := Blk.cell (i := 0) H.1 (by omega)
theorem set_w (H : (setR sb sw n f).P h) : cellAt h ⟨sb, 1, none⟩ = some (.slice (some ⟨sw, 0, none⟩) (nw n) (nw n)) := Blk.cell (i := 1) H.1 (by omega)
theorem set_word (H : (setR sb sw n f).P h) {j : Nat} (hj : j < nw n) : cellAt h ⟨sw, j, none⟩ = some (.int .u64 (wd f j)) := by
  obtain ⟨b, e, hc⟩ := sl_cell H.2.1 (i := j) (by omega)
  simp at e; subst e; exact hc

theorem bits_fit_ok (hn : n ≤ 1048576) (hK : K (.tuple #[.int .i64 n, .int .i64 (nw n)]) h) : CallV Try.prog w₀ F.bits_fit [.int .i64 (n : Int)] h K := by
  refine bits_fit.call ?_
  unfold bits_fit.vc
  have e1 : (if (1048576 : Int) < (n : Int) then (1048576 : Int) else (n : Int)) = n := if_neg (by omega)
  have e2 : (if (n : Int) > 0 then (n : Int) else 0) = n := by split <;> omega
  have e3 : IntKind.wrap .i64 (Int.tdiv (IntKind.wrap .i64 ((n : Int) + 63)) 64) = (nw n : Nat) := by
    rw [IntKind.wrap_i64 ((n : Int) + 63), show ((n : Int) + 63 + 9223372036854775808) % 18446744073709551616 - 9223372036854775808 = (((n + 63) : Nat) : Int) by omega, Int.tdiv_eq_ediv_of_nonneg (by omega)]
    rw [show (((n + 63 : Nat) : Int) / 64) = (((n + 63) / 64 : Nat) : Int) by omega, IntKind.wrap_i64]
    unfold nw; omega
  rw [e1, e2, e3]
  exact ⟨by decide, hK⟩

theorem nw_mod (n : Nat) (hr : n % 64 ≠ 0) : nw n - 1 < nw n ∧ 64 * (nw n - 1) + n % 64 = n := by unfold nw; omega

theorem nw_in {n j i : Nat} (hj : j < nw n) (hh : j ≠ nw n - 1 ∨ n % 64 = 0) (hi : i < 64) : 64 * j + i < n := by unfold nw at *; omega

theorem nw_last {n i : Nat} (e : n % 64 ≠ 0) (hi : i < 64) : i < n % 64 ↔ 64 * (nw n - 1) + i < n := by have := nw_mod n e; omega

theorem bits_cut_ok (hn : n ≤ 1048576) (H : (setR sb sw n f).P h)
    (hK : ∀ h', Stp h h' (setR sb sw n f) (setR sb sw n fun i => decide (i < n) && f i) → K (.tuple #[]) h') :
    CallV Try.prog w₀ F.bits_Set_cut [.pointer (some ⟨sb, 0, none⟩)] h K := by
  refine bits_Set_cut.call ?_
  unfold bits_Set_cut.vc
  have h0 := set_n H
  have h1 := set_w H
  simp only [jor, jand, cellAt_new, add_mk, List.getElem?_toArray, Nat.zero_add, List.getElem?_cons_zero, List.getElem?_cons_succ, Option.some.injEq, Value.int.injEq, Value.bool.injEq, Value.pointer.injEq, Value.slice.injEq, true_and, and_true, exists_eq_left', exists_eq', and_assoc, exists_and_left, h0, h1]
  have em : Int.tmod (n : Int) 64 = ((n % 64 : Nat) : Int) := by rw [Int.tmod_eq_emod_of_nonneg (by omega)]; omega
  rw [em]
  refine ⟨by decide, fun e => ?_, fun e => ?_⟩
  · have e : n % 64 ≠ 0 := by
      simp only [bne_iff_ne, ne_eq] at e
      omega
    obtain ⟨q1, q2⟩ := nw_mod n e
    have ew : IntKind.wrap .i64 ((nw n : Int) - 1) = ((nw n - 1 : Nat) : Int) := by
      rw [IntKind.wrap_i64]; unfold nw at *; omega
    have et : Int.toNat ((nw n - 1 : Nat) : Int) = nw n - 1 := by omega
    have hw := set_word H (j := nw n - 1) (by omega)
    rw [ew, et]
    simp only [jor, jand, cellAt_new, add_mk, List.getElem?_toArray, Nat.zero_add, List.getElem?_cons_zero, List.getElem?_cons_succ, Option.some.injEq, Value.int.injEq, Value.bool.injEq, Value.pointer.injEq, Value.slice.injEq, true_and, and_true, exists_eq_left', exists_eq', and_assoc, exists_and_left, Nat.mul_one, hw]
    rw [and_low (wd_lt f _) (by omega)]
    obtain ⟨b, eb, hwr, S⟩ := sl_set H.2.1 (o := nw n - 1) (by omega) (.int .u64 ((wd f (nw n - 1) % 2 ^ (n % 64) : Nat) : Int))
    simp at eb; subst eb
    refine ⟨by omega, by omega, by decide, by omega, by omega, by omega, hwr, hK _ ?_⟩
    refine Stp.right (S.conv (fun P => sl_congr P fun j hj => ?_) fun _ e => e) H
    split
    · rename_i hj'
      subst hj'
      congr 1
      refine congrArg _ (wd_eq (Nat.lt_of_le_of_lt (Nat.mod_le _ _) (wd_lt _ _)) fun i hi => ?_)
      rw [Nat.testBit_mod_two_pow, wd_bit]
      simp only [hi, decide_true, Bool.true_and]
      congr 1
      rw [decide_eq_decide]
      exact nw_last e hi
    · rename_i hj'
      refine congrArg _ (congrArg _ (wd_congr fun i hi => ?_))
      simp [nw_in (j := j) (by omega) (.inl hj') hi]
  · have e : n % 64 = 0 := by
      simp at e
      omega
    refine hK _ ⟨Upd.refl _ _, ⟨H.1, sl_congr H.2.1 fun j hj => ?_, H.2.2⟩, fun _ e => .inl e⟩
    refine congrArg _ (congrArg _ (wd_congr fun i hi => ?_))
    simp [nw_in (j := j) (by omega) (.inr e) hi]

/-- Of: a Set of words that are handed in. -/
theorem bits_Of_ok {p : Option Addr} {m c : Nat} {ws : Nat → Nat} (hn : n ≤ 1048576) (hr : Row h p m fun j => .int .u64 (ws j)) (hw : ∀ j, j < m → ws j < 18446744073709551616)
    (hK : ∀ (h' : Heap) (sb sw : Nat), New h h' (setR sb sw n fun i => decide (i < n) && (decide (i / 64 < m) && (ws (i / 64)).testBit (i % 64))) → K (.pointer (some ⟨sb, 0, none⟩)) h') :
    CallV Try.prog w₀ F.bits_Of [.slice p m c, .int .i64 (n : Int)] h K := by
  refine bits_Of.call ?_
  unfold bits_Of.vc
  refine bits_fit_ok hn ⟨_, _, rfl, ?_⟩
  have hnw : nw n ≤ 16384 := by unfold nw; omega
  have et : Int.toNat ((nw n : Nat) : Int) = nw n := by omega
  have A := sl_make h [(.int .u64 (0 : Int))] T.T_uint64 (nw n) (nw n) (Nat.le_refl _)
  rw [et]
  let h1 : Heap := Array.push h (.cells (List.toArray (zrow [(.int .u64 (0 : Int))] (nw n))) T.T_uint64)
  have s1 : h1.size = h.size + 1 := by simp [h1]
  have B := New.box h1 #[.int .i64 (n : Int), .slice (some ⟨h.size, 0, none⟩) (nw n) (nw n)] T.T_bits_Set
  have AB := A.and B
  let h2 : Heap := Array.push h1 (.cells #[.int .i64 (n : Int), .slice (some ⟨h.size, 0, none⟩) (nw n) (nw n)] T.T_bits_Set)
  have C := Blk.cell (i := 1) AB.p.2.1 (show 1 < 2 by omega)
  refine ⟨by omega, by omega, by omega, _, rfl, _, _, _, by rw [add_mk]; exact C, ?_⟩
  have hrow2 : Row h2 p m fun j => .int .u64 (ws j) := hr.upd AB.u fun _ _ => id
  have hk : Nat.min m (nw n) ≤ nw n := Nat.min_le_right _ _
  have hm : Nat.min m (nw n) ≤ m := Nat.min_le_left _ _
  have hrow3 : Row h2 p (Nat.min m (nw n)) fun j => .int .u64 (ws j) := by
    rcases hrow2 with e | ⟨b, o, e, hc⟩
    · exact .inl (by rw [e]; simp)
    · exact .inr ⟨b, o, e, fun i hi => hc i (by omega)⟩
  let xs := lst (Nat.min m (nw n)) fun j => .int .u64 (ws j)
  have hxl : xs.length = Nat.min m (nw n) := by simp [xs]
  have hone : ∀ v ∈ xs, oneC v = true := by
    intro v hv
    simp only [xs, lst, List.mem_map] at hv
    obtain ⟨j, _, rfl⟩ := hv
    rfl
  -- the words, copied
  obtain ⟨b1, g1, e1, B1, hc1, hg1⟩ : ∃ b g, (some (⟨h.size, 0, none⟩ : Addr)) = some ⟨b, 0, none⟩ ∧ Blk h2 b (nw n * 1) g ∧ nw n ≤ nw n ∧ ∀ i, i < nw n * 1 → g i = .int .u64 (0 : Int) := by
    obtain ⟨hc, ⟨e, _⟩ | ⟨b, g, e, B, hg⟩⟩ := AB.p.1
    · cases e
    · exact ⟨b, g, e, B, hc, fun i hi => by rw [hg i hi]; simp [Nat.mod_one]⟩
  simp at e1; subst e1
  have S3 : Stp h2 (wrH h2 (some ⟨h.size, 0, none⟩) xs) (andR (slR (some ⟨h.size, 0, none⟩) (nw n) (nw n) 1 fun _ => .int .u64 0) (blkR h1.size 2 (setF n h.size))) (andR (slR (some ⟨h.size, 0, none⟩) (nw n) (nw n) 1 fun j => .int .u64 (wd (fun i => decide (i / 64 < m) && (ws (i / 64)).testBit (i % 64)) j)) (blkR h1.size 2 (setF n h.size))) := by
    refine Stp.left ?_ ?_
    · refine ⟨(setCs_upd xs h2 ⟨h.size, 0, none⟩ 0).mono fun x hx _ => by rw [hx]; rfl, ⟨Nat.le_refl _, .inr ⟨h.size, _, rfl, B1.sets xs 0 0, fun i hi => ?_⟩⟩, fun _ e => .inl e⟩
      rw [Nat.mul_one] at hi
      simp only [Nat.zero_add, Nat.zero_le, true_and, hxl, Nat.sub_zero]
      split
      · rename_i hi2
        simp only [xs]
        rw [lst_getD hi2]
        have him : i < m := by omega
        refine congrArg _ (congrArg _ (wd_eq (hw i him) fun k hk => ?_))
        have q1 : (64 * i + k) / 64 = i := by omega
        have q2 : (64 * i + k) % 64 = k := by omega
        simp only [q1, q2, him, decide_true, Bool.true_and]
      · rename_i hi2
        have him : ¬ i < m := fun e => hi2 (by show i < Nat.min m (nw n); rw [Nat.lt_min]; exact ⟨e, hi⟩)
        rw [hg1 i (by omega)]
        refine congrArg _ ?_
        have : wd (fun i => decide (i / 64 < m) && (ws (i / 64)).testBit (i % 64)) i = 0 := by
          symm
          refine wd_eq (by decide) fun k hk => ?_
          have q1 : (64 * i + k) / 64 = i := by omega
          simp only [q1, him, decide_false, Bool.false_and, Nat.zero_testBit]
        rw [this]; rfl
    · refine ⟨⟨Nat.le_refl _, .inr ⟨h.size, g1, rfl, B1, hg1⟩⟩, AB.p.2.1.congr fun i hi => ?_, AB.p.2.2⟩
      have : i < 2 := hi
      have : i = 0 ∨ i = 1 := by omega
      rcases this with rfl | rfl <;> rfl
  refine ⟨xs, ⟨by omega, hrow3.rowAt, hone, fun a ha j hj => ?_⟩, ?_⟩
  · simp only [Option.some.injEq] at ha; subst ha; rw [add_mk]; exact B1.wr (by omega)
  have N3 : New h (wrH h2 (some ⟨h.size, 0, none⟩) xs) (setR h1.size h.size n fun i => decide (i / 64 < m) && (ws (i / 64)).testBit (i % 64)) :=
    (AB.conv (R' := andR (slR (some ⟨h.size, 0, none⟩) (nw n) (nw n) 1 fun _ => .int .u64 0) (blkR h1.size 2 (setF n h.size))) (fun _ => ⟨⟨Nat.le_refl _, .inr ⟨h.size, g1, rfl, B1, hg1⟩⟩, AB.p.2.1.congr fun i hi => by
        have : i < 2 := hi
        have : i = 0 ∨ i = 1 := by omega
        rcases this with rfl | rfl <;> rfl, AB.p.2.2⟩) fun _ e => e).stp S3 |>.conv (fun H => ⟨H.2.1, H.1, fun b e e' => H.2.2 b e' e⟩) fun b e => e.symm
  refine bits_cut_ok hn N3.p fun h' S => ⟨rfl, hK _ _ _ (N3.stp S)⟩

end
end Go.Proofs.Ytnplkinakaepdaa
