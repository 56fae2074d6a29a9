/- bits: sets asked and changed. No condition. -/
import Derived.Test.YtnplkinakaepdaaP1
set_option linter.unusedSimpArgs false
set_option linter.unusedVariables false
namespace Go.Proofs.Ytnplkinakaepdaa
open Go.V Classical

section
variable {w₀ : World} {h : Heap} {sb sw n : Nat} {f : Nat → Bool} {K : Value → Heap → Prop}

theorem setR_congr {g : Nat → Bool} (H : (setR sb sw n f).P h) (hf : ∀ i, f i = g i) : (setR sb sw n g).P h := by
  have : f = g := funext hf
  rw [← this]; exact H

theorem bits_NewSet_ok (hn : n ≤ 1048576) (hK : ∀ (h' : Heap) (sb sw : Nat), New h h' (setR sb sw n fun _ => false) → K (.pointer (some ⟨sb, 0, none⟩)) h') :
    CallV Try.prog w₀ F.bits_NewSet [.int .i64 (n : Int)] h K := by
  refine bits_NewSet.call ?_
  unfold bits_NewSet.vc
  refine bits_Of_ok (m := 0) (ws := fun _ => 0) hn (.inl rfl) (fun j hj => absurd hj (by omega)) fun h' sb sw N => ⟨_, rfl, hK h' sb sw (N.conv (fun H => setR_congr H fun i => by simp) fun _ e => e)⟩

theorem bits_has_ok {i : Int} (H : (setR sb sw n f).P h) (hK : K (.bool (decide (0 ≤ i ∧ i < n))) h) : CallV Try.prog w₀ F.bits_Set_has [.pointer (some ⟨sb, 0, none⟩), .int .i64 i] h K := by
  refine bits_Set_has.call ?_
  unfold bits_Set_has.vc
  have h0 := set_n H
  simp only [jor, jand, cellAt_new, add_mk, List.getElem?_toArray, Nat.zero_add, List.getElem?_cons_zero, List.getElem?_cons_succ, Option.some.injEq, Value.int.injEq, Value.bool.injEq, Value.pointer.injEq, Value.slice.injEq, true_and, and_true, exists_eq_left', exists_eq', and_assoc, exists_and_left, h0]
  have : (decide (i ≥ 0) && decide (i < (n : Int))) = decide (0 ≤ i ∧ i < n) := by rw [Bool.eq_iff_iff]; simp
  rw [this]
  exact hK

theorem div64 {i : Nat} (hi : i < 9223372036854775808) : IntKind.wrap .i64 (Int.tdiv (i : Int) 64) = ((i / 64 : Nat) : Int) := by
  rw [Int.tdiv_eq_ediv_of_nonneg (by omega), show ((i : Int) / 64) = ((i / 64 : Nat) : Int) by omega, IntKind.wrap_i64]
  omega

theorem mod64 {i : Nat} : Int.tmod (i : Int) 64 = ((i % 64 : Nat) : Int) := by rw [Int.tmod_eq_emod_of_nonneg (by omega)]; omega

theorem div_nw {i n : Nat} (hi : i < n) : i / 64 < nw n := by unfold nw; omega

theorem bits_Get_ok {i : Nat} (hn : n ≤ 1048576) (hi : i < 9223372036854775808) (hf : ∀ i, f i = true → i < n) (H : (setR sb sw n f).P h) (hK : K (.bool (f i)) h) : CallV Try.prog w₀ F.bits_Set_Get [.pointer (some ⟨sb, 0, none⟩), .int .i64 (i : Int)] h K := by
  refine bits_Set_Get.call ?_
  unfold bits_Set_Get.vc
  refine bits_has_ok H ⟨_, rfl, ?_⟩
  have h1 := set_w H
  by_cases hin : i < n
  · have e : decide (0 ≤ (i : Int) ∧ (i : Int) < n) = true := by simp; omega
    rw [e]
    simp only [jor, jand, cellAt_new, add_mk, List.getElem?_toArray, Nat.zero_add, List.getElem?_cons_zero, List.getElem?_cons_succ, Option.some.injEq, Value.int.injEq, Value.bool.injEq, Value.pointer.injEq, Value.slice.injEq, true_and, and_true, exists_eq_left', exists_eq', and_assoc, exists_and_left, h1]
    intro J k
    have hw := set_word H (div_nw hin)
    rw [div64 hi, mod64]
    have et : Int.toNat ((i / 64 : Nat) : Int) = i / 64 := by omega
    simp only [et, jor, jand, cellAt_new, add_mk, List.getElem?_toArray, Nat.zero_add, List.getElem?_cons_zero, List.getElem?_cons_succ, Option.some.injEq, Value.int.injEq, Value.bool.injEq, Value.pointer.injEq, Value.slice.injEq, true_and, and_true, exists_eq_left', exists_eq', and_assoc, exists_and_left, Nat.mul_one, hw]
    rw [shr_and_one (wd_lt _ _) (by omega), wd_bit]
    have e2 : (decide (i % 64 < 64) && f (64 * (i / 64) + i % 64)) = f i := by
      rw [show 64 * (i / 64) + i % 64 = i by omega]
      have : i % 64 < 64 := by omega
      simp [this]
    rw [e2]
    have := div_nw hin
    exact ⟨fun _ => ⟨by decide, by omega, by omega, by decide, by omega, k _ _ hK⟩, fun e => by cases e⟩
  · have e : decide (0 ≤ (i : Int) ∧ (i : Int) < n) = false := by simp; omega
    rw [e]
    have e2 : f i = false := by
      cases hfi : f i
      · rfl
      · exact absurd (hf i hfi) hin
    rw [e2] at hK
    intro J k
    exact ⟨fun e => (by cases e), fun _ => k _ _ hK⟩

theorem bits_Flip_ok {i : Nat} (hi : i < n) (hn : n ≤ 1048576) (H : (setR sb sw n f).P h)
    (hK : ∀ h', Stp h h' (setR sb sw n f) (setR sb sw n fun j => if j = i then !f i else f j) → K (.bool true) h') :
    CallV Try.prog w₀ F.bits_Set_Flip [.pointer (some ⟨sb, 0, none⟩), .int .i64 (i : Int)] h K := by
  refine bits_Set_Flip.call ?_
  unfold bits_Set_Flip.vc
  refine bits_has_ok H ⟨_, rfl, ?_⟩
  have h1 := set_w H
  have e : decide (0 ≤ (i : Int) ∧ (i : Int) < n) = true := by simp; omega
  rw [e]
  simp only [jor, jand, cellAt_new, add_mk, List.getElem?_toArray, Nat.zero_add, List.getElem?_cons_zero, List.getElem?_cons_succ, Option.some.injEq, Value.int.injEq, Value.bool.injEq, Value.pointer.injEq, Value.slice.injEq, true_and, and_true, exists_eq_left', exists_eq', and_assoc, exists_and_left, h1]
  have hw := set_word H (div_nw hi)
  rw [div64 (by omega), mod64]
  have et : Int.toNat ((i / 64 : Nat) : Int) = i / 64 := by omega
  simp only [et, jor, jand, cellAt_new, add_mk, List.getElem?_toArray, Nat.zero_add, List.getElem?_cons_zero, List.getElem?_cons_succ, Option.some.injEq, Value.int.injEq, Value.bool.injEq, Value.pointer.injEq, Value.slice.injEq, true_and, and_true, exists_eq_left', exists_eq', and_assoc, exists_and_left, Nat.mul_one, hw]
  rw [xor_pow (wd_lt _ _) (by omega)]
  have hq := div_nw hi
  obtain ⟨b, eb, hwr, S⟩ := sl_set H.2.1 (o := i / 64) (by omega) (.int .u64 ((wd f (i / 64) ^^^ 2 ^ (i % 64) : Nat) : Int))
  simp at eb; subst eb
  refine ⟨fun e => (by cases e), fun _ => ⟨by decide, by omega, by omega, by decide, by omega, by omega, by omega, hwr, hK _ ?_⟩⟩
  refine Stp.right (S.conv (fun P => sl_congr P fun j hj => ?_) fun _ e => e) H
  split
  · rename_i hj'
    subst hj'
    refine congrArg _ (congrArg _ (wd_eq (Nat.xor_lt_two_pow (n := 64) (wd_lt _ _) (Nat.pow_lt_pow_right (by decide) (by omega))) fun k hk => ?_))
    rw [Nat.testBit_xor, wd_bit, Nat.testBit_two_pow]
    simp only [hk, decide_true, Bool.true_and]
    by_cases hik : i % 64 = k
    · have : 64 * (i / 64) + k = i := by omega
      simp [hik, this]
    · have : 64 * (i / 64) + k ≠ i := by omega
      simp [hik, this]
  · rename_i hj'
    refine congrArg _ (congrArg _ (wd_congr fun k hk => ?_))
    have : 64 * j + k ≠ i := by omega
    simp [this]

/-- Words: new memory. -/
theorem bits_Words_ok (hn : n ≤ 1048576) (H : (setR sb sw n f).P h)
    (hK : ∀ (h' : Heap) (p : Option Addr) (c : Nat), New h h' (slR p (nw n) c 1 fun j => .int .u64 (wd f j)) → K (.slice p (nw n) c) h') :
    CallV Try.prog w₀ F.bits_Set_Words [.pointer (some ⟨sb, 0, none⟩)] h K := by
  refine bits_Set_Words.call ?_
  unfold bits_Set_Words.vc
  have h1 := set_w H
  simp only [jor, jand, cellAt_new, add_mk, List.getElem?_toArray, Nat.zero_add, List.getElem?_cons_zero, List.getElem?_cons_succ, Option.some.injEq, Value.int.injEq, Value.bool.injEq, Value.pointer.injEq, Value.slice.injEq, true_and, and_true, exists_eq_left', exists_eq', and_assoc, exists_and_left, h1]
  have hq : nw n ≤ 16384 := by unfold nw; omega
  have hrow : Row h (some ⟨sw, 0, none⟩) (nw n) fun j => .int .u64 (wd f j) := by
    have := sl_row H.2.1
    rw [Nat.mul_one] at this
    exact this
  obtain ⟨os, hp, hS⟩ := sl_app (e := T.T_uint64) (b := 8) (zs := [(.int .u64 (0 : Int))]) (m := nw n) (sl_nil 1 (fun j => .int .u64 (wd f j)) h) (by decide) (xs := lst (nw n) fun j => .int .u64 (wd f j)) (by simp) hrow.rowAt (fun v hv => by
    simp only [lst, List.mem_map] at hv
    obtain ⟨j, _, rfl⟩ := hv
    rfl) (by omega)
  refine ⟨os, _, hp, fun p' c' h' hres => ?_⟩
  have S := hS p' c' h' hres
  simp only [Nat.zero_add] at S
  refine hK h' p' c' ((New.of_stp S sl_nil_fp).conv (fun P => sl_congr P fun j hj => ?_) fun _ e => e)
  simp only [List.length_cons, List.length_nil, Nat.zero_add, Nat.zero_mul, Nat.mul_one] at hj
  have : j < nw n := by omega
  simp only [List.length_cons, List.length_nil, Nat.zero_add, Nat.zero_mul, Nat.not_lt_zero, if_false, Nat.sub_zero]
  rw [lst_getD this]

/-- Resize: longer or shorter. -/
theorem bits_Resize_ok {m : Nat} (hn : n ≤ 1048576) (hm : m ≤ 1048576) (hf : ∀ i, f i = true → i < n) (H : (setR sb sw n f).P h)
    (hK : ∀ (h' : Heap) (sw' : Nat), Stp h h' (setR sb sw n f) (setR sb sw' m fun i => decide (i < m) && f i) → K (.tuple #[]) h') :
    CallV Try.prog w₀ F.bits_Set_Resize [.pointer (some ⟨sb, 0, none⟩), .int .i64 (m : Int)] h K := by
  refine bits_Set_Resize.call ?_
  unfold bits_Set_Resize.vc
  have h1 := set_w H
  simp only [jor, jand, cellAt_new, add_mk, List.getElem?_toArray, Nat.zero_add, List.getElem?_cons_zero, List.getElem?_cons_succ, Option.some.injEq, Value.int.injEq, Value.bool.injEq, Value.pointer.injEq, Value.slice.injEq, true_and, and_true, exists_eq_left', exists_eq', and_assoc, exists_and_left, h1]
  have hrow : Row h (some ⟨sw, 0, none⟩) (nw n) fun j => .int .u64 (wd f j) := by
    have := sl_row H.2.1
    rw [Nat.mul_one] at this
    exact this
  refine bits_Of_ok (ws := wd f) hm hrow (fun j _ => wd_lt _ _) fun h' tb tw N => ⟨_, rfl, ?_⟩
  have e0 := set_n N.p
  have e1 := set_w N.p
  simp only [jor, jand, cellAt_new, add_mk, List.getElem?_toArray, Nat.zero_add, List.getElem?_cons_zero, List.getElem?_cons_succ, Option.some.injEq, Value.int.injEq, Value.bool.injEq, Value.pointer.injEq, Value.slice.injEq, true_and, and_true, exists_eq_left', exists_eq', and_assoc, exists_and_left, e0, e1]
  have H' := (setR sb sw n f).st H N.u fun _ _ => id
  have htw : h.size ≤ tw := N.g tw (.inr rfl)
  have B : Blk h' sb 2 (setF n sw) := H'.1
  refine ⟨fun j hj => by rw [add_mk]; exact B.wr (by omega), hK _ tw ?_⟩
  have hsb : sb < h.size := (setR sb sw n f).lt H sb (.inl rfl)
  have hne : tw ≠ sb := by omega
  have u2 : Upd (fun b => b = sb) h' (setCs h' ⟨sb, 0, none⟩ 0 [.int .i64 (m : Int), .slice (some ⟨tw, 0, none⟩) (nw m) (nw m)]) := setCs_upd _ _ _ _
  refine ⟨(N.u.mono fun b e _ => e.elim : Upd (setR sb sw n f).fp h h').nx u2 fun b e _ => .inl e, ⟨(B.sets _ 0 0).congr fun j hj => ?_, ?_, fun b e e' => ?_⟩, fun b e => ?_⟩
  · have : j = 0 ∨ j = 1 := by omega
    rcases this with rfl | rfl <;> rfl
  · have := N.p.2.1
    refine sl_congr ((slR _ _ _ _ _).st this u2 fun b e e' => ?_) fun j hj => ?_
    · have e : some (⟨tw, 0, none⟩ : Addr) = some ⟨b, 0, none⟩ := e
      simp at e
    · refine congrArg _ (congrArg _ (wd_congr fun i hi => ?_))
      by_cases h1 : 64 * j + i < m
      · simp only [h1, decide_true, Bool.true_and]
        have q1 : (64 * j + i) / 64 = j := by omega
        have q2 : (64 * j + i) % 64 = i := by omega
        rw [q1, q2, wd_bit]
        simp only [hi, decide_true, Bool.true_and]
        by_cases h2 : j < nw n
        · simp [h2]
        · have : f (64 * j + i) = false := by
            cases hfi : f (64 * j + i)
            · rfl
            · have := hf _ hfi
              exact absurd (by unfold nw; omega) h2
          simp [h2, this]
      · simp [h1]
  · have e' : some (⟨tw, 0, none⟩ : Addr) = some ⟨b, 0, none⟩ := e'
    simp at e'
    exact hne (by rw [e']; exact e)
  · rcases e with e | e
    · exact .inl (.inl e)
    · have e : some (⟨tw, 0, none⟩ : Addr) = some ⟨b, 0, none⟩ := e
      simp at e
      exact .inr (by omega)

end
end Go.Proofs.Ytnplkinakaepdaa
