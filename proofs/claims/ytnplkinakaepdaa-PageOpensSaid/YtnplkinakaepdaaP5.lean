/- pagemap: slab pages set; heads; pair bits. No condition. -/
import Derived.Test.YtnplkinakaepdaaP4
set_option linter.unusedSimpArgs false
set_option linter.unusedVariables false
namespace Go.Proofs.Ytnplkinakaepdaa
open Go.V Classical

section
variable {w₀ : World} {h : Heap} {mb o n : Nat} {pg : Nat → Nat → Int} {w : MW} {ns : Nat → Nat} {bt : Nat → Nat → Bool} {s : MS} {K : Value → Heap → Prop}

theorem setP_stp {h' : Heap} {m : Nat} {Q : Nat → Int} {pg' : Nat → Nat → Int} (S : Stp h h' (mapQ mb o n pg w ns bt) (mapQ mb o n pg' w ns bt)) (he : ∀ x, x < n → ∀ j, j < 11 → pg' x j = putP pg m Q x j) :
    Stp h h' (mapQ mb o n pg w ns bt) (mapQ mb o n (putP pg m Q) w ns bt) := S.conv (fun P => mapQ_congr P he (fun _ _ => rfl) fun _ _ _ => rfl) fun _ e => e

theorem pm_Own_ok {i c : Int} {live : Bool} (hT : ∀ i, i < n → PgT (pg i)) (H : (mapQ mb o n pg w ns bt).P h)
    (hy : ∀ m k : Nat, i = m → m < n → pg m 0 = 4 → c = k → k < ncells (pg m) → pbit (pg m) k ≠ live → ∀ h', Stp h h' (mapQ mb o n pg w ns bt) (mapQ mb o n (putP pg m (pown (pg m) k live)) w ns bt) → K (.int .i64 0) h')
    (hn : ¬ (0 ≤ i ∧ i < n ∧ pg i.toNat 0 = 4 ∧ 0 ≤ c ∧ c < ncells (pg i.toNat) ∧ pbit (pg i.toNat) c.toNat ≠ live) → ∀ h', Upd NoB h h' → K (.int .i64 1) h') :
    CallV Try.prog w₀ F.pagemap_Map_Own [.pointer (some ⟨mb, 0, none⟩), .int .i64 i, .int .i64 c, .bool live] h K := by
  refine pagemap_Map_Own.call ?_
  unfold pagemap_Map_Own.vc
  refine pm_slab_ok H (fun m hi hm h4 h1 b u1 hb => ⟨_, _, rfl, ?_⟩) fun hi h1 u1 => ⟨_, _, rfl, ?_⟩
  case refine_2 =>
    intro J k
    refine pT rfl (k _ _ ?_)
    intro J3 k3
    exact pT rfl (k3 _ _ ⟨fun _ => hn (fun e => hi ⟨e.1, e.2.1, e.2.2.1⟩) _ u1, fun e => by cases e⟩)
  subst hi
  have T := hT m hm
  have H1 := (mapQ mb o n pg w ns bt).st H u1 fun _ _ => id
  have hcb := ncells_bd T.c
  have hcw : IntKind.wrap .i64 ((ncells (pg m) : Int) - 1) = (ncells (pg m) : Int) - 1 := by rw [IntKind.wrap_i64]; omega
  obtain ⟨b', eb', hcell⟩ := mq_page H1 hm
  rw [hb] at eb'
  simp at eb'; subst eb'
  intro J k
  refine pF rfl (pm_cells_ok hm hb T.c H1 ⟨_, rfl, pm_within_ok ⟨_, rfl, k _ _ ?_⟩⟩)
  rw [hcw]
  intro J3 k3
  refine ⟨fun e => ?_, fun e => k3 _ _ ⟨fun _ => hn (fun e' => ?_) _ u1, fun e' => by cases e'⟩⟩
  case refine_2 =>
    simp at e
    have := e'.2.2.2.2.1
    simp only [Int.toNat_natCast] at this
    omega
  simp at e
  obtain ⟨k', rfl⟩ : ∃ k' : Nat, c = k' := ⟨c.toNat, by omega⟩
  have hk : k' < ncells (pg m) := by omega
  have hk2 : k' < 256 := by omega
  obtain ⟨x, hx⟩ : ∃ x : Nat, pg m (7 + k' / 64) = x := ⟨(pg m (7 + k' / 64)).toNat, by have := T.u (7 + k' / 64) (by omega) (by omega); omega⟩
  have hx2 : x < 18446744073709551616 := by have := T.u (7 + k' / 64) (by omega) (by omega); omega
  have hcx := hcell (7 + k' / 64) (by omega)
  have hpc : pcl (7 + k' / 64) (pg m (7 + k' / 64)) = .int .u64 (x : Int) := by unfold pcl; rw [if_neg (by omega), hx]
  rw [hpc] at hcx
  have ha : m * 11 + (7 + k' / 64) = m * 11 + 7 + k' / 64 := by omega
  rw [ha] at hcx
  rw [div64 (by omega), mod64, Int.toNat_natCast]
  simp only [jor, jand, cellAt_new, add_mk, List.getElem?_toArray, Nat.zero_add, List.getElem?_cons_zero, List.getElem?_cons_succ, Option.some.injEq, Value.int.injEq, Value.bool.injEq, Value.pointer.injEq, Value.slice.injEq, true_and, and_true, exists_eq_left', exists_eq', and_assoc, exists_and_left, Nat.mul_one, hcx]
  refine ⟨by decide, by omega, by omega, by decide, by omega, ?_⟩
  rw [shr_and_one hx2 (by omega)]
  have hpb : x.testBit (k' % 64) = pbit (pg m) k' := by unfold pbit; rw [hx]; rfl
  rw [hpb]
  refine k3 _ _ ⟨fun e2 => hn (fun e' => ?_) _ u1, fun e2 => ?_⟩
  · have := e'.2.2.2.2.2
    simp at e2 this
    exact this e2
  have hne : pbit (pg m) k' ≠ live := by simpa using e2
  rw [div64 (by omega), mod64, Int.toNat_natCast]
  simp only [jor, jand, cellAt_new, add_mk, List.getElem?_toArray, Nat.zero_add, List.getElem?_cons_zero, List.getElem?_cons_succ, Option.some.injEq, Value.int.injEq, Value.bool.injEq, Value.pointer.injEq, Value.slice.injEq, true_and, and_true, exists_eq_left', exists_eq', and_assoc, exists_and_left, Nat.mul_one, hcx]
  rw [xor_pow hx2 (by omega)]
  obtain ⟨b2, eb2, hw, S⟩ := stp_cell hm (j := 7 + k' / 64) (by omega) (((x ^^^ 2 ^ (k' % 64) : Nat)) : Int) H1
  rw [hb] at eb2
  simp at eb2; subst eb2
  rw [ha] at hw S
  have hpv : pcl (7 + k' / 64) (((x ^^^ 2 ^ (k' % 64) : Nat)) : Int) = .int .u64 ((x ^^^ 2 ^ (k' % 64) : Nat) : Int) := by unfold pcl; rw [if_neg (by omega)]
  rw [hpv] at S
  obtain ⟨b3, eb3, hcell3⟩ := mq_page S.p hm
  rw [hb] at eb3
  simp at eb3; subst eb3
  have h3 := hcell3 3 (by omega)
  have e3 : pcl 3 (if m = m ∧ 3 = 7 + k' / 64 then (((x ^^^ 2 ^ (k' % 64) : Nat)) : Int) else pg m 3) = .int .i64 (pg m 3) := by rw [if_neg (by omega)]; rfl
  rw [e3] at h3
  refine ⟨by decide, by omega, by omega, by decide, by omega, by omega, by omega, hw, ?_⟩
  intro J5 k5
  have fin : ∀ (hz : Heap) (v : Int), v = IntKind.wrap .i64 (if live then pg m 3 + 1 else pg m 3 - 1) → Wr (setC h1 ⟨b, m * 11 + 7 + k' / 64, none⟩ (.int .u64 ((x ^^^ 2 ^ (k' % 64) : Nat) : Int))) ⟨b, m * 11 + 3, none⟩ ∧ J5 [] (setC (setC h1 ⟨b, m * 11 + 7 + k' / 64, none⟩ (.int .u64 ((x ^^^ 2 ^ (k' % 64) : Nat) : Int))) ⟨b, m * 11 + 3, none⟩ (.int .i64 v)) := by
    intro hz v hv
    obtain ⟨b4, eb4, hw4, S4⟩ := stp_cell hm (j := 3) (by omega) v S.p
    rw [hb] at eb4
    simp at eb4; subst eb4
    refine ⟨hw4, k5 _ (hy m k' rfl hm h4 rfl hk hne _ (setP_stp ((Stp.quiet H u1).trans (S.trans S4)) fun y hy' j hj => ?_))⟩
    unfold putP pown
    by_cases h1 : y = m
    · subst h1
      by_cases h2 : j = 3
      · subst h2; simp [hv]
      · by_cases h5 : j = 7 + k' / 64
        · subst h5
          have : ¬ (7 + k' / 64 = 3) := by omega
          simp [this, hx]
        · simp [h2, h5]
    · simp [h1]
  cases live
  · exact ⟨fun e => (by cases e), fun _ => ⟨_, h3, fin h1 _ rfl⟩⟩
  · exact ⟨fun _ => ⟨_, h3, fin h1 _ rfl⟩, fun e => by cases e⟩

theorem pm_Chain_ok {i p q : Int} (hn1 : n ≤ 1024) (H : (mapQ mb o n pg w ns bt).P h)
    (hy : ∀ m : Nat, i = m → m < n → pg m 0 = 4 → -1 ≤ p → p < n → -1 ≤ q → q < n → ∀ h', Stp h h' (mapQ mb o n pg w ns bt) (mapQ mb o n (putP pg m fun j => if j = 4 then p else if j = 5 then q else pg m j) w ns bt) → K (.int .i64 0) h')
    (hn : ¬ (0 ≤ i ∧ i < n ∧ pg i.toNat 0 = 4 ∧ -1 ≤ p ∧ p < n ∧ -1 ≤ q ∧ q < n) → ∀ h', Upd NoB h h' → K (.int .i64 1) h') :
    CallV Try.prog w₀ F.pagemap_Map_Chain [.pointer (some ⟨mb, 0, none⟩), .int .i64 i, .int .i64 p, .int .i64 q] h K := by
  refine pagemap_Map_Chain.call ?_
  unfold pagemap_Map_Chain.vc
  refine pm_slab_ok H (fun m hi hm h4 h1 b u1 hb => ⟨_, _, rfl, ?_⟩) fun hi h1 u1 => ⟨_, _, rfl, ?_⟩
  case refine_2 =>
    intro J k
    refine pT rfl (k _ _ ?_)
    intro J3 k3
    exact pT rfl (k3 _ _ ⟨fun _ => hn (fun e => hi ⟨e.1, e.2.1, e.2.2.1⟩) _ u1, fun e => by cases e⟩)
  subst hi
  have H1 := (mapQ mb o n pg w ns bt).st H u1 fun _ _ => id
  have hg := mq_g H1
  have hw1 : IntKind.wrap .i64 ((n : Int) - 1) = (n : Int) - 1 := by rw [IntKind.wrap_i64]; omega
  intro J k
  refine pF rfl ⟨_, rfl, _, _, _, by rw [add_mk]; exact hg, ?_⟩
  rw [hw1]
  refine pm_within_ok ⟨_, rfl, k _ _ ?_⟩
  intro J3 k3
  refine ⟨fun e => ⟨_, rfl, _, _, _, by rw [add_mk]; exact hg, ?_⟩, fun e => k3 _ _ ⟨fun _ => hn (fun e' => ?_) _ u1, fun e' => by cases e'⟩⟩
  · rw [hw1]
    refine pm_within_ok ⟨_, rfl, k3 _ _ ⟨fun e2 => hn (fun e' => by simp at e e2; omega) _ u1, fun e2 => ?_⟩⟩
    simp at e e2
    simp only [jor, jand, cellAt_new, add_mk, List.getElem?_toArray, Nat.zero_add, List.getElem?_cons_zero, List.getElem?_cons_succ, Option.some.injEq, Value.int.injEq, Value.bool.injEq, Value.pointer.injEq, Value.slice.injEq, true_and, and_true, exists_eq_left', exists_eq', and_assoc, exists_and_left]
    obtain ⟨b2, eb2, hw, S⟩ := stp_cell hm (j := 4) (by omega) p H1
    rw [hb] at eb2
    simp at eb2; subst eb2
    obtain ⟨b3, eb3, hw3, S3⟩ := stp_cell hm (j := 5) (by omega) q S.p
    rw [hb] at eb3
    simp at eb3; subst eb3
    refine ⟨hw, hw3, hy m rfl hm h4 (by omega) (by omega) (by omega) (by omega) _ (setP_stp ((Stp.quiet H u1).trans (S.trans S3)) fun y hy' j hj => ?_)⟩
    unfold putP
    by_cases h1 : y = m
    · subst h1
      by_cases h2 : j = 4
      · subst h2; simp
      · by_cases h5 : j = 5 <;> simp [h2, h5]
    · simp [h1]
  · simp at e; omega

theorem pm_First_ok {i c : Int} (hT : ∀ i, i < n → PgT (pg i)) (H : (mapQ mb o n pg w ns bt).P h)
    (hy : ∀ m : Nat, i = m → m < n → pg m 0 = 4 → -1 ≤ c → c < ncells (pg m) → ∀ h', Stp h h' (mapQ mb o n pg w ns bt) (mapQ mb o n (putP pg m fun j => if j = 6 then c else pg m j) w ns bt) → K (.int .i64 0) h')
    (hn : ¬ (0 ≤ i ∧ i < n ∧ pg i.toNat 0 = 4 ∧ -1 ≤ c ∧ c < ncells (pg i.toNat)) → ∀ h', Upd NoB h h' → K (.int .i64 1) h') :
    CallV Try.prog w₀ F.pagemap_Map_First [.pointer (some ⟨mb, 0, none⟩), .int .i64 i, .int .i64 c] h K := by
  refine pagemap_Map_First.call ?_
  unfold pagemap_Map_First.vc
  refine pm_slab_ok H (fun m hi hm h4 h1 b u1 hb => ⟨_, _, rfl, ?_⟩) fun hi h1 u1 => ⟨_, _, rfl, ?_⟩
  case refine_2 =>
    intro J k
    exact pT rfl (k _ _ ⟨fun _ => hn (fun e => hi ⟨e.1, e.2.1, e.2.2.1⟩) _ u1, fun e => by cases e⟩)
  subst hi
  have T := hT m hm
  have H1 := (mapQ mb o n pg w ns bt).st H u1 fun _ _ => id
  have hcb := ncells_bd T.c
  have hcw : IntKind.wrap .i64 ((ncells (pg m) : Int) - 1) = (ncells (pg m) : Int) - 1 := by rw [IntKind.wrap_i64]; omega
  intro J k
  refine pF rfl (pm_cells_ok hm hb T.c H1 ⟨_, rfl, pm_within_ok ⟨_, rfl, k _ _ ?_⟩⟩)
  rw [hcw]
  refine ⟨fun e => hn (fun e' => ?_) _ u1, fun e => ?_⟩
  · have h1 := e'.2.2.2.2
    have h2 := e'.2.2.2.1
    simp only [Int.toNat_natCast] at h1
    simp at e
    omega
  · simp at e
    obtain ⟨b2, eb2, hw, S⟩ := stp_cell hm (j := 6) (by omega) c H1
    rw [hb] at eb2
    simp at eb2; subst eb2
    simp only [jor, jand, cellAt_new, add_mk, List.getElem?_toArray, Nat.zero_add, List.getElem?_cons_zero, List.getElem?_cons_succ, Option.some.injEq, Value.int.injEq, Value.bool.injEq, Value.pointer.injEq, Value.slice.injEq, true_and, and_true, exists_eq_left', exists_eq', and_assoc, exists_and_left]
    refine ⟨hw, hy m rfl hm h4 (by omega) (by omega) _ (setP_stp ((Stp.quiet H u1).trans S) fun y hy' j hj => ?_)⟩
    unfold putP
    by_cases h1 : y = m
    · subst h1
      by_cases h2 : j = 6
      · subst h2; simp
      · simp [h2]
    · simp [h1]

theorem pm_Head_ok {i : Int} (hn1 : n ≤ 1024) (hT : ∀ i, i < n → PgT (pg i)) (H : (mapQ mb o n pg w ns bt).P h)
    (hy : ∀ m : Nat, i = m → m < n → ∀ h', Upd NoB h h' → K (.int .i64 ((m / 2 ^ (pg m 1).toNat * 2 ^ (pg m 1).toNat : Nat) : Int)) h')
    (hn : ¬ (0 ≤ i ∧ i < n) → ∀ h', Upd NoB h h' → K (.int .i64 (-1)) h') :
    CallV Try.prog w₀ F.pagemap_Map_Head [.pointer (some ⟨mb, 0, none⟩), .int .i64 i] h K := by
  refine pagemap_Map_Head.call ?_
  unfold pagemap_Map_Head.vc
  refine pm_At_ok H (fun m hi hm h1 u1 => ⟨_, _, _, _, _, _, _, _, _, _, _, _, rfl, ?_⟩) fun hi h1 u1 => ⟨_, _, _, _, _, _, _, _, _, _, _, _, rfl, ?_⟩
  · subst hi
    obtain ⟨w1, u2, H2, hc⟩ := box_page (P := pg m) ((mapQ mb o n pg w ns bt).st H u1 fun _ _ => id)
    refine ⟨w1, iF rfl ?_⟩
    have T := (hT m hm).o
    have h2 := hc 1 (by omega)
    have e : pcl 1 (pg m 1) = .int .i64 (pg m 1) := rfl
    rw [e] at h2
    simp only [jor, jand, cellAt_new, add_mk, List.getElem?_toArray, Nat.zero_add, List.getElem?_cons_zero, List.getElem?_cons_succ, Option.some.injEq, Value.int.injEq, Value.bool.injEq, Value.pointer.injEq, Value.slice.injEq, true_and, and_true, exists_eq_left', exists_eq', and_assoc, exists_and_left, h2]
    refine ⟨T.1, T.1, ?_⟩
    have hy := hy m rfl hm _ (u1.nx u2 fun _ e _ => e)
    have ev : IntKind.wrap .i64 (Int.fdiv (m : Int) (2 ^ min (Int.toNat (pg m 1)) (IntKind.bits .i64)) * 2 ^ min (Int.toNat (pg m 1)) (IntKind.bits .i64)) = ((m / 2 ^ (pg m 1).toNat * 2 ^ (pg m 1).toNat : Nat) : Int) := by
      obtain ⟨k, hk⟩ : ∃ k : Nat, pg m 1 = k := ⟨(pg m 1).toNat, by omega⟩
      rw [hk, shr_i64 (by omega), Int.toNat_natCast]
      have hkk : k ≤ 8 := by omega
      have e1 : min k (IntKind.bits .i64) = k := by show min _ 64 = k; omega
      rw [e1]
      have e3 : ((m / 2 ^ k : Nat) : Int) * 2 ^ k = ((m / 2 ^ k * 2 ^ k : Nat) : Int) := by simp
      rw [e3]
      have : m / 2 ^ k * 2 ^ k ≤ m := Nat.div_mul_le_self _ _
      rw [IntKind.wrap_i64]
      generalize m / 2 ^ k * 2 ^ k = y at *
      omega
    rw [ev]
    exact hy
  · obtain ⟨w1, u2, H2, hc⟩ := box_page (P := fun _ => 0) ((mapQ mb o n pg w ns bt).st H u1 fun _ _ => id)
    exact ⟨w1, iT rfl (hn hi _ (u1.nx u2 fun _ e _ => e))⟩

/-- The bit of a pair. -/
theorem pm_Pair_ok {r i : Int} (ho : s.Ok) (H : (mapR mb s w).P h)
    (hy : ∀ k m : Nat, r = k → k < s.o → i = m → m < s.n → ∀ h', Upd NoB h h' → K (.bool (s.bt k (m / 2 ^ (k + 1)))) h')
    (hn : ¬ (0 ≤ i ∧ i < s.n ∧ 0 ≤ r ∧ r < s.o) → ∀ h', Upd NoB h h' → K (.bool false) h') :
    CallV Try.prog w₀ F.pagemap_Map_Pair [.pointer (some ⟨mb, 0, none⟩), .int .i64 r, .int .i64 i] h K := by
  refine pagemap_Map_Pair.call ?_
  unfold pagemap_Map_Pair.vc
  have o8 := ho.o8
  have n1 := ho.n1
  refine pm_At_ok H (fun m hi hm h1 u1 => ⟨_, _, _, _, _, _, _, _, _, _, _, _, rfl, ?_⟩) fun hi h1 u1 => ⟨_, _, _, _, _, _, _, _, _, _, _, _, rfl, ?_⟩
  · subst hi
    obtain ⟨w1, u2, H2, hc⟩ := box_page (P := s.pg m) ((mapR mb s w).st H u1 fun _ _ => id)
    refine ⟨w1, ?_⟩
    have u12 := u1.nx u2 fun _ e _ => e
    have h0 := mq_o H2
    simp only [jor, jand, cellAt_new, add_mk, List.getElem?_toArray, Nat.zero_add, List.getElem?_cons_zero, List.getElem?_cons_succ, Option.some.injEq, Value.int.injEq, Value.bool.injEq, Value.pointer.injEq, Value.slice.injEq, true_and, and_true, exists_eq_left', exists_eq', and_assoc, exists_and_left, h0]
    have hw1 : IntKind.wrap .i64 ((s.o : Int) - 1) = (s.o : Int) - 1 := by rw [IntKind.wrap_i64]; omega
    rw [hw1]
    intro J k
    refine pF rfl (pm_within_ok ⟨_, rfl, k _ _ ⟨fun e => hn (by simp at e; omega) _ u12, fun e => ?_⟩⟩)
    simp at e
    obtain ⟨j, rfl⟩ : ∃ j : Nat, r = j := ⟨r.toNat, by omega⟩
    have hj : j < s.o := by omega
    have hq := mq_q H2
    obtain ⟨b, eb, hp⟩ := mq_pair H2 hj
    rw [eb] at hq
    simp only [jor, jand, cellAt_new, add_mk, List.getElem?_toArray, Nat.zero_add, List.getElem?_cons_zero, List.getElem?_cons_succ, Option.some.injEq, Value.int.injEq, Value.bool.injEq, Value.pointer.injEq, Value.slice.injEq, true_and, and_true, exists_eq_left', exists_eq', and_assoc, exists_and_left, hq, Int.toNat_natCast, Nat.mul_one, hp]
    have e1 : IntKind.wrap .i64 ((j : Int) + 1) = ((j + 1 : Nat) : Int) := by rw [IntKind.wrap_i64]; omega
    rw [e1, shr_i64 (by omega)]
    have hle : m / 2 ^ (j + 1) ≤ m := Nat.div_le_self _ _
    refine ⟨by omega, by omega, by omega, bits_Get_ok (npair n1 j) (by omega) (fun i hi => ho.bi j i hj hi) (mq_set H2 hj) ⟨_, rfl, hy j m rfl hj rfl hm _ u12⟩⟩
  · obtain ⟨w1, u2, H2, hc⟩ := box_page (P := fun _ => 0) ((mapR mb s w).st H u1 fun _ _ => id)
    refine ⟨w1, ?_⟩
    intro J k
    exact pT rfl (k _ _ ⟨fun _ => hn (fun e => hi ⟨e.1, e.2.1⟩) _ (u1.nx u2 fun _ e _ => e), fun e => by cases e⟩)

/-- A pair's bit turned. -/
def flipB (bt : Nat → Nat → Bool) (k i : Nat) : Nat → Nat → Bool := fun a b => if a = k ∧ b = i then !bt a b else bt a b

theorem pm_Flip_ok {r i : Int} (ho : s.Ok) (H : (mapR mb s w).P h)
    (hy : ∀ k m : Nat, r = k → k < s.o → i = m → m < s.n → ∀ h', Stp h h' (mapR mb s w) (mapR mb { s with bt := flipB s.bt k (m / 2 ^ (k + 1)) } w) → K (.tuple #[.bool (!s.bt k (m / 2 ^ (k + 1))), .int .i64 0]) h')
    (hn : ¬ (0 ≤ i ∧ i < s.n ∧ 0 ≤ r ∧ r < s.o) → ∀ h', Upd NoB h h' → K (.tuple #[.bool false, .int .i64 1]) h') :
    CallV Try.prog w₀ F.pagemap_Map_Flip [.pointer (some ⟨mb, 0, none⟩), .int .i64 r, .int .i64 i] h K := by
  refine pagemap_Map_Flip.call ?_
  unfold pagemap_Map_Flip.vc
  have o8 := ho.o8
  have n1 := ho.n1
  refine pm_At_ok H (fun m hi hm h1 u1 => ⟨_, _, _, _, _, _, _, _, _, _, _, _, rfl, ?_⟩) fun hi h1 u1 => ⟨_, _, _, _, _, _, _, _, _, _, _, _, rfl, ?_⟩
  · subst hi
    obtain ⟨w1, u2, H2, hc⟩ := box_page (P := s.pg m) ((mapR mb s w).st H u1 fun _ _ => id)
    refine ⟨w1, ?_⟩
    have u12 := u1.nx u2 fun _ e _ => e
    have h0 := mq_o H2
    simp only [jor, jand, cellAt_new, add_mk, List.getElem?_toArray, Nat.zero_add, List.getElem?_cons_zero, List.getElem?_cons_succ, Option.some.injEq, Value.int.injEq, Value.bool.injEq, Value.pointer.injEq, Value.slice.injEq, true_and, and_true, exists_eq_left', exists_eq', and_assoc, exists_and_left, h0]
    have hw1 : IntKind.wrap .i64 ((s.o : Int) - 1) = (s.o : Int) - 1 := by rw [IntKind.wrap_i64]; omega
    rw [hw1]
    intro J k
    refine pF rfl (pm_within_ok ⟨_, rfl, k _ _ ⟨fun e => hn (by simp at e; omega) _ u12, fun e => ?_⟩⟩)
    simp at e
    obtain ⟨j, rfl⟩ : ∃ j : Nat, r = j := ⟨r.toNat, by omega⟩
    have hj : j < s.o := by omega
    have hq := mq_q H2
    obtain ⟨b, eb, hp⟩ := mq_pair H2 hj
    rw [eb] at hq
    simp only [jor, jand, cellAt_new, add_mk, List.getElem?_toArray, Nat.zero_add, List.getElem?_cons_zero, List.getElem?_cons_succ, Option.some.injEq, Value.int.injEq, Value.bool.injEq, Value.pointer.injEq, Value.slice.injEq, true_and, and_true, exists_eq_left', exists_eq', and_assoc, exists_and_left, hq, Int.toNat_natCast, Nat.mul_one, hp]
    have e1 : IntKind.wrap .i64 ((j : Int) + 1) = ((j + 1 : Nat) : Int) := by rw [IntKind.wrap_i64]; omega
    rw [e1, shr_i64 (by omega)]
    have hdiv : m / 2 ^ (j + 1) < s.n / 2 ^ (j + 1) := by
      have h1 : 2 ^ (j + 1) ∣ s.n := Nat.dvd_trans (Nat.pow_dvd_pow 2 (by omega)) (Nat.dvd_of_mod_eq_zero ho.al)
      obtain ⟨q, hq⟩ := h1
      rw [hq, Nat.mul_div_cancel_left _ (Nat.two_pow_pos _)]
      exact Nat.div_lt_of_lt_mul (by rw [← hq]; exact hm)
    refine ⟨by omega, by omega, by omega, bits_Flip_ok hdiv (npair n1 j) (mq_set H2 hj) fun h3 S3 => ⟨_, rfl, ?_⟩⟩
    have S : Stp h h3 (mapR mb s w) (mapR mb { s with bt := flipB s.bt j (m / 2 ^ (j + 1)) } w) := by
      refine ((Stp.quiet H u12).trans (stp_set hj H2 S3)).conv (fun P => ?_) fun b e => ?_
      · have ew : ({ w with sw := fun i => if i = j then w.sw j else w.sw i } : MW) = w := by
          have : (fun i => if i = j then w.sw j else w.sw i) = w.sw := by funext i; by_cases h : i = j <;> simp [h]
          simp [this]
        rw [ew] at P
        refine mapQ_congr P (fun _ _ _ _ => rfl) (fun a ha => ?_) fun a ha i => ?_
        · by_cases h : a = j <;> simp [h]
        · unfold flipB
          by_cases h : a = j
          · subst h
            simp only [if_true, true_and]
            by_cases h2 : i = m / 2 ^ (a + 1) <;> simp [h2]
          · simp [h]
      · have ew : ({ w with sw := fun i => if i = j then w.sw j else w.sw i } : MW) = w := by
          have : (fun i => if i = j then w.sw j else w.sw i) = w.sw := by funext i; by_cases h : i = j <;> simp [h]
          simp [this]
        rw [ew]; exact e
    have ho' : ({ s with bt := flipB s.bt j (m / 2 ^ (j + 1)) } : MS).Ok := by
      refine ⟨ho.o8, ho.n1, ho.al, fun a i ha hb => ?_, ho.pg⟩
      unfold flipB at hb
      by_cases h : a = j ∧ i = m / 2 ^ (j + 1)
      · rw [h.1, h.2]; exact hdiv
      · simp only [h, if_false] at hb; exact ho.bi a i ha hb
    refine pm_Pair_ok ho' S.p (fun k' m' hk hk' hm' hm2 h4 u4 => ⟨_, rfl, ?_⟩) fun hh => ?_
    · have hk : j = k' := by omega
      have hm' : m = m' := by omega
      subst hk hm'
      have : flipB s.bt j (m / 2 ^ (j + 1)) j (m / 2 ^ (j + 1)) = !s.bt j (m / 2 ^ (j + 1)) := by simp [flipB]
      show K (.tuple #[.bool (flipB s.bt j (m / 2 ^ (j + 1)) j (m / 2 ^ (j + 1))), _]) _
      rw [this]
      exact hy j m rfl hj rfl hm _ (S.trans (Stp.quiet S.p u4))
    · exfalso; apply hh; dsimp only; omega
  · obtain ⟨w1, u2, H2, hc⟩ := box_page (P := fun _ => 0) ((mapR mb s w).st H u1 fun _ _ => id)
    refine ⟨w1, ?_⟩
    intro J k
    exact pT rfl (k _ _ ⟨fun _ => hn (fun e => hi ⟨e.1, e.2.1⟩) _ (u1.nx u2 fun _ e _ => e), fun e => by cases e⟩)

end
end Go.Proofs.Ytnplkinakaepdaa
