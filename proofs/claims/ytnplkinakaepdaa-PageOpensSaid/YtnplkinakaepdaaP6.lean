/- pagemap: the pair bits' lengths; blocks of pages; maps that grow and shrink. No condition. -/
import Derived.Test.YtnplkinakaepdaaP5
set_option linter.unusedSimpArgs false
set_option linter.unusedVariables false
namespace Go.Proofs.Ytnplkinakaepdaa
open Go.V Classical

/-- The bits that are left of rows of bits, of n pages. -/
def cutB (n : Nat) (bt : Nat → Nat → Bool) : Nat → Nat → Bool := fun k i => decide (i < n / 2 ^ (k + 1)) && bt k i

/-- A block's pages. -/
def runP (pg : Nat → Nat → Int) (m r : Nat) (kind : Int) : Nat → Nat → Int := fun x => if m ≤ x ∧ x < m + 2 ^ r then plainP (if x = m then kind else kind + 1) r else pg x

def mGrow (s : MS) : MS := if s.n + 2 ^ s.o > 1024 then s else { o := s.o, n := s.n + 2 ^ s.o, pg := fun x => if x < s.n then s.pg x else plainP (if x = s.n then 2 else 3) s.o, bt := s.bt }

def mShrink (s : MS) (x : Nat) : MS := { s with n := s.n - x * 2 ^ s.o, bt := cutB (s.n - x * 2 ^ s.o) s.bt }

section
variable {w₀ : World} {h : Heap} {mb o n : Nat} {pg : Nat → Nat → Int} {w : MW} {ns : Nat → Nat} {bt : Nat → Nat → Bool} {s : MS} {K : Value → Heap → Prop}

theorem pm_paired_ok (ho : o ≤ 8) (hn : n ≤ 1024) (hns : ∀ k, k < o → ns k ≤ 1048576) (hb : ∀ k i, k < o → bt k i = true → i < ns k) (H : (mapQ mb o n pg w ns bt).P h)
    (hK : ∀ (h' : Heap) (sw' : Nat → Nat), Stp h h' (mapQ mb o n pg w ns bt) (mapQ mb o n pg { w with sw := sw' } (fun k => n / 2 ^ (k + 1)) (cutB n bt)) → K (.tuple #[]) h') :
    CallV Try.prog w₀ F.pagemap_Map_paired [.pointer (some ⟨mb, 0, none⟩)] h K := by
  refine pagemap_Map_paired.call ?_
  unfold pagemap_Map_paired.vc
  have hq := mq_q H
  simp only [jor, jand, cellAt_new, add_mk, List.getElem?_toArray, Nat.zero_add, List.getElem?_cons_zero, List.getElem?_cons_succ, Option.some.injEq, Value.int.injEq, Value.bool.injEq, Value.pointer.injEq, Value.slice.injEq, true_and, and_true, exists_eq_left', exists_eq', and_assoc, exists_and_left, hq]
  intro L hL
  have loop : ∀ (r k : Nat) (hx : Heap) (sw' : Nat → Nat), k + r = o → Stp h hx (mapQ mb o n pg w ns bt) (mapQ mb o n pg { w with sw := sw' } (fun i => if i < k then n / 2 ^ (i + 1) else ns i) (fun i => if i < k then cutB n bt i else bt i)) →
      L [.pointer (some ⟨mb, 0, none⟩), .slice w.qp o w.qc, .int .i64 (o : Int), .int .i64 (k : Int)] hx := by
    intro r
    induction r with
    | zero =>
      intro k hx sw' hk S
      have : k = o := by omega
      subst this
      refine hL _ _ _ _ _ _ _ (iF (by simp) (hK hx sw' (S.conv (fun P => mapQ_congr P (fun _ _ _ _ => rfl) (fun i hi => if_pos hi) fun i hi j => by simp [hi]) mapQ_fp)))
    | succ r ih =>
      intro k hx sw' hk S
      have hko : k < o := by omega
      obtain ⟨b, eb, hp⟩ := mq_pair S.p hko
      have eb : w.qp = some ⟨b, 0, none⟩ := eb
      have hg := mq_g S.p
      have e1 : IntKind.wrap .i64 ((k : Int) + 1) = ((k + 1 : Nat) : Int) := by rw [IntKind.wrap_i64]; omega
      refine hL _ _ _ _ _ _ _ (iT (by simp; omega) ?_)
      rw [eb]
      simp only [jor, jand, cellAt_new, add_mk, List.getElem?_toArray, Nat.zero_add, List.getElem?_cons_zero, List.getElem?_cons_succ, Option.some.injEq, Value.int.injEq, Value.bool.injEq, Value.pointer.injEq, Value.slice.injEq, true_and, and_true, exists_eq_left', exists_eq', and_assoc, exists_and_left, Int.toNat_natCast, Nat.mul_one, hp, hg]
      rw [e1, shr_i64 (by omega)]
      have hset := mq_set S.p hko
      simp only [Nat.lt_irrefl, if_false] at hset
      refine ⟨by omega, by omega, by omega, bits_Resize_ok (hns k hko) (npair hn k) (fun i hi => hb k i hko hi) hset fun h' sw2 S2 => ⟨rfl, ?_⟩⟩
      rw [← eb]
      refine ih (k + 1) h' (fun i => if i = k then sw2 else sw' i) (by omega) ((S.trans (stp_set (k := k) (sw' := sw2) (n' := n / 2 ^ (k + 1)) (f' := cutB n bt k) hko S.p ?_)).conv (fun P => mapQ_congr P (fun _ _ _ _ => rfl) (fun i hi => ?_) fun i hi j => ?_) mapQ_fp)
      · simp only [Nat.lt_irrefl, if_false]
        exact S2
      · by_cases h1 : i = k
        · subst h1; simp
        · by_cases h2 : i < k
          · have : i < k + 1 := by omega
            simp [h1, h2, this]
          · have : ¬ i < k + 1 := by omega
            simp [h1, h2, this]
      · by_cases h1 : i = k
        · subst h1; simp
        · by_cases h2 : i < k
          · have : i < k + 1 := by omega
            simp [h1, h2, this]
          · have : ¬ i < k + 1 := by omega
            simp [h1, h2, this]
  exact loop o 0 h w.sw (by omega) ((Stp.refl H).conv (fun P => mapQ_congr P (fun _ _ _ _ => rfl) (fun i hi => by simp) fun i hi j => by simp) mapQ_fp)

theorem runP_at (pg : Nat → Nat → Int) (m r : Nat) (kind : Int) (a : Nat) : (fun x => if m ≤ x ∧ x < m + a then plainP (if x = m then kind else kind + 1) r else pg x : Nat → Nat → Int) = fun x => if m ≤ x ∧ x < m + a then plainP (if x = m then kind else kind + 1) r else pg x := rfl

theorem pm_Run_ok {i r kind : Int} (ho : o ≤ 8) (hn1 : n ≤ 1024) (hi63 : -9223372036854775808 ≤ i ∧ i ≤ 9223372036854775807) (H : (mapQ mb o n pg w ns bt).P h)
    (hy : ∀ m r' : Nat, i = m → r = r' → r' ≤ o → m % 2 ^ r' = 0 → m + 2 ^ r' ≤ n → (kind = 0 ∨ kind = 2) → ∀ h', Stp h h' (mapQ mb o n pg w ns bt) (mapQ mb o n (runP pg m r' kind) w ns bt) → K (.int .i64 0) h')
    (hn : ¬ ((kind = 0 ∨ kind = 2) ∧ 0 ≤ r ∧ r ≤ o ∧ 0 ≤ i ∧ i.toNat % 2 ^ r.toNat = 0 ∧ i.toNat + 2 ^ r.toNat ≤ n) → ∀ h', Upd NoB h h' → K (.int .i64 1) h') :
    CallV Try.prog w₀ F.pagemap_Map_Run [.pointer (some ⟨mb, 0, none⟩), .int .i64 i, .int .i64 r, .int .i64 kind] h K := by
  refine pagemap_Map_Run.call ?_
  unfold pagemap_Map_Run.vc
  intro J1 k1
  have ho0 := mq_o H
  have hg := mq_g H
  -- refused
  have bad : ¬ ((kind = 0 ∨ kind = 2) ∧ 0 ≤ r ∧ r ≤ o ∧ 0 ≤ i ∧ i.toNat % 2 ^ r.toNat = 0 ∧ i.toNat + 2 ^ r.toNat ≤ n) → K (.int .i64 1) h := fun e => hn e h (Upd.refl _ _)
  by_cases hk : kind = 0 ∨ kind = 2
  case neg =>
    refine ⟨fun _ => k1 _ _ ?_, fun e => absurd (by simp at e; exact .inl e) hk⟩
    intro J2 k2
    refine pT (by simp; omega) (k2 _ _ ?_)
    intro J3 k3
    refine pT rfl (k3 _ _ ?_)
    intro J4 k4
    refine pT rfl (k4 _ _ ?_)
    intro J5 k5
    exact pT rfl (k5 _ _ ⟨fun _ => bad fun e => hk e.1, fun e => by cases e⟩)
  have step1 : J1 false h := by
    refine k1 _ _ ?_
    intro J2 k2
    refine pF rfl ⟨_, rfl, _, ho0, pm_within_ok ⟨_, rfl, k2 _ _ ?_⟩⟩
    intro J3 k3
    by_cases hr : 0 ≤ r ∧ r ≤ o
    case neg =>
      refine pT (by simp; omega) (k3 _ _ ?_)
      intro J4 k4
      refine pT rfl (k4 _ _ ?_)
      intro J5 k5
      exact pT rfl (k5 _ _ ⟨fun _ => bad fun e => hr ⟨e.2.1, e.2.2.1⟩, fun e => by cases e⟩)
    obtain ⟨r', rfl⟩ : ∃ r' : Nat, r = r' := ⟨r.toNat, by omega⟩
    have hr' : r' ≤ o := by omega
    obtain ⟨x, hx, hx1, hx2⟩ := pow_small (k := r') (by omega)
    refine pF (by simp; omega) (k3 _ _ ?_)
    intro J4 k4
    rw [shl_i64 (by omega)]
    by_cases hi0 : 0 ≤ i
    case neg =>
      refine pT (by simp; omega) (k4 _ _ ?_)
      intro J5 k5
      exact pT rfl (k5 _ _ ⟨fun _ => bad fun e => hi0 e.2.2.2.1, fun e => by cases e⟩)
    obtain ⟨m, rfl⟩ : ∃ m : Nat, i = m := ⟨i.toNat, by omega⟩
    rw [hx]
    have em : Int.tmod (m : Int) (x : Int) = ((m % x : Nat) : Int) := by rw [Int.tmod_eq_emod_of_nonneg (by omega)]; omega
    rw [em]
    refine pF (by simp) ⟨by omega, by omega, k4 _ _ ?_⟩
    intro J5 k5
    by_cases ha : m % x = 0
    case neg =>
      refine pT (by simp only [bne_iff_ne, ne_eq]; omega) (k5 _ _ ⟨fun _ => bad fun e => ha ?_, fun e => by cases e⟩)
      have := e.2.2.2.2.1
      simp only [Int.toNat_natCast, hx] at this
      exact this
    have ew : IntKind.wrap .i64 ((n : Int) - (x : Int)) = (n : Int) - x := by rw [IntKind.wrap_i64]; omega
    refine pF (by simp only [bne_eq_false_iff_eq]; omega) ⟨_, rfl, _, _, _, by rw [add_mk]; exact hg, by omega, ?_⟩
    rw [shl_i64 (by omega), hx, ew]
    refine k5 _ _ ⟨fun e => bad fun e' => ?_, fun e => ?_⟩
    · have := e'.2.2.2.2.2
      simp only [Int.toNat_natCast, hx] at this
      simp at e
      omega
    have hmn : m + x ≤ n := by simp at e; omega
    intro J6 k6
    rw [shl_i64 (by omega), hx]
    refine ⟨by omega, ?_⟩
    intro L hL
    have loop : ∀ (q a : Nat) (hz : Heap) (pg' : Nat → Nat → Int), a + q = x → (∀ y, y < n → ∀ j, j < 11 → pg' y j = (if m ≤ y ∧ y < m + a then plainP (if y = m then kind else kind + 1) r' j else pg y j)) →
        Stp h hz (mapQ mb o n pg w ns bt) (mapQ mb o n pg' w ns bt) →
        L [.pointer (some ⟨mb, 0, none⟩), .int .i64 (m : Int), .int .i64 (r' : Int), .int .i64 kind, .int .i64 (x : Int), .int .i64 (a : Int)] hz := by
      intro q
      induction q with
      | zero =>
        intro a hz pg' ha' hpg S
        have : a = x := by omega
        subst this
        refine hL _ _ _ _ _ _ _ (iF (by simp) (k6 _ (hy m r' rfl rfl hr' (by rw [hx]; exact ha) (by rw [hx]; exact hmn) hk _ (S.conv (fun P => mapQ_congr P (fun y hy' j hj => ?_) (fun _ _ => rfl) fun _ _ _ => rfl) mapQ_fp))))
        rw [hpg y hy' j hj]
        unfold runP
        rw [hx]
        split <;> rfl
      | succ q ih =>
        intro a hz pg' ha' hpg S
        have e1 : IntKind.wrap .i64 ((a : Int) + 1) = ((a + 1 : Nat) : Int) := by rw [IntKind.wrap_i64]; omega
        have e2 : IntKind.wrap .i64 ((m : Int) + (a : Int)) = ((m + a : Nat) : Int) := by rw [IntKind.wrap_i64]; omega
        refine hL _ _ _ _ _ _ _ (iT (by simp; omega) ?_)
        intro J8 k8
        refine pm_plain_ok fun h56 u56 => ⟨_, _, _, _, _, _, _, _, _, _, _, rfl, ?_⟩
        obtain ⟨w1, A⟩ := pg_lay h56 (plainP kind r')
        refine ⟨w1, ?_⟩
        intro J12 k12
        have hma : m + a < n := by omega
        -- behind the page that is wanted
        have rest : ∀ (hv : Heap), New h56 hv (pgR h56.size (plainP (if m + a = m then kind else kind + 1) r')) →
            J12 [.pointer (some ⟨mb, 0, none⟩), .int .i64 (m : Int), .int .i64 (r' : Int), .int .i64 kind, .int .i64 (a : Int), .pointer (some ⟨h56.size, 0, none⟩), .int .i64 (x : Int), .int .i64 (a : Int)] hv := by
          intro hv B
          have uv : Upd NoB hz hv := u56.nx B.u fun _ e _ => e
          have Sv := S.trans (Stp.quiet S.p uv)
          have Hv := Sv.p
          have hgv := mq_g Hv
          obtain ⟨b, eb, hc⟩ := mq_page Hv hma
          refine k12 _ _ _ _ _ _ _ _ _ ?_
          rw [eb] at hgv
          rw [e2]
          simp only [jor, jand, cellAt_new, add_mk, List.getElem?_toArray, Nat.zero_add, List.getElem?_cons_zero, List.getElem?_cons_succ, Option.some.injEq, Value.int.injEq, Value.bool.injEq, Value.pointer.injEq, Value.slice.injEq, true_and, and_true, exists_eq_left', exists_eq', and_assoc, exists_and_left, hgv, Int.toNat_natCast]
          refine ⟨by omega, by omega, ld_page hc (pgR_ld B.p ?_)⟩
          rw [eq_page]
          have fin : ∀ (hw : Heap) (pg2 : Nat → Nat → Int), (∀ y, y < n → ∀ j, j < 11 → pg2 y j = (if y = m + a then plainP (if m + a = m then kind else kind + 1) r' j else pg' y j)) → Stp h hw (mapQ mb o n pg w ns bt) (mapQ mb o n pg2 w ns bt) →
              J8 [.pointer (some ⟨mb, 0, none⟩), .int .i64 (m : Int), .int .i64 (r' : Int), .int .i64 kind, .int .i64 (x : Int), .int .i64 (a : Int)] hw := by
            intro hw pg2 h2 S2
            refine k8 _ _ _ _ _ _ _ ?_
            rw [e1]
            refine ih (a + 1) hw pg2 (by omega) (fun y hy' j hj => ?_) S2
            rw [h2 y hy' j hj]
            by_cases h1 : y = m + a
            · subst h1
              have h3 : m ≤ m + a ∧ m + a < m + (a + 1) := by omega
              rw [if_pos rfl, if_pos h3]
            · rw [if_neg h1, hpg y hy' j hj]
              by_cases h3 : m ≤ y ∧ y < m + a
              · have h4 : m ≤ y ∧ y < m + (a + 1) := by omega
                rw [if_pos h3, if_pos h4]
              · have h4 : ¬ (m ≤ y ∧ y < m + (a + 1)) := by omega
                rw [if_neg h3, if_neg h4]
          refine ⟨fun e => ?_, fun e => ?_⟩
          · refine pgR_ld B.p ?_
            obtain ⟨b2, eb2, hw2, S2⟩ := stp_page hma (plainP (if m + a = m then kind else kind + 1) r') Hv
            rw [eb] at eb2
            simp at eb2; subst eb2
            refine ⟨by omega, by omega, hw2, fin _ _ (fun y hy' j hj => ?_) (Sv.trans S2)⟩
            by_cases h1 : y = m + a <;> simp [h1]
          · simp only [Bool.not_eq_false', decide_eq_true_eq] at e
            refine fin _ pg' (fun y hy' j hj => ?_) Sv
            by_cases h1 : y = m + a
            · rw [if_pos h1, h1]; exact e j hj
            · rw [if_neg h1]
        refine ⟨fun e => ?_, fun e => ?_⟩
        · simp at e
          have c0 := Blk.cell (f := fun j => pcl j (plainP kind r' j)) (i := 0) A.p (by omega)
          obtain ⟨w3, S3⟩ := pg_set1 A.p (i := 0) (by omega) (kind + 1)
          have ek : IntKind.wrap .i64 (kind + 1) = kind + 1 := by rw [IntKind.wrap_i64]; omega
          refine ⟨_, c0, w3, ?_⟩
          have ek0 : IntKind.wrap .i64 (plainP kind r' 0 + 1) = kind + 1 := ek
          rw [ek0]
          refine rest _ ((A.stp S3).conv (fun P => Blk.congr P fun j hj => ?_) fun _ e => e)
          have : ¬ (m + a = m) := by omega
          simp only [this, if_false]
          rcases lt11 hj with rfl | rfl | rfl | rfl | rfl | rfl | rfl | rfl | rfl | rfl | rfl <;> rfl
        · simp at e
          have : m + a = m := by omega
          refine rest _ ?_
          rw [if_pos this]
          exact A
    exact loop x 0 h pg (by omega) (fun y hy' j hj => by rw [if_neg (by omega)]) (Stp.refl H)
  by_cases hk0 : kind = 0
  · refine ⟨fun e => by simp [hk0] at e, fun _ => step1⟩
  · have hk2 : kind = 2 := by omega
    refine ⟨fun _ => ?_, fun e => by simp [hk0] at e⟩
    have : (kind != 2) = false := by simp [hk2]
    rw [this]
    exact step1

end
end Go.Proofs.Ytnplkinakaepdaa
