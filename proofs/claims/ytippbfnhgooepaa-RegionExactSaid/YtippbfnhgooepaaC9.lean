/- croftlaw6: spans: meets, full, equal; which regions go. No condition. -/
import Derived.Test.YtippbfnhgooepaaC7
import Derived.Test.YtippbfnhgooepaaX5
set_option linter.unusedSimpArgs false
set_option linter.unusedVariables false
namespace Go.Proofs.Ytippbfnhgooepaa
open Go.V Classical

/-- A block that was handed out; what was written there last. -/
structure Sn where
  p : Nat
  k : Nat
  dp : Option Addr
  dn : Nat
  dc : Nat
  g : Nat → Int

def sn0 : Sn := ⟨0, 0, none, 0, 0, fun _ => 0⟩
def Sn.bk (s : Sn) : Bk := ⟨s.p, s.k, 0⟩
def snC (c : Cfg) (s : Sn) : Nat → Value
  | 0 => .int .u64 (adr c s.p)
  | 1 => .int .u64 ((4096 * 2 ^ s.k : Nat) : Int)
  | 2 => .int .i64 (s.k : Int)
  | _ => .slice s.dp s.dn s.dc
def snV (c : Cfg) (l : List Sn) : Nat → Value := fun i => snC c (l.getD (i / 4) sn0) (i % 4)
def snL (c : Cfg) (s : Sn) : List Value := [.int .u64 (adr c s.p), .int .u64 ((4096 * 2 ^ s.k : Nat) : Int), .int .i64 (s.k : Int), .slice s.dp s.dn s.dc]
abbrev bks (l : List Sn) : List Bk := l.map Sn.bk

theorem snV_at (c : Cfg) (l : List Sn) (i : Nat) {j : Nat} (hj : j < 4) : snV c l (i * 4 + j) = snC c (l.getD i sn0) j := by
  unfold snV
  rw [show (i * 4 + j) / 4 = i by omega, show (i * 4 + j) % 4 = j by omega]

theorem snL_get (c : Cfg) (s : Sn) {j : Nat} (hj : j < 4) : (snL c s).getD j undef = snC c s j := by
  have : j = 0 ∨ j = 1 ∨ j = 2 ∨ j = 3 := by omega
  rcases this with rfl | rfl | rfl | rfl <;> rfl

theorem snV_snoc (c : Cfg) (l : List Sn) (e : Sn) {i : Nat} (hi : i < (l.length + 1) * 4) : (if i < l.length * 4 then snV c l i else (snL c e).getD (i - l.length * 4) undef) = snV c (l ++ [e]) i := by
  unfold snV
  split
  · rename_i h
    rw [List.getD_eq_getElem?_getD, List.getD_eq_getElem?_getD, List.getElem?_append_left (by omega)]
  · rename_i h
    have h1 : i / 4 = l.length := by omega
    have h2 : (l ++ [e]).getD l.length sn0 = e := by simp
    rw [h1, h2, snL_get _ _ (by omega)]
    congr 1
    omega

section
variable {w₀ : World} {h : Heap} {K : Value → Heap → Prop} {c : Cfg} {l : List Sn} {sp : Option Addr} {cap : Nat}

theorem row_sn {hx : Heap} (R : Row h sp (l.length * 4) (snV c l)) (u : Upd NoB h hx) {i : Nat} (hi : i < l.length) : ∃ a, sp = some a ∧ cellAt hx (a.add (Int.toNat (i : Int) * 4)) = some (.int .u64 (adr c (l.getD i sn0).p)) ∧
    cellAt hx ((a.add (Int.toNat (i : Int) * 4)).add 1) = some (.int .u64 ((4096 * 2 ^ (l.getD i sn0).k : Nat) : Int)) ∧ cellAt hx ((a.add (Int.toNat (i : Int) * 4)).add 2) = some (.int .i64 ((l.getD i sn0).k : Int)) ∧
    cellAt hx ((a.add (Int.toNat (i : Int) * 4)).add 3) = some (.slice (l.getD i sn0).dp (l.getD i sn0).dn (l.getD i sn0).dc) := by
  rcases R with e | ⟨b, off, rfl, R⟩
  · omega
  · refine ⟨_, rfl, ?_, ?_, ?_, ?_⟩
    · have := snV_at c l i (j := 0) (by omega)
      rw [add_mk, Int.toNat_natCast, cellAt_upd (R (i * 4) (by omega)) u fun e => e, ← Nat.add_zero (i * 4), this]; rfl
    · rw [add_mk, add_mk, Int.toNat_natCast, Nat.add_assoc, cellAt_upd (R (i * 4 + 1) (by omega)) u fun e => e, snV_at c l i (by omega)]; rfl
    · rw [add_mk, add_mk, Int.toNat_natCast, Nat.add_assoc, cellAt_upd (R (i * 4 + 2) (by omega)) u fun e => e, snV_at c l i (by omega)]; rfl
    · rw [add_mk, add_mk, Int.toNat_natCast, Nat.add_assoc, cellAt_upd (R (i * 4 + 3) (by omega)) u fun e => e, snV_at c l i (by omega)]; rfl

theorem getD_sn {i : Nat} (hi : i < l.length) : l.getD i sn0 ∈ l := by
  rw [List.getD_eq_getElem?_getD, List.getElem?_eq_getElem hi]; exact List.getElem_mem hi

theorem meets6_ok {q k : Nat} (hc : 0 < c.base ∧ c.base ≤ 9223372036854775807) (hl : l.length ≤ 100000) (R : Row h sp (l.length * 4) (snV c l)) (hb : ∀ b ∈ l, b.p ≤ 4096 ∧ b.k ≤ 8) (hq : q ≤ 4096) (hk : k ≤ 8) (hK : K (.bool (meetsB (bks l) q k)) h) :
    CallV Try.prog w₀ F.croftlaw6_meets [.slice sp l.length cap, .int .u64 (adr c q), .int .u64 ((4096 * 2 ^ k : Nat) : Int)] h K := by
  refine croftlaw6_meets.call ?_
  unfold croftlaw6_meets.vc
  intro J1 hJ1 L2 hL2
  have h8 := pow8 hk
  have loop : ∀ (d i : Nat), i + d = l.length → (∀ j, j < i → ¬ ((l.getD j sn0).p < q + 2 ^ k ∧ q < (l.getD j sn0).p + 2 ^ (l.getD j sn0).k)) → L2 [.slice sp l.length cap, .int .u64 (adr c q), .int .u64 ((4096 * 2 ^ k : Nat) : Int), .int .i64 (i : Int)] h := by
    intro d
    induction d with
    | zero =>
      intro i hi hno
      refine hL2 _ _ _ _ _ _ _ (iF (decide_eq_false (by omega)) (hJ1 _ ?_))
      have e : meetsB (bks l) q k = false := by
        unfold meetsB
        rw [List.any_eq_false]
        intro b hbl
        obtain ⟨s, hs, rfl⟩ := List.mem_map.1 hbl
        obtain ⟨j, hj, rfl⟩ := List.mem_iff_getElem.1 hs
        have := hno j (by omega)
        rw [List.getD_eq_getElem?_getD, List.getElem?_eq_getElem hj] at this
        intro hcc
        refine this ?_
        have hcc : (decide (l[j].p < q + 2 ^ k) && decide (q < l[j].p + 2 ^ l[j].k)) = true := hcc
        rw [Bool.and_eq_true, decide_eq_true_eq, decide_eq_true_eq] at hcc
        exact hcc
      rw [e] at hK; exact hK
    | succ d ih =>
      intro i hi hno
      obtain ⟨a, e1, r0, r1, r2, r3⟩ := row_sn R (Upd.refl _ _) (i := i) (by omega)
      have hm := getD_sn (l := l) (i := i) (by omega)
      have hbi := hb _ hm
      have h8' := pow8 hbi.2
      have hnext : ¬ ((l.getD i sn0).p < q + 2 ^ k ∧ q < (l.getD i sn0).p + 2 ^ (l.getD i sn0).k) → L2 [.slice sp l.length cap, .int .u64 (adr c q), .int .u64 ((4096 * 2 ^ k : Nat) : Int), .int .i64 (IntKind.wrap .i64 ((i : Int) + 1))] h := fun hn => by
        rw [show IntKind.wrap .i64 ((i : Int) + 1) = ((i + 1 : Nat) : Int) by rw [IntKind.wrap_i64]; omega]
        refine ih (i + 1) (by omega) fun j hj => ?_
        rcases Nat.lt_or_ge j i with h1 | h1
        · exact hno j h1
        · have : j = i := by omega
          subst this; exact hn
      have es1 : IntKind.wrap .u64 (adr c (l.getD i sn0).p + ((4096 * 2 ^ (l.getD i sn0).k : Nat) : Int)) = adr c (l.getD i sn0).p + ((4096 * 2 ^ (l.getD i sn0).k : Nat) : Int) := by rw [IntKind.wrap_u64]; unfold adr; omega
      have es2 : IntKind.wrap .u64 (adr c q + ((4096 * 2 ^ k : Nat) : Int)) = adr c q + ((4096 * 2 ^ k : Nat) : Int) := by rw [IntKind.wrap_u64]; unfold adr; omega
      refine hL2 _ _ _ _ _ _ _ (iT (decide_eq_true (by omega)) ⟨_, e1, by omega, by omega, _, r0, _, e1, by omega, by omega, _, r1, fun J3 hJ3 => ?_⟩)
      rw [es1]
      by_cases c1 : q < (l.getD i sn0).p + 2 ^ (l.getD i sn0).k
      · refine qT (decide_eq_true (by unfold adr; omega)) ⟨_, e1, by omega, by omega, _, r0, ?_⟩
        rw [es2]
        by_cases c2 : (l.getD i sn0).p < q + 2 ^ k
        · rw [decide_eq_true (by unfold adr; omega)]
          refine hJ3 _ _ (iT rfl ?_)
          have e : meetsB (bks l) q k = true := by
            unfold meetsB
            rw [List.any_eq_true]
            refine ⟨(l.getD i sn0).bk, List.mem_map.2 ⟨_, hm, rfl⟩, ?_⟩
            show (decide ((l.getD i sn0).p < q + 2 ^ k) && decide (q < (l.getD i sn0).p + 2 ^ (l.getD i sn0).k)) = true
            rw [decide_eq_true c1, decide_eq_true c2]; rfl
          rw [e] at hK; exact hK
        · rw [decide_eq_false (by unfold adr; omega)]
          exact hJ3 _ _ (iF rfl (hnext fun hc => c2 hc.1))
      · exact qF' (decide_eq_false (by unfold adr; omega)) (hJ3 _ _ (iF rfl (hnext fun hc => c1 hc.2)))
  exact loop l.length 0 (by omega) fun j hj => by omega

theorem full6_ok {P k : Nat} (hc : 0 < c.base ∧ c.base ≤ 9223372036854775807) (hl : l.length ≤ 100000) (R : Row h sp (l.length * 4) (snV c l)) (hb : ∀ b ∈ l, b.p ≤ 4096 ∧ b.k ≤ 8) (hP : P ≤ 1024) (hk : k ≤ 8) (hK : ∀ h', Upd NoB h h' → K (.bool (decide (Stuck (bks l) P k))) h') :
    CallV Try.prog w₀ F.croftlaw6_full [.slice sp l.length cap, .agg #[.int .u64 c.base, .int .i64 c.limit, .int .i64 c.order], .int .u64 (adr c P), .int .u64 ((4096 * 2 ^ k : Nat) : Int)] h K := by
  refine croftlaw6_full.call ?_
  unfold croftlaw6_full.vc
  have N1 := box3 h (.int .u64 c.base) (.int .i64 c.limit) (.int .i64 c.order) T.T_api_Config
  generalize Array.push h (.cells #[.int .u64 c.base, .int .i64 c.limit, .int .i64 c.order] T.T_api_Config) = h1 at N1 ⊢
  have hK := hK h1 N1.u
  have R1 : Row h1 sp (l.length * 4) (snV c l) := R.upd N1.u fun _ _ => id
  obtain ⟨k0, k1, k2⟩ := f3_cells N1.p
  have h8 := pow8 hk
  intro J2 hJ2
  refine ⟨_, k0, fun L3 hL3 => ?_⟩
  have ead : ∀ q, adr c q = c.base + 4096 * (q : Int) := fun q => rfl
  have enx : ∀ y : Nat, y ≤ 2000 → IntKind.wrap .u64 (adr c y + ((4096 * 2 ^ k : Nat) : Int)) = adr c (y + 2 ^ k) := fun y hy => by rw [IntKind.wrap_u64, ead, ead]; omega
  have loop : ∀ (d i : Nat), P ≤ i * 2 ^ k + d → i * 2 ^ k ≤ P + 256 → (∀ j, j < i → meetsB (bks l) (j * 2 ^ k) k = true) → L3 [.slice sp l.length cap, .int .u64 (adr c P), .int .u64 ((4096 * 2 ^ k : Nat) : Int), .int .u64 (adr c (i * 2 ^ k))] h1 := by
    intro d
    induction d with
    | zero =>
      intro i hi hle hall
      refine hL3 _ _ _ _ _ _ _ (iF (decide_eq_false (by rw [ead, ead]; omega)) (hJ2 _ ?_))
      have : Stuck (bks l) P k := fun j hj => hall j (Nat.lt_of_mul_lt_mul_right (a := 2 ^ k) (by omega))
      rw [decide_eq_true this] at hK
      exact hK
    | succ d ih =>
      intro i hi hle hall
      by_cases hlt : i * 2 ^ k < P
      · refine hL3 _ _ _ _ _ _ _ (iT (decide_eq_true (by rw [ead, ead]; omega)) (meets6_ok hc hl R1 hb (by omega) hk ⟨_, rfl, ?_⟩))
        cases hm : meetsB (bks l) (i * 2 ^ k) k with
        | false =>
          refine iT rfl ?_
          have : ¬ Stuck (bks l) P k := fun hs => by rw [hs i hlt] at hm; cases hm
          rw [decide_eq_false this] at hK
          exact hK
        | true =>
          have es : IntKind.wrap .u64 (adr c (i * 2 ^ k) + ((4096 * 2 ^ k : Nat) : Int)) = adr c ((i + 1) * 2 ^ k) := by rw [show (i + 1) * 2 ^ k = i * 2 ^ k + 2 ^ k from Nat.succ_mul i _]; exact enx (i * 2 ^ k) (by omega)
          refine iF rfl ?_
          rw [es]
          refine ih (i + 1) (by rw [Nat.succ_mul]; omega) (by rw [Nat.succ_mul]; omega) fun j hj => ?_
          rcases Nat.lt_or_ge j i with h1 | h1
          · exact hall j h1
          · have : j = i := by omega
            subst this; exact hm
      · refine hL3 _ _ _ _ _ _ _ (iF (decide_eq_false (by rw [ead, ead]; omega)) (hJ2 _ ?_))
        have : Stuck (bks l) P k := fun j hj => hall j (Nat.lt_of_mul_lt_mul_right (a := 2 ^ k) (by omega))
        rw [decide_eq_true this] at hK
        exact hK
  have := loop P 0 (by omega) (by omega) fun j hj => by omega
  rw [Nat.zero_mul] at this
  have e0 : adr c 0 = c.base := by unfold adr; omega
  rw [e0] at this
  exact this

theorem equal6_ok {n : Nat} {f g : Nat → Int} {p q : Option Addr} {cp cq : Nat} (hn : n < 4611686018427387904) (P : Row h p n fun i => .int .u8 (f i)) (Q : Row h q n fun i => .int .u8 (g i)) (he : ∀ i, i < n → f i = g i) (hK : K (.bool true) h) :
    CallV Try.prog w₀ F.croftlaw6_equal [.slice p n cp, .slice q n cq] h K := by
  refine croftlaw6_equal.call ?_
  unfold croftlaw6_equal.vc
  refine iF (by simp) fun J1 hJ1 L2 hL2 => ?_
  have loop : ∀ (k i : Nat), i + k = n → L2 [.slice p n cp, .slice q n cq, .int .i64 ((i : Nat) : Int)] h := by
    intro k
    induction k with
    | zero =>
      intro i hi
      exact hL2 _ _ _ _ _ _ _ _ (iF (decide_eq_false (by omega)) (hJ1 _ hK))
    | succ k ih =>
      intro i hi
      refine hL2 _ _ _ _ _ _ _ _ (iT (decide_eq_true (by omega)) ?_)
      rcases P with P | ⟨b, o, rfl, P⟩
      · omega
      rcases Q with Q | ⟨b', o', rfl, Q⟩
      · omega
      refine ⟨_, rfl, by omega, Int.ofNat_lt.2 (by omega), f i, ?_, _, rfl, by omega, Int.ofNat_lt.2 (by omega), g i, ?_, ?_⟩
      · simp only [add_mk, Int.toNat_natCast, Nat.mul_one]; exact P i (by omega)
      · simp only [add_mk, Int.toNat_natCast, Nat.mul_one]; exact Q i (by omega)
      refine iF (eq_b (he i (by omega))) ?_
      rw [IntWalk.i64_in _ (by omega)]
      exact ih (i + 1) (by omega)
  exact loop n 0 (by omega)
end

section
variable {c : Cfg} {x : BU} {fl : Nat → List Nat} {l : List Bk}

theorem reg_mem (W : WI c x fl (lvB l)) {i : Nat} (hi : i < x.st.n) : i * 2 ^ x.m.o ∈ fl x.m.o ↔ meetsB l (i * 2 ^ x.m.o) x.m.o = false := by
  have h0 := Nat.two_pow_pos x.m.o
  have hlt : i * 2 ^ x.m.o < x.m.n := by rw [W.e]; exact Nat.mul_lt_mul_of_pos_right hi h0
  constructor
  · intro h
    refine meets_dj fun b hb => ?_
    have hm : (i * 2 ^ x.m.o, x.m.o) ∈ blks x.m.o fl := mem_blks.2 ⟨Nat.le_refl _, h⟩
    exact (List.pairwise_append.1 W.til.dj).2.2 b hb _ hm
  · intro h
    obtain ⟨p, j, h1, h2, h3, h4, h5⟩ := find_free (s := i * 2 ^ x.m.o) W.til W.rep.nb (Nat.le_refl _) (Nat.mul_mod_left _ _) (stretch W (Nat.le_refl _) hlt) (meets_no h)
    have : j = x.m.o := by omega
    subst this
    have : p = i * 2 ^ x.m.o := by omega
    rw [← this]; exact h3

/-- How many regions are left. -/
def leftN (O : Nat) (l : List Bk) : Nat → Nat
  | 0 => 0
  | r + 1 => if meetsB l (r * 2 ^ O) O = false then leftN O l r else r + 1

theorem leftN_le (O : Nat) (l : List Bk) : ∀ r, leftN O l r ≤ r
  | 0 => Nat.le_refl _
  | r + 1 => by
    unfold leftN
    split
    · exact Nat.le_trans (leftN_le O l r) (by omega)
    · exact Nat.le_refl _

theorem trimF_left {O : Nat} {l : List Bk} : ∀ (r : Nat) (f : Nat → List Nat), (∀ i, i < r → (i * 2 ^ O ∈ f O ↔ meetsB l (i * 2 ^ O) O = false)) → (trimF O r f).1 = leftN O l r
  | 0, _, _ => rfl
  | r + 1, f, h => by
    have h0 := Nat.two_pow_pos O
    unfold trimF leftN
    by_cases hm : meetsB l (r * 2 ^ O) O = false
    · rw [if_pos ((h r (by omega)).2 hm), if_pos hm]
      refine trimF_left r _ fun i hi => ?_
      rw [fset_same, List.mem_filter, ← h i (by omega)]
      refine ⟨fun hx => hx.1, fun hx => ⟨hx, ?_⟩⟩
      have : i * 2 ^ O < r * 2 ^ O := Nat.mul_lt_mul_of_pos_right hi h0
      simp only [ne_eq, decide_not, Bool.not_eq_true', decide_eq_false_iff_not]
      omega
    · rw [if_neg fun hx => hm ((h r (by omega)).1 hx), if_neg hm]
end
end Go.Proofs.Ytippbfnhgooepaa
