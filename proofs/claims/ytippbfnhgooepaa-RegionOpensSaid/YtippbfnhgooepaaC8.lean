/- croftlaw6: RegionOpens. No condition. -/
import Derived.Test.YtippbfnhgooepaaC3
import Derived.Test.YtippbfnhgooepaaG5
import Derived.Test.YtippbfnhgooepaaGcroftlaw6RegionOpens
set_option linter.unusedSimpArgs false
set_option linter.unusedVariables false
namespace Go.Proofs.Ytippbfnhgooepaa
open Go.V Classical

section
variable {w₀ : World} {h : Heap} {K : Value → Heap → Prop}

theorem Power_ok {n : Nat} (hn : n ≤ 30) (hK : K (.int .i64 ((2 ^ n : Nat) : Int)) h) : CallV Try.prog w₀ F.croftref6_Power [.int .i64 (n : Int)] h K := by
  refine croftref6_Power.call ?_
  unfold croftref6_Power.vc
  intro J1 hJ1 L2 hL2
  have loop : ∀ (d i : Nat), i + d = n → L2 [.int .i64 (n : Int), .int .i64 ((2 ^ i : Nat) : Int), .int .i64 (i : Int)] h := by
    intro d
    induction d with
    | zero =>
      intro i hi
      have : i = n := by omega
      subst this
      exact hL2 _ _ _ _ (iF (decide_eq_false (by omega)) (hJ1 _ _ hK))
    | succ d ih =>
      intro i hi
      have hp : 2 ^ i ≤ 2 ^ 29 := Nat.pow_le_pow_right (by omega) (by omega)
      have e : IntKind.wrap .i64 (((2 ^ i : Nat) : Int) * 2) = ((2 ^ (i + 1) : Nat) : Int) := by rw [Nat.pow_succ, IntKind.wrap_i64]; omega
      refine hL2 _ _ _ _ (iT (decide_eq_true (by omega)) ?_)
      rw [e, show IntKind.wrap .i64 ((i : Int) + 1) = ((i + 1 : Nat) : Int) by rw [IntKind.wrap_i64]; omega]
      exact ih (i + 1) (by omega)
  exact loop n 0 (by omega)

theorem ref2R_ok {a b : Int} {n : Nat} (hn : n ≤ 8) (hK : ∀ h', Upd NoB h h' → K (.int .u64 ((4096 * 2 ^ n : Nat) : Int)) h') : CallV Try.prog w₀ F.croftref2_R [.agg #[.int .u64 a, .int .i64 b, .int .i64 (n : Int)]] h K := by
  refine croftref2_R.call ?_
  unfold croftref2_R.vc
  have N1 := box3 h (.int .u64 a) (.int .i64 b) (.int .i64 (n : Int)) T.T_api_Config
  generalize Array.push h (.cells #[.int .u64 a, .int .i64 b, .int .i64 (n : Int)] T.T_api_Config) = h1 at N1 ⊢
  obtain ⟨k0, k1, k2⟩ := f3_cells N1.p
  have hK := hK h1 N1.u
  intro J1 hJ1 L2 hL2
  have loop : ∀ (d i : Nat), i + d = n → L2 [.pointer (some ⟨h.size, 0, none⟩), .int .u64 ((4096 * 2 ^ i : Nat) : Int), .int .i64 (i : Int)] h1 := by
    intro d
    induction d with
    | zero =>
      intro i hi
      have : i = n := by omega
      subst this
      exact hL2 _ _ _ _ ⟨_, k2, iF (decide_eq_false (by omega)) (hJ1 _ _ hK)⟩
    | succ d ih =>
      intro i hi
      have hp : 2 ^ i ≤ 2 ^ 8 := Nat.pow_le_pow_right (by omega) (by omega)
      have e : IntKind.wrap .u64 (((4096 * 2 ^ i : Nat) : Int) * 2) = ((4096 * 2 ^ (i + 1) : Nat) : Int) := by rw [Nat.pow_succ, IntKind.wrap_u64]; omega
      refine hL2 _ _ _ _ ⟨_, k2, iT (decide_eq_true (by omega)) ?_⟩
      rw [e, show IntKind.wrap .i64 ((i : Int) + 1) = ((i + 1 : Nat) : Int) by rw [IntKind.wrap_i64]; omega]
      exact ih (i + 1) (by omega)
  exact loop n 0 (by omega)

theorem nw_wrap2 {n k : Nat} (hn : n ≤ 2000) (hk : k ≤ 9) : IntKind.wrap .i64 (Int.tdiv (IntKind.wrap .i64 (Int.fdiv (n : Int) (2 ^ min (Int.toNat (k : Int)) (IntKind.bits .i64)) + 63)) 64) = (nw (n / 2 ^ k) : Nat) := by
  rw [shr_i64 (by omega)]
  have := Nat.div_le_self n (2 ^ k)
  generalize n / 2 ^ k = x at *
  rw [IntKind.wrap_i64 ((x : Int) + 63), show ((x : Int) + 63 + 9223372036854775808) % 18446744073709551616 - 9223372036854775808 = (((x + 63) : Nat) : Int) by omega, Int.tdiv_eq_ediv_of_nonneg (by omega)]
  rw [show (((x + 63 : Nat) : Int) / 64) = (((x + 63) / 64 : Nat) : Int) by omega, IntKind.wrap_i64]
  unfold nw; omega
end

/-- Words of nothing, each list on its own. -/
abbrev wdsR (k : Nat) (wp : Nat → Option Addr) (wn : Nat → Nat) : Res := allR k fun i => slR (wp i) (wn i) (wn i) 1 fun _ => .int .u64 0

theorem wds_more {h0 h : Heap} {k : Nat} {wp : Nat → Option Addr} {wn : Nat → Nat} {p : Option Addr} {n : Nat} {rs : List Res} (I : Hold h0 h (slR p n n 1 (fun _ => .int .u64 0) :: wdsR k wp wn :: rs)) : Hold h0 h (wdsR (k + 1) (fset wp k p) (fset wn k n) :: rs) := by
  refine I.join.as 0 (R := andR (slR p n n 1 (fun _ => .int .u64 0)) (wdsR k wp wn)) (fun A => ?_) fun b e => ?_
  · have hc : ∀ i, i < k → (slR (wp i) (wn i) (wn i) 1 fun _ => Value.int .u64 0) = slR (fset wp k p i) (fset wn k n i) (fset wn k n i) 1 fun _ => .int .u64 0 := fun i hi => by rw [fset_ne _ _ (by omega), fset_ne _ _ (by omega)]
    refine allR_snoc (allR_congr hc A.2.1) (by rw [fset_same, fset_same]; exact A.1) fun b e e' => ?_
    rw [fset_same, fset_same] at e
    exact A.2.2 b e (allR_fp hc b e')
  · obtain ⟨i, hi, e⟩ := e
    rcases Nat.lt_or_ge i k with h1 | h1
    · have e : (slR (fset wp k p i) (fset wn k n i) (fset wn k n i) 1 fun _ => Value.int .u64 0).fp b := e
      rw [fset_ne _ _ (by omega), fset_ne _ _ (by omega)] at e
      exact .inr ⟨i, h1, e⟩
    · have : i = k := by omega
      subst this
      have e : (slR (fset wp i p i) (fset wn i n i) (fset wn i n i) 1 fun _ => Value.int .u64 0).fp b := e
      rw [fset_same, fset_same] at e
      exact .inl e

def PG6 : Nat → Int := plainP 2 0

theorem RegionOpens_law {w : World} {a b d reg by' pn wn0 hn0 : Int} (ha : (Lit.int .u64 a).wf = true) (hb : (Lit.int .i64 b).wf = true) (hd : (Lit.int .i64 d).wf = true) (hreg : (Lit.int .i64 reg).wf = true) (hby : (Lit.int .i64 by').wf = true) (hpn : (Lit.int .i64 pn).wf = true) (hwn : (Lit.int .i64 wn0).wf = true) (hhn : (Lit.int .i64 hn0).wf = true) :
    CallV Try.prog w F.croftlaw6_RegionOpens [.agg #[.int .u64 a, .int .i64 b, .int .i64 d], .int .i64 reg, .int .i64 by', .int .i64 pn, .int .i64 wn0, .int .i64 hn0] w.heap fun v h' => v = .bool true ∧ Upd NoB w.heap h' := by
  have hfin : ∀ h', Upd NoB w.heap h' → (fun (r : Value) (h' : Heap) => r = Value.bool true ∧ Upd NoB w.heap h') (.bool true) h' := fun h' u => ⟨rfl, u⟩
  generalize (fun (r : Value) (h' : Heap) => r = Value.bool true ∧ Upd NoB w.heap h') = K at hfin ⊢
  refine croftlaw6_RegionOpens.call ?_
  unfold croftlaw6_RegionOpens.vc
  have N0 := box3 w.heap (.int .u64 a) (.int .i64 b) (.int .i64 d) T.T_api_Config
  generalize Array.push w.heap (.cells #[.int .u64 a, .int .i64 b, .int .i64 d] T.T_api_Config) = h0 at N0 ⊢
  obtain ⟨cb, ecb⟩ : ∃ cb, cb = w.heap.size := ⟨_, rfl⟩
  rw [← ecb] at N0 ⊢
  have I0 := (Hold.nil w.heap).new N0
  refine awake6_ok fun h1 u1 => ⟨_, rfl, iF rfl fun J3 hJ3 L34 hL34 => ?_⟩
  have I1 := I0.quiet u1
  have hu := wf_u64 ha
  have wr1 : ∀ i : Nat, i < 1000000 → IntKind.wrap .i64 ((i : Int) + 1) = ((i + 1 : Nat) : Int) := fun i hi => by rw [IntKind.wrap_i64]; omega
  -- behind the pages
  have pages : ∀ (m : Nat) (gp : Option Addr) (gc : Nat) (hx : Heap), m ≤ 2000 → Hold w.heap hx [slR gp m gc 11 (pgF fun _ => PG6), blkR cb 3 (f3 (.int .u64 a) (.int .i64 b) (.int .i64 d))] →
      J3 [.int .i64 reg, .int .i64 by', .int .i64 wn0, .int .i64 hn0, .pointer (some ⟨cb, 0, none⟩), .slice gp m gc] hx := by
    intro m gp gc hx hm I
    refine hJ3 _ _ _ _ _ _ _ _ _ fun J4 hJ4 L29 hL29 => ?_
    have m4 : ∀ (k : Nat) (wp : Nat → Option Addr) (wn : Nat → Nat) (qp : Option Addr) (qc : Nat) (hy : Heap), k ≤ 9 → (0 ≤ d → d ≤ 8 → (k : Int) = d) → (∀ i, i < k → wn i = nw (m / 2 ^ (i + 1))) →
        Hold w.heap hy [slR qp k qc 1 (fun i => .slice (wp i) (wn i) (wn i)), wdsR k wp wn, slR gp m gc 11 (pgF fun _ => PG6), blkR cb 3 (f3 (.int .u64 a) (.int .i64 b) (.int .i64 d))] →
        J4 [.int .i64 reg, .int .i64 by', .int .i64 wn0, .int .i64 hn0, .pointer (some ⟨cb, 0, none⟩), .slice gp m gc, .slice qp k qc] hy := by
      intro k0 wp0 wn0' qp0 qc0 hy0 hk0 hkd hw0 I0'
      refine hJ4 _ _ _ _ _ _ _ _ _ _ _ _ fun J5 hJ5 L25 hL25 => ?_
      have m5 : ∀ (k : Nat) (wp : Nat → Option Addr) (wn : Nat → Nat) (qp : Option Addr) (qc : Nat) (hy : Heap), k ≤ 14 → (0 ≤ d → d ≤ 8 → (k : Int) = d → ∀ i, i < k → wn i = nw (m / 2 ^ (i + 1))) →
          Hold w.heap hy [slR qp k qc 1 (fun i => .slice (wp i) (wn i) (wn i)), wdsR k wp wn, slR gp m gc 11 (pgF fun _ => PG6), blkR cb 3 (f3 (.int .u64 a) (.int .i64 b) (.int .i64 d))] →
          J5 [.int .i64 reg, .int .i64 by', .int .i64 hn0, .pointer (some ⟨cb, 0, none⟩), .slice gp m gc, .slice qp k qc] hy := by
        intro k wp wn qp qc hy hk hw I
        refine hJ5 _ _ _ _ _ _ _ _ _ _ _ fun J6 hJ6 => ?_
        have m6 : ∀ nh : Nat, nh ≤ 100 → J6 [.int .i64 reg, .int .i64 by', .pointer (some ⟨cb, 0, none⟩), .slice gp m gc, .slice qp k qc, .int .i64 (nh : Int)] hy := by
          intro nh hnh
          refine hJ6 _ _ _ _ _ _ _ _ _ _ _ fun J7 hJ7 => ?_
          have m7 : ∀ nb : Nat, nb ≤ 4194304 → J7 [.int .i64 reg, .pointer (some ⟨cb, 0, none⟩), .slice gp m gc, .slice qp k qc, .int .i64 (nh : Int), .int .i64 (nb : Int)] hy := by
            intro nb hnb
            refine hJ7 _ _ _ _ _ _ _ _ _ _ _ fun J8 hJ8 => ?_
            -- the answer
            have m8 : ∀ (e : Int) (hz : Heap), Hold w.heap hz [blkR cb 3 (f3 (.int .u64 a) (.int .i64 b) (.int .i64 d))] → (¬ Cfg.Good ⟨a, b, d⟩ → e = 1) → (Cfg.Good ⟨a, b, d⟩ → OpenR ⟨a, b, d⟩ reg nb m (fun _ => PG6) k wn nh → e = 0) →
                (Cfg.Good ⟨a, b, d⟩ → ¬ OpenR ⟨a, b, d⟩ reg nb m (fun _ => PG6) k wn nh → e = 7) → J8 [.int .i64 reg, .pointer (some ⟨cb, 0, none⟩), .slice gp m gc, .slice qp k qc, .int .i64 (nh : Int), .int .i64 (nb : Int), .int .i64 e] hz := by
              intro e hz Iz hbad hyes hno
              obtain ⟨k0, k1, k2⟩ := f3_cells (Iz.at 0)
              refine hJ8 _ _ _ _ _ _ _ _ _ _ _ _ ⟨_, k0, _, k1, _, k2, ref2_May_ok hu fun h5 u5 => ⟨_, rfl, ?_⟩⟩
              have I5 := Iz.quiet u5
              by_cases gd : Cfg.Good ⟨a, b, d⟩
              case neg =>
                rw [decide_eq_false gd, hbad gd]
                exact iT rfl (hfin _ I5.u)
              rw [decide_eq_true gd]
              have hyes := hyes gd
              have hno := hno gd
              have g0 := gd.o0
              have g8 := gd.o8
              have gl := gd.l64
              have gp' := gd.pg
              simp only [] at g0 g8 gl gp'
              obtain ⟨on, hon⟩ : ∃ on : Nat, d = on := ⟨d.toNat, by omega⟩
              have hon8 : on ≤ 8 := by omega
              have h8 := pow8 hon8
              have hto : d.toNat = on := by omega
              rw [hto] at gp'
              have hsz : (⟨a, b, d⟩ : Cfg).size = 4096 * 2 ^ on := by unfold Cfg.size; simp only []; rw [hto]
              refine iF rfl fun J10 hJ10 => ?_
              have no : ∀ hv, Hold w.heap hv [blkR cb 3 (f3 (.int .u64 a) (.int .i64 b) (.int .i64 d))] → ¬ OpenR ⟨a, b, d⟩ reg nb m (fun _ => PG6) k wn nh → J10 false hv := fun hv Iv hx => by
                refine hJ10 _ _ fun J11 hJ11 => qF' rfl (hJ11 _ _ fun J12 hJ12 => qF' rfl (hJ12 _ _ fun J13 hJ13 => qF' rfl (hJ13 _ _ fun J14 hJ14 => qF' rfl (hJ14 _ _ (iF rfl ?_)))))
                rw [hno hx]; exact hfin _ Iv.u
              obtain ⟨k0, k1, k2⟩ := f3_cells (I5.at 0)
              by_cases hr0 : reg ≥ 0
              case neg => exact qF' (decide_eq_false hr0) (no h5 I5 fun hx => hr0 hx.r0)
              refine qT (decide_eq_true hr0) ⟨_, k1, ?_⟩
              by_cases hr1 : reg ≤ b
              case neg => rw [decide_eq_false hr1]; exact no h5 I5 fun hx => hr1 hx.r1
              rw [decide_eq_true hr1]
              obtain ⟨r, hr⟩ : ∃ r : Nat, reg = r := ⟨reg.toNat, by omega⟩
              have hr64 : r ≤ 64 := by omega
              rw [hon] at k2
              refine hJ10 _ _ fun J11 hJ11 => qT rfl ⟨_, k0, _, k1, _, k2, ref2R_ok hon8 fun h6 u6 => ⟨_, rfl, ?_⟩⟩
              have I6 := I5.quiet u6
              have hrs : r * (4096 * 2 ^ on) ≤ 64 * (4096 * 256) := Nat.mul_le_mul hr64 (Nat.mul_le_mul_left _ h8.2)
              have e3 : ((IntKind.wrap .u64 (nb : Int)) == (IntKind.wrap .u64 (IntKind.wrap .u64 reg * ((4096 * 2 ^ on : Nat) : Int)))) = decide (nb = r * (4096 * 2 ^ on)) := by
                rw [show IntKind.wrap .u64 (nb : Int) = (nb : Int) by rw [IntKind.wrap_u64]; omega, hr, show IntKind.wrap .u64 (r : Int) = (r : Int) by rw [IntKind.wrap_u64]; omega,
                  show (r : Int) * ((4096 * 2 ^ on : Nat) : Int) = ((r * (4096 * 2 ^ on) : Nat) : Int) from (Int.natCast_mul r (4096 * 2 ^ on)).symm, show IntKind.wrap .u64 ((r * (4096 * 2 ^ on) : Nat) : Int) = ((r * (4096 * 2 ^ on) : Nat) : Int) by rw [IntKind.wrap_u64]; omega]
                by_cases hq : nb = r * (4096 * 2 ^ on)
                · rw [decide_eq_true hq, ← hq]; exact beq_self_eq_true _
                · rw [decide_eq_false hq]; exact beq_false_of_ne fun h => hq (Int.ofNat_inj.1 h)
              rw [e3]
              have no7 : ∀ hv, Hold w.heap hv [blkR cb 3 (f3 (.int .u64 a) (.int .i64 b) (.int .i64 d))] → ¬ OpenR ⟨a, b, d⟩ reg nb m (fun _ => PG6) k wn nh → K (.bool (e == 7)) hv := fun hv Iv hx => by rw [hno hx]; exact hfin _ Iv.u
              have hnp : OpenR ⟨a, b, d⟩ reg nb m (fun _ => PG6) k wn nh → nb = r * (4096 * 2 ^ on) ∧ m = r * 2 ^ on ∧ (k : Int) = d ∧ (nh : Int) = d + 1 := fun hx => by
                have x1 := hx.nb
                have x2 := hx.np
                rw [hsz, hr] at x1
                rw [show (⟨a, b, d⟩ : Cfg).order.toNat = on from hto, hr] at x2
                exact ⟨Int.ofNat_inj.1 (by rw [x1, ← Int.natCast_mul]), Int.ofNat_inj.1 (by rw [x2, ← Int.natCast_mul]), hx.mo.mo, hx.hj⟩
              by_cases h3 : nb = r * (4096 * 2 ^ on)
              case neg =>
                rw [decide_eq_false h3]
                exact hJ11 _ _ fun J12 hJ12 => qF' rfl (hJ12 _ _ fun J13 hJ13 => qF' rfl (hJ13 _ _ fun J14 hJ14 => qF' rfl (hJ14 _ _ (iF rfl (no7 h6 I6 fun hx => h3 (hnp hx).1)))))
              rw [decide_eq_true h3]
              obtain ⟨k0, k1, k2⟩ := f3_cells (I6.at 0)
              rw [hon] at k2
              refine hJ11 _ _ fun J12 hJ12 => qT rfl ⟨_, k2, Power_ok (by omega) ⟨_, rfl, ?_⟩⟩
              have hrp : r * 2 ^ on ≤ 64 * 256 := Nat.mul_le_mul hr64 h8.2
              have e4 : ((m : Int) == (IntKind.wrap .i64 (reg * ((2 ^ on : Nat) : Int)))) = decide (m = r * 2 ^ on) := by
                rw [hr, show (r : Int) * ((2 ^ on : Nat) : Int) = ((r * 2 ^ on : Nat) : Int) by rw [Int.natCast_mul], show IntKind.wrap .i64 ((r * 2 ^ on : Nat) : Int) = ((r * 2 ^ on : Nat) : Int) by rw [IntKind.wrap_i64]; omega]
                by_cases hq : m = r * 2 ^ on
                · rw [decide_eq_true hq, ← hq]; exact beq_self_eq_true _
                · rw [decide_eq_false hq]; exact beq_false_of_ne fun h => hq (Int.ofNat_inj.1 h)
              rw [e4]
              by_cases h4 : m = r * 2 ^ on
              case neg =>
                rw [decide_eq_false h4]
                exact hJ12 _ _ fun J13 hJ13 => qF' rfl (hJ13 _ _ fun J14 hJ14 => qF' rfl (hJ14 _ _ (iF rfl (no7 h6 I6 fun hx => h4 (hnp hx).2.1))))
              rw [decide_eq_true h4]
              refine hJ12 _ _ fun J13 hJ13 => qT rfl ⟨_, k2, ?_⟩
              by_cases h5' : (k : Int) = d
              case neg =>
                rw [beq_false_of_ne (by omega)]
                exact hJ13 _ _ fun J14 hJ14 => qF' rfl (hJ14 _ _ (iF rfl (no7 h6 I6 fun hx => h5' (hnp hx).2.2.1)))
              rw [show ((k : Int) == (on : Int)) = true by rw [← hon, h5']; exact beq_self_eq_true _]
              refine hJ13 _ _ fun J14 hJ14 => qT rfl ⟨_, k2, ?_⟩
              rw [show IntKind.wrap .i64 ((on : Int) + 1) = d + 1 by rw [hon, IntKind.wrap_i64]; omega]
              by_cases h6' : (nh : Int) = d + 1
              case neg =>
                rw [beq_false_of_ne h6']
                exact hJ14 _ _ (iF rfl (no7 h6 I6 fun hx => h6' (hnp hx).2.2.2))
              rw [show ((nh : Int) == d + 1) = true by rw [h6']; exact beq_self_eq_true _]
              have hm1024 : m ≤ 1024 := by
                have x1 : ((r * 2 ^ on : Nat) : Int) ≤ 1024 := by
                  rw [Int.natCast_mul]
                  exact Int.le_trans (Int.mul_le_mul_of_nonneg_right (by omega) (Int.natCast_nonneg _)) gp'
                omega
              have hx : OpenR ⟨a, b, d⟩ reg nb m (fun _ => PG6) k wn nh := by
                refine ⟨hr0, hr1, ?_, ?_, ⟨g0, g8, hm1024, ?_, h5', hw g0 g8 h5', fun i hi => ?_⟩, h6'⟩
                · rw [hsz, hr, h3, Int.natCast_mul]
                · show (m : Int) = reg * ((2 ^ d.toNat : Nat) : Int)
                  rw [hto, hr, h4, Int.natCast_mul]
                · show m % 2 ^ d.toNat = 0
                  rw [hto, h4]; exact Nat.mul_mod_left _ _
                · exact ⟨by decide, ⟨by decide, Int.natCast_nonneg _⟩, by decide, by decide, ⟨by decide, by show (-1 : Int) ≤ _; omega⟩, ⟨by decide, by show (-1 : Int) ≤ _; omega⟩, by decide⟩
              refine hJ14 _ _ (iT rfl ?_)
              rw [hyes hx]
              exact hfin _ I6.u
            obtain ⟨k0, k1, k2⟩ := f3_cells (I.at 3)
            have zb : ∀ {hz : Heap} {z : Nat}, (slR (some ⟨z, 0, none⟩) nb nb 1 fun i => ([.int .u8 0] : List Value).getD (i % 1) undef).P hz → Row hz (some ⟨z, 0, none⟩) nb fun i => .int .u8 ((fun _ => 0 : Nat → Int) i) := fun H => by
              have := sl_row H
              rw [Nat.mul_one] at this
              refine this.congr fun i hi => ?_
              rw [Nat.mod_one]; rfl
            have zh : ∀ {hz : Heap} {z : Nat}, (slR (some ⟨z, 0, none⟩) nh nh 1 fun i => ([.int .u64 0] : List Value).getD (i % 1) undef).P hz → Row hz (some ⟨z, 0, none⟩) nh (headU fun _ => 0) := fun H => by
              have := sl_row H
              rw [Nat.mul_one] at this
              refine this.congr fun i hi => ?_
              rw [Nat.mod_one]; rfl
            have call : ∀ (hz : Heap) (b1 b2 : Nat), Hold w.heap hz [slR qp k qc 1 (fun i => .slice (wp i) (wn i) (wn i)), wdsR k wp wn, slR gp m gc 11 (pgF fun _ => PG6), blkR cb 3 (f3 (.int .u64 a) (.int .i64 b) (.int .i64 d))] →
                Row hz (some ⟨b1, 0, none⟩) nb (fun i => .int .u8 ((fun _ => 0 : Nat → Int) i)) → Row hz (some ⟨b2, 0, none⟩) nh (headU fun _ => 0) →
                CallV Try.prog w F.region_Open [.agg #[.int .u64 a, .int .i64 b, .int .i64 d], .int .i64 reg, .slice (some ⟨b1, 0, none⟩) nb nb, .slice gp m gc, .slice qp k qc, .slice (some ⟨b2, 0, none⟩) nh nh] hz fun v101 h101 => ∃ r101_0 : Option Addr, ∃ r101_1 : Int, v101 = (.tuple #[.pointer r101_0, .int .i64 r101_1]) ∧
                  J8 [.int .i64 reg, .pointer (some ⟨cb, 0, none⟩), .slice gp m gc, .slice qp k qc, .int .i64 (nh : Int), .int .i64 (nb : Int), .int .i64 r101_1] h101 := by
              intro hz b1 b2 Iz Rb Rh
              have HW : (wdsR k wp wn).P hz := Iz.at 1
              have last : ∀ hv, Upd NoB hz hv → Hold w.heap hv [blkR cb 3 (f3 (.int .u64 a) (.int .i64 b) (.int .i64 d))] := fun hv uv => (Iz.quiet uv).sub (.cons _ (.cons _ (.cons _ (.cons_cons _ .slnil))))
              have rq := sl_row (Iz.at 0)
              rw [Nat.mul_one] at rq
              refine region_Open_ok (g := fun _ => 0) (pg := fun _ => PG6) (wp := wp) (wn := wn) (wc := wn) (ws := fun _ _ => 0) (hd := fun _ => 0) hu (by omega) (Nat.le_refl _) (by omega) (by omega) (by omega) Rb (fun i _ => ⟨Int.le_refl _, by decide⟩) (sl_row (Iz.at 2))
                ⟨rq, fun j hj => ?_, fun _ _ _ _ => by decide⟩ Rh (fun i _ => by unfold U64; omega) (fun hb h9 u9 => ⟨_, _, rfl, m8 1 h9 (last h9 u9) (fun _ => rfl) (fun g => absurd g hb) fun g => absurd g hb⟩)
                (fun g hx h9 u9 => ⟨_, _, rfl, m8 7 h9 (last h9 u9) (fun hb => absurd g hb) (fun _ hy => absurd hy hx) fun _ _ => rfl⟩) fun g hx h9 Q N9 => ⟨_, _, rfl, m8 0 h9 (last h9 N9.u) (fun hb => absurd g hb) (fun _ _ => rfl) fun _ hy => absurd hx hy⟩
              have := sl_row (HW.1 j hj)
              rw [Nat.mul_one] at this
              exact this
            refine ⟨_, k0, _, k1, _, k2, ⟨by omega, Int.le_refl _, by omega, ?_⟩, by omega, Int.le_refl _, by omega, ?_⟩
            · have N1 := sl_make hy [.int .u8 0] T.T_uint8 nb nb (Nat.le_refl _)
              rw [Int.toNat_natCast, Int.toNat_natCast]
              generalize hy.push (.cells (List.toArray (zrow [.int .u8 0] nb)) T.T_uint8) = h11 at N1 ⊢
              have I1 := I.new N1
              obtain ⟨k0, k1, k2⟩ := f3_cells (I1.at 4)
              refine ⟨k0, k1, k2, by omega, Int.le_refl _, by omega, ?_⟩
              have N2 := sl_make h11 [.int .u64 0] T.T_uint64 nh nh (Nat.le_refl _)
              generalize h11.push (.cells (List.toArray (zrow [.int .u64 0] nh)) T.T_uint64) = h12 at N2 ⊢
              have I2 := I1.new N2
              obtain ⟨k0, k1, k2⟩ := f3_cells (I2.at 5)
              exact ⟨k0, k1, k2, call h12 _ _ (I2.sub (.cons _ (.cons _ (List.Sublist.refl _)))) (zb (I2.at 1)) (zh (I2.at 0))⟩
            · have N1 := sl_make hy [.int .u64 0] T.T_uint64 nh nh (Nat.le_refl _)
              rw [Int.toNat_natCast, Int.toNat_natCast]
              generalize hy.push (.cells (List.toArray (zrow [.int .u64 0] nh)) T.T_uint64) = h11 at N1 ⊢
              have I1 := I.new N1
              obtain ⟨k0, k1, k2⟩ := f3_cells (I1.at 4)
              refine ⟨k0, k1, k2, by omega, Int.le_refl _, by omega, ?_⟩
              have N2 := sl_make h11 [.int .u8 0] T.T_uint8 nb nb (Nat.le_refl _)
              generalize h11.push (.cells (List.toArray (zrow [.int .u8 0] nb)) T.T_uint8) = h12 at N2 ⊢
              have I2 := I1.new N2
              obtain ⟨k0, k1, k2⟩ := f3_cells (I2.at 5)
              exact ⟨k0, k1, k2, call h12 _ _ (I2.sub (.cons _ (.cons _ (List.Sublist.refl _)))) (zb (I2.at 0)) (zh (I2.at 1))⟩
          intro J23 hJ23
          by_cases hb0 : by' < 0
          · exact pT (decide_eq_true hb0) (hJ23 _ _ (iT rfl (m7 0 (by omega))))
          refine pF (decide_eq_false hb0) (hJ23 _ _ ?_)
          by_cases hb1 : by' > 4194304
          · rw [decide_eq_true hb1]; exact iT rfl (m7 0 (by omega))
          rw [decide_eq_false hb1]
          have := m7 by'.toNat (by omega)
          rw [Int.toNat_of_nonneg (by omega)] at this
          exact iF rfl this
        intro J24 hJ24
        by_cases hb0 : hn0 < 0
        · exact pT (decide_eq_true hb0) (hJ24 _ _ (iT rfl (m6 0 (by omega))))
        refine pF (decide_eq_false hb0) (hJ24 _ _ ?_)
        by_cases hb1 : hn0 > 100
        · rw [decide_eq_true hb1]; exact iT rfl (m6 0 (by omega))
        rw [decide_eq_false hb1]
        have := m6 hn0.toNat (by omega)
        rw [Int.toNat_of_nonneg (by omega)] at this
        exact iF rfl this
      -- some more
      have more : ∀ (dd i k : Nat) (wp : Nat → Option Addr) (wn : Nat → Nat) (qp : Option Addr) (qc : Nat) (hy : Heap), i + dd = 5 → k = k0 + i → (∀ j, j < k0 → wn j = nw (m / 2 ^ (j + 1))) →
          Hold w.heap hy [slR qp k qc 1 (fun i => .slice (wp i) (wn i) (wn i)), wdsR k wp wn, slR gp m gc 11 (pgF fun _ => PG6), blkR cb 3 (f3 (.int .u64 a) (.int .i64 b) (.int .i64 d))] →
          L25 [.int .i64 reg, .int .i64 by', .int .i64 wn0, .int .i64 hn0, .pointer (some ⟨cb, 0, none⟩), .slice gp m gc, .slice qp k qc, .int .i64 (i : Int)] hy := by
        intro dd
        induction dd with
        | zero =>
          intro i k wp wn qp qc hy hi hk hw I
          refine hL25 _ _ _ _ _ _ _ _ _ _ _ _ _ fun J26 hJ26 => ?_
          have stop : J26 false hy := hJ26 _ _ (iF rfl (m5 k wp wn qp qc hy (by omega) (fun d0 d8 e j hj => hw j (by have := hkd d0 d8; omega)) I))
          by_cases hlt : (i : Int) < wn0
          · exact qT (decide_eq_true hlt) (by rw [decide_eq_false (by omega)]; exact stop)
          · exact qF' (decide_eq_false hlt) stop
        | succ dd ih =>
          intro i k wp wn qp qc hy hi hk hw I
          refine hL25 _ _ _ _ _ _ _ _ _ _ _ _ _ fun J26 hJ26 => ?_
          by_cases hlt : (i : Int) < wn0
          case neg => exact qF' (decide_eq_false hlt) (hJ26 _ _ (iF rfl (m5 k wp wn qp qc hy (by omega) (fun d0 d8 e j hj => hw j (by have := hkd d0 d8; omega)) I)))
          refine qT (decide_eq_true hlt) (hJ26 _ _ (iT (decide_eq_true (by omega)) ?_))
          obtain ⟨os, q1, q2⟩ := sl_app1 (zs := [.slice none 0 0]) (v := .slice none 0 0) (b := 24) (e := T.T_sl_uint64) (T := T.T_sl_uint64) (I.at 0) rfl rfl (by omega)
          refine ⟨os, _, q1, fun p' c' h29 hres => ?_⟩
          have I2 := I.step 0 (R := slR qp k qc 1 (fun i => .slice (wp i) (wn i) (wn i))) (R' := slR p' (k + 1) c' 1 (fun i => .slice (fset wp k none i) (fset wn k 0 i) (fset wn k 0 i))) ((q2 p' c' h29 hres).conv (fun P => sl_congr P fun j hj => by
            by_cases e : j = k
            · rw [if_pos e, e, fset_same, fset_same]
            · rw [if_neg e, fset_ne _ _ e, fset_ne _ _ e]) fun _ e => e)
          have I2 : Hold w.heap h29 [slR p' (k + 1) c' 1 (fun i => .slice (fset wp k none i) (fset wn k 0 i) (fset wn k 0 i)), wdsR k wp wn, slR gp m gc 11 (pgF fun _ => PG6), blkR cb 3 (f3 (.int .u64 a) (.int .i64 b) (.int .i64 d))] := I2
          have I3 := (I2.swap.new (R := slR none 0 0 1 fun _ => .int .u64 0) ⟨Upd.refl _ _, sl_nil _ _ _, fun b e => absurd e (sl_nil_fp b)⟩)
          have I4 := (wds_more I3).swap
          rw [wr1 i (by omega)]
          exact ih (i + 1) (k + 1) _ _ p' c' h29 (by omega) (by omega) (fun j hj => by rw [fset_ne _ _ (by omega)]; exact hw j hj) I4
      exact more 5 0 k0 wp0 wn0' qp0 qc0 hy0 (by omega) (by omega) hw0 I0'
    -- the pairs
    have loop : ∀ (dd k : Nat) (wp : Nat → Option Addr) (wn : Nat → Nat) (qp : Option Addr) (qc : Nat) (hy : Heap), k + dd = 9 → (k : Int) ≤ d ∨ k = 0 → (∀ j, j < k → wn j = nw (m / 2 ^ (j + 1))) →
        Hold w.heap hy [slR qp k qc 1 (fun i => .slice (wp i) (wn i) (wn i)), wdsR k wp wn, slR gp m gc 11 (pgF fun _ => PG6), blkR cb 3 (f3 (.int .u64 a) (.int .i64 b) (.int .i64 d))] →
        L29 [.int .i64 reg, .int .i64 by', .int .i64 wn0, .int .i64 hn0, .pointer (some ⟨cb, 0, none⟩), .slice gp m gc, .slice qp k qc, .int .i64 (k : Int)] hy := by
      intro dd
      induction dd with
      | zero =>
        intro k wp wn qp qc hy hk hkd hw I
        obtain ⟨c0, c1, c2⟩ := f3_cells (I.at 3)
        refine hL29 _ _ _ _ _ _ _ _ _ _ _ _ _ ⟨_, c2, fun J30 hJ30 => ?_⟩
        have stop : J30 false hy := hJ30 _ _ (iF rfl (m4 k wp wn qp qc hy (by omega) (fun d0 d8 => by omega) hw I))
        by_cases hlt : (k : Int) < d
        · exact qT (decide_eq_true hlt) (by rw [decide_eq_false (by omega)]; exact stop)
        · exact qF' (decide_eq_false hlt) stop
      | succ dd ih =>
        intro k wp wn qp qc hy hk hkd hw I
        obtain ⟨c0, c1, c2⟩ := f3_cells (I.at 3)
        refine hL29 _ _ _ _ _ _ _ _ _ _ _ _ _ ⟨_, c2, fun J30 hJ30 => ?_⟩
        by_cases hlt : (k : Int) < d
        case neg => exact qF' (decide_eq_false hlt) (hJ30 _ _ (iF rfl (m4 k wp wn qp qc hy (by omega) (fun d0 d8 => by omega) hw I)))
        refine qT (decide_eq_true hlt) (hJ30 _ _ (iT (decide_eq_true (by omega)) ?_))
        rw [wr1 k (by omega), nw_wrap2 hm (by omega)]
        have hnw : nw (m / 2 ^ (k + 1)) ≤ 32 := by
          have := Nat.div_le_self m (2 ^ (k + 1))
          unfold nw; omega
        generalize hwk : nw (m / 2 ^ (k + 1)) = wk at hnw
        refine ⟨by omega, by decide, by omega, Int.le_refl _, by omega, ?_⟩
        rw [Int.toNat_natCast]
        have N1 := sl_make hy [.int .u64 0] T.T_uint64 wk wk (Nat.le_refl _)
        have N1' : New hy (hy.push (.cells (List.toArray (zrow [.int .u64 0] wk)) T.T_uint64)) (slR (some ⟨hy.size, 0, none⟩) wk wk 1 fun _ => .int .u64 0) :=
          N1.conv (fun A => sl_congr A fun i hi => by
            show ([.int .u64 0] : List Value).getD (i % 1) undef = _
            rw [Nat.mod_one]; rfl) fun _ e => e
        clear N1
        generalize hy.push (.cells (List.toArray (zrow [.int .u64 0] wk)) T.T_uint64) = h11 at N1' ⊢
        obtain ⟨wb, ewb⟩ : ∃ wb, wb = hy.size := ⟨_, rfl⟩
        rw [← ewb] at N1' ⊢
        have I1 := I.new N1'
        obtain ⟨os, q1, q2⟩ := sl_app1 (zs := [.slice none 0 0]) (v := .slice (some ⟨wb, 0, none⟩) wk wk) (b := 24) (e := T.T_sl_uint64) (T := T.T_sl_uint64) (I1.at 1) rfl rfl (by omega)
        refine ⟨os, _, q1, fun p' c' h29 hres => ?_⟩
        have I2 := I1.step 1 (R := slR qp k qc 1 (fun i => .slice (wp i) (wn i) (wn i))) (R' := slR p' (k + 1) c' 1 (fun i => .slice (fset wp k (some ⟨wb, 0, none⟩) i) (fset wn k wk i) (fset wn k wk i))) ((q2 p' c' h29 hres).conv (fun P => sl_congr P fun j hj => by
          by_cases e : j = k
          · rw [if_pos e, e, fset_same, fset_same]
          · rw [if_neg e, fset_ne _ _ e, fset_ne _ _ e]) fun _ e => e)
        have I2 : Hold w.heap h29 [slR (some ⟨wb, 0, none⟩) wk wk 1 (fun _ => .int .u64 0), slR p' (k + 1) c' 1 (fun i => .slice (fset wp k (some ⟨wb, 0, none⟩) i) (fset wn k wk i) (fset wn k wk i)), wdsR k wp wn, slR gp m gc 11 (pgF fun _ => PG6), blkR cb 3 (f3 (.int .u64 a) (.int .i64 b) (.int .i64 d))] := I2
        have I3 : Hold w.heap h29 [slR (some ⟨wb, 0, none⟩) wk wk 1 (fun _ => .int .u64 0), wdsR k wp wn, slR p' (k + 1) c' 1 (fun i => .slice (fset wp k (some ⟨wb, 0, none⟩) i) (fset wn k wk i) (fset wn k wk i)), slR gp m gc 11 (pgF fun _ => PG6), blkR cb 3 (f3 (.int .u64 a) (.int .i64 b) (.int .i64 d))] := I2.perm ((List.Perm.swap _ _ _).cons _)
        have I4 := (wds_more I3).swap
        refine ih (k + 1) _ _ p' c' h29 (by omega) (.inl (by omega)) (fun j hj => ?_) I4
        by_cases e : j = k
        · rw [e, fset_same, hwk]
        · rw [fset_ne _ _ e]; exact hw j (by omega)
    have I' : Hold w.heap hx [slR none 0 0 1 (fun i => .slice ((fun _ => none : Nat → Option Addr) i) ((fun _ => 0 : Nat → Nat) i) ((fun _ => 0 : Nat → Nat) i)), wdsR 0 (fun _ => none) (fun _ => 0), slR gp m gc 11 (pgF fun _ => PG6), blkR cb 3 (f3 (.int .u64 a) (.int .i64 b) (.int .i64 d))] :=
      (I.new (R := wdsR 0 (fun _ => none) (fun _ => 0)) ⟨Upd.refl _ _, ⟨fun i hi => absurd hi (Nat.not_lt_zero _), fun i hi => absurd hi (Nat.not_lt_zero _)⟩, fun b ⟨i, hi, _⟩ => absurd hi (Nat.not_lt_zero _)⟩).new ⟨Upd.refl _ _, sl_nil _ _ _, fun b e => absurd e (sl_nil_fp b)⟩
    exact loop 9 0 _ _ none 0 hx (by omega) (.inr rfl) (fun j hj => absurd hj (Nat.not_lt_zero _)) I'
  -- the pages
  have loop : ∀ (dd m : Nat) (gp : Option Addr) (gc : Nat) (hx : Heap), m + dd = 2000 → Hold w.heap hx [slR gp m gc 11 (pgF fun _ => PG6), blkR cb 3 (f3 (.int .u64 a) (.int .i64 b) (.int .i64 d))] →
      L34 [.int .i64 reg, .int .i64 by', .int .i64 pn, .int .i64 wn0, .int .i64 hn0, .pointer (some ⟨cb, 0, none⟩), .slice gp m gc, .int .i64 (m : Int)] hx := by
    intro dd
    induction dd with
    | zero =>
      intro m gp gc hx hm I
      refine hL34 _ _ _ _ _ _ _ _ _ _ _ fun J35 hJ35 => ?_
      have stop : J35 false hx := hJ35 _ _ (iF rfl (pages m gp gc hx (by omega) I))
      by_cases hlt : (m : Int) < pn
      · exact qT (decide_eq_true hlt) (by rw [decide_eq_false (by omega)]; exact stop)
      · exact qF' (decide_eq_false hlt) stop
    | succ dd ih =>
      intro m gp gc hx hm I
      refine hL34 _ _ _ _ _ _ _ _ _ _ _ fun J35 hJ35 => ?_
      by_cases hlt : (m : Int) < pn
      case neg => exact qF' (decide_eq_false hlt) (hJ35 _ _ (iF rfl (pages m gp gc hx (by omega) I)))
      refine qT (decide_eq_true hlt) (hJ35 _ _ (iT (decide_eq_true (by omega)) ?_))
      have N1 := pg_zero hx
      show Wr (hx.push zpO) ⟨hx.size, 0, none⟩ ∧ _
      have B1 : Blk (hx.push zpO) hx.size 11 fun j => pcl j ((fun _ => 0 : Nat → Int) j) := N1.p
      have S2 := Stp.set B1 0 (.int .i64 2) (g := fun j => pcl j (if j = 0 then 2 else 0)) fun j hj => by
        by_cases e : j = 0
        · rw [if_pos e, if_pos e, e]; rfl
        · rw [if_neg e, if_neg e]
      refine ⟨B1.wr (by omega), ?_⟩
      generalize hx.push zpO = h2 at N1 B1 S2 ⊢
      obtain ⟨gb, egb⟩ : ∃ gb, gb = hx.size := ⟨_, rfl⟩
      rw [← egb] at N1 B1 S2 ⊢
      have A2 := N1.stp S2
      generalize setC h2 ⟨gb, 0, none⟩ (.int .i64 2) = h3 at A2 ⊢
      have B2 : Blk h3 gb 11 fun j => pcl j (if j = 0 then 2 else 0) := A2.p
      have S3 := Stp.set B2 4 (.int .i64 (-1)) (g := fun j => pcl j (if j = 0 then 2 else if j = 4 then -1 else 0)) fun j hj => by
        by_cases e : j = 4
        · rw [if_pos e, e]; rfl
        · rw [if_neg e]
          by_cases e0 : j = 0
          · rw [if_pos e0, if_pos e0]
          · rw [if_neg e0, if_neg e0, if_neg e]
      have A3 := A2.stp S3
      rw [show (⟨gb, 0, none⟩ : Addr).add 4 = ⟨gb, 4, none⟩ by rw [add_mk], show (⟨gb, 0, none⟩ : Addr).add 5 = ⟨gb, 5, none⟩ by rw [add_mk], show (⟨gb, 0, none⟩ : Addr).add 6 = ⟨gb, 6, none⟩ by rw [add_mk]]
      refine ⟨B2.wr (by omega), ?_⟩
      generalize setC h3 ⟨gb, 4, none⟩ (.int .i64 (-1)) = h4 at A3 ⊢
      have B3 : Blk h4 gb 11 fun j => pcl j (if j = 0 then 2 else if j = 4 then -1 else 0) := A3.p
      have S4 := Stp.set B3 5 (.int .i64 (-1)) (g := fun j => pcl j (if j = 0 then 2 else if j = 4 then -1 else if j = 5 then -1 else 0)) fun j hj => by
        by_cases e : j = 5
        · rw [if_pos e, e]; rfl
        · rw [if_neg e]
          by_cases e0 : j = 0
          · rw [if_pos e0, if_pos e0]
          · rw [if_neg e0, if_neg e0]
            by_cases e4 : j = 4
            · rw [if_pos e4, if_pos e4]
            · rw [if_neg e4, if_neg e4, if_neg e]
      have A4 := A3.stp S4
      refine ⟨B3.wr (by omega), ?_⟩
      generalize setC h4 ⟨gb, 5, none⟩ (.int .i64 (-1)) = h5 at A4 ⊢
      have B4 : Blk h5 gb 11 fun j => pcl j (if j = 0 then 2 else if j = 4 then -1 else if j = 5 then -1 else 0) := A4.p
      have S5 := Stp.set B4 6 (.int .i64 (-1)) (g := fun j => pcl j (PG6 j)) fun j hj => by
        have : j = 0 ∨ j = 1 ∨ j = 2 ∨ j = 3 ∨ j = 4 ∨ j = 5 ∨ j = 6 ∨ j = 7 ∨ j = 8 ∨ j = 9 ∨ j = 10 := by omega
        rcases this with rfl | rfl | rfl | rfl | rfl | rfl | rfl | rfl | rfl | rfl | rfl <;> rfl
      have A5 := A4.stp S5
      refine ⟨B4.wr (by omega), ?_⟩
      generalize setC h5 ⟨gb, 6, none⟩ (.int .i64 (-1)) = h6 at A5 ⊢
      have A5 : New hx h6 (pgR gb PG6) := A5
      have I6 := I.new A5
      refine pgR_ld A5.p ?_
      obtain ⟨os, q1, q2⟩ := sl_appB (zs := [.int .i64 0, .int .i64 0, .int .i64 0, .int .i64 0, .int .i64 0, .int .i64 0, .int .i64 0, .int .u64 0, .int .u64 0, .int .u64 0, .int .u64 0]) (xs := pgL PG6) (b := 88) (e := T.T_api_Page) (T := T.T_api_Page) (I6.at 1) (by decide) rfl (pgL_one PG6) (by omega)
      refine ⟨os, _, q1, fun p' c' h29 hres => ?_⟩
      have I7 := I6.step 1 (R := slR gp m gc 11 (pgF fun _ => PG6)) (R' := slR p' (m + 1) c' 11 (pgF fun _ => PG6)) ((q2 p' c' h29 hres).conv (fun P => sl_congr P fun j hj => by
        have hj : j < (m + 1) * 11 := hj
        show (if j < m * 11 then pgF (fun _ => PG6) j else (pgL PG6).getD (j - m * 11) undef) = _
        by_cases e : j < m * 11
        · rw [if_pos e]
        · rw [if_neg e, pgL_getD _ (by omega)]
          unfold pgF
          rw [show j % 11 = j - m * 11 by omega]) fun _ e => e)
      rw [wr1 m (by omega)]
      exact ih (m + 1) p' c' h29 (by omega) I7.drop
  have I2 := I1.new (R := slR none 0 0 11 (pgF fun _ => PG6)) ⟨Upd.refl _ _, sl_nil _ _ _, fun b e => absurd e (sl_nil_fp b)⟩
  exact loop 2000 0 none 0 h1 (by omega) I2
end Go.Proofs.Ytippbfnhgooepaa
